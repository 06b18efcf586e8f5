/- The string functions: contracts. -/
import Derived.Test.YtlacgdnidilndaaGreatDoorShelf
import Derived.Test.YtlacgdnidilndaaGreatDoorSmall
import Derived.Test.YtlacgdnidilndaaGreatDoorUni
import Derived.Deep.RegionHeld3
import Derived.Deep.AppendLies
import Derived.StillTailTactics
import Derived.IntWalk
import Derived.Laws.BitsAllLaws
import Derived.Laws.BitsLemmas
namespace Go.Proofs.YtlacgdnidilndaaGreatDoor
open Go.RowKit
open Go.Proofs (Tryz.prog)

theorem ret_two {k j : IntKind} {a b c d : Int} (h : a = c) (h' : b = d) : Ending.returned (.tuple #[.int k a, .int j b]) = .returned (.tuple #[.int k c, .int j d]) := by rw [h, h']
theorem bcell {W w1 : World} (hb : Below W.heap.size W w1) : (∀ b o, b < W.heap.size → w1.cell? ⟨b, o, none⟩ = W.cell? ⟨b, o, none⟩) ∧ (∀ b o, b < W.heap.size → w1.frozen? ⟨b, o, none⟩ = W.frozen? ⟨b, o, none⟩) :=
  ⟨fun b o h => hb.cell (p := ⟨b, o, none⟩) h, fun b o h => hb.frozen (p := ⟨b, o, none⟩) h⟩

set_option maxHeartbeats 400000 in
theorem len_any (s : ByteArray) (w : World) (hs : s.size ≤ 100000000) :
    Calls Tryz.prog 59 #[.string s] w fun e w' => e = .returned (.int .i64 ((s.size / 2 : Nat) : Int)) ∧ w = w' := by
  go_enter Tryz.func59, Tryz.ntmps59
  go_wp2
  go_ret
  exact ⟨rfl, rfl⟩

theorem or16 (a b : UInt8) : bits BinOp.or IntKind.u16 (IntKind.u16.wrap (IntKind.u16.wrap (a.toNat : Int) * 256)) (IntKind.u16.wrap (b.toNat : Int)) = ((a.toNat * 256 + b.toNat : Nat) : Int) := by
  have ha := a.toNat_lt
  have hb := b.toNat_lt
  have e1 : IntKind.u16.wrap (a.toNat : Int) = ((a.toNat : Nat) : Int) := by simp [IntKind.wrap_u16]; omega
  have e2 : IntKind.u16.wrap (b.toNat : Int) = ((b.toNat : Nat) : Int) := by simp [IntKind.wrap_u16]; omega
  rw [e1, e2]
  have e3 : IntKind.u16.wrap ((a.toNat : Int) * 256) = ((a.toNat * 256 : Nat) : Int) := by simp [IntKind.wrap_u16]; omega
  rw [e3, u16_or_nat _ _ (by omega) (by omega)]
  congr 1
  have := Nat.shiftLeft_add_eq_or_of_lt (i := 8) (b := b.toNat) (by omega) a.toNat
  rw [Nat.shiftLeft_eq] at this
  exact this.symm

set_option maxHeartbeats 400000 in
theorem at_str (s : ByteArray) (i : Nat) (w : World) (hs : s.size ≤ 100000000) (hi : 2 * i + 1 < s.size) :
    Calls Tryz.prog 58 #[.string s, .int .i64 i] w fun e w' => e = .returned (.int .u16 ((s[2 * i].toNat * 256 + s[2 * i + 1].toNat : Nat) : Int)) ∧ ∃ n, w' = w.drewN n := by
  have f1 : IntKind.i64.wrap (2 * (i : Int)) = 2 * (i : Int) := IntWalk.i64_in _ (by omega)
  have f2 : (0 : Int) ≤ 2 * (i : Int) := by omega
  have f3 : (2 * (i : Int)).toNat = 2 * i := by omega
  have f4 : IntKind.i64.wrap (2 * (i : Int) + 1) = 2 * (i : Int) + 1 := IntWalk.i64_in _ (by omega)
  have f5 : (0 : Int) ≤ 2 * (i : Int) + 1 := by omega
  have f6 : (2 * (i : Int) + 1).toNat = 2 * i + 1 := by omega
  have g1 : 2 * (i : Int) < (s.size : Int) := by omega
  have g2 : 2 * (i : Int) + 1 < (s.size : Int) := by omega
  go_enter Tryz.func58, Tryz.ntmps58
  go_wp2
  go_quiet (fail)
  go_wp2
  go_ret
  exact ⟨ret_int (or16 _ _), _, rfl⟩

theorem get_at (s : ByteArray) (i : Nat) (h : i < s.size) : s.get! i = s[i] := by
  show s.data[i]! = s.data[i]
  exact getElem!_pos s.data i h
theorem sur_bits (x y : Int) (hx0 : 0 ≤ x) (hx : x < 256) (hy0 : 0 ≤ y) (hy : y < 256) :
    bits BinOp.or IntKind.i32 (bits BinOp.or IntKind.i32 53248 (IntKind.i32.wrap (IntKind.i32.wrap (bits BinOp.and IntKind.u8 x 63) * 64))) (IntKind.i32.wrap (bits BinOp.and IntKind.u8 y 63)) = 53248 + x % 64 * 64 + y % 64 := by
  rw [u8_and63 x hx0 hx, u8_and63 y hy0 hy]
  have e1 : IntKind.i32.wrap (x % 64) = x % 64 := by rw [IntKind.wrap_i32]; omega
  have e2 : IntKind.i32.wrap (y % 64) = y % 64 := by rw [IntKind.wrap_i32]; omega
  have e3 : IntKind.i32.wrap (x % 64 * 64) = x % 64 * 64 := by rw [IntKind.wrap_i32]; omega
  rw [e1, e2, e3, i32_or12 53248 _ (by omega) (by omega) (by omega) (by omega) (by omega), i32_or6 _ _ (by omega) (by omega) (by omega) (by omega) (by omega)]

set_option maxHeartbeats 400000 in
theorem next_sur (s : ByteArray) (w : World) (hs : s.size ≤ 100000000) (hT : Lib.Utf8Tabs 2 3 w) 
   (h0 : (Lib.decodeGo s).1 = 65533) (h1 : (Lib.decodeGo s).2 = 1) (h2 : 2 < s.size) (h3 : s[0].toNat = 237) (h4 : (160 : Int) ≤ s[1].toNat) (h5 : (s[1].toNat : Int) ≤ 191) (h6 : (128 : Int) ≤ s[2].toNat) (h7 : (s[2].toNat : Int) ≤ 191) :
    Calls Tryz.prog 60 #[.string s] w fun e w' => e = .returned (.tuple #[.int .i32 (53248 + (s[1].toNat : Int) % 64 * 64 + (s[2].toNat : Int) % 64), .int .i64 3]) ∧ Below w.heap.size w w' := by
  go_enter Tryz.func60, Tryz.ntmps60
  go_wp2_with (go_at_call 36; refine (Tryz.utf8_DecodeRuneInString _ _ hT).mono ?_; rintro e w' ⟨rfl, hb⟩)
  go_quiet (fail)
  go_wp2
  go_ret2
  exact ⟨rfl, ⟨hb.os, hb.tape, hb.output, hb.size, hb.block⟩⟩

set_option maxHeartbeats 1000000 in
theorem next_dec (s : ByteArray) (w : World) (hs : s.size ≤ 100000000) (hT : Lib.Utf8Tabs 2 3 w) (h2 : 2 < s.size)
    (hC : ¬ ((Lib.decodeGo s).1 = 65533 ∧ (Lib.decodeGo s).2 = 1 ∧ s[0].toNat = 237 ∧ (160 : Int) ≤ s[1].toNat ∧ (s[1].toNat : Int) ≤ 191 ∧ (128 : Int) ≤ s[2].toNat ∧ (s[2].toNat : Int) ≤ 191)) :
    Calls Tryz.prog 60 #[.string s] w fun e w' => e = .returned (.tuple #[.int .i32 (Lib.decodeGo s).1, .int .i64 (Lib.decodeGo s).2]) ∧ Below w.heap.size w w' := by
  have HC := Lib.hid hC
  clear hC
  go_enter Tryz.func60, Tryz.ntmps60
  go_wp2_with (go_at_call 36; refine (Tryz.utf8_DecodeRuneInString _ _ hT).mono ?_; rintro e w' ⟨rfl, hb⟩)
  all_goals first
    | (exfalso; exact HC.out ⟨by omega, by omega, by omega, by omega, by omega, by omega, by omega⟩)
    | (go_ret2; exact ⟨ret_two (by omega) (by omega), hb⟩)

set_option maxHeartbeats 1000000 in
theorem next_short (s : ByteArray) (w : World) (hs : s.size ≤ 100000000) (hT : Lib.Utf8Tabs 2 3 w) (h2 : s.size ≤ 2) :
    Calls Tryz.prog 60 #[.string s] w fun e w' => e = .returned (.tuple #[.int .i32 (Lib.decodeGo s).1, .int .i64 (Lib.decodeGo s).2]) ∧ Below w.heap.size w w' := by
  go_enter Tryz.func60, Tryz.ntmps60
  go_wp2_with (go_at_call 36; refine (Tryz.utf8_DecodeRuneInString _ _ hT).mono ?_; rintro e w' ⟨rfl, hb⟩)
  all_goals (go_ret2; exact ⟨ret_two (by omega) (by omega), hb⟩)

theorem next_any (s : ByteArray) (w : World) (hs : s.size ≤ 100000000) (hT : Lib.Utf8Tabs 2 3 w) :
    Calls Tryz.prog 60 #[.string s] w fun e w' => e = .returned (.tuple #[.int .i32 (nextR s).1, .int .i64 (nextR s).2]) ∧ Below w.heap.size w w' := by
  by_cases h2 : 2 < s.size
  · have g0 := get_at s 0 (by omega)
    have g1 := get_at s 1 (by omega)
    have g2 := get_at s 2 (by omega)
    by_cases hC : (Lib.decodeGo s).1 = 65533 ∧ (Lib.decodeGo s).2 = 1 ∧ s[0].toNat = 237 ∧ (160 : Int) ≤ s[1].toNat ∧ (s[1].toNat : Int) ≤ 191 ∧ (128 : Int) ≤ s[2].toNat ∧ (s[2].toNat : Int) ≤ 191
    · obtain ⟨c0, c1, c2, c3, c4, c5, c6⟩ := hC
      have e : nextR s = (53248 + s[1].toNat % 64 * 64 + s[2].toNat % 64, 3) := by
        unfold nextR
        rw [g0, g1, g2, if_pos ⟨c0, c1, h2, c2, by omega, by omega, by omega, by omega⟩]
      rw [e]
      refine (next_sur s w hs hT c0 c1 h2 c2 c3 c4 c5 c6).mono fun e w' ⟨he, hb⟩ => ⟨?_, hb⟩
      rw [he]
      exact ret_two (by omega) (by omega)
    · have e : nextR s = Lib.decodeGo s := by
        unfold nextR
        rw [g0, g1, g2, if_neg (fun h => hC ⟨h.1, h.2.1, h.2.2.2.1, by omega, by omega, by omega, by omega⟩)]
      rw [e]
      exact next_dec s w hs hT h2 hC
  · have e : nextR s = Lib.decodeGo s := by
      unfold nextR
      rw [if_neg (fun h => h2 h.2.2.1)]
    rw [e]
    exact next_short s w hs hT (by omega)
end Go.Proofs.YtlacgdnidilndaaGreatDoor
