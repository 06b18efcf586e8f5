/- The answer's string functions: contracts of ecmacoreref1.Pack, Unpack, Units, P. -/
import Derived.Test.YtlacgdnidilndaaGreatDoorPack
namespace Go.Proofs.YtlacgdnidilndaaGreatDoor
open Go.RowKit
open Go.Proofs (Tryz.prog)

set_option maxHeartbeats 2000000 in
set_option maxRecDepth 100000 in
theorem rpack_any (g cap : Nat) (l : List Nat) (w : World) (hl : l.length ≤ 2097152) (hu : ∀ u ∈ l, u < 65536) (hc : ∀ (j u : Nat), l[j]? = some u → w.cell? ⟨g, j, none⟩ = some (.int .u16 (u : Int))) (hg : g < w.heap.size) :
    Calls Tryz.prog 22 #[.slice (some ⟨g, 0, none⟩) l.length cap] w fun e w' => e = .returned (.string ⟨(pack l).toArray⟩) ∧ Below w.heap.size w w' := by
  obtain ⟨i0, hi, hz0, hz1, hz2⟩ := info_parts info5
  have HC := Lib.hid hc
  have HU := Lib.hid hu
  clear hc hu
  go_enter Tryz.func22, Tryz.ntmps22
  go_wp2
  go_loopw [3, 4] (fun v i wr => ∃ k : Nat, k ≤ l.length ∧ i = .int .i64 k ∧ wr.ownsRow w.heap.size 5 1 v (2 * k) (u8s (pack (l.take k))) ∧ Below w.heap.size w wr)
    (fun _ i _ => l.length - (intOf i).toNat)
  case atStart => exact ⟨0, Nat.zero_le _, rfl, World.ownsRow_nil _ _ _ _, Below.refl _ _⟩
  case round =>
    obtain ⟨k, hk, rfl, hown, hB⟩ := hrel
    by_cases hlt : k < l.length
    · obtain ⟨u, hu⟩ : ∃ u, l[k]? = some u := ⟨l[k], List.getElem?_eq_getElem hlt⟩
      have hcell : wr.cell? ⟨g, k, none⟩ = some (.int .u16 (u : Int)) := (hB.cell (p := ⟨g, k, none⟩) hg).trans (HC.out k u hu)
      have hu2 : (u : Int) < 65536 := by have := HU.out u (List.mem_of_getElem? hu); omega
      have Hu := Lib.hid hu
      clear hu
      have hk0 : (0 : Int) ≤ (k : Int) := Int.natCast_nonneg _
      have hk1 : (k : Int) < (l.length : Int) := by omega
      have hgr : ∀ kk, u3.ownBlock = some kk → w.heap.size ≤ kk := fun kk hkk => (hown.lt kk hkk).1
      have Hgr := Lib.hid hgr
      have hzw : w.heap.size ≤ wr.heap.size := hB.size
      have hne : some g ≠ u3.ownBlock := fun h => by have := hgr g h.symm; omega
      have Hne := Lib.hid hne
      clear hne hgr
      have e1 : IntKind.u16.wrap ((u : Int) / 256) = (u : Int) / 256 := by rw [IntKind.wrap_u16]; omega
      have e2 : IntKind.u8.wrap ((u : Int) / 256) = (u : Int) / 256 := by rw [IntKind.wrap_u8]; omega
      have e3 : (u : Int).tmod 256 = (u : Int) % 256 := Int.tmod_eq_emod_of_nonneg (by omega)
      have e4 : IntKind.u8.wrap ((u : Int) % 256) = (u : Int) % 256 := by rw [IntKind.wrap_u8]; omega
      go_wp2_with fail
      go_region_held3 (fun w' => w'.cell? ⟨g, k, none⟩ = some (.int .u16 (u : Int)))
        (first | go_keep | (rw [hgrow.cell_far _ (by simp; omega) Hne.out]; assumption))
        ((refine step_append_lies _ (by rfl) _ _ _ (by rfl) w.heap.size 5 i0 (.int .u8 0) 1 1 Tryz.underlying98 hi hz0 hz1 hz2 rfl (by omega) u3 (2 * k) (u8s (pack (l.take k))) (by rfl) ((hown.alloc _).drew) ⟨wr.heap.size, 0, none⟩ 2 2 [.int .u8 ((u : Int) / 256), .int .u8 ((u : Int) % 256)] (by rfl) (by rfl) (World.news_of_block (cs := #[.int .u8 ((u : Int) / 256), .int .u8 ((u : Int) % 256)]) (t := 5) (fr := (0, 0)) (heap_alloc_new wr _)) (by simp [Value.oneCell']) (by omega) (by unfold maxLen; omega) (by omega) (by simp; omega) (wr.heap.size + 1) (by simp) ?_; intro gg cap w1 hown1 hgrow hat hlt))
      clear e1 e2 e3 e4
      go_wp2
      go_roundw
      case rel =>
        refine ⟨k + 1, by omega, by go_num, ?_, ((hB.alloc hB.size _).drew.grown hgrow (by simp; omega) Hgr.out)⟩
        rw [pack_take _ _ _ Hu.out, u8s_append, u8s_pair _ (by omega)]
        exact hown1
      case measure => simp [intOf]; omega
    · have hk2 : k = l.length := by omega
      have hcv := row_string (L := pack l) (by rw [hk2, List.take_length, ← pack_length] at hown; exact hown) 98 9 Tryz.underlying98 Tryz.underlying9
      go_wp2
      go_ret
      exact ⟨rfl, hB⟩

set_option maxHeartbeats 2000000 in
set_option maxRecDepth 100000 in
theorem rpack_nil (w : World) : Calls Tryz.prog 22 #[.slice none 0 0] w fun e w' => e = .returned (.string ⟨#[]⟩) ∧ w = w' := by
  have hcv := row_string (wr := w) (B := 0) (L := []) (World.ownsRow_nil _ _ _ _) 98 9 Tryz.underlying98 Tryz.underlying9
  go_enter Tryz.func22, Tryz.ntmps22
  go_wp2
  go_loop [3, 4] (fun v i => v = .slice none 0 0 ∧ i = .int .i64 0) (fun _ _ => 0)
  case atStart => exact ⟨rfl, rfl⟩
  case round =>
    obtain ⟨rfl, rfl⟩ := hrel
    go_wp2
    go_ret
    exact ⟨rfl, rfl⟩

theorem unpack_take (L : List UInt8) (k : Nat) (h : 2 * k + 1 < L.length) : (unpack L).take (k + 1) = (unpack L).take k ++ [(L[2 * k]'(by omega)).toNat * 256 + (L[2 * k + 1]'h).toNat] := by
  rw [List.take_add_one, unpack_get L k h]; rfl

set_option maxHeartbeats 2000000 in
set_option maxRecDepth 100000 in
theorem runpack_any (p : ByteArray) (n : Nat) (w : World) (hn : p.size = 2 * n) (hs : p.size ≤ 4194304) :
    Calls Tryz.prog 23 #[.string p] w fun e w' => ∃ v, e = .returned v ∧ w'.ownsRow w.heap.size 61 1 v n (u16s (unpack p.data.toList)) ∧ Below w.heap.size w w' := by
  obtain ⟨i0, hi, hz0, hz1, hz2⟩ := info_parts info61
  have hpl : p.data.toList.length = 2 * n := by rw [← Lib.size_eq]; exact hn
  have HPL := Lib.hid hpl
  have HN := Lib.hid hn
  have hn' : 2 * n ≤ p.size := by omega
  have hn'' : p.size ≤ 2 * n := by omega
  clear hpl hn
  go_enter Tryz.func23, Tryz.ntmps23
  go_wp2
  go_loopw [3, 4] (fun v i wr => ∃ k : Nat, k ≤ n ∧ i = .int .i64 (2 * (k : Int)) ∧ wr.ownsRow w.heap.size 61 1 v k (u16s ((unpack p.data.toList).take k)) ∧ Below w.heap.size w wr)
    (fun _ i _ => 2 * n - (intOf i).toNat)
  case atStart => exact ⟨0, Nat.zero_le _, rfl, World.ownsRow_nil _ _ _ _, Below.refl _ _⟩
  case round =>
    obtain ⟨k, hk, rfl, hown, hB⟩ := hrel
    by_cases hlt : k < n
    · have q1 : 2 * k < p.size := by omega
      have q2 : 2 * k + 1 < p.size := by omega
      have hgr : ∀ kk, u3.ownBlock = some kk → w.heap.size ≤ kk := fun kk hkk => (hown.lt kk hkk).1
      have Hgr := Lib.hid hgr
      have hzw : w.heap.size ≤ wr.heap.size := hB.size
      clear hgr
      obtain ⟨a, ha⟩ : ∃ a : UInt8, p[2 * k]'q1 = a := ⟨_, rfl⟩
      obtain ⟨b, hb⟩ : ∃ b : UInt8, p[2 * k + 1]'q2 = b := ⟨_, rfl⟩
      have ha' := a.toNat_lt
      have hb' := b.toNat_lt
      have f2 : (0 : Int) ≤ 2 * (k : Int) := by omega
      have f5 : (0 : Int) ≤ 2 * (k : Int) + 1 := by omega
      have g1 : 2 * (k : Int) < (p.size : Int) := by omega
      have g2 : 2 * (k : Int) + 1 < (p.size : Int) := by omega
      have c3 : k + 1 ≤ maxLen := by unfold maxLen; omega
      have c4 : (k + 1) * 2 ≤ 140737488355328 := by omega
      have e1 : IntKind.u16.wrap (a.toNat : Int) = (a.toNat : Int) := by rw [IntKind.wrap_u16]; omega
      have e2 : IntKind.u16.wrap (b.toNat : Int) = (b.toNat : Int) := by rw [IntKind.wrap_u16]; omega
      have e3 : IntKind.u16.wrap ((a.toNat : Int) * 256) = (a.toNat : Int) * 256 := by rw [IntKind.wrap_u16]; omega
      have e4 : IntKind.u16.wrap ((a.toNat : Int) * 256 + (b.toNat : Int)) = (a.toNat : Int) * 256 + (b.toNat : Int) := by rw [IntKind.wrap_u16]; omega
      have f3 : (2 * (k : Int)).toNat = 2 * k := by omega
      have f4 : IntKind.i64.wrap (2 * (k : Int) + 1) = 2 * (k : Int) + 1 := IntWalk.i64_in _ (by omega)
      have f6 : (2 * (k : Int) + 1).toNat = 2 * k + 1 := by omega
      go_wp2_with fail
      go_region_held3 (fun _ => True) (trivial)
        ((refine step_append_lies _ (by rfl) _ _ _ (by rfl) w.heap.size 61 i0 (.int .u16 0) 1 2 Tryz.underlying58 hi hz0 hz1 hz2 rfl (by decide) u3 k (u16s ((unpack p.data.toList).take k)) (by rfl) ((hown.alloc _).drew) ⟨wr.heap.size, 0, none⟩ 1 1 [.int .u16 ((a.toNat : Int) * 256 + (b.toNat : Int))] (by rfl) (by rfl) (World.news_of_block (cs := #[.int .u16 ((a.toNat : Int) * 256 + (b.toNat : Int))]) (t := 61) (fr := (0, 0)) (heap_alloc_new wr _)) (by simp [Value.oneCell']) (by decide) c3 c4 (by simp; omega) (wr.heap.size + 1) (by simp) ?_; intro gg cap w1 hown1 hgrow hat hlt))
      all_goals
        clear e1 e2 e3 e4 f3 f4 f6
        have HG := Lib.hid hown1
        go_wp2
        go_roundw
        case rel =>
          refine ⟨k + 1, by omega, by go_num, ?_, ((hB.alloc hB.size _).drew.grown hgrow (by simp; omega) Hgr.out)⟩
          have q1' : 2 * k + 1 < p.data.toList.length := by rw [HPL.out]; omega
          rw [unpack_take _ _ q1', u16s_append]
          have ea : p.data.toList[2 * k]'(by omega) = a := by rw [← ha]; rfl
          have eb : p.data.toList[2 * k + 1]'q1' = b := by rw [← hb]; rfl
          rw [ea, eb]
          have e : u16s [a.toNat * 256 + b.toNat] = [.int .u16 ((a.toNat : Int) * 256 + (b.toNat : Int))] := by simp [u16s]
          rw [e]
          exact HG.out
        case measure => simp [intOf]; omega
    · have hk2 : k = n := by omega
      have HK := Lib.hid hk2
      clear hk2
      go_wp2
      go_ret
      have ht : (unpack p.data.toList).take k = unpack p.data.toList := by
        rw [List.take_of_length_le]
        rw [unpack_length n _ HPL.out, HK.out]
        exact Nat.le_refl _
      rw [ht, HK.out] at hown
      exact ⟨_, rfl, hown, hB⟩
end Go.Proofs.YtlacgdnidilndaaGreatDoor
