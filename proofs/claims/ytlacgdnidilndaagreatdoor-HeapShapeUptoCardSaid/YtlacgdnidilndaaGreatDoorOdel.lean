/- A property goes: contracts of heap.Delete, objects.Delete, plain.Delete. -/
import Derived.Test.YtlacgdnidilndaaGreatDoorOwn
namespace Go.Proofs.YtlacgdnidilndaaGreatDoor
open Go.RowKit
open Go.Proofs (Tryz.prog)

set_option maxHeartbeats 1000000 in
set_option maxRecDepth 100000 in
theorem hdelete_any (hp r : Nat) (k : ByteArray) (kind : Int) (num : Nat) (str : ByteArray) (w : World) (R : World → Prop)
    (HO : Calls Tryz.prog 24 #[.pointer (some ⟨hp, 0, none⟩), .int .i32 r, .string k] w fun e w' => e = .returned (.tuple #[.agg #[.int .u8 kind, .int .i32 0, .float .f64 num, .string str, .int .i32 0, .int .i32 0, .int .u8 7], .bool true]) ∧ Below w.heap.size w w')
    (HD : ∀ W, Below w.heap.size w W → Calls Tryz.prog 76 #[.pointer (some ⟨hp, 0, none⟩), .int .i32 r, .string k] W fun e w' => e = .returned (.tuple #[]) ∧ R w') :
    Calls Tryz.prog 54 #[.pointer (some ⟨hp, 0, none⟩), .int .i32 r, .string k] w fun e w' => e = .returned (.bool true) ∧ R w' := by
  have HO := Lib.hid HO
  have HD := Lib.hid HD
  have b1 : bits BinOp.and IntKind.u8 7 4 = 4 := by kernel_rfl
  go_enter Tryz.func54, Tryz.ntmps54
  go_wp2_with (first
    | (go_at_call 24; refine HO.out.mono ?_; rintro e w1 ⟨rfl, hb⟩; have HB := Lib.hid hb; clear hb)
    | (go_at_call 76; refine (HD.out _ ?_).mono ?_; (repeat first | exact HB.out | (refine Below.setCell ?_ HB.out.size _) | (refine Below.alloc ?_ HB.out.size _)); rintro e w4 ⟨rfl, hr⟩; have HR := Lib.hid hr; clear hr))
  go_ret
  exact ⟨rfl, HR.out⟩

set_option maxHeartbeats 2000000 in
set_option maxRecDepth 100000 in
theorem odelete_any (oh hp r : Nat) (s k : ByteArray) (w : World) (R : World → Prop) (h0 : w.cell? ⟨oh, 0, none⟩ = some (.pointer (some ⟨hp, 0, none⟩))) (hr1 : r ≤ 100)
    (HH : ∀ W, Below w.heap.size w W → Calls Tryz.prog 17 #[.pointer (some ⟨hp, 0, none⟩), .int .i32 r] W fun e w' => e = .returned (.bool true) ∧ W = w')
    (HF : ∀ W, Below w.heap.size w W → Calls Tryz.prog 25 #[.string s] W fun e w' => e = .returned (.string k) ∧ Below W.heap.size W w')
    (HD : ∀ W, Below w.heap.size w W → Calls Tryz.prog 54 #[.pointer (some ⟨hp, 0, none⟩), .int .i32 r, .string k] W fun e w' => e = .returned (.bool true) ∧ R w' ∧ w'.cell? ⟨oh, 0, none⟩ = W.cell? ⟨oh, 0, none⟩) :
    Calls Tryz.prog 30 #[.pointer (some ⟨oh, 0, none⟩), .int .i64 r, .string s] w fun e w' => e = .returned .nilIface ∧ R w' := by
  have l0 := lt_of_cell h0
  have HH := Lib.hid HH
  have HF := Lib.hid HF
  have HD := Lib.hid HD
  have b0 : Below w.heap.size w w.drew := (Below.refl _ _).drew
  have B0 := Lib.hid b0
  clear b0
  go_enter Tryz.func30, Tryz.ntmps30
  go_wp2_with fail
  go_region_held3 (fun w' => w'.cell? ⟨oh, 0, none⟩ = some (.pointer (some ⟨hp, 0, none⟩)))
    (first | go_keep | exact (hb1.cell (p := ⟨oh, 0, none⟩) l0).trans h0 | exact hK.trans ((hb1.cell (p := ⟨oh, 0, none⟩) l0).trans h0))
    (first
      | (go_at_call 18; refine (ref_any _ _ (by omega) (by omega)).mono ?_; rintro e w' ⟨rfl, rfl⟩)
      | (go_at_call 17; refine (HH.out _ B0.out).mono ?_; rintro e w' ⟨rfl, rfl⟩)
      | (go_at_call 25; refine (HF.out _ B0.out).mono ?_; rintro e w1 ⟨rfl, hb1⟩)
      | (go_at_call 54; refine (HD.out _ (B0.out.trans hb1)).mono ?_; rintro e w2 ⟨rfl, hR, hK⟩; have HR := Lib.hid hR; clear hR))
  all_goals go_wp2
  all_goals go_ret
  all_goals exact ⟨rfl, HR.out⟩

set_option maxHeartbeats 1000000 in
set_option maxRecDepth 100000 in
theorem pdelete_any (oh r : Nat) (s : ByteArray) (w : World) (R : World → Prop)
    (HD : Calls Tryz.prog 30 #[.pointer (some ⟨oh, 0, none⟩), .int .i64 r, .string s] w fun e w' => e = .returned .nilIface ∧ R w') :
    Calls Tryz.prog 13 #[.pointer (some ⟨oh, 0, none⟩), .int .i64 r, .string s] w fun e w' => e = .returned (.int .i64 0) ∧ ∃ w1, R w1 ∧ Below w1.heap.size w1 w' := by
  have HD := Lib.hid HD
  go_enter Tryz.func13, Tryz.ntmps13
  go_wp2_with (first
    | (go_at_call 30; refine HD.out.mono ?_; rintro e w1 ⟨rfl, hr⟩; have HR := Lib.hid hr; clear hr)
    | (go_at_call 16; refine (number_nil _).mono ?_; rintro e w2 ⟨rfl, hb⟩))
  go_ret
  exact ⟨rfl, w1, HR.out, hb⟩
end Go.Proofs.YtlacgdnidilndaaGreatDoor
