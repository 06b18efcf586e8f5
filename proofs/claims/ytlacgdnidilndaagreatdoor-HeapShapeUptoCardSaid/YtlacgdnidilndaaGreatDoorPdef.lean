/- plain.Define of a new property. -/
import Derived.Test.YtlacgdnidilndaaGreatDoorSmall
namespace Go.Proofs.YtlacgdnidilndaaGreatDoor
open Go.RowKit
open Go.Proofs (Tryz.prog)

set_option maxHeartbeats 1000000 in
set_option maxRecDepth 100000 in
theorem pdefine_new (oh r : Nat) (s : ByteArray) (kz : Int) (num : Nat) (txt : ByteArray) (w : World) (R : World → Prop)
    (HD : ∀ W, Below w.heap.size w W → Calls Tryz.prog 27 #[.pointer (some ⟨oh, 0, none⟩), .int .i64 r, .string s, .agg #[.bool true, .bool false, .bool false, .bool true, .bool true, .bool true, .int .i64 kz, .float .f64 num, .string txt, .int .i64 0, .int .i64 0, .int .i64 0, .bool true, .bool true, .bool true]] W fun e w' => e = .returned .nilIface ∧ R w') :
    Calls Tryz.prog 10 #[.pointer (some ⟨oh, 0, none⟩), .int .i64 r, .string s, .agg #[.bool true, .bool false, .bool false, .bool true, .bool true, .bool true, .int .i64 kz, .float .f64 num, .string txt, .int .i64 0, .int .i64 0, .int .i64 0, .bool true, .bool true, .bool true]] w fun e w' => e = .returned (.int .i64 0) ∧ ∃ w1, R w1 ∧ Below w1.heap.size w1 w' := by
  have HD := Lib.hid HD
  go_enter Tryz.func10, Tryz.ntmps10
  go_wp2_with (first
    | (go_at_call 27; refine (HD.out _ ((Below.refl _ _).alloc (Nat.le_refl _) _)).mono ?_; rintro e w1 ⟨rfl, hr⟩; have HR := Lib.hid hr; clear hr)
    | (go_at_call 16; refine (number_nil _).mono ?_; rintro e w2 ⟨rfl, hb⟩))
  go_ret
  exact ⟨rfl, w1, HR.out, hb⟩
end Go.Proofs.YtlacgdnidilndaaGreatDoor
