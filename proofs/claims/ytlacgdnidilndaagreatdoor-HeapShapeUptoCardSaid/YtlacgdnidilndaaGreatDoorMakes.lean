/- A new object: contract of plain.Make, over the state. -/
import Derived.Test.YtlacgdnidilndaaGreatDoorMake
namespace Go.Proofs.YtlacgdnidilndaaGreatDoor
open Go.RowKit
open Go.Proofs (Tryz.prog)

set_option maxHeartbeats 4000000 in
set_option maxRecDepth 100000 in
theorem objMake_any (oh hp bc n cap root : Nat) (made live : Int) (B : Nat) (xs : List Value) (w : World) (ho : w.heap[oh]? = some (.cells #[ptr hp] 46 (0, 0)))
    (hh : w.heap[hp]? = some (.cells (hpCells bc n cap root made live) 80 (0, 0)))
    (hown : w.ownsRow B 88 14 (.slice (some ⟨bc, 0, none⟩) n cap) n xs) (hn : n ≤ 10) (hB : B ≤ w.heap.size) (hne : hp ≠ bc) :
    Calls Tryz.prog 15 #[ptr oh, .string className, .int .i64 0] w fun e w' => ∃ g cap', e = .returned (.tuple #[.int .i64 n, .nilIface]) ∧ MadeAt B hp bc root w w' n xs g cap' := by
  have HM : ∀ k, Hid (Calls Tryz.prog 33 #[ptr hp, .string className, .int .i32 0] (w.drewN k) fun e w' => ∃ g cap', e = .returned (.int .i32 n) ∧ MadeAt B hp bc root w w' n xs g cap') := fun k => Lib.hid ((heapMake_any hp bc n cap root made live B xs (w.drewN k) hh hown hn hB hne).mono fun e w' ⟨g, cap', h1, h2⟩ => ⟨g, cap', h1, ⟨h2.head, h2.own, h2.who, h2.kept, h2.block⟩⟩)
  have h0 := cell_of_block ho 0
  simp [ptr] at h0
  clear hh hown ho
  unfold ptr className
  go_enter Tryz.func15, Tryz.ntmps15
  go_wp2_with fail
  go_quiet (fail)
  go_wp2_with fail
  have hwn : IntKind.i64.wrap (n : Int) = n := IntWalk.i64_in _ (by omega)
  go_region_with (first | (go_at_call 18; refine (ref_any _ _ (by decide) (by decide)).mono ?_; rintro e w' ⟨rfl, rfl⟩) | (go_at_call 33; refine (HM _).out.mono ?_; rintro e w' ⟨g, cap', rfl, hm⟩))
  all_goals go_wp2
  all_goals go_ret2
  all_goals exact ⟨g, cap', rfl, hm⟩

set_option maxHeartbeats 4000000 in
set_option maxRecDepth 100000 in
theorem plainMake_any (oh hp bc n cap root : Nat) (made live : Int) (B : Nat) (xs : List Value) (w : World) (ho : w.heap[oh]? = some (.cells #[ptr hp] 46 (0, 0)))
    (hh : w.heap[hp]? = some (.cells (hpCells bc n cap root made live) 80 (0, 0)))
    (hown : w.ownsRow B 88 14 (.slice (some ⟨bc, 0, none⟩) n cap) n xs) (hn : n ≤ 10) (hB : B ≤ w.heap.size) (hne : hp ≠ bc) :
    Calls Tryz.prog 5 #[ptr oh, .string className, .int .i64 0] w fun e w' => ∃ g cap' w1, e = .returned (.tuple #[.int .i64 n, .int .i64 0]) ∧ MadeAt B hp bc root w w1 n xs g cap' ∧ Below w1.heap.size w1 w' := by
  have HM := Lib.hid (objMake_any oh hp bc n cap root made live B xs w ho hh hown hn hB hne)
  clear hh hown ho
  unfold ptr className at *
  go_enter Tryz.func5, Tryz.ntmps5
  go_wp2_with (first | (go_at_call 15; refine HM.out.mono ?_; rintro e w1 ⟨g, cap', rfl, hm⟩; have HH := Lib.hid hm; clear hm) | (go_at_call 16; refine (number_nil _).mono ?_; rintro e w2 ⟨rfl, hb⟩))
  go_ret2
  exact ⟨g, cap', w1, rfl, HH.out, hb⟩
end Go.Proofs.YtlacgdnidilndaaGreatDoor
