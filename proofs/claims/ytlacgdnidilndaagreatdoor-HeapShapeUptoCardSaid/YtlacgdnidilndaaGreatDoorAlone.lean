/- A shape of its own: contract of Object.alone. -/
import Derived.Test.YtlacgdnidilndaaGreatDoorCopy
import Derived.Test.YtlacgdnidilndaaGreatDoorReads
namespace Go.Proofs.YtlacgdnidilndaaGreatDoor
open Go.RowKit
open Go.Proofs (Tryz.prog)

set_option maxHeartbeats 4000000 in
set_option maxRecDepth 100000 in
theorem alone_any (bc r s bat B : Nat) (lv : Value) (nx : Option Nat) (ks : List ByteArray) (es : Array MapEntry) (clk : Nat) (cur : Array Value) (w : World) (hbc : w.heap[bc]? = some (.cells cur 88 (0, 0))) (h8 : cur[r * 14 + 8]? = some (ptr s))
    (hsh : w.heap[s]? = some (.cells #[lv, .map (some bat), .map nx, .bool false] 95 (0, 0))) (hown : w.ownsRow B 104 2 lv ks.length (entCells ks)) (hm : w.heap[bat]? = some (.map es clk)) (hn : ks.length ≤ 1000) :
    Calls Tryz.prog 88 #[.pointer (some ⟨bc, r * 14, none⟩)] w fun e w' => e = .returned (.tuple #[]) ∧ ∃ t lv' mp w1, CopyAt w w1 ks es clk t lv' mp ∧ w' = (w1.setCell ⟨bc, r * 14 + 8, none⟩ (ptr t)).setCell ⟨t, 3, none⟩ (.bool true) := by
  have c8 : w.cell? ⟨bc, r * 14 + 8, none⟩ = some (.pointer (some ⟨s, 0, none⟩)) := (cell_of_block hbc _).trans h8
  have c3 : w.cell? ⟨s, 3, none⟩ = some (.bool false) := by rw [cell_of_block hsh]; rfl
  have lbc : bc < w.heap.size := lt_of_heap hbc
  have HC := Lib.hid (copy_any s bat B lv nx ks es clk w hsh hown hm hn)
  have HB := Lib.hid hbc
  clear hbc hsh hown hm
  unfold ptr at HC
  go_enter Tryz.func88, Tryz.ntmps88
  go_upto_region 1 with fail
  go_wp2_with (go_at_call 97; refine HC.out.mono ?_; rintro e w1 ⟨t, lv', mp, rfl, hc⟩; have HCA := Lib.hid hc; have y8 := (hc.below.cell (p := ⟨bc, r * 14 + 8, none⟩) lbc).trans c8; have yf := unfrozen_of_block ((hc.below.block bc lbc).trans HB.out) (r * 14 + 8); have z3 : w1.cell? ⟨t, 3, none⟩ = some (.bool false) := (cell_of_block hc.shape 3).trans rfl; have zf := unfrozen_of_block hc.shape 3; have ne : bc ≠ t := (by have := hc.ge.1; omega); clear hc)

  refine bodyPost_end (results_none rfl _ _ _) rfl ?_
  exact ⟨rfl, t, lv', mp, w1, HCA.out, rfl⟩
end Go.Proofs.YtlacgdnidilndaaGreatDoor
