/- The sorted places of an object that has none: contracts of maps.Keys, slices.Sorted. -/
import Derived.Test.YtlacgdnidilndaaGreatDoorNew
import Derived.RangeFuncNested
import Derived.RangeFuncBound
import Derived.RangeFuncCalls
import Derived.RangeFuncLeaves
import Derived.RangeFuncFrom
import Derived.Shelf.Abstract
import Derived.Shelf.RegionOpen
import Derived.OwnWalkIn
import Derived.TacticsInMore
import Derived.LoopNIn
import Derived.LoopIn
import Derived.Laws.IdiomRangeMap
namespace Go.Proofs.YtlacgdnidilndaaGreatDoor
open Go.RowKit Go.Shelf
open Go.Proofs (Tryz.prog)
attribute [local go_sem] Oper.semAt_some

set_option maxHeartbeats 1000000 in
set_option maxRecDepth 100000 in
theorem mkeys_any (w : World) :
    Calls Tryz.prog 50 #[.map none] w fun e w' => e = .returned (.func (.func 72) #[] #[.pointer (some ⟨w.heap.size, 0, none⟩)]) ∧ w' = w.alloc (.cells #[.map none] 86) := by
  go_enter Tryz.func50, Tryz.ntmps50
  go_wp2
  go_ret
  exact ⟨rfl, rfl⟩

def encE (x : Empty) : Array Value := x.elim
set_option maxHeartbeats 1000000 in
set_option maxRecDepth 100000 in
theorem seq72 (n b : Nat) (w : World) (hb : w.cell? ⟨b, 0, none⟩ = some (.map none)) (hlt : b < w.heap.size) :
    SeqStopsK Fence.wide n Tryz.prog 72 #[.pointer (some ⟨b, 0, none⟩)] encE (fun _ _ => True) (fun _ => True) (fun _ => False) 0 w := fun l J Jx W hW hJ _ _ h0 => by
  have hm : W.cell? ⟨b, 0, none⟩ = some (.map none) := (hW.cell (p := ⟨b, 0, none⟩) hlt).trans hb
  have hrg := run_range_nilMap (P := Tryz.prog) W 86 99 66 Tryz.underlying86
  have hnx : ∀ ty, (Instr.next (.pointer (some ⟨W.heap.size, 0, none⟩)) false ty).run Tryz.prog (W.alloc (.mapIter none 0 #[] 0)) = _ := fun ty => run_next_nilMap _ ty 0 0 #[]
  refine callsIn_of_wp Tryz.func72 rfl trivial ?_ rfl
  simp only [Tryz.ntmps72, List.size_toArray, List.length_cons, List.length_nil, Nat.reduceAdd, Nat.reduceSub, Array.replicate_succ, Array.replicate_zero, List.push_toArray, List.append_toArray, List.nil_append, List.cons_append]
  gi_wp2
  refine wpIn_loop_rounds 1 ?_
  rw [roundsIn_succ]
  gi_wp2
  go_end0
  exact ⟨⟨_, rfl⟩, .inl ⟨[], trivial, hJ [] W _ none h0 (World.grownBy_alloc W _ none) (fun r e => by cases e)⟩⟩

set_option maxHeartbeats 1000000 in
set_option maxRecDepth 100000 in
theorem appendSeq_nil (b : Nat) (w : World) (hb : w.cell? ⟨b, 0, none⟩ = some (.map none)) :
    Calls Tryz.prog 89 #[.slice none 0 0, .func (.func 72) #[] #[.pointer (some ⟨b, 0, none⟩)]] w fun e w' => e = .returned (.slice none 0 0) ∧ Below w.heap.size w w' := by
  have hlt : b < w.heap.size := by
    rcases Nat.lt_or_ge b w.heap.size with h1 | h1
    · exact h1
    · exfalso
      simp [World.cell?, Array.getElem?_eq_none h1] at hb
  refine (callsIn_wide (n := 6)).1 ?_
  refine callsIn_of_wp_marks Tryz.func89 rfl trivial ?_ rfl
  simp only [Tryz.ntmps89, List.size_toArray, List.length_cons, List.length_nil, Nat.reduceAdd, Nat.reduceSub, Array.replicate_succ, Array.replicate_zero, List.push_toArray, List.append_toArray, List.nil_append, List.cons_append]
  gi_wp2
  have hbW : (w.alloc (.cells #[.slice none 0 0] 116)).cell? ⟨b, 0, none⟩ = some (.map none) := (World.cell?_alloc_lt _ _ _ hlt).trans hb
  refine wpIn_rangeFunc_ownF rfl (by omega) (gf := 72) (lb := #[.pointer (some ⟨b, 0, none⟩)]) rfl trivial (enters_of Tryz.func72 (by kernel_rfl) rfl) (seq72 (6 - 1) b (w.alloc (.cells #[.slice none 0 0] 116)) hbW (by simp; omega)) (fun _ _ => trivial) (fun _ _ _ _ _ _ _ _ => trivial) (Below.refl _ _) (fun x => x.elim)
    (fun _ W => W.cell? ⟨w.heap.size, 0, none⟩ = some (.slice none 0 0) ∧ Below w.heap.size w W) (fun _ _ _ => False)
    (OwnFrom.and (Own.from (fun s A B row hs hg hr => cell_kept hs hg hr) _) (ownFrom_below (Nat.le_refl _) (by simp))) (fun _ _ _ _ _ h _ _ => h.elim) ⟨by simp, (Below.refl _ _).alloc (Nat.le_refl _) _⟩ (fun x => x.elim) (fun _ x => x.elim) (fun _ _ x => x.elim) ?done ?stop
  case stop =>
    intro D c pre W _ h
    exact h.elim
  case done =>
    rintro D xs W hD _ ⟨hc, hB⟩ hK
    gi_wp2
    refine ⟨by simp, .inl ⟨_, _, rfl, run_takeDeferred hK, ?_⟩⟩
    exact ⟨_, results_tmp rfl _ _ _, rfl, hB.trans (belowK_b (w := w) (Nat.le_refl _) W D _ _ (by simp at hD; omega) hK rfl rfl)⟩

set_option maxHeartbeats 1000000 in
set_option maxRecDepth 100000 in
theorem collect_nil (b : Nat) (w : World) (hb : w.cell? ⟨b, 0, none⟩ = some (.map none)) :
    Calls Tryz.prog 70 #[.func (.func 72) #[] #[.pointer (some ⟨b, 0, none⟩)]] w fun e w' => e = .returned (.slice none 0 0) ∧ Below w.heap.size w w' := by
  go_enter Tryz.func70, Tryz.ntmps70
  go_wp2_with (go_at_call 89; refine (appendSeq_nil b _ hb).mono ?_; rintro e w1 ⟨rfl, hb1⟩)
  go_ret
  exact ⟨rfl, hb1⟩
set_option maxHeartbeats 1000000 in
set_option maxRecDepth 100000 in
theorem len_zero (w : World) :
    Calls Tryz.prog 91 #[.int .u64 0] w fun e w' => (∃ v, e = .returned (.int .i64 v)) ∧ w = w' := by
  go_enter Tryz.func91, Tryz.ntmps91
  go_wp2
  go_ret
  exact ⟨⟨_, rfl⟩, rfl⟩
set_option maxHeartbeats 1000000 in
set_option maxRecDepth 100000 in
theorem ins_nil (w : World) :
    Calls Tryz.prog 98 #[.slice none 0 0, .int .i64 0, .int .i64 0] w fun e w' => e = .returned (.tuple #[]) ∧ w = w' := by
  go_enter Tryz.func98, Tryz.ntmps98
  go_wp2
  refine wp_loop_rounds 1 ?_
  rw [rounds_succ]
  go_wp2
  go_end0
  exact ⟨rfl, rfl⟩
set_option maxHeartbeats 1000000 in
set_option maxRecDepth 100000 in
theorem pdq_nil (v : Int) (w : World) :
    Calls Tryz.prog 90 #[.slice none 0 0, .int .i64 0, .int .i64 0, .int .i64 v] w fun e w' => e = .returned (.tuple #[]) ∧ w = w' := by
  go_enter Tryz.func90, Tryz.ntmps90
  go_wp2
  refine wp_loop_rounds 1 ?_
  rw [rounds_succ]
  go_wp2_with (go_at_call 98; refine (ins_nil _).mono ?_; rintro e w1 ⟨rfl, rfl⟩)
  refine bodyPost_ret (results_none rfl _ _ _) rfl ?_
  exact ⟨rfl, rfl⟩
set_option maxHeartbeats 1000000 in
set_option maxRecDepth 100000 in
theorem sort_nil (w : World) :
    Calls Tryz.prog 71 #[.slice none 0 0] w fun e w' => e = .returned (.tuple #[]) ∧ w = w' := by
  go_enter Tryz.func71, Tryz.ntmps71
  go_wp2_with (first | (go_at_call 91; refine (len_zero _).mono ?_; rintro e w1 ⟨⟨v, rfl⟩, rfl⟩) | (go_at_call 90; refine (pdq_nil _ _).mono ?_; rintro e w1 ⟨rfl, rfl⟩))
  refine bodyPost_end (results_none rfl _ _ _) rfl ?_
  exact ⟨rfl, rfl⟩
set_option maxHeartbeats 1000000 in
set_option maxRecDepth 100000 in
theorem sorted_nil (b : Nat) (w : World) (hb : w.cell? ⟨b, 0, none⟩ = some (.map none)) :
    Calls Tryz.prog 49 #[.func (.func 72) #[] #[.pointer (some ⟨b, 0, none⟩)]] w fun e w' => e = .returned (.slice none 0 0) ∧ Below w.heap.size w w' := by
  go_enter Tryz.func49, Tryz.ntmps49
  go_wp2_with (first | (go_at_call 70; refine (collect_nil b _ hb).mono ?_; rintro e w1 ⟨rfl, hb1⟩) | (go_at_call 71; refine (sort_nil _).mono ?_; rintro e w1 ⟨rfl, rfl⟩))
  go_ret
  exact ⟨rfl, hb1⟩
end Go.Proofs.YtlacgdnidilndaaGreatDoor
