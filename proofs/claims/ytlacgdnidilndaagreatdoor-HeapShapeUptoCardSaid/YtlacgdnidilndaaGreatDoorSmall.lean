/- The small functions of the heap's road: contracts. -/
import Derived.Test.YtlacgdnidilndaaGreatDoorProg
import Derived.WalkKit
import Derived.Deep.QuietTactic
import Derived.BigQuiet
import Derived.Below
import Derived.Outline
import Derived.Lib.Hide
import Derived.Deep.RegionHeld3
import Derived.Deep.AppendLies
import Derived.StillTailTactics
import Derived.IntWalk
import Derived.Handy
import Derived.Laws.Entries
namespace Go.Proofs.YtlacgdnidilndaaGreatDoor
open Go.RowKit
open Go.Proofs (Tryz.prog)
theorem store_flt (P : Program) (w : World) (a : Addr) (m : Mode) (b : Nat) : (store a (.float .f64 b) m).run P w = stored P w a (.float .f64 b) m := run_store P w a _ m rfl
attribute [go_sem] store_flt
theorem ret_int {k : IntKind} {a b : Int} (h : a = b) : Ending.returned (.int k a) = .returned (.int k b) := by rw [h]

set_option maxHeartbeats 400000 in
theorem ref_any (n : Int) (w : World) (h0 : 0 ≤ n) (h1 : n ≤ 2147483647) :
    Calls Tryz.prog 18 #[.int .i64 n] w fun e w' => e = .returned (.int .i32 n) ∧ w = w' := by
  go_enter Tryz.func18, Tryz.ntmps18
  go_wp2
  go_ret
  exact ⟨rfl, rfl⟩

set_option maxHeartbeats 400000 in
theorem has_any (bh bc n cap r : Nat) (w : World) (hc : w.cell? ⟨bh, 0, none⟩ = some (.slice (some ⟨bc, 0, none⟩) n cap)) (h0 : 0 < r) (h1 : r < n) (hn : n ≤ 100)
   (hu : w.cell? ⟨bc, r * 14 + 12, none⟩ = some (.bool true)) :
    Calls Tryz.prog 17 #[.pointer (some ⟨bh, 0, none⟩), .int .i32 r] w fun e w' => e = .returned (.bool true) ∧ w = w' := by
  go_enter Tryz.func17, Tryz.ntmps17
  go_wp2
  go_ret
  exact ⟨rfl, rfl⟩

set_option maxHeartbeats 400000 in
theorem at_any (bh bc n cap r : Nat) (w : World) (hc : w.cell? ⟨bh, 0, none⟩ = some (.slice (some ⟨bc, 0, none⟩) n cap)) (h1 : r < n) (_hn : n ≤ 100) :
    Calls Tryz.prog 35 #[.pointer (some ⟨bh, 0, none⟩), .int .i32 r] w fun e w' => e = .returned (.pointer (some ⟨bc, r * 14, none⟩)) ∧ w = w' := by
  go_enter Tryz.func35, Tryz.ntmps35
  go_wp2
  go_ret
  exact ⟨rfl, rfl⟩

set_option maxHeartbeats 400000 in
theorem shape_any (bh bc n cap r : Nat) (v : Value) (w : World) (hc : w.cell? ⟨bh, 0, none⟩ = some (.slice (some ⟨bc, 0, none⟩) n cap)) (h1 : r < n) (hn : n ≤ 100)
    (hs : w.cell? ⟨bc, r * 14 + 8, none⟩ = some v) :
    Calls Tryz.prog 19 #[.pointer (some ⟨bh, 0, none⟩), .int .i32 r] w fun e w' => e = .returned v ∧ w = w' := by
  go_enter Tryz.func19, Tryz.ntmps19
  go_wp2_with (go_at_call 35; refine (at_any _ bc n cap r _ hc h1 hn).mono ?_; rintro e w' ⟨rfl, rfl⟩)
  go_ret
  exact ⟨rfl, rfl⟩

set_option maxHeartbeats 400000 in
theorem shared_any (s : Nat) (o : Bool) (w : World) (hs : w.cell? ⟨s, 3, none⟩ = some (.bool o)) :
    Calls Tryz.prog 20 #[.pointer (some ⟨s, 0, none⟩)] w fun e w' => e = .returned (.bool !o) ∧ w = w' := by
  go_enter Tryz.func20, Tryz.ntmps20
  go_wp2
  go_ret
  exact ⟨rfl, rfl⟩

set_option maxHeartbeats 400000 in
theorem told_nil (w : World) :
    Calls Tryz.prog 34 #[.nilIface] w fun e w' => e = .returned (.tuple #[.int .i64 0, .int .i64 (-1)]) ∧ Below w.heap.size w w' := by
  go_enter Tryz.func34, Tryz.ntmps34
  go_wp2
  go_ret2
  exact ⟨rfl, ((Below.refl _ _).alloc (Nat.le_refl _) _).alloc (by simp) _⟩

set_option maxHeartbeats 400000 in
theorem number_nil (w : World) :
    Calls Tryz.prog 16 #[.nilIface] w fun e w' => e = .returned (.int .i64 0) ∧ Below w.heap.size w w' := by
  go_enter Tryz.func16, Tryz.ntmps16
  go_wp2_with (go_at_call 34; refine (told_nil _).mono ?_; rintro e w' ⟨rfl, hb⟩)
  go_ret
  exact ⟨rfl, hb⟩

set_option maxHeartbeats 400000 in
theorem pick_any (c : Int) (w : World) (h0 : -9223372036854775808 ≤ c) (h1 : c ≤ 9223372036854775807) :
    Calls Tryz.prog 12 #[.int .i64 c, .int .i64 2] w fun e w' => (∃ k, e = .returned (.int .i64 k)) ∧ w = w' := by
  by_cases h : c < 0
  all_goals
    go_enter Tryz.func12, Tryz.ntmps12
    go_wp2
    go_ret
    exact ⟨⟨_, rfl⟩, rfl⟩
end Go.Proofs.YtlacgdnidilndaaGreatDoor
