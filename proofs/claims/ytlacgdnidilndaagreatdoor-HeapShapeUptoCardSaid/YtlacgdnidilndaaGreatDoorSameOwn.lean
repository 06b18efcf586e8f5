/- Have two objects one shape, where the first one's is its own. -/
import Derived.Test.YtlacgdnidilndaaGreatDoorSame
namespace Go.Proofs.YtlacgdnidilndaaGreatDoor
open Go.RowKit
open Go.Proofs (Tryz.prog)
theorem quiet_left {P : Program} {f : FuncId} {args : Array Value} {w : World} {n : Nat} {v : Value}
    (h : Calls P f args (w.drewN n) fun e w' => e = .returned v ∧ w.drewN n = w') : Calls P f args (w.drewN n) fun e w'' => e = .returned v ∧ ∃ m, w'' = w.drewN m :=
  h.mono fun _ _ ⟨he, hm⟩ => ⟨he, n, hm.symm⟩
theorem shared_true (s : Nat) (w : World) (hs : w.cell? ⟨s, 3, none⟩ = some (.bool true)) :
    Calls Tryz.prog 20 #[.pointer (some ⟨s, 0, none⟩)] w fun e w' => e = .returned (.bool false) ∧ w = w' := shared_any s true w hs
set_option maxHeartbeats 4000000 in
set_option maxRecDepth 100000 in
theorem same_own (oh hp bc n cap r q sr : Nat) (w : World) (h1 : w.cell? ⟨oh, 0, none⟩ = some (ptr hp)) (h2 : w.cell? ⟨hp, 0, none⟩ = some (.slice (some ⟨bc, 0, none⟩) n cap)) (hn : n ≤ 4)
    (hr0 : 0 < r) (hr : r < n) (hq0 : 0 < q) (hq : q < n) (ur : w.cell? ⟨bc, r * 14 + 12, none⟩ = some (.bool true)) (uq : w.cell? ⟨bc, q * 14 + 12, none⟩ = some (.bool true))
    (cr : w.cell? ⟨bc, r * 14 + 8, none⟩ = some (ptr sr)) (ho : w.cell? ⟨sr, 3, none⟩ = some (.bool true)) :
    Calls Tryz.prog 6 #[ptr oh, .int .i64 r, .int .i64 q] w fun e w' => e = .returned (.bool false) ∧ Below w.heap.size w w' := by
  unfold ptr at *
  go_enter Tryz.func6, Tryz.ntmps6
  go_wp2_with fail
  go_region_held3 (fun w' => w'.cell? ⟨oh, 0, none⟩ = some (.pointer (some ⟨hp, 0, none⟩)) ∧ w'.cell? ⟨hp, 0, none⟩ = some (.slice (some ⟨bc, 0, none⟩) n cap) ∧ w'.cell? ⟨bc, r * 14 + 12, none⟩ = some (.bool true) ∧ w'.cell? ⟨bc, q * 14 + 12, none⟩ = some (.bool true)) (go_keep)
    (first
      | (go_at_call_of 18 (Value.int IntKind.i64 r); refine (ref_any _ _ (by omega) (by omega)).mono ?_; rintro e w' ⟨rfl, rfl⟩)
      | (go_at_call_of 18 (Value.int IntKind.i64 q); refine (ref_any _ _ (by omega) (by omega)).mono ?_; rintro e w' ⟨rfl, rfl⟩)
      | (go_at_call 17; refine (has_any hp bc n cap _ _ ?_ (by omega) (by omega) (by omega) ?_).mono ?_; (simp [*]); (simp [*]); rintro e w' ⟨rfl, rfl⟩))
  go_wp2_with fail
  go_region_held3 (fun w' => w'.cell? ⟨oh, 0, none⟩ = some (.pointer (some ⟨hp, 0, none⟩)) ∧ w'.cell? ⟨hp, 0, none⟩ = some (.slice (some ⟨bc, 0, none⟩) n cap) ∧ w'.cell? ⟨bc, r * 14 + 8, none⟩ = some (.pointer (some ⟨sr, 0, none⟩))) (go_keep)
    (first
      | (go_at_call_of 18 (Value.int IntKind.i64 r); refine (ref_any _ _ (by omega) (by omega)).mono ?_; rintro e w' ⟨rfl, rfl⟩)
      | (go_at_call 19; refine (shape_any hp bc n cap r (.pointer (some ⟨sr, 0, none⟩)) _ ?_ (by omega) (by omega) ?_).mono ?_; (simp [*]); (simp [*]); rintro e w' ⟨rfl, rfl⟩))
  go_wp2_with fail
  have hoW : w.drew.drew.cell? ⟨sr, 3, none⟩ = some (.bool true) := ho
  have hBW : Below w.heap.size w w.drew.drew := ((Below.refl _ _).drew).drew
  generalize w.drew.drew = W at hoW hBW ⊢
  have HS : ∀ n, Calls Tryz.prog 20 #[.pointer (some ⟨sr, 0, none⟩)] (W.drewN n) fun e w'' => e = .returned (.bool false) ∧ ∃ m, w'' = W.drewN m :=
    fun n => quiet_left (shared_true sr (W.drewN n) hoW)
  go_quiet ((go_at_call 20; exact HS _))
  go_wp2
  go_ret
  exact ⟨rfl, hBW.os, hBW.tape, hBW.output, hBW.size, hBW.block⟩
end Go.Proofs.YtlacgdnidilndaaGreatDoor
