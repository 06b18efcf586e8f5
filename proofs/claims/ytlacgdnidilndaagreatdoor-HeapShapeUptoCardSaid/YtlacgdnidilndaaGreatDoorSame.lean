/- Have two objects one shape: contract of objects.Same. -/
import Derived.Test.YtlacgdnidilndaaGreatDoorReads
import Derived.LaidEql
namespace Go.Proofs.YtlacgdnidilndaaGreatDoor
open Go.RowKit
open Go.Proofs (Tryz.prog)

theorem info95 : (Tryz.prog.info? 95).map (·.size) = some 4 := by kernel_rfl
theorem eq55 (a b : Nat) (w : World) {ca cb : Array Value} (ha : w.heap[a]? = some (.cells ca 95 (0, 0))) (hb : w.heap[b]? = some (.cells cb 95 (0, 0))) :
    (binOp .eql 55 (.pointer (some ⟨a, 0, none⟩)) (.pointer (some ⟨b, 0, none⟩))).run Tryz.prog w = .ok (.bool (decide (a = b))) w := by
  obtain ⟨i, hi, hz⟩ : ∃ i, Tryz.prog.info? 95 = some i ∧ i.size = 4 := by
    have h := info95
    cases hx : Tryz.prog.info? 95 with
    | none => rw [hx] at h; cases h
    | some i => rw [hx] at h; exact ⟨i, rfl, by simpa using h⟩
  have hs : (sameAddr ⟨a, 0, none⟩ ⟨b, 0, none⟩).run Tryz.prog w = .ok (decide (a = b)) w := by
    by_cases hab : a = b
    · subst hab
      rw [run_sameAddr_same]
      simp
    · rw [run_sameAddr_other w (a := ⟨a, 0, none⟩) (b := ⟨b, 0, none⟩) (by intro h; exact hab (congrArg Addr.block h)) ha hb]
      simp [hab]
  have h : ∀ d : Nat, (Op.equalIn (d + 1) 55 (.pointer (some ⟨a, 0, none⟩)) (.pointer (some ⟨b, 0, none⟩))).run Tryz.prog w = .ok (decide (a = b)) w := fun d => by
    simp [Op.equalIn, run_underlying Tryz.underlying55, sizeOf, typeInfo, hi, hz, hs]
  simp only [binOp]
  simp [Op.equal, Op.maxDepth, h 9999]

set_option maxHeartbeats 4000000 in
set_option maxRecDepth 100000 in
theorem same_any (oh hp bc n cap r q sr sq : Nat) (w : World) (h1 : w.cell? ⟨oh, 0, none⟩ = some (ptr hp)) (h2 : w.cell? ⟨hp, 0, none⟩ = some (.slice (some ⟨bc, 0, none⟩) n cap)) (hn : n ≤ 4)
    (hr0 : 0 < r) (hr : r < n) (hq0 : 0 < q) (hq : q < n) (ur : w.cell? ⟨bc, r * 14 + 12, none⟩ = some (.bool true)) (uq : w.cell? ⟨bc, q * 14 + 12, none⟩ = some (.bool true))
    (cr : w.cell? ⟨bc, r * 14 + 8, none⟩ = some (ptr sr)) (cq : w.cell? ⟨bc, q * 14 + 8, none⟩ = some (ptr sq)) (ho : w.cell? ⟨sr, 3, none⟩ = some (.bool false)) (Ca Cb : Array Value) (hba : w.heap[sr]? = some (.cells Ca 95 (0, 0))) (hbb : w.heap[sq]? = some (.cells Cb 95 (0, 0))) :
    Calls Tryz.prog 6 #[ptr oh, .int .i64 r, .int .i64 q] w fun e w' => e = .returned (.bool (decide (sr = sq))) ∧ Below w.heap.size w w' := by
  unfold ptr at *
  have heq := eq55 sr sq w.drew.drew.drew hba hbb
  have heq2 := eq55 sr sq w.drew.drew hba hbb
  clear hba hbb
  go_enter Tryz.func6, Tryz.ntmps6
  go_wp2_with fail
  go_region_held3 (fun w' => w'.cell? ⟨oh, 0, none⟩ = some (.pointer (some ⟨hp, 0, none⟩)) ∧ w'.cell? ⟨hp, 0, none⟩ = some (.slice (some ⟨bc, 0, none⟩) n cap) ∧ w'.cell? ⟨bc, r * 14 + 12, none⟩ = some (.bool true) ∧ w'.cell? ⟨bc, q * 14 + 12, none⟩ = some (.bool true)) (go_keep)
    (first
      | (go_at_call_of 18 (Value.int IntKind.i64 r); refine (ref_any _ _ (by omega) (by omega)).mono ?_; rintro e w' ⟨rfl, rfl⟩)
      | (go_at_call_of 18 (Value.int IntKind.i64 q); refine (ref_any _ _ (by omega) (by omega)).mono ?_; rintro e w' ⟨rfl, rfl⟩)
      | (go_at_call 17; refine (has_any hp bc n cap _ _ ?_ (by omega) (by omega) (by omega) ?_).mono ?_; (simp [*]); (simp [*]); rintro e w' ⟨rfl, rfl⟩))
  go_wp2_with fail
  go_region_held3 (fun w' => w'.cell? ⟨oh, 0, none⟩ = some (.pointer (some ⟨hp, 0, none⟩)) ∧ w'.cell? ⟨hp, 0, none⟩ = some (.slice (some ⟨bc, 0, none⟩) n cap) ∧ w'.cell? ⟨bc, r * 14 + 8, none⟩ = some (.pointer (some ⟨sr, 0, none⟩))) (go_keep)
    (first
      | (go_at_call_of 18 (Value.int IntKind.i64 r); refine (ref_any _ _ (by omega) (by omega)).mono ?_; rintro e w' ⟨rfl, rfl⟩)
      | (go_at_call 19; refine (shape_any hp bc n cap r (.pointer (some ⟨sr, 0, none⟩)) _ ?_ (by omega) (by omega) ?_).mono ?_; (simp [*]); (simp [*]); rintro e w' ⟨rfl, rfl⟩))
  go_wp2_with fail
  go_region_held3 (fun w' => w'.cell? ⟨oh, 0, none⟩ = some (.pointer (some ⟨hp, 0, none⟩)) ∧ w'.cell? ⟨hp, 0, none⟩ = some (.slice (some ⟨bc, 0, none⟩) n cap) ∧ w'.cell? ⟨bc, q * 14 + 8, none⟩ = some (.pointer (some ⟨sq, 0, none⟩)) ∧ w'.cell? ⟨sr, 3, none⟩ = some (.bool false) ∧ (binOp .eql 55 (.pointer (some ⟨sr, 0, none⟩)) (.pointer (some ⟨sq, 0, none⟩))).run Tryz.prog w' = .ok (.bool (decide (sr = sq))) w') (go_keep)
    (first
      | (go_at_call_of 18 (Value.int IntKind.i64 q); refine (ref_any _ _ (by omega) (by omega)).mono ?_; rintro e w' ⟨rfl, rfl⟩)
      | (go_at_call 20; refine (shared_any sr false _ ?_).mono ?_; (simp [*]); rintro e w' ⟨rfl, rfl⟩)
      | (go_at_call 19; refine (shape_any hp bc n cap q (.pointer (some ⟨sq, 0, none⟩)) _ ?_ (by omega) (by omega) ?_).mono ?_; (simp [*]); (simp [*]); rintro e w' ⟨rfl, rfl⟩))
  all_goals go_wp2
  all_goals go_ret
  all_goals exact ⟨rfl, ((Below.refl _ _).drew).drew.drew⟩

/-- Over the state. -/
theorem same_st {B : Nat} {w : World} {σ : Sig} (h : St B w σ) (i j : Nat) (a b : Ob) (ha : σ.obs[i]? = some a) (hb : σ.obs[j]? = some b) :
    Calls Tryz.prog 6 #[ptr σ.oh, .int .i64 ((i + 1 : Nat) : Int), .int .i64 ((j + 1 : Nat) : Int)] w fun e w' => e = .returned (.bool (decide (a.sh = b.sh))) ∧ Below w.heap.size w w' := by
  have hi : i < σ.obs.length := (List.getElem?_eq_some_iff.1 ha).1
  have hj : j < σ.obs.length := (List.getElem?_eq_some_iff.1 hb).1
  have hf := h.few
  obtain ⟨_, _, _, hA, _⟩ := h.shape _ _ (h.ob i a ha).1
  obtain ⟨_, _, _, hB, _⟩ := h.shape _ _ (h.ob j b hb).1
  exact same_any σ.oh σ.hp σ.bc (σ.obs.length + 1) σ.cap (i + 1) (j + 1) a.sh b.sh w h.ohCell h.hpCell (by omega) (by omega) (by omega) (by omega) (by omega)
    (h.cell ha 12 (by omega)) (h.cell hb 12 (by omega)) (h.cell ha 8 (by omega)) (h.cell hb 8 (by omega)) (by rw [cell_of_block hA]; rfl) _ _ hA hB
end Go.Proofs.YtlacgdnidilndaaGreatDoor
