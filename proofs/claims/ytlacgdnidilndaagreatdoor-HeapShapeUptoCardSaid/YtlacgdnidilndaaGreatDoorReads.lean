/- What the state gives to read. -/
import Derived.Test.YtlacgdnidilndaaGreatDoorState
namespace Go.Proofs.YtlacgdnidilndaaGreatDoor
open Go.RowKit
open Go.Proofs (Tryz.prog)

theorem obCells_length (o : Ob) : (obCells o).length = 14 := rfl
theorem flat_get : ∀ (obs : List Ob) (i j : Nat) (o : Ob), obs[i]? = some o → j < 14 → (obs.flatMap obCells)[i * 14 + j]? = (obCells o)[j]?
  | x :: obs, 0, j, o, h, hj => by
    have : x = o := by simpa using h
    subst this
    rw [List.flatMap_cons, Nat.zero_mul, Nat.zero_add, List.getElem?_append_left (by rw [obCells_length]; exact hj)]
  | x :: obs, i + 1, j, o, h, hj => by
    rw [List.flatMap_cons, List.getElem?_append_right (by rw [obCells_length]; omega), obCells_length]
    have e : (i + 1) * 14 + j - 14 = i * 14 + j := by omega
    rw [e]
    exact flat_get obs i j o (by simpa using h) hj
theorem row_get (obs : List Ob) (i j : Nat) (o : Ob) (h : obs[i]? = some o) (hj : j < 14) : (rowCells obs)[(i + 1) * 14 + j]? = (obCells o)[j]? := by
  unfold rowCells
  have e : zeroOb.length = 14 := rfl
  rw [List.getElem?_append_right (by rw [e]; omega), e]
  have e2 : (i + 1) * 14 + j - 14 = i * 14 + j := by omega
  rw [e2]
  exact flat_get obs i j o h hj

theorem cell_of_block {w : World} {b : Nat} {C : Array Value} {t : TypeId} {fr : Nat × Nat} (h : w.heap[b]? = some (.cells C t fr)) (j : Nat) : w.cell? ⟨b, j, none⟩ = C[j]? := by
  simp [World.cell?, h]
theorem unfrozen_of_block {w : World} {b : Nat} {C : Array Value} {t : TypeId} (h : w.heap[b]? = some (.cells C t (0, 0))) (j : Nat) : w.frozen? ⟨b, j, none⟩ = false := by
  simp [World.frozen?, h]

theorem St.cell {B : Nat} {w : World} {σ : Sig} (h : St B w σ) {i : Nat} {o : Ob} (ho : σ.obs[i]? = some o) (j : Nat) (hj : j < 14) : w.cell? ⟨σ.bc, (i + 1) * 14 + j, none⟩ = (obCells o)[j]? := by
  obtain ⟨cur, h1, h2, h3, h4, h5⟩ := h.bc.2
  have hi : i < σ.obs.length := (List.getElem?_eq_some_iff.1 ho).1
  rw [cell_of_block h1, ← row_get σ.obs i j o ho hj, ← h5, List.getElem?_take, if_pos (by omega)]
  simp
theorem St.unfrozen {B : Nat} {w : World} {σ : Sig} (h : St B w σ) (j : Nat) : w.frozen? ⟨σ.bc, j, none⟩ = false := by
  obtain ⟨cur, h1, _⟩ := h.bc.2
  exact unfrozen_of_block h1 j
theorem St.ohCell {B : Nat} {w : World} {σ : Sig} (h : St B w σ) : w.cell? ⟨σ.oh, 0, none⟩ = some (ptr σ.hp) := by rw [cell_of_block h.oh.2]; rfl
theorem St.hpCell {B : Nat} {w : World} {σ : Sig} (h : St B w σ) : w.cell? ⟨σ.hp, 0, none⟩ = some (.slice (some ⟨σ.bc, 0, none⟩) (σ.obs.length + 1) σ.cap) := by
  obtain ⟨m, l, h1⟩ := h.hp.2
  rw [cell_of_block h1]; rfl

/-- Has: every object that there is. -/
theorem has_st {B : Nat} {w : World} {σ : Sig} (h : St B w σ) (i : Nat) (o : Ob) (ho : σ.obs[i]? = some o) :
    Calls Tryz.prog 17 #[ptr σ.hp, .int .i32 ((i + 1 : Nat) : Int)] w fun e w' => e = .returned (.bool true) ∧ w = w' := by
  have hi : i < σ.obs.length := (List.getElem?_eq_some_iff.1 ho).1
  have hf := h.few
  exact has_any σ.hp σ.bc (σ.obs.length + 1) σ.cap (i + 1) w h.hpCell (by omega) (by omega) (by omega) (h.cell ho 12 (by omega))
theorem at_st {B : Nat} {w : World} {σ : Sig} (h : St B w σ) (i : Nat) (o : Ob) (ho : σ.obs[i]? = some o) :
    Calls Tryz.prog 35 #[ptr σ.hp, .int .i32 ((i + 1 : Nat) : Int)] w fun e w' => e = .returned (.pointer (some ⟨σ.bc, (i + 1) * 14, none⟩)) ∧ w = w' := by
  have hi : i < σ.obs.length := (List.getElem?_eq_some_iff.1 ho).1
  have hf := h.few
  exact at_any σ.hp σ.bc (σ.obs.length + 1) σ.cap (i + 1) w h.hpCell (by omega) (by omega)
end Go.Proofs.YtlacgdnidilndaaGreatDoor
