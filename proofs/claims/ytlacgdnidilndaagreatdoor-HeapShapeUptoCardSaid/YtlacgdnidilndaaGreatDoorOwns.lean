/- An object's own property, over the state: heap.Own, objects.Own. -/
import Derived.Test.YtlacgdnidilndaaGreatDoorOwn
namespace Go.Proofs.YtlacgdnidilndaaGreatDoor
open Go.RowKit
open Go.Proofs (Tryz.prog)

theorem props_len : ∀ (n : Nat) (ps : List Value), PropsOK n ps → ps.length = n * 7
  | 0, ps, h => by have h : ps = [] := h; subst h; rfl
  | n + 1, ps, h => by
    obtain ⟨kind, num, str, m, rest, rfl, _, _, _, _, hr⟩ := h
    rw [List.length_append, props_len n rest hr]
    have : (propCells kind num str).length = 7 := rfl
    omega
theorem props_get : ∀ (n p : Nat) (ps : List Value), PropsOK n ps → p < n → ∃ (kind : Int) (num : Nat) (str : ByteArray) (m : Nat), (∀ j, j < 7 → ps[p * 7 + j]? = (propCells kind num str)[j]?) ∧ 0 ≤ kind ∧ kind < 256 ∧ str.size = 2 * m ∧ str.size ≤ 2
  | n + 1, p, ps, h, hp => by
    obtain ⟨kind, num, str, m, rest, rfl, h1, h2, h3, h4, hr⟩ := h
    have hl := props_len n rest hr
    by_cases e : p < n
    · obtain ⟨kind', num', str', m', g1, g2⟩ := props_get n p rest hr e
      exact ⟨kind', num', str', m', fun j hj => by rw [List.getElem?_append_left (by omega)]; exact g1 j hj, g2⟩
    · have : p = n := by omega
      subst this
      exact ⟨kind, num, str, m, fun j hj => by rw [List.getElem?_append_right (by omega), hl]; congr 1; omega, h1, h2, h3, h4⟩
theorem ent_get : ∀ (ks : List ByteArray) (p : Nat) (k : ByteArray), ks[p]? = some k → (entCells ks)[p * 2]? = some (.string k) ∧ (entCells ks)[p * 2 + 1]? = some (.int .u8 7)
  | x :: ks, 0, k, h => by
    have : x = k := by simpa using h
    subst this
    exact ⟨rfl, rfl⟩
  | x :: ks, p + 1, k, h => by
    obtain ⟨h1, h2⟩ := ent_get ks p k (by simpa using h)
    have e : entCells (x :: ks) = [.string x, .int .u8 7] ++ entCells ks := rfl
    rw [e, List.getElem?_append_right (by simp; omega), List.getElem?_append_right (by simp; omega)]
    refine ⟨?_, ?_⟩
    · rw [← h1]; congr 1; simp; omega
    · rw [← h2]; congr 1; simp; omega
theorem row_cell {w : World} {B : Nat} {e : TypeId} {size g n cap : Nat} {xs : List Value} (h : w.ownsRow B e size (.slice (some ⟨g, 0, none⟩) n cap) n xs) {j : Nat} {v : Value} (hj : xs[j]? = some v) : w.cell? ⟨g, j, none⟩ = some v := by
  have h1 := h.cells (g := g) rfl j v hj
  have hadd : (⟨g, 0, none⟩ : Addr).add j = ⟨g, j, none⟩ := by unfold Addr.add; split <;> simp_all
  rw [← hadd]; exact h1

theorem own_st_no {B : Nat} {w : World} {σ : Sig} (h : St B w σ) (i : Nat) (o : Ob) (ho : σ.obs[i]? = some o) (k : ByteArray) (m : Nat) (hs : k.size ≤ 100000000) (hm : k.size = 2 * m) (hx : okU (unpack k.data.toList) = true ∨ k ∉ o.ks) :
    Calls Tryz.prog 24 #[ptr σ.hp, .int .i32 ((i + 1 : Nat) : Int), .string k] w fun e w' => e = .returned (.tuple #[zeroProp, .bool false]) ∧ Below w.heap.size w w' := by
  have hi : i < σ.obs.length := (List.getElem?_eq_some_iff.1 ho).1
  have hf := h.few
  cases hok : okU (unpack k.data.toList) with
  | true => exact own_place σ.hp σ.bc (σ.obs.length + 1) σ.cap (i + 1) m k w h.hpCell (by omega) (by omega) (h.cell ho 10 (by omega)) hs hm hok
  | false =>
    have hx' : k ∉ o.ks := hx.resolve_left (by rw [hok]; simp)
    obtain ⟨lv, bat, nx, h1, h2, h3, h4, h5, h6, h8⟩ := h.shape _ _ (h.ob i o ho).1
    exact own_no σ.hp σ.bc (σ.obs.length + 1) σ.cap (i + 1) o.sh bat m o.ks k w h.hpCell (by omega) (by omega) (h.cell ho 8 (by omega)) (by rw [cell_of_block h1]; rfl) h6 hs hm hok hx'

theorem own_st_yes {B : Nat} {w : World} {σ : Sig} (h : St B w σ) (i : Nat) (o : Ob) (ho : σ.obs[i]? = some o) (k : ByteArray) (m : Nat) (hs : k.size ≤ 100000000) (hm : k.size = 2 * m) (hok : okU (unpack k.data.toList) = false) (hk : k ∈ o.ks) (hlen : o.ks.length ≤ 1000) :
    ∃ (kind : Int) (num : Nat) (str : ByteArray) (q : Nat), 0 ≤ kind ∧ kind < 256 ∧ str.size = 2 * q ∧ str.size ≤ 2 ∧ ∀ W, Below w.heap.size w W →
    Calls Tryz.prog 24 #[ptr σ.hp, .int .i32 ((i + 1 : Nat) : Int), .string k] W fun e w' => e = .returned (.tuple #[.agg #[.int .u8 kind, .int .i32 0, .float .f64 num, .string str, .int .i32 0, .int .i32 0, .int .u8 7], .bool true]) ∧ Below W.heap.size W w' := by
  obtain ⟨p, hp, hkp⟩ := spotOf_some k o.ks 0 hk
  rw [Nat.zero_add] at hp
  have hpl : p < o.ks.length := (List.getElem?_eq_some_iff.1 hkp).1
  obtain ⟨kind, num, str, q, g1, g2, g3, g4, g5⟩ := props_get o.ks.length p o.ps (h.ob i o ho).2.2.2 hpl
  refine ⟨kind, num, str, q, g2, g3, g4, g5, fun W hB => ?_⟩
  have h := h.below hB
  have hi : i < σ.obs.length := (List.getElem?_eq_some_iff.1 ho).1
  have hf := h.few
  obtain ⟨lv, bat, nx, h1, h2, h3, h4, h5, h6, h8⟩ := h.shape _ _ (h.ob i o ho).1
  obtain ⟨_, r2, _, _⟩ := h.ob i o ho
  obtain ⟨g, cap, hsl, _, _⟩ := r2.form (by omega)
  obtain ⟨ge, ce, hlv, _, _⟩ := h3.form (by omega)
  rw [hsl] at r2
  rw [hlv] at h3
  have cc : ∀ j v, j < 7 → (propCells kind num str)[j]? = some v → W.cell? ⟨g, p * 7 + j, none⟩ = some v := fun j v hj hv => row_cell r2 ((g1 j hj).trans hv)
  obtain ⟨_, e2⟩ := ent_get o.ks p k hkp
  exact own_yes σ.hp σ.bc (σ.obs.length + 1) σ.cap (i + 1) o.sh bat m p g o.ks.length cap ge o.ks.length ce num kind str o.ks k W h.hpCell (by omega) (by omega) (h.cell ho 8 (by omega)) (by rw [cell_of_block h1]; rfl) h6
    ((h.cell ho 9 (by omega)).trans (by rw [← hsl]; rfl)) (by rw [cell_of_block h1, ← hlv]; rfl) hpl hpl hlen hlen (cc 0 _ (by omega) rfl) (cc 1 _ (by omega) rfl) (cc 2 _ (by omega) rfl) (cc 3 _ (by omega) rfl) (cc 4 _ (by omega) rfl) (cc 5 _ (by omega) rfl) (cc 6 _ (by omega) rfl)
    (row_cell h3 e2) hs hm hok hp
end Go.Proofs.YtlacgdnidilndaaGreatDoor
