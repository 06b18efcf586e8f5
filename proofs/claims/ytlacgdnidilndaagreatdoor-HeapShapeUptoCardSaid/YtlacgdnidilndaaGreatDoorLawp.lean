/- What holds at the heads of the law's loops. -/
import Derived.Test.YtlacgdnidilndaaGreatDoorInv
import Derived.Deep.RegionHeld3
import Derived.Deep.RegionLaw
namespace Go.Proofs.YtlacgdnidilndaaGreatDoor
open Go.RowKit
open Go.Proofs (Tryz.prog)

theorem size33 : (Tryz.prog.info? 33).map (·.size) = some 15 := by kernel_rfl

/-- The description's cells, and a key's, at every later world. -/
theorem desc_there {w W : World} {oh : Nat} {σ : Sig} {db : Nat} {kz : Int} {num : Nat} {txt : ByteArray} (h : Aside w W σ db (descCells kz num txt)) (hi : Inv w W oh σ) {b o : Nat} {s : ByteArray} (hk : ∀ X, Below w.heap.size w X → X.cell? ⟨b, o, none⟩ = some (.string s)) :
    ∀ Y, Below W.heap.size W Y → Y.cell? ⟨b, o, none⟩ = some (.string s) ∧ Y.cell? ⟨db, 0, none⟩ = some (.bool true) ∧ Y.cell? ⟨db, 1, none⟩ = some (.bool false) ∧ Y.cell? ⟨db, 2, none⟩ = some (.bool false) ∧ Y.cell? ⟨db, 3, none⟩ = some (.bool true) ∧ Y.cell? ⟨db, 4, none⟩ = some (.bool true) ∧ Y.cell? ⟨db, 5, none⟩ = some (.bool true) ∧ Y.cell? ⟨db, 6, none⟩ = some (.int .i64 kz) ∧ Y.cell? ⟨db, 7, none⟩ = some (.float .f64 num) ∧ Y.cell? ⟨db, 8, none⟩ = some (.string txt) ∧ Y.cell? ⟨db, 9, none⟩ = some (.int .i64 0) ∧ Y.cell? ⟨db, 10, none⟩ = some (.int .i64 0) ∧ Y.cell? ⟨db, 11, none⟩ = some (.int .i64 0) ∧ Y.cell? ⟨db, 12, none⟩ = some (.bool true) ∧ Y.cell? ⟨db, 13, none⟩ = some (.bool true) ∧ Y.cell? ⟨db, 14, none⟩ = some (.bool true) := fun Y hY => by
  have H := h.next hY
  exact ⟨hk Y (hi.next hY).below, (H.cells 0).1, (H.cells 1).1, (H.cells 2).1, (H.cells 3).1, (H.cells 4).1, (H.cells 5).1, (H.cells 6).1, (H.cells 7).1, (H.cells 8).1, (H.cells 9).1, (H.cells 10).1, (H.cells 11).1, (H.cells 12).1, (H.cells 13).1, (H.cells 14).1⟩

/-- The three objects between the rounds of the first loop. -/
structure One (σ : Sig) (K : List ByteArray) (j : Nat) (a : Ob) (n : Nat) (f : ByteArray) : Prop where
  obs : ∃ b c, σ.obs = [a, b, c] ∧ b.ks = a.ks ∧ c.ks = []
  takes : Takes (K.take j) a.ks
  len : a.ks.length = n ∧ n ≤ j
  first : n = 0 ∨ ∃ r, a.ks = keyOf f :: r ∧ elig f
theorem One.take {σ σ1 σ2 : Sig} {K : List ByteArray} {j n : Nat} {a bo co a2 b2 : Ob} {f f2 s : ByteArray} (h : One σ K j a n f) (hob : σ.obs = [a, bo, co]) (h1 : σ1.obs = σ.obs.set 0 a2) (h2 : σ2.obs = σ1.obs.set 1 b2)
    (ha : a2.ks = a.ks ++ [keyOf s]) (hb : b2.ks = bo.ks ++ [keyOf s]) (hbk : bo.ks = a.ks) (hck : co.ks = []) (ht : K.take (j + 1) = K.take j ++ [s]) (he : elig s) (hf0 : n = 0 → f2 = s) (hf1 : n ≠ 0 → f2 = f) : One σ2 K (j + 1) a2 (n + 1) f2 := by
  refine ⟨⟨b2, co, by rw [h2, h1, hob]; rfl, by rw [hb, ha, hbk], hck⟩, by rw [ht, ha]; exact h.takes.take he, ⟨by rw [ha, List.length_append, h.len.1]; rfl, by have := h.len.2; omega⟩, .inr ?_⟩
  by_cases hn : n = 0
  · have h0 : a.ks = [] := List.eq_nil_of_length_eq_zero (by rw [h.len.1, hn])
    exact ⟨[], by rw [ha, h0, hf0 hn]; rfl, by rw [hf0 hn]; exact he⟩
  · rcases h.first with h3 | ⟨r, h3, h4⟩
    · exact absurd h3 hn
    · exact ⟨r ++ [keyOf s], by rw [ha, h3, hf1 hn]; rfl, by rw [hf1 hn]; exact h4⟩

/-- The three objects between the rounds of the second loop. -/
structure Two (σ : Sig) (K : List ByteArray) (j : Nat) (a c : Ob) (n : Nat) (f : ByteArray) : Prop where
  obs : ∃ b, σ.obs = [a, b, c]
  takesA : Takes K a.ks
  takes : Takes (K.drop j) c.ks
  len : a.ks.length = n ∧ n ≤ K.length
  lenc : c.ks.length + j ≤ K.length
  first : n = 0 ∨ ∃ r, a.ks = keyOf f :: r ∧ elig f
theorem One.start {σ : Sig} {K : List ByteArray} {a : Ob} {n : Nat} {f : ByteArray} (h : One σ K K.length a n f) : ∃ c, Two σ K K.length a c n f := by
  obtain ⟨b, c, h1, h2, h3⟩ := h.obs
  have ht := h.takes
  rw [List.take_length] at ht
  exact ⟨c, ⟨b, h1⟩, ht, by rw [List.drop_length, h3]; intro k; simp, h.len, by rw [h3]; simp, h.first⟩
theorem drop_one {K : List ByteArray} {j : Nat} {s : ByteArray} (h : K[j]? = some s) : K.drop j = s :: K.drop (j + 1) := by
  obtain ⟨hj, rfl⟩ := List.getElem?_eq_some_iff.1 h
  exact List.drop_eq_getElem_cons hj
theorem mem_drop {K : List ByteArray} {j : Nat} {s : ByteArray} (h : K[j]? = some s) (x : ByteArray) : x ∈ K.drop j ↔ x ∈ K.drop (j + 1) ++ [s] := by
  rw [drop_one h]
  simp [or_comm]
theorem Two.skip {σ : Sig} {K : List ByteArray} {j : Nat} {a c : Ob} {n : Nat} {f s : ByteArray} (h : Two σ K (j + 1) a c n f) (hs : K[j]? = some s) (hno : ¬ (elig s ∧ keyOf s ∉ c.ks)) : Two σ K j a c n f :=
  ⟨h.obs, h.takesA, (h.takes.skip hno).swap (mem_drop hs), h.len, by have := h.lenc; omega, h.first⟩
theorem Two.take {σ σ1 : Sig} {K : List ByteArray} {j : Nat} {a c c2 : Ob} {n : Nat} {f s : ByteArray} (h : Two σ K (j + 1) a c n f) (hs : K[j]? = some s) (he : elig s) (h1 : σ1.obs = σ.obs.set 2 c2) (hc : c2.ks = c.ks ++ [keyOf s]) : Two σ1 K j a c2 n f := by
  obtain ⟨b, hb⟩ := h.obs
  refine ⟨⟨b, by rw [h1, hb]; rfl⟩, h.takesA, by rw [hc]; exact (h.takes.take he).swap (mem_drop hs), h.len, ?_, h.first⟩
  have := h.lenc
  rw [hc, List.length_append]
  simp
  omega
/-- Behind the second loop: as many keys. -/
theorem Two.same {w W : World} {oh : Nat} {σ : Sig} {K : List ByteArray} {a c : Ob} {n : Nat} {f : ByteArray} (h : Two σ K 0 a c n f) (hi : Inv w W oh σ) : c.ks.length = n := by
  obtain ⟨b, hb⟩ := h.obs
  rw [← h.len.1]
  refine (same_length (hi.nodup 0 a (by rw [hb]; rfl)) (hi.nodup 2 c (by rw [hb]; rfl)) fun k => ?_).symm
  have h2 := h.takes
  rw [List.drop_zero] at h2
  rw [h.takesA k, h2 k]

/-- Do the first k keys agree. -/
def eqUp (A C : List ByteArray) (k : Nat) : Bool := decide (A.take k = C.take k)
theorem eqUp_zero (A C : List ByteArray) : eqUp A C 0 = true := by simp [eqUp]
theorem eqUp_step {A C : List ByteArray} {k : Nat} {x y : ByteArray} (hx : A[k]? = some x) (hy : C[k]? = some y) : eqUp A C (k + 1) = (eqUp A C k && decide (x = y)) := by
  unfold eqUp
  rw [List.take_add_one, List.take_add_one, hx, hy]
  have e : (A.take k).length = (C.take k).length := by
    have h1 := (List.getElem?_eq_some_iff.1 hx).1
    have h2 := (List.getElem?_eq_some_iff.1 hy).1
    simp; omega
  have : (A.take k ++ [x] = C.take k ++ [y]) ↔ (A.take k = C.take k ∧ x = y) :=
    ⟨fun h => by obtain ⟨h1, h2⟩ := List.append_inj h e; exact ⟨h1, by simpa using h2⟩, fun ⟨h1, h2⟩ => by rw [h1, h2]⟩
  simp [this]
theorem eqUp_all {A C : List ByteArray} {n : Nat} (ha : A.length = n) (hc : C.length = n) : eqUp A C n = decide (A = C) := by
  unfold eqUp
  rw [List.take_of_length_le (by omega), List.take_of_length_le (by omega)]
theorem shown_same {x y : ByteArray} (hx : ∃ m, x.size = 2 * m ∧ x.size ≤ 4194304) (hy : ∃ m, y.size = 2 * m ∧ y.size ≤ 4194304) : (showK x = showK y) ↔ x = y := by
  obtain ⟨m, h1, _⟩ := hx
  obtain ⟨k, h2, _⟩ := hy
  exact ⟨showK_inj h1 h2, fun h => by rw [h]⟩

theorem shown_beq {z1 z2 y1 y2 : ByteArray} (h : z1 = z2 ↔ y1 = y2) : (z1.toList == z2.toList) = decide (y1 = y2) := by
  rw [← beq_toListBytes, beq_bytes]
  simp [h]
theorem below_dn {B : Nat} {w w' : World} (h : Below B w w') (n : Nat) : Below B w (w'.drewN n) :=
  ⟨h.os, h.tape, h.output, h.size, h.block⟩

/-- Keys with the number of keys named, and where they lie. -/
theorem keys_n {w W : World} {oh : Nat} {σ : Sig} (h : Inv w W oh σ) (i : Nat) (o : Ob) (ho : σ.obs[i]? = some o) (N : Nat) (hN : o.ks.length = N) (hlen : N ≤ 1000) (hst : ∀ k ∈ o.ks, ∃ m, k.size = 2 * m ∧ k.size ≤ 4194304) (r : Int) (hr : r = ((i + 1 : Nat) : Int)) :
    Calls Tryz.prog 11 #[.pointer (some ⟨oh, 0, none⟩), .int .i64 r] W fun e w' => ∃ A C, e = .returned (.slice A N C) ∧ (0 < N → ∃ g, A = some ⟨g, 0, none⟩ ∧ g < w'.heap.size ∧ ∀ (k : Nat) (x : ByteArray), o.ks[k]? = some x → w'.cell? ⟨g, k, none⟩ = some (.string (showK x))) ∧ Below W.heap.size W w' := by
  subst hN
  refine (keys_inv h i o ho hlen hst r hr).mono fun e w' ⟨A, C, he, hv, hb⟩ => ⟨A, C, he, fun hpos => ?_, hb⟩
  rcases hv.2 with ⟨h1, h2⟩ | ⟨g, c, cur, h1, _⟩
  · omega
  · injection h1 with h1 h4 h5
    subst h1
    refine ⟨g, rfl, (hv.lt g rfl).2, fun k x hx => row_cell hv ?_⟩
    unfold shown
    rw [List.getElem?_map, hx]
    rfl

end Go.Proofs.YtlacgdnidilndaaGreatDoor
