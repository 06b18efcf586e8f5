/- Ahead of Drop: the list and the slots lose their first; a shape alone, in plain words. -/
import Derived.Test.YtlacgdnidilndaaGreatDoorOnly
import Derived.Test.YtlacgdnidilndaaGreatDoorPut
namespace Go.Proofs.YtlacgdnidilndaaGreatDoor
open Go.RowKit
open Go.Proofs (Tryz.prog)

theorem props_one : ∀ (n : Nat) (ps : List Value), PropsOK n ps → ∀ u ∈ ps, u.oneCell' = true
  | 0, ps, h, u, hu => by rw [show ps = [] from h] at hu; simp at hu
  | n + 1, ps, h, u, hu => by
    obtain ⟨kind, num, str, m, rest, h1, _, _, _, _, h2⟩ := h
    rw [h1] at hu
    rcases List.mem_append.1 hu with hu | hu
    · exact props_one n rest h2 u hu
    · exact prop_one kind num str u hu
theorem mem_cut {a : Nat} {xs : List Value} {P : Value → Prop} (h : ∀ u ∈ xs, P u) : ∀ u ∈ xs.drop a, P u := fun u hu => h u (List.mem_of_mem_drop hu)
theorem delete_list {W : World} {B g n c : Nat} {ks : List ByteArray} (hown : W.ownsRow B 104 2 (.slice (some ⟨g, 0, none⟩) n c) n (entCells ks)) (hn : ks.length = n) (h0 : 0 < n) :
    Calls Tryz.prog 93 #[.slice (some ⟨g, 0, none⟩) n c, .int .i64 0, .int .i64 1] W fun e w' => e = .returned (.slice (some ⟨g, 0, none⟩) (n - 1) c) ∧ Only (· = g) W w' ∧ ∀ j k, ks[j + 1]? = some k → w'.cell? ⟨g, j * 2, none⟩ = some (.string k) := by
  obtain ⟨h1, h2⟩ := hown
  rcases h2 with ⟨h2, h3⟩ | ⟨g', c', cur, h2, h3, h4, h5, h6, h7, h8⟩
  · cases h2
  · injection h2 with h2 _ h9
    injection h2 with h2
    injection h2 with h2
    subst h2 h9
    refine (delete_ent g n c cur W h4 h7 h0 h5 h6 ?_).mono ?_
    · rw [h8]; exact mem_cut (ent_one ks)
    · rintro e w' ⟨he, hw⟩
      rw [h8] at hw
      have hl : (entCells ks).length = n * 2 := h1
      have hsz : n * 2 ≤ cur.size := by omega
      refine ⟨he, ?_, fun j k hj => ?_⟩
      · rw [hw]
        exact Only.setCells (S := (· = g)) g rfl _ _ (Only.setCells (S := (· = g)) g rfl _ _ (Only.refl _ _).drew)
      · have hjn : j + 1 < n := by rw [← hn]; exact (List.getElem?_eq_some_iff.1 hj).1
        obtain ⟨e1, _⟩ := ent_get ks (j + 1) k hj
        have hd : ((entCells ks).drop 2)[j * 2]? = some (.string k) := by
          rw [List.getElem?_drop, show 2 + j * 2 = (j + 1) * 2 by omega]; exact e1
        have hdl : ((entCells ks).drop 2).length = (n - 1) * 2 := by rw [List.length_drop, hl]; omega
        have hin : j * 2 < ((entCells ks).drop 2).length := by rw [hdl]; omega
        have hcell := World.cell?_setCells_in g ((entCells ks).drop 2) 0 W.drew (fun i hi => by
          rw [hdl] at hi
          show (W.cell? _).isSome = true
          rw [Nat.zero_add, cell_of_block h4, Array.getElem?_eq_getElem (by omega)]; rfl) (j * 2) hin
        rw [hw, World.cell?_setCells_out g _ _ _ _ (fun _ _ => .inl (by show j * 2 < (n - 1) * 2; omega))]
        rw [Nat.zero_add] at hcell
        rw [hcell]
        have := List.getElem?_eq_getElem hin
        rw [hd] at this
        exact this.symm
theorem delete_slots {W : World} {B g n c : Nat} {ps : List Value} (hown : W.ownsRow B 66 7 (.slice (some ⟨g, 0, none⟩) n c) n ps) (h0 : 0 < n) (hps : ∀ u ∈ ps, u.oneCell' = true) :
    Calls Tryz.prog 94 #[.slice (some ⟨g, 0, none⟩) n c, .int .i64 0, .int .i64 1] W fun e w' => e = .returned (.slice (some ⟨g, 0, none⟩) (n - 1) c) ∧ Only (· = g) W w' := by
  obtain ⟨h1, h2⟩ := hown
  rcases h2 with ⟨h2, h3⟩ | ⟨g', c', cur, h2, h3, h4, h5, h6, h7, h8⟩
  · cases h2
  · injection h2 with h2 _ h9
    injection h2 with h2
    injection h2 with h2
    subst h2 h9
    refine (delete_prop g n c cur W h4 h7 h0 h5 h6 ?_).mono ?_
    · rw [h8]; exact mem_cut hps
    · rintro e w' ⟨he, hw⟩
      refine ⟨he, ?_⟩
      rw [hw]
      exact Only.setCells (S := (· = g)) g rfl _ _ (Only.setCells (S := (· = g)) g rfl _ _ (Only.refl _ _).drew)

/-- What alone leaves. -/
structure Lone (w w' : World) (bc p t g n c mp : Nat) (ks : List ByteArray) : Prop where
  ge : w.heap.size ≤ t ∧ w.heap.size ≤ g ∧ w.heap.size ≤ mp
  ne : t ≠ g ∧ t ≠ mp ∧ g ≠ mp
  only : Only (· = bc) w w'
  at8 : w'.cell? ⟨bc, p, none⟩ = some (ptr t)
  rest : ∀ j, j ≠ p → w'.cell? ⟨bc, j, none⟩ = w.cell? ⟨bc, j, none⟩
  free : ∀ j, w'.frozen? ⟨bc, j, none⟩ = false
  t0 : w'.cell? ⟨t, 0, none⟩ = some (.slice (some ⟨g, 0, none⟩) n c)
  t1 : w'.cell? ⟨t, 1, none⟩ = some (.map (some mp))
  t3 : w'.cell? ⟨t, 3, none⟩ = some (.bool true)
  tf : ∀ j, w'.frozen? ⟨t, j, none⟩ = false
  own : w'.ownsRow w.heap.size 104 2 (.slice (some ⟨g, 0, none⟩) n c) n (entCells ks)
  str : StrMap w' mp

theorem alone_own (bc r s bat B : Nat) (lv : Value) (nx : Option Nat) (ks : List ByteArray) (es : Array MapEntry) (clk : Nat) (cur : Array Value) (w : World) (hbc : w.heap[bc]? = some (.cells cur 88 (0, 0))) (h8 : cur[r * 14 + 8]? = some (ptr s))
    (hsh : w.heap[s]? = some (.cells #[lv, .map (some bat), .map nx, .bool false] 95 (0, 0))) (hown : w.ownsRow B 104 2 lv ks.length (entCells ks)) (hm : w.heap[bat]? = some (.map es clk)) (hst : ∀ e ∈ es.toList, ∃ k, e.key = .string k) (hn : ks.length ≤ 1000) (h0 : 0 < ks.length) :
    Calls Tryz.prog 88 #[.pointer (some ⟨bc, r * 14, none⟩)] w fun e w' => e = .returned (.tuple #[]) ∧ ∃ t g c mp, Lone w w' bc (r * 14 + 8) t g ks.length c mp ks := by
  refine (alone_any bc r s bat B lv nx ks es clk cur w hbc h8 hsh hown hm hn).mono ?_
  rintro e w' ⟨he, t, lv', mp, w1, hc, hw⟩
  obtain ⟨g, c, hlv, _, _⟩ := hc.own.form h0
  have hown1 := hc.own
  rw [hlv] at hown1
  have hz := hc.below.size
  have lbc : bc < w.heap.size := lt_of_heap hbc
  obtain ⟨g1, g2⟩ := hc.ge
  have hgg := (hown1.lt g rfl)
  obtain ⟨n1, n2, n3⟩ := hc.ne
  rw [hlv] at n2 n3
  have n2' : t ≠ g := fun e => n2 (by rw [e]; rfl)
  have n3' : g ≠ mp := fun e => n3 (by rw [e]; rfl)
  have hb1 : w1.heap[bc]? = some (.cells cur 88 (0, 0)) := (hc.below.block bc lbc).trans hbc
  have hblock : ∀ b, b ≠ bc → b ≠ t → w'.heap[b]? = w1.heap[b]? := fun b e1 e2 => by
    rw [hw]
    exact (Below.heap_setCell _ _ _ b e2).trans (Below.heap_setCell _ _ _ b e1)
  have htb : w'.heap[t]? = some (.cells #[lv', .map (some mp), .map none, .bool true] 95 (0, 0)) := by
    rw [hw]
    have e1 : (w1.setCell ⟨bc, r * 14 + 8, none⟩ (ptr t)).heap[t]? = some (.cells #[lv', .map (some mp), .map none, .bool false] 95 (0, 0)) := (Below.heap_setCell _ _ _ t (by show t ≠ bc; omega)).trans hc.shape
    exact (set_block e1 3 _).trans rfl
  have hbb : w'.heap[bc]? = some (.cells (cur.setIfInBounds (r * 14 + 8) (ptr t)) 88 (0, 0)) := by
    rw [hw]
    exact (Below.heap_setCell _ _ _ bc (by show bc ≠ t; omega)).trans (set_block hb1 (r * 14 + 8) _)
  have hlt : r * 14 + 8 < cur.size := (Array.getElem?_eq_some_iff.1 h8).1
  refine ⟨he, t, g, c, mp, ⟨⟨g1, hgg.1, g2⟩, ⟨n2', n1, n3'⟩, ?_, ?_, fun j hj => ?_, unfrozen_of_block hbb, ?_, ?_, ?_, unfrozen_of_block htb, own_same hown1 fun x hx => ?_, es, clk, ?_, hst⟩⟩
  · rw [hw]
    have h1 : Only (fun b => b = bc ∨ w.heap.size ≤ b) w w1 := Only.of_below hc.below
    exact ((h1.setCell ⟨bc, r * 14 + 8, none⟩ (.inl rfl) _).setCell ⟨t, 3, none⟩ (.inr g1) _).mono fun x hx hx2 => by omega
  · rw [cell_of_block hbb, Array.getElem?_setIfInBounds_self_of_lt hlt]
  · rw [cell_of_block hbb, cell_of_block hbc, Array.getElem?_setIfInBounds_ne (Ne.symm hj)]
  · rw [cell_of_block htb, hlv]; rfl
  · rw [cell_of_block htb]; rfl
  · rw [cell_of_block htb]; rfl
  · injection hx with hx
    subst hx
    exact hblock _ (by show g ≠ bc; omega) (Ne.symm n2')
  · exact (hblock mp (by omega) (Ne.symm n1)).trans hc.spots
end Go.Proofs.YtlacgdnidilndaaGreatDoor
