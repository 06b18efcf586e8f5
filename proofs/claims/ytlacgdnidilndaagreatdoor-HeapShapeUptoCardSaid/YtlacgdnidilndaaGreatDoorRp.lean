/- The answer's packed text: contract of ecmacoreref1.P, and of the two calls P, Index as HeapShape makes them. -/
import Derived.Test.YtlacgdnidilndaaGreatDoorRunits
namespace Go.Proofs.YtlacgdnidilndaaGreatDoor
open Go.RowKit
open Go.Proofs (Tryz.prog)

set_option maxHeartbeats 1000000 in
set_option maxRecDepth 100000 in
theorem rp_any (s : ByteArray) (w : World) (hs : s.size ≤ 2097152) (hT : Lib.Utf8Tabs 2 3 w) :
    Calls Tryz.prog 7 #[.string s] w fun e w' => ∃ l, e = .returned (.string ⟨(pack l).toArray⟩) ∧ l.length ≤ s.size ∧ Col s s.size l ∧ Below w.heap.size w w' := by
  have HU := Lib.hid (runits_any s w hs hT)
  clear hT
  go_enter Tryz.func7, Tryz.ntmps7
  go_wp2_with fail
  go_at_call 21
  refine HU.out.mono ?_
  rintro e w1 ⟨v, l, rfl, hown, hl, hcol, hb⟩
  have HCol := Lib.hid hcol
  clear hcol
  rcases hown.2 with ⟨rfl, h0⟩ | ⟨g, cap, cur, rfl, hg1, hg, _⟩
  · obtain rfl : l = [] := List.eq_nil_of_length_eq_zero h0
    clear hown
    go_wp2_with (go_at_call 22; refine (rpack_nil _).mono ?_; rintro e w2 ⟨rfl, rfl⟩)
    go_ret
    exact ⟨[], rfl, hl, HCol.out, hb⟩
  · have hgl : g < w1.heap.size := (Array.getElem?_eq_some_iff.1 hg).1
    have HP := Lib.hid (rpack_any g cap l w1 (by omega) HCol.out.1 (row_cells hown) hgl)
    clear hown hg
    go_wp2_with (go_at_call 22; refine HP.out.mono ?_; rintro e w2 ⟨rfl, hb2⟩)
    go_ret
    exact ⟨l, rfl, hl, HCol.out, hb.trans (hb2.mono hb.size)⟩

/-- The key that P gives, of a text that is plain ASCII, is the key that Of gives. -/
theorem key_ascii {s : ByteArray} {l : List Nat} (h : Col s s.size l) (ha : asciiB s) : keyOf s = ⟨(pack l).toArray⟩ := by
  unfold keyOf keyL
  rw [if_pos ha, widen_pack, h.2.1 ha, List.take_of_length_le (by rw [← Lib.size_eq]; exact Nat.le_refl _)]
theorem key_even (s : ByteArray) : ∃ n, (keyOf s).size = 2 * n ∧ n ≤ s.size := by
  have e : (keyOf s).size = (keyL s).length := by unfold keyOf; simp [← ByteArray.size_data]
  rw [e]
  unfold keyL
  split
  · exact ⟨s.size, by rw [widen_length, ← Lib.size_eq], Nat.le_refl _⟩
  · exact ⟨(unitsOf s).length, pack_length _, (unitsOf_facts s.size s (Nat.le_refl _)).2.1⟩
/-- Where the text is not plain ASCII its key is no place. -/
theorem key_other {s : ByteArray} (ha : ¬ asciiB s) : okU (unpack (keyOf s).data.toList) = false := by
  have e : (keyOf s).data.toList = pack (unitsOf s) := by unfold keyOf keyL; rw [if_neg ha]
  have hf := unitsOf_facts s.size s (Nat.le_refl _)
  rw [e, unpack_pack _ hf.1]
  obtain ⟨u, hu, hu2⟩ := hf.2.2 (by
    apply Classical.byContradiction
    intro hn
    apply ha
    intro i hi
    apply Classical.byContradiction
    intro hh
    exact hn ⟨i, hi, by omega⟩)
  apply Bool.eq_false_iff.2
  intro hk
  unfold okU at hk
  rw [Bool.and_eq_true, Bool.and_eq_true, List.all_eq_true] at hk
  have h1 := hk.1.2 u hu
  unfold dig at h1
  have := of_decide_eq_true h1
  omega

/-- WHAT HeapShape ASKS: behind P and Index: the number is at least 0 where the key is a place. -/
theorem place_of {s : ByteArray} {l : List Nat} (h : Col s s.size l) (hp : ridx (unpack (pack l)) < 0) : okU (unpack (keyOf s).data.toList) = false := by
  by_cases ha : asciiB s
  · rw [key_ascii h ha]
    apply Bool.eq_false_iff.2
    intro hk
    unfold ridx at hp
    rw [if_pos hk] at hp
    omega
  · exact key_other ha
/-- And the other way: less than 0 where it is none. -/
theorem no_place {s : ByteArray} {l : List Nat} (h : Col s s.size l) (hk : okU (unpack (keyOf s).data.toList) = false) : ridx (unpack (pack l)) < 0 := by
  by_cases ha : asciiB s
  · rw [key_ascii h ha] at hk
    rw [ridx_no hk]; omega
  · have hu : ∃ u ∈ l, 128 ≤ u := h.2.2 (by
      apply Classical.byContradiction
      intro hn
      apply ha
      intro i hi
      apply Classical.byContradiction
      intro hh
      exact hn ⟨i, hi, by omega⟩)
    obtain ⟨u, hu, hu2⟩ := hu
    have hno : okU (unpack (pack l)) = false := by
      rw [unpack_pack _ h.1]
      apply Bool.eq_false_iff.2
      intro hk
      unfold okU at hk
      rw [Bool.and_eq_true, Bool.and_eq_true, List.all_eq_true] at hk
      have h1 := hk.1.2 u hu
      unfold dig at h1
      have := of_decide_eq_true h1
      omega
    rw [ridx_no hno]; omega
end Go.Proofs.YtlacgdnidilndaaGreatDoor
