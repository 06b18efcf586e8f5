/- An object's own property: contracts of heap.Own, objects.Own. -/
import Derived.Test.YtlacgdnidilndaaGreatDoorTold
import Derived.Test.YtlacgdnidilndaaGreatDoorMaps
import Derived.Test.YtlacgdnidilndaaGreatDoorRp
import Derived.Test.YtlacgdnidilndaaGreatDoorLaws
namespace Go.Proofs.YtlacgdnidilndaaGreatDoor
open Go.RowKit
open Go.Proofs (Tryz.prog)

theorem spots_same {w w' : World} {b : Nat} {ks : List ByteArray} (h : SpotsOK w b ks) (hb : w'.heap[b]? = w.heap[b]?) : SpotsOK w' b ks := by
  obtain ⟨es, clk, h1, h2⟩ := h
  exact ⟨es, clk, hb.trans h1, h2⟩
theorem spots_lt {w : World} {b : Nat} {ks : List ByteArray} (h : SpotsOK w b ks) : b < w.heap.size := by
  obtain ⟨es, clk, h1, h2⟩ := h
  exact lt_of_heap h1
theorem lt_of_cell {w : World} {b j : Nat} {v : Value} (h : w.cell? ⟨b, j, none⟩ = some v) : b < w.heap.size := by
  rcases Nat.lt_or_ge b w.heap.size with h1 | h1
  · exact h1
  · exfalso
    simp [World.cell?, Array.getElem?_eq_none h1] at h

def zeroProp : Value := .agg #[.int .u8 0, .int .i32 0, .float .f64 0, .string ⟨#[]⟩, .int .i32 0, .int .i32 0, .int .u8 0]
theorem index_is (k : ByteArray) (m : Nat) (w : World) (b : Bool) (hs : k.size ≤ 100000000) (hm : k.size = 2 * m) (ho : okU (unpack k.data.toList) = b) :
    Calls Tryz.prog 37 #[.string k] w fun e w' => (∃ v, e = .returned (.tuple #[.int .u32 v, .bool b])) ∧ Below w.heap.size w w' := by
  have h := index_any k m w hs hm
  rw [ho] at h
  exact h
theorem slot_no (s bat : Nat) (ks : List ByteArray) (k : ByteArray) (w : World) (h1 : w.cell? ⟨s, 1, none⟩ = some (.map (some bat))) (h : SpotsOK w bat ks) (hk : k ∉ ks) :
    Calls Tryz.prog 38 #[ptr s, .string k] w fun e w' => e = .returned (.int .i64 (-1)) ∧ w = w' := by
  have hh := slot_any s bat ks k w h1 h
  unfold slotOf at hh
  rw [spotOf_none k ks 0 hk] at hh
  exact hh

set_option maxHeartbeats 4000000 in
set_option maxRecDepth 100000 in
theorem own_no (hp bc n cap r sh bat m : Nat) (ks : List ByteArray) (k : ByteArray) (w : World) (hc : w.cell? ⟨hp, 0, none⟩ = some (.slice (some ⟨bc, 0, none⟩) n cap)) (h1 : r < n) (hn : n ≤ 100)
    (hsh : w.cell? ⟨bc, r * 14 + 8, none⟩ = some (ptr sh)) (hat : w.cell? ⟨sh, 1, none⟩ = some (.map (some bat))) (hsp : SpotsOK w bat ks)
    (hs : k.size ≤ 100000000) (hm : k.size = 2 * m) (ho : okU (unpack k.data.toList) = false) (hk : k ∉ ks) :
    Calls Tryz.prog 24 #[ptr hp, .int .i32 r, .string k] w fun e w' => e = .returned (.tuple #[zeroProp, .bool false]) ∧ Below w.heap.size w w' := by
  unfold zeroProp
  have l1 := lt_of_cell hc
  have l2 := lt_of_cell hsh
  have l3 := lt_of_cell hat
  have l4 := spots_lt hsp
  have HI : ∀ W, Hid (Calls Tryz.prog 37 #[.string k] W fun e w' => (∃ v, e = .returned (.tuple #[.int .u32 v, .bool false])) ∧ Below W.heap.size W w') := fun W => Lib.hid (index_is k m W false hs hm ho)
  have HL : ∀ W : World, W.cell? ⟨sh, 1, none⟩ = some (.map (some bat)) → W.heap[bat]? = w.heap[bat]? → Hid (Calls Tryz.prog 38 #[ptr sh, .string k] W fun e w' => e = .returned (.int .i64 (-1)) ∧ W = w') :=
    fun W e1 e2 => Lib.hid (slot_no sh bat ks k W e1 (spots_same hsp e2) hk)
  have HSL := Lib.hid HL
  clear hs hm ho HL
  unfold ptr at *
  go_enter Tryz.func24, Tryz.ntmps24
  go_wp2_with (first | (go_at_call 35; refine (at_any hp bc n cap r _ ((World.cell?_alloc_lt _ _ _ l1).trans hc) h1 hn).mono ?_; rintro e w' ⟨rfl, rfl⟩) | (go_at_call 37; refine (HI _).out.mono ?_; rintro e w1 ⟨⟨v, rfl⟩, hb⟩; obtain ⟨hcc, hff⟩ := bcell hb; have hz : w.heap.size < w1.heap.size := by have := hb.size; simp at this; omega) | (go_at_call 38; refine (HSL.out _ ((hb.cell (p := ⟨sh, 1, none⟩) (by simp; omega)).trans ((World.cell?_alloc_lt _ _ _ l3).trans hat)) ((hb.block bat (by simp; omega)).trans (Below.heap_alloc _ _ _ l4))).out.mono ?_; rintro e w2 ⟨rfl, rfl⟩))
  refine bodyPost_ret (v := .tuple #[.agg #[.int .u8 0, .int .i32 0, .float .f64 0, .string ⟨#[]⟩, .int .i32 0, .int .i32 0, .int .u8 0], .bool false]) (by simp [results, Tryz.results24, go_sem, hcc]) rfl ⟨rfl, ?_⟩
  repeat refine Below.setCell ?_ (by simp) _
  exact ((Below.refl _ _).alloc (Nat.le_refl _) _).trans (hb.mono (by simp))

theorem look_place (v : Int) (w : World) : (Instr.lookup 86 (.map none) (.int .u32 v) true).run Tryz.prog w = .ok (.tuple #[.agg #[.int .u8 0, .int .i32 0, .float .f64 0, .string ⟨#[]⟩, .int .i32 0, .int .i32 0, .int .u8 0], .bool false]) w := by kernel_rfl
set_option maxHeartbeats 400000 in
set_option maxRecDepth 100000 in
theorem own_place (hp bc n cap r m : Nat) (k : ByteArray) (w : World) (hc : w.cell? ⟨hp, 0, none⟩ = some (.slice (some ⟨bc, 0, none⟩) n cap)) (h1 : r < n) (hn : n ≤ 100)
    (hel : w.cell? ⟨bc, r * 14 + 10, none⟩ = some (.map none)) (hs : k.size ≤ 100000000) (hm : k.size = 2 * m) (ho : okU (unpack k.data.toList) = true) :
    Calls Tryz.prog 24 #[ptr hp, .int .i32 r, .string k] w fun e w' => e = .returned (.tuple #[zeroProp, .bool false]) ∧ Below w.heap.size w w' := by
  unfold zeroProp
  have l1 := lt_of_cell hc
  have l2 := lt_of_cell hel
  have HI : ∀ W, Hid (Calls Tryz.prog 37 #[.string k] W fun e w' => (∃ v, e = .returned (.tuple #[.int .u32 v, .bool true])) ∧ Below W.heap.size W w') := fun W => Lib.hid (index_is k m W true hs hm ho)
  clear hs hm ho
  unfold ptr at *
  go_enter Tryz.func24, Tryz.ntmps24
  go_upto_region 5 with (first | (at_lookup; refine wpList_look rfl (.tmp 28) (.tmp 29) 86 true rfl _ _ _ rfl rfl (look_place _ _) ?_) | (go_at_call 35; refine (at_any hp bc n cap r _ ((World.cell?_alloc_lt _ _ _ l1).trans hc) h1 hn).mono ?_; rintro e w' ⟨rfl, rfl⟩) | (go_at_call 37; refine (HI _).out.mono ?_; rintro e w1 ⟨⟨v, rfl⟩, hb⟩; obtain ⟨hcc, hff⟩ := bcell hb;  have hz : w.heap.size < w1.heap.size := by have := hb.size; simp at this; omega))
  have hB1 : Below w.heap.size w (w1.alloc (.cells #[.int .u8 0, .int .i32 0, .float .f64 0, .string ⟨#[]⟩, .int .i32 0, .int .i32 0, .int .u8 0] 66)) :=
    (((Below.refl _ _).alloc (Nat.le_refl _) _).trans (hb.mono (by simp))).alloc (by omega) _
  have e1 := heap_new w1 (.cells #[.int .u8 0, .int .i32 0, .float .f64 0, .string ⟨#[]⟩, .int .i32 0, .int .i32 0, .int .u8 0] 66)
  have e2 : (w1.alloc (.cells #[.int .u8 0, .int .i32 0, .float .f64 0, .string ⟨#[]⟩, .int .i32 0, .int .i32 0, .int .u8 0] 66)).heap[w.heap.size]? = some (.cells #[.int .u8 0, .int .i32 0, .float .f64 0, .string ⟨#[]⟩, .int .i32 0, .int .i32 0, .int .u8 0] 66 (0, 0)) :=
    (Below.heap_alloc _ _ _ (by omega)).trans ((hb.block w.heap.size (by simp)).trans (heap_new _ _))
  have E1 := Lib.hid e1
  have E2 := Lib.hid e2
  clear e1 e2 hcc hff hb
  generalize w1.alloc (.cells #[.int .u8 0, .int .i32 0, .float .f64 0, .string ⟨#[]⟩, .int .i32 0, .int .i32 0, .int .u8 0] 66) = W2 at *
  go_wp2_with (first | (refine wpList_load_row rfl 66 (.tmp 11) rfl w1.heap.size rfl 66 _ (0, 0) _ E1.out Tryz.underlying66 rfl (by kernel_rfl) ?_) | (refine wpList_store_row rfl 66 (.tmp 6) (.tmp 33) rfl w.heap.size _ rfl rfl 66 _ E2.out (by kernel_rfl) rfl (by simp [Value.oneCell']) ?_))
  refine bodyPost_ret (results_cell_tmp rfl _ _ w.heap.size 66 _ (0, 0) _ _ rfl rfl (setRow_heap _ _ _ _ _ _ E2.out) Tryz.underlying66 rfl (by kernel_rfl)) rfl ⟨rfl, ?_⟩
  exact below_setRow hB1 (Nat.le_refl _) _

theorem slot_yes (s bat p : Nat) (ks : List ByteArray) (k : ByteArray) (w : World) (h1 : w.cell? ⟨s, 1, none⟩ = some (.map (some bat))) (h : SpotsOK w bat ks) (hk : spotOf k ks 0 = some p) :
    Calls Tryz.prog 38 #[ptr s, .string k] w fun e w' => e = .returned (.int .i64 (p : Nat)) ∧ w = w' := by
  have hh := slot_any s bat ks k w h1 h
  unfold slotOf at hh
  rw [hk] at hh
  exact hh
set_option maxHeartbeats 400000 in
set_option maxRecDepth 100000 in
theorem own_yes (hp bc n cap r sh bat m p g ns cs ge ne ce num : Nat) (kind : Int) (str : ByteArray) (ks : List ByteArray) (k : ByteArray) (w : World) (hc : w.cell? ⟨hp, 0, none⟩ = some (.slice (some ⟨bc, 0, none⟩) n cap)) (h1 : r < n) (hn : n ≤ 100)
    (hsh : w.cell? ⟨bc, r * 14 + 8, none⟩ = some (ptr sh)) (hat : w.cell? ⟨sh, 1, none⟩ = some (.map (some bat))) (hsp : SpotsOK w bat ks)
    (hsl : w.cell? ⟨bc, r * 14 + 9, none⟩ = some (.slice (some ⟨g, 0, none⟩) ns cs)) (hli : w.cell? ⟨sh, 0, none⟩ = some (.slice (some ⟨ge, 0, none⟩) ne ce)) (hp1 : p < ns) (hp2 : p < ne) (_hns : ns ≤ 1000) (_hne : ne ≤ 1000)
    (c0 : w.cell? ⟨g, p * 7, none⟩ = some (.int .u8 kind)) (c1 : w.cell? ⟨g, p * 7 + 1, none⟩ = some (.int .i32 0)) (c2 : w.cell? ⟨g, p * 7 + 2, none⟩ = some (.float .f64 num)) (c3 : w.cell? ⟨g, p * 7 + 3, none⟩ = some (.string str))
    (c4 : w.cell? ⟨g, p * 7 + 4, none⟩ = some (.int .i32 0)) (c5 : w.cell? ⟨g, p * 7 + 5, none⟩ = some (.int .i32 0)) (c6 : w.cell? ⟨g, p * 7 + 6, none⟩ = some (.int .u8 7)) (ce1 : w.cell? ⟨ge, p * 2 + 1, none⟩ = some (.int .u8 7))
    (hs : k.size ≤ 100000000) (hm : k.size = 2 * m) (ho : okU (unpack k.data.toList) = false) (hk : spotOf k ks 0 = some p) :
    Calls Tryz.prog 24 #[ptr hp, .int .i32 r, .string k] w fun e w' => e = .returned (.tuple #[.agg #[.int .u8 kind, .int .i32 0, .float .f64 num, .string str, .int .i32 0, .int .i32 0, .int .u8 7], .bool true]) ∧ Below w.heap.size w w' := by
  have l1 := lt_of_cell hc
  have l2 := lt_of_cell hsh
  have l3 := lt_of_cell hat
  have l4 := spots_lt hsp
  have l5 := lt_of_cell c0
  have l6 := lt_of_cell ce1
  have HI : ∀ W, Hid (Calls Tryz.prog 37 #[.string k] W fun e w' => (∃ v, e = .returned (.tuple #[.int .u32 v, .bool false])) ∧ Below W.heap.size W w') := fun W => Lib.hid (index_is k m W false hs hm ho)
  have HL : ∀ W : World, W.cell? ⟨sh, 1, none⟩ = some (.map (some bat)) → W.heap[bat]? = w.heap[bat]? → Hid (Calls Tryz.prog 38 #[ptr sh, .string k] W fun e w' => e = .returned (.int .i64 (p : Nat)) ∧ W = w') :=
    fun W e1 e2 => Lib.hid (slot_yes sh bat p ks k W e1 (spots_same hsp e2) hk)
  have HSL := Lib.hid HL
  clear hs hm ho HL hk
  unfold ptr at *
  go_enter Tryz.func24, Tryz.ntmps24
  go_upto_region 11 with (first | (go_at_call 35; refine (at_any hp bc n cap r _ ((World.cell?_alloc_lt _ _ _ l1).trans hc) h1 hn).mono ?_; rintro e w' ⟨rfl, rfl⟩) | (go_at_call 37; refine (HI _).out.mono ?_; rintro e w1 ⟨⟨v, rfl⟩, hb⟩; obtain ⟨hcc, hff⟩ := bcell hb; have hz : w.heap.size < w1.heap.size := (by have := hb.size; simp at this; omega); have m2 : bc < w1.heap.size := (by omega); have m3 : sh < w1.heap.size := (by omega); have m6 : ge < w1.heap.size := (by omega)) | (go_at_call 38; refine (HSL.out _ ((hb.cell (p := ⟨sh, 1, none⟩) (by simp; omega)).trans ((World.cell?_alloc_lt _ _ _ l3).trans hat)) ((hb.block bat (by simp; omega)).trans (Below.heap_alloc _ _ _ l4))).out.mono ?_; rintro e w2 ⟨rfl, rfl⟩))
  have hB1 : Below w.heap.size w (w1.alloc (.cells #[.int .u8 kind, .int .i32 0, .float .f64 num, .string str, .int .i32 0, .int .i32 0, .int .u8 7] 66)) :=
    (((Below.refl _ _).alloc (Nat.le_refl _) _).trans (hb.mono (by simp))).alloc (by omega) _
  have e1 := heap_new w1 (.cells #[.int .u8 kind, .int .i32 0, .float .f64 num, .string str, .int .i32 0, .int .i32 0, .int .u8 7] 66)
  have e2 : (w1.alloc (.cells #[.int .u8 kind, .int .i32 0, .float .f64 num, .string str, .int .i32 0, .int .i32 0, .int .u8 7] 66)).heap[w.heap.size]? = some (.cells #[.int .u8 0, .int .i32 0, .float .f64 0, .string ⟨#[]⟩, .int .i32 0, .int .i32 0, .int .u8 0] 66 (0, 0)) :=
    (Below.heap_alloc _ _ _ (by omega)).trans ((hb.block w.heap.size (by simp)).trans (heap_new _ _))
  have E1 := Lib.hid e1
  have E2 := Lib.hid e2
  clear e1 e2 hcc hff hb
  generalize w1.alloc (.cells #[.int .u8 kind, .int .i32 0, .float .f64 num, .string str, .int .i32 0, .int .i32 0, .int .u8 7] 66) = W2 at *
  go_wp2_with (first | (refine wpList_load_row rfl 66 (.tmp 14) rfl w1.heap.size rfl 66 _ (0, 0) _ E1.out Tryz.underlying66 rfl (by kernel_rfl) ?_) | (refine wpList_store_row rfl 66 (.tmp 6) (.tmp 63) rfl w.heap.size _ rfl rfl 66 _ E2.out (by kernel_rfl) rfl (by simp [Value.oneCell']) ?_))
  refine bodyPost_ret (results_cell_tmp rfl _ _ w.heap.size 66 _ (0, 0) _ _ rfl rfl (setRow_heap _ _ _ _ _ _ E2.out) Tryz.underlying66 rfl (by kernel_rfl)) rfl ⟨rfl, ?_⟩
  exact below_setRow hB1 (Nat.le_refl _) _
end Go.Proofs.YtlacgdnidilndaaGreatDoor
