/- A property that an object has not yet: contract of heap.Put. -/
import Derived.Test.YtlacgdnidilndaaGreatDoorWith
import Derived.Test.YtlacgdnidilndaaGreatDoorOwn
namespace Go.Proofs.YtlacgdnidilndaaGreatDoor
open Go.RowKit
open Go.Proofs (Tryz.prog)

theorem info66 : (Tryz.prog.info? 66).map (fun i => (i.zero, i.size, i.bytes)) = some (some zeroProp, 7, 48) := by kernel_rfl

theorem prop_one (kind : Int) (num : Nat) (str : ByteArray) : ∀ u ∈ ([.int .u8 kind, .int .i32 0, .float .f64 num, .string str, .int .i32 0, .int .i32 0, .int .u8 7] : List Value), u.oneCell' = true := by
  intro u hu
  simp only [List.mem_cons, List.not_mem_nil, or_false] at hu
  rcases hu with rfl | rfl | rfl | rfl | rfl | rfl | rfl <;> rfl
/-- What Put leaves: W, w1: ahead of and behind Shape.with. -/
structure PutAt (B bc r : Nat) (sl : Value) (n : Nat) (ps : List Value) (prop : List Value) (w W w1 w' : World) (t g cap : Nat) (cur : Array Value) : Prop where
  ahead : Below w.heap.size w W
  row : w'.heap[bc]? = some (.cells ((cur.setIfInBounds (r * 14 + 8) (ptr t)).setIfInBounds (r * 14 + 9) (.slice (some ⟨g, 0, none⟩) (n + 1) cap)) 88 (0, 0))
  own : w'.ownsRow B 66 7 (.slice (some ⟨g, 0, none⟩) (n + 1) cap) (n + 1) (ps ++ prop)
  who : sl.ownBlock = some g ∨ w1.heap.size ≤ g
  block : ∀ b, b < w1.heap.size → b ≠ bc → sl.ownBlock ≠ some b → w'.heap[b]? = w1.heap[b]?
  kept : w'.os = w1.os ∧ w'.tape = w1.tape ∧ w'.output = w1.output ∧ w1.heap.size ≤ w'.heap.size

theorem put_close {B bc r q t g cap C : Nat} {A : Option Addr} {ps prop : List Value} {w W w2 W3 w4 : World} {cur : Array Value} {o : Obj} (ha : Below w.heap.size w W)
    (e3 : W3.heap[bc]? = some (.cells (cur.setIfInBounds (r * 14 + 8) (.pointer (some ⟨t, 0, none⟩))) 88 (0, 0))) (hz : W3.heap.size = w2.heap.size) (ho : ∀ b, b ≠ bc → W3.heap[b]? = w2.heap[b]?)
    (hk : W3.os = w2.os ∧ W3.tape = w2.tape ∧ W3.output = w2.output) (hbc : (Value.slice A q C).ownBlock ≠ some bc)
    (hown : w4.ownsRow B 66 7 (.slice (some ⟨g, 0, none⟩) (q + 1) cap) (q + 1) (ps ++ prop)) (hg : (W3.alloc o).drew.grownBy w4 (Value.slice A q C).ownBlock) (hw : (Value.slice A q C).ownBlock = some g ∨ g = (W3.alloc o).drew.heap.size) (_hgl : g < w4.heap.size) :
    PutAt B bc r (.slice A q C) q ps prop w W w2 (w4.setCell ⟨bc, r * 14 + 9, none⟩ (.slice (some ⟨g, 0, none⟩) (q + 1) cap)) t g cap cur := by
  have lb := lt_of_heap e3
  have hsz : (W3.alloc o).drew.heap.size = W3.heap.size + 1 := size_of_alloc W3 o
  have old : ∀ b, b < W3.heap.size → (Value.slice A q C).ownBlock ≠ some b → w4.heap[b]? = W3.heap[b]? := fun b h1 h2 => (hg.block b (by omega) (fun e => h2 e.symm)).trans (Below.heap_alloc W3 o b h1)
  have gb : g ≠ bc := by
    rcases hw with hw | hw
    · exact fun e => hbc (by rw [hw, e])
    · omega
  refine ⟨ha, ?_, ?_, ?_, fun b h1 h2 h3 => ?_, ⟨hg.os.trans hk.1, hg.tape.trans hk.2.1, hg.output.trans hk.2.2, ?_⟩⟩
  · exact set_block ((old bc lb hbc).trans e3) _ _
  · exact ownsRow_setCell_other (a := ⟨bc, r * 14 + 9, none⟩) hown (fun h => gb (by injection h)) _
  · rcases hw with hw | hw
    · exact .inl hw
    · right; omega
  · exact (far_heap' h2).trans ((old b (by omega) h3).trans (ho b h2))
  · rw [size_set]; have := hg.size; omega

set_option maxHeartbeats 4000000 in
set_option maxRecDepth 100000 in
theorem put_new (B hp bc n cap r sh bat m q : Nat) (A : Option Addr) (C : Nat) (kind : Int) (num : Nat) (str : ByteArray) (ps : List Value) (cur : Array Value) (ks : List ByteArray) (k : ByteArray) (w : World) (hc : w.cell? ⟨hp, 0, none⟩ = some (.slice (some ⟨bc, 0, none⟩) n cap)) (h1 : r < n) (hn : n ≤ 100)
    (hrow : w.heap[bc]? = some (.cells cur 88 (0, 0))) (hsh : cur[r * 14 + 8]? = some (ptr sh)) (hsl : cur[r * 14 + 9]? = some (.slice A q C)) (hat : w.cell? ⟨sh, 1, none⟩ = some (.map (some bat))) (hsp : SpotsOK w bat ks)
    (hown : w.ownsRow B 66 7 (.slice A q C) q ps) (hq : q ≤ 1000) (hB : B ≤ w.heap.size) (hbc : (Value.slice A q C).ownBlock ≠ some bc)
    (hs : k.size ≤ 100000000) (hm : k.size = 2 * m) (ho : okU (unpack k.data.toList) = false) (hk : k ∉ ks)
    (Q : World → World → Nat → Prop) (HW : ∀ W, Below w.heap.size w W → Calls Tryz.prog 87 #[ptr sh, .agg #[.string k, .int .u8 7]] W fun e w' => ∃ t, e = .returned (ptr t) ∧ Q W w' t)
    (HQ : ∀ W w' t, Below w.heap.size w W → Q W w' t → W.heap.size ≤ w'.heap.size ∧ (∀ b, b < W.heap.size → (b = bc ∨ (Value.slice A q C).ownBlock = some b ∨ w.heap.size ≤ b) → w'.heap[b]? = W.heap[b]?)) :
    Calls Tryz.prog 69 #[ptr hp, .int .i32 r, .string k, .agg #[.int .u8 kind, .int .i32 0, .float .f64 num, .string str, .int .i32 0, .int .i32 0, .int .u8 7]] w fun e w' => ∃ W w1 t g cap', e = .returned (.tuple #[]) ∧ Q W w1 t ∧ PutAt B bc r (.slice A q C) q ps [.int .u8 kind, .int .i32 0, .float .f64 num, .string str, .int .i32 0, .int .i32 0, .int .u8 7] w W w1 w' t g cap' cur := by
  have l1 := lt_of_cell hc
  have l2 := lt_of_heap hrow
  have l3 := lt_of_cell hat
  have l4 := spots_lt hsp
  have HI : ∀ W, Hid (Calls Tryz.prog 37 #[.string k] W fun e w' => (∃ v, e = .returned (.tuple #[.int .u32 v, .bool false])) ∧ Below W.heap.size W w') := fun W => Lib.hid (index_is k m W false hs hm ho)
  have HL : ∀ W : World, W.cell? ⟨sh, 1, none⟩ = some (.map (some bat)) → W.heap[bat]? = w.heap[bat]? → Hid (Calls Tryz.prog 38 #[ptr sh, .string k] W fun e w' => e = .returned (.int .i64 (-1)) ∧ W = w') :=
    fun W e1 e2 => Lib.hid (slot_no sh bat ks k W e1 (spots_same hsp e2) hk)
  have HSL := Lib.hid HL
  have HWH := Lib.hid HW
  have HQH := Lib.hid HQ
  have c8 : w.cell? ⟨bc, r * 14 + 8, none⟩ = some (ptr sh) := (cell_of_block hrow _).trans hsh
  have HROW := Lib.hid hrow
  have HOWN := Lib.hid hown
  have HCSH := Lib.hid hsh
  have HCSL := Lib.hid hsl
  clear hs hm ho HL HW HQ hrow hown hsh hsl
  unfold ptr at *
  go_enter Tryz.func69, Tryz.ntmps69
  go_upto_region 9 with (first | (go_at_call 35; refine (at_any hp bc n cap r _ ((World.cell?_alloc_lt _ _ _ l1).trans hc) h1 hn).mono ?_; rintro e w' ⟨rfl, rfl⟩) | (go_at_call 37; refine (HI _).out.mono ?_; rintro e w1 ⟨⟨v, rfl⟩, hb⟩; obtain ⟨hcc, hff⟩ := bcell hb; have hz : w.heap.size < w1.heap.size := (by have := hb.size; simp at this; omega)) | (go_at_call 38; refine (HSL.out _ ((hb.cell (p := ⟨sh, 1, none⟩) (by simp; omega)).trans ((World.cell?_alloc_lt _ _ _ l3).trans hat)) ((hb.block bat (by simp; omega)).trans (Below.heap_alloc _ _ _ l4))).out.mono ?_; rintro e w2 ⟨rfl, rfl⟩))
  have b1 : Below w.heap.size w w1 := ((Below.refl _ _).alloc (Nat.le_refl _) _).trans (hb.mono (by simp))
  have eb : w1.heap[bc]? = some (.cells cur 88 (0, 0)) := (b1.block bc l2).trans HROW.out
  have ebox : w1.heap[w.heap.size]? = some (.cells #[.int .u8 kind, .int .i32 0, .float .f64 num, .string str, .int .i32 0, .int .i32 0, .int .u8 7] 66 (0, 0)) := (hb.block w.heap.size (by simp)).trans (heap_new _ _)
  have own1 : w1.ownsRow B 66 7 (.slice A q C) q ps := own_same HOWN.out fun g hg => b1.block g (HOWN.out.lt g hg).2
  have cc8 : w1.cell? ⟨bc, r * 14 + 8, none⟩ = some (.pointer (some ⟨sh, 0, none⟩)) := (cell_of_block eb _).trans HCSH.out
  have cb6 : w1.cell? ⟨w.heap.size, 6, none⟩ = some (.int .u8 7) := (cell_of_block ebox 6).trans rfl
  have B1 := Lib.hid b1
  have EB := Lib.hid eb
  have EBOX := Lib.hid ebox
  have OWN1 := Lib.hid own1
  have lb1 : bc < w1.heap.size := lt_of_heap eb
  clear b1 eb ebox own1 hb hcc hff HI HSL hat hsp c8 hc
  go_region_with (go_at_call 87; refine (HWH.out _ B1.out.drew).mono ?_; rintro e w2 ⟨t, rfl, hq0⟩; have hqq := HQH.out _ _ _ B1.out.drew hq0; have HQ0 := Lib.hid hq0; have e2 : w2.heap[bc]? = some (.cells cur 88 (0, 0)) := (hqq.2 bc lb1 (.inl rfl)).trans EB.out; have c8' := (cell_of_block e2 (r * 14 + 8)).trans HCSH.out; have f8' := unfrozen_of_block e2 (r * 14 + 8); have E2 := Lib.hid e2; have HQQ := Lib.hid hqq; clear e2 hqq hq0)
  all_goals
    have e3 : (w2.setCell ⟨bc, r * 14 + 8, none⟩ (.pointer (some ⟨t, 0, none⟩))).heap[bc]? = some (.cells (cur.setIfInBounds (r * 14 + 8) (.pointer (some ⟨t, 0, none⟩))) 88 (0, 0)) := set_block E2.out _ _
    have hne : w.heap.size ≠ bc := by omega
    have box3 : (w2.setCell ⟨bc, r * 14 + 8, none⟩ (.pointer (some ⟨t, 0, none⟩))).heap[w.heap.size]? = some (.cells #[.int .u8 kind, .int .i32 0, .float .f64 num, .string str, .int .i32 0, .int .i32 0, .int .u8 7] 66 (0, 0)) := (far_heap' hne).trans ((HQQ.out.2 w.heap.size (lt_of_heap EBOX.out) (.inr (.inr (Nat.le_refl _)))).trans EBOX.out)
    have own3 : (w2.setCell ⟨bc, r * 14 + 8, none⟩ (.pointer (some ⟨t, 0, none⟩))).ownsRow B 66 7 (.slice A q C) q ps := own_same OWN1.out fun g hg => (far_heap' (fun e => hbc (by rw [hg, e]))).trans (HQQ.out.2 g (OWN1.out.lt g hg).2 (.inr (.inl hg)))
    have oth3 : ∀ b, b ≠ bc → (w2.setCell ⟨bc, r * 14 + 8, none⟩ (.pointer (some ⟨t, 0, none⟩))).heap[b]? = w2.heap[b]? := fun b hb => far_heap' hb
    have siz3 : (w2.setCell ⟨bc, r * 14 + 8, none⟩ (.pointer (some ⟨t, 0, none⟩))).heap.size = w2.heap.size := size_set _ _ _
    have kep3 : (w2.setCell ⟨bc, r * 14 + 8, none⟩ (.pointer (some ⟨t, 0, none⟩))).os = w2.os ∧ (w2.setCell ⟨bc, r * 14 + 8, none⟩ (.pointer (some ⟨t, 0, none⟩))).tape = w2.tape ∧ (w2.setCell ⟨bc, r * 14 + 8, none⟩ (.pointer (some ⟨t, 0, none⟩))).output = w2.output := ⟨rfl, rfl, rfl⟩
    clear c8' f8' cc8 cb6
    generalize w2.setCell ⟨bc, r * 14 + 8, none⟩ (.pointer (some ⟨t, 0, none⟩)) = W3 at *
    have c9 : W3.cell? ⟨bc, r * 14 + 9, none⟩ = some (.slice A q C) := by
      rw [cell_of_block e3, Array.getElem?_setIfInBounds_ne (by omega)]
      exact HCSL.out
    have f9 := unfrozen_of_block e3 (r * 14 + 9)
    have x0 := (cell_of_block box3 0).trans rfl
    have x1 := (cell_of_block box3 1).trans rfl
    have x2 := (cell_of_block box3 2).trans rfl
    have x3 := (cell_of_block box3 3).trans rfl
    have x4 := (cell_of_block box3 4).trans rfl
    have x5 := (cell_of_block box3 5).trans rfl
    have x6 := (cell_of_block box3 6).trans rfl
    have l3b : bc < W3.heap.size := lt_of_heap e3
    have hzB : B ≤ W3.heap.size := by have := HQQ.out.1; have : w1.heap.size ≤ w2.heap.size := this; have := B1.out.size; omega
    have k1 : (W3.alloc (.cells #[.int .u8 kind, .int .i32 0, .float .f64 num, .string str, .int .i32 0, .int .i32 0, .int .u8 7] 66)).drew.cell? ⟨bc, r * 14 + 9, none⟩ = some (.slice A q C) := (World.cell?_alloc_lt W3 _ _ l3b).trans c9
    have kf1 : (W3.alloc (.cells #[.int .u8 kind, .int .i32 0, .float .f64 num, .string str, .int .i32 0, .int .i32 0, .int .u8 7] 66)).drew.frozen? ⟨bc, r * 14 + 9, none⟩ = false := (World.frozen?_of_block (w := W3) (Below.heap_alloc _ _ _ l3b)).trans f9
    obtain ⟨i0, hi, hy0, hy1, hy2⟩ := info_parts info66
    have K1 := Lib.hid k1
    have K2 := Lib.hid kf1
    have E3 := Lib.hid e3
    have OWN3 := Lib.hid own3
    have OTH3 := Lib.hid oth3
    have SIZ3 := Lib.hid siz3
    have KEP3 := Lib.hid kep3
    have HBC := Lib.hid hbc
    have HNE := Lib.hid hne
    clear k1 kf1 e3 own3 oth3 siz3 kep3 box3 hbc hne
    go_wp2_with fail
    go_region_law ((refine step_append_lies _ (by rfl) _ _ _ (by rfl) B 66 i0 zeroProp 7 48 Tryz.underlying85 hi hy0 hy1 hy2 rfl (by decide) _ q ps (by rfl) ((OWN3.out.alloc _).drew) ⟨W3.heap.size, 0, none⟩ 1 1 [.int .u8 kind, .int .i32 0, .float .f64 num, .string str, .int .i32 0, .int .i32 0, .int .u8 7] (by rfl) (by rfl) (World.news_of_block (t := 66) (fr := (0, 0)) (heap_new _ _)) (prop_one kind num str) (by omega) (by unfold maxLen; omega) (by omega) (by simp; omega) _ rfl ?_); intro g cap' w4 hown4 hgrow hwho hglt; have d0 : w4.cell? ⟨bc, r * 14 + 9, none⟩ = some (.slice A q C) := (World.cell?_of_block (hgrow.block bc (by simp; omega) (fun h => HBC.out h.symm))).trans K1.out; have f0 : w4.frozen? ⟨bc, r * 14 + 9, none⟩ = false := (World.frozen?_of_block (hgrow.block bc (by simp; omega) (fun h => HBC.out h.symm))).trans K2.out)
    all_goals go_wp2
    all_goals refine bodyPost_ret (results_none rfl _ _ _) rfl ?_
    all_goals refine ⟨w1.drew, w2, t, g, cap', rfl, HQ0.out, put_close (prop := _) (B1.out.drew) E3.out SIZ3.out OTH3.out KEP3.out HBC.out hown4 hgrow hwho hglt⟩
end Go.Proofs.YtlacgdnidilndaaGreatDoor
