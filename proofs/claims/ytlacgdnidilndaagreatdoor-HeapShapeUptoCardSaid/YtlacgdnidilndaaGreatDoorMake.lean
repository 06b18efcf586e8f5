/- A new object: contract of plain.Make. -/
import Derived.Test.YtlacgdnidilndaaGreatDoorNew
import Derived.Deep.RegionLaw
namespace Go.Proofs.YtlacgdnidilndaaGreatDoor
open Go.RowKit
open Go.Proofs (Tryz.prog)

theorem info88 : (Tryz.prog.info? 88).map (fun i => (i.zero, i.size, i.bytes)) = some (some (.agg zeroOb.toArray), 14, 120) := by kernel_rfl

def newOb (sh : Nat) : Ob := ⟨[], sh, noSlice, []⟩
def hpCells (bc n cap root : Nat) (made live : Int) : Array Value := #[.slice (some ⟨bc, 0, none⟩) n cap, noSlice, ptr root, .int .i64 made, .int .i64 live]
theorem newOb_one (root : Nat) : ∀ u ∈ obCells (newOb root), u.oneCell' = true := by
  intro u hu
  simp only [obCells, newOb, List.mem_cons, List.not_mem_nil, or_false] at hu
  rcases hu with rfl | rfl | rfl | rfl | rfl | rfl | rfl | rfl | rfl | rfl | rfl | rfl | rfl | rfl <;> rfl
/-- What heap.Make leaves. -/
structure MadeAt (B hp bc root : Nat) (w w' : World) (n : Nat) (xs : List Value) (g cap : Nat) : Prop where
  head : ∃ made live : Int, w'.heap[hp]? = some (.cells (hpCells g (n + 1) cap root made live) 80 (0, 0))
  own : w'.ownsRow B 88 14 (.slice (some ⟨g, 0, none⟩) (n + 1) cap) (n + 1) (xs ++ obCells (newOb root))
  who : g = bc ∨ w.heap.size ≤ g
  kept : w'.os = w.os ∧ w'.tape = w.tape ∧ w'.output = w.output ∧ w.heap.size ≤ w'.heap.size
  block : ∀ b, b < w.heap.size → b ≠ hp → b ≠ bc → w'.heap[b]? = w.heap[b]?
theorem set_block {w : World} {b : Nat} {C : Array Value} {t : TypeId} {fr : Nat × Nat} (h : w.heap[b]? = some (.cells C t fr)) (j : Nat) (v : Value) : (w.setCell ⟨b, j, none⟩ v).heap[b]? = some (.cells (C.setIfInBounds j v) t fr) := by
  simp [World.setCell, Array.getElem?_modify, h]

theorem made_close {hp bc n cap root : Nat} {made live : Int} {B g cap' : Nat} {xs : List Value} {w W1 w2 : World} {o : Obj}
    (hbl : ∀ b, b < w.heap.size → b ≠ hp → W1.heap[b]? = w.heap[b]?) (hhp : W1.heap[hp]? = some (.cells (hpCells bc n cap root made live) 80 (0, 0)))
    (hkp : W1.os = w.os ∧ W1.tape = w.tape ∧ W1.output = w.output) (hz : W1.heap.size = w.heap.size + 1) (hlt : hp < w.heap.size) (hne : hp ≠ bc)
    (hown : w2.ownsRow B 88 14 (.slice (some ⟨g, 0, none⟩) (n + 1) cap') (n + 1) (xs ++ obCells (newOb root)))
    (hg : (W1.alloc o).drew.grownBy w2 (some bc)) (hw : some bc = some g ∨ g = (W1.alloc o).drew.heap.size) :
    MadeAt B hp bc root w (w2.setCell ⟨hp, 0, none⟩ (.slice (some ⟨g, 0, none⟩) (n + 1) cap')) n xs g cap' := by
  have hsz : (W1.alloc o).drew.heap.size = w.heap.size + 2 := by
    have : (W1.alloc o).drew.heap.size = W1.heap.size + 1 := by simp
    omega
  have hgo : g ≠ hp := by
    rcases hw with hw | hw
    · injection hw with hw; omega
    · omega
  have h2 : w2.heap[hp]? = some (.cells (hpCells bc n cap root made live) 80 (0, 0)) := (hg.block hp (by omega) (fun h => hne (by injection h))).trans ((Below.heap_alloc W1 o hp (by omega)).trans hhp)
  refine ⟨⟨made, live, ?_⟩, ?_, ?_, ⟨hg.os.trans hkp.1, hg.tape.trans hkp.2.1, hg.output.trans hkp.2.2, ?_⟩, fun b hb h1 h2 => ?_⟩
  · rw [set_block h2 0]; rfl
  · exact ownsRow_setCell_other (a := ⟨hp, 0, none⟩) hown (fun h => hgo (by injection h)) _
  · rcases hw with hw | hw
    · injection hw with hw; exact .inl hw.symm
    · right; omega
  · have := hg.size
    simp only [World.setCell, Array.size_modify]
    omega
  · rw [Below.heap_setCell _ _ _ _ h1, hg.block b (by omega) (fun h => h2 (by injection h))]
    exact (Below.heap_alloc W1 o b (by omega)).trans (hbl b hb h1)

set_option maxHeartbeats 4000000 in
set_option maxRecDepth 100000 in
theorem heapMake_any (hp bc n cap root : Nat) (made live : Int) (B : Nat) (xs : List Value) (w : World)
    (hh : w.heap[hp]? = some (.cells (hpCells bc n cap root made live) 80 (0, 0)))
    (hown : w.ownsRow B 88 14 (.slice (some ⟨bc, 0, none⟩) n cap) n xs) (hn : n ≤ 10) (hB : B ≤ w.heap.size) (hne : hp ≠ bc) :
    Calls Tryz.prog 33 #[ptr hp, .string className, .int .i32 0] w fun e w' => ∃ g cap', e = .returned (.int .i32 n) ∧ MadeAt B hp bc root w w' n xs g cap' := by
  obtain ⟨i0, hi, hz0, hz1, hz2⟩ := info_parts info88
  unfold hpCells noSlice ptr at hh
  have HO := Lib.hid hown
  have h0 := cell_of_block hh 0
  have h1 := cell_of_block hh 1
  have h2 := cell_of_block hh 2
  have h3 := cell_of_block hh 3
  have h4 := cell_of_block hh 4
  have hf := unfrozen_of_block hh
  simp at h0 h1 h2 h3 h4
  have hlt := lt_of_heap hh
  have HH := Lib.hid hh
  clear hh hown
  unfold ptr
  go_enter Tryz.func33, Tryz.ntmps33
  go_wp2_with fail
  have HK : ∃ W1 : World, W1 = ((w.setCell ⟨hp, 3, none⟩ (.int .i64 (wrap64 (made + 1)))).setCell ⟨hp, 4, none⟩ (.int .i64 (wrap64 (live + 1)))).alloc (.cells #[.string className, .int .i32 0, .bool false, .nilIface, .int .u8 0, .int .i32 0, .float .f64 0, .string ⟨#[]⟩, .pointer (some ⟨root, 0, none⟩), .slice none 0 0, .map none, .bool false, .bool true, .bool false] 88) := ⟨_, rfl⟩
  obtain ⟨W1, hW1⟩ := HK
  rw [← hW1]
  have hzz : W1.heap.size = w.heap.size + 1 := by rw [hW1]; simp
  have hown1 : W1.ownsRow B 88 14 (.slice (some ⟨bc, 0, none⟩) n cap) n xs := by
    rw [hW1]
    have hno : (Value.slice (some ⟨bc, 0, none⟩) n cap).ownBlock ≠ some hp := fun h => hne (by injection h with h; exact h.symm)
    exact (ownsRow_setCell_other (a := ⟨hp, 4, none⟩) (ownsRow_setCell_other (a := ⟨hp, 3, none⟩) HO.out hno _) hno _).alloc _
  have hob : W1.heap[w.heap.size]? = some (.cells #[.string className, .int .i32 0, .bool false, .nilIface, .int .u8 0, .int .i32 0, .float .f64 0, .string ⟨#[]⟩, .pointer (some ⟨root, 0, none⟩), .slice none 0 0, .map none, .bool false, .bool true, .bool false] 88 (0, 0)) := by
    rw [hW1, heap_of_alloc, if_pos (by simp)]
  have q0 := cell_of_block hob 0; have q1 := cell_of_block hob 1; have q2 := cell_of_block hob 2; have q3 := cell_of_block hob 3; have q4 := cell_of_block hob 4; have q5 := cell_of_block hob 5; have q6 := cell_of_block hob 6; have q7 := cell_of_block hob 7; have q8 := cell_of_block hob 8; have q9 := cell_of_block hob 9; have q10 := cell_of_block hob 10; have q11 := cell_of_block hob 11; have q12 := cell_of_block hob 12; have q13 := cell_of_block hob 13
  simp at q0 q1 q2 q3 q4 q5 q6 q7 q8 q9 q10 q11 q12 q13
  have hbl : ∀ b, b < w.heap.size → b ≠ hp → W1.heap[b]? = w.heap[b]? := fun b hb hbne => by
    rw [hW1, heap_of_alloc, if_neg (by simp; omega), Below.heap_setCell _ _ _ _ (by simpa using hbne), Below.heap_setCell _ _ _ _ (by simpa using hbne)]
  have hhp : W1.heap[hp]? = some (.cells #[.slice (some ⟨bc, 0, none⟩) n cap, .slice none 0 0, .pointer (some ⟨root, 0, none⟩), .int .i64 (wrap64 (made + 1)), .int .i64 (wrap64 (live + 1))] 80 (0, 0)) := by
    rw [hW1, heap_of_alloc, if_neg (by simp; omega), set_block (set_block HH.out 3 _) 4 _]; rfl
  have hkp : W1.os = w.os ∧ W1.tape = w.tape ∧ W1.output = w.output := by rw [hW1]; exact ⟨rfl, rfl, rfl⟩
  have hlt1 : hp < W1.heap.size := by omega
  have k0 := cell_of_block hhp 0
  have kf := unfrozen_of_block hhp 0
  simp at k0
  have k1 : (W1.alloc (.cells (obCells (newOb root)).toArray 88)).drew.cell? ⟨hp, 0, none⟩ = some (.slice (some ⟨bc, 0, none⟩) n cap) := (World.cell?_alloc_lt W1 _ _ hlt1).trans k0
  have kf1 : (W1.alloc (.cells (obCells (newOb root)).toArray 88)).drew.frozen? ⟨hp, 0, none⟩ = false := (World.frozen?_of_block (w := W1) (Below.heap_alloc _ _ _ hlt1)).trans kf
  have K1 := Lib.hid k1
  have K2 := Lib.hid kf1
  clear k1 kf1
  have Hown1 := Lib.hid hown1
  have Hbl := Lib.hid hbl
  have Hhp := Lib.hid hhp
  have Hkp := Lib.hid hkp
  have Hob := Lib.hid hob
  have hzl : w.heap.size + 1 ≤ W1.heap.size := by omega
  have Hzz := Lib.hid hzz
  clear hzz hown1 hbl hhp hkp hob hW1 h0 h1 h2 h3 h4 hf HH HO
  go_region_law ((refine step_append_lies _ (by rfl) _ _ _ (by rfl) B 88 i0 (.agg zeroOb.toArray) 14 120 Tryz.underlying76 hi hz0 hz1 hz2 rfl (by decide) _ n xs (by rfl) ((Hown1.out.alloc _).drew) ⟨W1.heap.size, 0, none⟩ 1 1 (obCells (newOb root)) (by rfl) (by rfl) (World.news_of_block (t := 88) (fr := (0, 0)) (heap_alloc_new _ _)) (newOb_one root) (by omega) (by unfold maxLen; omega) (by omega) (by simp; omega) _ rfl ?_); intro g cap' w2 hown2 hgrow hwho hglt; have c0 : w2.cell? ⟨hp, 0, none⟩ = some (.slice (some ⟨bc, 0, none⟩) n cap) := (World.cell?_of_block (hgrow.block hp (by simp; omega) (fun h => hne (by injection h)))).trans K1.out; have f0 : w2.frozen? ⟨hp, 0, none⟩ = false := (World.frozen?_of_block (hgrow.block hp (by simp; omega) (fun h => hne (by injection h)))).trans K2.out)
  all_goals go_wp2
  all_goals go_ret
  all_goals exact ⟨g, cap', rfl, made_close Hbl.out Hhp.out Hkp.out Hzz.out hlt hne hown2 hgrow hwho⟩
end Go.Proofs.YtlacgdnidilndaaGreatDoor
