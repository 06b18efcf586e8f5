/- The shape that has one key more: contract of Shape.with. -/
import Derived.Test.YtlacgdnidilndaaGreatDoorCopy
import Derived.Test.YtlacgdnidilndaaGreatDoorMakest
import Derived.WalkSpells
namespace Go.Proofs.YtlacgdnidilndaaGreatDoor
open Go.RowKit
open Go.Proofs (Tryz.prog)

theorem spots_keep {w w' : World} {b : Nat} {ks : List ByteArray} (h : SpotsOK w b ks) (hb : w'.heap[b]? = w.heap[b]?) : SpotsOK w' b ks := by
  obtain ⟨es, clk, h1, h2⟩ := h
  exact ⟨es, clk, hb.trans h1, h2⟩
theorem far_heap' {w : World} {b b' o' : Nat} {v : Value} (h : b ≠ b') : (w.setCell ⟨b', o', none⟩ v).heap[b]? = w.heap[b]? := Below.heap_setCell _ _ _ _ h
theorem cell_lt {w : World} {b j : Nat} {v : Value} (h : w.cell? ⟨b, j, none⟩ = some v) : b < w.heap.size := by
  rcases Nat.lt_or_ge b w.heap.size with h1 | h1
  · exact h1
  · exfalso
    simp [World.cell?, Array.getElem?_eq_none h1] at h
theorem own_slice {w : World} {B : Nat} {e : TypeId} {size n : Nat} {v : Value} {xs : List Value} (h : w.ownsRow B e size v n xs) : ∃ A C, v = .slice A n C := by
  rcases h.2 with ⟨rfl, rfl⟩ | ⟨g, cap, cur, rfl, _⟩
  · exact ⟨_, _, rfl⟩
  · exact ⟨_, _, rfl⟩
set_option maxHeartbeats 1000000 in
set_option maxRecDepth 100000 in
theorem with_yes (s b : Nat) (nx : Option Nat) (k : ByteArray) (w : World) (h2 : w.cell? ⟨s, 2, none⟩ = some (.map nx)) (h3 : w.cell? ⟨s, 3, none⟩ = some (.bool false))
    (HL : ∀ W, Below w.heap.size w W → (Instr.lookup 93 (.map nx) (entK k) true).run Tryz.prog W = .ok (.tuple #[ptr b, .bool true]) W) :
    Calls Tryz.prog 87 #[ptr s, .agg #[.string k, .int .u8 7]] w fun e w' => e = .returned (ptr b) ∧ Below w.heap.size w w' := by
  have ls := cell_lt h2
  have b0 : Below w.heap.size w (w.alloc (.cells #[.string k, .int .u8 7] 104)) := (Below.refl _ _).alloc (Nat.le_refl _) _
  unfold ptr entK at *
  have HLL : ∀ n, (Instr.lookup 93 (.map nx) (.agg #[.string k, .int .u8 7]) true).run Tryz.prog ((w.alloc (.cells #[.string k, .int .u8 7] 104)).drewN n) = .ok (.tuple #[.pointer (some ⟨b, 0, none⟩), .bool true]) ((w.alloc (.cells #[.string k, .int .u8 7] 104)).drewN n) := fun n => HL _ ⟨b0.os, b0.tape, b0.output, b0.size, b0.block⟩
  clear HL
  go_enter Tryz.func87, Tryz.ntmps87
  go_wp2_with fail
  go_quiet (fail)
  go_wp2
  go_ret
  exact ⟨rfl, b0.os, b0.tape, b0.output, b0.size, b0.block⟩

/-- What region 10 leaves. -/
structure GrewAt (w w' : World) (ks : List ByteArray) (k : ByteArray) (t g cap mp : Nat) : Prop where
  shape : w'.heap[t]? = some (.cells #[.slice (some ⟨g, 0, none⟩) (ks.length + 1) cap, .map (some mp), .map none, .bool false] 95 (0, 0))
  own : w'.ownsRow w.heap.size 104 2 (.slice (some ⟨g, 0, none⟩) (ks.length + 1) cap) (ks.length + 1) (entCells (ks ++ [k]))
  spots : SpotsOK w' mp (ks ++ [k])
  box : w'.heap[w.heap.size]? = some (.cells #[.string k, .int .u8 7] 104 (0, 0))
  gt : w.heap.size < t ∧ w.heap.size < mp ∧ w.heap.size < g
  lt : t < w'.heap.size ∧ mp < w'.heap.size ∧ g < w'.heap.size
  ne : t ≠ mp ∧ g ≠ t ∧ g ≠ mp
  below : Below w.heap.size w w'
theorem ent_append (ks : List ByteArray) (k : ByteArray) : entCells (ks ++ [k]) = entCells ks ++ entCells [k] := by simp [entCells]
theorem grew_of {w W1 w1 W2 w3 : World} {ks : List ByteArray} {k : ByteArray} {es : Array MapEntry} {clk t g cap mp C : Nat} {A : Option Addr} {o : Obj}
    (hcp : CopyAt W1 w1 ks es clk t (.slice A ks.length C) mp) (hb : ∀ b, b ≠ mp → W2.heap[b]? = w1.heap[b]?) (hz : W2.heap.size = w1.heap.size) (hk : W2.os = w1.os ∧ W2.tape = w1.tape ∧ W2.output = w1.output)
    (hsp : SpotsOK W2 mp (ks ++ [k])) (hown : w3.ownsRow W1.heap.size 104 2 (.slice (some ⟨g, 0, none⟩) (ks.length + 1) cap) (ks.length + 1) (entCells ks ++ entCells [k]))
    (hg : (W2.alloc o).drew.grownBy w3 (Value.slice A ks.length C).ownBlock) (hw : (Value.slice A ks.length C).ownBlock = some g ∨ g = (W2.alloc o).drew.heap.size) (hgl : g < w3.heap.size)
    (hB : Below w.heap.size w W1) (hbox : W1.heap[w.heap.size]? = some (.cells #[.string k, .int .u8 7] 104 (0, 0))) (hz1 : W1.heap.size = w.heap.size + 1) :
    GrewAt w (w3.setCell ⟨t, 0, none⟩ (.slice (some ⟨g, 0, none⟩) (ks.length + 1) cap)) ks k t g cap mp := by
  have hsz : (W2.alloc o).drew.heap.size = w1.heap.size + 1 := by
    have : (W2.alloc o).drew.heap.size = W2.heap.size + 1 := size_of_alloc W2 o
    omega
  have hzw : W1.heap.size ≤ w1.heap.size := hcp.below.size
  have g1 := hcp.ge.1
  have g2 := hcp.ge.2
  have lt1 := lt_of_heap hcp.shape
  have lt2 := lt_of_heap hcp.spots
  have hz3 : w1.heap.size + 1 ≤ w3.heap.size := by have := hg.size; omega
  have gge : W1.heap.size ≤ g := (hown.lt g rfl).1
  have gt : g ≠ t := by
    rcases hw with hw | hw
    · exact fun e => hcp.ne.2.1 (by rw [hw, e])
    · omega
  have gm : g ≠ mp := by
    rcases hw with hw | hw
    · exact fun e => hcp.ne.2.2 (by rw [hw, e])
    · omega
  have old : ∀ b, b < w1.heap.size → b ≠ mp → (Value.slice A ks.length C).ownBlock ≠ some b → w3.heap[b]? = w1.heap[b]? := fun b h1 h2 h3 =>
    (hg.block b (by omega) (fun e => h3 e.symm)).trans ((Below.heap_alloc W2 o b (by omega)).trans (hb b h2))
  have nown : ∀ b, b < W1.heap.size → (Value.slice A ks.length C).ownBlock ≠ some b := fun b hb' e => by have := (hcp.own.lt b e).1; omega
  have hsh := (old t lt1 hcp.ne.1 hcp.ne.2.1).trans hcp.shape
  refine ⟨?_, ?_, ?_, ?_, ⟨by omega, by omega, by omega⟩, ⟨?_, ?_, ?_⟩, ⟨hcp.ne.1, gt, gm⟩, ?_⟩
  · rw [set_block hsh 0]; rfl
  · rw [ent_append]
    have h1 := ownsRow_setCell_other (a := ⟨t, 0, none⟩) hown (fun h => gt (by injection h)) (.slice (some ⟨g, 0, none⟩) (ks.length + 1) cap)
    refine ⟨h1.1, ?_⟩
    rcases h1.2 with h2 | ⟨g', c', cur, e1, e2, e3⟩
    · exact .inl h2
    · exact .inr ⟨g', c', cur, e1, by omega, e3⟩
  · refine spots_keep hsp ?_
    rw [far_heap' (fun e => hcp.ne.1 e.symm)]
    exact (hg.block mp (by omega) (fun e => hcp.ne.2.2 e.symm)).trans (Below.heap_alloc W2 o mp (by omega))
  · rw [far_heap' (by omega)]
    exact (old _ (by omega) (by omega) (nown _ (by omega))).trans ((hcp.below.block _ (by omega)).trans hbox)
  · simp only [World.setCell, Array.size_modify]; omega
  · simp only [World.setCell, Array.size_modify]; omega
  · simp only [World.setCell, Array.size_modify]; omega
  · refine Below.setCell (hB.trans ⟨?_, ?_, ?_, by omega, fun b hb' => ?_⟩) (by simp; omega) _
    · exact hg.os.trans (hk.1.trans hcp.below.os)
    · exact hg.tape.trans (hk.2.1.trans hcp.below.tape)
    · exact hg.output.trans (hk.2.2.trans hcp.below.output)
    · exact (old b (by omega) (by omega) (nown b (by omega))).trans (hcp.below.block b (by omega))

/-- What Shape.with leaves where there was none. -/
structure WithAt (w w' : World) (ks : List ByteArray) (k : ByteArray) (s : Nat) (lv : Value) (bat : Nat) (nx : Option Nat) (t g cap mp : Nat) : Prop where
  shape : w'.heap[t]? = some (.cells #[.slice (some ⟨g, 0, none⟩) (ks.length + 1) cap, .map (some mp), .map none, .bool false] 95 (0, 0))
  own : w'.ownsRow w.heap.size 104 2 (.slice (some ⟨g, 0, none⟩) (ks.length + 1) cap) (ks.length + 1) (entCells (ks ++ [k]))
  spots : SpotsOK w' mp (ks ++ [k])
  gt : w.heap.size < t ∧ w.heap.size < mp ∧ w.heap.size < g
  ne : t ≠ mp ∧ g ≠ t ∧ g ≠ mp
  next : ∃ c, w'.heap[s]? = some (.cells #[lv, .map (some bat), .map (some c), .bool false] 95 (0, 0)) ∧
    ((nx = some c ∧ ∃ es clk, w.heap[c]? = some (.map es clk) ∧ w'.heap[c]? = some (.map (es.push { key := entK k, val := ptr t, born := clk }) (clk + 1))) ∨
     (nx = none ∧ w.heap.size < c ∧ c ≠ t ∧ c ≠ mp ∧ c ≠ g ∧ ∃ clk, w'.heap[c]? = some (.map (#[].push { key := entK k, val := ptr t, born := clk }) (clk + 1))))
  block : ∀ b, b < w.heap.size → b ≠ s → nx ≠ some b → w'.heap[b]? = w.heap[b]?
  kept : w'.os = w.os ∧ w'.tape = w.tape ∧ w'.output = w.output ∧ w.heap.size ≤ w'.heap.size
theorem set_map {w : World} {c : Nat} {o o' : Obj} (h : w.heap[c]? = some o) : ({ w with heap := w.heap.setIfInBounds c o' } : World).heap[c]? = some o' := Array.getElem?_setIfInBounds_self_of_lt (lt_of_heap h)
theorem far_map {w : World} {c b : Nat} {o' : Obj} (h : b ≠ c) : ({ w with heap := w.heap.setIfInBounds c o' } : World).heap[b]? = w.heap[b]? := Array.getElem?_setIfInBounds_ne (fun e => h e.symm)
theorem size_map {w : World} {c : Nat} {o' : Obj} : ({ w with heap := w.heap.setIfInBounds c o' } : World).heap.size = w.heap.size := Array.size_setIfInBounds
theorem with_some {w w3 w' : World} {ks : List ByteArray} {k : ByteArray} {s : Nat} {lv : Value} {bat c t g cap mp : Nat} {es : Array MapEntry} {clk : Nat} (h : GrewAt w w3 ks k t g cap mp)
    (hs : w.heap[s]? = some (.cells #[lv, .map (some bat), .map (some c), .bool false] 95 (0, 0))) (hc : w.heap[c]? = some (.map es clk))
    (hw : w' = { w3.drew with heap := w3.drew.heap.setIfInBounds c (.map (es.push { key := entK k, val := ptr t, born := clk }) (clk + 1)) }) : WithAt w w' ks k s lv bat (some c) t g cap mp := by
  have lc := lt_of_heap hc
  have ls := lt_of_heap hs
  have hsc : s ≠ c := fun e => by rw [e, hc] at hs; cases hs
  have hc3 : w3.drew.heap[c]? = some (.map es clk) := (h.below.block c lc).trans hc
  have far : ∀ b, b ≠ c → w'.heap[b]? = w3.heap[b]? := fun b hb => by rw [hw]; exact far_map hb
  have g1 := h.gt
  refine ⟨(far t (by omega)).trans h.shape, own_same h.own fun g' hg' => far g' (by injection hg' with hg'; subst hg'; simp only []; omega), spots_keep h.spots (far mp (by omega)), h.gt, h.ne, ⟨c, (far s hsc).trans ((h.below.block s ls).trans hs), .inl ⟨rfl, es, clk, hc, by rw [hw]; exact set_map hc3⟩⟩, fun b hb h1 h2 => (far b (fun e => h2 (by rw [e]))).trans (h.below.block b hb), ⟨?_, ?_, ?_, ?_⟩⟩
  · rw [hw]; exact h.below.os
  · rw [hw]; exact h.below.tape
  · rw [hw]; exact h.below.output
  · rw [hw]; exact Nat.le_trans h.below.size (by rw [size_map]; exact Nat.le_refl _)
theorem size_set (w : World) (a : Addr) (v : Value) : (w.setCell a v).heap.size = w.heap.size := by simp [World.setCell]
theorem with_none {w w3 w' : World} {ks : List ByteArray} {k : ByteArray} {s : Nat} {lv : Value} {bat t g cap mp : Nat} (h : GrewAt w w3 ks k t g cap mp)
    (hs : w.heap[s]? = some (.cells #[lv, .map (some bat), .map none, .bool false] 95 (0, 0)))
    (hw : w' = { ((w3.setCell ⟨s, 2, none⟩ (.map (some w3.heap.size))).alloc (.map #[] 0)).drew with heap := ((w3.setCell ⟨s, 2, none⟩ (.map (some w3.heap.size))).alloc (.map #[] 0)).drew.heap.setIfInBounds w3.heap.size (.map (#[].push { key := entK k, val := ptr t, born := 0 }) (0 + 1)) }) : WithAt w w' ks k s lv bat none t g cap mp := by
  have ls := lt_of_heap hs
  have hz := h.below.size
  have hs3 : w3.heap[s]? = _ := (h.below.block s ls).trans hs
  have sz := size_set w3 ⟨s, 2, none⟩ (.map (some w3.heap.size))
  have alo : ∀ b, b < w3.heap.size → ((w3.setCell ⟨s, 2, none⟩ (.map (some w3.heap.size))).alloc (.map #[] 0)).heap[b]? = (w3.setCell ⟨s, 2, none⟩ (.map (some w3.heap.size))).heap[b]? := fun b hb => Below.heap_alloc _ _ b (by rw [sz]; exact hb)
  have far : ∀ b, b < w3.heap.size → b ≠ s → w'.heap[b]? = w3.heap[b]? := fun b hb h1 => by
    rw [hw]
    exact (far_map (by omega)).trans ((alo b hb).trans (far_heap' h1))
  have g1 := h.gt
  have l1 := h.lt
  refine ⟨(far t l1.1 (by omega)).trans h.shape, own_same h.own fun g' hg' => far g' (by injection hg' with hg'; subst hg'; exact l1.2.2) (by injection hg' with hg'; subst hg'; simp only []; omega), spots_keep h.spots (far mp l1.2.1 (by omega)), h.gt, h.ne, ⟨w3.heap.size, ?_, .inr ⟨rfl, by omega, by omega, by omega, by omega, 0, ?_⟩⟩, fun b hb h1 h2 => (far b (by omega) h1).trans (h.below.block b hb), ⟨?_, ?_, ?_, ?_⟩⟩
  · rw [hw]
    refine (far_map (by omega)).trans ?_
    exact (alo s (by omega)).trans ((set_block hs3 2 _).trans rfl)
  · rw [hw]
    refine set_map (o := .map #[] 0) ?_
    have := heap_new (w3.setCell ⟨s, 2, none⟩ (.map (some w3.heap.size))) (.map #[] 0)
    rw [sz] at this
    exact this
  · rw [hw]; exact h.below.os
  · rw [hw]; exact h.below.tape
  · rw [hw]; exact h.below.output
  · rw [hw]
    refine Nat.le_trans hz ?_
    rw [size_map]
    exact Nat.le_trans (Nat.le_of_eq sz.symm) (Nat.le_trans (Nat.le_succ _) (Nat.le_of_eq (size_of_alloc _ _).symm))

set_option maxHeartbeats 4000000 in
set_option maxRecDepth 100000 in
theorem with_no (s bat B : Nat) (lv : Value) (nx : Option Nat) (ks : List ByteArray) (k : ByteArray) (w : World)
    (hsh : w.heap[s]? = some (.cells #[lv, .map (some bat), .map nx, .bool false] 95 (0, 0))) (hown : w.ownsRow B 104 2 lv ks.length (entCells ks)) (hsp : SpotsOK w bat ks) (hn : ks.length ≤ 1000) (hk : k ∉ ks)
    (hnx : ∀ c, nx = some c → ∃ es clk, w.heap[c]? = some (.map es clk) ∧ (∀ e ∈ es.toList, ∃ x, e.key = entK x) ∧ ∀ e ∈ es.toList, e.key ≠ entK k)
    (HL : ∀ W, Below w.heap.size w W → (Instr.lookup 93 (.map nx) (entK k) true).run Tryz.prog W = .ok (.tuple #[.pointer none, .bool false]) W) :
    Calls Tryz.prog 87 #[ptr s, .agg #[.string k, .int .u8 7]] w fun e w' => ∃ t g cap mp, e = .returned (ptr t) ∧ WithAt w w' ks k s lv bat nx t g cap mp := by
  obtain ⟨es, clk, hm, hes⟩ := hsp
  have HNX := Lib.hid hnx
  clear hnx
  have h2 := cell_of_block hsh 2
  have h3 := cell_of_block hsh 3
  simp at h2 h3
  have ls := lt_of_heap hsh
  have HC : ∀ W, Below w.heap.size w W → Hid (Calls Tryz.prog 97 #[ptr s] W fun e w' => ∃ t lv' mp, e = .returned (ptr t) ∧ CopyAt W w' ks es clk t lv' mp) :=
    fun W hW => Lib.hid (copy_any s bat B lv nx ks es clk W ((hW.block s ls).trans hsh) (own_same hown fun g hg => hW.block g (hown.lt g hg).2) ((hW.block bat (lt_of_heap hm)).trans hm) hn)
  have HC := Lib.hid HC
  have b0 : Below w.heap.size w (w.alloc (.cells #[.string k, .int .u8 7] 104)) := (Below.refl _ _).alloc (Nat.le_refl _) _
  unfold ptr entK at *
  have HLL : ∀ n, (Instr.lookup 93 (.map nx) (.agg #[.string k, .int .u8 7]) true).run Tryz.prog ((w.alloc (.cells #[.string k, .int .u8 7] 104)).drewN n) = .ok (.tuple #[.pointer none, .bool false]) ((w.alloc (.cells #[.string k, .int .u8 7] 104)).drewN n) := fun n => HL _ ⟨b0.os, b0.tape, b0.output, b0.size, b0.block⟩
  have HES := Lib.hid hes
  have HSH := Lib.hid hsh
  have HK := Lib.hid hk
  clear HL hsh hown hm hes hk
  go_enter Tryz.func87, Tryz.ntmps87
  go_wp2_with fail
  go_quiet (fail)
  clear HLL
  have b1 : Below w.heap.size w ((w.alloc (.cells #[.string k, .int .u8 7] 104)).drewN nq) := ⟨b0.os, b0.tape, b0.output, b0.size, b0.block⟩
  have c2 : ((w.alloc (.cells #[.string k, .int .u8 7] 104)).drewN nq).heap[w.heap.size]? = some (.cells #[.string k, .int .u8 7] 104 (0, 0)) := heap_new w _
  have z2 : ((w.alloc (.cells #[.string k, .int .u8 7] 104)).drewN nq).heap.size = w.heap.size + 1 := size_of_alloc w _
  have B1 := Lib.hid b1
  have C2 := Lib.hid c2
  have Z2 := Lib.hid z2
  clear b1 c2 z2 b0 h2 h3
  generalize (w.alloc (.cells #[.string k, .int .u8 7] 104)).drewN nq = W1 at *
  go_wp2_with (go_at_call 97; refine (HC.out _ B1.out).out.mono ?_; rintro e w1 ⟨t, lv', mp, rfl, hcp⟩; have HCP := Lib.hid hcp; clear hcp)
  have hcp := HCP.out
  obtain ⟨A, C, rfl⟩ := own_slice hcp.own
  have zz1 : W1.heap.size ≤ w1.heap.size := hcp.below.size
  have zz2 : w.heap.size < W1.heap.size := by have := Z2.out; omega
  have zz3 : W1.heap.size ≤ t := hcp.ge.1
  have zz4 : W1.heap.size ≤ mp := hcp.ge.2
  have ct := hcp.shape
  have t0 := cell_of_block ct 0
  have t1 := cell_of_block ct 1
  simp at t0 t1
  have cb := (hcp.below.block w.heap.size zz2).trans C2.out
  have b0 := cell_of_block cb 0
  have b1 := cell_of_block cb 1
  simp at b0 b1
  obtain ⟨o, hrun, hsp2⟩ := run_spots_new (w := w1.drew) (b := mp) (ks := ks) ⟨es, clk, hcp.spots, HES.out⟩ k HK.out
  obtain ⟨W2, hW2⟩ : ∃ W2 : World, W2 = { w1.drew with heap := w1.drew.heap.setIfInBounds mp o } := ⟨_, rfl⟩
  rw [← hW2] at hrun hsp2
  have W2b : ∀ b, b ≠ mp → W2.heap[b]? = w1.heap[b]? := fun b hb => by rw [hW2]; exact Array.getElem?_setIfInBounds_ne (fun e => hb e.symm)
  have W2z : W2.heap.size = w1.heap.size := by rw [hW2]; exact Array.size_setIfInBounds
  have W2k : W2.os = w1.os ∧ W2.tape = w1.tape ∧ W2.output = w1.output := by rw [hW2]; exact ⟨rfl, rfl, rfl⟩
  have CT := Lib.hid ct
  have CB := Lib.hid cb
  have SP2 := Lib.hid hsp2
  have W2B := Lib.hid W2b
  have W2Z := Lib.hid W2z
  have W2K := Lib.hid W2k
  clear hcp ct cb hsp2 W2b W2z W2k hW2 zz1 zz2 zz3 zz4
  go_region
  clear hrun t0 t1 b0 b1
  have hcp := HCP.out
  have zz1 : W1.heap.size ≤ w1.heap.size := hcp.below.size
  have zz2 : w.heap.size < W1.heap.size := by have := Z2.out; omega
  have zz3 : W1.heap.size ≤ t := hcp.ge.1
  have zz4 : W1.heap.size ≤ mp := hcp.ge.2
  have zt : t < w1.heap.size := lt_of_heap CT.out
  have ct := (W2B.out t hcp.ne.1).trans CT.out
  have cb := (W2B.out w.heap.size (by omega)).trans CB.out
  have t0 := cell_of_block ct 0
  have tf := unfrozen_of_block ct 0
  have b0 := cell_of_block cb 0
  have b1 := cell_of_block cb 1
  simp at t0 b0 b1
  have hno : ∀ g, (Value.slice A ks.length C).ownBlock = some g → g ≠ t ∧ g ≠ mp ∧ W1.heap.size ≤ g := fun g hg => ⟨fun e => hcp.ne.2.1 (by rw [hg, e]), fun e => hcp.ne.2.2 (by rw [hg, e]), (hcp.own.lt g hg).1⟩
  have own2 : W2.ownsRow W1.heap.size 104 2 (.slice A ks.length C) ks.length (entCells ks) := own_same hcp.own fun g hg => W2B.out g (hno g hg).2.1
  have lt2 : t < W2.heap.size := by rw [W2Z.out]; exact zt
  have k1 : (W2.alloc (.cells #[.string k, .int .u8 7] 104)).drew.cell? ⟨t, 0, none⟩ = some (.slice A ks.length C) := (World.cell?_alloc_lt W2 _ _ lt2).trans t0
  have kf1 : (W2.alloc (.cells #[.string k, .int .u8 7] 104)).drew.frozen? ⟨t, 0, none⟩ = false := (World.frozen?_of_block (w := W2) (Below.heap_alloc _ _ _ lt2)).trans tf
  have hbz : W1.heap.size ≤ W2.heap.size := by rw [W2Z.out]; exact zz1
  have nto : ∀ g, (Value.slice A ks.length C).ownBlock = some g → g ≠ t := fun g hg => (hno g hg).1
  obtain ⟨i0, hi, hz0, hz1, hz2⟩ := info_parts info104
  have K1 := Lib.hid k1
  have K2 := Lib.hid kf1
  have OWN2 := Lib.hid own2
  have NTO := Lib.hid nto
  have CT2 := Lib.hid ct
  have CB2 := Lib.hid cb
  clear k1 kf1 own2 hno nto ct cb hcp zz1 zz2 zz3 zz4 zt
  go_wp2_with fail
  go_region_law ((refine step_append_lies _ (by rfl) _ _ _ (by rfl) W1.heap.size 104 i0 (.agg #[.string ⟨#[]⟩, .int .u8 0]) 2 24 Tryz.underlying91 hi hz0 hz1 hz2 rfl (by decide) _ ks.length (entCells ks) (by rfl) ((OWN2.out.alloc _).drew) ⟨W2.heap.size, 0, none⟩ 1 1 (entCells [k]) (by rfl) (by rfl) (World.news_of_block (t := 104) (fr := (0, 0)) (heap_new _ _)) (ent_one [k]) (by omega) (by unfold maxLen; omega) (by omega) (by simp; omega) _ rfl ?_); intro g cap' w3 hown3 hgrow hwho hglt; have c0 : w3.cell? ⟨t, 0, none⟩ = some (.slice A ks.length C) := (World.cell?_of_block (hgrow.block t (by simp; omega) (fun h => NTO.out t h.symm rfl))).trans K1.out; have f0 : w3.frozen? ⟨t, 0, none⟩ = false := (World.frozen?_of_block (hgrow.block t (by simp; omega) (fun h => NTO.out t h.symm rfl))).trans K2.out)
  all_goals
    have hgw := grew_of HCP.out W2B.out W2Z.out W2K.out SP2.out hown3 hgrow hwho hglt B1.out C2.out Z2.out
    have GW := Lib.hid hgw
    clear hgw hgrow hwho hown3 c0 f0
    generalize w3.setCell ⟨t, 0, none⟩ (.slice (some ⟨g, 0, none⟩) (ks.length + 1) cap') = W3 at *
    have hs3 := (GW.out.below.block s ls).trans HSH.out
    have c2 := cell_of_block hs3 2
    have f2 := unfrozen_of_block hs3 2
    have cb0 := cell_of_block GW.out.box 0
    have cb1 := cell_of_block GW.out.box 1
    simp at c2 cb0 cb1
    have ls3 : s < W3.heap.size := lt_of_heap hs3
    have lb3 : w.heap.size < W3.heap.size := lt_of_heap GW.out.box
    have HS3 := Lib.hid hs3
    clear hs3
    cases nx with
    | none =>
      have hnil : ∀ W, (binOp .eql 93 (.map none) (.map none)).run Tryz.prog W = .ok (.bool true) W := fun W => run_eql_map_nil W 93 104 55 none under93
      have hmm := @run_makeMap Tryz.prog
      have hx : (((W3.setCell ⟨s, 2, none⟩ (.map (some W3.heap.size))).alloc (.map #[] 0)).drew).heap[W3.heap.size]? = some (.map #[] 0) := by
        have := heap_new (W3.setCell ⟨s, 2, none⟩ (.map (some W3.heap.size))) (.map #[] 0)
        rw [size_set] at this
        exact this
      have HU := run_next_new hx k (ptr t) (by simp) (by simp)
      obtain ⟨W5, hW5⟩ : ∃ W5 : World, W5 = { ((W3.setCell ⟨s, 2, none⟩ (.map (some W3.heap.size))).alloc (.map #[] 0)).drew with heap := ((W3.setCell ⟨s, 2, none⟩ (.map (some W3.heap.size))).alloc (.map #[] 0)).drew.heap.setIfInBounds W3.heap.size (.map (#[].push { key := entK k, val := ptr t, born := 0 }) (0 + 1)) } := ⟨_, rfl⟩
      rw [← hW5] at HU
      have HW5 := Lib.hid hW5
      clear hW5 hx
      unfold entK ptr at HU
      go_wp2_with fail
      go_region
      go_wp2
      go_ret
      exact ⟨t, g, cap', mp, rfl, with_none GW.out HSH.out HW5.out⟩
    | some c =>
      obtain ⟨es2, clk2, hc, he1, he2⟩ := HNX.out c rfl
      have hnil : ∀ W, (binOp .eql 93 (.map (some c)) (.map none)).run Tryz.prog W = .ok (.bool false) W := fun W => run_eql_map_nil W 93 104 55 (some c) under93
      have hx : W3.drew.heap[c]? = some (.map es2 clk2) := (GW.out.below.block c (lt_of_heap hc)).trans hc
      have HU := run_next_new hx k (ptr t) he1 he2
      obtain ⟨W5, hW5⟩ : ∃ W5 : World, W5 = { W3.drew with heap := W3.drew.heap.setIfInBounds c (.map (es2.push { key := entK k, val := ptr t, born := clk2 }) (clk2 + 1)) } := ⟨_, rfl⟩
      rw [← hW5] at HU
      have HW5 := Lib.hid hW5
      have HC2 := Lib.hid hc
      clear hW5 hx hc he1 he2
      unfold entK ptr at HU
      go_wp2_with fail
      go_region
      go_wp2
      go_ret
      exact ⟨t, g, cap', mp, rfl, with_some GW.out HSH.out HC2.out HW5.out⟩
end Go.Proofs.YtlacgdnidilndaaGreatDoor
