/- The first of an object's own keys goes: contract of heap.Drop. -/
import Derived.Test.YtlacgdnidilndaaGreatDoorLone
namespace Go.Proofs.YtlacgdnidilndaaGreatDoor
open Go.RowKit
open Go.Proofs (Tryz.prog)

theorem slot_first (s bat : Nat) (ks : List ByteArray) (k : ByteArray) (w : World) (h1 : w.cell? ⟨s, 1, none⟩ = some (.map (some bat))) (h : SpotsOK w bat (k :: ks)) :
    Calls Tryz.prog 38 #[ptr s, .string k] w fun e w' => e = .returned (.int .i64 0) ∧ w = w' := by
  have hh := slot_any s bat (k :: ks) k w h1 h
  have e : slotOf k (k :: ks) = 0 := by unfold slotOf; simp [spotOf]
  rw [e] at hh
  exact hh
theorem spots_str {w : World} {b : Nat} {ks : List ByteArray} (h : SpotsOK w b ks) : ∃ es clk, w.heap[b]? = some (.map es clk) ∧ ∀ e ∈ es.toList, ∃ k, e.key = .string k := by
  obtain ⟨es, clk, h1, h2⟩ := h
  refine ⟨es, clk, h1, fun e he => ?_⟩
  have : (e.key, e.val) ∈ es.toList.map (fun e => (e.key, e.val)) := List.mem_map.2 ⟨e, he, rfl⟩
  rw [h2] at this
  obtain ⟨x, _, hx⟩ := List.mem_map.1 this
  exact ⟨x.1, (congrArg Prod.fst hx).symm⟩

/-- What Drop leaves. -/
structure Dropped (w w' : World) (bc r sg : Nat) : Prop where
  only : Only (fun b => b = bc ∨ b = sg) w w'
  own : ∃ t, w'.cell? ⟨bc, r * 14 + 8, none⟩ = some (ptr t) ∧ w'.cell? ⟨t, 3, none⟩ = some (.bool true)
  rest : ∀ j, j ≠ r * 14 + 8 → j ≠ r * 14 + 9 → w'.cell? ⟨bc, j, none⟩ = w.cell? ⟨bc, j, none⟩

/-- Between alone and Drop's end. -/
structure Mid (w W : World) (bc r sg t g c mp : Nat) (ks : List ByteArray) (v9 : Value) : Prop where
  ge : w.heap.size ≤ t ∧ w.heap.size ≤ g ∧ w.heap.size ≤ mp
  ne : t ≠ g ∧ t ≠ mp ∧ g ≠ mp
  lt : bc < w.heap.size ∧ sg < w.heap.size ∧ sg ≠ bc
  only : Only (fun b => b = bc ∨ b = sg ∨ w.heap.size ≤ b) w W
  p8 : W.cell? ⟨bc, r * 14 + 8, none⟩ = some (.pointer (some ⟨t, 0, none⟩))
  p9 : W.cell? ⟨bc, r * 14 + 9, none⟩ = some v9
  free : ∀ j, W.frozen? ⟨bc, j, none⟩ = false
  t0 : W.cell? ⟨t, 0, none⟩ = some (.slice (some ⟨g, 0, none⟩) ks.length c)
  t1 : W.cell? ⟨t, 1, none⟩ = some (.map (some mp))
  t3 : W.cell? ⟨t, 3, none⟩ = some (.bool true)
  keys : ∀ j k, ks[j]? = some k → W.cell? ⟨g, j * 2, none⟩ = some (.string k)
  str : StrMap W mp
  rest : ∀ j, j ≠ r * 14 + 8 → j ≠ r * 14 + 9 → W.cell? ⟨bc, j, none⟩ = w.cell? ⟨bc, j, none⟩
theorem Only.same {S : Nat → Prop} {a b : World} (h : Only S a b) {x j : Nat} {v : Value} (hx : a.cell? ⟨x, j, none⟩ = some v) (hs : ¬ S x) : b.cell? ⟨x, j, none⟩ = a.cell? ⟨x, j, none⟩ :=
  World.cell?_of_block (a := ⟨x, j, none⟩) (h.block x (lt_of_cell hx) hs)
theorem Mid.other {w W W' : World} {bc r sg t g c mp x : Nat} {ks : List ByteArray} {v9 : Value} (h : Mid w W bc r sg t g c mp ks v9) (ho : Only (· = x) W W') (hx : x = sg ∨ x = mp) (hstr : StrMap W' mp) : Mid w W' bc r sg t g c mp ks v9 := by
  obtain ⟨g1, g2, g3⟩ := h.ge
  obtain ⟨n1, n2, n3⟩ := h.ne
  obtain ⟨l1, l2, l3⟩ := h.lt
  have lW : bc < W.heap.size := lt_of_cell h.p8
  have e1 : ¬ bc = x := by omega
  have e2 : ¬ t = x := by omega
  have e3 : ¬ g = x := by omega
  refine ⟨h.ge, h.ne, h.lt, h.only.trans (ho.mono fun b hb e => by subst e; rcases hx with rfl | rfl; exact .inr (.inl rfl); exact .inr (.inr g3)), ho.cell h.p8 e1, ho.cell h.p9 e1, fun j => ?_, ho.cell h.t0 e2, ho.cell h.t1 e2, ho.cell h.t3 e2, fun j k hk => ho.cell (h.keys j k hk) e3, hstr, fun j j1 j2 => ?_⟩
  · rw [World.frozen?_of_block (w := W) (a := ⟨bc, j, none⟩) (ho.block bc lW e1)]; exact h.free j
  · rw [World.cell?_of_block (w := W) (a := ⟨bc, j, none⟩) (ho.block bc lW e1)]; exact h.rest j j1 j2
theorem cell_set_ne (w : World) (b i : Nat) (v : Value) (x j : Nat) (h : x ≠ b ∨ j ≠ i) : (w.setCell ⟨b, i, none⟩ v).cell? ⟨x, j, none⟩ = w.cell? ⟨x, j, none⟩ := by
  rcases h with h | h
  · exact World.cell?_of_block (w := w) (a := ⟨x, j, none⟩) (Below.heap_setCell w _ v x h)
  · simp [World.cell?, World.setCell, Array.getElem?_modify]
    by_cases e : b = x
    · subst e
      simp only [if_pos]
      cases w.heap[b]? with
      | none => rfl
      | some o =>
        cases o <;> simp [Array.getElem?_setIfInBounds_ne (Ne.symm h)]
    · simp [e]
theorem frozen_set_any (w : World) (p q : Addr) (v : Value) : (w.setCell p v).frozen? q = w.frozen? q := World.frozen?_setCell _ _ _ _
theorem Mid.set9 {w W : World} {bc r sg t g c mp : Nat} {ks : List ByteArray} {v9 : Value} (h : Mid w W bc r sg t g c mp ks v9) (v : Value) : Mid w (W.setCell ⟨bc, r * 14 + 9, none⟩ v) bc r sg t g c mp ks v := by
  obtain ⟨g1, g2, g3⟩ := h.ge
  obtain ⟨l1, l2, l3⟩ := h.lt
  have lW : bc < W.heap.size := lt_of_cell h.p8
  refine ⟨h.ge, h.ne, h.lt, h.only.setCell ⟨bc, r * 14 + 9, none⟩ (.inl rfl) v, (cell_set_ne _ _ _ _ _ _ (.inr (by omega))).trans h.p8, ?_, fun j => ?_, (cell_set_ne _ _ _ _ _ _ (.inl (by omega))).trans h.t0, (cell_set_ne _ _ _ _ _ _ (.inl (by omega))).trans h.t1, (cell_set_ne _ _ _ _ _ _ (.inl (by omega))).trans h.t3, fun j k hk => (cell_set_ne _ _ _ _ _ _ (.inl (by omega))).trans (h.keys j k hk), ?_, fun j j1 j2 => (cell_set_ne _ _ _ _ _ _ (.inr j2)).trans (h.rest j j1 j2)⟩
  · exact World.cell?_setCell_same (w := W) (a := ⟨bc, r * 14 + 9, none⟩) (v := v) h.p9
  · rw [frozen_set_any]; exact h.free j
  · obtain ⟨es, clk, e1, e2⟩ := h.str
    exact ⟨es, clk, (Below.heap_setCell W _ v mp (by show mp ≠ bc; omega)).trans e1, e2⟩

theorem mid_of {w w1 w2 w3 : World} {bc r sg t g c mp : Nat} {k : ByteArray} {ks : List ByteArray} {v9 : Value} (hb : Below w.heap.size w w1) (lbc : bc < w.heap.size) (lsg : sg < w.heap.size) (hsb : sg ≠ bc) (c9 : w.cell? ⟨bc, r * 14 + 9, none⟩ = some v9)
    (hl : Lone w1 w2 bc (r * 14 + 8) t g (ks.length + 1) c mp (k :: ks)) (ho : Only (· = g) w2 w3) (hk : ∀ j x, (k :: ks)[j + 1]? = some x → w3.cell? ⟨g, j * 2, none⟩ = some (.string x)) :
    Mid w (w3.setCell ⟨t, 0, none⟩ (.slice (some ⟨g, 0, none⟩) ks.length c)) bc r sg t g c mp ks v9 := by
  obtain ⟨g1, g2, g3⟩ := hl.ge
  obtain ⟨n1, n2, n3⟩ := hl.ne
  have hz := hb.size
  have e1 : ¬ bc = g := by omega
  have e2 : ¬ mp = g := by omega
  have l2 : bc < w2.heap.size := lt_of_cell hl.at8
  have hr : ∀ j, j ≠ r * 14 + 8 → w3.cell? ⟨bc, j, none⟩ = w.cell? ⟨bc, j, none⟩ := fun j hj =>
    (World.cell?_of_block (w := w2) (a := ⟨bc, j, none⟩) (ho.block bc l2 e1)).trans ((hl.rest j hj).trans (hb.cell (p := ⟨bc, j, none⟩) lbc))
  have hon : Only (fun b => b = bc ∨ b = sg ∨ w.heap.size ≤ b) w w3 :=
    ((Only.of_below (S := fun b => b = bc ∨ b = sg ∨ w.heap.size ≤ b) hb).trans (hl.only.mono fun x _ e => .inl e)).trans (ho.mono fun x _ e => .inr (.inr (by omega)))
  have ntb : bc ≠ t := by omega
  refine ⟨⟨by omega, by omega, by omega⟩, ⟨n1, n2, n3⟩, ⟨lbc, lsg, hsb⟩, hon.setCell ⟨t, 0, none⟩ (.inr (.inr (by show w.heap.size ≤ t; omega))) _, ?_, ?_, fun j => ?_, ?_, ?_, ?_, fun j x hx => ?_, ?_, fun j j1 j2 => ?_⟩
  · exact (cell_set_ne _ _ _ _ _ _ (.inl ntb)).trans (ho.cell hl.at8 e1)
  · exact (cell_set_ne _ _ _ _ _ _ (.inl ntb)).trans ((hr _ (by omega)).trans c9)
  · rw [frozen_set_any, World.frozen?_of_block (w := w2) (a := ⟨bc, j, none⟩) (ho.block bc l2 e1)]; exact hl.free j
  · exact World.cell?_setCell_same (w := w3) (a := ⟨t, 0, none⟩) (v := _) (ho.cell hl.t0 n1)
  · exact (cell_set_ne _ _ _ _ _ _ (.inr (by omega))).trans (ho.cell hl.t1 n1)
  · exact (cell_set_ne _ _ _ _ _ _ (.inr (by omega))).trans (ho.cell hl.t3 n1)
  · exact (cell_set_ne _ _ _ _ _ _ (.inl (Ne.symm n1))).trans (hk j x (by simpa using hx))
  · obtain ⟨es, clk, f1, f2⟩ := hl.str
    exact ⟨es, clk, (Below.heap_setCell w3 _ _ mp (Ne.symm n2)).trans (ho.at f1 e2), f2⟩
  · exact (cell_set_ne _ _ _ _ _ _ (.inl ntb)).trans (hr j j1)
theorem Mid.done {w W : World} {bc r sg t g c mp : Nat} {ks : List ByteArray} {v9 : Value} (h : Mid w W bc r sg t g c mp ks v9) : Dropped w W bc r sg :=
  ⟨h.only.mono fun x hx e => by rcases e with e | e | e; exact .inl e; exact .inr e; omega, ⟨t, h.p8, h.t3⟩, h.rest⟩

set_option maxHeartbeats 4000000 in
set_option maxRecDepth 100000 in
theorem drop_any (hp bc n cap r s bat B sg C m : Nat) (lv : Value) (nx : Option Nat) (k : ByteArray) (ks : List ByteArray) (ps : List Value) (cur : Array Value) (w : World)
    (hc : w.cell? ⟨hp, 0, none⟩ = some (.slice (some ⟨bc, 0, none⟩) n cap)) (h1 : r < n) (hn : n ≤ 100)
    (hbc : w.heap[bc]? = some (.cells cur 88 (0, 0))) (h8 : cur[r * 14 + 8]? = some (ptr s)) (h9 : cur[r * 14 + 9]? = some (.slice (some ⟨sg, 0, none⟩) (ks.length + 1) C))
    (hsh : w.heap[s]? = some (.cells #[lv, .map (some bat), .map nx, .bool false] 95 (0, 0))) (hown : w.ownsRow B 104 2 lv (ks.length + 1) (entCells (k :: ks))) (hsp : SpotsOK w bat (k :: ks)) (hln : ks.length + 1 ≤ 1000)
    (hso : w.ownsRow B 66 7 (.slice (some ⟨sg, 0, none⟩) (ks.length + 1) C) (ks.length + 1) ps) (hps : ∀ u ∈ ps, u.oneCell' = true) (hsb : sg ≠ bc)
    (hs : k.size ≤ 100000000) (hm : k.size = 2 * m) (ho : okU (unpack k.data.toList) = false) :
    Calls Tryz.prog 76 #[ptr hp, .int .i32 r, .string k] w fun e w' => e = .returned (.tuple #[]) ∧ Dropped w w' bc r sg := by
  obtain ⟨es, clk, hm1, hm2⟩ := spots_str hsp
  have c8 : w.cell? ⟨bc, r * 14 + 8, none⟩ = some (.pointer (some ⟨s, 0, none⟩)) := (cell_of_block hbc _).trans h8
  have cs1 : w.cell? ⟨s, 1, none⟩ = some (.map (some bat)) := by rw [cell_of_block hsh]; rfl
  have lbc : bc < w.heap.size := lt_of_heap hbc
  have ls : s < w.heap.size := lt_of_heap hsh
  have lm : bat < w.heap.size := lt_of_heap hm1
  have lsg : sg < w.heap.size := (hso.lt sg rfl).2
  have HI := Lib.hid (index_is k m w false hs hm ho)
  have HL : ∀ W : World, Below w.heap.size w W → Calls Tryz.prog 38 #[ptr s, .string k] W fun e w' => e = .returned (.int .i64 0) ∧ W = w' :=
    fun W hW => slot_first s bat ks k W ((hW.cell (p := ⟨s, 1, none⟩) ls).trans cs1) (spots_same hsp (hW.block bat lm))
  have HA : ∀ W : World, Below w.heap.size w W → Calls Tryz.prog 88 #[.pointer (some ⟨bc, r * 14, none⟩)] W fun e w' => e = .returned (.tuple #[]) ∧ ∃ t g c mp, Lone W w' bc (r * 14 + 8) t g (ks.length + 1) c mp (k :: ks) :=
    fun W hW => alone_own bc r s bat B lv nx (k :: ks) es clk cur W ((hW.block bc lbc).trans hbc) h8 ((hW.block s ls).trans hsh) (own_same hown fun x hx => hW.block x (hown.lt x hx).2) ((hW.block bat lm).trans hm1) hm2 hln (by simp)
  have c9 : w.cell? ⟨bc, r * 14 + 9, none⟩ = some (.slice (some ⟨sg, 0, none⟩) (ks.length + 1) C) := (cell_of_block hbc _).trans h9
  have HL := Lib.hid HL
  have HA := Lib.hid HA
  have HSO := Lib.hid hso
  have HPS := Lib.hid hps
  clear hbc h8 h9 hsh hown hsp hm1 hm2 hso hps hs hm ho
  unfold ptr at *
  go_enter Tryz.func76, Tryz.ntmps76
  go_upto_region 8 with (first
    | (go_at_call 35; refine (at_any hp bc n cap r _ hc h1 hn).mono ?_; rintro e w' ⟨rfl, rfl⟩)
    | (go_at_call 37; refine HI.out.mono ?_; rintro e w1 ⟨⟨v, rfl⟩, hb⟩; have y8 := (hb.cell (p := ⟨bc, r * 14 + 8, none⟩) lbc).trans c8)
    | (go_at_call 38; refine (HL.out _ hb).mono ?_; rintro e w2 ⟨rfl, rfl⟩)
    | (go_at_call 88; refine (HA.out _ hb).mono ?_; rintro e w2 ⟨rfl, t, g, c, mp, hl⟩; have a8 := hl.at8; unfold ptr at a8))
  have HD := Lib.hid (delete_list hl.own rfl (by omega))
  have t0 := hl.t0
  have tf0 := hl.tf 0
  have HSO2 : Hid (∀ W, Only (· = g) w2 W → (W.setCell ⟨t, 0, none⟩ (.slice (some ⟨g, 0, none⟩) ks.length c)).ownsRow B 66 7 (.slice (some ⟨sg, 0, none⟩) (ks.length + 1) C) (ks.length + 1) ps) := Lib.hid (by
    intro W hW
    have hz := hb.size
    obtain ⟨g1, g2, g3⟩ := hl.ge
    refine own_same HSO.out fun x hx => ?_
    injection hx with hx
    subst hx
    exact (Below.heap_setCell W _ _ sg (by show sg ≠ t; omega)).trans ((hW.block sg (Nat.lt_of_lt_of_le (Nat.lt_of_lt_of_le lsg hz) hl.only.size) (by omega)).trans ((hl.only.block sg (Nat.lt_of_lt_of_le lsg hz) hsb).trans (hb.block sg lsg))))
  have HMID : Hid (∀ W, Only (· = g) w2 W → (∀ j x, (k :: ks)[j + 1]? = some x → W.cell? ⟨g, j * 2, none⟩ = some (.string x)) → Mid w (W.setCell ⟨t, 0, none⟩ (.slice (some ⟨g, 0, none⟩) ks.length c)) bc r sg t g c mp ks (.slice (some ⟨sg, 0, none⟩) (ks.length + 1) C)) :=
    Lib.hid fun W h1 h2 => mid_of hb lbc lsg hsb c9 hl h1 h2
  have hne := hl.ne.1
  have HNE := Lib.hid hne
  have HTF := Lib.hid (fun W (hW : Only (· = g) w2 W) => (World.frozen?_of_block (w := w2) (a := ⟨t, 0, none⟩) (hW.block t (lt_of_cell t0) hne)).trans tf0)
  clear hl hb y8 hne
  go_upto_region 9 with (go_at_call 93; refine HD.out.mono ?_; rintro e w3 ⟨rfl, ho3, hk3⟩; have x0 := ho3.cell t0 HNE.out; have xf := HTF.out _ ho3)
  have mid := HMID.out w3 ho3 hk3
  have hso := HSO2.out w3 ho3
  clear HMID HSO2 HTF ho3 hk3 x0 xf t0 tf0 a8 HD
  generalize w3.setCell ⟨t, 0, none⟩ (.slice (some ⟨g, 0, none⟩) ks.length c) = W4 at mid hso ⊢
  have q8 := mid.p8
  have q9 := mid.p9
  have HD2 := Lib.hid (delete_slots hso (by omega) HPS.out)
  have HM5 : Hid (∀ W, Only (· = sg) W4 W → Mid w W bc r sg t g c mp ks (.slice (some ⟨sg, 0, none⟩) (ks.length + 1) C)) := Lib.hid (by
    intro W hW
    refine mid.other hW (.inl rfl) ?_
    obtain ⟨es, clk, f1, f2⟩ := mid.str
    have := mid.ge.2.2
    exact ⟨es, clk, hW.at f1 (by omega), f2⟩)
  clear mid hso
  go_upto_region 10 with (go_at_call 94; refine HD2.out.mono ?_; rintro e w5 ⟨rfl, ho5⟩; have mid5 := HM5.out w5 ho5; have z9 := mid5.p9; have zf := mid5.free (r * 14 + 9))
  have mid6 := mid5.set9 (.slice (some ⟨sg, 0, none⟩) ks.length C)
  clear HM5 HD2 ho5 mid5 z9 zf q8 q9
  generalize w5.setCell ⟨bc, r * 14 + 9, none⟩ (.slice (some ⟨sg, 0, none⟩) ks.length C) = W6 at mid6 ⊢
  obtain ⟨w7, hdel, hstr, ho⟩ := run_del_str mid6.str k
  have q1 := mid6.t1
  have M7 := Lib.hid (mid6.other ho (.inr rfl) hstr)
  clear mid6 hstr ho
  go_wp2_with fail
  go_loopw [11] (fun i wr => ∃ j : Nat, j ≤ ks.length ∧ i = .int .i64 j ∧ Mid w wr bc r sg t g c mp ks (.slice (some ⟨sg, 0, none⟩) ks.length C)) (fun i _ => ks.length - (intOf i).toNat)
  case atStart => exact ⟨0, Nat.zero_le _, rfl, M7.out⟩
  case round =>
    obtain ⟨j, hj, rfl, M⟩ := hrel
    have q0 := M.t0
    have q1 := M.t1
    by_cases hlt : j < ks.length
    · obtain ⟨x, hx⟩ : ∃ x, ks[j]? = some x := ⟨_, List.getElem?_eq_getElem hlt⟩
      have qk := M.keys j x hx
      obtain ⟨w8, hu, hs8, ho8⟩ := run_upd_str (w := wr.drew) (b := mp) M.str x (.int .i64 j)
      have M8 := Lib.hid (M.other (W' := w8) ⟨ho8.os, ho8.tape, ho8.output, ho8.size, ho8.block⟩ (.inr rfl) hs8)
      clear M hs8 ho8 hx M7
      go_wp2_with fail
      go_region
      all_goals go_wp2_with fail
      all_goals go_roundw
      case rel => exact ⟨j + 1, by omega, by go_num, M8.out⟩
      case measure => simp [intOf]; omega
    · have hk2 : j = ks.length := by omega
      subst hk2
      have HM := Lib.hid M.done
      clear M M7
      go_wp2
      refine bodyPost_end (results_none rfl _ _ _) rfl ?_
      exact ⟨rfl, HM.out⟩
end Go.Proofs.YtlacgdnidilndaaGreatDoor
