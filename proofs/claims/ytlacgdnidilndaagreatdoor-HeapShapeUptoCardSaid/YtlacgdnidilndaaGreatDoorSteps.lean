/- The heap's calls as HeapShape makes them, over the state. -/
import Derived.Test.YtlacgdnidilndaaGreatDoorDefst
import Derived.Test.YtlacgdnidilndaaGreatDoorOown
import Derived.Test.YtlacgdnidilndaaGreatDoorVal
import Derived.Test.YtlacgdnidilndaaGreatDoorOdel
import Derived.Test.YtlacgdnidilndaaGreatDoorDrop
import Derived.Test.YtlacgdnidilndaaGreatDoorSameOwn
namespace Go.Proofs.YtlacgdnidilndaaGreatDoor
open Go.RowKit
open Go.Proofs (Tryz.prog)

/-- Is a text's key a place. -/
noncomputable def isPlace (s : ByteArray) : Bool := okU (unpack (keyOf s).data.toList)
/-- The keys that the law takes. -/
def elig (s : ByteArray) : Prop := s.size ≤ 200 ∧ isPlace s = false

theorem own_law {B : Nat} {w : World} {σ : Sig} (h : St B w σ) (i : Nat) (o : Ob) (ho : σ.obs[i]? = some o) (s : ByteArray) (hs : s.size ≤ 2097152) (hT : ∀ W, Below w.heap.size w W → Lib.Utf8Tabs 2 3 W) (hlen : o.ks.length ≤ 1000) :
    Calls Tryz.prog 9 #[ptr σ.oh, .int .i64 ((i + 1 : Nat) : Int), .string s] w fun e w' => (∃ (D : Array Value) (b d : Bool), e = .returned (.tuple #[.agg D, .bool b]) ∧ D.size = 15 ∧ D.all (·.oneCell') = true ∧ D[0]? = some (.bool d) ∧ (d = true ↔ isPlace s = false ∧ keyOf s ∈ o.ks)) ∧ Below w.heap.size w w' := by
  have hi : i < σ.obs.length := (List.getElem?_eq_some_iff.1 ho).1
  have hf := h.few
  obtain ⟨m, hm, hms⟩ := key_even s
  by_cases hx : isPlace s = false ∧ keyOf s ∈ o.ks
  · obtain ⟨kind, num, str, q, g2, g3, g4, g5, HO⟩ := own_st_yes h i o ho (keyOf s) m (by omega) hm hx.1 hx.2 hlen
    refine (oown_gen σ.oh σ.hp (i + 1) w s (keyOf s) kind 7 num str true (by omega) h.ohCell HO (fun W hW => of_any s W hs (hT W hW)) (fun W hW => has_st (h.below hW) i o ho)
      #[.bool true, .bool false, .bool false, .bool true, .bool true, .bool true, .int .i64 kind, .float .f64 num, .string (showK str), .int .i64 0, .int .i64 0, .int .i64 0, .bool true, .bool true, .bool true] ?_).mono ?_
    · rw [if_pos rfl]
      exact ⟨fun W => told_any kind num str q W (by omega) g4 g2 g3, rfl, by simp [Value.oneCell']⟩
    · rintro e w' ⟨he, hb⟩
      exact ⟨⟨_, true, true, he, rfl, by simp [Value.oneCell'], rfl, by simp [hx]⟩, hb⟩
  · have hno : okU (unpack (keyOf s).data.toList) = true ∨ keyOf s ∉ o.ks := by
      cases hok : okU (unpack (keyOf s).data.toList) with
      | true => exact .inl rfl
      | false => exact .inr fun hk => hx ⟨hok, hk⟩
    refine (oown_gen σ.oh σ.hp (i + 1) w s (keyOf s) 0 0 0 ⟨#[]⟩ false (by omega) h.ohCell (fun W hW => own_st_no (h.below hW) i o ho (keyOf s) m (by omega) hm hno) (fun W hW => of_any s W hs (hT W hW)) (fun W hW => has_st (h.below hW) i o ho) zeroDesc ?_).mono ?_
    · rw [if_neg (by simp)]
    · rintro e w' ⟨he, hb⟩
      exact ⟨⟨_, false, false, he, rfl, by simp [zeroDesc, Value.oneCell'], rfl, by simp [hx]⟩, hb⟩

/-- The values that the law gives: none, a number, the text x. -/
def xText : ByteArray := ⟨#[120]⟩
def ValIs (kz : Int) (num : Nat) (txt : ByteArray) : Prop := (kz = 0 ∧ num = 0 ∧ txt = ⟨#[]⟩) ∨ (kz = 3 ∧ txt = ⟨#[]⟩) ∨ (kz = 4 ∧ num = 0 ∧ txt = xText)
theorem define_law {B : Nat} {w : World} {σ : Sig} (h : St B w σ) (hB : B ≤ w.heap.size) (i : Nat) (o : Ob) (ho : σ.obs[i]? = some o) (s : ByteArray) (hs : s.size ≤ 2097152) (hT : ∀ W, Below w.heap.size w W → Lib.Utf8Tabs 2 3 W) (hok : isPlace s = false) (hk : keyOf s ∉ o.ks) (hlen : o.ks.length ≤ 1000)
    (kz : Int) (num : Nat) (txt : ByteArray) (hv : ValIs kz num txt) :
    Calls Tryz.prog 10 #[ptr σ.oh, .int .i64 ((i + 1 : Nat) : Int), .string s, .agg #[.bool true, .bool false, .bool false, .bool true, .bool true, .bool true, .int .i64 kz, .float .f64 num, .string txt, .int .i64 0, .int .i64 0, .int .i64 0, .bool true, .bool true, .bool true]] w fun e w' => e = .returned (.int .i64 0) ∧ Upd B w w' σ i o (keyOf s) := by
  rcases hv with ⟨rfl, rfl, rfl⟩ | ⟨rfl, rfl⟩ | ⟨rfl, rfl, rfl⟩
  · exact define_st h hB i o ho s hs hT hok hk hlen 0 0 0 ⟨#[]⟩ ⟨#[]⟩ 0 (by omega) (by omega) rfl (by decide) fun W _ => value_none _ W
  · exact define_st h hB i o ho s hs hT hok hk hlen 3 3 num ⟨#[]⟩ ⟨#[]⟩ 0 (by omega) (by omega) rfl (by decide) fun W _ => value_num _ num W
  · obtain ⟨q, hq, hq2⟩ := key_even xText
    have hx : xText.size = 1 := rfl
    exact define_st h hB i o ho s hs hT hok hk hlen 4 4 0 xText (keyOf xText) q (by omega) (by omega) hq (by omega) fun W hW => value_text _ xText W (by omega) fun W' hW' => hT W' (hW.trans (hW'.mono hW.size))

/-- Behind the Delete of the first key of the object i: its shape is its own. -/
structure Gone (B : Nat) (w w' : World) (σ : Sig) (i : Nat) : Prop where
  below : Below B w w'
  oh : w'.cell? ⟨σ.oh, 0, none⟩ = some (ptr σ.hp)
  hp : w'.cell? ⟨σ.hp, 0, none⟩ = some (.slice (some ⟨σ.bc, 0, none⟩) (σ.obs.length + 1) σ.cap)
  used : ∀ j, j < σ.obs.length → w'.cell? ⟨σ.bc, (j + 1) * 14 + 12, none⟩ = some (.bool true)
  own : ∃ t, w'.cell? ⟨σ.bc, (i + 1) * 14 + 8, none⟩ = some (ptr t) ∧ w'.cell? ⟨t, 3, none⟩ = some (.bool true)

theorem gone_of {B : Nat} {w W w' : World} {σ : Sig} (h : St B w σ) (hb : Below w.heap.size w W) {i : Nat} {o : Ob} (ho : σ.obs[i]? = some o) {sg : Nat} (hsg : σ.ρ sg = .slots (i + 1)) (hd : Dropped W w' σ.bc (i + 1) sg) : Gone B w w' σ i := by
  have hW := h.below hb
  have hi : i < σ.obs.length := (List.getElem?_eq_some_iff.1 ho).1
  have n1 : σ.oh ≠ σ.bc := fun e => by have h1 := h.oh.1; rw [e, h.bc.1] at h1; cases h1
  have n2 : σ.oh ≠ sg := fun e => by have h1 := h.oh.1; rw [e, hsg] at h1; cases h1
  have n3 : σ.hp ≠ σ.bc := fun e => by have h1 := h.hp.1; rw [e, h.bc.1] at h1; cases h1
  have n4 : σ.hp ≠ sg := fun e => by have h1 := h.hp.1; rw [e, hsg] at h1; cases h1
  have gb := (h.base σ.bc (by rw [h.bc.1]; simp))
  have gs := (h.base sg (by rw [hsg]; simp))
  refine ⟨⟨hd.only.os.trans hb.os, hd.only.tape.trans hb.tape, hd.only.output.trans hb.output, Nat.le_trans hb.size hd.only.size, fun k hk => ?_⟩, hd.only.cell hW.ohCell (by show ¬ (σ.oh = σ.bc ∨ σ.oh = sg); simp [n1, n2]), hd.only.cell hW.hpCell (by show ¬ (σ.hp = σ.bc ∨ σ.hp = sg); simp [n3, n4]), fun j hj => ?_, hd.own⟩
  · have hkw : k < w.heap.size := by omega
    exact (hd.only.block k (Nat.lt_of_lt_of_le hkw hb.size) (by omega)).trans (hb.block k hkw)
  · rw [hd.rest _ (by omega) (by omega), hW.cell (List.getElem?_eq_getElem hj) 12 (by omega)]
    rfl
theorem delete_law {B : Nat} {w : World} {σ : Sig} (h : St B w σ) (i : Nat) (o : Ob) (ho : σ.obs[i]? = some o) (s : ByteArray) (hs : s.size ≤ 2097152) (hT : ∀ W, Below w.heap.size w W → Lib.Utf8Tabs 2 3 W) (hok : isPlace s = false) (ks : List ByteArray) (hks : o.ks = keyOf s :: ks) (hlen : o.ks.length ≤ 1000) :
    Calls Tryz.prog 13 #[ptr σ.oh, .int .i64 ((i + 1 : Nat) : Int), .string s] w fun e w' => e = .returned (.int .i64 0) ∧ ∃ w1, Gone B w w1 σ i ∧ Below w1.heap.size w1 w' := by
  have hi : i < σ.obs.length := (List.getElem?_eq_some_iff.1 ho).1
  have hf := h.few
  obtain ⟨m, hm, hms⟩ := key_even s
  have hlk : o.ks.length = ks.length + 1 := by rw [hks]; rfl
  obtain ⟨a1, a2, a3, a4⟩ := h.ob i o ho
  obtain ⟨lv, bat, nx, s1, s2, s3, s4, s5, s6, s8⟩ := h.shape _ _ a1
  obtain ⟨cur, c1, c2, c3, c4, c5⟩ := h.bc.2
  have cc : ∀ j, j < 14 → cur[(i + 1) * 14 + j]? = (obCells o)[j]? := fun j hj => by
    have := h.cell ho j hj
    rw [cell_of_block c1] at this
    exact this
  obtain ⟨sg, C, hsl, _, _⟩ := a2.form (by omega)
  have hsg : σ.ρ sg = .slots (i + 1) := a3 sg (by rw [hsl]; rfl)
  rw [hsl] at a2
  rw [hlk] at a2 s3 a4
  rw [hks] at s3 s6
  have hsb : sg ≠ σ.bc := fun e => by rw [e, h.bc.1] at hsg; cases hsg
  obtain ⟨kind, num, str, q, g2, g3, g4, g5, HO⟩ := own_st_yes h i o ho (keyOf s) m (by omega) hm hok (by rw [hks]; simp) hlen
  have lsg := (a2.lt sg rfl).2
  have HD : ∀ W, Below w.heap.size w W → Calls Tryz.prog 76 #[ptr σ.hp, .int .i32 ((i + 1 : Nat) : Int), .string (keyOf s)] W fun e w' => e = .returned (.tuple #[]) ∧ Gone B w w' σ i := fun W hW =>
    (drop_any σ.hp σ.bc (σ.obs.length + 1) σ.cap (i + 1) o.sh bat B sg C m lv nx (keyOf s) ks o.ps cur W (h.below hW).hpCell (by omega) (by omega) ((hW.block _ (lt_of_heap c1)).trans c1) ((cc 8 (by omega)).trans rfl) ((cc 9 (by omega)).trans (by rw [← hlk, ← hsl]; rfl))
      ((hW.block _ (lt_of_heap s1)).trans s1) (own_same s3 fun g hg => hW.block g (s3.lt g hg).2) (spots_same s6 (hW.block _ (spots_lt s6))) (by omega) (own_same a2 fun g hg => hW.block g (a2.lt g hg).2) (props_one _ _ a4) hsb (by omega) hm hok).mono
      fun e w' ⟨he, hd⟩ => ⟨he, gone_of h hW ho hsg hd⟩
  have HD54 : ∀ W, Below w.heap.size w W → Calls Tryz.prog 54 #[ptr σ.hp, .int .i32 ((i + 1 : Nat) : Int), .string (keyOf s)] W fun e w' => e = .returned (.bool true) ∧ Gone B w w' σ i := fun W hW =>
    hdelete_any σ.hp (i + 1) (keyOf s) kind num str W (fun w' => Gone B w w' σ i) (HO W hW) fun X hX => HD X (hW.trans (hX.mono hW.size))
  exact pdelete_any σ.oh (i + 1) s w (fun w' => Gone B w w' σ i) (odelete_any σ.oh σ.hp (i + 1) s (keyOf s) w (fun w' => Gone B w w' σ i) h.ohCell (by omega) (fun W hW => has_st (h.below hW) i o ho) (fun W hW => of_any s W hs (hT W hW)) fun W hW =>
    (HD54 W hW).mono fun e w' ⟨he, hg⟩ => ⟨he, hg, hg.oh.trans (h.below hW).ohCell.symm⟩)

/-- Same behind the Delete. -/
theorem same_gone {B : Nat} {w w1 w2 : World} {σ : Sig} {i : Nat} (hf : σ.obs.length ≤ 3) (h : Gone B w w1 σ i) (hb : Below w1.heap.size w1 w2) (hi : i < σ.obs.length) (j : Nat) (hj : j < σ.obs.length) :
    Calls Tryz.prog 6 #[ptr σ.oh, .int .i64 ((i + 1 : Nat) : Int), .int .i64 ((j + 1 : Nat) : Int)] w2 fun e w' => e = .returned (.bool false) ∧ Below w2.heap.size w2 w' := by
  obtain ⟨t, h1, h2⟩ := h.own
  have tr : ∀ {b o : Nat} {v : Value}, w1.cell? ⟨b, o, none⟩ = some v → w2.cell? ⟨b, o, none⟩ = some v := fun {b o v} hc => (hb.cell (p := ⟨b, o, none⟩) (lt_of_cell hc)).trans hc
  exact same_own σ.oh σ.hp σ.bc (σ.obs.length + 1) σ.cap (i + 1) (j + 1) t w2 (tr h.oh) (tr h.hp) (by omega) (by omega) (by omega) (by omega) (by omega) (tr (h.used i hi)) (tr (h.used j hj)) (tr h1) (tr h2)
end Go.Proofs.YtlacgdnidilndaaGreatDoor
