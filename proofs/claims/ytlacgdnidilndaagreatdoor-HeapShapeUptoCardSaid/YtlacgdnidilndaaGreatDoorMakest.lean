/- A new object, over the state. -/
import Derived.Test.YtlacgdnidilndaaGreatDoorMakes
namespace Go.Proofs.YtlacgdnidilndaaGreatDoor
open Go.RowKit
open Go.Proofs (Tryz.prog)

/-- A shape whose parts lie as they lay. -/
theorem shape_move {w w' : World} {B : Nat} {ρ ρ' : Nat → Role} {b : Nat} {ks : List ByteArray} (h : ShapeOK w B ρ b ks) (hb : w'.heap[b]? = w.heap[b]?)
    (hl : ∀ g, ρ g = .list ks → ρ' g = .list ks ∧ w'.heap[g]? = w.heap[g]?) (hs : ∀ g, ρ g = .spots ks → ρ' g = .spots ks ∧ w'.heap[g]? = w.heap[g]?)
    (hn : ∀ g, ρ g = .next ks → ρ' g = .next ks ∧ w'.heap[g]? = w.heap[g]?) (hk : ∀ k b', ρ' b' = .shape (ks ++ [k]) ↔ ρ b' = .shape (ks ++ [k])) : ShapeOK w' B ρ' b ks := by
  obtain ⟨lv, bat, nx, h1, h2, h3, h4, h5, ⟨es, clk, h6, h7⟩, h8⟩ := h
  refine ⟨lv, bat, nx, hb.trans h1, h2, own_same h3 fun g hg => (hl g (h4 g hg)).2, fun g hg => (hl g (h4 g hg)).1, (hs bat h5).1, ⟨es, clk, ((hs bat h5).2).trans h6, h7⟩, ?_⟩
  rcases h8 with ⟨h9, h10⟩ | ⟨c, h9, h10, es', clk', h11, h12, h13⟩
  · exact .inl ⟨h9, fun k b' hb' => h10 k b' ((hk k b').1 hb')⟩
  · refine .inr ⟨c, h9, (hn c h10).1, es', clk', ((hn c h10).2).trans h11, fun e he => ?_, fun k b' hb' => h13 k b' ((hk k b').1 hb')⟩
    obtain ⟨k, b', e1, e2, e3⟩ := h12 e he
    exact ⟨k, b', e1, e2, (hk k b').2 e3⟩

theorem St.rowOwn {B : Nat} {w : World} {σ : Sig} (h : St B w σ) : w.ownsRow B 88 14 (.slice (some ⟨σ.bc, 0, none⟩) (σ.obs.length + 1) σ.cap) (σ.obs.length + 1) (rowCells σ.obs) := by
  obtain ⟨cur, h1, h2, h3, h4, h5⟩ := h.bc.2
  have hr : ∀ obs : List Ob, (rowCells obs).length = (obs.length + 1) * 14 := by
    intro obs
    unfold rowCells
    rw [List.length_append]
    have : ∀ l : List Ob, (l.flatMap obCells).length = l.length * 14 := by
      intro l
      induction l with
      | nil => rfl
      | cons o l ih => rw [List.flatMap_cons, List.length_append, ih, obCells_length, List.length_cons]; omega
    rw [this]
    have : zeroOb.length = 14 := rfl
    omega
  exact ⟨hr _, .inr ⟨σ.bc, σ.cap, cur, rfl, (h.base σ.bc (by rw [h.bc.1]; simp)).1, h1, h3, h4, h2, h5⟩⟩

open Classical in
theorem make_st {B : Nat} {w : World} {σ : Sig} (h : St B w σ) (hB : B ≤ w.heap.size) (hlen : σ.obs.length ≤ 2) :
    Calls Tryz.prog 5 #[ptr σ.oh, .string className, .int .i64 0] w fun e w' => ∃ σ', e = .returned (.tuple #[.int .i64 ((σ.obs.length + 1 : Nat) : Int), .int .i64 0]) ∧ St B w' σ' ∧ σ'.obs = σ.obs ++ [newOb σ.root] ∧ σ'.oh = σ.oh ∧ σ'.root = σ.root ∧ Kept w w' σ σ' := by
  obtain ⟨made, live, hh⟩ := h.hp.2
  have hne : σ.hp ≠ σ.bc := fun e => by have h1 := h.hp.1; rw [e, h.bc.1] at h1; simp at h1
  refine (plainMake_any σ.oh σ.hp σ.bc (σ.obs.length + 1) σ.cap σ.root made live B _ w h.oh.2 hh h.rowOwn (by omega) hB hne).mono ?_
  rintro e w' ⟨g, cap', w1, he, hm, hb⟩
  obtain ⟨made', live', hh'⟩ := hm.head
  have hz1 : w.heap.size ≤ w1.heap.size := hm.kept.2.2.2
  have hz2 : w1.heap.size ≤ w'.heap.size := hb.size
  have l0 := (h.base σ.oh (by rw [h.oh.1]; simp)).2
  have l1 := (h.base σ.hp (by rw [h.hp.1]; simp)).2
  have l2 := (h.base σ.bc (by rw [h.bc.1]; simp)).2
  obtain ⟨ρ', hρ⟩ : ∃ ρ' : Nat → Role, ρ' = fun b => if b = g then .objs else if b = σ.bc then .none else σ.ρ b := ⟨_, rfl⟩
  have rg : ρ' g = .objs := by rw [hρ]; simp
  -- a part that is no row of objects is played by whoever played it
  have keep : ∀ b, σ.ρ b ≠ .none → σ.ρ b ≠ .objs → ρ' b = σ.ρ b := by
    intro b h1 h2
    have hbc : b ≠ σ.bc := fun e => h2 (by rw [e]; exact h.bc.1)
    have hbg : b ≠ g := by
      rcases hm.who with e | e
      · rw [e]; exact hbc
      · have := (h.base b h1).2; omega
    rw [hρ]; simp [hbc, hbg]
  have back : ∀ b r, ρ' b = r → r ≠ .none → r ≠ .objs → σ.ρ b = r := by
    intro b r h1 h2 h3
    rw [hρ] at h1
    simp only at h1
    split at h1
    · exact absurd h1.symm h3
    · split at h1
      · exact absurd h1.symm h2
      · exact h1
  have blk : ∀ b, b < w.heap.size → b ≠ σ.hp → b ≠ σ.bc → w'.heap[b]? = w.heap[b]? := fun b h1 h2 h3 => (hb.block b (by omega)).trans (hm.block b h1 h2 h3)
  have blk2 : ∀ b r, σ.ρ b = r → r ≠ .none → r ≠ .hp → r ≠ .objs → w'.heap[b]? = w.heap[b]? := fun b r h1 h2 h3 h4 =>
    blk b (h.base b (by rw [h1]; exact h2)).2 (fun e => h3 (by rw [← h1, e, h.hp.1])) (fun e => h4 (by rw [← h1, e, h.bc.1]))
  have sh : ∀ b ks, ρ' b = .shape ks ↔ σ.ρ b = .shape ks := fun b ks => ⟨fun e => back b _ e (by simp) (by simp), fun e => by rw [keep b (by rw [e]; simp) (by rw [e]; simp), e]⟩
  have own : w'.ownsRow B 88 14 (.slice (some ⟨g, 0, none⟩) (σ.obs.length + 1 + 1) cap') (σ.obs.length + 1 + 1) (rowCells σ.obs ++ obCells (newOb σ.root)) :=
    own_same hm.own fun g' hg' => hb.block g' (by injection hg' with hg'; subst hg'; exact (hm.own.lt _ rfl).2)
  have gB : B ≤ g := (hm.own.lt _ rfl).1
  have gl : g < w1.heap.size := (hm.own.lt _ rfl).2
  refine ⟨⟨σ.oh, σ.hp, g, cap', σ.root, σ.obs ++ [newOb σ.root], ρ'⟩, ?_, ?_, rfl, rfl, rfl, ?_⟩
  · rw [he]
  · refine ⟨fun b hb' => ?_, ⟨?_, ?_⟩, ⟨?_, made', live', ?_⟩, ⟨rg, ?_⟩, ?_, ?_, fun i o ho => ?_, fun b ks hb' => ?_, fun b b' ks h1 h2 => ?_, fun b ks k h1 => ?_⟩
    · by_cases e : b = g
      · subst e; exact ⟨gB, by omega⟩
      · have h1 : σ.ρ b ≠ .none := fun e1 => hb' (by rw [hρ]; simp [e, e1])
        exact ⟨(h.base b h1).1, by have := (h.base b h1).2; omega⟩
    · show ρ' σ.oh = _
      rw [keep _ (by rw [h.oh.1]; simp) (by rw [h.oh.1]; simp), h.oh.1]
    · exact (blk2 σ.oh .oh h.oh.1 (by simp) (by simp) (by simp)).trans h.oh.2
    · show ρ' σ.hp = _
      rw [keep _ (by rw [h.hp.1]; simp) (by rw [h.hp.1]; simp), h.hp.1]
    · rw [hb.block σ.hp (by omega), hh']
      simp [hpCells]
    · rcases own.2 with ⟨h1, _⟩ | ⟨g', cap2, cur, h1, h2, h3, h4, h5, h6, h7⟩
      · cases h1
      · injection h1 with h1 h8 h9
        injection h1 with h1
        injection h1 with h1
        subst h1 h9
        refine ⟨cur, h3, h6, by simpa using h4, h5, ?_⟩
        rw [List.length_append, List.length_singleton, h7]
        simp [rowCells, List.flatMap_append]
    · simp; omega
    · exact (sh _ _).2 h.root
    · by_cases hi : i < σ.obs.length
      · rw [List.getElem?_append_left hi] at ho
        obtain ⟨a1, a2, a3, a4⟩ := h.ob i o ho
        refine ⟨(sh _ _).2 a1, own_same a2 fun g' hg' => blk2 g' _ (a3 g' hg') (by simp) (by simp) (by simp), fun g' hg' => ?_, a4⟩
        show ρ' g' = _
        rw [keep g' (by rw [a3 g' hg']; simp) (by rw [a3 g' hg']; simp), a3 g' hg']
      · rw [List.getElem?_append_right (by omega)] at ho
        have : i - σ.obs.length = 0 := by
          rcases Nat.eq_zero_or_pos (i - σ.obs.length) with e | e
          · exact e
          · rw [List.getElem?_eq_none (by simp; omega)] at ho; cases ho
        rw [this] at ho
        simp at ho
        subst ho
        exact ⟨(sh _ _).2 h.root, ⟨rfl, .inl ⟨rfl, rfl⟩⟩, fun g' hg' => by simp [newOb, noSlice, Value.ownBlock] at hg', rfl⟩
    · have hb1 := (sh b ks).1 hb'
      have tr : ∀ g' (r : Role), σ.ρ g' = r → r ≠ .none → r ≠ .hp → r ≠ .objs → ρ' g' = r ∧ w'.heap[g']? = w.heap[g']? := fun g' r e1 e2 e3 e4 =>
        ⟨by rw [keep g' (by rw [e1]; exact e2) (by rw [e1]; exact e4), e1], blk2 g' r e1 e2 e3 e4⟩
      exact shape_move (h.shape b ks hb1) (blk2 b _ hb1 (by simp) (by simp) (by simp)) (fun g' e1 => tr g' _ e1 (by simp) (by simp) (by simp)) (fun g' e1 => tr g' _ e1 (by simp) (by simp) (by simp))
        (fun g' e1 => tr g' _ e1 (by simp) (by simp) (by simp)) (fun k b' => sh b' _)
    · exact h.uniq b b' ks ((sh b ks).1 h1) ((sh b' ks).1 h2)
    · obtain ⟨b0, h2⟩ := h.pre b ks k ((sh b _).1 h1)
      exact ⟨b0, (sh b0 ks).2 h2⟩
  · refine ⟨hb.os.trans hm.kept.1, hb.tape.trans hm.kept.2.1, hb.output.trans hm.kept.2.2.1, by omega, fun b hb1 hr => ?_⟩
    have n1 : b ≠ σ.hp := fun e => by rw [e, h.hp.1] at hr; simp at hr
    have n2 : b ≠ σ.bc := fun e => by rw [e, h.bc.1] at hr; simp at hr
    have n3 : b ≠ g := by
      rcases hm.who with e | e
      · rw [e]; exact n2
      · omega
    exact ⟨by show ρ' b = _; rw [hρ]; simp [n2, n3, hr], blk b hb1 n1 n2⟩
end Go.Proofs.YtlacgdnidilndaaGreatDoor
