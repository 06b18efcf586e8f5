/- The shape that has one key more, over the state. -/
import Derived.Test.YtlacgdnidilndaaGreatDoorPut
namespace Go.Proofs.YtlacgdnidilndaaGreatDoor
open Go.RowKit
open Go.Proofs (Tryz.prog)

theorem look_next_nil (k : ByteArray) (w : World) : (Instr.lookup 93 (.map none) (entK k) true).run Tryz.prog w = .ok (.tuple #[.pointer none, .bool false]) w := by
  have hz := Tryz.zeroValue55 w
  have hf : (Instr.findKey 104 (entK k) []).run Tryz.prog w = .ok none w := by
    rcases find104 k w [] (by simp) with ⟨h, _⟩ | ⟨j, e, _, h, _⟩
    · exact h
    · simp at h
  simp [Instr.lookup, run_underlying under93, check104, hf, hz, Result.andThen]

/-- What Shape.with leaves, over the state. -/
structure WithSt (B : Nat) (w w' : World) (σ σ' : Sig) (ks : List ByteArray) (k : ByteArray) (t : Nat) : Prop where
  st : St B w' σ'
  kept : Kept w w' σ σ'
  flds : σ'.oh = σ.oh ∧ σ'.hp = σ.hp ∧ σ'.bc = σ.bc ∧ σ'.cap = σ.cap ∧ σ'.root = σ.root ∧ σ'.obs = σ.obs
  role : σ'.ρ t = .shape (ks ++ [k])
  block : ∀ b, b < w.heap.size → (∀ x, σ.ρ b ≠ .shape x) → (∀ x, σ.ρ b ≠ .next x) → w'.heap[b]? = w.heap[b]? ∧ σ'.ρ b = σ.ρ b

theorem app_inj {a b : List ByteArray} {x y : ByteArray} (h : a ++ [x] = b ++ [y]) : a = b ∧ x = y := by
  have := List.append_inj' h rfl
  exact ⟨this.1, by simpa using this.2⟩
open Classical in
theorem with_fin {B : Nat} {w w' : World} {σ : Sig} (h : St B w σ) (hB : B ≤ w.heap.size) {ks : List ByteArray} {k : ByteArray} {s : Nat} (hs : σ.ρ s = .shape ks) (hk : k ∉ ks) {lv : Value} {bat : Nat} {nx : Option Nat} {t g cap mp : Nat}
    (hlv : ∀ x, lv.ownBlock = some x → σ.ρ x = .list ks) (hown : w.ownsRow B 104 2 lv ks.length (entCells ks)) (hbat : σ.ρ bat = .spots ks) (hspots : SpotsOK w bat ks) (hnd : ks.Nodup)
    (hno : ∀ b, σ.ρ b ≠ .shape (ks ++ [k])) (hnx : (nx = none ∧ ∀ k b', σ.ρ b' ≠ .shape (ks ++ [k])) ∨ ∃ c, nx = some c ∧ σ.ρ c = .next ks ∧ NextOK w σ.ρ c ks)
    (hw : WithAt w w' ks k s lv bat nx t g cap mp) : ∃ σ', WithSt B w w' σ σ' ks k t := by
  obtain ⟨c, hc1, hc2⟩ := hw.next
  obtain ⟨g1, g2, g3⟩ := hw.gt
  obtain ⟨n1, n2, n3⟩ := hw.ne
  have ls := (h.base s (by rw [hs]; simp)).2
  obtain ⟨K, hK⟩ : ∃ K, K = ks ++ [k] := ⟨_, rfl⟩
  -- where the block of those that come next lies
  have hcc : (σ.ρ c = .next ks ∧ c < w.heap.size ∧ nx = some c) ∨ (nx = none ∧ w.heap.size < c) := by
    rcases hc2 with ⟨e1, es, clk, e2, _⟩ | ⟨e1, e2, _⟩
    · rcases hnx with ⟨e3, _⟩ | ⟨c', e3, e4, _⟩
      · rw [e1] at e3; cases e3
      · rw [e1] at e3; injection e3 with e3; subst e3
        exact .inl ⟨e4, lt_of_heap e2, e1⟩
    · exact .inr ⟨e1, e2⟩
  have ctn : c ≠ t ∧ c ≠ g ∧ c ≠ mp := by
    rcases hc2 with ⟨e1, es, clk, e2, _⟩ | ⟨_, _, e3, e4, e5, _⟩
    · have := lt_of_heap e2; exact ⟨by omega, by omega, by omega⟩
    · exact ⟨e3, e5, e4⟩
  have cs : c ≠ s := by
    rcases hcc with ⟨e, _⟩ | ⟨_, e⟩
    · intro e2; rw [e2, hs] at e; cases e
    · omega
  obtain ⟨ρ', hρ⟩ : ∃ ρ' : Nat → Role, ρ' = fun b => if b = t then .shape K else if b = g then .list K else if b = mp then .spots K else if b = c then .next ks else σ.ρ b := ⟨_, rfl⟩
  have rt : ρ' t = .shape K := by rw [hρ]; simp
  have rg : ρ' g = .list K := by rw [hρ]; simp [n2]
  have rm : ρ' mp = .spots K := by rw [hρ]; simp [n1.symm, n3.symm]
  have rc : ρ' c = .next ks := by rw [hρ]; simp [ctn.1, ctn.2.1, ctn.2.2]
  have oldρ : ∀ b, b < w.heap.size → ρ' b = σ.ρ b := by
    intro b hb
    rw [hρ]
    simp only
    rw [if_neg (by omega), if_neg (by omega), if_neg (by omega)]
    split
    · rename_i e
      subst e
      rcases hcc with ⟨e1, _⟩ | ⟨_, e1⟩
      · exact e1.symm
      · omega
    · rfl
  have oldr : ∀ b r, σ.ρ b = r → r ≠ .none → ρ' b = r := fun b r h1 h2 => (oldρ b (h.base b (by rw [h1]; exact h2)).2).trans h1
  have shp : ∀ b X, ρ' b = .shape X → (b = t ∧ X = K) ∨ σ.ρ b = .shape X := by
    intro b X hb
    rw [hρ] at hb
    simp only at hb
    split at hb
    · rename_i e; injection hb with hb; exact .inl ⟨e, hb.symm⟩
    · split at hb
      · cases hb
      · split at hb
        · cases hb
        · split at hb
          · cases hb
          · exact .inr hb
  have blk : ∀ b, b < w.heap.size → b ≠ s → b ≠ c → w'.heap[b]? = w.heap[b]? := fun b h1 h2 h3 => hw.block b h1 h2 (by
    rcases hcc with ⟨_, _, e⟩ | ⟨e, _⟩
    · rw [e]; intro e2; injection e2 with e2; exact h3 e2.symm
    · rw [e]; simp)
  have blkr : ∀ b r, σ.ρ b = r → r ≠ .none → (∀ x, r ≠ .shape x) → (∀ x, r ≠ .next x) → w'.heap[b]? = w.heap[b]? := fun b r h1 h2 h3 h4 => by
    have hb := (h.base b (by rw [h1]; exact h2)).2
    refine blk b hb (fun e => h3 ks (by rw [← h1, e, hs])) (fun e => ?_)
    rcases hcc with ⟨e1, _⟩ | ⟨_, e1⟩
    · exact h4 ks (by rw [← h1, e, e1])
    · omega
  have zz := hw.kept.2.2.2
  have lt1 := lt_of_heap hw.shape
  have lt2 := (hw.own.lt g rfl).2
  have lt3 : mp < w'.heap.size := by obtain ⟨_, _, e, _⟩ := hw.spots; exact lt_of_heap e
  have lt4 : c < w'.heap.size := by
    rcases hc2 with ⟨_, _, _, _, e⟩ | ⟨_, _, _, _, _, _, e⟩ <;> exact lt_of_heap e
  have childs : ∀ X x b, ρ' b = .shape (X ++ [x]) → X ≠ ks → σ.ρ b = .shape (X ++ [x]) := fun X x b hb hne => by
    rcases shp b _ hb with ⟨_, e⟩ | e
    · rw [hK] at e; exact absurd (app_inj e).1 hne
    · exact e
  refine ⟨⟨σ.oh, σ.hp, σ.bc, σ.cap, σ.root, σ.obs, ρ'⟩, ⟨⟨fun b hb => ?_, ⟨?_, ?_⟩, ⟨?_, ?_⟩, ⟨?_, ?_⟩, h.few, ?_, fun i o ho => ?_, fun b X hb => ?_, fun b b' X h1 h2 => ?_, fun b X x hb => ?_⟩, ⟨hw.kept.1, hw.kept.2.1, hw.kept.2.2.1, zz, fun b hb hr => ?_⟩, ⟨rfl, rfl, rfl, rfl, rfl, rfl⟩, by rw [← hK]; exact rt, fun b hb h1 h2 => ?_⟩⟩
  · by_cases e1 : b = t
    · subst e1; exact ⟨by omega, lt1⟩
    · by_cases e2 : b = g
      · subst e2; exact ⟨by omega, lt2⟩
      · by_cases e3 : b = mp
        · subst e3; exact ⟨by omega, lt3⟩
        · by_cases e4 : b = c
          · subst e4
            refine ⟨?_, lt4⟩
            rcases hcc with ⟨e5, _⟩ | ⟨_, e5⟩
            · exact (h.base b (by rw [e5]; simp)).1
            · omega
          · have h5 : σ.ρ b ≠ .none := fun e5 => hb (by show ρ' b = _; rw [hρ]; simp [e1, e2, e3, e4, e5])
            exact ⟨(h.base b h5).1, Nat.lt_of_lt_of_le (h.base b h5).2 zz⟩
  · exact oldr _ _ h.oh.1 (by simp)
  · exact (blkr _ _ h.oh.1 (by simp) (by simp) (by simp)).trans h.oh.2
  · exact oldr _ _ h.hp.1 (by simp)
  · obtain ⟨m, l, e⟩ := h.hp.2
    exact ⟨m, l, (blkr _ _ h.hp.1 (by simp) (by simp) (by simp)).trans e⟩
  · exact oldr _ _ h.bc.1 (by simp)
  · obtain ⟨cur, e, r⟩ := h.bc.2
    exact ⟨cur, (blkr _ _ h.bc.1 (by simp) (by simp) (by simp)).trans e, r⟩
  · exact oldr _ _ h.root (by simp)
  · obtain ⟨a1, a2, a3, a4⟩ := h.ob i o ho
    exact ⟨oldr _ _ a1 (by simp), own_same a2 fun x hx => blkr x _ (a3 x hx) (by simp) (by simp) (by simp), fun x hx => oldr x _ (a3 x hx) (by simp), a4⟩
  · rcases shp b X hb with ⟨rfl, rfl⟩ | hb2
    · refine ⟨_, mp, none, hw.shape, ?_, ?_, fun x hx => ?_, rm, by rw [hK]; exact hw.spots, .inl ⟨rfl, fun k' b' hb' => ?_⟩⟩
      · rw [hK, List.nodup_append]
        refine ⟨hnd, by simp, ?_⟩
        intro a ha b2 hb2
        simp at hb2
        subst hb2
        exact fun e => hk (e ▸ ha)
      · rw [hK, List.length_append, List.length_singleton]
        exact ⟨by have := hw.own.1; exact this, by
          rcases hw.own.2 with e | ⟨g', c', cur, e1, e2, e3⟩
          · exact .inl e
          · exact .inr ⟨g', c', cur, e1, by omega, e3⟩⟩
      · injection hx with hx; subst hx; exact rg
      · rcases shp b' _ hb' with ⟨_, e⟩ | e
        · have := congrArg List.length e; simp at this
        · obtain ⟨b0, e0⟩ := h.pre b' X k' e
          rw [hK] at e0
          exact hno b0 e0
    · have hb0 := (h.base b (by rw [hb2]; simp)).2
      by_cases hbs : b = s
      · subst hbs
        obtain rfl : ks = X := by rw [hs] at hb2; injection hb2
        refine ⟨lv, bat, some c, hc1, hnd, own_same hown fun x hx => blkr x _ (hlv x hx) (by simp) (by simp) (by simp), fun x hx => oldr x _ (hlv x hx) (by simp), oldr _ _ hbat (by simp), spots_keep hspots (blkr _ _ hbat (by simp) (by simp) (by simp)), .inr ⟨c, rfl, rc, ?_⟩⟩
        rcases hc2 with ⟨e1, es, clk, e2, e3⟩ | ⟨e1, _, _, _, _, clk, e3⟩
        · rcases hnx with ⟨e4, _⟩ | ⟨c', e4, e5, es', clk', e6, e7, e8⟩
          · rw [e1] at e4; cases e4
          · rw [e1] at e4; injection e4 with e4; subst e4
            rw [e2] at e6; injection e6 with e6; injection e6 with e6 e6'; subst e6
            refine ⟨_, _, e3, fun e he => ?_, fun k' b' hb' => ?_⟩
            · rw [Array.toList_push, List.mem_append] at he
              rcases he with he | he
              · obtain ⟨k1, b1, x1, x2, x3⟩ := e7 e he
                exact ⟨k1, b1, x1, x2, oldr _ _ x3 (by simp)⟩
              · simp at he; subst he
                exact ⟨k, t, rfl, rfl, by rw [← hK]; exact rt⟩
            · rcases shp b' _ hb' with ⟨rfl, e⟩ | e
              · rw [hK] at e
                obtain rfl := (app_inj e).2
                exact ⟨{ key := entK k', val := ptr b', born := clk }, by rw [Array.toList_push]; simp, rfl, rfl⟩
              · obtain ⟨e', x1, x2⟩ := e8 k' b' e
                exact ⟨e', by rw [Array.toList_push]; exact List.mem_append_left _ x1, x2⟩
        · rcases hnx with ⟨_, e4⟩ | ⟨c', e4, _⟩
          · refine ⟨_, _, e3, fun e he => ?_, fun k' b' hb' => ?_⟩
            · simp at he; subst he
              exact ⟨k, t, rfl, rfl, by rw [← hK]; exact rt⟩
            · rcases shp b' _ hb' with ⟨rfl, e⟩ | e
              · rw [hK] at e
                obtain rfl := (app_inj e).2
                exact ⟨{ key := entK k', val := ptr b', born := clk }, by simp, rfl, rfl⟩
              · exact absurd e (e4 k' b')
          · rw [e1] at e4; cases e4
      · have hX : X ≠ ks := fun e => hbs (h.uniq b s ks (by rw [hb2, e]) hs)
        have bc' : b ≠ c := by
          rcases hcc with ⟨e1, _⟩ | ⟨_, e1⟩
          · intro e; rw [e, e1] at hb2; cases hb2
          · omega
        have nxt : ∀ x, σ.ρ x = .next X → w'.heap[x]? = w.heap[x]? := fun x hx => by
          have hx0 := (h.base x (by rw [hx]; simp)).2
          refine blk x hx0 (fun e => by rw [e, hs] at hx; cases hx) (fun e => ?_)
          rcases hcc with ⟨e1, _⟩ | ⟨_, e1⟩
          · rw [e, e1] at hx; injection hx with hx; exact hX hx.symm
          · omega
        exact shape_move (h.shape b X hb2) (blk b hb0 hbs bc') (fun x hx => ⟨oldr x _ hx (by simp), blkr x _ hx (by simp) (by simp) (by simp)⟩) (fun x hx => ⟨oldr x _ hx (by simp), blkr x _ hx (by simp) (by simp) (by simp)⟩)
          (fun x hx => ⟨oldr x _ hx (by simp), nxt x hx⟩) (fun k' b' => ⟨fun e => childs X k' b' e hX, fun e => oldr _ _ e (by simp)⟩)
  · rcases shp b X h1 with ⟨rfl, rfl⟩ | e1
    · rcases shp b' X h2 with ⟨rfl, _⟩ | e2
      · rfl
      · exact absurd (by rw [e2, hK]) (hno b')
    · rcases shp b' X h2 with ⟨rfl, rfl⟩ | e2
      · exact absurd (by rw [e1, hK]) (hno b)
      · exact h.uniq b b' X e1 e2
  · rcases shp b _ hb with ⟨_, e⟩ | e
    · rw [hK] at e
      obtain rfl := (app_inj e).1
      exact ⟨s, oldr _ _ hs (by simp)⟩
    · obtain ⟨b0, e0⟩ := h.pre b X x e
      exact ⟨b0, oldr _ _ e0 (by simp)⟩
  · refine ⟨(oldρ b hb).trans hr, blk b hb (fun e => by rw [e, hs] at hr; cases hr) (fun e => ?_)⟩
    rcases hcc with ⟨e1, _⟩ | ⟨_, e1⟩
    · rw [e, e1] at hr; cases hr
    · omega
  · refine ⟨blk b hb (fun e => h1 ks (by rw [e, hs])) (fun e => ?_), oldρ b hb⟩
    rcases hcc with ⟨e1, _⟩ | ⟨_, e1⟩
    · exact h2 ks (by rw [e, e1])
    · omega

theorem WithSt.of_below {B : Nat} {w w' : World} {σ : Sig} (h : St B w σ) (hb : Below w.heap.size w w') {ks : List ByteArray} {k : ByteArray} {t : Nat} (ht : σ.ρ t = .shape (ks ++ [k])) : WithSt B w w' σ σ ks k t :=
  ⟨h.below hb, Kept.of_below σ hb, ⟨rfl, rfl, rfl, rfl, rfl, rfl⟩, ht, fun b hb' _ _ => ⟨hb.block b hb', rfl⟩⟩
/-- Shape.with over the state. -/
theorem with_st {B : Nat} {w : World} {σ : Sig} (h : St B w σ) (hB : B ≤ w.heap.size) {ks : List ByteArray} {k : ByteArray} {s : Nat} (hs : σ.ρ s = .shape ks) (hk : k ∉ ks) (hlen : ks.length ≤ 1000) :
    Calls Tryz.prog 87 #[ptr s, .agg #[.string k, .int .u8 7]] w fun e w' => ∃ t, e = .returned (ptr t) ∧ ∃ σ', WithSt B w w' σ σ' ks k t := by
  obtain ⟨lv, bat, nx, h1, h2, h3, h4, h5, h6, h8⟩ := h.shape s ks hs
  by_cases hex : ∃ b, σ.ρ b = .shape (ks ++ [k])
  · obtain ⟨b, hb⟩ := hex
    rcases h8 with ⟨_, h9⟩ | ⟨c, rfl, h10, h11⟩
    · exact absurd hb (h9 k b)
    · have c2 : w.cell? ⟨s, 2, none⟩ = some (.map (some c)) := by rw [cell_of_block h1]; rfl
      have c3 : w.cell? ⟨s, 3, none⟩ = some (.bool false) := by rw [cell_of_block h1]; rfl
      refine (with_yes s b (some c) k w c2 c3 fun W hW => ?_).mono fun e w' ⟨he, hw⟩ => ⟨b, he, σ, WithSt.of_below h hw hb⟩
      have hN : NextOK W σ.ρ c ks := by
        obtain ⟨es, clk, e1, e2, e3⟩ := h11
        exact ⟨es, clk, (hW.block c (lt_of_heap e1)).trans e1, e2, e3⟩
      exact run_next_yes hN k b hb fun b' hb' => h.uniq b' b _ hb' hb
  · have hno : ∀ b, σ.ρ b ≠ .shape (ks ++ [k]) := fun b hb => hex ⟨b, hb⟩
    refine (with_no s bat B lv nx ks k w h1 h3 h6 hlen hk (fun c hc => ?_) fun W hW => ?_).mono ?_
    · rcases h8 with ⟨e, _⟩ | ⟨c', e, _, es, clk, e1, e2, e3⟩
      · rw [e] at hc; cases hc
      · rw [e] at hc; injection hc with hc; subst hc
        refine ⟨es, clk, e1, fun x hx => ?_, fun x hx e => ?_⟩
        · obtain ⟨y, _, e4, _⟩ := e2 x hx
          exact ⟨y, e4⟩
        · obtain ⟨y, b', e4, _, e5⟩ := e2 x hx
          have : y = k := entK_inj (e4.symm.trans e)
          subst this
          exact hno b' e5
    · rcases h8 with ⟨rfl, _⟩ | ⟨c', rfl, _, es, clk, e1, e2, e3⟩
      · exact look_next_nil k W
      · exact run_next_no (ρ := σ.ρ) (ks := ks) ⟨es, clk, (hW.block c' (lt_of_heap e1)).trans e1, e2, e3⟩ k hno
    · rintro e w' ⟨t, g, cap, mp, he, hw⟩
      exact ⟨t, he, with_fin h hB hs hk h4 h3 h5 h6 h2 hno h8 hw⟩

theorem flat_set : ∀ (obs : List Ob) (i : Nat) (o o' : Ob) (x y : Value), obs[i]? = some o → obCells o' = ((obCells o).set 8 x).set 9 y → ((obs.flatMap obCells).set (i * 14 + 8) x).set (i * 14 + 9) y = (obs.set i o').flatMap obCells
  | a :: obs, 0, o, o', x, y, h, he => by
    have : a = o := by simpa using h
    subst this
    rw [List.flatMap_cons, List.set_append_left _ _ (by rw [obCells_length]; omega), List.set_append_left _ _ (by rw [List.length_set, obCells_length]; omega), List.set_cons_zero, List.flatMap_cons, he]
  | a :: obs, i + 1, o, o', x, y, h, he => by
    rw [List.flatMap_cons, List.set_append_right _ _ (by rw [obCells_length]; omega), List.set_append_right _ _ (by rw [obCells_length]; omega), List.set_cons_succ, List.flatMap_cons, obCells_length]
    have e1 : (i + 1) * 14 + 8 - 14 = i * 14 + 8 := by omega
    have e2 : (i + 1) * 14 + 9 - 14 = i * 14 + 9 := by omega
    rw [e1, e2, flat_set obs i o o' x y (by simpa using h) he]
theorem row_set (obs : List Ob) (i : Nat) (o o' : Ob) (x y : Value) (h : obs[i]? = some o) (he : obCells o' = ((obCells o).set 8 x).set 9 y) : ((rowCells obs).set ((i + 1) * 14 + 8) x).set ((i + 1) * 14 + 9) y = rowCells (obs.set i o') := by
  unfold rowCells
  have hz : zeroOb.length = 14 := rfl
  rw [List.set_append_right _ _ (by rw [hz]; omega), List.set_append_right _ _ (by rw [hz]; omega), hz]
  have e1 : (i + 1) * 14 + 8 - 14 = i * 14 + 8 := by omega
  have e2 : (i + 1) * 14 + 9 - 14 = i * 14 + 9 := by omega
  rw [e1, e2, flat_set obs i o o' x y h he]

open Classical in
/-- What Put leaves, over the state. -/
theorem put_fin {B : Nat} {w W w1 w' : World} {σ σ1 : Sig} (h : St B w σ) {i : Nat} {o : Ob} (ho : σ.obs[i]? = some o) {k : ByteArray} {kind : Int} {num : Nat} {str : ByteArray} {m t g cap : Nat} {cur : Array Value}
    (hk0 : 0 ≤ kind) (hk1 : kind < 256) (hm : str.size = 2 * m) (hm2 : str.size ≤ 2)
    (hcur : w.heap[σ.bc]? = some (.cells cur 88 (0, 0))) (hW : Below w.heap.size w W) (hq : WithSt B W w1 σ σ1 o.ks k t)
    (hp : PutAt B σ.bc (i + 1) o.sl o.ks.length o.ps (propCells kind num str) w W w1 w' t g cap cur) :
    ∃ σ', St B w' σ' ∧ Kept w w' σ σ' ∧ σ'.oh = σ.oh ∧ σ'.hp = σ.hp ∧ σ'.root = σ.root ∧ ∃ o', o'.ks = o.ks ++ [k] ∧ σ'.obs = σ.obs.set i o' := by
  have h1 := hq.st
  obtain ⟨f1, f2, f3, f4, f5, f6⟩ := hq.flds
  have hi : i < σ.obs.length := (List.getElem?_eq_some_iff.1 ho).1
  have hWz : w.heap.size ≤ W.heap.size := hW.size
  have hwz : W.heap.size ≤ w1.heap.size := hq.kept.size
  have hw'z := hp.kept.2.2.2
  obtain ⟨a1, a2, a3, a4⟩ := h.ob i o ho
  -- a block that is no shape's, no next's keeps its part
  have same1 : ∀ b r, σ.ρ b = r → r ≠ .none → (∀ x, r ≠ .shape x) → (∀ x, r ≠ .next x) → σ1.ρ b = r := fun b r e1 e2 e3 e4 =>
    (hq.block b (Nat.lt_of_lt_of_le (h.base b (by rw [e1]; exact e2)).2 hWz) (by rw [e1]; exact e3) (by rw [e1]; exact e4)).2.trans e1
  have slr : ∀ x, o.sl.ownBlock = some x → σ1.ρ x = .slots (i + 1) := fun x hx => same1 x _ (a3 x hx) (by simp) (by simp) (by simp)
  have bcr : σ1.ρ σ.bc = .objs := same1 _ _ h.bc.1 (by simp) (by simp) (by simp)
  obtain ⟨ρ', hρ⟩ : ∃ ρ' : Nat → Role, ρ' = fun b => if b = g then .slots (i + 1) else if σ1.ρ b = .slots (i + 1) then .none else σ1.ρ b := ⟨_, rfl⟩
  have rg : ρ' g = .slots (i + 1) := by rw [hρ]; simp
  have gB := (hp.own.lt g rfl).1
  have gl := (hp.own.lt g rfl).2
  have gne : ∀ b r, σ1.ρ b = r → r ≠ .slots (i + 1) → b < w1.heap.size → b ≠ g := fun b r e1 e2 e3 e4 => by
    rcases hp.who with e | e
    · have := slr g e; rw [← e4, e1] at this; exact e2 this
    · omega
  have keep : ∀ b r, σ1.ρ b = r → r ≠ .none → r ≠ .slots (i + 1) → ρ' b = r := fun b r e1 e2 e3 => by
    have := gne b r e1 e3 (h1.base b (by rw [e1]; exact e2)).2
    rw [hρ]; simp only [if_neg this, e1, if_neg e3]
  have back : ∀ b r, ρ' b = r → r ≠ .none → r ≠ .slots (i + 1) → σ1.ρ b = r := fun b r e1 e2 e3 => by
    rw [hρ] at e1
    simp only at e1
    split at e1
    · exact absurd e1.symm e3
    · split at e1
      · exact absurd e1.symm e2
      · exact e1
  have blk : ∀ b r, σ1.ρ b = r → b < w1.heap.size → r ≠ .objs → r ≠ .slots (i + 1) → w'.heap[b]? = w1.heap[b]? := fun b r e1 e2 e3 e4 =>
    hp.block b e2 (fun e => e3 (by rw [← e1, e, bcr])) (fun e => e4 (by rw [← e1, slr b e]))
  have blkr : ∀ b r, σ1.ρ b = r → r ≠ .none → r ≠ .objs → r ≠ .slots (i + 1) → w'.heap[b]? = w1.heap[b]? := fun b r e1 e2 e3 e4 => blk b r e1 (h1.base b (by rw [e1]; exact e2)).2 e3 e4
  have sh : ∀ b X, ρ' b = .shape X ↔ σ1.ρ b = .shape X := fun b X => ⟨fun e => back b _ e (by simp) (by simp), fun e => keep b _ e (by simp) (by simp)⟩
  obtain ⟨cur0, c1, c2, c3, c4, c5⟩ := h.bc.2
  rw [hcur] at c1
  injection c1 with c1
  injection c1 with c1
  subst c1
  obtain ⟨o', ho'⟩ : ∃ o' : Ob, o' = ⟨o.ks ++ [k], t, .slice (some ⟨g, 0, none⟩) (o.ks.length + 1) cap, o.ps ++ propCells kind num str⟩ := ⟨_, rfl⟩
  have hobs : ∀ j x, (σ.obs.set i o')[j]? = some x → (j = i ∧ x = o') ∨ (j ≠ i ∧ σ.obs[j]? = some x) := by
    intro j x hx
    by_cases e : j = i
    · subst e
      rw [List.getElem?_set_self hi] at hx
      exact .inl ⟨rfl, by injection hx with hx; exact hx.symm⟩
    · rw [List.getElem?_set_ne (fun e2 => e e2.symm)] at hx
      exact .inr ⟨e, hx⟩
  refine ⟨⟨σ1.oh, σ1.hp, σ1.bc, σ1.cap, σ1.root, σ.obs.set i o', ρ'⟩, ⟨fun b hb => ?_, ⟨?_, ?_⟩, ⟨?_, ?_⟩, ⟨?_, ?_⟩, by simp; exact h.few, ?_, fun j x hx => ?_, fun b X hb => ?_, fun b b' X e1 e2 => h1.uniq b b' X ((sh b X).1 e1) ((sh b' X).1 e2), fun b X x hb => ?_⟩, ?_, f1, f2, f5, o', by rw [ho'], rfl⟩
  · by_cases e : b = g
    · subst e; exact ⟨gB, gl⟩
    · have h2 : σ1.ρ b ≠ .none := fun e2 => hb (by show ρ' b = _; rw [hρ]; simp only [if_neg e, e2]; split <;> rfl)
      exact ⟨(h1.base b h2).1, Nat.lt_of_lt_of_le (h1.base b h2).2 hw'z⟩
  · exact keep _ _ h1.oh.1 (by simp) (by simp)
  · exact (blkr _ _ h1.oh.1 (by simp) (by simp) (by simp)).trans h1.oh.2
  · exact keep _ _ h1.hp.1 (by simp) (by simp)
  · obtain ⟨mm, l, e⟩ := h1.hp.2
    refine ⟨mm, l, ?_⟩
    rw [f6] at e
    have := (blkr _ _ h1.hp.1 (by simp) (by simp) (by simp)).trans e
    rw [List.length_set]
    exact this
  · exact keep _ _ h1.bc.1 (by simp) (by simp)
  · refine ⟨_, by rw [f3]; exact hp.row, ?_, ?_, ?_, ?_⟩
    · simp only [Array.size_setIfInBounds]; rw [f4]; exact c2
    · rw [List.length_set, f4]; exact c3
    · rw [f4]; exact c4
    · rw [List.length_set, Array.toList_setIfInBounds, Array.toList_setIfInBounds, List.take_set, List.take_set, c5]
      exact row_set σ.obs i o o' _ _ ho (by rw [ho']; rfl)
  · exact keep _ _ h1.root (by simp) (by simp)
  · rcases hobs j x hx with ⟨rfl, rfl⟩ | ⟨hj, hx⟩
    · rw [ho']
      have hl : (o.ks ++ [k]).length = o.ks.length + 1 := by simp
      refine ⟨(sh _ _).2 hq.role, ?_, fun y hy => ?_, ?_⟩
      · show w'.ownsRow B 66 7 _ (o.ks ++ [k]).length _
        rw [hl]; exact hp.own
      · injection hy with hy; subst hy; exact rg
      · show PropsOK (o.ks ++ [k]).length _
        rw [hl]
        exact ⟨kind, num, str, m, o.ps, rfl, hk0, hk1, hm, hm2, a4⟩
    · obtain ⟨b1, b2, b3, b4⟩ := h1.ob j x (by rw [f6]; exact hx)
      have nj : ∀ y, x.sl.ownBlock = some y → (Role.slots (j + 1)) ≠ .slots (i + 1) := fun _ _ e => hj (by injection e with e; omega)
      exact ⟨(sh _ _).2 b1, own_same b2 fun y hy => blkr y _ (b3 y hy) (by simp) (by simp) (nj y hy), fun y hy => keep y _ (b3 y hy) (by simp) (nj y hy), b4⟩
  · have hb1 := (sh b X).1 hb
    exact shape_move (h1.shape b X hb1) (blkr b _ hb1 (by simp) (by simp) (by simp)) (fun y hy => ⟨keep y _ hy (by simp) (by simp), blkr y _ hy (by simp) (by simp) (by simp)⟩) (fun y hy => ⟨keep y _ hy (by simp) (by simp), blkr y _ hy (by simp) (by simp) (by simp)⟩)
      (fun y hy => ⟨keep y _ hy (by simp) (by simp), blkr y _ hy (by simp) (by simp) (by simp)⟩) (fun k' b' => sh b' _)
  · obtain ⟨b0, e0⟩ := h1.pre b X x ((sh b _).1 hb)
    exact ⟨b0, (sh b0 X).2 e0⟩
  · refine (Kept.of_below σ hW).trans (hq.kept.trans ⟨hp.kept.1, hp.kept.2.1, hp.kept.2.2.1, hw'z, fun b hb hr => ⟨?_, ?_⟩⟩)
    · have := gne b _ hr (by simp) hb
      show ρ' b = _
      rw [hρ]; simp only [if_neg this, hr]; split <;> rfl
    · exact blk b _ hr hb (by simp) (by simp)
end Go.Proofs.YtlacgdnidilndaaGreatDoor
