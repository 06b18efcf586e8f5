/- What holds between the law's calls. -/
import Derived.Test.YtlacgdnidilndaaGreatDoorSteps
import Derived.Test.YtlacgdnidilndaaGreatDoorMakest
import Derived.Test.YtlacgdnidilndaaGreatDoorOkeys
import Derived.Test.YtlacgdnidilndaaGreatDoorSame
import Derived.Test.YtlacgdnidilndaaGreatDoorNew
import Derived.Laws.Cover2
import Derived.Deep.MidRow
namespace Go.Proofs.YtlacgdnidilndaaGreatDoor
open Go.RowKit
open Go.Proofs (Tryz.prog)

structure Inv (w W : World) (oh : Nat) (σ : Sig) : Prop where
  st : St w.heap.size W σ
  below : Below w.heap.size w W
  oh : σ.oh = oh
theorem Inv.next {w W W' : World} {oh : Nat} {σ : Sig} (h : Inv w W oh σ) (hb : Below W.heap.size W W') : Inv w W' oh σ := ⟨h.st.below hb, h.below.trans (hb.mono h.below.size), h.oh⟩
theorem Inv.kept {w W W' : World} {oh : Nat} {σ σ' : Sig} (h : Inv w W oh σ) (hs : St w.heap.size W' σ') (hk : Kept W W' σ σ') (ho : σ'.oh = σ.oh) : Inv w W' oh σ' := ⟨hs, h.below.trans (hk.below h.st h.below.size), ho.trans h.oh⟩
theorem Inv.tabs {w W : World} {oh : Nat} {σ : Sig} (h : Inv w W oh σ) (hT : ∀ X, Below w.heap.size w X → Lib.Utf8Tabs 2 3 X) : ∀ X, Below W.heap.size W X → Lib.Utf8Tabs 2 3 X := fun X hX => hT X (h.below.trans (hX.mono h.below.size))

theorem make_law {w W : World} {oh : Nat} {σ : Sig} (h : Inv w W oh σ) (n : Nat) (hn : σ.obs.length = n) (hn2 : n ≤ 2) :
    Calls Tryz.prog 5 #[.pointer (some ⟨oh, 0, none⟩), .string ⟨#[79, 98, 106, 101, 99, 116]⟩, .int .i64 0] W fun e w' => e = .returned (.tuple #[.int .i64 ((n + 1 : Nat) : Int), .int .i64 0]) ∧ ∃ σ', Inv w w' oh σ' ∧ σ'.obs = σ.obs ++ [newOb σ.root] ∧ σ'.root = σ.root := by
  have ho := h.oh
  subst ho hn
  exact (make_st h.st h.below.size hn2).mono fun e w' ⟨σ', he, h1, h2, h3, h4, h5⟩ => ⟨he, σ', h.kept h1 h5 h3, h2, h4⟩
theorem same_law {w W : World} {oh : Nat} {σ : Sig} (h : Inv w W oh σ) (i j : Nat) (a b : Ob) (ha : σ.obs[i]? = some a) (hb : σ.obs[j]? = some b) (r q : Int) (hr : r = ((i + 1 : Nat) : Int)) (hq : q = ((j + 1 : Nat) : Int)) (d : Bool) (hd : decide (a.ks = b.ks) = d) :
    Calls Tryz.prog 6 #[.pointer (some ⟨oh, 0, none⟩), .int .i64 r, .int .i64 q] W fun e w' => e = .returned (.bool d) ∧ Below W.heap.size W w' := by
  have ho := h.oh
  subst ho hr hq hd
  refine (same_st h.st i j a b ha hb).mono fun e w' ⟨he, hb'⟩ => ⟨?_, hb'⟩
  rw [he]
  have h1 := (h.st.ob i a ha).1
  have h2 := (h.st.ob j b hb).1
  have : (a.sh = b.sh) ↔ (a.ks = b.ks) := ⟨fun e => by rw [e, h2] at h1; injection h1 with h1; exact h1.symm, fun e => h.st.uniq _ _ a.ks h1 (by rw [h2, e])⟩
  simp [this]
theorem own_inv {w W : World} {oh : Nat} {σ : Sig} (h : Inv w W oh σ) (hT : ∀ X, Below w.heap.size w X → Lib.Utf8Tabs 2 3 X) (i : Nat) (o : Ob) (ho : σ.obs[i]? = some o) (s : ByteArray) (hs : s.size ≤ 2097152) (hlen : o.ks.length ≤ 1000) (r : Int) (hr : r = ((i + 1 : Nat) : Int)) :
    Calls Tryz.prog 9 #[.pointer (some ⟨oh, 0, none⟩), .int .i64 r, .string s] W fun e w' => (∃ (D : Array Value) (b d : Bool), e = .returned (.tuple #[.agg D, .bool b]) ∧ D.size = 15 ∧ D.all (·.oneCell') = true ∧ D[0]? = some (.bool d) ∧ (d = true ↔ isPlace s = false ∧ keyOf s ∈ o.ks)) ∧ Below W.heap.size W w' := by
  have hoh := h.oh
  subst hoh hr
  exact own_law h.st i o ho s hs (h.tabs hT) hlen

/-- The description that lies ready for Define. -/
def descCells (kz : Int) (num : Nat) (txt : ByteArray) : Array Value := #[.bool true, .bool false, .bool false, .bool true, .bool true, .bool true, .int .i64 kz, .float .f64 num, .string txt, .int .i64 0, .int .i64 0, .int .i64 0, .bool true, .bool true, .bool true]
/-- A block of the law's own. -/
structure Aside (w W : World) (σ : Sig) (db : Nat) (C : Array Value) : Prop where
  block : W.heap[db]? = some (.cells C 33 (0, 0))
  ge : w.heap.size ≤ db
  role : σ.ρ db = .none
theorem Aside.next {w W W' : World} {σ : Sig} {db : Nat} {C : Array Value} (h : Aside w W σ db C) (hb : Below W.heap.size W W') : Aside w W' σ db C := ⟨(hb.block db (lt_of_heap h.block)).trans h.block, h.ge, h.role⟩
theorem Aside.kept {w W W' : World} {σ σ' : Sig} {db : Nat} {C : Array Value} (h : Aside w W σ db C) (hk : Kept W W' σ σ') : Aside w W' σ' db C := by
  obtain ⟨h1, h2⟩ := hk.block db (lt_of_heap h.block) h.role
  exact ⟨h2.trans h.block, h.ge, h1⟩

theorem define_inv {w W : World} {oh : Nat} {σ : Sig} (h : Inv w W oh σ) (hT : ∀ X, Below w.heap.size w X → Lib.Utf8Tabs 2 3 X) (i : Nat) (o : Ob) (ho : σ.obs[i]? = some o) (s : ByteArray) (hs : s.size ≤ 2097152) (hok : isPlace s = false) (hk : keyOf s ∉ o.ks) (hlen : o.ks.length ≤ 1000)
    (kz : Int) (num : Nat) (txt : ByteArray) (hv : ValIs kz num txt) (db : Nat) (hd : Aside w W σ db (descCells kz num txt)) (r : Int) (hr : r = ((i + 1 : Nat) : Int)) :
    Calls Tryz.prog 10 #[.pointer (some ⟨oh, 0, none⟩), .int .i64 r, .string s, .agg #[.bool true, .bool false, .bool false, .bool true, .bool true, .bool true, .int .i64 kz, .float .f64 num, .string txt, .int .i64 0, .int .i64 0, .int .i64 0, .bool true, .bool true, .bool true]] W fun e w' => e = .returned (.int .i64 0) ∧
      ∃ σ' o', Inv w w' oh σ' ∧ o'.ks = o.ks ++ [keyOf s] ∧ σ'.obs = σ.obs.set i o' ∧ Aside w w' σ' db (descCells kz num txt) := by
  have hoh := h.oh
  subst hoh hr
  refine (define_law h.st h.below.size i o ho s hs (h.tabs hT) hok hk hlen kz num txt hv).mono fun e w' ⟨he, σ', h1, h2, h3, h4, h5, o', h6, h7⟩ => ⟨he, σ', o', h.kept h1 h2 h3, h6, h7, hd.kept h2⟩
theorem keys_inv {w W : World} {oh : Nat} {σ : Sig} (h : Inv w W oh σ) (i : Nat) (o : Ob) (ho : σ.obs[i]? = some o) (hlen : o.ks.length ≤ 1000) (hst : ∀ k ∈ o.ks, ∃ m, k.size = 2 * m ∧ k.size ≤ 4194304) (r : Int) (hr : r = ((i + 1 : Nat) : Int)) :
    Calls Tryz.prog 11 #[.pointer (some ⟨oh, 0, none⟩), .int .i64 r] W fun e w' => ∃ A C, e = .returned (.slice A o.ks.length C) ∧ w'.ownsRow W.heap.size 9 1 (.slice A o.ks.length C) o.ks.length (shown o.ks) ∧ Below W.heap.size W w' := by
  have hoh := h.oh
  subst hoh hr
  refine (okeys_st h.st i o ho hlen hst).mono fun e w' ⟨v, he, hv, hb⟩ => ?_
  rcases hv.2 with ⟨h1, h2⟩ | ⟨g, c, cur, h1, _⟩
  · refine ⟨none, 0, ?_, ?_, hb⟩
    · rw [he, h1, h2]
    · rw [h1] at hv
      rw [h2] at hv ⊢
      exact hv
  · exact ⟨some ⟨g, 0, none⟩, c, by rw [he, h1], by rw [← h1]; exact hv, hb⟩
theorem delete_inv {w W : World} {oh : Nat} {σ : Sig} (h : Inv w W oh σ) (hT : ∀ X, Below w.heap.size w X → Lib.Utf8Tabs 2 3 X) (o : Ob) (ho : σ.obs[0]? = some o) (s : ByteArray) (hs : s.size ≤ 2097152) (hok : isPlace s = false) (ks : List ByteArray) (hks : o.ks = keyOf s :: ks) (hlen : o.ks.length ≤ 1000) (h1 : 1 < σ.obs.length) :
    Calls Tryz.prog 13 #[.pointer (some ⟨oh, 0, none⟩), .int .i64 1, .string s] W fun e w' => e = .returned (.int .i64 0) ∧ Below w.heap.size w w' ∧ Calls Tryz.prog 6 #[.pointer (some ⟨oh, 0, none⟩), .int .i64 1, .int .i64 2] w' fun e w2 => e = .returned (.bool false) ∧ Below w'.heap.size w' w2 := by
  have hoh := h.oh
  subst hoh
  refine (delete_law h.st 0 o ho s hs (h.tabs hT) hok ks hks hlen).mono fun e w' ⟨he, w1, hg, hb⟩ => ⟨he, ?_, same_gone h.st.few hg hb (by omega) 1 h1⟩
  exact h.below.trans (hg.below.trans (hb.mono (Nat.le_trans h.below.size hg.below.size)))

theorem Inv.put {w W : World} {oh : Nat} {σ : Sig} (h : Inv w W oh σ) {db : Nat} (hr : σ.ρ db = .none) (hg : w.heap.size ≤ db) (k : Nat) (v : Value) : Inv w (W.setCell ⟨db, k, none⟩ v) oh σ :=
  ⟨h.st.same (Nat.le_of_eq (size_set _ _ _).symm) fun b hb => Below.heap_setCell W _ v b (fun e => hb (by rw [e]; exact hr)), h.below.setCell hg v, h.oh⟩
/-- Another value in the description. -/
theorem desc_put {w W : World} {oh : Nat} {σ : Sig} {db : Nat} {kz : Int} {num : Nat} {txt : ByteArray} (h : Inv w W oh σ) (hd : Aside w W σ db (descCells kz num txt)) (kz' : Int) (num' : Nat) (txt' : ByteArray) :
    Inv w ((((W.setCell ⟨db, 6, none⟩ (.int .i64 kz')).setCell ⟨db, 7, none⟩ (.float .f64 num')).setCell ⟨db, 8, none⟩ (.string txt')).setCell ⟨db, 9, none⟩ (.int .i64 0)) oh σ ∧
    Aside w ((((W.setCell ⟨db, 6, none⟩ (.int .i64 kz')).setCell ⟨db, 7, none⟩ (.float .f64 num')).setCell ⟨db, 8, none⟩ (.string txt')).setCell ⟨db, 9, none⟩ (.int .i64 0)) σ db (descCells kz' num' txt') :=
  ⟨(((h.put hd.role hd.ge 6 _).put hd.role hd.ge 7 _).put hd.role hd.ge 8 _).put hd.role hd.ge 9 _, ⟨(set_block (set_block (set_block (set_block hd.block 6 _) 7 _) 8 _) 9 _).trans rfl, hd.ge, hd.role⟩⟩
theorem Aside.cells {w W : World} {σ : Sig} {db : Nat} {kz : Int} {num : Nat} {txt : ByteArray} (h : Aside w W σ db (descCells kz num txt)) (j : Nat) : W.cell? ⟨db, j, none⟩ = (descCells kz num txt)[j]? ∧ W.frozen? ⟨db, j, none⟩ = false := ⟨cell_of_block h.block j, unfrozen_of_block h.block j⟩

theorem desc_mid {w W : World} {oh : Nat} {σ : Sig} {db : Nat} {kz : Int} {num : Nat} {txt : ByteArray} (h : Inv w W oh σ) (hd : Aside w W σ db (descCells kz num txt)) (kz' : Int) (num' : Nat) (txt' : ByteArray) :
    Inv w (W.setCells db 6 (#[.int .i64 kz', .float .f64 num', .string txt', .int .i64 0] : Array Value).toList) oh σ ∧ Aside w (W.setCells db 6 (#[.int .i64 kz', .float .f64 num', .string txt', .int .i64 0] : Array Value).toList) σ db (descCells kz' num' txt') :=
  desc_put h hd kz' num' txt'
theorem Aside.there {w W : World} {σ : Sig} {db : Nat} {kz : Int} {num : Nat} {txt : ByteArray} (h : Aside w W σ db (descCells kz num txt)) : W.there db 6 4 := fun j hj => by
  obtain ⟨h1, h2⟩ := h.cells (6 + j)
  refine ⟨?_, h2⟩
  rw [h1, Array.getElem?_eq_getElem (by show 6 + j < 15; omega)]
  rfl
/-- P and Index of a text. -/
theorem p_inv {w W : World} {oh : Nat} {σ : Sig} (h : Inv w W oh σ) (hT : ∀ X, Below w.heap.size w X → Lib.Utf8Tabs 2 3 X) (s : ByteArray) (hs : s.size ≤ 2097152) :
    Calls Tryz.prog 7 #[.string s] W fun e w' => ∃ p : ByteArray, e = .returned (.string p) ∧ Below W.heap.size W w' ∧ ∀ X, Calls Tryz.prog 8 #[.string p] X fun e w' => ∃ z : Int, e = .returned (.int .i64 z) ∧ (z < 0 ↔ isPlace s = false) ∧ Below X.heap.size X w' := by
  refine (rp_any s W hs (h.tabs hT W (Below.refl _ _))).mono fun e w' ⟨l, he, hl, hc, hb⟩ => ⟨_, he, hb, fun X => ?_⟩
  have hp : (⟨(pack l).toArray⟩ : ByteArray).size = 2 * l.length := by
    have := pack_length l
    simp [← ByteArray.size_data, this]
  refine (rindex_any _ l.length X (by omega) hp).mono fun e w' ⟨he, hb⟩ => ⟨_, he, ?_, hb⟩
  have e1 : (⟨(pack l).toArray⟩ : ByteArray).data.toList = pack l := by simp
  rw [e1]
  exact ⟨place_of hc, no_place hc⟩

/-- Two lists of the same keys, none twice, are of one length. -/
theorem same_length {A C : List ByteArray} (ha : A.Nodup) (hc : C.Nodup) (h : ∀ k, k ∈ A ↔ k ∈ C) : A.length = C.length := ((List.perm_ext_iff_of_nodup ha hc).2 h).length_eq
theorem Inv.nodup {w W : World} {oh : Nat} {σ : Sig} (h : Inv w W oh σ) (i : Nat) (o : Ob) (ho : σ.obs[i]? = some o) : o.ks.Nodup := by
  obtain ⟨lv, bat, nx, s1, s2, _⟩ := h.st.shape _ _ (h.st.ob i o ho).1
  exact s2
/-- The keys of K that the law takes. -/
def Takes (K : List ByteArray) (A : List ByteArray) : Prop := ∀ k, k ∈ A ↔ ∃ s ∈ K, elig s ∧ k = keyOf s
theorem Takes.skip {K A : List ByteArray} {s : ByteArray} (h : Takes K A) (hs : ¬ (elig s ∧ keyOf s ∉ A)) : Takes (K ++ [s]) A := by
  intro k
  rw [h k]
  constructor
  · rintro ⟨t, h1, h2⟩; exact ⟨t, by simp [h1], h2⟩
  · rintro ⟨t, h1, h2, rfl⟩
    rcases List.mem_append.1 h1 with h1 | h1
    · exact ⟨t, h1, h2, rfl⟩
    · have : t = s := by simpa using h1
      subst this
      have : keyOf t ∈ A := Classical.byContradiction fun hn => hs ⟨h2, hn⟩
      exact (h _).1 this
theorem Takes.take {K A : List ByteArray} {s : ByteArray} (h : Takes K A) (hs : elig s) : Takes (K ++ [s]) (A ++ [keyOf s]) := by
  intro k
  rw [List.mem_append, h k]
  constructor
  · rintro (⟨t, h1, h2⟩ | h1)
    · exact ⟨t, by simp [h1], h2⟩
    · exact ⟨s, by simp, hs, by simpa using h1⟩
  · rintro ⟨t, h1, h2, rfl⟩
    rcases List.mem_append.1 h1 with h1 | h1
    · exact .inl ⟨t, h1, h2, rfl⟩
    · have : t = s := by simpa using h1
      subst this
      exact .inr (by simp)
theorem Takes.swap {K K' A : List ByteArray} (h : Takes K A) (hk : ∀ x, x ∈ K' ↔ x ∈ K) : Takes K' A := fun k => by
  rw [h k]
  constructor
  · rintro ⟨s, h1, h2⟩; exact ⟨s, (hk s).2 h1, h2⟩
  · rintro ⟨s, h1, h2⟩; exact ⟨s, (hk s).1 h1, h2⟩
theorem Takes.even {K A : List ByteArray} (h : Takes K A) : ∀ k ∈ A, ∃ m, k.size = 2 * m ∧ k.size ≤ 4194304 := fun k hk => by
  obtain ⟨s, _, h2, rfl⟩ := (h k).1 hk
  obtain ⟨m, h3, h4⟩ := key_even s
  exact ⟨m, h3, by have := h2.1; omega⟩
end Go.Proofs.YtlacgdnidilndaaGreatDoor
