/- A new property told, over the state: contract of plain.Define. -/
import Derived.Test.YtlacgdnidilndaaGreatDoorWithst
import Derived.Test.YtlacgdnidilndaaGreatDoorOwns
import Derived.Test.YtlacgdnidilndaaGreatDoorDefine
import Derived.Test.YtlacgdnidilndaaGreatDoorOdef
import Derived.Test.YtlacgdnidilndaaGreatDoorPdef
namespace Go.Proofs.YtlacgdnidilndaaGreatDoor
open Go.RowKit
open Go.Proofs (Tryz.prog)

/-- The object i has the key k more. -/
def Upd (B : Nat) (w w' : World) (σ : Sig) (i : Nat) (o : Ob) (k : ByteArray) : Prop :=
  ∃ σ', St B w' σ' ∧ Kept w w' σ σ' ∧ σ'.oh = σ.oh ∧ σ'.hp = σ.hp ∧ σ'.root = σ.root ∧ ∃ o', o'.ks = o.ks ++ [k] ∧ σ'.obs = σ.obs.set i o'
theorem Upd.before {B : Nat} {w W w' : World} {σ : Sig} {i : Nat} {o : Ob} {k : ByteArray} (h : Upd B W w' σ i o k) (hb : Below w.heap.size w W) : Upd B w w' σ i o k := by
  obtain ⟨σ', h1, h2, h3⟩ := h
  exact ⟨σ', h1, (Kept.of_below σ hb).trans h2, h3⟩
theorem Upd.behind {B : Nat} {w w1 w' : World} {σ : Sig} {i : Nat} {o : Ob} {k : ByteArray} (h : Upd B w w1 σ i o k) (hb : Below w1.heap.size w1 w') : Upd B w w' σ i o k := by
  obtain ⟨σ', h1, h2, h3⟩ := h
  exact ⟨σ', h1.below hb, h2.trans (Kept.of_below σ' hb), h3⟩
theorem role_none {B : Nat} {w : World} {σ : Sig} (h : St B w σ) {b : Nat} (hb : w.heap.size ≤ b) : σ.ρ b = .none := by
  by_cases e : σ.ρ b = .none
  · exact e
  · have := (h.base b e).2; omega
theorem Upd.local {B : Nat} {w W w' : World} {σ : Sig} {i : Nat} {o : Ob} {k : ByteArray} (h : St B w σ) (hb : Below w.heap.size w W) (hu : Upd B W w' σ i o k) : ∀ b, b < W.heap.size → (b = σ.oh ∨ w.heap.size ≤ b) → w'.heap[b]? = W.heap[b]? := by
  obtain ⟨σ', h1, h2, h3, h4, _⟩ := hu
  intro b hb1 hb2
  rcases hb2 with rfl | hb2
  · have e1 := h1.oh.2
    rw [h3, h4] at e1
    exact e1.trans (h.below hb).oh.2.symm
  · exact (h2.block b hb1 (role_none h hb2)).2

/-- Put over the state. -/
theorem put_st {B : Nat} {w : World} {σ : Sig} (h : St B w σ) (hB : B ≤ w.heap.size) (i : Nat) (o : Ob) (ho : σ.obs[i]? = some o) (k : ByteArray) (m : Nat) (hs : k.size ≤ 100000000) (hm : k.size = 2 * m) (hok : okU (unpack k.data.toList) = false) (hk : k ∉ o.ks) (hlen : o.ks.length ≤ 1000)
    (kind : Int) (num : Nat) (str : ByteArray) (q : Nat) (hk0 : 0 ≤ kind) (hk1 : kind < 256) (hq : str.size = 2 * q) (hq2 : str.size ≤ 2) :
    Calls Tryz.prog 69 #[ptr σ.hp, .int .i32 ((i + 1 : Nat) : Int), .string k, .agg #[.int .u8 kind, .int .i32 0, .float .f64 num, .string str, .int .i32 0, .int .i32 0, .int .u8 7]] w fun e w' => e = .returned (.tuple #[]) ∧ Upd B w w' σ i o k := by
  have hi : i < σ.obs.length := (List.getElem?_eq_some_iff.1 ho).1
  have hf := h.few
  obtain ⟨lv, bat, nx, h1, h2, h3, h4, h5, h6, h8⟩ := h.shape _ _ (h.ob i o ho).1
  obtain ⟨a1, a2, a3, a4⟩ := h.ob i o ho
  obtain ⟨A, C, hsl⟩ := own_slice a2
  obtain ⟨cur, c1, c2, c3, c4, c5⟩ := h.bc.2
  have cc : ∀ j, j < 14 → cur[(i + 1) * 14 + j]? = (obCells o)[j]? := fun j hj => by
    have := h.cell ho j hj
    rw [cell_of_block c1] at this
    exact this
  have bcn : o.sl.ownBlock ≠ some σ.bc := fun e => by have := a3 σ.bc e; rw [h.bc.1] at this; cases this
  refine (put_new B σ.hp σ.bc (σ.obs.length + 1) σ.cap (i + 1) o.sh bat m o.ks.length A C kind num str o.ps cur o.ks k w h.hpCell (by omega) (by omega) c1 ((cc 8 (by omega)).trans rfl) ((cc 9 (by omega)).trans (by rw [← hsl]; rfl)) (by rw [cell_of_block h1]; rfl) h6
    (by rw [← hsl]; exact a2) hlen hB (by rw [← hsl]; exact bcn) hs hm hok hk (fun W w1 t => ∃ σ1, WithSt B W w1 σ σ1 o.ks k t) (fun W hW => with_st (h.below hW) (Nat.le_trans hB hW.size) a1 hk hlen) ?_).mono ?_
  · rintro W w' t hW ⟨σ1, hw⟩
    refine ⟨hw.kept.size, fun b hb hb2 => ?_⟩
    rcases hb2 with rfl | hb2 | hb2
    · exact (hw.block _ hb (by rw [h.bc.1]; simp) (by rw [h.bc.1]; simp)).1
    · rw [← hsl] at hb2
      have := a3 b hb2
      exact (hw.block b hb (by rw [this]; simp) (by rw [this]; simp)).1
    · have := role_none h hb2
      exact (hw.block b hb (by rw [this]; simp) (by rw [this]; simp)).1
  · rintro e w' ⟨W, w1, t, g, cap', he, ⟨σ1, hw⟩, hp⟩
    rw [← hsl] at hp
    exact ⟨he, put_fin h ho hk0 hk1 hq hq2 c1 hp.ahead hw hp⟩

/-- plain.Define of a new key, over the state. -/
theorem define_st {B : Nat} {w : World} {σ : Sig} (h : St B w σ) (hB : B ≤ w.heap.size) (i : Nat) (o : Ob) (ho : σ.obs[i]? = some o) (s : ByteArray) (hs : s.size ≤ 2097152) (hT : ∀ W, Below w.heap.size w W → Lib.Utf8Tabs 2 3 W) (hok : okU (unpack (keyOf s).data.toList) = false) (hk : keyOf s ∉ o.ks) (hlen : o.ks.length ≤ 1000)
    (kz kind : Int) (num : Nat) (txt str : ByteArray) (q : Nat) (hk0 : 0 ≤ kind) (hk1 : kind < 256) (hq : str.size = 2 * q) (hq2 : str.size ≤ 2)
    (HV : ∀ W, Below w.heap.size w W → Calls Tryz.prog 42 #[ptr σ.oh, .agg #[.int .i64 kz, .float .f64 num, .string txt, .int .i64 0]] W fun e w' => e = .returned (.tuple #[.agg #[.int .u8 kind, .int .i32 0, .float .f64 num, .string str], .bool true]) ∧ Below W.heap.size W w') :
    Calls Tryz.prog 10 #[ptr σ.oh, .int .i64 ((i + 1 : Nat) : Int), .string s, .agg #[.bool true, .bool false, .bool false, .bool true, .bool true, .bool true, .int .i64 kz, .float .f64 num, .string txt, .int .i64 0, .int .i64 0, .int .i64 0, .bool true, .bool true, .bool true]] w fun e w' => e = .returned (.int .i64 0) ∧ Upd B w w' σ i o (keyOf s) := by
  have hi : i < σ.obs.length := (List.getElem?_eq_some_iff.1 ho).1
  have hf := h.few
  obtain ⟨m, hm, hms⟩ := key_even s
  refine (pdefine_new σ.oh (i + 1) s kz num txt w (fun w' => Upd B w w' σ i o (keyOf s)) fun W hW => ?_).mono fun e w' ⟨h1, w1, h2, h3⟩ => ⟨h1, h2.behind h3⟩
  have hSW := h.below hW
  have tr : ∀ {X : World}, Below W.heap.size W X → Below w.heap.size w X := fun hX => hW.trans (hX.mono hW.size)
  refine odefine_new σ.oh σ.hp σ.bc (i + 1) s (keyOf s) kz kind num txt str W (fun w' => Upd B w w' σ i o (keyOf s)) (by omega) hSW.ohCell (hSW.cell ho 0 (by omega)) (fun X hX => HV X (tr hX)) (fun X hX => has_st (hSW.below hX) i o ho) (fun X hX => at_st (hSW.below hX) i o ho) (fun X hX => of_any s X hs (hT X (tr hX))) fun X hX => ?_
  have hSX := hSW.below hX
  have R : ∀ Y, Below X.heap.size X Y → Calls Tryz.prog 69 #[ptr σ.hp, .int .i32 ((i + 1 : Nat) : Int), .string (keyOf s), .agg #[.int .u8 kind, .int .i32 0, .float .f64 num, .string str, .int .i32 0, .int .i32 0, .int .u8 7]] Y fun e w' => e = .returned (.tuple #[]) ∧ (Upd B w w' σ i o (keyOf s) ∧ ∀ b, b < X.heap.size → (b = σ.oh ∨ W.heap.size ≤ b) → w'.heap[b]? = X.heap[b]?) := fun Y hY =>
    (put_st (hSX.below hY) (Nat.le_trans hB (Nat.le_trans (tr hX).size hY.size)) i o ho (keyOf s) m (by omega) hm hok hk hlen kind num str q hk0 hk1 hq hq2).mono fun e w' ⟨h1, h2⟩ =>
      ⟨h1, h2.before ((tr hX).trans (hY.mono (tr hX).size)), fun b hb hb2 => (Upd.local hSW (hX.trans (hY.mono hX.size)) h2 b (Nat.lt_of_lt_of_le hb hY.size) hb2).trans (hY.block b hb)⟩
  exact hdefine_new σ.hp σ.bc (σ.obs.length + 1) σ.cap (i + 1) (keyOf s) kind num str X _ hSX.hpCell (by omega) (by omega) (hSX.cell ho 0 (by omega)) fun Y hY =>
    define_new σ.hp σ.bc (σ.obs.length + 1) σ.cap (i + 1) (keyOf s) kind num str Y _ (hSX.below hY).hpCell (by omega) (by omega) ((hSX.below hY).cell ho 2 (by omega)) (fun Z hZ => own_st_no ((hSX.below hY).below hZ) i o ho (keyOf s) m (by omega) hm (.inr hk)) (fun Z hZ => R Z (hY.trans (hZ.mono hY.size)))
end Go.Proofs.YtlacgdnidilndaaGreatDoor
