/- A shape copied: contracts of slices.Clone, Shape.copy. -/
import Derived.Test.YtlacgdnidilndaaGreatDoorLaws
import Derived.Test.YtlacgdnidilndaaGreatDoorMaps
import Derived.Test.YtlacgdnidilndaaGreatDoorShelfM
import Derived.WalkSpells
namespace Go.Proofs.YtlacgdnidilndaaGreatDoor
open Go.RowKit
open Go.Proofs (Tryz.prog)

theorem info104 : (Tryz.prog.info? 104).map (fun i => (i.zero, i.size, i.bytes)) = some (some (.agg #[.string ⟨#[]⟩, .int .u8 0]), 2, 24) := by kernel_rfl
theorem ent_one (ks : List ByteArray) : ∀ u ∈ entCells ks, u.oneCell' = true := by
  intro u hu
  simp only [entCells, List.mem_flatMap] at hu
  obtain ⟨k, _, hk⟩ := hu
  simp only [List.mem_cons, List.not_mem_nil, or_false] at hk
  rcases hk with rfl | rfl <;> rfl
theorem ent_len (ks : List ByteArray) : (entCells ks).length = ks.length * 2 := by
  induction ks with
  | nil => rfl
  | cons k ks ih =>
    have e : entCells (k :: ks) = [.string k, .int .u8 7] ++ entCells ks := rfl
    rw [e, List.length_append, ih, List.length_cons]; simp; omega

theorem add_blk (a : Addr) (n : Nat) : (a.add n).block = a.block := by unfold Addr.add; split <;> rfl
theorem own_empty (w : World) (e : TypeId) (size : Nat) : (w.alloc (.cells #[] e)).ownsRow w.heap.size e size (.slice (some ⟨w.heap.size, 0, none⟩) 0 0) 0 [] :=
  ⟨by simp, .inr ⟨w.heap.size, 0, #[], rfl, Nat.le_refl _, heap_new _ _, Nat.le_refl _, Nat.zero_le _, by simp, by simp⟩⟩
set_option maxHeartbeats 1000000 in
set_option maxRecDepth 100000 in
theorem clone_some (g n cap B : Nat) (ks : List ByteArray) (w : World) (hown : w.ownsRow B 104 2 (.slice (some ⟨g, 0, none⟩) n cap) n (entCells ks)) (hn : n ≤ 1000) (h0 : 0 < n) :
    Calls Tryz.prog 109 #[.slice (some ⟨g, 0, none⟩) n cap] w fun e w' => ∃ v, e = .returned v ∧ w'.ownsRow w.heap.size 104 2 v n (entCells ks) ∧ Below w.heap.size w w' := by
  obtain ⟨i0, hi, hz0, hz1, hz2⟩ := info_parts info104
  have hgl := (hown.lt g rfl).2
  have HO := Lib.hid hown
  have hnn : ∀ W : World, (binOp .eql 91 (.slice (some ⟨g, 0, none⟩) n cap) (.slice none 0 0)).run Tryz.prog W = .ok (.bool false) W := fun W => Lib.run_eql_slice_nil W 91 104 _ n cap 0 0 Tryz.underlying91
  go_enter Tryz.func109, Tryz.ntmps109
  go_wp2_with (at_builtin; refine wpList_append_lies _ rfl (.tmp 5) (.tmp 6) 91 rfl w.heap.size 104 i0 (.agg #[.string ⟨#[]⟩, .int .u8 0]) 2 24 Tryz.underlying91 hi hz0 hz1 hz2 rfl (by decide) _ 0 [] rfl (own_empty w 104 2) ⟨g, 0, none⟩ n cap (entCells ks) rfl (HO.out.1) (fun j u hj => (World.cell?_alloc_lt _ _ _ (by rw [add_blk]; exact hgl)).trans (HO.out.cells (g := g) rfl j u hj)) (ent_one ks) h0 (by unfold maxLen; omega) (by omega) (by simp) _ rfl ?_; intro g' cap' w2 hown2 hgrow _ _)
  rw [Nat.zero_add, List.nil_append] at hown2
  go_ret
  refine ⟨.slice (some ⟨g', 0, none⟩) n cap', rfl, hown2, ?_⟩
  exact ((Below.refl _ _).alloc (Nat.le_refl _) _).grown hgrow (by simp) (fun k hk => Nat.le_of_eq (Option.some.inj (show some w.heap.size = some k from hk)))

set_option maxHeartbeats 1000000 in
set_option maxRecDepth 100000 in
theorem clone_zero (g cap : Nat) (w : World) :
    Calls Tryz.prog 109 #[.slice (some ⟨g, 0, none⟩) 0 cap] w fun e w' => e = .returned (.slice (some ⟨w.heap.size, 0, none⟩) 0 0) ∧ w' = w.alloc (.cells #[] 104) := by
  have hnn : ∀ W : World, (binOp .eql 91 (.slice (some ⟨g, 0, none⟩) 0 cap) (.slice none 0 0)).run Tryz.prog W = .ok (.bool false) W := fun W => Lib.run_eql_slice_nil W 91 104 _ 0 cap 0 0 Tryz.underlying91
  go_enter Tryz.func109, Tryz.ntmps109
  go_wp2
  go_ret
  exact ⟨rfl, rfl⟩
theorem clone_nil (w : World) : Calls Tryz.prog 109 #[.slice none 0 0] w fun e w' => e = .returned (.slice none 0 0) ∧ w' = w := Tryz.slices_Clone_ent_nil 0 0 w
/-- slices.Clone of a shape's list. -/
theorem clone_any (v : Value) (B : Nat) (ks : List ByteArray) (w : World) (hown : w.ownsRow B 104 2 v ks.length (entCells ks)) (hn : ks.length ≤ 1000) :
    Calls Tryz.prog 109 #[v] w fun e w' => ∃ v', e = .returned v' ∧ w'.ownsRow w.heap.size 104 2 v' ks.length (entCells ks) ∧ Below w.heap.size w w' := by
  rcases hown.2 with ⟨rfl, h0⟩ | ⟨g, cap, cur, rfl, hb, hg, hnc, hm, hz, ht⟩
  · refine (clone_nil w).mono fun e w' ⟨h1, h2⟩ => ⟨_, h1, ⟨hown.1, .inl ⟨rfl, h0⟩⟩, by rw [h2]; exact Below.refl _ _⟩
  · rcases Nat.eq_zero_or_pos ks.length with h0 | h0
    · rw [h0]
      have hks : ks = [] := List.eq_nil_of_length_eq_zero h0
      subst hks
      exact (clone_zero g cap w).mono fun e w' ⟨h1, h2⟩ => ⟨_, h1, by rw [h2]; exact own_empty w 104 2, by rw [h2]; exact (Below.refl _ _).alloc (Nat.le_refl _) _⟩
    · exact clone_some g ks.length cap B ks w hown hn h0

theorem slice_of_own {w : World} {B : Nat} {e : TypeId} {size n : Nat} {v : Value} {xs : List Value} (h : w.ownsRow B e size v n xs) : ∃ A N C, v = .slice A N C := by
  rcases h.2 with ⟨rfl, _⟩ | ⟨g, cap, cur, rfl, _⟩
  · exact ⟨_, _, _, rfl⟩
  · exact ⟨_, _, _, rfl⟩
theorem clone_sl (v : Value) (B : Nat) (ks : List ByteArray) (w : World) (hown : w.ownsRow B 104 2 v ks.length (entCells ks)) (hn : ks.length ≤ 1000) :
    Calls Tryz.prog 109 #[v] w fun e w' => ∃ A N C, e = .returned (.slice A N C) ∧ w'.ownsRow w.heap.size 104 2 (.slice A N C) ks.length (entCells ks) ∧ Below w.heap.size w w' :=
  (clone_any v B ks w hown hn).mono fun e w' ⟨v', h1, h2, h3⟩ => by
    obtain ⟨A, N, C, rfl⟩ := slice_of_own h2
    exact ⟨A, N, C, h1, h2, h3⟩
/-- What copy leaves: a shape like the given one, of new blocks. -/
structure CopyAt (w w' : World) (ks : List ByteArray) (es : Array MapEntry) (clk : Nat) (t : Nat) (lv : Value) (mp : Nat) : Prop where
  shape : w'.heap[t]? = some (.cells #[lv, .map (some mp), .map none, .bool false] 95 (0, 0))
  own : w'.ownsRow w.heap.size 104 2 lv ks.length (entCells ks)
  spots : w'.heap[mp]? = some (.map es clk)
  ge : w.heap.size ≤ t ∧ w.heap.size ≤ mp
  ne : t ≠ mp ∧ lv.ownBlock ≠ some t ∧ lv.ownBlock ≠ some mp
  below : Below w.heap.size w w'

set_option maxHeartbeats 4000000 in
set_option maxRecDepth 100000 in
theorem copy_any (s bat B : Nat) (lv : Value) (nx : Option Nat) (ks : List ByteArray) (es : Array MapEntry) (clk : Nat) (w : World)
    (hsh : w.heap[s]? = some (.cells #[lv, .map (some bat), .map nx, .bool false] 95 (0, 0))) (hown : w.ownsRow B 104 2 lv ks.length (entCells ks)) (hm : w.heap[bat]? = some (.map es clk)) (hn : ks.length ≤ 1000) :
    Calls Tryz.prog 97 #[ptr s] w fun e w' => ∃ t lv' mp, e = .returned (ptr t) ∧ CopyAt w w' ks es clk t lv' mp := by
  have h0 := cell_of_block hsh 0
  have h1 := cell_of_block hsh 1
  simp at h0 h1
  have ls := lt_of_heap hsh
  have lm := lt_of_heap hm
  have HC : ∀ W, Below w.heap.size w W → Hid (Calls Tryz.prog 109 #[lv] W fun e w' => ∃ A N C, e = .returned (.slice A N C) ∧ w'.ownsRow W.heap.size 104 2 (.slice A N C) ks.length (entCells ks) ∧ Below W.heap.size W w') :=
    fun W hW => Lib.hid (clone_sl lv B ks W (own_same hown fun g hg => hW.block g (hown.lt g hg).2) hn)
  have HM : ∀ W, Below w.heap.size w W → Hid (Calls Tryz.prog 110 #[.map (some bat)] W fun e w' => e = .returned (.map (some W.heap.size)) ∧ w' = W.alloc (.map es clk)) :=
    fun W hW => Lib.hid (Tryz.maps_Clone_spots bat es clk W ((hW.block bat lm).trans hm))
  have HC := Lib.hid HC
  have HM := Lib.hid HM
  clear hsh hown hm
  unfold ptr
  go_enter Tryz.func97, Tryz.ntmps97
  go_wp2_with fail
  go_region_held3 (fun w' => w'.cell? ⟨s, 0, none⟩ = some lv ∧ w'.cell? ⟨s, 1, none⟩ = some (.map (some bat)))
    (first | go_keep | exact ⟨(hb1.cell (p := ⟨s, 0, none⟩) ls).trans h0, (hb1.cell (p := ⟨s, 1, none⟩) ls).trans h1⟩ | exact ⟨(World.cell?_alloc_lt _ _ _ m0).trans ((hb1.cell (p := ⟨s, 0, none⟩) ls).trans h0), (World.cell?_alloc_lt _ _ _ m0).trans ((hb1.cell (p := ⟨s, 1, none⟩) ls).trans h1)⟩)
    (first
      | (go_at_call 109; refine (HC.out _ ((Below.refl _ _).drew)).out.mono ?_; rintro e w1 ⟨A, N, C, rfl, hv1, hb1⟩; have hv2 := Lib.hid hv1; clear hv1; have m0 : s < w1.heap.size := Nat.lt_of_lt_of_le ls hb1.size)
      | (go_at_call 110; refine (HM.out _ ((Below.refl _ _).drew.trans hb1)).out.mono ?_; rintro e w2 ⟨rfl, rfl⟩))
  go_wp2
  go_ret
  refine ⟨w1.heap.size + 1, .slice A N C, w1.heap.size, rfl, ⟨?_, ?_, ?_, ?_, ?_, ?_⟩⟩
  · rw [heap_of_alloc, if_pos (by rw [size_of_alloc])]
  · exact ((hv2.out).alloc _).alloc _
  · rw [heap_of_alloc, if_neg (by rw [size_of_alloc]; omega), heap_of_alloc, if_pos rfl]
  · have hz : w.heap.size ≤ w1.heap.size := hb1.size
    omega
  · have hl := fun g hg => ((hv2.out).lt g hg).2
    refine ⟨by omega, fun e => ?_, fun e => ?_⟩
    · have := hl _ e; omega
    · have := hl _ e; omega
  · have hz : w.heap.size ≤ w1.heap.size := hb1.size
    exact (((Below.refl _ _).drew.trans hb1).alloc hz _).alloc (by simp; omega) _
end Go.Proofs.YtlacgdnidilndaaGreatDoor
