/- An object's keys in order: contract of heap.Keys. -/
import Derived.Test.YtlacgdnidilndaaGreatDoorSorted
import Derived.Test.YtlacgdnidilndaaGreatDoorOwns
import Derived.Test.YtlacgdnidilndaaGreatDoorWith
namespace Go.Proofs.YtlacgdnidilndaaGreatDoor
open Go.RowKit
open Go.Proofs (Tryz.prog)

theorem info62 : (Tryz.prog.info? 62).map (fun i => (i.zero, i.size, i.bytes)) = some (some (.string ⟨#[]⟩), 1, 16) := by kernel_rfl
def strs (ks : List ByteArray) : List Value := ks.map Value.string
theorem strs_take (ks : List ByteArray) (k : Nat) (x : ByteArray) (h : ks[k]? = some x) : strs (ks.take (k + 1)) = strs (ks.take k) ++ [.string x] := by
  unfold strs; rw [List.take_add_one, h]; simp

set_option maxHeartbeats 2000000 in
set_option maxRecDepth 100000 in
theorem hkeys_some (hp bc n cap r sh g2 C2 q C : Nat) (A : Option Addr) (ks : List ByteArray) (w : World) (hc : w.cell? ⟨hp, 0, none⟩ = some (.slice (some ⟨bc, 0, none⟩) n cap)) (h1 : r < n) (hn : n ≤ 100)
    (hel : w.cell? ⟨bc, r * 14 + 10, none⟩ = some (.map none)) (hsl : w.cell? ⟨bc, r * 14 + 9, none⟩ = some (.slice A q C)) (hsh : w.cell? ⟨bc, r * 14 + 8, none⟩ = some (.pointer (some ⟨sh, 0, none⟩)))
    (hli : w.cell? ⟨sh, 0, none⟩ = some (.slice (some ⟨g2, 0, none⟩) ks.length C2)) (hq : q ≤ 1000) (hks : ks.length ≤ 1000)
    (hcs : ∀ (j : Nat) (k : ByteArray), ks[j]? = some k → w.cell? ⟨g2, j * 2, none⟩ = some (.string k) ∧ w.cell? ⟨g2, j * 2 + 1, none⟩ = some (.int .u8 7)) (hg2 : g2 < w.heap.size) :
    Calls Tryz.prog 28 #[.pointer (some ⟨hp, 0, none⟩), .int .i32 r] w fun e w' => ∃ gg cc, e = .returned (.slice (some ⟨gg, 0, none⟩) ks.length cc) ∧ w'.ownsRow w.heap.size 62 1 (.slice (some ⟨gg, 0, none⟩) ks.length cc) ks.length (strs ks) ∧ Below w.heap.size w w' := by
  obtain ⟨i0, hi, hz0, hz1, hz2⟩ := info_parts info62
  have lb := lt_of_cell hel
  have lsh := lt_of_cell hli
  have HCS := Lib.hid hcs
  clear hcs
  go_enter Tryz.func28, Tryz.ntmps28
  go_upto_region 2 with (go_at_call 35; refine (at_any hp bc n cap r _ hc h1 hn).mono ?_; rintro e w' ⟨rfl, rfl⟩)
  have hmk := fun W => run_make (P := Tryz.prog) (w := W) 72 62 i0 (.string ⟨#[]⟩) Tryz.underlying72 hi hz0 .i64 .i64 (0 : Int) (q : Int) (by omega) (by omega) (by rw [hz2]; omega) (by omega)
  go_region
  go_wp2_with (first
    | (go_at_call 50; refine (mkeys_any _).mono ?_; rintro e w' ⟨rfl, rfl⟩)
    | (go_at_call 49; refine (sorted_nil _ _ (by go_simp)).mono ?_; rintro e w1 ⟨rfl, hb⟩))
  refine wp_loop_rounds 1 ?_
  rw [rounds_succ]
  go_upto_region 8 with fail
  have hz1' : w.heap.size + 1 < w1.heap.size := by have := hb.size; simp at this; omega
  have b1 : Below w.heap.size w w1 := ((((Below.refl _ _).alloc (Nat.le_refl _) _).alloc (by simp) _).drew).trans (hb.mono (by simp; omega))
  have own1 : w1.ownsRow w.heap.size 62 1 (.slice (some ⟨w.heap.size, 0, none⟩) 0 q) 0 [] :=
    ⟨rfl, .inr ⟨w.heap.size, q, madeCells #[.string ⟨#[]⟩] q, rfl, Nat.le_refl _, (hb.block w.heap.size (by simp; omega)).trans ((Below.heap_alloc _ _ _ (by simp)).trans (heap_new _ _)), Nat.zero_le _, by unfold maxLen; omega, by simp [madeCells], by simp⟩⟩
  have csh := (b1.cell (p := ⟨bc, r * 14 + 8, none⟩) lb).trans hsh
  have cli := (b1.cell (p := ⟨sh, 0, none⟩) lsh).trans hli
  have OWN := Lib.hid own1
  have B1 := Lib.hid b1
  clear own1 b1 hb hmk hc hel hsl hsh hli
  go_wp2_with fail
  go_loopw [6, 51] (fun v i wr => ∃ k gg cc : Nat, k ≤ ks.length ∧ i = .int .i64 k ∧ v = .slice (some ⟨gg, 0, none⟩) k cc ∧ wr.ownsRow w.heap.size 62 1 (.slice (some ⟨gg, 0, none⟩) k cc) k (strs (ks.take k)) ∧ Below w.heap.size w wr) (fun _ i _ => ks.length - (intOf i).toNat)
  case atStart => exact ⟨0, _, _, Nat.zero_le _, rfl, rfl, OWN.out, B1.out⟩
  case round =>
    obtain ⟨k, gg, cc, hk, rfl, rfl, hown, hB⟩ := hrel
    by_cases hlt : k < ks.length
    · obtain ⟨x, hx⟩ : ∃ x, ks[k]? = some x := ⟨_, List.getElem?_eq_getElem hlt⟩
      obtain ⟨c0, c1⟩ := HCS.out k x hx
      have d0 := (hB.cell (p := ⟨g2, k * 2, none⟩) hg2).trans c0
      have d1 := (hB.cell (p := ⟨g2, k * 2 + 1, none⟩) hg2).trans c1
      have ht := Lib.hid (strs_take ks k x hx)
      have HB := Lib.hid hB
      have hzw : w.heap.size ≤ wr.heap.size := hB.size
      have HOWN := Lib.hid hown
      have Hgr := Lib.hid (fun kk hkk => (hown.lt kk hkk).1)
      clear hx c0 c1 hB hown OWN B1
      go_wp2_with (at_builtin; refine wpList_append_lies _ rfl (.tmp 55) (.tmp 58) 72 rfl w.heap.size 62 i0 (.string ⟨#[]⟩) 1 16 Tryz.underlying72 hi hz0 hz1 hz2 rfl (by decide) _ k (strs (ks.take k)) rfl ((HOWN.out.alloc _).alloc _) ⟨wr.heap.size + 1, 0, none⟩ 1 1 [.string x] rfl rfl (World.news_of_block (t := 62) (fr := (0, 0)) (by rw [heap_of_alloc, if_pos (by simp)])) (by simp [Value.oneCell']) (by decide) (by unfold maxLen; omega) (by omega) (by simp; omega) _ rfl ?_; intro g cap w2 hown2 hgrow _ _)
      go_roundw
      case rel =>
        refine ⟨k + 1, g, cap, by omega, by go_num, rfl, ?_, ((HB.out.alloc hzw _).alloc (by simp; omega) _).grown hgrow (by simp; omega) Hgr.out⟩
        rw [ht.out]
        exact hown2
      case measure => simp [intOf]; omega
    · have hk2 : k = ks.length := by omega
      subst hk2
      rw [List.take_length] at hown
      have HOWN := Lib.hid hown
      have HB := Lib.hid hB
      clear hown hB OWN B1
      go_wp2
      go_ret
      exact ⟨_, _, rfl, HOWN.out, HB.out⟩

set_option maxHeartbeats 2000000 in
set_option maxRecDepth 100000 in
theorem hkeys_none (hp bc n cap r sh q C : Nat) (A : Option Addr) (w : World) (hc : w.cell? ⟨hp, 0, none⟩ = some (.slice (some ⟨bc, 0, none⟩) n cap)) (h1 : r < n) (hn : n ≤ 100)
    (hel : w.cell? ⟨bc, r * 14 + 10, none⟩ = some (.map none)) (hsl : w.cell? ⟨bc, r * 14 + 9, none⟩ = some (.slice A q C)) (hsh : w.cell? ⟨bc, r * 14 + 8, none⟩ = some (.pointer (some ⟨sh, 0, none⟩)))
    (hli : w.cell? ⟨sh, 0, none⟩ = some (.slice none 0 0)) (hq : q ≤ 1000) :
    Calls Tryz.prog 28 #[.pointer (some ⟨hp, 0, none⟩), .int .i32 r] w fun e w' => ∃ gg cc, e = .returned (.slice (some ⟨gg, 0, none⟩) 0 cc) ∧ w'.ownsRow w.heap.size 62 1 (.slice (some ⟨gg, 0, none⟩) 0 cc) 0 [] ∧ Below w.heap.size w w' := by
  obtain ⟨i0, hi, hz0, hz1, hz2⟩ := info_parts info62
  have lb := lt_of_cell hel
  have lsh := lt_of_cell hli
  go_enter Tryz.func28, Tryz.ntmps28
  go_upto_region 2 with (go_at_call 35; refine (at_any hp bc n cap r _ hc h1 hn).mono ?_; rintro e w' ⟨rfl, rfl⟩)
  have hmk := fun W => run_make (P := Tryz.prog) (w := W) 72 62 i0 (.string ⟨#[]⟩) Tryz.underlying72 hi hz0 .i64 .i64 (0 : Int) (q : Int) (by omega) (by omega) (by rw [hz2]; omega) (by omega)
  go_region
  go_wp2_with (first
    | (go_at_call 50; refine (mkeys_any _).mono ?_; rintro e w' ⟨rfl, rfl⟩)
    | (go_at_call 49; refine (sorted_nil _ _ (by go_simp)).mono ?_; rintro e w1 ⟨rfl, hb⟩))
  refine wp_loop_rounds 1 ?_
  rw [rounds_succ]
  go_upto_region 8 with fail
  have hz1' : w.heap.size + 1 < w1.heap.size := by have := hb.size; simp at this; omega
  have b1 : Below w.heap.size w w1 := ((((Below.refl _ _).alloc (Nat.le_refl _) _).alloc (by simp) _).drew).trans (hb.mono (by simp; omega))
  have own1 : w1.ownsRow w.heap.size 62 1 (.slice (some ⟨w.heap.size, 0, none⟩) 0 q) 0 [] :=
    ⟨rfl, .inr ⟨w.heap.size, q, madeCells #[.string ⟨#[]⟩] q, rfl, Nat.le_refl _, (hb.block w.heap.size (by simp; omega)).trans ((Below.heap_alloc _ _ _ (by simp)).trans (heap_new _ _)), Nat.zero_le _, by unfold maxLen; omega, by simp [madeCells], by simp⟩⟩
  have csh := (b1.cell (p := ⟨bc, r * 14 + 8, none⟩) lb).trans hsh
  have cli := (b1.cell (p := ⟨sh, 0, none⟩) lsh).trans hli
  have OWN := Lib.hid own1
  have B1 := Lib.hid b1
  clear own1 b1 hb hmk hc hel hsl hsh hli
  go_wp2_with fail
  refine wp_loop_rounds 1 ?_
  rw [rounds_succ]
  go_wp2
  go_ret
  exact ⟨_, _, rfl, OWN.out, B1.out⟩

/-- Over the state. -/
theorem hkeys_st {B : Nat} {w : World} {σ : Sig} (h : St B w σ) (i : Nat) (o : Ob) (ho : σ.obs[i]? = some o) (hlen : o.ks.length ≤ 1000) :
    Calls Tryz.prog 28 #[ptr σ.hp, .int .i32 ((i + 1 : Nat) : Int)] w fun e w' => ∃ gg cc, e = .returned (.slice (some ⟨gg, 0, none⟩) o.ks.length cc) ∧ w'.ownsRow w.heap.size 62 1 (.slice (some ⟨gg, 0, none⟩) o.ks.length cc) o.ks.length (strs o.ks) ∧ Below w.heap.size w w' := by
  have hi : i < σ.obs.length := (List.getElem?_eq_some_iff.1 ho).1
  have hf := h.few
  obtain ⟨lv, bat, nx, h1, h2, h3, h4, h5, h6, h8⟩ := h.shape _ _ (h.ob i o ho).1
  obtain ⟨_, r2, _, _⟩ := h.ob i o ho
  obtain ⟨A, C, hsl⟩ := own_slice r2
  have c9 : w.cell? ⟨σ.bc, (i + 1) * 14 + 9, none⟩ = some (.slice A o.ks.length C) := (h.cell ho 9 (by omega)).trans (by rw [← hsl]; rfl)
  have l0 : w.cell? ⟨o.sh, 0, none⟩ = some lv := by rw [cell_of_block h1]; rfl
  rcases h3.2 with ⟨rfl, hz⟩ | ⟨g2, cap2, cur, rfl, hb2, hg2, hr⟩
  · have hks : o.ks = [] := List.eq_nil_of_length_eq_zero hz
    rw [hks]
    exact hkeys_none σ.hp σ.bc (σ.obs.length + 1) σ.cap (i + 1) o.sh o.ks.length C A w h.hpCell (by omega) (by omega) (h.cell ho 10 (by omega)) c9 (h.cell ho 8 (by omega)) l0 hlen
  · exact hkeys_some σ.hp σ.bc (σ.obs.length + 1) σ.cap (i + 1) o.sh g2 cap2 o.ks.length C A o.ks w h.hpCell (by omega) (by omega) (h.cell ho 10 (by omega)) c9 (h.cell ho 8 (by omega)) l0 hlen hlen
      (fun j k hj => ⟨row_cell h3 (ent_get o.ks j k hj).1, row_cell h3 (ent_get o.ks j k hj).2⟩) (lt_of_heap hg2)
end Go.Proofs.YtlacgdnidilndaaGreatDoor
