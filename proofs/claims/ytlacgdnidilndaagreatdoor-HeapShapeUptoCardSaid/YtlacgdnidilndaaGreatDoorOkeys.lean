/- An object's keys in order, as texts: contract of objects.Keys. -/
import Derived.Test.YtlacgdnidilndaaGreatDoorKeys
namespace Go.Proofs.YtlacgdnidilndaaGreatDoor
open Go.RowKit
open Go.Proofs (Tryz.prog)

theorem ownsRow_down {w : World} {B B' : Nat} {e : TypeId} {size : Nat} {v : Value} {n : Nat} {xs : List Value} (h : w.ownsRow B e size v n xs) (hB : B' ≤ B) : w.ownsRow B' e size v n xs := by
  refine ⟨h.1, ?_⟩
  rcases h.2 with h2 | ⟨g, c, cur, e1, e2, e3⟩
  · exact .inl h2
  · exact .inr ⟨g, c, cur, e1, by omega, e3⟩
theorem info9 : (Tryz.prog.info? 9).map (fun i => (i.zero, i.size, i.bytes)) = some (some (.string ⟨#[]⟩), 1, 16) := by kernel_rfl
def shown (ks : List ByteArray) : List Value := ks.map fun k => Value.string (showK k)
theorem shown_take (ks : List ByteArray) (k : Nat) (x : ByteArray) (h : ks[k]? = some x) : shown (ks.take (k + 1)) = shown (ks.take k) ++ [.string (showK x)] := by
  unfold shown; rw [List.take_add_one, h]; simp

set_option maxHeartbeats 2000000 in
set_option maxRecDepth 100000 in
theorem okeys_any (oh hp r : Nat) (ks : List ByteArray) (w : World) (h0 : w.cell? ⟨oh, 0, none⟩ = some (.pointer (some ⟨hp, 0, none⟩))) (hr1 : r ≤ 100) (hks : ks.length ≤ 1000)
    (hst : ∀ k ∈ ks, ∃ m, k.size = 2 * m ∧ k.size ≤ 4194304)
    (HH : ∀ W, Below w.heap.size w W → Calls Tryz.prog 17 #[.pointer (some ⟨hp, 0, none⟩), .int .i32 r] W fun e w' => e = .returned (.bool true) ∧ W = w')
    (HK : ∀ W, Below w.heap.size w W → Calls Tryz.prog 28 #[.pointer (some ⟨hp, 0, none⟩), .int .i32 r] W fun e w' => ∃ gg cc, e = .returned (.slice (some ⟨gg, 0, none⟩) ks.length cc) ∧ w'.ownsRow W.heap.size 62 1 (.slice (some ⟨gg, 0, none⟩) ks.length cc) ks.length (strs ks) ∧ Below W.heap.size W w') :
    Calls Tryz.prog 11 #[.pointer (some ⟨oh, 0, none⟩), .int .i64 r] w fun e w' => ∃ v, e = .returned v ∧ w'.ownsRow w.heap.size 9 1 v ks.length (shown ks) ∧ Below w.heap.size w w' := by
  obtain ⟨i0, hi, hz0, hz1, hz2⟩ := info_parts info9
  have HHH := Lib.hid HH
  have HKK := Lib.hid HK
  have HST := Lib.hid hst
  have l0 := lt_of_cell h0
  clear HH HK hst
  go_enter Tryz.func11, Tryz.ntmps11
  go_wp2_with fail
  have QR : ∀ n, Calls Tryz.prog 18 #[.int .i64 r] (w.drewN n) fun e w'' => e = .returned (.int .i32 r) ∧ ∃ m, w'' = w.drewN m := fun n => (ref_any _ _ (by omega) (by omega)).mono fun _ _ ⟨he, hm⟩ => ⟨he, n, hm.symm⟩
  have QH : ∀ n, Calls Tryz.prog 17 #[.pointer (some ⟨hp, 0, none⟩), .int .i32 r] (w.drewN n) fun e w'' => e = .returned (.bool true) ∧ ∃ m, w'' = w.drewN m := fun n => (HHH.out (w.drewN n) ⟨rfl, rfl, rfl, Nat.le_refl _, fun _ _ => rfl⟩).mono fun _ _ ⟨he, hm⟩ => ⟨he, n, hm.symm⟩
  have QR := Lib.hid QR
  have QH := Lib.hid QH
  go_quiet ((first | (go_at_call 18; exact QR.out _) | (go_at_call 17; exact QH.out _)))
  go_wp2_with fail
  have b0 : Below w.heap.size w (w.drewN nq) := ⟨rfl, rfl, rfl, Nat.le_refl _, fun _ _ => rfl⟩
  have h0' : (w.drewN nq).cell? ⟨oh, 0, none⟩ = some (.pointer (some ⟨hp, 0, none⟩)) := h0
  have l0' : oh < (w.drewN nq).heap.size := l0
  clear QR QH h0 l0
  have z0 : (w.drewN nq).heap.size = w.heap.size := rfl
  have Z0 := Lib.hid z0
  clear z0
  generalize w.drewN nq = W at *
  go_region_held3 (fun w' => w'.cell? ⟨oh, 0, none⟩ = some (.pointer (some ⟨hp, 0, none⟩)))
    (first | go_keep | exact (hb1.cell (p := ⟨oh, 0, none⟩) l0').trans h0')
    (first
      | (go_at_call 18; refine (ref_any _ _ (by omega) (by omega)).mono ?_; rintro e w' ⟨rfl, rfl⟩)
      | (go_at_call 28; refine (HKK.out _ (by first | exact b0 | exact b0.drew | exact b0.drew.drew)).mono ?_; rintro e w1 ⟨gg, cc, rfl, hv, hb1⟩; have HV := Lib.hid hv; clear hv))
  go_wp2_with fail
  have B1 := Lib.hid (b0.drew.trans (hb1.mono (Nat.le_of_eq Z0.out.symm)))
  have hgg := (HV.out.lt gg rfl)
  have hgl : gg < w1.heap.size := hgg.2
  have hcs : ∀ (j : Nat) (k : ByteArray), ks[j]? = some k → w1.cell? ⟨gg, j, none⟩ = some (.string k) := fun j k hj => row_cell HV.out (by unfold strs; rw [List.getElem?_map, hj]; rfl)
  have HCS := Lib.hid hcs
  clear hcs hb1 hgg h0'
  go_loopw [5, 24] (fun v i wr => ∃ k : Nat, k ≤ ks.length ∧ i = .int .i64 k ∧ wr.ownsRow w1.heap.size 9 1 v k (shown (ks.take k)) ∧ Below w1.heap.size w1 wr) (fun _ i _ => ks.length - (intOf i).toNat)
  case atStart => exact ⟨0, Nat.zero_le _, rfl, ⟨rfl, .inl ⟨rfl, rfl⟩⟩, Below.refl _ _⟩
  case round =>
    obtain ⟨k, hk, rfl, hown, hB1⟩ := hrel
    by_cases hlt : k < ks.length
    · obtain ⟨x, hx⟩ : ∃ x, ks[k]? = some x := ⟨_, List.getElem?_eq_getElem hlt⟩
      obtain ⟨m, hm1, hm2⟩ := HST.out x (List.mem_of_getElem? hx)
      have d0 := (hB1.cell (p := ⟨gg, k, none⟩) hgl).trans (HCS.out k x hx)
      have ht := Lib.hid (shown_take ks k x hx)
      have HB1 := Lib.hid hB1
      have hzw : w1.heap.size ≤ wr.heap.size := hB1.size
      have HOWN := Lib.hid hown
      have Hgr := Lib.hid (fun kk hkk => (hown.lt kk hkk).1)
      have HS := Lib.hid (string_any x m wr hm2 hm1)
      clear hx hB1 hown B1 hm1 hm2
      go_wp2_with (first
        | (go_at_call 29; refine HS.out.mono ?_; rintro e w3 ⟨rfl, hb3⟩; have hown3 := Lib.hid (own_same HOWN.out fun g hg => hb3.block g (HOWN.out.lt g hg).2); have hz3 : wr.heap.size ≤ w3.heap.size := hb3.size; have HB3 := Lib.hid hb3; clear hb3)
        | (at_builtin; refine wpList_append_lies _ rfl (.tmp 28) (.tmp 31) 22 rfl w1.heap.size 9 i0 (.string ⟨#[]⟩) 1 16 Tryz.underlying22 hi hz0 hz1 hz2 rfl (by decide) _ k (shown (ks.take k)) rfl (hown3.out.alloc _) ⟨w3.heap.size, 0, none⟩ 1 1 [.string (showK x)] rfl rfl (World.news_of_block (t := 9) (fr := (0, 0)) (heap_new _ _)) (by simp [Value.oneCell']) (by decide) (by unfold maxLen; omega) (by omega) (by simp; omega) _ rfl ?_; intro g cap w4 hown4 hgrow _ _))
      go_roundw
      case rel =>
        refine ⟨k + 1, by omega, by go_num, ?_, ?_⟩
        · rw [ht.out]; exact hown4
        · exact ((HB1.out.trans (HB3.out.mono hzw)).alloc (by omega) _).grown hgrow (by simp; omega) Hgr.out
      case measure => simp [intOf]; omega
    · have hk2 : k = ks.length := by omega
      subst hk2
      rw [List.take_length] at hown
      have hz1 : w.heap.size ≤ w1.heap.size := B1.out.size
      have HOWN := Lib.hid (ownsRow_down hown hz1)
      have HB := Lib.hid (B1.out.trans (hB1.mono hz1))
      clear hown hB1 B1
      go_wp2
      go_ret
      exact ⟨_, rfl, HOWN.out, HB.out⟩

theorem okeys_st {B : Nat} {w : World} {σ : Sig} (h : St B w σ) (i : Nat) (o : Ob) (ho : σ.obs[i]? = some o) (hlen : o.ks.length ≤ 1000) (hst : ∀ k ∈ o.ks, ∃ m, k.size = 2 * m ∧ k.size ≤ 4194304) :
    Calls Tryz.prog 11 #[ptr σ.oh, .int .i64 ((i + 1 : Nat) : Int)] w fun e w' => ∃ v, e = .returned v ∧ w'.ownsRow w.heap.size 9 1 v o.ks.length (shown o.ks) ∧ Below w.heap.size w w' := by
  have hi : i < σ.obs.length := (List.getElem?_eq_some_iff.1 ho).1
  have hf := h.few
  exact okeys_any σ.oh σ.hp (i + 1) o.ks w h.ohCell (by omega) hlen hst (fun W hB => has_st (h.below hB) i o ho) (fun W hB => hkeys_st (h.below hB) i o ho hlen)
end Go.Proofs.YtlacgdnidilndaaGreatDoor
