/- The answer's units of a text: some units, those of the text where it is plain ASCII: contracts of ecmacoreref1.Units and P. -/
import Derived.Test.YtlacgdnidilndaaGreatDoorRindex
namespace Go.Proofs.YtlacgdnidilndaaGreatDoor
open Go.RowKit
open Go.Proofs (Tryz.prog)

/-- What has been collected when k bytes are over. -/
def Col (s : ByteArray) (k : Nat) (l : List Nat) : Prop := (∀ u ∈ l, u < 65536) ∧ (asciiB s → l = (s.data.toList.take k).map UInt8.toNat) ∧ ((∃ i, i < k ∧ 128 ≤ (s.get! i).toNat) → ∃ u ∈ l, 128 ≤ u)
theorem col_one {s : ByteArray} {k : Nat} {l : List Nat} (h : Col s k l) (u m : Nat) (hu : u < 65536) (ha : asciiB s → k < s.size ∧ m = k + 1 ∧ u = (s.get! k).toNat) (hh : ∀ i, k ≤ i → i < m → 128 ≤ (s.get! i).toNat → 128 ≤ u) : Col s m (l ++ [u]) := by
  refine ⟨fun x hx => ?_, fun hs => ?_, fun ⟨i, hi, hb⟩ => ?_⟩
  · rcases List.mem_append.1 hx with hx | hx
    · exact h.1 x hx
    · simp at hx; omega
  · obtain ⟨hk, rfl, rfl⟩ := ha hs
    rw [h.2.1 hs, List.take_add_one, List.map_append]
    have hk' : k < s.data.toList.length := by rw [← Lib.size_eq]; exact hk
    rw [List.getElem?_eq_getElem hk']
    have e := Lib.getD_get!' s k
    simp only [List.getD, List.getElem?_eq_getElem hk', Option.getD_some] at e
    rw [← e]
    rfl
  · rcases Nat.lt_or_ge i k with h1 | h1
    · obtain ⟨x, hx, hx2⟩ := h.2.2 ⟨i, h1, hb⟩
      exact ⟨x, List.mem_append_left _ hx, hx2⟩
    · exact ⟨u, by simp, hh i h1 hi hb⟩
theorem col_more {s : ByteArray} {k m : Nat} {l : List Nat} (h : Col s k l) (us : List Nat) (hu : ∀ u ∈ us, u < 65536) (ha : ¬ asciiB s) (hx : ∃ u ∈ us, 128 ≤ u) : Col s m (l ++ us) :=
  ⟨fun x hx => by
    rcases List.mem_append.1 hx with hx | hx
    · exact h.1 x hx
    · exact hu x hx, fun hs => absurd hs ha, fun _ => by
    obtain ⟨u, h1, h2⟩ := hx
    exact ⟨u, List.mem_append_right _ h1, h2⟩⟩

theorem pat_no {s : ByteArray} {k : Nat} (h0 : k < s.size) (hp : ¬ (k + 2 < s.size ∧ (s.get! k).toNat = 237 ∧ (160 ≤ (s.get! (k + 1)).toNat ∧ (s.get! (k + 1)).toNat < 192) ∧ 128 ≤ (s.get! (k + 2)).toNat ∧ (s.get! (k + 2)).toNat < 192))
    (h2 : k + 2 < s.size) (a : s[k].toNat = 237) (b : 160 ≤ (s[k + 1]'(by omega)).toNat) (c : (s[k + 1]'(by omega)).toNat < 192) (d : 128 ≤ (s[k + 2]'h2).toNat) (e : (s[k + 2]'h2).toNat < 192) : False := by
  apply hp
  rw [get_at s k h0, get_at s (k + 1) (by omega), get_at s (k + 2) h2]
  exact ⟨h2, a, ⟨b, c⟩, d, e⟩

set_option maxHeartbeats 4000000 in
set_option maxRecDepth 100000 in
theorem runits_any (s : ByteArray) (w : World) (hs : s.size ≤ 2097152) (hT : Lib.Utf8Tabs 2 3 w) :
    Calls Tryz.prog 21 #[.string s] w fun e w' => ∃ v l, e = .returned v ∧ w'.ownsRow w.heap.size 61 1 v l.length (u16s l) ∧ l.length ≤ s.size ∧ Col s s.size l ∧ Below w.heap.size w w' := by
  obtain ⟨i0, hi, hz0, hz1, hz2⟩ := info_parts info61
  have HT := Lib.hid hT
  clear hT
  go_enter Tryz.func21, Tryz.ntmps21
  go_wp2
  go_loopw [3, 4] (fun v i wr => ∃ (k : Nat) (l : List Nat), k ≤ s.size ∧ i = .int .i64 k ∧ l.length ≤ k ∧ Hid (Col s k l) ∧ wr.ownsRow w.heap.size 61 1 v l.length (u16s l) ∧ Below w.heap.size w wr)
    (fun _ i _ => s.size - (intOf i).toNat)
  case atStart => exact ⟨0, [], Nat.zero_le _, rfl, Nat.le_refl _, ⟨fun u h => by simp at h, fun _ => rfl, fun ⟨i, h, _⟩ => by omega⟩, World.ownsRow_nil _ _ _ _, Below.refl _ _⟩
  case round =>
    obtain ⟨k, l, hk, rfl, hl, HCol, hown, hB⟩ := hrel
    have hzo : w.heap.size ≤ wr.heap.size := hB.size
    by_cases hlt : k < s.size
    · have hq : (k : Int) < (s.size : Int) := by omega
      by_cases hpat : k + 2 < s.size ∧ (s.get! k).toNat = 237 ∧ (160 ≤ (s.get! (k + 1)).toNat ∧ (s.get! (k + 1)).toNat < 192) ∧ 128 ≤ (s.get! (k + 2)).toNat ∧ (s.get! (k + 2)).toNat < 192
      · obtain ⟨p1, p2, ⟨p3, p4⟩, p5, p6⟩ := hpat
        have q1 : k + 1 < s.size := by omega
        rw [get_at s k hlt] at p2
        rw [get_at s (k + 1) q1] at p3 p4
        rw [get_at s (k + 2) p1] at p5 p6
        have hna : ¬ asciiB s := fun h => by have := h k hlt; rw [get_at s k hlt] at this; omega
        have HNA := Lib.hid hna
        clear hna
        obtain ⟨x, hx⟩ : ∃ x : UInt8, s[k + 1]'q1 = x := ⟨_, rfl⟩
        obtain ⟨y, hy⟩ : ∃ y : UInt8, s[k + 2]'p1 = y := ⟨_, rfl⟩
        rw [hx] at p3 p4
        rw [hy] at p5 p6
        have r2 : (s[k].toNat : Int) = 237 := by omega
        have r3 : (160 : Int) ≤ (x.toNat : Int) := by omega
        have r4 : (x.toNat : Int) < 192 := by omega
        have r5 : (128 : Int) ≤ (y.toNat : Int) := by omega
        have r6 : (y.toNat : Int) < 192 := by omega
        have t1 : (k : Int) + 1 < (s.size : Int) := by omega
        have t2 : (k : Int) + 2 < (s.size : Int) := by omega
        have t3 : (0 : Int) ≤ (k : Int) + 1 := by omega
        have t4 : (0 : Int) ≤ (k : Int) + 2 := by omega
        have t5 : (2 : Int) < (s.size : Int) - (k : Int) := by omega
        have c3 : l.length + 1 ≤ maxLen := by unfold maxLen; omega
        have c4 : (l.length + 1) * 2 ≤ 140737488355328 := by omega
        have z0 : IntKind.u8.wrap ((x.toNat : Int) - 128) = (x.toNat : Int) - 128 := by rw [IntKind.wrap_u8]; omega
        have z1 : IntKind.u8.wrap ((y.toNat : Int) - 128) = (y.toNat : Int) - 128 := by rw [IntKind.wrap_u8]; omega
        have z2 : IntKind.i64.wrap ((x.toNat : Int) - 128) = (x.toNat : Int) - 128 := IntWalk.i64_in _ (by omega)
        have z3 : IntKind.i64.wrap ((y.toNat : Int) - 128) = (y.toNat : Int) - 128 := IntWalk.i64_in _ (by omega)
        have z4 : IntKind.i64.wrap (((x.toNat : Int) - 128) * 64) = ((x.toNat : Int) - 128) * 64 := IntWalk.i64_in _ (by omega)
        have z5 : IntKind.i64.wrap (53248 + ((x.toNat : Int) - 128) * 64) = 53248 + ((x.toNat : Int) - 128) * 64 := IntWalk.i64_in _ (by omega)
        have z6 : IntKind.i64.wrap (53248 + ((x.toNat : Int) - 128) * 64 + ((y.toNat : Int) - 128)) = 53248 + ((x.toNat : Int) - 128) * 64 + ((y.toNat : Int) - 128) := IntWalk.i64_in _ (by omega)
        have z7 : IntKind.u16.wrap (53248 + ((x.toNat : Int) - 128) * 64 + ((y.toNat : Int) - 128)) = 53248 + ((x.toNat : Int) - 128) * 64 + ((y.toNat : Int) - 128) := by rw [IntKind.wrap_u16]; omega
        have y1 : IntKind.i64.wrap ((k : Int) + 1) = (k : Int) + 1 := IntWalk.i64_in _ (by omega)
        have y2 : IntKind.i64.wrap ((k : Int) + 2) = (k : Int) + 2 := IntWalk.i64_in _ (by omega)
        have y3 : ((k : Int) + 1).toNat = k + 1 := by omega
        have y4 : ((k : Int) + 2).toNat = k + 2 := by omega
        have hgr : ∀ kk, u3.ownBlock = some kk → w.heap.size ≤ kk := fun kk hkk => (hown.lt kk hkk).1
        have Hgr := Lib.hid hgr
        clear hgr p2 p3 p4 p5 p6
        go_wp2_with fail
        go_region_held3 (fun _ => True) (trivial)
          ((refine step_append_lies _ (by rfl) _ _ _ (by rfl) w.heap.size 61 i0 (.int .u16 0) 1 2 Tryz.underlying58 hi hz0 hz1 hz2 rfl (by decide) u3 l.length (u16s l) (by rfl) ((hown.alloc _).drew) ⟨wr.heap.size, 0, none⟩ 1 1 [.int .u16 (53248 + ((x.toNat : Int) - 128) * 64 + ((y.toNat : Int) - 128))] (by rfl) (by rfl) (World.news_of_block (cs := #[.int .u16 (53248 + ((x.toNat : Int) - 128) * 64 + ((y.toNat : Int) - 128))]) (t := 61) (fr := (0, 0)) (heap_alloc_new wr _)) (by simp [Value.oneCell']) (by decide) c3 c4 (by simp; omega) (wr.heap.size + 1) (by simp) ?_; intro gg cap w1 hown1 hgrow hat hlt))
        all_goals
          clear z0 z1 z2 z3 z4 z5 z6 z7 y1 y2 y3 y4
          have HG := Lib.hid hown1
          clear hown1
          go_wp2
          go_roundw
          case rel =>
            have e : u16s [53248 + (x.toNat - 128) * 64 + (y.toNat - 128)] = [.int .u16 (53248 + ((x.toNat : Int) - 128) * 64 + ((y.toNat : Int) - 128))] := by
              have e1 : ((53248 + (x.toNat - 128) * 64 + (y.toNat - 128) : Nat) : Int) = 53248 + ((x.toNat : Int) - 128) * 64 + ((y.toNat : Int) - 128) := by omega
              simp only [u16s, List.map_cons, List.map_nil, e1]
            refine ⟨k + 3, l ++ [53248 + (x.toNat - 128) * 64 + (y.toNat - 128)], by omega, by go_num, by simp; omega, col_more HCol.out _ (fun u hu => by simp at hu; omega) HNA.out ⟨_, List.mem_singleton.2 rfl, by omega⟩, ?_, ((hB.alloc hB.size _).drew.grown hgrow (by simp; omega) Hgr.out)⟩
            rw [u16s_append, e, List.length_append]
            exact HG.out
          case measure => simp [intOf]; omega
      · have HT1 := tabs_below HT.out hB (tabs_size HT.out)
        have hts : (s.extract k s.size).size = s.size - k := Lib.tail_size s k
        have hdf := decode_facts (s.extract k s.size) (by omega)
        have hdl : asciiB s → Lib.decodeGo (s.extract k s.size) = ((s.get! k).toNat, 1) := fun h => by
          have h0 : (s.extract k s.size).get! 0 = s.get! k := by rw [Lib.tail_get!]; rfl
          rw [decode_low _ (by omega) (by rw [h0]; exact h k hlt), h0]
        have HN := Lib.hid (Tryz.utf8_DecodeRuneInString (s.extract k s.size) wr HT1)
        obtain ⟨r, n, hrn⟩ : ∃ r n, Lib.decodeGo (s.extract k s.size) = (r, n) := ⟨_, _, rfl⟩
        rw [hrn] at hdf HN
        simp only at hdf HN
        obtain ⟨hn1, hn2, hn3, hn4, hn5⟩ := hdf
        have hlw : (s.get! k).toNat < 128 → n = 1 := fun h => by
          have h0 : (s.extract k s.size).get! 0 = s.get! k := by rw [Lib.tail_get!]; rfl
          have h1 := decode_low (s.extract k s.size) (by omega) (by rw [h0]; exact h)
          rw [hrn] at h1
          exact congrArg Prod.snd h1
        have HLW : Hid (∀ i, k ≤ i → i < k + n → 128 ≤ (s.get! i).toNat → 128 ≤ r) := fun i h1 h2 h3 => by
          rcases Nat.lt_or_ge (s.get! k).toNat 128 with h4 | h4
          · have := hlw h4
            obtain rfl : i = k := by omega
            omega
          · refine hn5 ?_
            have h0 : (s.extract k s.size).get! 0 = s.get! k := by rw [Lib.tail_get!]; rfl
            rw [h0]; exact h4
        have HDL : Hid (asciiB s → r = (s.get! k).toNat ∧ n = 1) := fun h => by
          have h1 := hdl h
          rw [hrn] at h1
          exact ⟨congrArg Prod.fst h1, congrArg Prod.snd h1⟩
        have H4 := Lib.hid hn4
        have hn2' : n ≤ s.size - k := by omega
        have hB1 : ∀ w1 : World, Below wr.heap.size wr w1 → Below w.heap.size w w1 := fun w1 h => hB.trans (h.mono hB.size)
        have HB1 := Lib.hid hB1
        have HP := Lib.hid hpat
        have hkn : (k : Int) + (n : Int) ≤ (s.size : Int) := by omega
        have hgr : ∀ kk, u3.ownBlock = some kk → w.heap.size ≤ kk := fun kk hkk => (hown.lt kk hkk).1
        have Hgr := Lib.hid hgr
        clear hdl hrn hn4 hts hn2 HT1 hB1 hpat hgr hn5 hlw
        by_cases hr : 65535 < r
        · have hr' : (65535 : Int) < (r : Int) := by omega
          have c3 : l.length + 2 ≤ maxLen := by unfold maxLen; omega
          have c4 : (l.length + 2) * 2 ≤ 140737488355328 := by omega
          go_wp2_with (first | (go_at_call 36; refine HN.out.mono ?_; rintro e w1 ⟨rfl, hb1⟩; have hown1 := own_below hown hb1; have hzw : wr.heap.size ≤ w1.heap.size := hb1.size) | (at_builtin; refine wpList_append_lies _ rfl (.tmp 83) (.tmp 96) 58 rfl w.heap.size 61 i0 (.int .u16 0) 1 2 Tryz.underlying58 hi hz0 hz1 hz2 rfl (by decide) _ _ _ rfl (hown1.alloc _) ⟨w1.heap.size, 0, none⟩ 2 2 _ rfl (by rfl) (World.news_of_block (heap_alloc_new _ _)) (by simp [Value.oneCell']) (by decide) c3 c4 (by simp; omega) _ rfl ?_; intro g cap w2 hown2 hgr2 hat2 hlt2))
          all_goals first
            | (exfalso; refine pat_no hlt HP.out (by omega) ?_ ?_ ?_ ?_ ?_ <;> (intros; omega))
            | (go_roundw
               case rel =>
                 have hna : ¬ asciiB s := fun h => by have h1 := (HDL.out h).1; have h2 := h k hlt; omega
                 have h4 := H4.out (by omega)
                 refine ⟨k + n, l ++ unitsR r, by omega, by rw [Int.natCast_add], ?_, col_more HCol.out _ (unitsR_lt r hn3) hna (unitsR_high r (by omega)), ?_, (((HB1.out w1 hb1).alloc (by omega) _).grown hgr2 (by simp; omega) Hgr.out)⟩
                 · rw [List.length_append, unitsR_length, if_pos (by omega)]; omega
                 · rw [u16s_append, List.length_append, unitsR_length, if_pos (by omega), u16s_pair _ (by omega)]
                   exact hown2
               case measure => simp [intOf]; omega)
        · have hr' : (r : Int) ≤ 65535 := by omega
          have hd : decide ((65535 : Int) < (r : Int)) = false := by simp only [decide_eq_false_iff_not]; omega
          have c3 : l.length + 1 ≤ maxLen := by unfold maxLen; omega
          have c4 : (l.length + 1) * 2 ≤ 140737488355328 := by omega
          have hn3' := hn3
          have HR := Lib.hid hr
          clear hn3 hr
          go_wp2_with (first | (go_at_call 36; refine HN.out.mono ?_; rintro e w1 ⟨rfl, hb1⟩; have hown1 := own_below hown hb1; have hzw : wr.heap.size ≤ w1.heap.size := hb1.size) | (at_builtin; refine wpList_append_lies _ rfl (.tmp 98) (.tmp 101) 58 rfl w.heap.size 61 i0 (.int .u16 0) 1 2 Tryz.underlying58 hi hz0 hz1 hz2 rfl (by decide) _ _ _ rfl (hown1.alloc _) ⟨w1.heap.size, 0, none⟩ 1 1 _ rfl (by rfl) (World.news_of_block (heap_alloc_new _ _)) (by simp [Value.oneCell']) (by decide) c3 c4 (by simp; omega) _ rfl ?_; intro g cap w2 hown2 hgr2 hat2 hlt2))
          all_goals first
            | (exfalso; refine pat_no hlt HP.out (by omega) ?_ ?_ ?_ ?_ ?_ <;> (intros; omega))
            | (go_roundw
               case rel =>
                 have hone : u16s [r] = [.int .u16 (r : Int)] := rfl
                 refine ⟨k + n, l ++ [r], by omega, by rw [Int.natCast_add], ?_, col_one HCol.out r (k + n) (by omega) (fun h => ⟨hlt, by have := (HDL.out h).2; omega, (HDL.out h).1⟩) HLW.out, ?_, (((HB1.out w1 hb1).alloc (by omega) _).grown hgr2 (by simp; omega) Hgr.out)⟩
                 · rw [List.length_append, List.length_singleton]; omega
                 · rw [u16s_append, List.length_append, hone]
                   exact hown2
               case measure => simp [intOf]; omega)
    · have hk2 : k = s.size := by omega
      subst hk2
      go_wp2
      go_ret
      exact ⟨_, l, rfl, hown, hl, HCol.out, hB⟩
end Go.Proofs.YtlacgdnidilndaaGreatDoor
