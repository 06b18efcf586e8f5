/- The text of units: contracts of units.Text, Str.String. -/
import Derived.Test.YtlacgdnidilndaaGreatDoorTextw
namespace Go.Proofs.YtlacgdnidilndaaGreatDoor
open Go.RowKit
open Go.Proofs (Tryz.prog)

theorem e1_length (u : Nat) : (e1 u).length ≤ 3 := by
  unfold e1
  split
  · simp
  · split <;> simp
theorem e2_length (r : Nat) : (e2 r).length = 4 := rfl

theorem pair_facts (u v : Nat) (hu : hiU u = true) (hv : loU v = true) : 65536 ≤ pairR u v ∧ pairR u v ≤ 1114111 ∧ ((pairR u v : Nat) : Int) = 65536 + (u : Int) % 1024 * 1024 + (v : Int) % 1024 := by
  have hu' := of_decide_eq_true hu
  have hv' := of_decide_eq_true hv
  unfold pairR
  refine ⟨by omega, by omega, ?_⟩
  omega
theorem wraps16 (n : Int) (h0 : 0 ≤ n) (h1 : n < 2 ^ 16) : IntKind.u16.wrap n = n := by rw [IntKind.wrap_u16]; omega
theorem u8s_sur (u : Nat) : u8s [b8 237, b8 (128 + u / 64 % 64), b8 (128 + u % 64)] = [.int .u8 237, .int .u8 (128 + (u : Int) / 64 % 64), .int .u8 (128 + (u : Int) % 64)] := by
  simp only [u8s, List.map_cons, List.map_nil, b8_toNat 237 (by omega), b8_toNat (128 + u / 64 % 64) (by omega), b8_toNat (128 + u % 64) (by omega)]
  simp

set_option maxHeartbeats 4000000 in
set_option maxRecDepth 100000 in
theorem text_any (g cap : Nat) (l : List Nat) (w : World) (hl : l.length ≤ 2097152) (hu : ∀ u ∈ l, u < 65536) (hc : ∀ (j u : Nat), l[j]? = some u → w.cell? ⟨g, j, none⟩ = some (.int .u16 (u : Int))) (hg : g < w.heap.size) :
    Calls Tryz.prog 52 #[.slice (some ⟨g, 0, none⟩) l.length cap] w fun e w' => e = .returned (.string ⟨(text l).toArray⟩) ∧ Below w.heap.size w w' := by
  obtain ⟨i0, hi, hz0, hz1, hz2⟩ := info_parts info5
  have HC := Lib.hid hc
  have HU := Lib.hid hu
  clear hc hu
  go_enter Tryz.func52, Tryz.ntmps52
  go_wp2
  go_loopw [3, 4] (fun v i wr => ∃ (k : Nat) (D : List UInt8), k ≤ l.length ∧ i = .int .i64 k ∧ wr.ownsRow w.heap.size 5 1 v D.length (u8s D) ∧ D.length ≤ 3 * k ∧ Hid (D ++ text (l.drop k) = text l) ∧ Below w.heap.size w wr)
    (fun _ i _ => l.length - (intOf i).toNat)
  case atStart => exact ⟨0, [], Nat.zero_le _, rfl, World.ownsRow_nil _ _ _ _, by simp, rfl, Below.refl _ _⟩
  case round =>
    obtain ⟨k, D, hk, rfl, hown, hD, HD, hB⟩ := hrel
    by_cases hlt : k < l.length
    · obtain ⟨u, hu⟩ : ∃ u, l[k]? = some u := ⟨l[k], List.getElem?_eq_getElem hlt⟩
      have hcell : wr.cell? ⟨g, k, none⟩ = some (.int .u16 (u : Int)) := (hB.cell (p := ⟨g, k, none⟩) hg).trans (HC.out k u hu)
      have hu1 : u < 65536 := HU.out u (List.mem_of_getElem? hu)
      have hu2 : (u : Int) < 65536 := by omega
      have Hu := Lib.hid hu
      have hzw : w.heap.size ≤ wr.heap.size := hB.size
      have hgr : ∀ kk, u3.ownBlock = some kk → w.heap.size ≤ kk := fun kk hkk => (hown.lt kk hkk).1
      have Hgr := Lib.hid hgr
      have Hown := Lib.hid hown
      have HB := Lib.hid hB
      have Hhi := Lib.hid (high_any u wr hu1)
      have Hlo := Lib.hid (low_any u wr hu1)
      clear hu hgr
      cases hhi : hiU u with
      | false =>
        rw [hhi] at Hhi
        cases hlo : loU u with
        | false =>
          rw [hlo] at Hlo
          have HR := Lib.hid (Tryz.utf8_AppendRune_plain w.heap.size u3 D.length (u8s D) (u : Int) (by omega) (by omega) wr hown (by omega) hzw)
          have Hh := Lib.hid hhi
          have Hl := Lib.hid hlo
          clear hhi hlo hown hB
          go_wp2_with (first | (go_at_call 73; refine Hhi.out.mono ?_; rintro e w' ⟨rfl, rfl⟩) | (go_at_call 74; refine Hlo.out.mono ?_; rintro e w' ⟨rfl, rfl⟩) | (go_at_call 75; refine HR.out.mono ?_; rintro e w1 ⟨v', rfl, hown1, o, hgr1⟩))
          go_roundw
          case rel =>
            refine ⟨k + 1, D ++ e1 u, by omega, by go_num, ?_, ?_, ?_, ((HB.out.alloc HB.out.size _).grown hgr1 (by simp; omega) Hgr.out)⟩
            · rw [u8s_append, List.length_append]
              have h1 := hown1
              rw [rune_one u hu1 Hh.out Hl.out] at h1
              simpa [u8s] using h1
            · rw [List.length_append]; have := e1_length u; omega
            · show D ++ e1 u ++ text (l.drop (k + 1)) = text l
              rw [List.append_assoc, ← text_one Hu.out (fun v _ h => by rw [Hh.out] at h; cases h)]
              exact HD.out
          case measure => simp [intOf]; omega
        | true =>
          rw [hlo] at Hlo
          have hsur := e1_sur u (.inr hlo)
          have Hs := Lib.hid hsur
          have hs1 : (55296 : Int) ≤ (u : Int) := by omega
          have hs2 : (u : Int) < 57344 := by omega
          have c3 : D.length + 3 ≤ maxLen := by unfold maxLen; omega
          have c4 : (D.length + 3) * 1 ≤ 140737488355328 := by omega
          have f1 : bits BinOp.and IntKind.u16 ((u : Int) / 64) 63 = (u : Int) / 64 % 64 := bits_mask .u16 16 (by decide) wraps16 6 (by decide) _ (by omega) (by omega)
          have f2 : bits BinOp.and IntKind.u16 (u : Int) 63 = (u : Int) % 64 := bits_mask .u16 16 (by decide) wraps16 6 (by decide) _ (by omega) (by omega)
          have f3 : bits BinOp.or IntKind.u8 128 ((u : Int) / 64 % 64) = 128 + (u : Int) / 64 % 64 := u8_or128 _ (by omega) (by omega)
          have f4 : bits BinOp.or IntKind.u8 128 ((u : Int) % 64) = 128 + (u : Int) % 64 := u8_or128 _ (by omega) (by omega)
          have Hh := Lib.hid hhi
          have Hl := Lib.hid hlo
          clear hhi hlo hown hB hsur
          go_wp2_with (first | (go_at_call 73; refine Hhi.out.mono ?_; rintro e w' ⟨rfl, rfl⟩) | (go_at_call 74; refine Hlo.out.mono ?_; rintro e w' ⟨rfl, rfl⟩) | (at_builtin; refine wpList_append_lies _ rfl (.tmp 62) (.tmp 72) 98 rfl w.heap.size 5 i0 (.int .u8 0) 1 1 Tryz.underlying98 hi hz0 hz1 hz2 rfl (by decide) _ _ _ rfl (Hown.out.alloc _) ⟨wr.heap.size, 0, none⟩ 3 3 _ rfl (by rfl) (World.news_of_block (heap_alloc_new _ _)) (by simp [Value.oneCell']) (by decide) c3 c4 (by simp; omega) _ rfl ?_; intro gg cap2 w2 hown2 hgr2 hat2 hlt2))
          clear f1 f2 f3 f4
          go_roundw
          case rel =>
            refine ⟨k + 1, D ++ e1 u, by omega, by go_num, ?_, ?_, ?_, ((HB.out.alloc HB.out.size _).grown hgr2 (by simp; omega) Hgr.out)⟩
            · rw [u8s_append, List.length_append, Hs.out.1, u8s_sur u]
              exact hown2
            · rw [List.length_append]; have := e1_length u; omega
            · show D ++ e1 u ++ text (l.drop (k + 1)) = text l
              rw [List.append_assoc, ← text_one Hu.out (fun v _ h => by rw [Hh.out] at h; cases h)]
              exact HD.out
          case measure => simp [intOf]; omega
      | true =>
        rw [hhi] at Hhi
        by_cases hk1 : k + 1 < l.length
        · obtain ⟨v, hv⟩ : ∃ v, l[k + 1]? = some v := ⟨l[k + 1], List.getElem?_eq_getElem hk1⟩
          have hcell2 : wr.cell? ⟨g, k + 1, none⟩ = some (.int .u16 (v : Int)) := (hB.cell (p := ⟨g, k + 1, none⟩) hg).trans (HC.out (k + 1) v hv)
          have hv1 : v < 65536 := HU.out v (List.mem_of_getElem? hv)
          have hv2 : (v : Int) < 65536 := by omega
          have Hv := Lib.hid hv
          have Hlv := Lib.hid (low_any v wr hv1)
          have k1 : (k : Int) + 1 < (l.length : Int) := by omega
          have k2 : (0 : Int) ≤ (k : Int) + 1 := by omega
          have Hk1 := Lib.hid hk1
          have Hlt := Lib.hid hlt
          clear hv hk1
          cases hlv : loU v with
          | false =>
            rw [hlv] at Hlv
            have Hl := Lib.hid hlv
            have hsur := e1_sur u (.inl hhi)
            have Hs := Lib.hid hsur
            have hs1 : (55296 : Int) ≤ (u : Int) := by omega
            have hs2 : (u : Int) < 57344 := by omega
            have c3 : D.length + 3 ≤ maxLen := by unfold maxLen; omega
            have c4 : (D.length + 3) * 1 ≤ 140737488355328 := by omega
            have f1 : bits BinOp.and IntKind.u16 ((u : Int) / 64) 63 = (u : Int) / 64 % 64 := bits_mask .u16 16 (by decide) wraps16 6 (by decide) _ (by omega) (by omega)
            have f2 : bits BinOp.and IntKind.u16 (u : Int) 63 = (u : Int) % 64 := bits_mask .u16 16 (by decide) wraps16 6 (by decide) _ (by omega) (by omega)
            have f3 : bits BinOp.or IntKind.u8 128 ((u : Int) / 64 % 64) = 128 + (u : Int) / 64 % 64 := u8_or128 _ (by omega) (by omega)
            have f4 : bits BinOp.or IntKind.u8 128 ((u : Int) % 64) = 128 + (u : Int) % 64 := u8_or128 _ (by omega) (by omega)
            have Hh := Lib.hid hhi
            clear hhi hown hB hsur hlv
            go_wp2_with (first | (go_at_call 73; refine Hhi.out.mono ?_; rintro e w' ⟨rfl, rfl⟩) | (go_at_call 74; refine Hlv.out.mono ?_; rintro e w' ⟨rfl, rfl⟩) | (at_builtin; refine wpList_append_lies _ rfl (.tmp 62) (.tmp 72) 98 rfl w.heap.size 5 i0 (.int .u8 0) 1 1 Tryz.underlying98 hi hz0 hz1 hz2 rfl (by decide) _ _ _ rfl (Hown.out.alloc _) ⟨wr.heap.size, 0, none⟩ 3 3 _ rfl (by rfl) (World.news_of_block (heap_alloc_new _ _)) (by simp [Value.oneCell']) (by decide) c3 c4 (by simp; omega) _ rfl ?_; intro gg cap2 w2 hown2 hgr2 hat2 hlt2))
            clear f1 f2 f3 f4
            go_roundw
            case rel =>
              refine ⟨k + 1, D ++ e1 u, by omega, by go_num, ?_, ?_, ?_, ((HB.out.alloc HB.out.size _).grown hgr2 (by simp; omega) Hgr.out)⟩
              · rw [u8s_append, List.length_append, Hs.out.1, u8s_sur u]
                exact hown2
              · rw [List.length_append]; have := e1_length u; omega
              · show D ++ e1 u ++ text (l.drop (k + 1)) = text l
                rw [List.append_assoc, ← text_one Hu.out (fun x hx _ => by rw [Hv.out] at hx; cases hx; exact Hl.out)]
                exact HD.out
            case measure => simp [intOf]; omega
          | true =>
            rw [hlv] at Hlv
            have hr := pair_facts u v hhi hlv
            have f1 : bits BinOp.and IntKind.u16 (u : Int) 1023 = (u : Int) % 1024 := bits_mask .u16 16 (by decide) wraps16 10 (by decide) _ (by omega) (by omega)
            have f2 : bits BinOp.and IntKind.u16 (v : Int) 1023 = (v : Int) % 1024 := bits_mask .u16 16 (by decide) wraps16 10 (by decide) _ (by omega) (by omega)
            have HR := Lib.hid (Tryz.utf8_AppendRune_plain w.heap.size u3 D.length (u8s D) (pairR u v : Nat) (by omega) (by omega) wr hown (by omega) hzw)
            rw [hr.2.2] at HR
            have Hp := Lib.hid hr
            have Hh := Lib.hid hhi
            have Hl := Lib.hid hlv
            clear hhi hlv hown hB hr
            go_wp2_with (first | (go_at_call 73; refine Hhi.out.mono ?_; rintro e w' ⟨rfl, rfl⟩) | (go_at_call 74; refine Hlv.out.mono ?_; rintro e w' ⟨rfl, rfl⟩) | (go_at_call 75; go_loud (refine HR.out.mono ?_); rintro e w1 ⟨v', rfl, hown1, o, hgr1⟩))
            clear f1 f2
            go_roundw
            case rel =>
              refine ⟨k + 1 + 1, D ++ e2 (pairR u v), by omega, by go_num, ?_, ?_, ?_, ((HB.out.alloc HB.out.size _).grown hgr1 (by simp; omega) Hgr.out)⟩
              · rw [u8s_append, List.length_append]
                have h1 := hown1
                rw [← Hp.out.2.2, rune_two _ Hp.out.1 Hp.out.2.1] at h1
                simpa [u8s] using h1
              · rw [List.length_append, e2_length]; omega
              · show D ++ e2 (pairR u v) ++ text (l.drop (k + 1 + 1)) = text l
                rw [List.append_assoc, ← text_pair Hu.out Hv.out Hh.out Hl.out]
                exact HD.out
            case measure => simp [intOf]; omega
        · have hk1' : decide ((k : Int) + 1 < (l.length : Int)) = false := by simp only [decide_eq_false_iff_not]; omega
          have Hk1 := Lib.hid hk1
          clear hk1
          have hsur := e1_sur u (.inl hhi)
          have Hs := Lib.hid hsur
          have hs1 : (55296 : Int) ≤ (u : Int) := by omega
          have hs2 : (u : Int) < 57344 := by omega
          have c3 : D.length + 3 ≤ maxLen := by unfold maxLen; omega
          have c4 : (D.length + 3) * 1 ≤ 140737488355328 := by omega
          have f1 : bits BinOp.and IntKind.u16 ((u : Int) / 64) 63 = (u : Int) / 64 % 64 := bits_mask .u16 16 (by decide) wraps16 6 (by decide) _ (by omega) (by omega)
          have f2 : bits BinOp.and IntKind.u16 (u : Int) 63 = (u : Int) % 64 := bits_mask .u16 16 (by decide) wraps16 6 (by decide) _ (by omega) (by omega)
          have f3 : bits BinOp.or IntKind.u8 128 ((u : Int) / 64 % 64) = 128 + (u : Int) / 64 % 64 := u8_or128 _ (by omega) (by omega)
          have f4 : bits BinOp.or IntKind.u8 128 ((u : Int) % 64) = 128 + (u : Int) % 64 := u8_or128 _ (by omega) (by omega)
          have Hh := Lib.hid hhi
          clear hhi hown hB hsur
          go_wp2_with (first | (go_at_call 73; refine Hhi.out.mono ?_; rintro e w' ⟨rfl, rfl⟩) | (at_builtin; refine wpList_append_lies _ rfl (.tmp 62) (.tmp 72) 98 rfl w.heap.size 5 i0 (.int .u8 0) 1 1 Tryz.underlying98 hi hz0 hz1 hz2 rfl (by decide) _ _ _ rfl (Hown.out.alloc _) ⟨wr.heap.size, 0, none⟩ 3 3 _ rfl (by rfl) (World.news_of_block (heap_alloc_new _ _)) (by simp [Value.oneCell']) (by decide) c3 c4 (by simp; omega) _ rfl ?_; intro gg cap2 w2 hown2 hgr2 hat2 hlt2))
          clear f1 f2 f3 f4
          go_roundw
          case rel =>
            refine ⟨k + 1, D ++ e1 u, by omega, by go_num, ?_, ?_, ?_, ((HB.out.alloc HB.out.size _).grown hgr2 (by simp; omega) Hgr.out)⟩
            · rw [u8s_append, List.length_append, Hs.out.1, u8s_sur u]
              exact hown2
            · rw [List.length_append]; have := e1_length u; omega
            · show D ++ e1 u ++ text (l.drop (k + 1)) = text l
              rw [List.append_assoc, ← text_one Hu.out (fun x hx _ => absurd (List.getElem?_eq_some_iff.1 hx).1 Hk1.out)]
              exact HD.out
          case measure => simp [intOf]; omega
    · have hk2 : k = l.length := by omega
      have hD2 : D = text l := by
        have h := HD.out
        rw [hk2, List.drop_length, text_nil, List.append_nil] at h
        exact h
      have hcv := row_string (L := text l) (by rw [hD2] at hown; exact hown) 98 9 Tryz.underlying98 Tryz.underlying9
      have HK := Lib.hid hD2
      clear hD2 hk2
      go_wp2
      go_ret
      exact ⟨rfl, hB⟩

/-- The text of a key. -/
def showK (s : ByteArray) : ByteArray := ⟨(text (unpack s.data.toList)).toArray⟩
set_option maxHeartbeats 1000000 in
set_option maxRecDepth 100000 in
theorem string_any (s : ByteArray) (n : Nat) (w : World) (hs : s.size ≤ 4194304) (hn : s.size = 2 * n) :
    Calls Tryz.prog 29 #[.string s] w fun e w' => e = .returned (.string (showK s)) ∧ Below w.heap.size w w' := by
  have HL := Lib.hid (list_any s n w hs hn)
  have hlen := unpack_length n s.data.toList (by rw [← Lib.size_eq]; exact hn)
  have hT : ∀ (g : Nat) (w1 : World), (∀ (j u : Nat), (unpack s.data.toList)[j]? = some u → w1.cell? ⟨g, j, none⟩ = some (.int .u16 (u : Int))) → g < w1.heap.size →
      Calls Tryz.prog 52 #[.slice (some ⟨g, 0, none⟩) n n] w1 fun e w' => e = .returned (.string ⟨(text (unpack s.data.toList)).toArray⟩) ∧ Below w1.heap.size w1 w' := fun g w1 hc hg => by
    have h := text_any g n (unpack s.data.toList) w1 (by omega) (unpack_lt _) hc hg
    rw [hlen] at h
    exact h
  have HT := Lib.hid hT
  clear hT hlen hn
  go_enter Tryz.func29, Tryz.ntmps29
  go_wp2_with fail
  go_at_call 53
  refine HL.out.mono ?_
  rintro e w1 ⟨g, rfl, hc, hg, hg0, hb1⟩
  have HC := Lib.hid (HT.out g w1 hc hg)
  clear hc
  go_wp2_with (go_at_call 52; refine HC.out.mono ?_; rintro e w2 ⟨rfl, hb2⟩)
  go_ret
  exact ⟨rfl, hb1.trans (hb2.mono hb1.size)⟩
theorem showK_inj {s t : ByteArray} {n m : Nat} (hs : s.size = 2 * n) (ht : t.size = 2 * m) (h : showK s = showK t) : s = t := by
  have h1 : text (unpack s.data.toList) = text (unpack t.data.toList) := by
    have h2 := congrArg (fun b : ByteArray => b.data.toList) h
    simpa [showK] using h2
  have h3 := text_inj _ _ _ (Nat.le_refl _) (unpack_lt _) (unpack_lt _) h1
  have h4 := congrArg pack h3
  rw [pack_unpack n _ (by rw [← Lib.size_eq]; exact hs), pack_unpack m _ (by rw [← Lib.size_eq]; exact ht)] at h4
  have h5 : s.data = t.data := Array.toList_inj.1 h4
  cases s; cases t; simp_all
end Go.Proofs.YtlacgdnidilndaaGreatDoor
