/- The law's own walk. -/
import Derived.Test.YtlacgdnidilndaaGreatDoorLawp
namespace Go.Proofs.YtlacgdnidilndaaGreatDoor
open Go.RowKit
open Go.Proofs (Tryz.prog)

set_option maxHeartbeats 16000000 in
set_option maxRecDepth 100000 in
theorem law_any (w : World) (a0 : Option Addr) (cap b off : Nat) (K : List ByteArray) (x : Int) (hx0 : -9223372036854775808 ≤ x) (hx1 : x ≤ 9223372036854775807) (hKm : K.length ≤ 9223372036854775807)
    (hA : 0 < K.length → a0 = some ⟨b, off, none⟩ ∧ b < w.heap.size) (hcell : ∀ (j : Nat) (s : ByteArray), K[j]? = some s → w.cell? ⟨b, off + j, none⟩ = some (.string s)) (hsz : ∀ s ∈ K, s.size ≤ 2097152)
    (hT : ∀ X, Below w.heap.size w X → Lib.Utf8Tabs 2 3 X) :
    Calls Tryz.prog 3 #[.slice a0 K.length cap, .int .i64 x] w fun e w' => e = .returned (.bool true) ∧ Below w.heap.size w w' := by
  have HN := Lib.hid (new_any w)
  have HT := Lib.hid hT
  have HC := Lib.hid hcell
  have HS := Lib.hid hsz
  have HA := Lib.hid hA
  clear hT hcell hsz hA
  go_enter Tryz.func3, Tryz.ntmps3
  go_upto_region 4 with (go_at_call 4; refine HN.out.mono ?_; rintro e w1 ⟨σ0, rfl, ho0, hs0, hb0, _⟩; unfold ptr)
  obtain ⟨oh, hoh⟩ : ∃ oh, σ0.oh = oh := ⟨_, rfl⟩
  rw [hoh]
  have I0 : Inv w w1 oh σ0 := ⟨hs0, hb0, hoh⟩
  have HM0 := Lib.hid (make_law I0 0 (by rw [ho0]; rfl) (by omega))
  clear hs0 hb0 I0 HN
  go_upto_region 5 with (go_at_call 5; refine HM0.out.mono ?_; rintro e w2 ⟨rfl, σ1, I1, ho1, hr1⟩)
  have HM1 := Lib.hid (make_law I1 1 (by rw [ho1, ho0]; rfl) (by omega))
  clear HM0 I1
  go_upto_region 6 with (go_at_call 5; refine HM1.out.mono ?_; rintro e w3 ⟨rfl, σ2, I2, ho2, hr2⟩)
  have HM2 := Lib.hid (make_law I2 2 (by rw [ho2, ho1, ho0]; rfl) (by omega))
  clear HM1 I2
  go_upto_region 7 with (go_at_call 5; refine HM2.out.mono ?_; rintro e w4 ⟨rfl, σ3, I3, ho3, hr3⟩)
  have ho : σ3.obs = [newOb σ0.root, newOb σ1.root, newOb σ2.root] := by rw [ho3, ho2, ho1, ho0]; rfl
  have HSA := Lib.hid (same_law I3 0 1 _ _ (by rw [ho]; rfl) (by rw [ho]; rfl) 1 2 rfl rfl true (by simp [newOb]))
  have II3 := Lib.hid I3
  clear HM2 I3 ho0 ho1 ho2 ho3 hr1 hr2 hr3 hoh
  go_upto_region 8 with (go_at_call 6; refine HSA.out.mono ?_; rintro e w5 ⟨rfl, hb5⟩)
  have I5 := Lib.hid (II3.out.next hb5)
  have D5 := Lib.hid (II3.out.below.trans (hb5.mono II3.out.below.size))
  have HO : Hid (One σ3 K 0 (newOb σ0.root) 0 ⟨#[]⟩) := Lib.hid ⟨⟨_, _, ho, rfl, rfl⟩, fun k => by simp [newOb], ⟨rfl, Nat.le_refl _⟩, .inl rfl⟩
  clear II3 HSA hb5 ho
  by_cases hlen : 40 < K.length
  · have hq : (40 : Int) < (K.length : Int) := by omega
    go_wp2
    go_ret
    exact ⟨rfl, D5.out⟩
  have hq : (K.length : Int) ≤ 40 := by omega
  go_upto_region 11 with (refine wpList_store_row rfl 33 (.tmp 13) (.tmp 85) rfl w5.heap.size _ rfl rfl 33 _ (heap_new _ _) (by kernel_rfl) rfl (by simp [Value.oneCell']) ?_)
  have A6 := Lib.hid (⟨setRow_heap _ _ _ _ _ _ (heap_new w5 _), D5.out.size, role_none I5.out.st (Nat.le_refl _)⟩ : Aside w ((w5.alloc (.cells #[.bool false, .bool false, .bool false, .bool false, .bool false, .bool false, .int .i64 0, .float .f64 0, .string ⟨#[]⟩, .int .i64 0, .int .i64 0, .int .i64 0, .bool false, .bool false, .bool false] 33)).setRow w5.heap.size (descCells 0 0 ⟨#[]⟩)) σ3 w5.heap.size (descCells 0 0 ⟨#[]⟩))
  have I6 := Lib.hid (I5.out.next (below_setRow ((Below.refl _ w5).alloc (Nat.le_refl _) (.cells #[.bool false, .bool false, .bool false, .bool false, .bool false, .bool false, .int .i64 0, .float .f64 0, .string ⟨#[]⟩, .int .i64 0, .int .i64 0, .int .i64 0, .bool false, .bool false, .bool false] 33)) (Nat.le_refl _) (descCells 0 0 ⟨#[]⟩)))
  unfold descCells at A6 I6
  generalize (w5.alloc (.cells #[.bool false, .bool false, .bool false, .bool false, .bool false, .bool false, .int .i64 0, .float .f64 0, .string ⟨#[]⟩, .int .i64 0, .int .i64 0, .int .i64 0, .bool false, .bool false, .bool false] 33)).setRow w5.heap.size _ = W6 at A6 I6 ⊢
  generalize w5.heap.size = db at A6 ⊢
  clear I5 D5
  go_wp2_with fail
  go_loopw [7, 9, 14, 15, 16] (fun e7 e9 n f i wr => ∃ (j : Nat) (σ : Sig) (a : Ob) (n' : Nat) (f' : ByteArray) (kz : Int) (num : Nat) (txt : ByteArray), j ≤ K.length ∧ e7 = .int .i64 0 ∧ e9 = .int .i64 0 ∧ n = .int .i64 n' ∧ f = .string f' ∧ i = .int .i64 j ∧ Hid (Inv w wr oh σ) ∧ Hid (One σ K j a n' f') ∧ Hid (Aside w wr σ db (descCells kz num txt)) ∧ Hid (ValIs kz num txt)) (fun _ _ _ _ i _ => K.length - (intOf i).toNat)
  case atStart => exact ⟨0, σ3, _, 0, _, 0, 0, _, Nat.zero_le _, rfl, rfl, rfl, rfl, rfl, I6, HO, A6, Lib.hid (.inl ⟨rfl, rfl, rfl⟩)⟩
  case round =>
    clear I6 HO A6
    obtain ⟨j, σ, a, n', f', kz, num, txt, hj, rfl, rfl, rfl, rfl, rfl, HI, H1, HD, HV⟩ := hrel
    by_cases hlt : j < K.length
    · as_aux_lemma =>
        obtain ⟨s, hs⟩ : ∃ s, K[j]? = some s := ⟨_, List.getElem?_eq_getElem hlt⟩
        obtain ⟨ha0, hbl⟩ := HA.out (by omega)
        subst ha0
        have HK : Hid (∀ X, Below w.heap.size w X → X.cell? ⟨b, off + j, none⟩ = some (.string s)) := Lib.hid fun X hX => (hX.cell (p := ⟨b, off + j, none⟩) hbl).trans (HC.out j s hs)
        have k0 := HK.out _ HI.out.below
        have hss := HS.out s (List.mem_of_getElem? hs)
        have HP := Lib.hid (p_inv HI.out HT.out s hss)
        have HTK : Hid (K.take (j + 1) = K.take j ++ [s]) := Lib.hid (by rw [List.take_add_one, hs]; rfl)
        obtain ⟨bo, co, hob, hbk, hck⟩ := H1.out.obs
        have HOB := Lib.hid hob
        have HBK := Lib.hid hbk
        have HCK := Lib.hid hck
        have hal : a.ks.length ≤ 1000 := by have := H1.out.len; omega
        clear hob hbk hck hs
        go_upto_region 17 with (go_at_call 7; refine HP.out.mono ?_; rintro e w1 ⟨p, rfl, hb1, hix⟩; have HX := Lib.hid hix; clear hix)
        have J1 := Lib.hid (HI.out.next hb1)
        have E1 := Lib.hid (HD.out.next hb1)
        clear hb1 HP
        go_upto_region 18 with (go_at_call 8; refine (HX.out _).mono ?_; rintro e w2 ⟨z, rfl, hz, hb2⟩)
        have J2 := Lib.hid (J1.out.next hb2)
        have E2 := Lib.hid (E1.out.next hb2)
        have k2 := HK.out _ J2.out.below
        have HOW := Lib.hid (own_inv J2.out HT.out 0 a (by rw [HOB.out]; rfl) s hss hal 1 rfl)
        clear hb2 k0
        go_upto_region 19 with (first
          | (go_at_call 9; refine HOW.out.mono ?_; rintro e w3 ⟨⟨D, bb, d, rfl, hD1, hD2, hD3, hD4⟩, hb3⟩; have HD1 := Lib.hid hD1; have HD2 := Lib.hid hD2; have HD3 := Lib.hid hD3; clear hD1 hD2 hD3)
          | (refine wpList_store_row rfl 33 (.tmp 19) (.tmp 107) rfl w3.heap.size _ rfl rfl 33 _ (heap_new _ _) (by rw [HD1.out]; kernel_rfl) (by rw [HD1.out]; rfl) HD2.out ?_))
        have b4 : Below w3.heap.size w3 ((w3.alloc (.cells #[.bool false, .bool false, .bool false, .bool false, .bool false, .bool false, .int .i64 0, .float .f64 0, .string ⟨#[]⟩, .int .i64 0, .int .i64 0, .int .i64 0, .bool false, .bool false, .bool false] 33)).setRow w3.heap.size D) := below_setRow ((Below.refl _ w3).alloc (Nat.le_refl _) _) (Nat.le_refl _) D
        have J4 := Lib.hid ((J2.out.next hb3).next b4)
        have E4 := Lib.hid ((E2.out.next hb3).next b4)
        have k4 := HK.out _ J4.out.below
        have q4 := (cell_of_block (setRow_heap _ _ _ D _ _ (heap_new w3 (.cells #[.bool false, .bool false, .bool false, .bool false, .bool false, .bool false, .int .i64 0, .float .f64 0, .string ⟨#[]⟩, .int .i64 0, .int .i64 0, .int .i64 0, .bool false, .bool false, .bool false] 33))) 0).trans HD3.out
        have b5 := Lib.hid b4
        clear hb3 k2 HOW b4 E1 E2 J1 J2
        generalize (w3.alloc (.cells #[.bool false, .bool false, .bool false, .bool false, .bool false, .bool false, .int .i64 0, .float .f64 0, .string ⟨#[]⟩, .int .i64 0, .int .i64 0, .int .i64 0, .bool false, .bool false, .bool false] 33)).setRow w3.heap.size D = W4 at J4 E4 k4 q4 b5 ⊢
        generalize w3.heap.size = g4 at q4 b5 ⊢
        clear b5
        by_cases hel : elig s ∧ keyOf s ∉ a.ks
        · have e1 : (s.size : Int) ≤ 200 := by have := hel.1.1; omega
          have e2 : z < 0 := hz.2 hel.1.2
          obtain rfl : d = false := by
            cases d with
            | false => rfl
            | true => exact absurd (hD4.1 rfl).2 hel.2
          have HEL := Lib.hid hel
          clear hel hz hD4
          rcases Nat.eq_zero_or_pos n' with hn0 | hn0
          · as_aux_lemma =>
              obtain rfl := hn0
              go_upto_region 24 with (refine wpList_store_mid rfl 31 (.tmp 134) (.tmp 133) rfl db 6 #[.int .i64 3, .float .f64 (floatOfInt .f64 (j : Int)), .string ⟨#[]⟩, .int .i64 0] rfl rfl E4.out.there (by kernel_rfl) (by simp [Value.oneCell']) ?_)
              have P5 := desc_mid J4.out E4.out 3 (floatOfInt .f64 (j : Int)) ⟨#[]⟩
              have J5 := Lib.hid P5.1
              have E5 := Lib.hid P5.2
              clear P5 q4 k4 E4 J4
              generalize W4.setCells db 6 _ = W5 at J5 E5 ⊢
              generalize floatOfInt .f64 (j : Int) = X at J5 E5 ⊢
              have HDS := Lib.hid (desc_there E5.out J5.out HK.out)
              obtain ⟨k5, d0, d1, d2, d3, d4, d5, d6, d7, d8, d9, d10, d11, d12, d13, d14⟩ := HDS.out _ (Below.refl _ _)
              have HDF : Hid (∀ Y, Below W5.heap.size W5 Y → Calls Tryz.prog 10 #[.pointer (some ⟨oh, 0, none⟩), .int .i64 1, .string s, .agg #[.bool true, .bool false, .bool false, .bool true, .bool true, .bool true, .int .i64 3, .float .f64 X, .string ⟨#[]⟩, .int .i64 0, .int .i64 0, .int .i64 0, .bool true, .bool true, .bool true]] Y fun e w' => e = .returned (.int .i64 0) ∧ ∃ σ' o', Inv w w' oh σ' ∧ o'.ks = a.ks ++ [keyOf s] ∧ σ'.obs = σ.obs.set 0 o' ∧ Aside w w' σ' db (descCells 3 X ⟨#[]⟩)) :=
                Lib.hid fun Y hY => define_inv (J5.out.next hY) HT.out 0 a (by rw [HOB.out]; rfl) s hss HEL.out.1.2 HEL.out.2 hal 3 X ⟨#[]⟩ (.inr (.inl ⟨rfl, rfl⟩)) db (E5.out.next hY) 1 rfl
              clear E5 J5
              go_region_held3 (fun w' => w'.cell? ⟨b, off + j, none⟩ = some (.string s) ∧ w'.cell? ⟨db, 0, none⟩ = some (.bool true) ∧ w'.cell? ⟨db, 1, none⟩ = some (.bool false) ∧ w'.cell? ⟨db, 2, none⟩ = some (.bool false) ∧ w'.cell? ⟨db, 3, none⟩ = some (.bool true) ∧ w'.cell? ⟨db, 4, none⟩ = some (.bool true) ∧ w'.cell? ⟨db, 5, none⟩ = some (.bool true) ∧ w'.cell? ⟨db, 6, none⟩ = some (.int .i64 3) ∧ w'.cell? ⟨db, 7, none⟩ = some (.float .f64 X) ∧ w'.cell? ⟨db, 8, none⟩ = some (.string ⟨#[]⟩) ∧ w'.cell? ⟨db, 9, none⟩ = some (.int .i64 0) ∧ w'.cell? ⟨db, 10, none⟩ = some (.int .i64 0) ∧ w'.cell? ⟨db, 11, none⟩ = some (.int .i64 0) ∧ w'.cell? ⟨db, 12, none⟩ = some (.bool true) ∧ w'.cell? ⟨db, 13, none⟩ = some (.bool true) ∧ w'.cell? ⟨db, 14, none⟩ = some (.bool true)) (first | exact HDS.out _ (Below.refl _ _) | exact HDS.out _ (Below.refl _ _).drew | exact desc_there E6.out J6.out HK.out _ (Below.refl _ _) | go_keep)
                ((go_at_call 10; refine (HDF.out _ (by first | exact Below.refl _ _ | exact (Below.refl _ _).drew)).mono ?_; rintro e w6 ⟨rfl, σ6, a6, hi6, hc6, ho6, hd6⟩; have J6 := Lib.hid hi6; have HC6 := Lib.hid hc6; have HO6 := Lib.hid ho6; have E6 := Lib.hid hd6; clear hi6 hc6 ho6 hd6))
              clear k5 HDF HDS d0 d1 d2 d3 d4 d5 d6 d7 d8 d9 d10 d11 d12 d13 d14
              go_upto_region 26 with (refine wpList_store_mid rfl 31 (.tmp 144) (.tmp 143) rfl db 6 #[.int .i64 4, .float .f64 0, .string ⟨#[120]⟩, .int .i64 0] rfl rfl E6.out.there (by kernel_rfl) (by simp [Value.oneCell']) ?_)
              have P7 := desc_mid J6.out E6.out 4 0 ⟨#[120]⟩
              have J7 := Lib.hid P7.1
              have E7 := Lib.hid P7.2
              clear P7 E6 J6
              generalize w6.setCells db 6 _ = W7 at J7 E7 ⊢
              have hbl7 : bo.ks.length ≤ 1000 := by rw [HBK.out]; exact hal
              have hnb : keyOf s ∉ bo.ks := by rw [HBK.out]; exact HEL.out.2
              have HDS := Lib.hid (desc_there E7.out J7.out HK.out)
              obtain ⟨k7, d0, d1, d2, d3, d4, d5, d6, d7, d8, d9, d10, d11, d12, d13, d14⟩ := HDS.out _ (Below.refl _ _)
              have HDF : Hid (∀ Y, Below W7.heap.size W7 Y → Calls Tryz.prog 10 #[.pointer (some ⟨oh, 0, none⟩), .int .i64 2, .string s, .agg #[.bool true, .bool false, .bool false, .bool true, .bool true, .bool true, .int .i64 4, .float .f64 0, .string ⟨#[120]⟩, .int .i64 0, .int .i64 0, .int .i64 0, .bool true, .bool true, .bool true]] Y fun e w' => e = .returned (.int .i64 0) ∧ ∃ σ' o', Inv w w' oh σ' ∧ o'.ks = bo.ks ++ [keyOf s] ∧ σ'.obs = σ6.obs.set 1 o' ∧ Aside w w' σ' db (descCells 4 0 ⟨#[120]⟩)) :=
                Lib.hid fun Y hY => define_inv (J7.out.next hY) HT.out 1 bo (by rw [HO6.out, HOB.out]; rfl) s hss HEL.out.1.2 hnb hbl7 4 0 ⟨#[120]⟩ (.inr (.inr ⟨rfl, rfl, rfl⟩)) db (E7.out.next hY) 2 rfl
              clear E7 J7 hnb hbl7
              go_region_held3 (fun w' => w'.cell? ⟨b, off + j, none⟩ = some (.string s) ∧ w'.cell? ⟨db, 0, none⟩ = some (.bool true) ∧ w'.cell? ⟨db, 1, none⟩ = some (.bool false) ∧ w'.cell? ⟨db, 2, none⟩ = some (.bool false) ∧ w'.cell? ⟨db, 3, none⟩ = some (.bool true) ∧ w'.cell? ⟨db, 4, none⟩ = some (.bool true) ∧ w'.cell? ⟨db, 5, none⟩ = some (.bool true) ∧ w'.cell? ⟨db, 6, none⟩ = some (.int .i64 4) ∧ w'.cell? ⟨db, 7, none⟩ = some (.float .f64 0) ∧ w'.cell? ⟨db, 8, none⟩ = some (.string ⟨#[120]⟩) ∧ w'.cell? ⟨db, 9, none⟩ = some (.int .i64 0) ∧ w'.cell? ⟨db, 10, none⟩ = some (.int .i64 0) ∧ w'.cell? ⟨db, 11, none⟩ = some (.int .i64 0) ∧ w'.cell? ⟨db, 12, none⟩ = some (.bool true) ∧ w'.cell? ⟨db, 13, none⟩ = some (.bool true) ∧ w'.cell? ⟨db, 14, none⟩ = some (.bool true)) (first | exact HDS.out _ (Below.refl _ _) | exact HDS.out _ (Below.refl _ _).drew | exact desc_there E8.out J8.out HK.out _ (Below.refl _ _) | go_keep)
                ((go_at_call 10; refine (HDF.out _ (by first | exact Below.refl _ _ | exact (Below.refl _ _).drew)).mono ?_; rintro e w8 ⟨rfl, σ8, b8, hi8, hc8, ho8, hd8⟩; have J8 := Lib.hid hi8; have HC8 := Lib.hid hc8; have HO8 := Lib.hid ho8; have E8 := Lib.hid hd8; clear hi8 hc8 ho8 hd8))
              clear k7 HDF HDS d0 d1 d2 d3 d4 d5 d6 d7 d8 d9 d10 d11 d12 d13 d14
              have HON := Lib.hid (H1.out.take HOB.out HO6.out HO8.out HC6.out HC8.out HBK.out HCK.out HTK.out HEL.out.1 (f2 := s) (fun _ => rfl) (fun h => absurd rfl h))
              have HV8 : Hid (ValIs 4 0 ⟨#[120]⟩) := Lib.hid (.inr (.inr ⟨rfl, rfl, rfl⟩))
              go_wp2_with fail
              go_roundw
              case rel => exact ⟨j + 1, σ8, a6, _, _, 4, 0, _, by omega, rfl, rfl, by go_num, rfl, by go_num, J8, HON, E8, HV8⟩
              case measure => first | (simp [intOf]; omega) | simp [intOf]
          · as_aux_lemma =>
              have HN1 := Lib.hid hn0
              have hnj : n' ≤ j := H1.out.len.2
              go_upto_region 24 with (refine wpList_store_mid rfl 31 (.tmp 134) (.tmp 133) rfl db 6 #[.int .i64 3, .float .f64 (floatOfInt .f64 (j : Int)), .string ⟨#[]⟩, .int .i64 0] rfl rfl E4.out.there (by kernel_rfl) (by simp [Value.oneCell']) ?_)
              have P5 := desc_mid J4.out E4.out 3 (floatOfInt .f64 (j : Int)) ⟨#[]⟩
              have J5 := Lib.hid P5.1
              have E5 := Lib.hid P5.2
              clear P5 q4 k4 E4 J4
              generalize W4.setCells db 6 _ = W5 at J5 E5 ⊢
              generalize floatOfInt .f64 (j : Int) = X at J5 E5 ⊢
              have HDS := Lib.hid (desc_there E5.out J5.out HK.out)
              obtain ⟨k5, d0, d1, d2, d3, d4, d5, d6, d7, d8, d9, d10, d11, d12, d13, d14⟩ := HDS.out _ (Below.refl _ _)
              have HDF : Hid (∀ Y, Below W5.heap.size W5 Y → Calls Tryz.prog 10 #[.pointer (some ⟨oh, 0, none⟩), .int .i64 1, .string s, .agg #[.bool true, .bool false, .bool false, .bool true, .bool true, .bool true, .int .i64 3, .float .f64 X, .string ⟨#[]⟩, .int .i64 0, .int .i64 0, .int .i64 0, .bool true, .bool true, .bool true]] Y fun e w' => e = .returned (.int .i64 0) ∧ ∃ σ' o', Inv w w' oh σ' ∧ o'.ks = a.ks ++ [keyOf s] ∧ σ'.obs = σ.obs.set 0 o' ∧ Aside w w' σ' db (descCells 3 X ⟨#[]⟩)) :=
                Lib.hid fun Y hY => define_inv (J5.out.next hY) HT.out 0 a (by rw [HOB.out]; rfl) s hss HEL.out.1.2 HEL.out.2 hal 3 X ⟨#[]⟩ (.inr (.inl ⟨rfl, rfl⟩)) db (E5.out.next hY) 1 rfl
              clear E5 J5
              go_region_held3 (fun w' => w'.cell? ⟨b, off + j, none⟩ = some (.string s) ∧ w'.cell? ⟨db, 0, none⟩ = some (.bool true) ∧ w'.cell? ⟨db, 1, none⟩ = some (.bool false) ∧ w'.cell? ⟨db, 2, none⟩ = some (.bool false) ∧ w'.cell? ⟨db, 3, none⟩ = some (.bool true) ∧ w'.cell? ⟨db, 4, none⟩ = some (.bool true) ∧ w'.cell? ⟨db, 5, none⟩ = some (.bool true) ∧ w'.cell? ⟨db, 6, none⟩ = some (.int .i64 3) ∧ w'.cell? ⟨db, 7, none⟩ = some (.float .f64 X) ∧ w'.cell? ⟨db, 8, none⟩ = some (.string ⟨#[]⟩) ∧ w'.cell? ⟨db, 9, none⟩ = some (.int .i64 0) ∧ w'.cell? ⟨db, 10, none⟩ = some (.int .i64 0) ∧ w'.cell? ⟨db, 11, none⟩ = some (.int .i64 0) ∧ w'.cell? ⟨db, 12, none⟩ = some (.bool true) ∧ w'.cell? ⟨db, 13, none⟩ = some (.bool true) ∧ w'.cell? ⟨db, 14, none⟩ = some (.bool true)) (first | exact HDS.out _ (Below.refl _ _) | exact HDS.out _ (Below.refl _ _).drew | exact desc_there E6.out J6.out HK.out _ (Below.refl _ _) | go_keep)
                ((go_at_call 10; refine (HDF.out _ (by first | exact Below.refl _ _ | exact (Below.refl _ _).drew)).mono ?_; rintro e w6 ⟨rfl, σ6, a6, hi6, hc6, ho6, hd6⟩; have J6 := Lib.hid hi6; have HC6 := Lib.hid hc6; have HO6 := Lib.hid ho6; have E6 := Lib.hid hd6; clear hi6 hc6 ho6 hd6))
              clear k5 HDF HDS d0 d1 d2 d3 d4 d5 d6 d7 d8 d9 d10 d11 d12 d13 d14
              go_upto_region 26 with (refine wpList_store_mid rfl 31 (.tmp 144) (.tmp 143) rfl db 6 #[.int .i64 4, .float .f64 0, .string ⟨#[120]⟩, .int .i64 0] rfl rfl E6.out.there (by kernel_rfl) (by simp [Value.oneCell']) ?_)
              have P7 := desc_mid J6.out E6.out 4 0 ⟨#[120]⟩
              have J7 := Lib.hid P7.1
              have E7 := Lib.hid P7.2
              clear P7 E6 J6
              generalize w6.setCells db 6 _ = W7 at J7 E7 ⊢
              have hbl7 : bo.ks.length ≤ 1000 := by rw [HBK.out]; exact hal
              have hnb : keyOf s ∉ bo.ks := by rw [HBK.out]; exact HEL.out.2
              have HDS := Lib.hid (desc_there E7.out J7.out HK.out)
              obtain ⟨k7, d0, d1, d2, d3, d4, d5, d6, d7, d8, d9, d10, d11, d12, d13, d14⟩ := HDS.out _ (Below.refl _ _)
              have HDF : Hid (∀ Y, Below W7.heap.size W7 Y → Calls Tryz.prog 10 #[.pointer (some ⟨oh, 0, none⟩), .int .i64 2, .string s, .agg #[.bool true, .bool false, .bool false, .bool true, .bool true, .bool true, .int .i64 4, .float .f64 0, .string ⟨#[120]⟩, .int .i64 0, .int .i64 0, .int .i64 0, .bool true, .bool true, .bool true]] Y fun e w' => e = .returned (.int .i64 0) ∧ ∃ σ' o', Inv w w' oh σ' ∧ o'.ks = bo.ks ++ [keyOf s] ∧ σ'.obs = σ6.obs.set 1 o' ∧ Aside w w' σ' db (descCells 4 0 ⟨#[120]⟩)) :=
                Lib.hid fun Y hY => define_inv (J7.out.next hY) HT.out 1 bo (by rw [HO6.out, HOB.out]; rfl) s hss HEL.out.1.2 hnb hbl7 4 0 ⟨#[120]⟩ (.inr (.inr ⟨rfl, rfl, rfl⟩)) db (E7.out.next hY) 2 rfl
              clear E7 J7 hnb hbl7
              go_region_held3 (fun w' => w'.cell? ⟨b, off + j, none⟩ = some (.string s) ∧ w'.cell? ⟨db, 0, none⟩ = some (.bool true) ∧ w'.cell? ⟨db, 1, none⟩ = some (.bool false) ∧ w'.cell? ⟨db, 2, none⟩ = some (.bool false) ∧ w'.cell? ⟨db, 3, none⟩ = some (.bool true) ∧ w'.cell? ⟨db, 4, none⟩ = some (.bool true) ∧ w'.cell? ⟨db, 5, none⟩ = some (.bool true) ∧ w'.cell? ⟨db, 6, none⟩ = some (.int .i64 4) ∧ w'.cell? ⟨db, 7, none⟩ = some (.float .f64 0) ∧ w'.cell? ⟨db, 8, none⟩ = some (.string ⟨#[120]⟩) ∧ w'.cell? ⟨db, 9, none⟩ = some (.int .i64 0) ∧ w'.cell? ⟨db, 10, none⟩ = some (.int .i64 0) ∧ w'.cell? ⟨db, 11, none⟩ = some (.int .i64 0) ∧ w'.cell? ⟨db, 12, none⟩ = some (.bool true) ∧ w'.cell? ⟨db, 13, none⟩ = some (.bool true) ∧ w'.cell? ⟨db, 14, none⟩ = some (.bool true)) (first | exact HDS.out _ (Below.refl _ _) | exact HDS.out _ (Below.refl _ _).drew | exact desc_there E8.out J8.out HK.out _ (Below.refl _ _) | go_keep)
                ((go_at_call 10; refine (HDF.out _ (by first | exact Below.refl _ _ | exact (Below.refl _ _).drew)).mono ?_; rintro e w8 ⟨rfl, σ8, b8, hi8, hc8, ho8, hd8⟩; have J8 := Lib.hid hi8; have HC8 := Lib.hid hc8; have HO8 := Lib.hid ho8; have E8 := Lib.hid hd8; clear hi8 hc8 ho8 hd8))
              clear k7 HDF HDS d0 d1 d2 d3 d4 d5 d6 d7 d8 d9 d10 d11 d12 d13 d14
              have HON := Lib.hid (H1.out.take HOB.out HO6.out HO8.out HC6.out HC8.out HBK.out HCK.out HTK.out HEL.out.1 (f2 := f') (fun h => absurd h (Nat.ne_of_gt HN1.out)) (fun _ => rfl))
              have HV8 : Hid (ValIs 4 0 ⟨#[120]⟩) := Lib.hid (.inr (.inr ⟨rfl, rfl, rfl⟩))
              go_wp2_with fail
              go_roundw
              case rel => exact ⟨j + 1, σ8, a6, _, _, 4, 0, _, by omega, rfl, rfl, by go_num, rfl, by go_num, J8, HON, E8, HV8⟩
              case measure => first | (simp [intOf]; omega) | simp [intOf]
        · as_aux_lemma =>
            have HSK : Hid (One σ K (j + 1) a n' f') := Lib.hid ⟨H1.out.obs, by rw [HTK.out]; exact H1.out.takes.skip hel, ⟨H1.out.len.1, by have := H1.out.len.2; omega⟩, H1.out.first⟩
            have h3 : 200 < s.size ∨ 0 ≤ z ∨ d = true := by
              by_cases e1 : 200 < s.size
              · exact .inl e1
              by_cases e2 : 0 ≤ z
              · exact .inr (.inl e2)
              refine .inr (.inr (hD4.2 ?_))
              have e3 := hz.1 (by omega)
              refine ⟨e3, Classical.byContradiction fun e4 => hel ⟨⟨by omega, e3⟩, e4⟩⟩
            clear hel hz hD4
            by_cases e1 : 200 < s.size
            · have e1' : (200 : Int) < (s.size : Int) := by omega
              go_wp2_with fail
              go_roundw
              case rel => exact ⟨j + 1, σ, a, n', f', kz, num, txt, by omega, rfl, rfl, rfl, rfl, by go_num, J4, HSK, E4, HV⟩
              case measure => first | (simp [intOf]; omega) | simp [intOf]
            have e1' : (s.size : Int) ≤ 200 := by omega
            by_cases e2 : 0 ≤ z
            · go_wp2_with fail
              go_roundw
              case rel => exact ⟨j + 1, σ, a, n', f', kz, num, txt, by omega, rfl, rfl, rfl, rfl, by go_num, J4, HSK, E4, HV⟩
              case measure => first | (simp [intOf]; omega) | simp [intOf]
            have e2' : z < 0 := by omega
            obtain rfl : d = true := by
              rcases h3 with h3 | h3 | h3
              · omega
              · omega
              · exact h3
            go_wp2_with fail
            go_roundw
            case rel => exact ⟨j + 1, σ, a, n', f', kz, num, txt, by omega, rfl, rfl, rfl, rfl, by go_num, J4, HSK, E4, HV⟩
            case measure => first | (simp [intOf]; omega) | simp [intOf]
    · as_aux_lemma =>
        obtain rfl : j = K.length := by omega
        clear hlt
        obtain ⟨c0, hT0⟩ := H1.out.start
        have HT0 := Lib.hid hT0
        obtain ⟨bo, co, hob, hbk, hck⟩ := H1.out.obs
        have HSM := Lib.hid (same_law HI.out 0 1 a bo (by rw [hob]; rfl) (by rw [hob]; rfl) 1 2 rfl rfl true (by simp [hbk]))
        clear hob hbk hck H1 hT0
        go_upto_region 30 with (go_at_call 6; refine HSM.out.mono ?_; rintro e w1 ⟨rfl, hb1⟩)
        have J1 := Lib.hid (HI.out.next hb1)
        have E1 := Lib.hid (HD.out.next hb1)
        clear HSM hb1 HI HD
        go_wp2_with fail
        go_loopw [21] (fun i wr => ∃ (j : Nat) (iv : Int) (σ : Sig) (c : Ob), j ≤ K.length ∧ iv = (j : Int) - 1 ∧ i = .int .i64 iv ∧ Hid (Inv w wr oh σ) ∧ Hid (Two σ K j a c n' f') ∧ Hid (Aside w wr σ db (descCells kz num txt))) (fun i _ => (intOf i + 1).toNat)
        case atStart => exact ⟨K.length, _, σ, c0, Nat.le_refl _, rfl, rfl, J1, HT0, E1⟩
        case round =>
          clear J1 E1 HT0
          obtain ⟨j, iv, σ, c, hj, hiv, rfl, HI, H2, HD⟩ := hrel
          by_cases hlt : 0 < j
          · as_aux_lemma =>
              obtain ⟨j, rfl⟩ : ∃ i, j = i + 1 := ⟨j - 1, by omega⟩
              obtain rfl : iv = (j : Int) := by omega
              clear hiv hlt
              have hjl : j < K.length := by omega
              obtain ⟨s, hs⟩ : ∃ s, K[j]? = some s := ⟨_, List.getElem?_eq_getElem hjl⟩
              obtain ⟨ha0, hbl⟩ := HA.out (by omega)
              subst ha0
              have HK : Hid (∀ X, Below w.heap.size w X → X.cell? ⟨b, off + j, none⟩ = some (.string s)) := Lib.hid fun X hX => (hX.cell (p := ⟨b, off + j, none⟩) hbl).trans (HC.out j s hs)
              have k0 := HK.out _ HI.out.below
              have hss := HS.out s (List.mem_of_getElem? hs)
              have HP := Lib.hid (p_inv HI.out HT.out s hss)
              have HSJ := Lib.hid hs
              obtain ⟨bo, hob⟩ := H2.out.obs
              have HOB := Lib.hid hob
              have hcl : c.ks.length ≤ 1000 := by have := H2.out.lenc; omega
              clear hob hs
              go_upto_region 34 with (go_at_call 7; refine HP.out.mono ?_; rintro e w1 ⟨p, rfl, hb1, hix⟩; have HX := Lib.hid hix; clear hix)
              have J1 := Lib.hid (HI.out.next hb1)
              have E1 := Lib.hid (HD.out.next hb1)
              clear hb1 HP
              go_upto_region 35 with (go_at_call 8; refine (HX.out _).mono ?_; rintro e w2 ⟨z, rfl, hz, hb2⟩)
              have J2 := Lib.hid (J1.out.next hb2)
              have E2 := Lib.hid (E1.out.next hb2)
              have k2 := HK.out _ J2.out.below
              have HOW := Lib.hid (own_inv J2.out HT.out 2 c (by rw [HOB.out]; rfl) s hss hcl 3 rfl)
              clear hb2 k0
              go_upto_region 36 with (first
                | (go_at_call 9; refine HOW.out.mono ?_; rintro e w3 ⟨⟨D, bb, d, rfl, hD1, hD2, hD3, hD4⟩, hb3⟩; have HD1 := Lib.hid hD1; have HD2 := Lib.hid hD2; have HD3 := Lib.hid hD3; clear hD1 hD2 hD3)
                | (refine wpList_store_row rfl 33 (.tmp 24) (.tmp 185) rfl w3.heap.size _ rfl rfl 33 _ (heap_new _ _) (by rw [HD1.out]; kernel_rfl) (by rw [HD1.out]; rfl) HD2.out ?_))
              have b4 : Below w3.heap.size w3 ((w3.alloc (.cells #[.bool false, .bool false, .bool false, .bool false, .bool false, .bool false, .int .i64 0, .float .f64 0, .string ⟨#[]⟩, .int .i64 0, .int .i64 0, .int .i64 0, .bool false, .bool false, .bool false] 33)).setRow w3.heap.size D) := below_setRow ((Below.refl _ w3).alloc (Nat.le_refl _) _) (Nat.le_refl _) D
              have J4 := Lib.hid ((J2.out.next hb3).next b4)
              have E4 := Lib.hid ((E2.out.next hb3).next b4)
              have k4 := HK.out _ J4.out.below
              have q4 := (cell_of_block (setRow_heap _ _ _ D _ _ (heap_new w3 (.cells #[.bool false, .bool false, .bool false, .bool false, .bool false, .bool false, .int .i64 0, .float .f64 0, .string ⟨#[]⟩, .int .i64 0, .int .i64 0, .int .i64 0, .bool false, .bool false, .bool false] 33))) 0).trans HD3.out
              have b5 := Lib.hid b4
              clear hb3 k2 HOW b4 E1 E2 J1 J2
              generalize (w3.alloc (.cells #[.bool false, .bool false, .bool false, .bool false, .bool false, .bool false, .int .i64 0, .float .f64 0, .string ⟨#[]⟩, .int .i64 0, .int .i64 0, .int .i64 0, .bool false, .bool false, .bool false] 33)).setRow w3.heap.size D = W4 at J4 E4 k4 q4 b5 ⊢
              generalize w3.heap.size = g4 at q4 b5 ⊢
              clear b5
              by_cases hel : elig s ∧ keyOf s ∉ c.ks
              · as_aux_lemma =>
                  have e1 : (s.size : Int) ≤ 200 := by have := hel.1.1; omega
                  have e2 : z < 0 := hz.2 hel.1.2
                  obtain rfl : d = false := by
                    cases d with
                    | false => rfl
                    | true => exact absurd (hD4.1 rfl).2 hel.2
                  have HEL := Lib.hid hel
                  clear hel hz hD4
                  go_upto_region 37 with fail
                  have HDS := Lib.hid (desc_there E4.out J4.out HK.out)
                  clear k4 q4
                  obtain ⟨k4, d0, d1, d2, d3, d4, d5, d6, d7, d8, d9, d10, d11, d12, d13, d14⟩ := HDS.out _ (Below.refl _ _)
                  have HDF : Hid (∀ X, Below W4.heap.size W4 X → Calls Tryz.prog 10 #[.pointer (some ⟨oh, 0, none⟩), .int .i64 3, .string s, .agg #[.bool true, .bool false, .bool false, .bool true, .bool true, .bool true, .int .i64 kz, .float .f64 num, .string txt, .int .i64 0, .int .i64 0, .int .i64 0, .bool true, .bool true, .bool true]] X fun e w' => e = .returned (.int .i64 0) ∧ ∃ σ' o', Inv w w' oh σ' ∧ o'.ks = c.ks ++ [keyOf s] ∧ σ'.obs = σ.obs.set 2 o' ∧ Aside w w' σ' db (descCells kz num txt)) :=
                    Lib.hid fun X hX => define_inv (J4.out.next hX) HT.out 2 c (by rw [HOB.out]; rfl) s hss HEL.out.1.2 HEL.out.2 hcl kz num txt HV.out db (E4.out.next hX) 3 rfl
                  clear E4 J4
                  go_region_held3 (fun w' => w'.cell? ⟨b, off + j, none⟩ = some (.string s) ∧ w'.cell? ⟨db, 0, none⟩ = some (.bool true) ∧ w'.cell? ⟨db, 1, none⟩ = some (.bool false) ∧ w'.cell? ⟨db, 2, none⟩ = some (.bool false) ∧ w'.cell? ⟨db, 3, none⟩ = some (.bool true) ∧ w'.cell? ⟨db, 4, none⟩ = some (.bool true) ∧ w'.cell? ⟨db, 5, none⟩ = some (.bool true) ∧ w'.cell? ⟨db, 6, none⟩ = some (.int .i64 kz) ∧ w'.cell? ⟨db, 7, none⟩ = some (.float .f64 num) ∧ w'.cell? ⟨db, 8, none⟩ = some (.string txt) ∧ w'.cell? ⟨db, 9, none⟩ = some (.int .i64 0) ∧ w'.cell? ⟨db, 10, none⟩ = some (.int .i64 0) ∧ w'.cell? ⟨db, 11, none⟩ = some (.int .i64 0) ∧ w'.cell? ⟨db, 12, none⟩ = some (.bool true) ∧ w'.cell? ⟨db, 13, none⟩ = some (.bool true) ∧ w'.cell? ⟨db, 14, none⟩ = some (.bool true)) (first | exact HDS.out _ (Below.refl _ _) | exact HDS.out _ (Below.refl _ _).drew | exact desc_there E6.out J6.out HK.out _ (Below.refl _ _) | go_keep)
                    ((go_at_call 10; refine (HDF.out _ (by first | exact Below.refl _ _ | exact (Below.refl _ _).drew)).mono ?_; rintro e w6 ⟨rfl, σ6, c6, hi6, hc6, ho6, hd6⟩; have J6 := Lib.hid hi6; have HC6 := Lib.hid hc6; have HO6 := Lib.hid ho6; have E6 := Lib.hid hd6; clear hi6 hc6 ho6 hd6))
                  have HT6 := Lib.hid (H2.out.take HSJ.out HEL.out.1 HO6.out HC6.out)
                  clear k4 HDF HDS d0 d1 d2 d3 d4 d5 d6 d7 d8 d9 d10 d11 d12 d13 d14
                  go_wp2_with fail
                  go_roundw
                  case rel => exact ⟨j, _, σ6, c6, by omega, rfl, rfl, J6, HT6, E6⟩
                  case measure => first | (simp [intOf]; omega) | simp [intOf]
              · as_aux_lemma =>
                  have HSK := Lib.hid (H2.out.skip HSJ.out hel)
                  have h3 : 200 < s.size ∨ 0 ≤ z ∨ d = true := by
                    by_cases e1 : 200 < s.size
                    · exact .inl e1
                    by_cases e2 : 0 ≤ z
                    · exact .inr (.inl e2)
                    refine .inr (.inr (hD4.2 ?_))
                    have e3 := hz.1 (by omega)
                    refine ⟨e3, Classical.byContradiction fun e4 => hel ⟨⟨by omega, e3⟩, e4⟩⟩
                  clear hel hz hD4
                  by_cases e1 : 200 < s.size
                  · have e1' : (200 : Int) < (s.size : Int) := by omega
                    go_wp2_with fail
                    go_roundw
                    case rel => exact ⟨j, _, σ, c, by omega, rfl, rfl, J4, HSK, E4⟩
                    case measure => first | (simp [intOf]; omega) | simp [intOf]
                  have e1' : (s.size : Int) ≤ 200 := by omega
                  by_cases e2 : 0 ≤ z
                  · go_wp2_with fail
                    go_roundw
                    case rel => exact ⟨j, _, σ, c, by omega, rfl, rfl, J4, HSK, E4⟩
                    case measure => first | (simp [intOf]; omega) | simp [intOf]
                  have e2' : z < 0 := by omega
                  obtain rfl : d = true := by
                    rcases h3 with h3 | h3 | h3
                    · omega
                    · omega
                    · exact h3
                  go_wp2_with fail
                  go_roundw
                  case rel => exact ⟨j, _, σ, c, by omega, rfl, rfl, J4, HSK, E4⟩
                  case measure => first | (simp [intOf]; omega) | simp [intOf]
          · as_aux_lemma =>
              obtain rfl : j = 0 := by omega
              obtain rfl : iv = -1 := by omega
              clear hiv hlt HD HV
              have hcn := H2.out.same HI.out
              have han := H2.out.len
              have HEA := Lib.hid H2.out.takesA.even
              have HEC := Lib.hid (by have h := H2.out.takes.even; exact h)
              obtain ⟨bo, hob⟩ := H2.out.obs
              have HOB := Lib.hid hob
              obtain ⟨t, ht⟩ : ∃ t, decide (a.ks = c.ks) = t := ⟨_, rfl⟩
              have HTT : Hid (eqUp a.ks c.ks n' = t) := Lib.hid ((eqUp_all han.1 hcn).trans ht)
              have HS2 := Lib.hid (same_law HI.out 0 2 a c (by rw [hob]; rfl) (by rw [hob]; rfl) 1 3 rfl rfl t ht)
              have HCN := Lib.hid hcn
              have HAN := Lib.hid han.1
              have hn40 : n' ≤ 40 := by omega
              clear hcn han hob ht
              go_upto_region 41 with (go_at_call 6; refine HS2.out.mono ?_; rintro e w2 ⟨rfl, hb2⟩)
              have J2 := Lib.hid (HI.out.next hb2)
              have HK1 := Lib.hid (keys_n J2.out 0 a (by rw [HOB.out]; rfl) n' HAN.out (by omega) HEA.out 1 rfl)
              clear hb2 HS2 HI
              go_upto_region 42 with (go_at_call 11; refine HK1.out.mono ?_; rintro e w3 ⟨A1, C1, rfl, hk1, hb3⟩)
              have L1 := Lib.hid hk1
              have J3 := Lib.hid (J2.out.next hb3)
              have HK2 := Lib.hid (keys_n J3.out 2 c (by rw [HOB.out]; rfl) n' HCN.out (by omega) HEC.out 3 rfl)
              clear hb3 HK1 J2 hk1
              go_upto_region 43 with (go_at_call 11; refine HK2.out.mono ?_; rintro e w4 ⟨A2, C2, rfl, hk2, hb4⟩)
              have L2 := Lib.hid hk2
              have J4 := Lib.hid (J3.out.next hb4)
              have B4 := Lib.hid hb4
              clear hb4 HK2 J3 hk2
              go_wp2_with fail
              go_loopw [29, 30] (fun o i wr => ∃ (k : Nat) (q : Bool), k ≤ n' ∧ i = .int .i64 k ∧ o = .bool q ∧ Hid (eqUp a.ks c.ks k = q) ∧ Hid (Below w4.heap.size w4 wr)) (fun _ i _ => n' - (intOf i).toNat)
              case atStart => exact ⟨0, true, Nat.zero_le _, rfl, rfl, Lib.hid (eqUp_zero _ _), Lib.hid (Below.refl _ _)⟩
              case round =>
                obtain ⟨k, q, hk, rfl, rfl, HQ, HB⟩ := hrel
                by_cases hlt : k < n'
                · as_aux_lemma =>
                    obtain ⟨g1, h1, h2, h3⟩ := L1.out (by omega)
                    obtain ⟨g2, h4, h5, h6⟩ := L2.out (by omega)
                    obtain ⟨y1, hy1⟩ : ∃ y, a.ks[k]? = some y := ⟨_, List.getElem?_eq_getElem (by rw [HAN.out]; exact hlt)⟩
                    obtain ⟨y2, hy2⟩ : ∃ y, c.ks[k]? = some y := ⟨_, List.getElem?_eq_getElem (by rw [HCN.out]; exact hlt)⟩
                    subst h1 h4
                    have l1 : g1 < w4.heap.size := Nat.lt_of_lt_of_le h2 B4.out.size
                    have c1 : wr.cell? ⟨g1, k, none⟩ = some (.string (showK y1)) := (HB.out.cell (p := ⟨g1, k, none⟩) l1).trans ((B4.out.cell (p := ⟨g1, k, none⟩) h2).trans (h3 k y1 hy1))
                    have c2 : wr.cell? ⟨g2, k, none⟩ = some (.string (showK y2)) := (HB.out.cell (p := ⟨g2, k, none⟩) h5).trans (h6 k y2 hy2)
                    have HST := Lib.hid (eqUp_step hy1 hy2)
                    have HSH := Lib.hid (shown_same (HEA.out y1 (List.mem_of_getElem? hy1)) (HEC.out y2 (List.mem_of_getElem? hy2)))
                    clear h2 h3 h5 h6 hy1 hy2 l1
                    generalize showK y1 = z1 at c1 HSH
                    generalize showK y2 = z2 at c2 HSH
                    cases q with
                    | true =>
                      go_upto_region 47 with fail
                      go_quiet (fail)
                      go_wp2_with fail
                      go_roundw
                      case rel => exact ⟨k + 1, _, by omega, by go_num, rfl, Lib.hid (by rw [HST.out, HQ.out, shown_beq HSH.out]; rfl), Lib.hid (below_dn HB.out _)⟩
                      case measure => first | (simp [intOf]; omega) | simp [intOf]
                    | false =>
                      go_upto_region 47 with fail
                      go_quiet (fail)
                      go_wp2_with fail
                      go_roundw
                      case rel => exact ⟨k + 1, false, by omega, by go_num, rfl, Lib.hid (by rw [HST.out, HQ.out]; rfl), Lib.hid (below_dn HB.out _)⟩
                      case measure => first | (simp [intOf]; omega) | simp [intOf]
                · as_aux_lemma =>
                    obtain rfl : k = n' := by omega
                    obtain rfl : t = q := HTT.out.symm.trans HQ.out
                    have J5 := Lib.hid (J4.out.next HB.out)
                    have HP := Lib.hid (pick_any x wr hx0 hx1)
                    clear hlt hk HQ HB HTT J4 B4 L1 L2
                    rcases Nat.eq_zero_or_pos k with hk0 | hk0
                    · obtain rfl := hk0
                      cases t <;> (go_wp2_with fail; go_ret; exact ⟨rfl, J5.out.below⟩)
                    · obtain ⟨r, hr, hel⟩ : ∃ r, a.ks = keyOf f' :: r ∧ elig f' := by
                        rcases H2.out.first with h | h
                        · omega
                        · exact h
                      have HDL := Lib.hid (delete_inv J5.out HT.out a (by rw [HOB.out]; rfl) f' (by have := hel.1; omega) hel.2 r hr (by have := HAN.out; omega) (by rw [HOB.out]; simp))
                      clear hr hel
                      cases t <;> (
                        go_wp2_with (first
                          | (go_at_call 12; refine HP.out.mono ?_; rintro e w' ⟨⟨q, rfl⟩, rfl⟩)
                          | (go_at_call 13; refine HDL.out.mono ?_; rintro e w7 ⟨rfl, hb7, hs7⟩; have HS7 := Lib.hid hs7; have B7 := Lib.hid hb7; clear hs7 hb7)
                          | (go_at_call 6; refine HS7.out.mono ?_; rintro e w8 ⟨rfl, hb8⟩))
                        all_goals go_ret
                        all_goals first
                          | exact ⟨rfl, J5.out.below⟩
                          | exact ⟨rfl, B7.out.trans (hb8.mono B7.out.size)⟩)
end Go.Proofs.YtlacgdnidilndaaGreatDoor
