/- Units packed: contracts of units.Pack, ecmacoreref1.Pack, units.Of. -/
import Derived.Test.YtlacgdnidilndaaGreatDoorUnits
import Derived.Laws.IdiomStrings
import Derived.Laws.BytesArg
namespace Go.Proofs.YtlacgdnidilndaaGreatDoor
open Go.RowKit
open Go.Proofs (Tryz.prog)

def u8s (l : List UInt8) : List Value := l.map fun b : UInt8 => Value.int .u8 (b.toNat : Int)
theorem u8s_append (l m : List UInt8) : u8s (l ++ m) = u8s l ++ u8s m := by simp [u8s]
theorem u8s_length (l : List UInt8) : (u8s l).length = l.length := by simp [u8s]

theorem row_string {wr : World} {B : Nat} {v : Value} {L : List UInt8} (hown : wr.ownsRow B 5 1 v L.length (u8s L)) (src dst : TypeId) (hs : Tryz.prog.underlying src = some (.slice 5)) (hd : Tryz.prog.underlying dst = some .string) :
    (convert src dst v).run Tryz.prog wr = .ok (.string ⟨L.toArray⟩) wr := by
  rcases hown.2 with ⟨rfl, h0⟩ | ⟨g, cap, cur, rfl, hb, hg, hn, hm, hz, ht⟩
  · rw [run_convert_bytes_nil wr src 5 hs Tryz.underlying5 0 0 dst hd, List.eq_nil_of_length_eq_zero h0]
    rfl
  · refine run_convert_bytes_back wr src dst 5 ⟨g, 0, none⟩ cap L hs Tryz.underlying5 hd fun j hj => ?_
    refine hown.cells (g := g) rfl j _ ?_
    simp [u8s, List.getElem?_eq_getElem hj]

theorem pack_take (l : List Nat) (k u : Nat) (h : l[k]? = some u) : pack (l.take (k + 1)) = pack (l.take k) ++ [UInt8.ofNat (u / 256), UInt8.ofNat (u % 256)] := by
  rw [List.take_add_one, h, pack_append]; rfl
theorem u8s_pair (u : Nat) (h : u < 65536) : u8s [UInt8.ofNat (u / 256), UInt8.ofNat (u % 256)] = [.int .u8 ((u : Int) / 256), .int .u8 ((u : Int) % 256)] := by
  have e1 : ((UInt8.ofNat (u / 256)).toNat : Int) = (u : Int) / 256 := by simp [UInt8.toNat_ofNat']; omega
  have e2 : ((UInt8.ofNat (u % 256)).toNat : Int) = (u : Int) % 256 := by simp [UInt8.toNat_ofNat']
  simp only [u8s, List.map_cons, List.map_nil, e1, e2]

set_option maxHeartbeats 1000000 in
set_option maxRecDepth 100000 in
theorem pack_any (g cap : Nat) (l : List Nat) (w : World) (hl : l.length ≤ 2097152) (hu : ∀ u ∈ l, u < 65536) (hc : ∀ (j u : Nat), l[j]? = some u → w.cell? ⟨g, j, none⟩ = some (.int .u16 (u : Int))) (hg : g < w.heap.size) :
    Calls Tryz.prog 39 #[.slice (some ⟨g, 0, none⟩) l.length cap] w fun e w' => e = .returned (.string ⟨(pack l).toArray⟩) ∧ Below w.heap.size w w' := by
  obtain ⟨i0, hi, hz0, hz1, hz2⟩ := info_parts info5
  have HC := Lib.hid hc
  have HU := Lib.hid hu
  clear hc hu
  obtain ⟨wm, hmk, hown0, hg0⟩ := run_make_own (P := Tryz.prog) (w := w) w.heap.size 98 5 i0 (.int .u8 0) 1 Tryz.underlying98 hi hz0 hz1 .i64 .i64 (2 * l.length) (by rw [hz2]; omega) (by unfold maxLen; omega) (Nat.le_refl _)
  rw [Int.natCast_mul] at hmk
  have hmk' : (Instr.makeSlice 98 (.int .i64 0) (.int .i64 (2 * (l.length : Int)))).run Tryz.prog w = .ok (.slice (some ⟨w.heap.size, 0, none⟩) 0 (2 * l.length)) wm := hmk
  have hBm : Below w.heap.size w wm := (Below.refl _ w).grown hg0 (Nat.le_refl _) (by intro k hk; cases hk)
  clear hmk hg0
  go_enter Tryz.func39, Tryz.ntmps39
  go_wp2
  clear hmk'
  go_loopw [3, 12] (fun v i wr => ∃ k : Nat, k ≤ l.length ∧ i = .int .i64 k ∧ wr.ownsRow w.heap.size 5 1 v (2 * k) (u8s (pack (l.take k))) ∧ Below w.heap.size w wr)
    (fun _ i _ => l.length - (intOf i).toNat)
  case atStart => exact ⟨0, Nat.zero_le _, rfl, hown0, hBm⟩
  case round =>
    obtain ⟨k, hk, rfl, hown, hB⟩ := hrel
    by_cases hlt : k < l.length
    · obtain ⟨u, hu⟩ : ∃ u, l[k]? = some u := ⟨l[k], List.getElem?_eq_getElem hlt⟩
      have hcell : wr.cell? ⟨g, k, none⟩ = some (.int .u16 (u : Int)) := (hB.cell (p := ⟨g, k, none⟩) hg).trans (HC.out k u hu)
      have hu2 : (u : Int) < 65536 := by have := HU.out u (List.mem_of_getElem? hu); omega
      have Hu := Lib.hid hu
      clear hu
      go_wp2_with (at_builtin; (refine wpList_append_lies _ rfl (.tmp 16) (.tmp 22) 98 rfl w.heap.size 5 i0 (.int .u8 0) 1 1 Tryz.underlying98 hi hz0 hz1 hz2 rfl (by decide) _ _ _ rfl (hown.alloc _) ⟨wr.heap.size, 0, none⟩ 2 2 _ rfl ?c1 (World.news_of_block (heap_alloc_new _ _)) ?c2 (by decide) ?c3 ?c4 ?c5 _ rfl ?_))
      case c2 => exact ⟨rfl, rfl⟩
      case c3 => unfold maxLen; omega
      case c4 => omega
      case c5 => have := hB.size; simp; omega
      intro g' cap' w2 hown2 hgr2 hat2 hlt2
      go_wp2
      go_roundw
      case rel =>
        refine ⟨k + 1, by omega, by go_num, ?_, ((hB.alloc hB.size _).grown hgr2 (by have := hB.size; simp; omega) (fun k hk => (hown.lt k hk).1))⟩
        rw [pack_take _ _ _ Hu.out, u8s_append, u8s_pair _ (by omega)]
        exact hown2
      case measure => simp [intOf]; omega
    · have hk2 : k = l.length := by omega
      have hcv := row_string (L := pack l) (by rw [hk2, List.take_length, ← pack_length] at hown; exact hown) 98 62 Tryz.underlying98 Tryz.underlying62
      go_wp2
      go_ret
      exact ⟨rfl, hB⟩

theorem widen_get : ∀ (l : List UInt8) (j : Nat), j < 2 * l.length → (widen l)[j]? = some (if j % 2 = 1 then l.getD (j / 2) 0 else 0)
  | [], j, h => by simp at h
  | b :: l, 0, _ => by simp [widen]
  | b :: l, 1, _ => by simp [widen]
  | b :: l, j + 2, h => by
    have e : widen (b :: l) = 0 :: b :: widen l := by simp [widen]
    rw [e, List.getElem?_cons_succ, List.getElem?_cons_succ, widen_get l j (by simp at h; omega)]
    have e1 : (j + 2) % 2 = j % 2 := by omega
    have e2 : (j + 2) / 2 = j / 2 + 1 := by omega
    rw [e1, e2, List.getD_cons_succ]
/-- The row of bytes of a key behind k rounds. -/
def wid (s : ByteArray) (k j : Nat) : Int := if j % 2 = 1 ∧ j / 2 < k then ((s.data.toList.getD (j / 2) 0).toNat : Int) else 0

set_option maxHeartbeats 1000000 in
set_option maxRecDepth 100000 in
theorem of_ascii (s : ByteArray) (w : World) (hs : s.size ≤ 2097152) (ha : ∀ i (h : i < s.size), s[i].toNat < 128) :
    Calls Tryz.prog 25 #[.string s] w fun e w' => e = .returned (.string ⟨(widen s.data.toList).toArray⟩) ∧ Below w.heap.size w w' := by
  obtain ⟨i0, hi, hz0, hz1, hz2⟩ := info_parts info5
  have HA := Lib.hid ha
  clear ha
  have hmk := run_make (P := Tryz.prog) (w := w) 98 5 i0 (.int .u8 0) Tryz.underlying98 hi hz0 .i64 .i64 (2 * (s.size : Int)) (2 * (s.size : Int)) (by omega) (by omega) (by rw [hz2]; omega) (by omega)
  rw [hz1, show (2 * (s.size : Int)).toNat = 2 * s.size by omega, Nat.mul_one] at hmk
  obtain ⟨C, hC⟩ : ∃ C, C = madeCells (Value.cells (.int .u8 0)) (2 * s.size) := ⟨_, rfl⟩
  have hCs : C.size = 2 * s.size ∧ ∀ j, j < 2 * s.size → C[j]? = some (.int .u8 0) := by
    rw [hC]
    refine ⟨size_madeCells _ _, fun j hj => ?_⟩
    simp [madeCells, Value.cells, hj, Nat.mod_one]
  rw [← hC] at hmk
  have HCs := Lib.hid hCs
  clear hCs hC
  go_enter Tryz.func25, Tryz.ntmps25
  go_wp2
  go_loop [3] (fun i => ∃ k : Nat, k ≤ s.size ∧ i = .int .i64 k) (fun i => s.size - (intOf i).toNat)
  case atStart => exact ⟨0, Nat.zero_le _, rfl⟩
  case round =>
    obtain ⟨k, hk, rfl⟩ := hrel
    by_cases hlt : k < s.size
    · have hd : decide ((128 : Int) ≤ (s[k].toNat : Int)) = false := by have := HA.out k hlt; simp only [decide_eq_false_iff_not]; omega
      clear hmk
      go_wp2
      go_round
      case rel => exact ⟨k + 1, by omega, by go_num⟩
      case measure => simp [intOf]; omega
    · go_wp2
      clear hmk
      go_loopw [25] (fun i wr => ∃ k : Nat, k ≤ s.size ∧ i = .int .i64 k ∧ Hid (∀ j, j < 2 * s.size → wr.cell? ⟨w.heap.size, j, none⟩ = some (.int .u8 (wid s k j)) ∧ wr.frozen? ⟨w.heap.size, j, none⟩ = false) ∧ Below w.heap.size w wr)
        (fun i _ => s.size - (intOf i).toNat)
      case atStart =>
        refine ⟨0, Nat.zero_le _, rfl, fun j hj => ?_, (Below.refl _ _).alloc (Nat.le_refl _) _⟩
        have e0 : wid s 0 j = 0 := by unfold wid; rw [if_neg (by omega)]
        rw [e0]
        refine ⟨?_, ?_⟩
        · rw [World.cell?_alloc_mark, HCs.out.2 j hj]
        · have h := heap_alloc_new w (.cells C 5)
          simp only [World.frozen?, h]
          simp
      case round =>
        obtain ⟨k, hk, rfl, HR, hB⟩ := hrel
        by_cases hlt : k < s.size
        · have hc1 := (HR.out (2 * k + 1) (by omega)).1
          have hf1 := (HR.out (2 * k + 1) (by omega)).2
          go_wp2
          go_roundw
          case rel =>
            refine ⟨k + 1, by omega, by go_num, fun j hj => ?_, hB.setCell (Nat.le_refl _) _⟩
            have hr := HR.out j hj
            refine ⟨?_, by rw [World.frozen?_setCell]; exact hr.2⟩
            by_cases hj2 : j = 2 * k + 1
            · subst hj2
              rw [World.cell?_setCell_same _ _ _ hc1]
              have e : wid s (k + 1) (2 * k + 1) = (s[k].toNat : Int) := by
                unfold wid
                rw [if_pos ⟨by omega, by omega⟩, show (2 * k + 1) / 2 = k by omega, Lib.getD_get!', get_at s k hlt]
              rw [e]
            · rw [World.cell?_setCell_other _ _ _ _ (by intro h; exact hj2 (congrArg Addr.off h).symm), hr.1]
              have e : wid s (k + 1) j = wid s k j := by
                unfold wid
                by_cases h1 : j % 2 = 1 ∧ j / 2 < k
                · rw [if_pos h1, if_pos ⟨h1.1, by omega⟩]
                · rw [if_neg h1, if_neg (by omega)]
              rw [e]
          case measure => simp [intOf]; omega
        · have hk2 : k = s.size := by omega
          have hwl : (widen s.data.toList).length = 2 * s.size := by rw [widen_length, ← Lib.size_eq]
          have hcv := run_convert_bytes_back wr 98 62 5 ⟨w.heap.size, 0, none⟩ (2 * s.size) (widen s.data.toList) Tryz.underlying98 Tryz.underlying5 Tryz.underlying62 (fun j hj => by
            have hj' : j < 2 * s.size := by omega
            have hr := (HR.out j hj').1
            have hadd : (⟨w.heap.size, 0, none⟩ : Addr).add j = ⟨w.heap.size, j, none⟩ := by unfold Addr.add; split <;> simp_all
            rw [hadd, hr]
            have hw := widen_get s.data.toList j (by rw [← Lib.size_eq]; exact hj')
            rw [List.getElem?_eq_getElem hj] at hw
            rw [Option.some.inj hw]
            unfold wid
            by_cases h1 : j % 2 = 1
            · rw [if_pos h1, if_pos ⟨h1, by omega⟩]
            · rw [if_neg h1, if_neg (by omega)]; rfl)
          rw [hwl] at hcv
          go_wp2
          go_ret
          exact ⟨rfl, hB⟩

set_option maxHeartbeats 1000000 in
set_option maxRecDepth 100000 in
theorem of_other (s : ByteArray) (w : World) (hs : s.size ≤ 2097152) (hT : Lib.Utf8Tabs 2 3 w) (m : Nat) (hm : m < s.size) (h1 : 128 ≤ s[m].toNat) (h2 : ∀ i (h : i < s.size), i < m → s[i].toNat < 128) :
    Calls Tryz.prog 25 #[.string s] w fun e w' => e = .returned (.string ⟨(pack (unitsOf s)).toArray⟩) ∧ Below w.heap.size w w' := by
  have HA := Lib.hid h2
  have HU := Lib.hid (units_any s w hs hT)
  clear h2 hT
  go_enter Tryz.func25, Tryz.ntmps25
  go_wp2
  go_loop [3] (fun i => ∃ k : Nat, k ≤ m ∧ i = .int .i64 k) (fun i => s.size - (intOf i).toNat)
  case atStart => exact ⟨0, Nat.zero_le _, rfl⟩
  case round =>
    obtain ⟨k, hk, rfl⟩ := hrel
    have hlt : k < s.size := by omega
    by_cases hlt2 : k < m
    · have hd : decide ((128 : Int) ≤ (s[k].toNat : Int)) = false := by have := HA.out k hlt hlt2; simp only [decide_eq_false_iff_not]; omega
      go_wp2
      go_round
      case rel => exact ⟨k + 1, by omega, by go_num⟩
      case measure => simp [intOf]; omega
    · obtain rfl : m = k := by omega
      have hd : (128 : Int) ≤ (s[m].toNat : Int) := by omega
      have hf := unitsOf_facts s.size s (Nat.le_refl _)
      have hf0 : 0 < (unitsOf s).length := by
        obtain ⟨u, hu, _⟩ := hf.2.2 ⟨m, hm, by rw [get_at s m hm]; exact h1⟩
        exact List.length_pos_of_mem hu
      have HF := Lib.hid hf
      have HF0 := Lib.hid hf0
      clear hf hf0
      go_wp2_with fail
      go_at_call 40
      refine HU.out.mono ?_
      rintro e w1 ⟨v, rfl, hown, hb1⟩
      obtain ⟨g, cap, rfl, hg1, hg2⟩ := hown.form HF0.out
      have HP := Lib.hid (pack_any g cap (unitsOf s) w1 (by have := HF.out.2.1; omega) HF.out.1 (fun j u hj => by
        have h := hown.cells (g := g) rfl j (.int .u16 (u : Int)) (by simp [u16s, hj])
        have hadd : (⟨g, 0, none⟩ : Addr).add j = ⟨g, j, none⟩ := by unfold Addr.add; split <;> simp_all
        rw [← hadd]; exact h) hg2)
      clear hown
      go_wp2_with (go_at_call 39; refine HP.out.mono ?_; rintro e w2 ⟨rfl, hb2⟩)
      go_ret
      exact ⟨rfl, hb1.trans (hb2.mono hb1.size)⟩

theorem least (p : Nat → Prop) (n : Nat) (h : p n) : ∃ m, p m ∧ ∀ i, i < m → ¬ p i := by
  induction n using Nat.strongRecOn with
  | ind n ih =>
    by_cases hx : ∃ i, i < n ∧ p i
    · obtain ⟨i, hi, hp⟩ := hx
      exact ih i hi hp
    · exact ⟨n, h, fun i hi hp => hx ⟨i, hi, hp⟩⟩
open Classical in
theorem of_any (s : ByteArray) (w : World) (hs : s.size ≤ 2097152) (hT : Lib.Utf8Tabs 2 3 w) :
    Calls Tryz.prog 25 #[.string s] w fun e w' => e = .returned (.string (keyOf s)) ∧ Below w.heap.size w w' := by
  by_cases ha : asciiB s
  · have e : keyOf s = ⟨(widen s.data.toList).toArray⟩ := by unfold keyOf keyL; rw [if_pos ha]
    rw [e]
    exact of_ascii s w hs (fun i h => by rw [← get_at s i h]; exact ha i h)
  · have e : keyOf s = ⟨(pack (unitsOf s)).toArray⟩ := by unfold keyOf keyL; rw [if_neg ha]
    rw [e]
    have hex : ∃ m, m < s.size ∧ 128 ≤ (s.get! m).toNat := by
      apply Classical.byContradiction
      intro hn
      apply ha
      intro i hi
      apply Classical.byContradiction
      intro hh
      exact hn ⟨i, hi, by omega⟩
    obtain ⟨m, ⟨hm, hm2⟩, hmin⟩ : ∃ m, (m < s.size ∧ 128 ≤ (s.get! m).toNat) ∧ ∀ i, i < m → ¬ (i < s.size ∧ 128 ≤ (s.get! i).toNat) :=
      hex.elim fun n hn => least _ n hn
    exact of_other s w hs hT m hm (by rw [← get_at s m hm]; exact hm2) (fun i h hi => by have := hmin i hi; rw [← get_at s i h]; omega)
end Go.Proofs.YtlacgdnidilndaaGreatDoor
