/- The heap as HeapShape has made it: which block plays which part, and what lies in it. -/
import Derived.Test.YtlacgdnidilndaaGreatDoorSmall
namespace Go.Proofs.YtlacgdnidilndaaGreatDoor
open Go.RowKit
open Go.Proofs (Tryz.prog)

/-- The part that a block plays. -/
inductive Role where
  | none
  | oh
  | hp
  | objs
  | shape (ks : List ByteArray)
  | list (ks : List ByteArray)
  | spots (ks : List ByteArray)
  | next (ks : List ByteArray)
  | slots (r : Nat)

def ptr (b : Nat) : Value := .pointer (some ⟨b, 0, Option.none⟩)
def noSlice : Value := .slice Option.none 0 0
/-- An object: its keys, its shape's block, its slots, and what lies in these. -/
structure Ob where
  ks : List ByteArray
  sh : Nat
  sl : Value
  ps : List Value
def emptyStr : ByteArray := ⟨#[]⟩
def className : ByteArray := ⟨#[79, 98, 106, 101, 99, 116]⟩
def zeroOb : List Value := [.string emptyStr, .int .i32 0, .bool false, .nilIface, .int .u8 0, .int .i32 0, .float .f64 0, .string emptyStr, .pointer Option.none, noSlice, .map Option.none, .bool false, .bool false, .bool false]
def obCells (o : Ob) : List Value := [.string className, .int .i32 0, .bool false, .nilIface, .int .u8 0, .int .i32 0, .float .f64 0, .string emptyStr, ptr o.sh, o.sl, .map Option.none, .bool false, .bool true, .bool false]
def rowCells (obs : List Ob) : List Value := zeroOb ++ obs.flatMap obCells
def entCells (ks : List ByteArray) : List Value := ks.flatMap fun k => [.string k, .int .u8 7]
/-- One property as it lies: a number, or a text, with all flags. -/
def propCells (kind : Int) (num : Nat) (str : ByteArray) : List Value := [.int .u8 kind, .int .i32 0, .float .f64 num, .string str, .int .i32 0, .int .i32 0, .int .u8 7]
def PropsOK : Nat → List Value → Prop
  | 0, ps => ps = []
  | n + 1, ps => ∃ kind num str m rest, ps = rest ++ propCells kind num str ∧ 0 ≤ kind ∧ kind < 256 ∧ str.size = 2 * m ∧ str.size ≤ 2 ∧ PropsOK n rest

def SpotsOK (w : World) (b : Nat) (ks : List ByteArray) : Prop :=
  ∃ es clk, w.heap[b]? = some (.map es clk) ∧ es.toList.map (fun e => (e.key, e.val)) = ks.zipIdx.map fun x => (Value.string x.1, Value.int .i64 (x.2 : Nat))
def NextOK (w : World) (ρ : Nat → Role) (c : Nat) (ks : List ByteArray) : Prop :=
  ∃ es clk, w.heap[c]? = some (.map es clk) ∧
    (∀ e ∈ es.toList, ∃ k b, e.key = .agg #[.string k, .int .u8 7] ∧ e.val = ptr b ∧ ρ b = .shape (ks ++ [k])) ∧
    (∀ k b, ρ b = .shape (ks ++ [k]) → ∃ e ∈ es.toList, e.key = .agg #[.string k, .int .u8 7] ∧ e.val = ptr b)
def ShapeOK (w : World) (B : Nat) (ρ : Nat → Role) (b : Nat) (ks : List ByteArray) : Prop :=
  ∃ lv bat nx, w.heap[b]? = some (.cells #[lv, .map (some bat), .map nx, .bool false] 95 (0, 0)) ∧ ks.Nodup ∧
    w.ownsRow B 104 2 lv ks.length (entCells ks) ∧ (∀ g, lv.ownBlock = some g → ρ g = .list ks) ∧ ρ bat = .spots ks ∧ SpotsOK w bat ks ∧
    ((nx = Option.none ∧ ∀ k b', ρ b' ≠ .shape (ks ++ [k])) ∨ ∃ c, nx = some c ∧ ρ c = .next ks ∧ NextOK w ρ c ks)

structure Sig where
  oh : Nat
  hp : Nat
  bc : Nat
  cap : Nat
  root : Nat
  obs : List Ob
  ρ : Nat → Role

structure St (B : Nat) (w : World) (σ : Sig) : Prop where
  base : ∀ b, σ.ρ b ≠ .none → B ≤ b ∧ b < w.heap.size
  oh : σ.ρ σ.oh = .oh ∧ w.heap[σ.oh]? = some (.cells #[ptr σ.hp] 46 (0, 0))
  hp : σ.ρ σ.hp = .hp ∧ ∃ made live : Int, w.heap[σ.hp]? = some (.cells #[.slice (some ⟨σ.bc, 0, Option.none⟩) (σ.obs.length + 1) σ.cap, noSlice, ptr σ.root, .int .i64 made, .int .i64 live] 80 (0, 0))
  bc : σ.ρ σ.bc = .objs ∧ ∃ cur, w.heap[σ.bc]? = some (.cells cur 88 (0, 0)) ∧ cur.size = σ.cap * 14 ∧ σ.obs.length + 1 ≤ σ.cap ∧ σ.cap ≤ maxLen ∧ cur.toList.take ((σ.obs.length + 1) * 14) = rowCells σ.obs
  few : σ.obs.length ≤ 3
  root : σ.ρ σ.root = .shape []
  ob : ∀ (i : Nat) (o : Ob), σ.obs[i]? = some o → σ.ρ o.sh = .shape o.ks ∧ w.ownsRow B 66 7 o.sl o.ks.length o.ps ∧ (∀ g, o.sl.ownBlock = some g → σ.ρ g = .slots (i + 1)) ∧ PropsOK o.ks.length o.ps
  shape : ∀ b ks, σ.ρ b = .shape ks → ShapeOK w B σ.ρ b ks
  uniq : ∀ b b' ks, σ.ρ b = .shape ks → σ.ρ b' = .shape ks → b = b'
  pre : ∀ b ks k, σ.ρ b = .shape (ks ++ [k]) → ∃ b0, σ.ρ b0 = .shape ks

theorem own_same {w w' : World} {B : Nat} {e : TypeId} {size : Nat} {v : Value} {n : Nat} {xs : List Value} (h : w.ownsRow B e size v n xs) (hs : ∀ g, v.ownBlock = some g → w'.heap[g]? = w.heap[g]?) : w'.ownsRow B e size v n xs := by
  refine ⟨h.1, ?_⟩
  rcases h.2 with h0 | ⟨g, cap, cur, rfl, hb, hg, rest⟩
  · exact .inl h0
  · exact .inr ⟨g, cap, cur, rfl, hb, (hs g rfl).trans hg, rest⟩

/-- WHAT PLAYS A PART LIES AS IT LAY: the state stands. -/
theorem St.same {B : Nat} {w w' : World} {σ : Sig} (h : St B w σ) (hz : w.heap.size ≤ w'.heap.size) (hs : ∀ b, σ.ρ b ≠ .none → w'.heap[b]? = w.heap[b]?) : St B w' σ := by
  have ne : ∀ {b : Nat} {r : Role}, σ.ρ b = r → r ≠ .none → w'.heap[b]? = w.heap[b]? := fun e hr => hs _ (by rw [e]; exact hr)
  refine ⟨fun b hb => ⟨(h.base b hb).1, Nat.lt_of_lt_of_le (h.base b hb).2 hz⟩, ⟨h.oh.1, (ne h.oh.1 (by simp)).trans h.oh.2⟩, ⟨h.hp.1, ?_⟩, ⟨h.bc.1, ?_⟩, h.few, h.root, fun i o ho => ?_, fun b ks hb => ?_, h.uniq, h.pre⟩
  · obtain ⟨m, l, h1⟩ := h.hp.2
    exact ⟨m, l, (ne h.hp.1 (by simp)).trans h1⟩
  · obtain ⟨cur, h1, h2⟩ := h.bc.2
    exact ⟨cur, (ne h.bc.1 (by simp)).trans h1, h2⟩
  · obtain ⟨h1, h2, h3, h4⟩ := h.ob i o ho
    exact ⟨h1, own_same h2 fun g hg => ne (h3 g hg) (by simp), h3, h4⟩
  · obtain ⟨lv, bat, nx, h1, h2, h3, h4, h5, ⟨es, clk, h6, h7⟩, h8⟩ := h.shape b ks hb
    refine ⟨lv, bat, nx, (ne hb (by simp)).trans h1, h2, own_same h3 fun g hg => ne (h4 g hg) (by simp), h4, h5, ⟨es, clk, (ne h5 (by simp)).trans h6, h7⟩, ?_⟩
    rcases h8 with h8 | ⟨c, h9, h10, es', clk', h11, h12⟩
    · exact .inl h8
    · exact .inr ⟨c, h9, h10, es', clk', (ne h10 (by simp)).trans h11, h12⟩
theorem St.below {B : Nat} {w w' : World} {σ : Sig} (h : St B w σ) (hb : Below w.heap.size w w') : St B w' σ :=
  h.same hb.size fun b hr => hb.block b (h.base b hr).2
end Go.Proofs.YtlacgdnidilndaaGreatDoor
