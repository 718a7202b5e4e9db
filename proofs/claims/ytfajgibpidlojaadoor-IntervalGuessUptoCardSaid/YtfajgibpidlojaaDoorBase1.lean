/-
  Contracts of functions that a law reaches, and what they rest on, part 1. Each part says its own conditions.
-/
import Derived.Below
import Derived.WalkKit
import Derived.Orders
import Derived.Deep.MidRow
import Derived.Laws.OwnMore
import Derived.Laws.MakeOwn
import Derived.KernelRfl
import Derived.Laws.Tables
import Derived.Laws.IdiomCopy

section
/- The library's one table that the program reads (math/bits.deBruijn32tab): what a world holds of it. No condition. -/
set_option linter.unusedVariables false
namespace Go.Proofs.YtfajgibpidlojaaDoor
namespace Iv
open Go Go.RowKit

def tab32 : List Nat := [0, 1, 28, 2, 29, 14, 24, 3, 30, 22, 20, 15, 25, 17, 4, 8, 31, 27, 13, 23, 21, 19, 16, 7, 26, 12, 18, 6, 11, 5, 10, 9]
/-- The table lies as the program's start laid it. -/
def Gl (w : World) : Prop := ∀ j, j < 32 → w.cell? ⟨0, j, none⟩ = some (.int .u8 (tab32.getD j 0 : Nat))
theorem Gl.below {B : Nat} {w w' : World} (h : Gl w) (hB : w.heap.size ≤ B) (hb : Below B w w') : Gl w' := by
  intro j hj
  have h1 := h j hj
  have h2 : (w'.heap[(⟨0, j, none⟩ : Addr).block]?) = w.heap[(⟨0, j, none⟩ : Addr).block]? := by
    refine hb.block _ (Nat.lt_of_lt_of_le ?_ hB)
    unfold World.cell? at h1
    by_cases hlt : (⟨0, j, none⟩ : Addr).block < w.heap.size
    · exact hlt
    · rw [Array.getElem?_eq_none (by omega)] at h1
      cases h1
  unfold World.cell? at h1 ⊢
  rw [h2]
  exact h1
/-- The blocks that may yet be written, and the table. -/
structure MOK (M : Nat → Prop) (w : World) : Prop where
  lt : ∀ b, M b → b < w.heap.size
  gl : Gl w
end Iv
end Go.Proofs.YtfajgibpidlojaaDoor
end

section
/- The verified interpreter, part A: semantic values, the representation relation, the interpreter as a predicate transformer. No condition: definitions alone. -/
set_option linter.unusedVariables false
namespace Go.Proofs.YtfajgibpidlojaaDoor
namespace Iv
open Go

/-- Semantic values. -/
inductive SV where
  | undef
  | nil
  | bool (b : Bool)
  | int (k : IntKind) (n : Int)
  | words (l : List Nat)
  | n32 (a : Nat)
  | n16 (a : Nat)
  | agg (cs : List SV)
  | tup (vs : List SV)
  | ptr (i off : Nat)
  | ref (cs : List SV) (off : Nat)
  | elem (n : Nat)
  | row (i : Nat)
  | rptr (i j : Nat)
  | fn (f : FuncId) (caps : List SV)
  | view (i lo hi : Nat)
  | ub

/-- Objects that the function at hand has made. -/
inductive Ob where
  | var (T : TypeId) (cs : List SV)
  | row (l : List Nat)
  | dead

def digF (B : Nat) : Nat → Nat → List Nat
  | 0, _ => []
  | f + 1, n => if n = 0 then [] else n % B :: digF B f (n / B)
def dig (B n : Nat) : List Nat := digF B n n
def dig32 (n : Nat) : List Nat := dig 4294967296 n
def dig16 (n : Nat) : List Nat := dig 65536 n
/-- The greatest length of a list of words that has a representation. -/
def cap30 : Nat := 1073741824

/-- The list of a slice's semantic value. -/
def SV.list : SV → Option (List Nat)
  | .nil => some []
  | .words l => some l
  | .n32 a => some (dig32 a)
  | .n16 a => some (dig16 a)
  | _ => none

def Ws (M : Nat → Prop) (w : World) (l : List Nat) (v : Value) : Prop :=
  (∀ x ∈ l, x < 4294967296) ∧ l.length ≤ cap30 ∧ ∃ a c, v = .slice a l.length c ∧ l.length ≤ c ∧
    (0 < l.length → ∃ ad, a = some ad ∧ ¬ M ad.block ∧ ∀ j, j < l.length → w.cell? (ad.add j) = some (.int .u32 (l.getD j 0 : Nat)))

mutual
/-- What a machine's value means. M: blocks that may yet be written; N: the heap's size when the function at hand began; bnd: its own objects' values. -/
def Rp (M : Nat → Prop) (N : Nat) (bnd : Nat → Option Value) (w : World) : SV → Value → Prop
  | .undef, _ => True
  | .nil, v => v = .slice none 0 0
  | .bool b, v => v = .bool b
  | .int k n, v => v = .int k n
  | .words l, v => Ws M w l v
  | .n32 a, v => Ws M w (dig32 a) v
  | .n16 a, v => Ws M w (dig16 a) v
  | .agg cs, v => ∃ vs : List Value, v = .agg vs.toArray ∧ RpL M N bnd w cs vs
  | .tup cs, v => ∃ vs : List Value, v = .tuple vs.toArray ∧ RpL M N bnd w cs vs
  | .ptr i off, v => ∃ b, bnd i = some (.pointer (some ⟨b, 0, none⟩)) ∧ v = .pointer (some ⟨b, off, none⟩)
  | .ref cs off, v => ∃ b T, ∃ vs : List Value, b < N ∧ v = .pointer (some ⟨b, off, none⟩) ∧ w.heap[b]? = some (.cells vs.toArray T) ∧ RpL M N bnd w cs vs
  | .elem n, v => ∃ ad, v = .pointer (some ad) ∧ ¬ M ad.block ∧ w.cell? ad = some (.int .u32 (n : Nat))
  | .row i, v => bnd i = some v ∧ ∃ a n c, v = .slice a n c
  | .rptr i j, v => ∃ b n c, bnd i = some (.slice (some ⟨b, 0, none⟩) n c) ∧ v = .pointer (some ⟨b, j, none⟩)
  | .ub, v => ∃ b, v = .bool b
  | .fn f caps, v => ∃ vs : List Value, v = .func (.func f) #[] vs.toArray ∧ RpL M N bnd w caps vs
  | .view i lo hi, v => ∃ b n c, bnd i = some (.slice (some ⟨b, 0, none⟩) n c) ∧ lo ≤ hi ∧ hi ≤ n ∧ v = .slice (some ⟨b, lo, none⟩) (hi - lo) (c - lo)
def RpL (M : Nat → Prop) (N : Nat) (bnd : Nat → Option Value) (w : World) : List SV → List Value → Prop
  | [], vs => vs = []
  | c :: cs, vs => ∃ v vs', vs = v :: vs' ∧ Rp M N bnd w c v ∧ RpL M N bnd w cs vs'
end

/-- One cell: what may lie in a box. -/
def SV.leaf : SV → Bool
  | .undef | .agg _ | .tup _ => false
  | _ => true
/-- The cells of a value. -/
def SV.cells : SV → List SV
  | .agg cs => cs
  | x => [x]
mutual
/-- No word of the function's own objects. -/
def SV.plain : SV → Bool
  | .ptr _ _ | .row _ | .rptr _ _ | .undef | .view _ _ _ => false
  | .agg cs | .tup cs | .ref cs _ | .fn _ cs => SV.plainL cs
  | _ => true
def SV.plainL : List SV → Bool
  | [] => true
  | c :: cs => c.plain && SV.plainL cs
end
mutual
/-- Without slices: nothing that leads to memory. -/
def SV.dry : SV → Bool
  | .bool _ | .int _ _ | .nil => true
  | .agg cs | .tup cs => SV.dryL cs
  | _ => false
def SV.dryL : List SV → Bool
  | [] => true
  | c :: cs => c.dry && SV.dryL cs
end

mutual
/-- What a function may answer. -/
def SV.clean : SV → Bool
  | .nil | .bool _ | .int _ _ | .words _ | .n32 _ | .n16 _ => true
  | .agg cs | .tup cs => SV.cleanL cs
  | _ => false
def SV.cleanL : List SV → Bool
  | [] => true
  | c :: cs => c.clean && SV.cleanL cs
end
def Ob.live : Ob → Bool
  | .dead => false
  | _ => true

/-- What is known of a type. -/
structure Ti where
  row : Bool
  zero : List SV
  offs : List (Nat × Nat × Bool)
  ik : Option IntKind
  bl : Bool := false
  arr : Bool := false
  fn : Bool := false

/-- The types, the word's type, and the functions that are run in place. -/
structure Tb where
  ti : TypeId → Option Ti
  u : TypeId
  inl : FuncId → Bool
  app : Bool := true
instance : CoeFun Tb fun _ => TypeId → Option Ti := ⟨Tb.ti⟩

structure St where
  slots : List SV
  os : List Ob

def ofConst : Value → SV
  | .bool b => .bool b
  | .int k n => .int k n
  | .slice none 0 0 => .nil
  | _ => .undef
def St.ev (st : St) : Operand → SV
  | .tmp t => st.slots.getD t .undef
  | .const v => ofConst v
  | .func f => .fn f []
  | .global _ => .undef

/-- What one operation comes to. -/
inductive Out where
  | val (x : SV)
  | pick (t : Bool) (x y : SV)
  | new (o : Ob) (x : Nat → SV)
  | put (i off : Nat) (cs : List SV)
  | rput (i : Nat) (l : List Nat)
  | app (i : Option Nat) (l : List Nat)
  | lit (l : List Nat)
  | call (f : FuncId) (args : List SV) (fz : List Nat)
  | inl (f : FuncId) (args : List SV)
  | none

def setMany : List SV → Nat → List SV → List SV
  | cs, _, [] => cs
  | cs, o, x :: xs => setMany (cs.set o x) (o + 1) xs

def Ob.cells? : Ob → Option (List SV)
  | .var _ cs => some cs
  | _ => Option.none

/-- A pointer's cells and offset, for a load. -/
def cellsAt (os : List Ob) : SV → Option (List SV × Nat)
  | .ptr i off => match os[i]? with | some (.var _ cs) => some (cs, off) | _ => Option.none
  | .ref cs off => some (cs, off)
  | _ => Option.none

/-- A value as a callee meets it, and the rows that it leads to. -/
def expo (os : List Ob) : SV → Option (SV × List Nat)
  | .ptr i off => match os[i]? with | some (.var _ cs) => if SV.plainL cs then some (.ref cs off, []) else Option.none | _ => Option.none
  | .row i => match os[i]? with | some (.row l) => some (.words l, [i]) | _ => Option.none
  | .view i lo hi => match os[i]? with | some (.row l) => some (.words ((l.take hi).drop lo), [i]) | _ => Option.none
  | .fn f caps => (go caps).map fun cs => (.fn f cs, [])
  | x => if x.plain then some (x, []) else Option.none
where
  go : List SV → Option (List SV)
    | [] => some []
    | .ptr i off :: cs => match os[i]? with | some (.var _ ds) => if SV.plainL ds then (go cs).map (.ref ds off :: ·) else Option.none | _ => Option.none
    | c :: cs => if c.plain then (go cs).map (c :: ·) else Option.none
def expoL (os : List Ob) : List SV → Option (List SV × List Nat)
  | [] => some ([], [])
  | x :: xs => match expo os x, expoL os xs with
    | some (y, f), some (ys, g) => some (y :: ys, f ++ g)
    | _, _ => Option.none

/- (the order of a whole number below a literal: by a truth that the elaborator cannot walk down) -/
noncomputable def binSem (bl : Bool) (op : BinOp) : SV → SV → Option SV
  | .int k a, .int k' b =>
    match op with
    | .shl => if b < 0 then Option.none else some (.int k (k.wrap (a * 2 ^ (min b.toNat k.bits))))
    | .shr => if b < 0 then Option.none else some (.int k (a.fdiv (2 ^ (min b.toNat k.bits))))
    | _ => if k ≠ k' then Option.none else
      match op with
      | .add => some (.int k (k.wrap (a + b)))
      | .sub => some (.int k (k.wrap (a - b)))
      | .mul => some (.int k (k.wrap (a * b)))
      | .quo => if b = 0 then Option.none else some (.int k (k.wrap (a.tdiv b)))
      | .rem => if b = 0 then Option.none else some (.int k (a.tmod b))
      | .and => some (.int k (k.wrap (BitVec.ofInt k.bits a &&& BitVec.ofInt k.bits b).toNat))
      | .or => some (.int k (k.wrap (BitVec.ofInt k.bits a ||| BitVec.ofInt k.bits b).toNat))
      | .eql => some (.bool (a == b))
      | .neq => some (.bool (a != b))
      | .lss => some (.bool (@decide (a < b) (Classical.propDecidable _)))
      | .leq => some (.bool (a ≤ b))
      | .gtr => some (.bool (a > b))
      | .geq => some (.bool (a ≥ b))
      | _ => Option.none
  | .bool a, .bool b =>
    match bl, op with
    | true, .eql => some (.bool (a == b))
    | true, .neq => some (.bool (!(a == b)))
    | _, _ => Option.none
  | _, _ => Option.none

/-- The cells of a struct or an array out of its parts. -/
def fillSem (offs : List (Nat × Nat × Bool)) : List SV → List (Nat × SV) → Option (List SV)
  | cells, [] => some cells
  | cells, (i, x) :: rest =>
    match offs[i]? with
    | some (off, size, _) => if x.cells.length = size ∧ off + size ≤ cells.length ∧ x.cells.all SV.leaf = true then fillSem offs (setMany cells off x.cells) rest else Option.none
    | Option.none => Option.none

def asInt? : SV → Option Int
  | .int _ n => some n
  | _ => Option.none
def intsOf : List SV → Option (List Nat)
  | [] => some []
  | .int .u32 n :: xs => match intsOf xs with | some l => if 0 ≤ n ∧ n < 4294967296 then some (n.toNat :: l) else Option.none | Option.none => Option.none
  | _ :: _ => Option.none

def lenOf (os : List Ob) : SV → Option Nat
  | .row i => match os[i]? with | some (.row l) => some l.length | _ => Option.none
  | .view _ lo hi => some (hi - lo)
  | x => x.list.map (·.length)
/-- The words that a slice shows. -/
def listOf (os : List Ob) : SV → Option (List Nat)
  | .row i => match os[i]? with | some (.row l) => some l | _ => Option.none
  | .view i lo hi => match os[i]? with | some (.row l) => some ((l.take hi).drop lo) | _ => Option.none
  | x => x.list
/-- The row that an append goes on with, and its words. -/
def baseOf (os : List Ob) : SV → Option (Option Nat × List Nat)
  | .nil => some (Option.none, [])
  | .row i => match os[i]? with | some (.row l) => some (some i, l) | _ => Option.none
  | .view i 0 hi => match os[i]? with | some (.row l) => some (some i, l.take hi) | _ => Option.none
  | _ => Option.none
def overwrite (l src : List Nat) : List Nat := src.take l.length ++ l.drop src.length
/-- The bounds of a slice expression. -/
def bound (ev : Operand → SV) (d : Nat) : Option Operand → Option Nat
  | Option.none => some d
  | some x => match ev x with | .int _ n => if 0 ≤ n then some n.toNat else Option.none | _ => Option.none
def idxOK : Nat → List (Nat × Operand) → Bool
  | _, [] => true
  | k, (i, _) :: rest => i == k && idxOK (k + 1) rest

def partsSem (ev : Operand → SV) : List (Nat × Operand) → List (Nat × SV)
  | [] => []
  | (i, x) :: rest => (i, ev x) :: partsSem ev rest

/-- A slice held against nil. -/
def nilCmp (op : BinOp) (y : Operand) (x z : SV) : Bool :=
  match op, y, z with
  | .eql, .const (.slice none 0 0), .nil => x.list.isSome
  | _, _, _ => false
def nilVal (x : SV) : SV := match x.list with
  | some (_ :: _) => .bool false
  | _ => .ub
def isArr (tab : Tb) (T : TypeId) : Bool :=
  match tab T with
  | some ti => ti.arr
  | Option.none => false
/-- What an operation comes to, as the interpreter sees it. -/
noncomputable def opSem (tab : Tb) (os : List Ob) (ev : Operand → SV) : Op → Out
  | .move x | .assign x => .val (ev x)
  | .pick c a b => match ev c with
    | .bool t => .pick t (ev a) (ev b)
    | _ => .none
  | .alloc T => match tab T with
    | some ti => match ti.fn with
      | false => .new (.var T ti.zero) (fun k => .ptr k 0)
      | true => .none
    | Option.none => .none
  | .box T x => if (ev x).cells.all SV.leaf then .new (.var T (ev x).cells) (fun k => .ptr k 0) else .none
  | .build T parts => match tab T with
    | some ti => match ti.row, fillSem ti.offs ti.zero (partsSem ev parts.toList) with
      | true, some cs => .val (.agg cs)
      | _, _ => .none
    | Option.none => .none
  | .load T a => match ev a, tab T with
    | .elem n, some ti => if ti.row then .none else .val (.int .u32 n)
    | .rptr i j, some ti => match ti.row, os[i]? with
      | false, some (.row l) => if j < l.length then .val (.int .u32 (l.getD j 0)) else .none
      | _, _ => .none
    | p, some ti => match cellsAt os p with
      | some (cs, off) => if ti.row then
          (if off + ti.zero.length ≤ cs.length then .val (.agg ((cs.drop off).take ti.zero.length)) else .none)
        else match cs[off]? with | some x => .val x | Option.none => .none
      | Option.none => .none
    | _, Option.none => .none
  | .store T a x => match ev a, tab T with
    | .ptr i off, some ti => match os[i]? with
      | some (.var _ cs) => if (ev x).cells.length = ti.zero.length ∧ off + ti.zero.length ≤ cs.length ∧ (ev x).cells.all SV.leaf then .put i off (ev x).cells else .none
      | _ => .none
    | .rptr i j, some ti => match ti.row, os[i]?, ev x with
      | false, some (.row l), .int .u32 n => if j < l.length ∧ ti.zero.length = 1 ∧ 0 ≤ n ∧ n < 4294967296 then .rput i (l.set j n.toNat) else .none
      | _, _, _ => .none
    | _, _ => .none
  | .fieldAddr T a i => match ev a, tab T with
    | .ptr k off, some ti => match ti.offs[i]? with | some (o, s, _) => if s = 0 ∨ ti.arr then .none else .val (.ptr k (off + o)) | Option.none => .none
    | .ref cs off, some ti => match ti.offs[i]? with | some (o, s, _) => if s = 0 ∨ ti.arr then .none else .val (.ref cs (off + o)) | Option.none => .none
    | _, _ => .none
  | .field T a i => match ev a, tab T with
    | .agg cs, some ti => match ti.arr, ti.offs[i]? with
      | false, some (o, s, true) => .val (.agg ((cs.drop o).take s))
      | false, some (o, _, false) => match cs[o]? with | some x => .val x | Option.none => .none
      | _, _ => .none
    | _, _ => .none
  | .index T a i => match ev a, tab T, asInt? (ev i) with
    | .agg cs, some ti, some n => match ti.arr, ti.offs[n.toNat]? with
      | true, some (o, s, true) => if 0 ≤ n then .val (.agg ((cs.drop o).take s)) else .none
      | _, _ => .none
    | _, _, _ => .none
  | .unOp op _ x => match op, ev x with
    | .not, .bool b => .val (.bool !b)
    | .neg, .int k n => .val (.int k (k.wrap (0 - n)))
    | _, _ => .none
  | .binOp op T x y _ => match nilCmp op y (ev x) (ev y) with
    | true => .val (nilVal (ev x))
    | false => match binSem (match tab T with | some ti => ti.bl | Option.none => false) op (ev x) (ev y) with
      | some z => .val z
      | Option.none => .none
  | .convert _ T x => match ev x, tab T with
    | .int _ n, some ti => match ti.ik with | some k => .val (.int k (k.wrap n)) | Option.none => .none
    | _, _ => .none
  | .extract t i => match ev t with
    | .tup vs => match vs[i]? with | some x => .val x | Option.none => .none
    | _ => .none
  | .makeFunc (.func f) first caps => if first.isEmpty then .val (.fn f (caps.toList.map ev)) else .none
  | .call c => match c.callee with
    | .value g => match ev g with
      | .fn f caps => match tab.inl f with
        | true => .inl f (c.args.toList.map ev ++ caps)
        | false => match expoL os (c.args.toList.map ev ++ caps) with
          | some (xs, fz) => .call f xs fz
          | Option.none => .none
      | _ => .none
    | .builtin .append => match c.args.toList with
      | [x, y] => match baseOf os (ev x), listOf os (ev y) with
        | some (i, l), some l' => match tab.app, i with
          | false, some _ => .none
          | _, i => if l.length + l'.length ≤ cap30 then .app i (l ++ l') else .none
        | _, _ => .none
      | _ => .none
    | .builtin .copy => match c.args.toList with
      | [x, y] => match ev x, (ev y).list with
        | .row i, some src => match os[i]? with
          | some (.row l) => if 0 < l.length then .rput i (overwrite l src) else .none
          | _ => .none
        | _, _ => .none
      | _ => .none
    | .builtin .len => match c.args.toList with
      | [x] => match lenOf os (ev x) with | some n => .val (.int .i64 n) | Option.none => .none
      | _ => .none
    | .builtin .min => match c.args.toList with
      | [x, y] => match ev x, ev y with
        | .int k a, .int _ b => .val (.int k (if b < a then b else a))
        | _, _ => .none
      | _ => .none
    | _ => .none
  | .indexAddr T a i => match ev a, asInt? (ev i) with
    | .row k, some n => match isArr tab T, os[k]? with
      | false, some (.row l) => if 0 ≤ n ∧ n < l.length then .val (.rptr k n.toNat) else .none
      | _, _ => .none
    | .ptr k off, some n => match tab T with
      | some ti => match ti.arr, ti.offs[n.toNat]? with | true, some (o, s, _) => if 0 ≤ n then .val (.ptr k (off + o)) else .none | _, _ => .none
      | Option.none => .none
    | .view k lo hi, some n => match isArr tab T, os[k]? with
      | false, some (.row l) => if 0 ≤ n ∧ n < ((hi - lo : Nat) : Int) ∧ lo + n.toNat < l.length then .val (.rptr k (lo + n.toNat)) else .none
      | _, _ => .none
    | x, some n => match isArr tab T, x.list with
      | false, some l => if 0 ≤ n ∧ n < l.length then .val (.elem (l.getD n.toNat 0)) else .none
      | _, _ => .none
    | _, Option.none => .none
  | .makeSlice _ n c => match asInt? (ev n), asInt? (ev c) with
    | some n, some c => if 0 ≤ n ∧ n ≤ c ∧ c ≤ (cap30 : Int) then .app Option.none (List.replicate n.toNat 0) else .none
    | _, _ => .none
  | .buildSlice _ n parts => match n, parts.toList with
    | 0, [] => .app Option.none []
    | 1, [(0, x)] => match ev x with
      | .int .u32 a => if 0 ≤ a ∧ a < 4294967296 then .lit [a.toNat] else .none
      | _ => .none
    | 2, [(0, x), (1, y)] => match ev x, ev y with
      | .int .u32 a, .int .u32 b => if 0 ≤ a ∧ a < 4294967296 ∧ 0 ≤ b ∧ b < 4294967296 then .lit [a.toNat, b.toNat] else .none
      | _, _ => .none
    | _, _ => .none
  | .slice _ x lo hi mx => match mx with
    | some _ => .none
    | Option.none => match ev x with
      | .row i => match os[i]? with
        | some (.row l) => match bound ev 0 lo, bound ev l.length hi with
          | some a, some b => if a ≤ b ∧ b ≤ l.length ∧ (a = 0 ∨ a < b) ∧ 0 < l.length then .val (.view i a b) else .none
          | _, _ => .none
        | _ => .none
      | y => match y.list with
        | some l => match bound ev 0 lo, bound ev l.length hi with
          | some a, some b => if a ≤ b ∧ b ≤ l.length then .val (.words ((l.take b).drop a)) else .none
          | _, _ => .none
        | Option.none => .none
  | _ => .none

/-! ### The same, with what must hold said apart -/
inductive OV where
  | free (o : Out)
  | cond (c : Prop) (o : Out)
def OV.ok : OV → Prop
  | .free _ => True
  | .cond c _ => c
def OV.out : OV → Out
  | .free o => o
  | .cond _ o => o
def arith (k : IntKind) (n : Int) : OV :=
  match k with
  | .i64 => .cond (-9223372036854775808 ≤ n ∧ n ≤ 9223372036854775807) (.val (.int .i64 n))
  | .u64 => .free (.val (.int .u64 (n % 18446744073709551616)))
  | .u32 => .free (.val (.int .u32 (n % 4294967296)))
  | k => .free (.val (.int k (k.wrap n)))
def OV.also (c : Prop) : OV → OV
  | .free o => .cond c o
  | .cond d o => .cond (c ∧ d) o
noncomputable def binV (bl : Bool) (op : BinOp) (x y : SV) : OV :=
  match x, y with
  | .int k a, .int k' b => match op with
    | .shl => OV.also (0 ≤ b) (arith k (a * 2 ^ (min b.toNat k.bits)))
    | .shr => .cond (0 ≤ b) (.val (.int k (a.fdiv (2 ^ (min b.toNat k.bits)))))
    | .add => if k = k' then arith k (a + b) else .free .none
    | .sub => if k = k' then arith k (a - b) else .free .none
    | .mul => if k = k' then arith k (a * b) else .free .none
    | .quo => if k = k' then OV.also (b ≠ 0) (arith k (a.tdiv b)) else .free .none
    | .rem => if k = k' then .cond (b ≠ 0) (.val (.int k (a.tmod b))) else .free .none
    | _ => .free (match binSem bl op x y with | some z => .val z | Option.none => .none)
  | _, _ => .free (match binSem bl op x y with | some z => .val z | Option.none => .none)
/-- A bound of a slice expression, and what must hold. -/
def boundV (ev : Operand → SV) (d : Nat) : Option Operand → Option (Prop × Nat)
  | Option.none => some (True, d)
  | some x => match ev x with | .int _ n => some (0 ≤ n, n.toNat) | _ => Option.none
noncomputable def opV (tab : Tb) (os : List Ob) (ev : Operand → SV) (op : Op) : OV :=
  match op with
  | .binOp op T x y _ => match nilCmp op y (ev x) (ev y) with
    | true => .free (.val (nilVal (ev x)))
    | false => binV (match tab T with | some ti => ti.bl | Option.none => false) op (ev x) (ev y)
  | .unOp .neg _ x => match ev x with
    | .int k n => arith k (0 - n)
    | _ => .free .none
  | .convert _ T x => match ev x, tab T with
    | .int _ n, some ti => match ti.ik with | some k => arith k n | Option.none => .free .none
    | _, _ => .free .none
  | .load T a => match ev a with
    | .rptr i j => match tab T with
      | some ti => match ti.row, os[i]? with
        | false, some (.row l) => .cond (j < l.length) (.val (.int .u32 (l.getD j 0)))
        | _, _ => .free .none
      | Option.none => .free .none
    | _ => .free (opSem tab os ev op)
  | .store T a x => match ev a with
    | .rptr i j => match tab T with
      | some ti => match ti.row, os[i]?, ev x with
        | false, some (.row l), .int .u32 n => .cond (j < l.length ∧ ti.zero.length = 1 ∧ 0 ≤ n ∧ n < 4294967296) (.rput i (l.set j n.toNat))
        | _, _, _ => .free .none
      | Option.none => .free .none
    | _ => .free (opSem tab os ev op)
  | .indexAddr T a i => match asInt? (ev i) with
    | some n => match ev a with
      | .row k => match isArr tab T, os[k]? with
        | false, some (.row l) => .cond (0 ≤ n ∧ n < l.length) (.val (.rptr k n.toNat))
        | _, _ => .free .none
      | .ptr _ _ => .free (opSem tab os ev op)
      | .view k lo hi => match isArr tab T, os[k]? with
        | false, some (.row l) => .cond (0 ≤ n ∧ n < ((hi - lo : Nat) : Int) ∧ lo + n.toNat < l.length) (.val (.rptr k (lo + n.toNat)))
        | _, _ => .free .none
      | x => match isArr tab T, x.list with
        | false, some l => .cond (0 ≤ n ∧ n < l.length) (.val (.elem (l.getD n.toNat 0)))
        | _, _ => .free .none
    | Option.none => .free .none
  | .makeSlice _ n c => match asInt? (ev n), asInt? (ev c) with
    | some n, some c => .cond (0 ≤ n ∧ n ≤ c ∧ c ≤ (cap30 : Int)) (.app Option.none (List.replicate n.toNat 0))
    | _, _ => .free .none
  | .buildSlice _ n parts => match n, parts.toList with
    | 0, [] => .free (.app Option.none [])
    | 1, [(0, x)] => match ev x with
      | .int .u32 a => .cond (0 ≤ a ∧ a < 4294967296) (.lit [a.toNat])
      | _ => .free .none
    | 2, [(0, x), (1, y)] => match ev x, ev y with
      | .int .u32 a, .int .u32 b => .cond (0 ≤ a ∧ a < 4294967296 ∧ 0 ≤ b ∧ b < 4294967296) (.lit [a.toNat, b.toNat])
      | _, _ => .free .none
    | _, _ => .free .none
  | .slice _ x lo hi mx => match mx with
    | some _ => .free .none
    | Option.none => match ev x with
      | .row i => match os[i]? with
        | some (.row l) => match boundV ev 0 lo, boundV ev l.length hi with
          | some (ca, a), some (cb, b) => .cond (ca ∧ cb ∧ a ≤ b ∧ b ≤ l.length ∧ (a = 0 ∨ a < b) ∧ 0 < l.length) (.val (.view i a b))
          | _, _ => .free .none
        | _ => .free .none
      | y => match y.list with
        | some l => match boundV ev 0 lo, boundV ev l.length hi with
          | some (ca, a), some (cb, b) => .cond (ca ∧ cb ∧ a ≤ b ∧ b ≤ l.length) (.val (.words ((l.take b).drop a)))
          | _, _ => .free .none
        | Option.none => .free .none
  | .call c => match c.callee with
    | .builtin .append => match c.args.toList with
      | [x, y] => match baseOf os (ev x), listOf os (ev y) with
        | some (i, l), some l' => match tab.app, i with
          | false, some _ => .free .none
          | _, i => .cond (l.length + l'.length ≤ cap30) (.app i (l ++ l'))
        | _, _ => .free .none
      | _ => .free .none
    | .builtin .copy => match c.args.toList with
      | [x, y] => match ev x, (ev y).list with
        | .row i, some src => match os[i]? with
          | some (.row l) => .cond (0 < l.length) (.rput i (overwrite l src))
          | _ => .free .none
        | _, _ => .free .none
      | _ => .free .none
    | _ => .free (opSem tab os ev op)
  | _ => .free (opSem tab os ev op)

/-- Both ways of a truth. -/
def ifB (t : Bool) (A B : Prop) : Prop :=
  match t with
  | true => A
  | false => B
theorem ifB_mk {t : Bool} {A B : Prop} (h : t = true → A) (k : t = false → B) : ifB t A B := by cases t <;> simp_all [ifB]

/-- What a callee answers. -/
inductive Res where
  | ok (x : SV)
  | err (e : Int)
  | ite (c : Prop) (a b : Res)
open Classical in
/-- The answer that holds. -/
noncomputable def Res.pick : Res → Except Int SV
  | .ok x => .ok x
  | .err e => .error e
  | .ite c a b => if c then a.pick else b.pick
def wpRes (Q : SV → Prop) (E : Int → Prop) : Res → Prop
  | .ok x => Q x
  | .err e => E e
  | .ite c a b => (c → wpRes Q E a) ∧ (¬ c → wpRes Q E b)
theorem wpRes_pick {Q : SV → Prop} {E : Int → Prop} : ∀ {r : Res}, wpRes Q E r → match r.pick with | .ok x => Q x | .error e => E e
  | .ok _, h => h
  | .err _, h => h
  | .ite c a b, h => by
    unfold Res.pick
    by_cases hc : c
    · simp only [hc, if_true]; exact wpRes_pick (h.1 hc)
    · simp only [hc, if_false]; exact wpRes_pick (h.2 hc)
/-- A callee: what it asks, and what it answers. -/
structure Env where
  con : FuncId → List SV → Option (Prop × Res)
  inl : FuncId → Option (List SV → List Ob → (SV → List Ob → Prop) → Prop) := fun _ => Option.none
  fresh : FuncId → List SV → Option (Prop × List Nat) := fun _ _ => Option.none
instance : CoeFun Env fun _ => FuncId → List SV → Option (Prop × Res) := ⟨Env.con⟩

/-- A row is made anew in its place: what mentions the old one is forgotten. -/
def same (j i : Nat) (x : SV) : SV := match Nat.beq j i with | true => .undef | false => x
def purge (i : Nat) : SV → SV
  | .row j => same j i (.row j)
  | .view j lo hi => same j i (.view j lo hi)
  | .rptr j k => same j i (.rptr j k)
  | .agg cs => match SV.plainL cs with | true => .agg cs | false => .undef
  | .tup cs => match SV.plainL cs with | true => .tup cs | false => .undef
  | .ref cs o => match SV.plainL cs with | true => .ref cs o | false => .undef
  | .fn f cs => match SV.plainL cs with | true => .fn f cs | false => .undef
  | x => x
def purgeO (i : Nat) : Ob → Ob
  | .var T cs => .var T (cs.map (purge i))
  | o => o
def rebind (i : Nat) (l : List Nat) (st : St) : St := { slots := st.slots.map (purge i), os := (st.os.map (purgeO i)).set i (.row l) }
def kill (os : List Ob) : List Nat → List Ob
  | [] => os
  | i :: is => kill (os.set i .dead) is
def St.put (st : St) (dst : Option Tmp) (x : SV) : St :=
  match dst with
  | some d => { st with slots := st.slots.set d x }
  | Option.none => st

/-- One operation in the text's order: what must hold, given what must hold of the state behind it. -/
def wpOut (env : Env) (st : St) (dst : Option Tmp) (Q : St → Prop) (E : Int → Prop) : Out → Prop
  | .val x => Q (st.put dst x)
  | .pick t x y => ifB t (Q (st.put dst x)) (Q (st.put dst y))
  | .new o x => Q ({ st with os := st.os ++ [o] }.put dst (x st.os.length))
  | .put i off cs => match st.os[i]? with
    | some (.var T ds) => Q ({ st with os := st.os.set i (.var T (setMany ds off cs)) }.put dst .undef)
    | _ => False
  | .rput i l' => match st.os[i]? with
    | some (.row l) => Q ({ st with os := st.os.set i (.row l') }.put dst .undef)
    | _ => False
  | .app Option.none l => Q ({ st with os := st.os ++ [Ob.row l] }.put dst (SV.row st.os.length))
  | .app (some i) l => Q ((rebind i l st).put dst (SV.row i))
  | .lit l => Q (st.put dst (.words l))
  | .inl f xs => match env.inl f with
    | some k => k xs st.os fun x os' => Q ({ st with os := os' }.put dst x)
    | Option.none => False
  | .call f xs fz => match env f xs with
    | some (pre, r) => pre ∧ wpRes (fun x => match fz.isEmpty || x.dry with
      | true => Q (st.put dst x)
      | false => Q ({ st with os := kill st.os fz }.put dst x)) E r
    | Option.none => match env.fresh f xs, fz with
      | some (pre, l), [] => pre ∧ Q ({ st with os := st.os ++ [Ob.row l] }.put dst (SV.row st.os.length))
      | _, _ => False
  | .none => False

/-! The same predicate, in a form that keeps states written out while it is unfolded. -/
def SV.force (k : SV → Prop) : SV → Prop
  | .undef => k .undef
  | .nil => k .nil
  | .bool b => k (.bool b)
  | .int a n => k (.int a n)
  | .words l => k (.words l)
  | .n32 a => k (.n32 a)
  | .n16 a => k (.n16 a)
  | .agg cs => k (.agg cs)
  | .tup vs => k (.tup vs)
  | .ptr i off => k (.ptr i off)
  | .ref cs off => k (.ref cs off)
  | .elem n => k (.elem n)
  | .row i => k (.row i)
  | .rptr i j => k (.rptr i j)
  | .fn f caps => k (.fn f caps)
  | .view i lo hi => k (.view i lo hi)
  | .ub => k .ub
theorem SV.force_eq (k : SV → Prop) (x : SV) : SV.force k x = k x := by cases x <;> rfl
def normL {α : Type} (k : List α → Prop) : List α → Prop
  | [] => k []
  | x :: xs => normL (fun ys => k (x :: ys)) xs
theorem normL_eq {α : Type} : ∀ (l : List α) (k : List α → Prop), normL k l = k l
  | [], _ => rfl
  | x :: xs, k => normL_eq xs _
def St.norm (Q : St → Prop) (st : St) : Prop := normL (fun sl => normL (fun os => Q ⟨sl, os⟩) st.os) st.slots
theorem St.norm_eq (Q : St → Prop) (st : St) : St.norm Q st = Q st := by simp only [St.norm, normL_eq]
def lenK (k : Nat → Prop) : Nat → List Ob → Prop
  | n, [] => k n
  | n, _ :: xs => lenK k (n + 1) xs
theorem lenK_eq (k : Nat → Prop) : ∀ (xs : List Ob) (n : Nat), lenK k n xs = k (n + xs.length)
  | [], n => rfl
  | _ :: xs, n => by rw [lenK, lenK_eq k xs (n + 1), List.length_cons, show n + 1 + xs.length = n + (xs.length + 1) by omega]
def forceL (k : List SV → Prop) : List SV → Prop
  | [] => k []
  | x :: xs => SV.force (fun y => forceL (fun ys => k (y :: ys)) xs) x
theorem forceL_eq : ∀ (l : List SV) (k : List SV → Prop), forceL k l = k l
  | [], _ => rfl
  | x :: xs, k => by rw [forceL, SV.force_eq, forceL_eq xs]
def SV.forceA (k : SV → Prop) (x : SV) : Prop := SV.force (fun y => match y with
  | .agg cs => forceL (fun ds => k (.agg ds)) cs
  | z => k z) x
theorem SV.forceA_eq (k : SV → Prop) (x : SV) : SV.forceA k x = k x := by
  unfold SV.forceA
  rw [SV.force_eq]
  split
  · rw [forceL_eq]
  · rfl
def forceLA (k : List SV → Prop) : List SV → Prop
  | [] => k []
  | x :: xs => SV.forceA (fun y => forceLA (fun ys => k (y :: ys)) xs) x
theorem forceLA_eq : ∀ (l : List SV) (k : List SV → Prop), forceLA k l = k l
  | [], _ => rfl
  | x :: xs, k => by rw [forceLA, SV.forceA_eq, forceLA_eq xs]
/-- A value whose parts are written out. -/
def SV.forceR (k : SV → Prop) (x : SV) : Prop := SV.force (fun y => match y with
  | .agg cs => forceL (fun ds => k (.agg ds)) cs
  | .tup cs => forceLA (fun ds => k (.tup ds)) cs
  | z => k z) x
theorem SV.forceR_eq (k : SV → Prop) (x : SV) : SV.forceR k x = k x := by
  unfold SV.forceR
  rw [SV.force_eq]
  split
  · rw [forceL_eq]
  · rw [forceLA_eq]
  · rfl
def wpOutN (env : Env) (st : St) (dst : Option Tmp) (Q : St → Prop) (E : Int → Prop) : Out → Prop
  | .val x => SV.forceA (fun y => St.norm Q (st.put dst y)) x
  | .pick t x y => ifB t (SV.forceA (fun z => St.norm Q (st.put dst z)) x) (SV.forceA (fun z => St.norm Q (st.put dst z)) y)
  | .new (.var T cs) x => forceL (fun ds => lenK (fun k => St.norm Q ({ st with os := st.os ++ [Ob.var T ds] }.put dst (x k))) 0 st.os) cs
  | .new o x => lenK (fun k => St.norm Q ({ st with os := st.os ++ [o] }.put dst (x k))) 0 st.os
  | .put i off cs => match st.os[i]? with
    | some (.var T ds) => forceL (fun es => St.norm Q ({ st with os := st.os.set i (Ob.var T es) }.put dst .undef)) (setMany ds off cs)
    | _ => False
  | .app Option.none l => lenK (fun k => St.norm Q ({ st with os := st.os ++ [Ob.row l] }.put dst (SV.row k))) 0 st.os
  | .call f xs fz => match env f xs with
    | some (pre, r) => pre ∧ wpRes (fun x => match fz.isEmpty || x.dry with
      | true => SV.forceR (fun y => St.norm Q (st.put dst y)) x
      | false => SV.forceR (fun y => St.norm Q ({ st with os := kill st.os fz }.put dst y)) x) E r
    | Option.none => match env.fresh f xs, fz with
      | some (pre, l), [] => pre ∧ St.norm Q ({ st with os := st.os ++ [Ob.row l] }.put dst (SV.row st.os.length))
      | _, _ => False
  | o => wpOut env st dst (St.norm Q) E o
theorem wpOutN_eq {env : Env} {st : St} {dst : Option Tmp} {Q : St → Prop} {E : Int → Prop} (o : Out) : wpOutN env st dst Q E o = wpOut env st dst Q E o := by
  have h : St.norm Q = Q := funext fun st => St.norm_eq Q st
  unfold wpOutN
  split
  · rw [SV.forceA_eq, h]; rfl
  · rw [SV.forceA_eq, SV.forceA_eq, h]; rfl
  · rw [forceL_eq, lenK_eq, h, Nat.zero_add]; rfl
  · rw [lenK_eq, h, Nat.zero_add]; rfl
  · simp only [forceL_eq, h]; rfl
  · rw [lenK_eq, h, Nat.zero_add]; rfl
  · simp only [SV.forceR_eq, h]; rfl
  · rw [h]
def OV.wp (env : Env) (st : St) (dst : Option Tmp) (Q : St → Prop) (E : Int → Prop) : OV → Prop
  | .free o => wpOutN env st dst Q E o
  | .cond c o => c ∧ wpOutN env st dst Q E o
theorem OV.wp_spec {env : Env} {st : St} {dst : Option Tmp} {Q : St → Prop} {E : Int → Prop} {ov : OV} (h : ov.wp env st dst Q E) : ov.ok ∧ wpOut env st dst Q E ov.out := by
  cases ov with
  | free o => exact ⟨trivial, wpOutN_eq o ▸ h⟩
  | cond c o => exact ⟨h.1, wpOutN_eq o ▸ h.2⟩
theorem arith_spec {k : IntKind} {n : Int} (h : (arith k n).ok) : (arith k n).out = .val (.int k (k.wrap n)) := by
  cases k <;> simp only [arith, OV.out, OV.ok] at h ⊢
  · rw [IntWalk.i64_in n (by omega)]
  · rw [IntKind.wrap_u32]
  · rw [IntKind.wrap_u64]
theorem also_spec {c : Prop} {ov : OV} (h : (ov.also c).ok) : c ∧ ov.ok ∧ (ov.also c).out = ov.out := by
  cases ov with
  | free o => exact ⟨h, trivial, rfl⟩
  | cond d o => exact ⟨h.1, h.2, rfl⟩
theorem binV_spec {bl : Bool} {op : BinOp} {x y : SV} (h : (binV bl op x y).ok) : (binV bl op x y).out = (match binSem bl op x y with | some z => .val z | Option.none => .none) := by
  unfold binV at h ⊢
  split
  · rename_i k a k' b
    split
    · obtain ⟨h1, h2, h3⟩ := also_spec h
      rw [h3, arith_spec h2]
      have hb : ¬ b < 0 := by omega
      simp only [binSem, if_neg hb]
    · have hb : 0 ≤ b := h
      have hb' : ¬ b < 0 := by omega
      simp only [binSem, if_neg hb', OV.out]
    · by_cases e : k = k'
      · simp only [e, if_true] at h ⊢
        rw [arith_spec h]; simp [binSem]
      · simp [e, binSem, OV.out]
    · by_cases e : k = k'
      · simp only [e, if_true] at h ⊢
        rw [arith_spec h]; simp [binSem]
      · simp [e, binSem, OV.out]
    · by_cases e : k = k'
      · simp only [e, if_true] at h ⊢
        rw [arith_spec h]; simp [binSem]
      · simp [e, binSem, OV.out]
    · by_cases e : k = k'
      · simp only [e, if_true] at h ⊢
        obtain ⟨h1, h2, h3⟩ := also_spec h
        rw [h3, arith_spec h2]; simp [binSem, h1]
      · simp [e, binSem, OV.out]
    · by_cases e : k = k'
      · simp only [e, if_true] at h ⊢
        have hb : b ≠ 0 := h
        simp [binSem, hb, OV.out]
      · simp [e, binSem, OV.out]
    · rfl
  · rfl
theorem bound_of {ev : Operand → SV} {d n : Nat} {c : Prop} {x : Option Operand} (h : boundV ev d x = some (c, n)) (hc : c) : bound ev d x = some n := by
  cases x with
  | none => simp [boundV] at h; simp [bound, h.2]
  | some y =>
    simp only [boundV] at h
    split at h
    · rename_i k z he
      simp only [Option.some.injEq, Prod.mk.injEq] at h
      obtain ⟨rfl, rfl⟩ := h
      simp [bound, he, hc]
    · cases h
theorem opV_spec {tab : Tb} {os : List Ob} {ev : Operand → SV} {op : Op} (h : (opV tab os ev op).ok) : (opV tab os ev op).out = opSem tab os ev op ∨ (opV tab os ev op).out = .none := by
  cases op <;> try (exact .inl rfl)
  case binOp op T x y yT =>
    left
    cases hn : nilCmp op y (ev x) (ev y) with
    | true => simp only [opV, opSem, hn, OV.out]
    | false =>
      simp only [opV, hn] at h
      simp only [opV, opSem, hn]
      exact binV_spec h
  case unOp o T x =>
    cases o <;> try (exact .inl rfl)
    cases hx : ev x <;> (try simp only [opV, hx] at h ⊢) <;> try (exact .inr rfl)
    left
    simp only [opSem, hx]
    exact arith_spec h
  case convert S T x =>
    cases hx : ev x <;> (try simp only [opV, hx] at h ⊢) <;> try (exact .inr rfl)
    rename_i k n
    cases hT : tab T with
    | none => exact .inr rfl
    | some ti =>
      simp only [hT] at h ⊢
      cases hk : ti.ik with
      | none => exact .inr rfl
      | some k =>
        simp only [hk] at h ⊢
        left
        simp only [opSem, hx, hT, hk]
        exact arith_spec h
  case load T a =>
    cases hx : ev a <;> (try simp only [opV, hx] at h ⊢) <;> try (exact .inl rfl)
    rename_i i j
    cases hT : tab T with
    | none => exact .inr rfl
    | some ti =>
      simp only [hT] at h ⊢
      cases hr : ti.row <;> cases ho : os[i]? <;> (try simp only [hr, ho] at h ⊢) <;> try (exact .inr rfl)
      rename_i ob
      cases ob <;> (try simp only  at h ⊢) <;> try (exact .inr rfl)
      left
      have hj : j < _ := h
      simp only [opSem, hx, hT, hr, ho, if_pos hj, OV.out]
  case store T a x =>
    cases hx : ev a <;> (try simp only [opV, hx] at h ⊢) <;> try (exact .inl rfl)
    rename_i i j
    cases hT : tab T with
    | none => exact .inr rfl
    | some ti =>
      simp only [hT] at h ⊢
      cases hr : ti.row <;> cases ho : os[i]? <;> (try simp only [hr, ho] at h ⊢) <;> try (exact .inr rfl)
      rename_i ob
      cases ob <;> (try simp only  at h ⊢) <;> try (exact .inr rfl)
      rename_i l
      cases hv : ev x <;> (try simp only [hv] at h ⊢) <;> try (exact .inr rfl)
      rename_i k n
      cases k <;> (try simp only  at h ⊢) <;> try (exact .inr rfl)
      left
      have hj : j < l.length ∧ ti.zero.length = 1 ∧ 0 ≤ n ∧ n < 4294967296 := h
      simp only [opSem, hx, hT, hr, ho, hv, if_pos hj, OV.out]
  case indexAddr T a i =>
    cases hi : asInt? (ev i) with
    | none => simp only [opV, hi] at h ⊢; exact .inr rfl
    | some n =>
      cases hx : ev a
      case row k =>
        simp only [opV, hi, hx] at h ⊢
        cases hr : isArr tab T <;> cases ho : os[k]? <;> (try simp only [hr, ho] at h ⊢) <;> try (exact .inr rfl)
        rename_i ob
        cases ob <;> (try simp only  at h ⊢) <;> try (exact .inr rfl)
        left
        have hj : 0 ≤ n ∧ n < _ := h
        simp only [opSem, hi, hx, hr, ho, if_pos hj, OV.out]
      case ptr k off => simp only [opV, hi, hx]; exact .inl rfl
      case view k lo hi' =>
        simp only [opV, hi, hx] at h ⊢
        cases hr : isArr tab T <;> cases ho : os[k]? <;> (try simp only [hr, ho] at h ⊢) <;> try (exact .inr rfl)
        rename_i ob
        cases ob <;> (try simp only  at h ⊢) <;> try (exact .inr rfl)
        rename_i l
        left
        have hj : 0 ≤ n ∧ n < ((hi' - lo : Nat) : Int) ∧ lo + n.toNat < l.length := h
        simp only [opSem, hi, hx, hr, ho, if_pos hj, OV.out]
      all_goals
        simp only [opV, hi, hx] at h ⊢
        cases hr : isArr tab T <;> (try simp only [SV.list, hr] at h ⊢) <;> first
          | exact .inr rfl
          | (left
             have hj : 0 ≤ n ∧ n < _ := h
             simp only [opSem, hi, hx, hr, SV.list, if_pos hj, OV.out])
  case makeSlice T n c =>
    cases hn : asInt? (ev n) <;> cases hc : asInt? (ev c) <;> (try simp only [opV, hn, hc] at h ⊢) <;> try (exact .inr rfl)
    rename_i a b
    left
    have hj : 0 ≤ a ∧ a ≤ b ∧ b ≤ (cap30 : Int) := h
    simp only [opSem, hn, hc, if_pos hj, OV.out]
  case buildSlice T n ps =>
    simp only [opV, opSem] at h ⊢
    split
    · exact .inl rfl
    · rename_i x hps
      simp only [hps] at h
      cases hx : ev x <;> (try simp only [hx] at h ⊢) <;> try (exact .inr rfl)
      rename_i k a
      cases k <;> (try simp only  at h ⊢) <;> try (exact .inr rfl)
      left
      have hj : 0 ≤ a ∧ a < 4294967296 := h
      simp only [if_pos hj, OV.out]
    · rename_i x y hps
      simp only [hps] at h
      cases hx : ev x <;> (try simp only [hx] at h ⊢) <;> try (exact .inr rfl)
      rename_i k a
      cases k <;> (try simp only  at h ⊢) <;> try (exact .inr rfl)
      cases hy : ev y <;> (try simp only [hy] at h ⊢) <;> try (exact .inr rfl)
      rename_i k b
      cases k <;> (try simp only  at h ⊢) <;> try (exact .inr rfl)
      left
      have hj : 0 ≤ a ∧ a < 4294967296 ∧ 0 ≤ b ∧ b < 4294967296 := h
      simp only [if_pos hj, OV.out]
    · exact .inr rfl
  case slice T x lo hi mx =>
    cases mx with
    | some _ => exact .inr rfl
    | none =>
      have two : ∀ d (g : Nat → Nat → Prop) (_ : ∀ a b, Decidable (g a b)) (o : Nat → Nat → Out), 
          (match boundV ev 0 lo, boundV ev d hi with
            | some (ca, a), some (cb, b) => OV.cond (ca ∧ cb ∧ g a b) (o a b)
            | _, _ => .free .none).ok →
          (match boundV ev 0 lo, boundV ev d hi with
            | some (ca, a), some (cb, b) => OV.cond (ca ∧ cb ∧ g a b) (o a b)
            | _, _ => .free .none).out = (match bound ev 0 lo, bound ev d hi with
            | some a, some b => if g a b then o a b else .none
            | _, _ => .none) ∨ (match boundV ev 0 lo, boundV ev d hi with
            | some (ca, a), some (cb, b) => OV.cond (ca ∧ cb ∧ g a b) (o a b)
            | _, _ => .free .none).out = .none := by
        intro d g _ o h
        cases h1 : boundV ev 0 lo with
        | none => exact .inr rfl
        | some p =>
          cases h2 : boundV ev d hi with
          | none => exact .inr rfl
          | some q =>
            obtain ⟨ca, a⟩ := p
            obtain ⟨cb, b⟩ := q
            simp only [h1, h2] at h ⊢
            have hh : ca ∧ cb ∧ g a b := h
            left
            rw [bound_of h1 hh.1, bound_of h2 hh.2.1]
            simp only [if_pos hh.2.2, OV.out]
      cases hx : ev x
      case row i =>
        simp only [opV, hx] at h ⊢
        cases ho : os[i]? <;> (try simp only [ho] at h ⊢) <;> try (exact .inr rfl)
        rename_i ob
        cases ob <;> (try simp only  at h ⊢) <;> try (exact .inr rfl)
        rename_i l
        rcases two l.length (fun a b => a ≤ b ∧ b ≤ l.length ∧ (a = 0 ∨ a < b) ∧ 0 < l.length) (fun _ _ => inferInstance) (fun a b => .val (.view i a b)) h with h' | h'
        · left
          rw [h']
          simp only [opSem, hx, ho]
        · exact .inr h'
      all_goals
        simp only [opV, hx, SV.list] at h ⊢
        first
          | exact .inr rfl
          | (rcases two _ (fun a b => a ≤ b ∧ b ≤ _) (fun _ _ => inferInstance) (fun a b => .val (.words ((List.take b _).drop a))) h with h' | h'
             · left
               rw [h']
               simp only [opSem, hx, SV.list]
             · exact .inr h')
  case call c =>
    simp only [opV, opSem] at h ⊢
    split
    · rename_i hc
      simp only [hc] at h
      split
      · rename_i x y ha
        simp only [ha] at h
        cases hb : baseOf os (ev x) <;> cases hl : listOf os (ev y) <;> (try simp only [hb, hl] at h ⊢) <;> try (exact .inr rfl)
        rename_i p l'
        obtain ⟨i, l⟩ := p
        cases ha : tab.app <;> cases i <;> simp only [ha] at h ⊢ <;> first
          | exact .inr rfl
          | (left
             have hj : l.length + l'.length ≤ cap30 := h
             simp only [hc, if_pos hj, OV.out])
      · exact .inr rfl
    · rename_i hc
      simp only [hc] at h
      split
      · rename_i x y ha
        simp only [ha] at h
        cases hs : (ev y).list with
        | none => cases hx : ev x <;> exact .inr rfl
        | some src =>
          cases hx : ev x <;> (try simp only [hx, hs] at h ⊢) <;> try (exact .inr rfl)
          rename_i i
          cases ho : os[i]? <;> (try simp only [ho] at h ⊢) <;> try (exact .inr rfl)
          rename_i ob
          cases ob <;> (try simp only  at h ⊢) <;> try (exact .inr rfl)
          rename_i l
          left
          have hj : 0 < l.length := h
          simp only [hc, if_pos hj, OV.out]
      · exact .inr rfl
    · exact .inl rfl

theorem OV.wp_sem {tab : Tb} {env : Env} {st : St} {op : Op} {dst : Option Tmp} {Q : St → Prop} {E : Int → Prop} (h : (opV tab st.os st.ev op).wp env st dst Q E) : (opV tab st.os st.ev op).out = opSem tab st.os st.ev op ∧ wpOut env st dst Q E (opSem tab st.os st.ev op) := by
  obtain ⟨h1, h2⟩ := OV.wp_spec h
  rcases opV_spec h1 with e | e
  · exact ⟨e, e ▸ h2⟩
  · rw [e] at h2; exact h2.elim
/-- Is a guarded operation run? -/
def wantedSem (ops : Array Oper) (st : St) (o : Oper) : Option Bool :=
  match o.guard with
  | Option.none => some true
  | some (j, want) => match (ops[j]?).bind (·.dst) with
    | some d => match st.slots.getD d .undef with
      | .bool b => some (b == want)
      | .tup [] => some false
      | _ => Option.none
    | Option.none => Option.none

/-- Does another operation of the region hang on this one's truth? -/
def isGate (ops : Array Oper) (o : Oper) : Bool :=
  match o.dst with
  | Option.none => false
  | some d => ops.toList.any fun p => (match p.guard with | some (j, _) => ((ops[j]?).bind (·.dst)) == some d | Option.none => false) ||
      (match p.op with | .pick (.tmp t) _ _ => t == d | _ => false)

/-- At a gate the state parts on its truth, and goes on with the literal. -/
def gated (dst : Option Tmp) (Q : St → Prop) (st : St) : Prop :=
  match dst with
  | some d => match st.slots.getD d .undef with
    | .bool b => ifB b (St.norm Q { st with slots := st.slots.set d (.bool true) }) (St.norm Q { st with slots := st.slots.set d (.bool false) })
    | _ => Q st
  | Option.none => Q st

noncomputable def wpOpsT (tab : Tb) (env : Env) (ops : Array Oper) (Q : St → Prop) (E : Int → Prop) : List Oper → St → Prop
  | [], st => Q st
  | o :: rest, st => match wantedSem ops st o with
    | some true => (opV tab st.os st.ev o.op).wp env st o.dst (fun st' => if isGate ops o then gated o.dst (wpOpsT tab env ops Q E rest) st' else wpOpsT tab env ops Q E rest st') E
    | some false => St.norm (wpOpsT tab env ops Q E rest) (st.put o.dst (.tup []))
    | Option.none => False

inductive Ex where
  | normal
  | exit (id : Nat)
  | ret

/-- Rounds of a loop, at most n. -/
def wpLoop (body : St → (Ex → St → Prop) → Prop) : Nat → St → (Ex → St → Prop) → Prop
  | 0, _, _ => False
  | n + 1, st, Q => body st fun e st' => match e with
    | .normal => wpLoop body n st' Q
    | e => Q e st'

/-- Code in the text's order. D: what is asked of a region that draws its order. -/
noncomputable def wpC (tab : Tb) (env : Env) (D : Array Oper → St → (St → Prop) → (Int → Prop) → Prop) (E : Int → Prop) : Code → St → (Ex → St → Prop) → Prop
  | .skip, st, Q => Q .normal st
  | .region _ ops false, st, Q => wpOpsT tab env ops (Q .normal) E ops.toList st
  | .region _ ops true, st, Q => D ops st (Q .normal) E
  | .seq a b, st, Q => wpC tab env D E a st fun e st' => match e with
    | .normal => wpC tab env D E b st' Q
    | e => Q e st'
  | .cond c a b, st, Q => match st.ev c with
    | .bool t => ifB t (wpC tab env D E a st Q) (wpC tab env D E b st Q)
    | .ub => wpC tab env D E a st Q ∧ wpC tab env D E b st Q
    | _ => False
  | .block id a, st, Q => wpC tab env D E a st fun e st' => match e with
    | .exit j => if j = id then Q .normal st' else Q (.exit j) st'
    | e => Q e st'
  | .loop a, st, Q => ∃ n, wpLoop (wpC tab env D E a) n st Q
  | .exit id, st, Q => Q (.exit id) st
  | .ret, st, Q => Q .ret st
  | _, _, _ => False

def resOne (tab : Tb) (st : St) : ResultVar → Option SV
  | .tmp t => some (st.slots.getD t .undef)
  | .cell a T => match st.slots.getD a .undef with
    | .ptr i 0 => match st.os[i]?, tab T with
      | some (.var _ cs), some ti => match ti.row with
        | true => if cs.length = ti.zero.length then some (.agg cs) else Option.none
        | false => cs[0]?
      | _, _ => Option.none
    | _ => Option.none
def resAll (tab : Tb) (st : St) : List ResultVar → Option (List SV)
  | [] => some []
  | r :: rs => match resOne tab st r, resAll tab st rs with
    | some x, some xs => some (x :: xs)
    | _, _ => Option.none
def resOf (tab : Tb) (st : St) (rs : List ResultVar) : Option SV :=
  match resAll tab st rs with
  | some [x] => some x
  | some xs => some (.tup xs)
  | Option.none => Option.none
/-- A result as the caller gets it. -/
def outOf (os : List Ob) : SV → Option SV
  | .row i => match os[i]? with | some (.row l) => some (.words l) | _ => Option.none
  | .tup xs => (go xs).map .tup
  | .agg xs => (go xs).map .agg
  | x => if x.clean then some x else Option.none
where
  go : List SV → Option (List SV)
    | [] => some []
    | .row i :: xs => match os[i]? with | some (.row l) => (go xs).map (.words l :: ·) | _ => Option.none
    | x :: xs => if x.clean then (go xs).map (x :: ·) else Option.none

/-- A whole function. -/
noncomputable def wpF (tab : Tb) (env : Env) (D : Array Oper → St → (St → Prop) → (Int → Prop) → Prop) (fn : Func) (args : List SV) (K : Except Int SV → Prop) : Prop :=
  match fn.body with
  | some c => wpC tab env D (fun e => K (.error e)) c { slots := args ++ List.replicate (fn.ntmps - args.length) .undef, os := [] } fun e st => match e with
    | .exit _ => False
    | _ => match resOf tab st fn.results.toList with
      | some x => match outOf st.os x with
        | some y => K (.ok y)
        | Option.none => False
      | Option.none => False
  | Option.none => False
end Iv
end Go.Proofs.YtfajgibpidlojaaDoor
end

section
/- The verified interpreter, part B: its operations are what the machine does. Conditions: the table of types is the program's (TabOK). -/
set_option linter.unusedVariables false
set_option linter.unusedSimpArgs false
namespace Go.Proofs.YtfajgibpidlojaaDoor
namespace Iv
open Go

/-! ### The relation's own laws -/
section
variable {M M' : Nat → Prop} {N N' : Nat} {bnd bnd' : Nat → Option Value} {w w' : World}

theorem RpL.length : ∀ {cs : List SV} {vs : List Value}, RpL M N bnd w cs vs → vs.length = cs.length
  | [], _, h => by simp [RpL] at h; simp [h]
  | c :: cs, vs, h => by
    obtain ⟨v, vs', rfl, _, h'⟩ := h
    simp [RpL.length h']
theorem RpL.get : ∀ {cs : List SV} {vs : List Value}, RpL M N bnd w cs vs → ∀ (i : Nat) (x : SV), cs[i]? = some x → ∃ v, vs[i]? = some v ∧ Rp M N bnd w x v
  | [], _, _, i, x, hx => by simp at hx
  | c :: cs, vs, h, i, x, hx => by
    obtain ⟨v, vs', rfl, hv, h'⟩ := h
    cases i with
    | zero => simp at hx; subst hx; exact ⟨v, by simp, hv⟩
    | succ i => simp at hx; obtain ⟨u, hu, hr⟩ := RpL.get h' i x hx; exact ⟨u, by simpa using hu, hr⟩
theorem RpL.drop : ∀ {cs : List SV} {vs : List Value} (n : Nat), RpL M N bnd w cs vs → RpL M N bnd w (cs.drop n) (vs.drop n)
  | cs, vs, 0, h => by simpa using h
  | [], vs, n + 1, h => by simp [RpL] at h; subst h; simp [RpL]
  | c :: cs, vs, n + 1, h => by
    obtain ⟨v, vs', rfl, _, h'⟩ := h
    simpa using RpL.drop n h'
theorem RpL.take : ∀ {cs : List SV} {vs : List Value} (n : Nat), RpL M N bnd w cs vs → RpL M N bnd w (cs.take n) (vs.take n)
  | cs, vs, 0, h => by simp [RpL]
  | [], vs, n + 1, h => by simp [RpL] at h; subst h; simp [RpL]
  | c :: cs, vs, n + 1, h => by
    obtain ⟨v, vs', rfl, hv, h'⟩ := h
    simp only [List.take_succ_cons]
    exact ⟨v, _, rfl, hv, RpL.take n h'⟩
theorem RpL.append : ∀ {cs ds : List SV} {vs us : List Value}, RpL M N bnd w cs vs → RpL M N bnd w ds us → RpL M N bnd w (cs ++ ds) (vs ++ us)
  | [], ds, vs, us, h, k => by simp [RpL] at h; subst h; simpa using k
  | c :: cs, ds, vs, us, h, k => by
    obtain ⟨v, vs', rfl, hv, h'⟩ := h
    exact ⟨v, vs' ++ us, by simp, hv, RpL.append h' k⟩
theorem RpL.set : ∀ {cs : List SV} {vs : List Value} (i : Nat) {x : SV} {u : Value}, RpL M N bnd w cs vs → Rp M N bnd w x u → RpL M N bnd w (cs.set i x) (vs.set i u)
  | [], vs, i, x, u, h, _ => by simp [RpL] at h; subst h; simp [RpL]
  | c :: cs, vs, 0, x, u, h, hu => by
    obtain ⟨v, vs', rfl, hv, h'⟩ := h
    exact ⟨u, vs', rfl, hu, h'⟩
  | c :: cs, vs, i + 1, x, u, h, hu => by
    obtain ⟨v, vs', rfl, hv, h'⟩ := h
    exact ⟨v, vs'.set i u, rfl, hv, RpL.set i h' hu⟩
theorem RpL.replicate_undef : ∀ (n : Nat) (v : Value), RpL M N bnd w (List.replicate n .undef) (List.replicate n v)
  | 0, v => by simp [RpL]
  | n + 1, v => ⟨v, List.replicate n v, rfl, by simp [Rp], RpL.replicate_undef n v⟩
theorem RpL.getD {cs : List SV} {vs : List Value} (h : RpL M N bnd w cs vs) (i : Nat) (d : Value) : Rp M N bnd w (cs.getD i .undef) (vs.getD i d) := by
  cases hx : cs[i]? with
  | none => simp [List.getD_eq_getElem?_getD, hx, Rp]
  | some x =>
    obtain ⟨v, hv, hr⟩ := h.get i x hx
    simp [List.getD_eq_getElem?_getD, hx, hv, hr]

/-- What the worlds and the bindings have in common as far as a value can see. -/
structure Sees (M M' : Nat → Prop) (N N' : Nat) (bnd bnd' : Nat → Option Value) (w w' : World) : Prop where
  more : ∀ b, M' b → M b ∨ ∀ o, w.heap[b]? ≠ some o
  low : N ≤ N'
  bnd : ∀ i v, bnd i = some v → bnd' i = some v
  old : ∀ b o, w.heap[b]? = some o → (¬ M b ∨ b < N) → w'.heap[b]? = some o
theorem Ws.sees {l : List Nat} {v : Value} (h : Ws M w l v) (s : Sees M M' N N' bnd bnd' w w') : Ws M' w' l v := by
  obtain ⟨h1, h2, a, c, rfl, hc, hl⟩ := h
  refine ⟨h1, h2, a, c, rfl, hc, fun hp => ?_⟩
  obtain ⟨ad, rfl, hm, hx⟩ := hl hp
  have h0 := hx 0 hp
  have hb : ∃ o, w.heap[ad.block]? = some o := by
    have : w.cell? (ad.add 0) = some _ := h0
    simp only [World.cell?, Addr.add, if_true] at this
    cases hq : w.heap[ad.block]? with
    | none => simp [hq] at this
    | some o => exact ⟨o, rfl⟩
  obtain ⟨o, ho⟩ := hb
  have hold := s.old _ o ho (.inl hm)
  refine ⟨ad, rfl, fun hm' => ?_, fun j hj => ?_⟩
  · rcases s.more _ hm' with h | h
    · exact hm h
    · exact h o ho
  · have hj' := hx j hj
    have hbl : (ad.add j).block = ad.block := by unfold Addr.add; split <;> rfl
    rw [World.cell?_of_block (w := w) (by rw [hbl, hold, ho])]
    exact hj'
mutual
theorem Rp.sees (s : Sees M M' N N' bnd bnd' w w') : ∀ {x : SV} {v : Value}, Rp M N bnd w x v → Rp M' N' bnd' w' x v
  | .undef, _, _ => by simp [Rp]
  | .nil, _, h => by simpa [Rp] using h
  | .bool _, _, h => by simpa [Rp] using h
  | .int _ _, _, h => by simpa [Rp] using h
  | .words l, _, h => by simp only [Rp] at h ⊢; exact h.sees s
  | .n32 a, _, h => by simp only [Rp] at h ⊢; exact h.sees s
  | .n16 a, _, h => by simp only [Rp] at h ⊢; exact h.sees s
  | .agg cs, _, h => by simp only [Rp] at h ⊢; obtain ⟨vs, e, hl⟩ := h; exact ⟨vs, e, RpL.sees s hl⟩
  | .tup cs, _, h => by simp only [Rp] at h ⊢; obtain ⟨vs, e, hl⟩ := h; exact ⟨vs, e, RpL.sees s hl⟩
  | .ptr i off, _, h => by simp only [Rp] at h ⊢; obtain ⟨b, hb, e⟩ := h; exact ⟨b, s.bnd _ _ hb, e⟩
  | .ref cs off, _, h => by
    simp only [Rp] at h ⊢
    obtain ⟨b, T, vs, hb, e, hh, hl⟩ := h
    exact ⟨b, T, vs, Nat.lt_of_lt_of_le hb s.low, e, s.old _ _ hh (.inr hb), RpL.sees s hl⟩
  | .elem n, _, h => by
    simp only [Rp] at h ⊢
    obtain ⟨ad, e, hm, hc⟩ := h
    have hb : ∃ o, w.heap[ad.block]? = some o := by
      simp only [World.cell?] at hc
      cases hq : w.heap[ad.block]? with
      | none => simp [hq] at hc
      | some o => exact ⟨o, rfl⟩
    obtain ⟨o, ho⟩ := hb
    refine ⟨ad, e, fun hm' => ?_, ?_⟩
    · rcases s.more _ hm' with h | h
      · exact hm h
      · exact h o ho
    · rw [World.cell?_of_block (w := w) (by rw [s.old _ o ho (.inl hm), ho])]
      exact hc
  | .row i, _, h => by simp only [Rp] at h ⊢; exact ⟨s.bnd _ _ h.1, h.2⟩
  | .rptr i j, _, h => by simp only [Rp] at h ⊢; obtain ⟨b, n, c, hb, e⟩ := h; exact ⟨b, n, c, s.bnd _ _ hb, e⟩
  | .fn f caps, _, h => by simp only [Rp] at h ⊢; obtain ⟨vs, e, hl⟩ := h; exact ⟨vs, e, RpL.sees s hl⟩
  | .view i lo hi, _, h => by simp only [Rp] at h ⊢; obtain ⟨b, n, c, h1, h2⟩ := h; exact ⟨b, n, c, s.bnd _ _ h1, h2⟩
  | .ub, _, h => by simpa [Rp] using h
theorem RpL.sees (s : Sees M M' N N' bnd bnd' w w') : ∀ {cs : List SV} {vs : List Value}, RpL M N bnd w cs vs → RpL M' N' bnd' w' cs vs
  | [], _, h => by simpa [RpL] using h
  | c :: cs, _, h => by
    obtain ⟨v, vs', e, hv, h'⟩ := h
    exact ⟨v, vs', e, Rp.sees s hv, RpL.sees s h'⟩
end

mutual
/-- A plain value does not ask of the bindings. -/
theorem Rp.plain_bnd (bnd' : Nat → Option Value) : ∀ {x : SV} {v : Value}, x.plain = true → Rp M N bnd w x v → Rp M N bnd' w x v
  | .undef, _, hp, _ => by simp [SV.plain] at hp
  | .nil, _, _, h => by simpa [Rp] using h
  | .bool _, _, _, h => by simpa [Rp] using h
  | .int _ _, _, _, h => by simpa [Rp] using h
  | .words l, _, _, h => by simpa [Rp] using h
  | .n32 a, _, _, h => by simpa [Rp] using h
  | .n16 a, _, _, h => by simpa [Rp] using h
  | .agg cs, _, hp, h => by simp only [Rp] at h ⊢; obtain ⟨vs, e, hl⟩ := h; exact ⟨vs, e, RpL.plain_bnd bnd' (by simpa [SV.plain] using hp) hl⟩
  | .tup cs, _, hp, h => by simp only [Rp] at h ⊢; obtain ⟨vs, e, hl⟩ := h; exact ⟨vs, e, RpL.plain_bnd bnd' (by simpa [SV.plain] using hp) hl⟩
  | .ptr i off, _, hp, _ => by simp [SV.plain] at hp
  | .ref cs off, _, hp, h => by simp only [Rp] at h ⊢; obtain ⟨b, T, vs, hb, e, hh, hl⟩ := h; exact ⟨b, T, vs, hb, e, hh, RpL.plain_bnd bnd' (by simpa [SV.plain] using hp) hl⟩
  | .elem n, _, _, h => by simpa [Rp] using h
  | .row i, _, hp, _ => by simp [SV.plain] at hp
  | .rptr i j, _, hp, _ => by simp [SV.plain] at hp
  | .fn f caps, _, hp, h => by simp only [Rp] at h ⊢; obtain ⟨vs, e, hl⟩ := h; exact ⟨vs, e, RpL.plain_bnd bnd' (by simpa [SV.plain] using hp) hl⟩
  | .view _ _ _, _, hp, _ => by simp [SV.plain] at hp
  | .ub, _, _, h => by simpa [Rp] using h
theorem RpL.plain_bnd (bnd' : Nat → Option Value) : ∀ {cs : List SV} {vs : List Value}, SV.plainL cs = true → RpL M N bnd w cs vs → RpL M N bnd' w cs vs
  | [], _, _, h => by simpa [RpL] using h
  | c :: cs, _, hp, h => by
    simp only [SV.plainL, Bool.and_eq_true] at hp
    obtain ⟨v, vs', e, hv, h'⟩ := h
    exact ⟨v, vs', e, Rp.plain_bnd bnd' hp.1 hv, RpL.plain_bnd bnd' hp.2 h'⟩
end
mutual
/-- A dry value leads to no memory. -/
theorem Rp.dry_any (M' : Nat → Prop) (N' : Nat) (bnd' : Nat → Option Value) (w' : World) : ∀ {x : SV} {v : Value}, x.dry = true → Rp M N bnd w x v → Rp M' N' bnd' w' x v
  | .nil, _, _, h => by simpa [Rp] using h
  | .bool _, _, _, h => by simpa [Rp] using h
  | .int _ _, _, _, h => by simpa [Rp] using h
  | .agg cs, _, hp, h => by simp only [Rp] at h ⊢; obtain ⟨vs, e, hl⟩ := h; exact ⟨vs, e, RpL.dry_any M' N' bnd' w' (by simpa [SV.dry] using hp) hl⟩
  | .tup cs, _, hp, h => by simp only [Rp] at h ⊢; obtain ⟨vs, e, hl⟩ := h; exact ⟨vs, e, RpL.dry_any M' N' bnd' w' (by simpa [SV.dry] using hp) hl⟩
  | .undef, _, hp, _ => by simp [SV.dry] at hp
  | .words _, _, hp, _ => by simp [SV.dry] at hp
  | .n32 _, _, hp, _ => by simp [SV.dry] at hp
  | .n16 _, _, hp, _ => by simp [SV.dry] at hp
  | .ptr _ _, _, hp, _ => by simp [SV.dry] at hp
  | .ref _ _, _, hp, _ => by simp [SV.dry] at hp
  | .elem _, _, hp, _ => by simp [SV.dry] at hp
  | .row _, _, hp, _ => by simp [SV.dry] at hp
  | .rptr _ _, _, hp, _ => by simp [SV.dry] at hp
  | .fn _ _, _, hp, _ => by simp [SV.dry] at hp
  | .view _ _ _, _, hp, _ => by simp [SV.dry] at hp
  | .ub, _, hp, _ => by simp [SV.dry] at hp
theorem RpL.dry_any (M' : Nat → Prop) (N' : Nat) (bnd' : Nat → Option Value) (w' : World) : ∀ {cs : List SV} {vs : List Value}, SV.dryL cs = true → RpL M N bnd w cs vs → RpL M' N' bnd' w' cs vs
  | [], _, _, h => by simpa [RpL] using h
  | c :: cs, _, hp, h => by
    simp only [SV.dryL, Bool.and_eq_true] at hp
    obtain ⟨v, vs', e, hv, h'⟩ := h
    exact ⟨v, vs', e, Rp.dry_any M' N' bnd' w' hp.1 hv, RpL.dry_any M' N' bnd' w' hp.2 h'⟩
end
mutual
theorem Rp.clean_any (N' : Nat) (bnd' : Nat → Option Value) : ∀ {x : SV} {v : Value}, x.clean = true → Rp M N bnd w x v → Rp M N' bnd' w x v
  | .nil, _, _, h => by simpa [Rp] using h
  | .bool _, _, _, h => by simpa [Rp] using h
  | .int _ _, _, _, h => by simpa [Rp] using h
  | .words _, _, _, h => by simpa [Rp] using h
  | .n32 _, _, _, h => by simpa [Rp] using h
  | .n16 _, _, _, h => by simpa [Rp] using h
  | .agg cs, _, hp, h => by simp only [Rp] at h ⊢; obtain ⟨vs, e, hl⟩ := h; exact ⟨vs, e, RpL.clean_any N' bnd' (by simpa [SV.clean] using hp) hl⟩
  | .tup cs, _, hp, h => by simp only [Rp] at h ⊢; obtain ⟨vs, e, hl⟩ := h; exact ⟨vs, e, RpL.clean_any N' bnd' (by simpa [SV.clean] using hp) hl⟩
  | .undef, _, hp, _ => by simp [SV.clean] at hp
  | .ptr _ _, _, hp, _ => by simp [SV.clean] at hp
  | .ref _ _, _, hp, _ => by simp [SV.clean] at hp
  | .elem _, _, hp, _ => by simp [SV.clean] at hp
  | .row _, _, hp, _ => by simp [SV.clean] at hp
  | .rptr _ _, _, hp, _ => by simp [SV.clean] at hp
  | .fn _ _, _, hp, _ => by simp [SV.clean] at hp
  | .view _ _ _, _, hp, _ => by simp [SV.clean] at hp
  | .ub, _, hp, _ => by simp [SV.clean] at hp
theorem RpL.clean_any (N' : Nat) (bnd' : Nat → Option Value) : ∀ {cs : List SV} {vs : List Value}, SV.cleanL cs = true → RpL M N bnd w cs vs → RpL M N' bnd' w cs vs
  | [], _, _, h => by simpa [RpL] using h
  | c :: cs, _, hp, h => by
    simp only [SV.cleanL, Bool.and_eq_true] at hp
    obtain ⟨v, vs', e, hv, h'⟩ := h
    exact ⟨v, vs', e, Rp.clean_any N' bnd' hp.1 hv, RpL.clean_any N' bnd' hp.2 h'⟩
end
/-- A slice. -/
theorem Rp.list {x : SV} {v : Value} (h : Rp M N bnd w x v) {l : List Nat} (hl : x.list = some l) : Ws M w l v := by
  cases x <;> simp [SV.list] at hl <;> subst hl <;> simp only [Rp] at h
  · subst h; exact ⟨by simp, by simp [cap30], none, 0, by simp, by simp, by simp⟩
  all_goals exact h
theorem Rp.cells {x : SV} {v : Value} (h : Rp M N bnd w x v) (hx : x.cells.all SV.leaf = true) : RpL M N bnd w x.cells v.cells.toList ∧ v.cells.all (·.oneCell') = true := by
  have one : ∀ (x : SV) (v : Value), x.leaf = true → Rp M N bnd w x v → v.oneCell' = true ∧ v.cells = #[v] := by
    intro x v hx h
    cases x <;> simp [SV.leaf] at hx <;> simp only [Rp, Ws] at h
    all_goals first
      | (subst h; simp [Value.oneCell', Value.cells]; done)
      | (obtain ⟨_, _, a, c, rfl, _⟩ := h; simp [Value.oneCell', Value.cells]; done)
      | (obtain ⟨b, _, rfl⟩ := h; simp [Value.oneCell', Value.cells]; done)
      | (obtain ⟨b, T, vs, _, rfl, _⟩ := h; simp [Value.oneCell', Value.cells]; done)
      | (obtain ⟨ad, rfl, _⟩ := h; simp [Value.oneCell', Value.cells]; done)
      | (obtain ⟨_, a, n, c, rfl⟩ := h; simp [Value.oneCell', Value.cells]; done)
      | (obtain ⟨b, n, c, _, rfl⟩ := h; simp [Value.oneCell', Value.cells]; done)
      | (obtain ⟨b, n, c, _, _, _, rfl⟩ := h; simp [Value.oneCell', Value.cells]; done)
      | (obtain ⟨vs, rfl, _⟩ := h; simp [Value.oneCell', Value.cells]; done)
  have many : ∀ (cs : List SV) (vs : List Value), cs.all SV.leaf = true → RpL M N bnd w cs vs → vs.all (·.oneCell') = true := by
    intro cs
    induction cs with
    | nil => intro vs _ h; simp [RpL] at h; simp [h]
    | cons c cs ih =>
      intro vs hc h
      obtain ⟨v, vs', rfl, hv, h'⟩ := h
      simp only [List.all_cons, Bool.and_eq_true] at hc ⊢
      exact ⟨(one c v hc.1 hv).1, ih vs' hc.2 h'⟩
  by_cases hl : x.leaf = true
  · obtain ⟨h1, h2⟩ := one x v hl h
    have hcs : x.cells = [x] := by cases x <;> simp [SV.leaf] at hl <;> rfl
    rw [hcs, h2]
    exact ⟨⟨v, [], by simp, h, by simp [RpL]⟩, by simp [h1]⟩
  · cases x with
    | agg cs =>
      simp only [Rp] at h
      obtain ⟨vs, rfl, h'⟩ := h
      simp only [SV.cells, Value.cells] at hx ⊢
      refine ⟨by simpa using h', ?_⟩
      have := many _ vs hx h'
      simpa using this
    | undef => simp [SV.cells, SV.leaf] at hx
    | tup _ => simp [SV.cells, SV.leaf] at hx
    | _ => simp [SV.leaf] at hl
end

/-! ### The table of types -/
def toV : SV → Value
  | .bool b => .bool b
  | .int k n => .int k n
  | .nil => .slice none 0 0
  | _ => undef
def FieldsOK (P : Program) : List Field → List (Nat × Nat × Bool) → Prop
  | [], l => l = []
  | f :: fs, l => ∃ o s r l' e, l = (o, s, r) :: l' ∧ f.offset = o ∧ (P.info? f.type).map (·.size) = some s ∧ P.underlying f.type = some e ∧ e.isRow = r ∧ FieldsOK P fs l'
structure TiOK (P : Program) (T : TypeId) (ti : Ti) : Prop where
  desc : ∃ d, P.underlying T = some d ∧ d.isRow = ti.row ∧ (∀ k, ti.ik = some k → d = .int k) ∧ (ti.bl = true → d = .bool) ∧ (ti.arr = true ↔ ∃ n e, d = .array n e) ∧
    match d with
    | .struct fs => FieldsOK P fs.toList ti.offs
    | .array n u => ti.offs.length = n ∧ ∃ s e, (P.info? u).map (·.size) = some s ∧ P.underlying u = some e ∧ ∀ j o s' r, ti.offs[j]? = some (o, s', r) → o = j * s ∧ s' = s ∧ e.isRow = r
    | _ => ti.offs = []
  info : ∃ i z, P.info? T = some i ∧ i.zero = some z ∧ i.size = ti.zero.length ∧ (ti.fn = false → z.cells.toList = ti.zero.map toV)
  dry : ti.fn = false → ∀ x ∈ ti.zero, x.dry = true ∧ x.leaf = true
  fnr : ti.fn = true → ti.row = false
def TabOK (P : Program) (tab : Tb) : Prop := ∀ T ti, tab T = some ti → TiOK P T ti

theorem FieldsOK.get {P : Program} : ∀ {fs : List Field} {l : List (Nat × Nat × Bool)}, FieldsOK P fs l → ∀ (j o s : Nat) (r : Bool), l[j]? = some (o, s, r) →
    ∃ f e, fs[j]? = some f ∧ f.offset = o ∧ (P.info? f.type).map (·.size) = some s ∧ P.underlying f.type = some e ∧ e.isRow = r
  | [], l, h, j, o, s, r, hj => by simp [FieldsOK] at h; subst h; simp at hj
  | f :: fs, l, h, j, o, s, r, hj => by
    obtain ⟨o', s', r', l', e, rfl, h1, h2, h3, h4, h'⟩ := h
    cases j with
    | zero => simp at hj; obtain ⟨rfl, rfl, rfl⟩ := hj; exact ⟨f, e, by simp, h1, h2, h3, h4⟩
    | succ j => simp at hj; obtain ⟨f', e', k⟩ := FieldsOK.get h' j o s r hj; exact ⟨f', e', by simpa using k⟩
theorem RpL.zero {M : Nat → Prop} {N : Nat} {bnd : Nat → Option Value} {w : World} : ∀ {l : List SV}, (∀ x ∈ l, x.dry = true ∧ x.leaf = true) → RpL M N bnd w l (l.map toV)
  | [], _ => by simp [RpL]
  | x :: xs, h => by
    refine ⟨toV x, xs.map toV, rfl, ?_, RpL.zero (fun y hy => h y (by simp [hy]))⟩
    have := h x (by simp)
    cases x <;> simp [SV.dry, SV.leaf] at this <;> simp [Rp, toV]
end Iv
end Go.Proofs.YtfajgibpidlojaaDoor
end

section
/- The verified interpreter, part C: each operation. Conditions: the table of types is the program's (TabOK). -/
set_option linter.unusedVariables false
set_option linter.unusedSimpArgs false
namespace Go.Proofs.YtfajgibpidlojaaDoor
namespace Iv
open Go Go.RowKit

/-- The block that an object lies in. -/
def blk : Value → Option Nat
  | .pointer (some a) => some a.block
  | .slice (some a) _ _ => some a.block
  | _ => none
def ints (l : List Nat) : List Value := l.map fun x => .int .u32 (x : Nat)
/-- An object in the world. U: the type of the words. -/
def ObR (U : TypeId) (M : Nat → Prop) (N : Nat) (bnd : Nat → Option Value) (w : World) : Option Ob → Value → Prop
  | some (.var T cs), v => ∃ b, ∃ vs : List Value, v = .pointer (some ⟨b, 0, none⟩) ∧ N ≤ b ∧ w.heap[b]? = some (.cells vs.toArray T) ∧ RpL M N bnd w cs vs
  | some (.row l), v => (∀ x ∈ l, x < 4294967296) ∧ l.length ≤ cap30 ∧ w.ownsRow N U 1 v l.length (ints l)
  | some .dead, _ => True
  | none, _ => False
def ObsR (U : TypeId) (M : Nat → Prop) (N : Nat) (bnd : Nat → Option Value) (w : World) (os : List Ob) : Prop :=
  ∀ i v, bnd i = some v → ObR U M N bnd w os[i]? v

/-- The same of those objects alone that have both a binding and an entry. -/
def ObsW (U : TypeId) (M : Nat → Prop) (N : Nat) (bnd : Nat → Option Value) (w : World) (os : List Ob) : Prop :=
  ∀ i v, bnd i = some v → ∀ o, os[i]? = some o → ObR U M N bnd w (some o) v
theorem ObsR.weak {U : TypeId} {M : Nat → Prop} {N : Nat} {bnd : Nat → Option Value} {w : World} {os : List Ob} (h : ObsR U M N bnd w os) : ObsW U M N bnd w os :=
  fun i v hv o ho => by have := h i v hv; rwa [ho] at this

section
variable {P : Program} {tab : Tb} {U : TypeId} {M : Nat → Prop} {N : Nat} {bnd : Nat → Option Value} {w : World} {os : List Ob} {ev : Operand → SV} {ρ : Operand → Value}

theorem add_lit (b o j : Nat) : (⟨b, o, none⟩ : Addr).add j = ⟨b, o + j, none⟩ := by unfold Addr.add; split <;> simp_all
theorem cell_at {b : Nat} {vs : List Value} {T : TypeId} {fr : Nat × Nat} (h : w.heap[b]? = some (.cells vs.toArray T fr)) (o : Nat) : w.cell? ⟨b, o, none⟩ = vs[o]? := by
  simp [World.cell?, h]
theorem isAgg_run {T : TypeId} {d : TypeDesc} (hu : P.underlying T = some d) (w : World) : (isAgg T).run P w = .ok d.isRow w := by
  unfold isAgg
  rw [Sem.run_bind, run_underlying hu w]
  cases d <;> simp
theorem sizeOf_run {T : TypeId} {s : Nat} (h : (P.info? T).map (·.size) = some s) (w : World) : (sizeOf T).run P w = .ok s w := by
  cases hi : P.info? T with
  | none => simp [hi] at h
  | some i => simp [hi] at h; simp [sizeOf, typeInfo, hi, h]
theorem load_cell_run {T : TypeId} {d : TypeDesc} (hu : P.underlying T = some d) (hd : d.isRow = false) (a : Addr) (v : Value) (hc : w.cell? a = some v) :
    (Instr.loadAt T (.pointer (some a))).run P w = .ok v w := by
  simp [Instr.loadAt, Instr.sureAddr, loadVar, Sem.run_bind, isAgg_run hu, hd, hc]
theorem load_row_run {T : TypeId} {d : TypeDesc} (hu : P.underlying T = some d) (hd : d.isRow = true) {s : Nat} (hs : (P.info? T).map (·.size) = some s) (b o : Nat) (vs : List Value)
    {T' : TypeId} (hb : w.heap[b]? = some (.cells vs.toArray T')) (ho : o + s ≤ vs.length) :
    (Instr.loadAt T (.pointer (some ⟨b, o, none⟩))).run P w = .ok (.agg ((vs.drop o).take s).toArray) w := by
  refine run_loadAt_mid w b o T ((vs.drop o).take s) d (fun j v hj => ?_) hu hd ?_
  · rw [cell_at hb]
    rw [List.getElem?_take] at hj
    split at hj
    · rw [List.getElem?_drop] at hj; exact hj
    · cases hj
  · rw [hs]; simp; omega
theorem part_run {T : TypeId} {d : TypeDesc} (hu : P.underlying T = some d) {s : Nat} (hs : (P.info? T).map (·.size) = some s) (vs : List Value) (o : Nat) (hd : d.isRow = true) :
    (part T vs.toArray o).run P w = .ok (.agg ((vs.drop o).take s).toArray) w := by
  have : (vs.toArray.extract o (o + s)) = ((vs.drop o).take s).toArray := by
    apply Array.ext'
    simp [List.take_drop]
  simp [part, Sem.run_bind, isAgg_run hu, hd, sizeOf_run hs, this]
theorem part_cell_run {T : TypeId} {d : TypeDesc} (hu : P.underlying T = some d) (vs : List Value) (o : Nat) (hd : d.isRow = false) (v : Value) (hv : vs[o]? = some v) :
    (part T vs.toArray o).run P w = .ok v w := by
  simp [part, Sem.run_bind, isAgg_run hu, hd, hv]

/-! ### build -/
def setManyV : List Value → Nat → List Value → List Value
  | cs, _, [] => cs
  | cs, o, x :: xs => setManyV (cs.set o x) (o + 1) xs
theorem setManyV_length : ∀ (us : List Value) (vs : List Value) (o : Nat), (setManyV vs o us).length = vs.length
  | [], _, _ => rfl
  | u :: us, vs, o => by simp [setManyV, setManyV_length us]
theorem RpL.setMany : ∀ {ds : List SV} {us : List Value} {cs : List SV} {vs : List Value} (o : Nat), RpL M N bnd w cs vs → RpL M N bnd w ds us → RpL M N bnd w (setMany cs o ds) (setManyV vs o us)
  | [], us, cs, vs, o, h, k => by simp [RpL] at k; subst k; simpa [Iv.setMany, setManyV] using h
  | d :: ds, us, cs, vs, o, h, k => by
    obtain ⟨u, us', rfl, hu, k'⟩ := k
    exact RpL.setMany (o + 1) (h.set o hu) k'
theorem zip_fold (off : Nat) : ∀ (us : List Value) (k : Nat) (vs : List Value), (us.zipIdx k).foldl (fun cs (p : Value × Nat) => cs.setIfInBounds (off + p.2) p.1) vs.toArray = (setManyV vs (off + k) us).toArray
  | [], k, vs => rfl
  | u :: us, k, vs => by
    simp only [List.zipIdx_cons, List.foldl_cons, List.setIfInBounds_toArray]
    rw [zip_fold off us (k + 1) (vs.set (off + k) u)]
    rfl
theorem fill_sound (place : Nat → Option (Nat × Nat)) (offs : List (Nat × Nat × Bool)) (hp : ∀ j o s r, offs[j]? = some (o, s, r) → place j = some (o, s)) :
    ∀ (parts : List (Nat × Operand)) (cs : List SV) (vs : List Value) (out : List SV), RpL M N bnd w cs vs → (∀ p ∈ parts, Rp M N bnd w (ev p.2) (ρ p.2)) →
      fillSem offs cs (partsSem ev parts) = some out → ∃ vs', Instr.fill place vs.toArray (parts.map fun (i, x) => (i, ρ x)) = some vs'.toArray ∧ RpL M N bnd w out vs'
  | [], cs, vs, out, h, _, e => by simp [partsSem, fillSem] at e; subst e; exact ⟨vs, by simp [Instr.fill], h⟩
  | (i, x) :: parts, cs, vs, out, h, hx, e => by
    simp only [partsSem, fillSem] at e
    cases ho : offs[i]? with
    | none => simp [ho] at e
    | some p =>
      obtain ⟨o, s, r⟩ := p
      simp only [ho] at e
      split at e
      · rename_i hc
        have hr := hx (i, x) (by simp)
        have hl := hc.2.2
        obtain ⟨hcl, hone⟩ := hr.cells hl
        have hlen : (ρ x).cells.size = s := by have := hcl.length; simp at this; omega
        have hvs := h.length
        have := fill_sound place offs hp parts (setMany cs o (ev x).cells) (setManyV vs o (ρ x).cells.toList) out (RpL.setMany o h hcl) (fun p hp' => hx p (by simp [hp'])) e
        obtain ⟨vs', hf, hr'⟩ := this
        refine ⟨vs', ?_, hr'⟩
        simp only [List.map_cons, Instr.fill, hp i o s r ho]
        rw [if_neg (by simp; omega)]
        have hz := zip_fold o (ρ x).cells.toList 0 vs
        have : (Array.foldl (fun cs (p : Value × Nat) => cs.setIfInBounds (o + p.2) p.1) vs.toArray (ρ x).cells.zipIdx) = (setManyV vs o (ρ x).cells.toList).toArray := by
          rw [← Array.foldl_toList, Array.toList_zipIdx]
          simpa using hz
        rw [this]
        exact hf
      · cases e
theorem fields_places : ∀ {fs : List Field} {l : List (Nat × Nat × Bool)}, FieldsOK P fs l → fs.mapM (fun f => (P.info? f.type).map fun i => (f.offset, i.size)) = some (l.map fun p => (p.1, p.2.1))
  | [], l, h => by simp [FieldsOK] at h; subst h; simp
  | f :: fs, l, h => by
    obtain ⟨o, s, r, l', e, rfl, h1, h2, h3, h4, h'⟩ := h
    cases hi : P.info? f.type with
    | none => simp [hi] at h2
    | some i =>
      simp [hi] at h2
      simp [List.mapM_cons, hi, fields_places h', h1, h2]
theorem build_sound {T : TypeId} {ti : Ti} (ht : TiOK P T ti) (hrow : ti.row = true) (parts : Array (Nat × Operand)) (out : List SV) (hx : ∀ p ∈ parts.toList, Rp M N bnd w (ev p.2) (ρ p.2))
    (h : fillSem ti.offs ti.zero (partsSem ev parts.toList) = some out) : ∃ vs, (Instr.build T (parts.map fun (i, x) => (i, ρ x))).run P w = .ok (.agg vs.toArray) w ∧ RpL M N bnd w out vs := by
  obtain ⟨⟨d, hu, hd, _, _, _, hf⟩, ⟨i, z, hi, hz, hs, hzl⟩, hdry, hfn⟩ := ht
  have hf0 : ti.fn = false := by
    cases h0 : ti.fn
    · rfl
    · rw [hfn h0] at hrow; cases hrow
  have hzl := hzl hf0
  have hdry := hdry hf0
  have hz0 : RpL M N bnd w ti.zero z.cells.toList := by rw [hzl]; exact RpL.zero hdry
  have hcells : z.cells = z.cells.toList.toArray := by simp
  have hmap : (parts.map fun (i, x) => (i, ρ x)).toList = parts.toList.map fun (i, x) => (i, ρ x) := by simp
  cases hdd : d with
  | array n u =>
    subst hdd
    simp only at hf
    obtain ⟨hn, s, e, hus, hue, hj⟩ := hf
    obtain ⟨vs, h1, h2⟩ := fill_sound (ρ := ρ) (fun i => some (i * s, s)) ti.offs (fun j o s' r hjj => by obtain ⟨a, b, _⟩ := hj j o s' r hjj; simp [a, b]) parts.toList ti.zero z.cells.toList out hz0 hx h
    refine ⟨vs, run_build w T _ _ ?_, h2⟩
    cases hiu : P.info? u with
    | none => simp [hiu] at hus
    | some iu =>
      simp [hiu] at hus
      simp only [Program.built, hi, hu, hz, hiu, hus, hmap]
      rw [← hcells] at h1
      exact h1
  | struct fs =>
    subst hdd
    simp only at hf
    have hp := fields_places hf
    obtain ⟨vs, h1, h2⟩ := fill_sound (ρ := ρ) (fun j => (ti.offs.map fun p => (p.1, p.2.1)).toArray[j]?) ti.offs (fun j o s r hjj => by simp [hjj]) parts.toList ti.zero z.cells.toList out hz0 hx h
    refine ⟨vs, run_build w T _ _ ?_, h2⟩
    simp only [Program.built, hi, hu, hz, hp, hmap]
    rw [← hcells] at h1
    exact h1
  | _ => subst hdd; simp [TypeDesc.isRow, hrow] at hd

/-! ### store -/
theorem store_run {T : TypeId} {s : Nat} (hs : (P.info? T).map (·.size) = some s) (b o : Nat) (vs : List Value) {T' : TypeId} (hb : w.heap[b]? = some (.cells vs.toArray T')) (v : Value)
    (hl : v.cells.size = s) (ho : o + s ≤ vs.length) (h1 : v.cells.all (·.oneCell') = true) :
    (Instr.storeAt T (.pointer (some ⟨b, o, none⟩)) v).run P w = .ok () (w.setCells b o v.cells.toList) := by
  have hst := run_storeCells_cells (P := P) b o v.cells.toList 0 w
    (fun j hj => by
      rw [cell_at hb]
      simp at hj
      rw [List.getElem?_eq_getElem (show o + 0 + j < vs.length by omega)]
      rfl)
    (fun j hj => by simp [World.frozen?, hb])
    (fun u hu => (Array.all_eq_true_iff_forall_mem.1 h1) u (by simpa using hu))
  simp only [Nat.add_zero] at hst
  simp [Instr.storeAt, Instr.sureAddr, storeVar, sizeOf_run hs, hl, hst]
theorem heap_setCells : ∀ (us : List Value) (o : Nat) (w : World) (b : Nat) (vs : List Value) (T : TypeId) (fr : Nat × Nat), w.heap[b]? = some (.cells vs.toArray T fr) →
    (w.setCells b o us).heap[b]? = some (.cells (setManyV vs o us).toArray T fr)
  | [], o, w, b, vs, T, fr, h => by simpa [World.setCells, setManyV] using h
  | u :: us, o, w, b, vs, T, fr, h => by
    rw [World.setCells, setManyV]
    refine heap_setCells us (o + 1) _ b (vs.set o u) T fr ?_
    have hlt : b < w.heap.size := (Array.getElem?_eq_some_iff.1 h).1
    simp [World.setCell, Array.getElem?_modify, h]
theorem heap_setCells_other : ∀ (us : List Value) (o : Nat) (w : World) (b c : Nat), c ≠ b → (w.setCells b o us).heap[c]? = w.heap[c]?
  | [], o, w, b, c, h => rfl
  | u :: us, o, w, b, c, h => by
    rw [World.setCells, heap_setCells_other us (o + 1) _ b c h]
    exact Below.heap_setCell w _ u c h
theorem size_setCells : ∀ (us : List Value) (o : Nat) (w : World) (b : Nat), (w.setCells b o us).heap.size = w.heap.size
  | [], o, w, b => rfl
  | u :: us, o, w, b => by
    rw [World.setCells, size_setCells us]
    simp [World.setCell]
theorem below_setCells {B : Nat} {a : World} : ∀ (us : List Value) (o : Nat) (w : World) (b : Nat), B ≤ b → Below B a w → Below B a (w.setCells b o us)
  | [], o, w, b, _, h => h
  | u :: us, o, w, b, hb, h => by
    rw [World.setCells]
    exact below_setCells us (o + 1) _ b hb (h.setCell hb u)
end
end Iv
end Go.Proofs.YtfajgibpidlojaaDoor
end

section
/- The verified interpreter, part D: what an operation yields. Conditions: the table of types is the program's (TabOK). -/
set_option linter.unusedVariables false
set_option linter.unusedSimpArgs false
namespace Go.Proofs.YtfajgibpidlojaaDoor
namespace Iv
open Go Go.RowKit

section
variable {P : Program} {tab : Tb} {U : TypeId} {M : Nat → Prop} {N : Nat} {bnd : Nat → Option Value} {w : World} {os : List Ob} {ev : Operand → SV} {ρ : Operand → Value}

theorem binSem_sound {bl : Bool} {op : BinOp} {x y z : SV} {T : TypeId} (hb : bl = true → P.underlying T = some .bool) (h : binSem bl op x y = some z) {u v : Value} (hx : Rp M N bnd w x u) (hy : Rp M N bnd w y v)
    (xo yo : Operand) : ∃ r, (do eqGuard op T xo yo u v; binOp op T u v : Sem Value).run P w = .ok r w ∧ Rp M N bnd w z r := by
  cases x <;> try (simp [binSem] at h; done)
  case bool a =>
    cases y <;> try (simp [binSem] at h; done)
    case bool b =>
      simp only [Rp] at hx hy
      subst hx; subst hy
      cases bl
      · simp [binSem] at h
      have hu := hb rfl
      cases op <;> simp [binSem] at h
      · subst h
        refine ⟨.bool (a == b), ?_, by simp [Rp]⟩
        rw [Sem.run_bind, show (eqGuard .eql T xo yo (.bool a) (.bool b)).run P w = .ok () w by simp [eqGuard]]
        simp only [Result.andThen_ok, run_eql_bool w T a b hu]
      · subst h
        refine ⟨.bool (!(a == b)), ?_, by simp [Rp]⟩
        rw [Sem.run_bind, show (eqGuard .neq T xo yo (.bool a) (.bool b)).run P w = .ok () w by simp [eqGuard]]
        simp only [Result.andThen_ok, run_neq_bool w T a b hu]
  case int k a =>
    cases y <;> try (simp [binSem] at h; done)
    case int k' b =>
      simp only [Rp] at hx hy
      subst hx; subst hy
      have hg : (eqGuard op T xo yo (.int k a) (.int k' b)).run P w = .ok () w := by
        unfold eqGuard
        cases op <;> simp
      rw [Sem.run_bind, hg]
      simp only [Result.andThen_ok]
      by_cases hsh : op = .shl
      · subst hsh
        simp only [binSem] at h
        split at h
        · cases h
        · rename_i hn
          simp only [Option.some.injEq] at h
          subst h
          exact ⟨.int k (k.wrap (a * 2 ^ min b.toNat k.bits)), by simp [binOp, Op.shift, hn], by simp [Rp]⟩
      by_cases hsr : op = .shr
      · subst hsr
        simp only [binSem] at h
        split at h
        · cases h
        · rename_i hn
          simp only [Option.some.injEq] at h
          subst h
          exact ⟨.int k (a.fdiv (2 ^ min b.toNat k.bits)), by simp [binOp, Op.shift, hn], by simp [Rp]⟩
      by_cases hk : k = k'
      · subst hk
        cases op <;> simp [binSem] at h hsh hsr
        all_goals first
          | (subst h; exact ⟨_, by simp [binOp, Op.intArith, Op.intCmp, Op.intBits]; rfl, by simp [Rp]⟩)
          | (obtain ⟨h0, rfl⟩ := h; exact ⟨_, by simp [binOp, Op.intDiv, h0]; rfl, by simp [Rp]⟩)
      · cases op <;> simp [binSem, hk] at h hsh hsr

theorem ws_at {l : List Nat} {v : Value} (h : Ws M w l v) {T : TypeId} {d : TypeDesc} {n : Int} (h0 : 0 ≤ n) (h1 : n < l.length) : ∃ a c, v = .slice (some a) l.length c ∧ ¬ M (a.add n.toNat).block ∧ w.cell? (a.add n.toNat) = some (.int .u32 (l.getD n.toNat 0 : Nat)) := by
  obtain ⟨_, _, a, c, rfl, hc, hl⟩ := h
  obtain ⟨ad, rfl, hm, hx⟩ := hl (by omega)
  refine ⟨ad, c, rfl, ?_, hx _ (by omega)⟩
  have : (ad.add n.toNat).block = ad.block := by unfold Addr.add; split <;> rfl
  rw [this]; exact hm
theorem len_run (T : TypeId) (e : TypeId) (hT : P.underlying T = some (.slice e)) (ty : TypeId) (a : Option Addr) (n c : Nat) : (Builtin.len_ #[T] ty #[.slice a n c]).run P w = .ok (.int .i64 n) w := by
  simp [Builtin.len_, run_underlying hT, goInt]

theorem cellsAt_get {p : SV} {cs : List SV} {off : Nat} (ho : ObsW U M N bnd w os) (h : cellsAt os p = some (cs, off)) {v : Value} (hp : Rp M N bnd w p v) :
    ∃ b T, ∃ vs : List Value, v = .pointer (some ⟨b, off, none⟩) ∧ w.heap[b]? = some (.cells vs.toArray T) ∧ RpL M N bnd w cs vs := by
  cases p <;> simp [cellsAt] at h
  case ptr i o =>
    simp only [Rp] at hp
    obtain ⟨b, hb, rfl⟩ := hp
    split at h
    · rename_i T ds hos
      simp only [Option.some.injEq, Prod.mk.injEq] at h
      obtain ⟨rfl, rfl⟩ := h
      have := ho i _ hb _ hos
      simp only [ObR] at this
      obtain ⟨b', vs, e, hN, hh, hr⟩ := this
      simp only [Value.pointer.injEq, Option.some.injEq, Addr.mk.injEq] at e
      obtain ⟨rfl, _⟩ := e
      exact ⟨b, T, vs, rfl, hh, hr⟩
    · cases h
  case ref ds o =>
    obtain ⟨rfl, rfl⟩ := h
    simp only [Rp] at hp
    obtain ⟨b, T, vs, _, rfl, hh, hr⟩ := hp
    exact ⟨b, T, vs, rfl, hh, hr⟩
theorem load_sound {T : TypeId} {ti : Ti} (ht : TiOK P T ti) (ho : ObsW U M N bnd w os) {p : SV} {v : Value} (hp : Rp M N bnd w p v) {cs : List SV} {off : Nat} (hc : cellsAt os p = some (cs, off)) {x : SV}
    (hx : (ti.row = true ∧ off + ti.zero.length ≤ cs.length ∧ x = .agg ((cs.drop off).take ti.zero.length)) ∨ (ti.row = false ∧ cs[off]? = some x)) :
    ∃ u, (Instr.loadAt T v).run P w = .ok u w ∧ Rp M N bnd w x u := by
  obtain ⟨b, T', vs, rfl, hh, hr⟩ := cellsAt_get ho hc hp
  obtain ⟨⟨d, hu, hd, _, _, _, _⟩, ⟨i, z, hi, _, hs, _⟩, _⟩ := ht
  rcases hx with ⟨h1, h2, rfl⟩ | ⟨h1, h2⟩
  · refine ⟨_, load_row_run hu (by rw [hd, h1]) (s := ti.zero.length) (by simp [hi, hs]) b off vs hh (by have := hr.length; omega), ?_⟩
    simp only [Rp]
    exact ⟨_, rfl, (hr.drop off).take _⟩
  · obtain ⟨u, hu', hr'⟩ := hr.get off x h2
    exact ⟨u, load_cell_run hu (by rw [hd, h1]) _ u (by rw [cell_at hh]; exact hu'), hr'⟩
theorem field_run {T : TypeId} {ti : Ti} (ht : TiOK P T ti) {i o s : Nat} {r : Bool} (hs : s ≠ 0) (h : ti.offs[i]? = some (o, s, r)) (hst : ti.arr = false) (b off : Nat) :
    (Instr.fieldAt T (.pointer (some ⟨b, off, none⟩)) i).run P w = .ok (.pointer (some ⟨b, off + o, none⟩)) w := by
  obtain ⟨⟨d, hu, hd, _, _, ha, hf⟩, _, _⟩ := ht
  cases hdd : d with
  | struct fs =>
    subst hdd
    simp only at hf
    obtain ⟨f, e, h1, h2, h3, _, _⟩ := hf.get i o s r h
    have h1' : fs[i]? = some f := by simpa using h1
    simp [Instr.fieldAt, run_underlying hu, h1', Instr.sureAddr, fieldPlace, sizeOf_run h3, hs, add_lit, h2]
  | array n e => subst hdd; rw [ha.2 ⟨n, e, rfl⟩] at hst; cases hst
  | _ => subst hdd; simp only at hf; rw [hf] at h; simp at h
end
end Iv
end Go.Proofs.YtfajgibpidlojaaDoor
end

section
/- The verified interpreter, part E: an operation's outcome. Conditions: the table of types is the program's (TabOK); a length is asked of slices alone (LenOK). -/
set_option linter.unusedVariables false
set_option linter.unusedSimpArgs false
namespace Go.Proofs.YtfajgibpidlojaaDoor
namespace Iv
open Go Go.RowKit

theorem run_v {P : Program} {s : Sem Value} {w : World} {r : Value} (h : s.run P w = .ok r w) : (do pure (Next.value (← s)) : Sem Next).run P w = .ok (.value r) w := by
  simp [Sem.run_bind, h]
theorem run_u {P : Program} {s : Sem Unit} {w w' : World} (h : s.run P w = .ok () w') : (do s; pure Next.skip : Sem Next).run P w = .ok .skip w' := by
  simp [Sem.run_bind, h]

/-- A slice of words. -/
def wordSlice (P : Program) (tab : Tb) (T : TypeId) : Bool :=
  match P.underlying T with
  | some (.slice e) => e == tab.u && (match P.info? e with
    | some i => i.size == 1 && i.bytes == 4 && (match i.zero with | some (.int .u32 n) => n == 0 | _ => false)
    | Option.none => false)
  | _ => false
theorem wordSlice_spec {P : Program} {tab : Tb} {T : TypeId} (h : wordSlice P tab T = true) :
    P.underlying T = some (.slice tab.u) ∧ ∃ i, P.info? tab.u = some i ∧ i.size = 1 ∧ i.bytes = 4 ∧ i.zero = some (.int .u32 0) := by
  unfold wordSlice at h
  split at h
  · rename_i e he
    simp only [Bool.and_eq_true, beq_iff_eq] at h
    obtain ⟨rfl, h⟩ := h
    refine ⟨he, ?_⟩
    split at h
    · rename_i i hi
      simp only [Bool.and_eq_true, beq_iff_eq] at h
      refine ⟨i, hi, h.1.1, h.1.2, ?_⟩
      have h2 := h.2
      split at h2
      · rename_i n hz
        rw [hz]
        simp at h2
        rw [h2]
      · cases h2
    · cases h
  · cases h
/-- What is asked of the program's text beside the types: 'len' is asked of slices, an index of a slice stands at a slice of words, what is converted has a type. -/
def opChk (P : Program) (tab : Tb) : Op → Bool
  | .call c => match c.callee with
    | .builtin .len => match c.argTypes.toList with
      | [T] => match P.underlying T with | some (.slice _) => true | _ => false
      | _ => false
    | .builtin .append => match c.argTypes.toList with
      | [T, T'] => T == T' && wordSlice P tab T
      | _ => false
    | .builtin .copy => match c.argTypes.toList with
      | [T, T'] => wordSlice P tab T && wordSlice P tab T'
      | _ => false
    | _ => true
  | .makeSlice T _ _ => wordSlice P tab T
  | .buildSlice T _ _ => wordSlice P tab T
  | .slice T _ _ _ _ => wordSlice P tab T
  | .indexAddr T _ _ => match P.underlying T with
    | some (.slice e) => match P.info? e with | some i => i.size == 1 | Option.none => false
    | some (.array _ _) => isArr tab T
    | _ => false
  | .convert S _ _ => (P.underlying S).isSome
  | .binOp .eql T _ y _ => match y with
    | .const (.slice none 0 0) => match P.underlying T with | some (.slice _) => true | _ => false
    | _ => true
  | _ => true

theorem run_equalIn_slice_nil' {P : Program} (w : World) (d : Nat) (t e : TypeId) (a : Option Addr) (l c : Nat) (h : P.underlying t = some (.slice e)) : (Op.equalIn (d + 1) t (.slice a l c) (.slice none 0 0)).run P w = .ok a.isNone w := by
  cases a <;> simp [Op.equalIn, run_underlying h]
theorem run_equal_slice_nil' {P : Program} (w : World) (t e : TypeId) (a : Option Addr) (l c : Nat) (h : P.underlying t = some (.slice e)) : (Op.equal t (.slice a l c) (.slice none 0 0)).run P w = .ok a.isNone w := run_equalIn_slice_nil' w 9999 t e a l c h
section
variable {P : Program} {tab : Tb} {U : TypeId} {M : Nat → Prop} {N : Nat} {bnd : Nat → Option Value} {w : World} {os : List Ob} {ev : Operand → SV} {ρ : Operand → Value}

theorem row_ws {i : Nat} {l : List Nat} (ho : ObsW U M N bnd w os) (hos : os[i]? = some (.row l)) {v : Value} (hv : Rp M N bnd w (.row i) v) :
    (∀ x ∈ l, x < 4294967296) ∧ l.length ≤ cap30 ∧ w.ownsRow N U 1 v l.length (ints l) ∧ bnd i = some v := by
  simp only [Rp] at hv
  have := ho i v hv.1 _ hos
  exact ⟨this.1, this.2.1, this.2.2, hv.1⟩
theorem view_le {i lo hi : Nat} {l : List Nat} (ho : ObsW U M N bnd w os) (hos : os[i]? = some (.row l)) {v : Value} (hv : Rp M N bnd w (.view i lo hi) v) : hi ≤ l.length := by
  simp only [Rp] at hv
  obtain ⟨b, n, c, hb, hlo, hhi, rfl⟩ := hv
  obtain ⟨h1, h2, hown⟩ := ho i _ hb _ hos
  rcases hown.2 with ⟨e, _⟩ | ⟨g, cap, cur, e, _⟩
  · cases e
  · simp only [Value.slice.injEq] at e
    omega
theorem lenOf_sound {x : SV} {v : Value} (ho : ObsW U M N bnd w os) (hx : Rp M N bnd w x v) {n : Nat} (h : lenOf os x = some n) : ∃ a c, v = .slice a n c := by
  have key : ∀ l, x.list = some l → n = l.length → ∃ a c, v = .slice a n c := by
    intro l hl e
    obtain ⟨_, _, a, c, rfl, _⟩ := hx.list hl
    exact ⟨a, c, by rw [e]⟩
  cases x <;> simp [lenOf, SV.list] at h
  case row i =>
    split at h
    · rename_i l hos
      simp only [Option.some.injEq] at h
      subst h
      obtain ⟨_, _, hown, _⟩ := row_ws ho hos hx
      rcases hown.2 with ⟨rfl, h0⟩ | ⟨g, cap, cur, rfl, _⟩
      · exact ⟨none, 0, by rw [h0]⟩
      · exact ⟨_, cap, rfl⟩
    · cases h
  case view i lo hi =>
    subst h
    simp only [Rp] at hx
    obtain ⟨b, n, c, _, _, _, rfl⟩ := hx
    exact ⟨_, _, rfl⟩
  all_goals first
    | exact key _ rfl (by first | exact h.symm | (subst h; rfl))
theorem bound_val {d n : Nat} {x : Option Operand} (h : bound ev d x = some n) (hx : ∀ y, x = some y → Rp M N bnd w (ev y) (ρ y)) :
    (x = none ∧ n = d) ∨ ∃ y k z, x = some y ∧ ρ y = .int k z ∧ 0 ≤ z ∧ n = z.toNat := by
  cases x with
  | none => simp [bound] at h; exact .inl ⟨rfl, h.symm⟩
  | some y =>
    right
    simp only [bound] at h
    split at h
    · rename_i k z he
      split at h
      · rename_i hz
        simp only [Option.some.injEq] at h
        have := hx y rfl
        rw [he] at this
        simp only [Rp] at this
        exact ⟨y, k, z, rfl, this, hz, h.symm⟩
      · cases h
    · cases h
theorem slice_run {T e : TypeId} (hT : P.underlying T = some (.slice e)) {i : TypeInfo} (hi : P.info? e = some i) (hs : i.size = 1) {ao : Option Addr} {n c a b : Nat} {lo hi' : Option Operand} (w : World)
    (hlo : (lo = none ∧ a = 0) ∨ ∃ y k z, lo = some y ∧ ρ y = .int k z ∧ 0 ≤ z ∧ a = z.toNat) (hhi : (hi' = none ∧ b = n) ∨ ∃ y k z, hi' = some y ∧ ρ y = .int k z ∧ 0 ≤ z ∧ b = z.toNat) (hab : a ≤ b) (hbn : b ≤ n) (hnc : n ≤ c) :
    (Instr.sliceAt T (.slice ao n c) (lo.map ρ) (hi'.map ρ) none).run P w = .ok (.slice (if c = a then ao else ao.map (·.add a)) (b - a) (c - a)) w := by
  have hb : (Instr.sliceBounds true n c (lo.map ρ) (hi'.map ρ) none).run P w = .ok (a, b, c) w := by
    rcases hlo with ⟨rfl, rfl⟩ | ⟨y, k, z, rfl, hy, hz, rfl⟩ <;> rcases hhi with ⟨rfl, rfl⟩ | ⟨y', k', z', rfl, hy', hz', rfl⟩
    · simp [Instr.sliceBounds, Sem.run_bind]
    · have : z' ≤ c := by omega
      simp [Instr.sliceBounds, Instr.sliceBound, asIntOf, Sem.run_bind, hy', hz', this]
    · have : z ≤ b := by omega
      simp [Instr.sliceBounds, Instr.sliceBound, asIntOf, Sem.run_bind, hy, hz, this]
    · have h1 : z' ≤ c := by omega
      have h2 : z ≤ z' := by omega
      have h3 : z ≤ max z' 0 := by omega
      simp [Instr.sliceBounds, Instr.sliceBound, asIntOf, Sem.run_bind, hy, hz, hy', hz', h1, h2, h3]
  simp [Instr.sliceAt, Instr.slice, Sem.run_bind, run_underlying hT, hb, sizeOf, typeInfo, hi, hs]

theorem val_sound (ht : TabOK P tab) (ho : ObsW U M N bnd w os) (o : Oper) (hok : opChk P tab o.op = true) {x : SV} (h : opSem tab os ev o.op = .val x) (hev : ∀ y ∈ o.op.operands, Rp M N bnd w (ev y) (ρ y)) :
    ∃ v, (execOp ρ o).run P w = .ok (.value v) w ∧ Rp M N bnd w x v := by
  obtain ⟨dst, op, type, pos, after, guard⟩ := o
  simp only at h hev hok
  cases op <;> try (simp [opSem] at h; done)
  case move y => simp only [opSem, Out.val.injEq] at h; subst h; exact ⟨ρ y, by simp [execOp], hev y (by simp [Op.operands])⟩
  case assign y => simp only [opSem, Out.val.injEq] at h; subst h; exact ⟨ρ y, by simp [execOp], hev y (by simp [Op.operands])⟩
  case pick c a b => simp only [opSem] at h; split at h <;> cases h
  case alloc T => simp only [opSem] at h; repeat' (first | (cases h; done) | split at h)
  case box T y => simp only [opSem] at h; split at h <;> cases h
  case build T parts =>
    simp only [opSem] at h
    split at h
    · rename_i ti hti
      split at h
      · rename_i cs hrow hf
        simp only [Out.val.injEq] at h
        subst h
        have hp : ∀ p ∈ parts.toList, Rp M N bnd w (ev p.2) (ρ p.2) := fun p hp => hev p.2 (by simp [Op.operands]; exact ⟨p.1, by simpa using hp⟩)
        obtain ⟨vs, h1, h2⟩ := build_sound (ρ := ρ) (ht T ti hti) hrow parts cs hp hf
        exact ⟨_, run_v h1, by simp only [Rp]; exact ⟨vs, rfl, h2⟩⟩
      · cases h
    · cases h
  case load T a =>
    have ha := hev a (by simp [Op.operands])
    simp only [opSem] at h
    split at h
    · rename_i n ti hea hti
      split at h
      · cases h
      · rename_i hrow
        simp only [Out.val.injEq] at h
        subst h
        rw [hea] at ha
        simp only [Rp] at ha
        obtain ⟨ad, he, hm, hc⟩ := ha
        obtain ⟨⟨d, hu, hd, _⟩, _, _⟩ := ht T ti hti
        have := load_cell_run (P := P) hu (by rw [hd]; simpa using hrow) ad _ hc
        exact ⟨_, run_v (by rw [he]; exact this), by simp [Rp]⟩
    · rename_i i j ti hea hti
      split at h
      · rename_i l hrow hos
        split at h
        · rename_i hj
          simp only [Out.val.injEq] at h
          subst h
          rw [hea] at ha
          simp only [Rp] at ha
          obtain ⟨b, n, c, hb, he⟩ := ha
          have hor := ho i _ hb _ hos
          simp only [ObR] at hor
          obtain ⟨_, _, hown⟩ := hor
          obtain ⟨⟨d, hu, hd, _⟩, _, _⟩ := ht T ti hti
          have hc : w.cell? ⟨b, j, none⟩ = some (.int .u32 (l.getD j 0 : Nat)) := by
            have := hown.cells (g := b) rfl j (.int .u32 (l.getD j 0 : Nat)) (by simp [ints, List.getElem?_eq_getElem hj, List.getD_eq_getElem?_getD])
            rwa [add_lit, Nat.zero_add] at this
          have := load_cell_run (P := P) hu (by rw [hd, hrow]) _ _ hc
          exact ⟨_, run_v (by rw [he]; exact this), by simp [Rp]⟩
        · cases h
      · cases h
    · rename_i p ti hti hn1 hn2
      split at h
      · rename_i cs off hcs
        have key := fun x hx => load_sound (P := P) (T := T) (ht T ti hti) ho ha hcs (x := x) hx
        split at h
        · rename_i hrow
          split at h
          · rename_i hle
            simp only [Out.val.injEq] at h
            obtain ⟨u, h1, h2⟩ := key x (.inl ⟨hrow, hle, h.symm⟩)
            exact ⟨u, run_v h1, h2⟩
          · cases h
        · rename_i hrow
          split at h
          · rename_i y hy
            simp only [Out.val.injEq] at h
            obtain ⟨u, h1, h2⟩ := key x (.inr ⟨by simpa using hrow, by rw [hy, h]⟩)
            exact ⟨u, run_v h1, h2⟩
          · cases h
      · cases h
    · cases h
  case store T a y =>
    simp only [opSem] at h
    split at h
    · split at h
      · split at h <;> cases h
      · cases h
    · split at h
      · split at h <;> cases h
      · cases h
    · cases h
  case binOp op T y z yT =>
    simp only [opSem] at h
    split at h
    · rename_i hn
      simp only [Out.val.injEq] at h
      subst h
      unfold nilCmp at hn
      split at hn
      · rename_i hze
        have hz := hev (.const (.slice none 0 0)) (by simp [Op.operands])
        rw [hze] at hz
        simp only [Rp] at hz
        obtain ⟨l, hl⟩ := Option.isSome_iff_exists.1 hn
        obtain ⟨_, _, a, c, hv, _, hsome⟩ := (hev y (by simp [Op.operands])).list hl
        simp only [opChk] at hok
        split at hok
        · rename_i e he
          refine ⟨.bool a.isNone, run_v ?_, ?_⟩
          rotate_left
          · unfold nilVal
            rw [hl]
            cases l with
            | nil => exact ⟨_, rfl⟩
            | cons x xs =>
              obtain ⟨ad, rfl, _⟩ := hsome (by simp)
              rfl
          rw [hv, hz]
          rw [Sem.run_bind, show (eqGuard .eql T y (.const (.slice none 0 0)) (.slice a l.length c) (.slice none 0 0)).run P w = .ok () w by simp [eqGuard]]
          simp only [Result.andThen_ok, binOp]
          simp [run_equal_slice_nil' w T e a l.length c he]
        · cases hok
      · cases hn
    split at h
    · rename_i r hr
      simp only [Out.val.injEq] at h
      subst h
      obtain ⟨v, h1, h2⟩ := binSem_sound (T := T) (fun hb => by
        split at hb
        · rename_i ti hti
          obtain ⟨⟨d, hu, _, _, hbl, _⟩, _, _⟩ := ht T ti hti
          rw [hu, hbl hb]
        · cases hb) hr (hev y (by simp [Op.operands])) (hev z (by simp [Op.operands])) y z
      exact ⟨v, run_v h1, h2⟩
    · cases h
  case unOp op T y =>
    have hy := hev y (by simp [Op.operands])
    simp only [opSem] at h
    split at h
    · rename_i b hb
      simp only [Out.val.injEq] at h
      subst h
      rw [hb] at hy
      simp only [Rp] at hy
      exact ⟨.bool !b, run_v (by rw [hy]; simp [Op.unary]), by simp [Rp]⟩
    · rename_i k n hb
      simp only [Out.val.injEq] at h
      subst h
      rw [hb] at hy
      simp only [Rp] at hy
      exact ⟨.int k (k.wrap (0 - n)), run_v (by rw [hy]; simp [Op.unary, Op.intArith]), by simp [Rp]⟩
    · cases h
  case convert S T y =>
    have hy := hev y (by simp [Op.operands])
    simp only [opSem] at h
    split at h
    · rename_i k n ti hb hti
      split at h
      · rename_i k' hk'
        simp only [Out.val.injEq] at h
        subst h
        rw [hb] at hy
        simp only [Rp] at hy
        obtain ⟨⟨d, hu, _, hik, _⟩, _, _⟩ := ht T ti hti
        rw [hik k' hk'] at hu
        simp only [opChk, Option.isSome_iff_exists] at hok
        obtain ⟨dS, hS⟩ := hok
        refine ⟨.int k' (k'.wrap n), run_v ?_, by simp [Rp]⟩
        rw [hy]
        simp [Go.convert, Sem.run_bind, run_underlying hS, run_underlying hu, Conv.intToInt]
      · cases h
    · cases h
  case makeFunc fn first caps =>
    cases fn <;> simp only [opSem] at h <;> try (cases h; done)
    split at h
    · rename_i f he
      simp only [Out.val.injEq] at h
      subst h
      have hf : first = #[] := by simpa using he
      subst hf
      have : ∀ l : List Operand, (∀ y ∈ l, Rp M N bnd w (ev y) (ρ y)) → RpL M N bnd w (l.map ev) (l.map ρ) := by
        intro l
        induction l with
        | nil => intro _; simp [RpL]
        | cons y l ih => intro hl; exact ⟨ρ y, l.map ρ, rfl, hl y (by simp), ih fun z hz => hl z (by simp [hz])⟩
      refine ⟨.func (.func f) #[] (caps.map ρ), by simp [execOp, Instr.makeFunc], ?_⟩
      simp only [Rp]
      exact ⟨caps.toList.map ρ, by rw [← Array.toList_map], this _ fun y hy => hev y (by simp [Op.operands]; simpa using hy)⟩
    · cases h
  case fieldAddr T a i =>
    have ha := hev a (by simp [Op.operands])
    simp only [opSem] at h
    split at h
    · rename_i k off ti hea hti
      split at h
      · rename_i o s r ho'
        split at h
        · cases h
        · rename_i hs
          simp only [Out.val.injEq] at h
          subst h
          rw [hea] at ha
          simp only [Rp] at ha
          obtain ⟨b, hb, he⟩ := ha
          have := field_run (P := P) (w := w) (ht T ti hti) (by simpa using fun e => hs (.inl e)) ho' (by simpa using fun e => hs (.inr e)) b off
          exact ⟨_, run_v (by rw [he]; exact this), by simp only [Rp]; exact ⟨b, hb, rfl⟩⟩
      · cases h
    · rename_i cs off ti hea hti
      split at h
      · rename_i o s r ho'
        split at h
        · cases h
        · rename_i hs
          simp only [Out.val.injEq] at h
          subst h
          rw [hea] at ha
          simp only [Rp] at ha
          obtain ⟨b, T', vs, hb, he, hh, hl⟩ := ha
          have := field_run (P := P) (w := w) (ht T ti hti) (by simpa using fun e => hs (.inl e)) ho' (by simpa using fun e => hs (.inr e)) b off
          exact ⟨_, run_v (by rw [he]; exact this), by simp only [Rp]; exact ⟨b, T', vs, hb, rfl, hh, hl⟩⟩
      · cases h
    · cases h
  case field T a i =>
    have ha := hev a (by simp [Op.operands])
    simp only [opSem] at h
    split at h
    · rename_i cs ti hea hti
      rw [hea] at ha
      simp only [Rp] at ha
      obtain ⟨vs, he, hl⟩ := ha
      obtain ⟨⟨d, hu, hd, _, _, har, hf⟩, _, _⟩ := ht T ti hti
      split at h
      · rename_i o s hna ho'
        simp only [Out.val.injEq] at h
        subst h
        cases hdd : d with
        | struct fs =>
          subst hdd
          simp only at hf
          obtain ⟨f, e, h1, h2, h3, h4, h5⟩ := hf.get i o s true ho'
          have h1' : fs[i]? = some f := by simpa using h1
          refine ⟨_, run_v (r := .agg ((vs.drop o).take s).toArray) ?_, by simp only [Rp]; exact ⟨_, rfl, (hl.drop o).take s⟩⟩
          rw [he]
          simp [Instr.field, Sem.run_bind, run_underlying hu, h1', asAgg, h2, part_run h4 h3 vs o h5]
        | array n e => subst hdd; rw [har.2 ⟨n, e, rfl⟩] at hna; cases hna
        | _ => subst hdd; simp only at hf; rw [hf] at ho'; simp at ho'
      · rename_i o s hna ho'
        split at h
        · rename_i y hy
          simp only [Out.val.injEq] at h
          subst h
          obtain ⟨v, hv, hr⟩ := hl.get o y hy
          cases hdd : d with
          | struct fs =>
            subst hdd
            simp only at hf
            obtain ⟨f, e, h1, h2, h3, h4, h5⟩ := hf.get i o s false ho'
            have h1' : fs[i]? = some f := by simpa using h1
            refine ⟨v, run_v ?_, hr⟩
            rw [he]
            simp [Instr.field, Sem.run_bind, run_underlying hu, h1', asAgg, h2, part_cell_run h4 vs o h5 v hv]
          | array n e => subst hdd; rw [har.2 ⟨n, e, rfl⟩] at hna; cases hna
          | _ => subst hdd; simp only at hf; rw [hf] at ho'; simp at ho'
        · cases h
      · cases h
    · cases h
  case index T a i =>
    have ha := hev a (by simp [Op.operands])
    have hi := hev i (by simp [Op.operands])
    simp only [opSem] at h
    split at h
    · rename_i cs ti n hea hti hni
      rw [hea] at ha
      simp only [Rp] at ha
      obtain ⟨vs, he, hl⟩ := ha
      obtain ⟨⟨d, hu, hd, _, _, har, hf⟩, _, _⟩ := ht T ti hti
      split at h
      · rename_i o s hna ho'
        split at h
        · rename_i hn0
          simp only [Out.val.injEq] at h
          subst h
          obtain ⟨m, e, rfl⟩ := har.1 hna
          simp only at hf
          obtain ⟨hm, s', e', hs', he', hj⟩ := hf
          obtain ⟨rfl, rfl, hrow⟩ := hj _ _ _ _ ho'
          have hlt : n.toNat < m := by
            rw [← hm]
            exact (List.getElem?_eq_some_iff.1 ho').1
          have hlt' : n < m := by omega
          have hiv : ∃ k, ρ i = .int k n := by
            cases hx : ev i <;> simp [hx, asInt?] at hni
            subst hni
            rw [hx] at hi
            exact ⟨_, by simpa [Rp] using hi⟩
          obtain ⟨k, hk⟩ := hiv
          refine ⟨_, run_v (r := .agg ((vs.drop (n.toNat * s)).take s).toArray) ?_, by simp only [Rp]; exact ⟨_, rfl, (hl.drop _).take s⟩⟩
          rw [he, hk]
          simp [Instr.index, Sem.run_bind, asIntOf, run_underlying hu, hn0, hlt', sizeOf_run hs', part_run he' hs' vs (n.toNat * s) hrow]
        · cases h
      · cases h
    · cases h
  case indexAddr T a i =>
    have ha := hev a (by simp [Op.operands])
    have hi := hev i (by simp [Op.operands])
    have hint : ∀ n, asInt? (ev i) = some n → ∃ k, ρ i = .int k n := by
      intro n hni
      cases hx : ev i <;> simp [hx, asInt?] at hni
      subst hni
      rw [hx] at hi
      exact ⟨_, by simpa [Rp] using hi⟩
    simp only [opSem] at h
    split at h
    · rename_i k n hea hni
      obtain ⟨kk, hk⟩ := hint n hni
      split at h
      · rename_i l hna hos
        split at h
        · rename_i hn
          simp only [Out.val.injEq] at h
          subst h
          rw [hea] at ha
          obtain ⟨_, _, hown, hb⟩ := row_ws ho hos ha
          rcases hown.2 with ⟨_, h0⟩ | ⟨g, cap, cur, hv, _⟩
          · omega
          rw [hv] at hb
          simp only [opChk] at hok
          split at hok
          · rename_i e hT
            split at hok
            · rename_i ie hie
              have hs : ie.size = 1 := by simpa using hok
              refine ⟨.pointer (some ⟨g, n.toNat, none⟩), run_v ?_, by simp only [Rp]; exact ⟨g, _, _, hb, rfl⟩⟩
              rw [hv, hk]
              simp [Instr.indexAt, Sem.run_bind, asIntOf, run_underlying hT, hn.1, hn.2, sizeOf, typeInfo, hie, hs, add_lit]
            · cases hok
          · rw [hna] at hok; cases hok
          · cases hok
        · cases h
      · cases h
    · rename_i k off n hea hni
      obtain ⟨kk, hk⟩ := hint n hni
      rw [hea] at ha
      simp only [Rp] at ha
      obtain ⟨b, hb, hv⟩ := ha
      split at h
      · rename_i ti hti
        obtain ⟨⟨d, hu, hd, _, _, har, hf⟩, _, _⟩ := ht T ti hti
        split at h
        · rename_i o s r hna ho'
          split at h
          · rename_i hn0
            simp only [Out.val.injEq] at h
            subst h
            obtain ⟨m, e, rfl⟩ := har.1 hna
            simp only at hf
            obtain ⟨hm, s', e', hs', he', hj⟩ := hf
            obtain ⟨rfl, rfl, hrow⟩ := hj _ _ _ _ ho'
            have hlt : n.toNat < m := by
              rw [← hm]
              exact (List.getElem?_eq_some_iff.1 ho').1
            have hlt' : n < m := by omega
            refine ⟨.pointer (some ⟨b, off + n.toNat * s, none⟩), run_v ?_, by simp only [Rp]; exact ⟨b, hb, rfl⟩⟩
            rw [hv, hk]
            simp [Instr.indexAt, Instr.sureAddr, Sem.run_bind, asIntOf, run_underlying hu, hn0, hlt', sizeOf_run hs', add_lit]
          · cases h
        · cases h
      · cases h
    · rename_i k lo hi' n hea hni
      obtain ⟨kk, hk⟩ := hint n hni
      rw [hea] at ha
      simp only [Rp] at ha
      obtain ⟨b, m, c, hb, hlo, hhi, hv⟩ := ha
      split at h
      · rename_i l hna hos
        split at h
        · rename_i hn
          simp only [Out.val.injEq] at h
          subst h
          simp only [opChk] at hok
          split at hok
          · rename_i e hT
            split at hok
            · rename_i ie hie
              have hs : ie.size = 1 := by simpa using hok
              refine ⟨.pointer (some ⟨b, lo + n.toNat, none⟩), run_v ?_, by simp only [Rp]; exact ⟨b, _, _, hb, rfl⟩⟩
              rw [hv, hk]
              have h2 : n < ((hi' - lo : Nat) : Int) := hn.2.1
              simp [Instr.indexAt, Sem.run_bind, asIntOf, run_underlying hT, hn.1, h2, sizeOf, typeInfo, hie, hs, add_lit]
            · cases hok
          · rw [hna] at hok; cases hok
          · cases hok
        · cases h
      · cases h
    · rename_i n hni hx1 hx2 hx3
      obtain ⟨kk, hk⟩ := hint n hni
      split at h
      · rename_i l hna hl
        split at h
        · rename_i hn
          simp only [Out.val.injEq] at h
          subst h
          obtain ⟨ad, c, hv, hm, hc⟩ := ws_at (T := T) (d := .bool) (ha.list hl) hn.1 hn.2
          simp only [opChk] at hok
          split at hok
          · rename_i e hT
            split at hok
            · rename_i ie hie
              have hs : ie.size = 1 := by simpa using hok
              refine ⟨.pointer (some (ad.add n.toNat)), run_v ?_, by simp only [Rp]; exact ⟨_, rfl, hm, hc⟩⟩
              rw [hv, hk]
              simp [Instr.indexAt, Sem.run_bind, asIntOf, run_underlying hT, hn.1, hn.2, sizeOf, typeInfo, hie, hs]
            · cases hok
          · rw [hna] at hok; cases hok
          · cases hok
        · cases h
      · cases h
    · cases h
  case extract t i =>
    have hy := hev t (by simp [Op.operands])
    simp only [opSem] at h
    split at h
    · rename_i vs hb
      split at h
      · rename_i y hy'
        simp only [Out.val.injEq] at h
        subst h
        rw [hb] at hy
        simp only [Rp] at hy
        obtain ⟨us, he, hl⟩ := hy
        obtain ⟨v, hv, hr⟩ := hl.get i y hy'
        exact ⟨v, run_v (by rw [he]; simp [Instr.extract, hv]), hr⟩
      · cases h
    · cases h
  case call c =>
    simp only [opSem] at h
    split at h
    · repeat' (first | (cases h; done) | split at h)
    · repeat' (first | (cases h; done) | split at h)
    · repeat' (first | (cases h; done) | split at h)
    · rename_i hcal
      split at h
      · rename_i y hargs
        split at h
        · rename_i n hn
          simp only [Out.val.injEq] at h
          subst h
          have hy := hev y (by simp [Op.operands, Call.operands, hcal]; have := congrArg (y ∈ ·) hargs; simpa using this)
          obtain ⟨a, cc, hv⟩ := lenOf_sound ho hy hn
          simp only [opChk, hcal] at hok
          split at hok
          · rename_i T hT
            split at hok
            · rename_i e hu
              have hargs' : c.args = #[y] := by apply Array.ext'; simpa using hargs
              have hT' : c.argTypes = #[T] := by apply Array.ext'; simpa using hT
              refine ⟨.int .i64 n, ?_, by simp [Rp]⟩
              obtain ⟨callee, args, argTypes⟩ := c
              simp only at hcal hargs' hT'
              subst hcal; subst hargs'; subst hT'
              simp [execOp, resolve, Sem.run_bind, invoke, builtin, hv, len_run T e hu]
            · cases hok
          · cases hok
        · cases h
      · cases h
    · rename_i hcal
      split at h
      · rename_i x y hargs
        split at h
        · rename_i k a k' b hx hy
          simp only [Out.val.injEq] at h
          subst h
          have hx' := hev x (by simp [Op.operands, Call.operands, hcal]; have := congrArg (x ∈ ·) hargs; simpa using this)
          have hy' := hev y (by simp [Op.operands, Call.operands, hcal]; have := congrArg (y ∈ ·) hargs; simpa using this)
          rw [hx] at hx'
          rw [hy] at hy'
          simp only [Rp] at hx' hy'
          have hargs' : c.args = #[x, y] := by apply Array.ext'; simpa using hargs
          refine ⟨.int k (if b < a then b else a), ?_, by simp [Rp]⟩
          obtain ⟨callee, args, argTypes⟩ := c
          simp only at hcal hargs'
          subst hcal; subst hargs'
          simp [execOp, resolve, Sem.run_bind, invoke, builtin, hx', hy', run_min_int2]
        · cases h
      · cases h
    · cases h
  case makeSlice T n c =>
    simp only [opSem] at h
    split at h
    · split at h <;> cases h
    · cases h
  case buildSlice T n ps =>
    simp only [opSem] at h
    repeat' (first | (cases h; done) | split at h)
  case slice T x lo hi mx =>
    have hx := hev x (by simp [Op.operands])
    have hlo : ∀ y, lo = some y → Rp M N bnd w (ev y) (ρ y) := fun y hy => hev y (by simp [Op.operands, hy])
    have hhi : ∀ y, hi = some y → Rp M N bnd w (ev y) (ρ y) := fun y hy => hev y (by simp [Op.operands, hy])
    obtain ⟨hT, i, hi1, hs, _, _⟩ := wordSlice_spec hok
    cases mx with
    | some _ => simp [opSem] at h
    | none =>
      simp only [opSem] at h
      split at h
      · rename_i k hk
        split at h
        · rename_i l hos
          split at h
          · rename_i a b ha hb
            split at h
            · rename_i hc
              simp only [Out.val.injEq] at h
              subst h
              rw [hk] at hx
              obtain ⟨_, _, hown, hbn⟩ := row_ws ho hos hx
              rcases hown.2 with ⟨_, h0⟩ | ⟨g, cap, cur, hv, _, _, hcap, _⟩
              · omega
              rw [hv] at hbn
              refine ⟨.slice (some ⟨g, a, none⟩) (b - a) (cap - a), run_v ?_, ?_⟩
              · rw [hv]
                have := slice_run (ρ := ρ) hT hi1 hs (ao := some ⟨g, 0, none⟩) (n := l.length) (c := cap) w (bound_val ha hlo) (bound_val hb hhi) hc.1 hc.2.1 hcap
                refine this.trans ?_
                by_cases e : cap = a
                · have : a = 0 := by omega
                  subst this
                  simp [e]
                · simp [e, add_lit]
              · simp only [Rp]
                exact ⟨g, _, _, hbn, hc.1, hc.2.1, rfl⟩
            · cases h
          · cases h
        · cases h
      · split at h
        · rename_i l hl
          split at h
          · rename_i a b ha hb
            split at h
            · rename_i hc
              simp only [Out.val.injEq] at h
              subst h
              obtain ⟨h1, h2, ao, c, hv, hcap, hcell⟩ := hx.list hl
              have hr := slice_run (ρ := ρ) hT hi1 hs (ao := ao) (n := l.length) (c := c) w (bound_val ha hlo) (bound_val hb hhi) hc.1 hc.2 hcap
              refine ⟨_, run_v (by rw [hv]; exact hr), ?_⟩
              simp only [Rp]
              have hlen : ((l.take b).drop a).length = b - a := by simp; omega
              refine ⟨fun y hy => h1 y (List.mem_of_mem_take (List.mem_of_mem_drop hy)), by rw [hlen]; omega, _, _, by rw [hlen], by rw [hlen]; omega, fun hp => ?_⟩
              rw [hlen] at hp
              obtain ⟨ad, rfl, hm, hcc⟩ := hcell (by omega)
              have hblk : (ad.add a).block = ad.block := by unfold Addr.add; split <;> rfl
              refine ⟨ad.add a, by rw [if_neg (by omega)]; rfl, by rw [hblk]; exact hm, fun j hj => ?_⟩
              rw [hlen] at hj
              have := hcc (a + j) (by omega)
              rw [show (ad.add a).add j = ad.add (a + j) from Addr.add_add _ _ _, this]
              simp [List.getD_eq_getElem?_getD, List.getElem?_drop, List.getElem?_take, show a + j < b by omega]
            · cases h
          · cases h
        · cases h
end
end Iv
end Go.Proofs.YtfajgibpidlojaaDoor
end
