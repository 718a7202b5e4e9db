/-
  Contracts of functions that a law reaches, and what they rest on, part 2. Each part says its own conditions.
-/
import Derived.Maps.AppendAt
import Derived.LoopN
import Derived.Orders
import Derived.Test.YtfajgibpidlojaaDoorBase1

section
/- The verified interpreter, part F: what holds between two operations, and how each outcome keeps it. Conditions: the table of types is the program's (TabOK), the callees' contracts (EnvOK). -/
set_option linter.unusedVariables false
set_option linter.unusedSimpArgs false
namespace Go.Proofs.YtfajgibpidlojaaDoor
namespace Iv
open Go Go.RowKit

def alive (os : List Ob) (i : Nat) : Prop := ∃ o, os[i]? = some o ∧ o.live = true
/-- The blocks that may yet be written. -/
def Mut (Mc : Nat → Prop) (bnd : Nat → Option Value) (os : List Ob) (b : Nat) : Prop := Mc b ∨ ∃ i v, bnd i = some v ∧ alive os i ∧ blk v = some b

/-- What lies below the function at hand, in the functions that run it in place. -/
structure Ctx (u : TypeId) (ap : Bool) where
  ks : List SV
  kv : List Value
  none : ap = true → ks = [] ∧ kv = []
  ds : List Deferred
structure Inv {u : TypeId} {ap : Bool} (U : Ctx u ap) (Mc : Nat → Prop) (w0 : World) (bnd : Nat → Option Value) (st : St) (a : Act) (w : World) : Prop where
  slots : RpL (Mut Mc bnd st.os) w0.heap.size bnd w st.slots a.tmps.toList
  defs : a.defers = U.ds
  below : Below w0.heap.size w0 w
  obs : ObsR u (Mut Mc bnd st.os) w0.heap.size bnd w st.os
  dist : ∀ i j v u b, bnd i = some v → bnd j = some u → alive st.os i → alive st.os j → blk v = some b → blk u = some b → i = j
  mc : MOK Mc w0
  keep : RpL (Mut Mc bnd st.os) w0.heap.size bnd w U.ks U.kv

/-- The value of the failure that ends an operation. -/
def failV (F : TypeId) (k : Int) : Value := .iface F (.agg #[.int .i64 k])
/-- How a call ends. -/
def Fin (F : TypeId) (M : Nat → Prop) (w : World) (r : Except Int SV) (e : Ending) (w' : World) : Prop :=
  Below w.heap.size w w' ∧ match r with
  | .ok x => ∃ v, e = .returned v ∧ x.clean = true ∧ Rp M w.heap.size (fun _ => none) w' x v
  | .error k => e = .panicked [{ v := failV F k, recovered := false }]
/-- A callee's contract. -/
def Holds (P : Program) (F : TypeId) (f : FuncId) (xs : List SV) (r : Except Int SV) : Prop :=
  ∀ M w vs, MOK M w → RpL M w.heap.size (fun _ => none) w xs vs → Calls P f vs.toArray w (Fin F M w r)
def Enters (P : Program) (f : FuncId) : Prop := ∀ args w, (callFunc f args).run P w = .ok (.enter f args) w
/-- A function that is run in place: it answers, and leaves the objects, so that K holds. -/
def InlOK (P : Program) (u : TypeId) (f : FuncId) (xs : List SV) (os : List Ob) (K : SV → List Ob → Prop) : Prop :=
  ∀ (ap : Bool) (U : Ctx u ap) (Mc : Nat → Prop) (w0 : World) (bnd : Nat → Option Value) (w : World) (vs : List Value), ap = false → Inv U Mc w0 bnd ⟨xs, os⟩ { tmps := vs.toArray, defers := [] } w →
    Calls P f vs.toArray w fun e w' => ∃ x os' bnd' v, e = .returned v ∧ K x os' ∧ Inv U Mc w0 bnd' ⟨[x], os'⟩ { tmps := #[v], defers := [] } w'
/-- A function whose answer is a row that no one else knows. -/
def HoldsF (P : Program) (u : TypeId) (f : FuncId) (xs : List SV) (l : List Nat) : Prop :=
  ∀ M w vs, MOK M w → RpL M w.heap.size (fun _ => Option.none) w xs vs → Calls P f vs.toArray w fun e w' => Below w.heap.size w w' ∧ ∃ v, e = .returned v ∧ (∀ x ∈ l, x < 4294967296) ∧ l.length ≤ cap30 ∧ w'.ownsRow w.heap.size u 1 v l.length (ints l)
structure EnvOK (P : Program) (F : TypeId) (tab : Tb) (env : Env) : Prop where
  con : ∀ f xs pre r, env f xs = some (pre, r) → Enters P f ∧ (pre → Holds P F f xs r.pick)
  inl : ∀ f k, env.inl f = some k → Enters P f ∧ ∀ xs os K, k xs os K → InlOK P tab.u f xs os K
  fresh : ∀ f xs pre l, env.fresh f xs = some (pre, l) → Enters P f ∧ (pre → HoldsF P tab.u f xs l)

section
variable {P : Program} {tab : Tb} {U : Ctx tab.u tab.app} {F : TypeId} {Mc M M' : Nat → Prop} {N : Nat} {w0 w w' : World} {bnd bnd' : Nat → Option Value} {st : St} {a : Act} {os : List Ob}

theorem own_heap {base : Nat} {e : TypeId} {size n : Nat} {v : Value} {xs : List Value} (h : w.ownsRow base e size v n xs) (hh : ∀ b, blk v = some b → w'.heap[b]? = w.heap[b]?) : w'.ownsRow base e size v n xs := by
  refine ⟨h.1, ?_⟩
  rcases h.2 with h0 | ⟨g, cap, cur, rfl, h1, h2, h3⟩
  · exact .inl h0
  · exact .inr ⟨g, cap, cur, rfl, h1, by rw [hh g rfl]; exact h2, h3⟩
theorem obR_block {o : Option Ob} {v : Value} (h : ObR tab.u M N bnd w o v) (hl : ∃ x, o = some x ∧ x.live = true) {b : Nat} (hb : blk v = some b) : N ≤ b ∧ ∃ x, w.heap[b]? = some x := by
  obtain ⟨x, rfl, hx⟩ := hl
  cases x with
  | var T cs =>
    obtain ⟨b', vs, rfl, h1, h2, _⟩ := h
    simp only [blk, Option.some.injEq] at hb
    subst hb
    exact ⟨h1, _, h2⟩
  | row l =>
    obtain ⟨_, _, hown⟩ := h
    rcases hown.2 with ⟨rfl, _⟩ | ⟨g, cap, cur, rfl, h1, h2, _⟩
    · simp [blk] at hb
    · simp only [blk, Option.some.injEq] at hb
      subst hb
      exact ⟨h1, _, h2⟩
  | dead => simp [Ob.live] at hx
theorem ObR.sees {o : Option Ob} {v : Value} (h : ObR tab.u M N bnd w o v) (s : Sees M M' N N bnd bnd' w w') (hh : (∃ x, o = some x ∧ x.live = true) → ∀ b, blk v = some b → w'.heap[b]? = w.heap[b]?) : ObR tab.u M' N bnd' w' o v := by
  cases o with
  | none => exact h
  | some x =>
    cases x with
    | var T cs =>
      obtain ⟨b', vs, rfl, h1, h2, h3⟩ := h
      exact ⟨b', vs, rfl, h1, by rw [hh ⟨_, rfl, rfl⟩ b' rfl]; exact h2, RpL.sees s h3⟩
    | row l =>
      obtain ⟨h1, h2, h3⟩ := h
      exact ⟨h1, h2, own_heap h3 (hh ⟨_, rfl, rfl⟩)⟩
    | dead => trivial
theorem below_heap {B : Nat} (h : Below B w w') {b : Nat} (hb : b < B) : w'.heap[b]? = w.heap[b]? := h.block b hb
theorem heap_lt {b : Nat} {o : Obj} (h : w.heap[b]? = some o) : b < w.heap.size := (Array.getElem?_eq_some_iff.1 h).1
theorem sees_grow (h : Below w.heap.size w w') : Sees M M N N bnd bnd w w' :=
  ⟨fun b hb => .inl hb, Nat.le_refl _, fun _ _ h => h, fun b o ho _ => by rw [below_heap h (heap_lt ho)]; exact ho⟩
/-- The world grows. -/
theorem Inv.grow (h : Inv U Mc w0 bnd st a w) (hg : Below w.heap.size w w') : Inv U Mc w0 bnd st a w' := by
  have s : Sees (Mut Mc bnd st.os) (Mut Mc bnd st.os) w0.heap.size w0.heap.size bnd bnd w w' := sees_grow hg
  refine ⟨RpL.sees s h.slots, h.defs, h.below.trans (hg.mono h.below.size), fun i v hv => (h.obs i v hv).sees s fun hl b hb => ?_, h.dist, h.mc, RpL.sees s h.keep⟩
  obtain ⟨_, x, hx⟩ := obR_block (h.obs i v hv) hl hb
  exact below_heap hg (heap_lt hx)
theorem Act.put_tmps (a : Act) (d : Nat) (v : Value) : (a.put (some d) v).tmps.toList = a.tmps.toList.set d v := by
  simp [Act.put, Array.setIfInBounds, Array.set]
  split <;> simp_all [List.set_eq_of_length_le]
/-- A slot is written. -/
theorem Inv.put (h : Inv U Mc w0 bnd st a w) (dst : Option Tmp) {x : SV} {v : Value} (hx : Rp (Mut Mc bnd st.os) w0.heap.size bnd w x v) : Inv U Mc w0 bnd (st.put dst x) (a.put dst v) w := by
  cases dst with
  | none => exact h
  | some d => exact ⟨by rw [Act.put_tmps]; exact h.slots.set d hx, h.defs, h.below, h.obs, h.dist, h.mc, h.keep⟩
theorem alive_lt {i : Nat} (h : alive os i) : i < os.length := by
  obtain ⟨o, ho, _⟩ := h
  exact (List.getElem?_eq_some_iff.1 ho).1
/-- An object is made. -/
theorem Inv.new (h : Inv U Mc w0 bnd st a w) {o : Ob} {v : Value} (hg : Below w.heap.size w w')
    (hblk : ∀ b, blk v = some b → w.heap.size ≤ b)
    (ho : ∀ bnd', Sees (Mut Mc bnd st.os) (Mut Mc bnd' (st.os ++ [o])) w0.heap.size w0.heap.size bnd bnd' w w' → ObR tab.u (Mut Mc bnd' (st.os ++ [o])) w0.heap.size bnd' w' (some o) v) :
    ∃ bnd', bnd' st.os.length = some v ∧ Inv U Mc w0 bnd' { st with os := st.os ++ [o] } a w' := by
  have hnone : bnd st.os.length = none := by
    cases hb : bnd st.os.length with
    | none => rfl
    | some u =>
      have := h.obs _ u hb
      simp [ObR] at this
  refine ⟨fun i => if i = st.os.length then some v else bnd i, by simp, ?_⟩
  have hold : ∀ i u, bnd i = some u → (if i = st.os.length then some v else bnd i) = some u := by
    intro i u hu
    split
    · rename_i e; subst e; rw [hnone] at hu; cases hu
    · exact hu
  have halive : ∀ i, alive (st.os ++ [o]) i → alive st.os i ∨ i = st.os.length := by
    intro i hi
    have hlt := alive_lt hi
    simp at hlt
    by_cases e : i = st.os.length
    · exact .inr e
    · obtain ⟨x, hx, hl⟩ := hi
      rw [List.getElem?_append_left (by omega)] at hx
      exact .inl ⟨x, hx, hl⟩
  have s : Sees (Mut Mc bnd st.os) (Mut Mc (fun i => if i = st.os.length then some v else bnd i) (st.os ++ [o])) w0.heap.size w0.heap.size bnd (fun i => if i = st.os.length then some v else bnd i) w w' := by
    refine ⟨fun b hb => ?_, Nat.le_refl _, hold, fun b x hx _ => by rw [below_heap hg (heap_lt hx)]; exact hx⟩
    rcases hb with hb | ⟨i, u, hu, hi, hb⟩
    · exact .inl (.inl hb)
    · by_cases e : i = st.os.length
      · simp only [e, if_true, Option.some.injEq] at hu
        subst hu
        exact .inr fun x hx => by have := heap_lt hx; have := hblk b hb; omega
      · simp only [e, if_false] at hu
        rcases halive i hi with hi | hi
        · exact .inl (.inr ⟨i, u, hu, hi, hb⟩)
        · exact absurd hi e
  have hlt : ∀ i u b, bnd i = some u → alive st.os i → blk u = some b → b < w.heap.size := fun i u b hu hi hb => by
    obtain ⟨_, x, hx⟩ := obR_block (h.obs i u hu) hi hb
    exact heap_lt hx
  refine ⟨RpL.sees s h.slots, h.defs, h.below.trans (hg.mono h.below.size), fun i u hu => ?_, fun i j v' u b hi hj ai aj bi bj => ?_, h.mc, RpL.sees s h.keep⟩
  · by_cases e : i = st.os.length
    · subst e
      simp only [if_true, Option.some.injEq] at hu
      subst hu
      simp only [List.getElem?_concat_length]
      exact ho _ s
    · simp only [e, if_false] at hu
      have hob := h.obs i u hu
      have hil : i < st.os.length := by
        cases hx : st.os[i]? with
        | none => rw [hx] at hob; exact hob.elim
        | some _ => exact (List.getElem?_eq_some_iff.1 hx).1
      simp only [List.getElem?_append_left hil]
      refine hob.sees s fun hl b hb => ?_
      obtain ⟨_, x, hx⟩ := obR_block hob hl hb
      exact below_heap hg (heap_lt hx)
  · by_cases ei : i = st.os.length <;> by_cases ej : j = st.os.length
    · omega
    · simp only [ei, ej, if_true, if_false, Option.some.injEq] at hi hj
      subst hi
      rcases halive j aj with aj | aj
      · have := hlt j u b hj aj bj; have := hblk b bi; omega
      · exact absurd aj ej
    · simp only [ei, ej, if_true, if_false, Option.some.injEq] at hi hj
      subst hj
      rcases halive i ai with ai | ai
      · have := hlt i v' b hi ai bi; have := hblk b bj; omega
      · exact absurd ai ei
    · simp only [ei, ej, if_false] at hi hj
      rcases halive i ai with ai | ai
      · rcases halive j aj with aj | aj
        · exact h.dist i j v' u b hi hj ai aj bi bj
        · exact absurd aj ej
      · exact absurd ai ei
/-- An object of the function's own is written. -/
theorem Inv.upd (h : Inv U Mc w0 bnd st a w) {i : Nat} {o o' : Ob} {v : Value} {b : Nat} (hi : st.os[i]? = some o) (hl : o.live = true) (hl' : o'.live = true) (hv : bnd i = some v) (hb : blk v = some b)
    (hother : ∀ c, c ≠ b → w'.heap[c]? = w.heap[c]?) (hbel : Below w0.heap.size w0 w')
    (ho : Sees (Mut Mc bnd st.os) (Mut Mc bnd (st.os.set i o')) w0.heap.size w0.heap.size bnd bnd w w' → ObR tab.u (Mut Mc bnd (st.os.set i o')) w0.heap.size bnd w' (some o') v) :
    Inv U Mc w0 bnd { st with os := st.os.set i o' } a w' := by
  have hil : i < st.os.length := (List.getElem?_eq_some_iff.1 hi).1
  have ha : ∀ j, alive (st.os.set i o') j ↔ alive st.os j := by
    intro j
    by_cases e : j = i
    · subst e
      constructor
      · intro _; exact ⟨o, hi, hl⟩
      · intro _; exact ⟨o', by simp [hil], hl'⟩
    · simp only [alive, List.getElem?_set_ne (Ne.symm e)]
  have hM : ∀ c, Mut Mc bnd (st.os.set i o') c ↔ Mut Mc bnd st.os c := by
    intro c
    simp only [Mut, ha]
  have hbN := (obR_block (h.obs i v hv) ⟨o, hi, hl⟩ hb).1
  have s : Sees (Mut Mc bnd st.os) (Mut Mc bnd (st.os.set i o')) w0.heap.size w0.heap.size bnd bnd w w' := by
    refine ⟨fun c hc => .inl ((hM c).1 hc), Nat.le_refl _, fun _ _ h => h, fun c x hx hc => ?_⟩
    rw [hother c ?_]
    · exact hx
    · rintro rfl
      rcases hc with hc | hc
      · exact hc (.inr ⟨i, v, hv, ⟨o, hi, hl⟩, hb⟩)
      · omega
  refine ⟨RpL.sees s h.slots, h.defs, hbel, fun j u hu => ?_, fun j k v' u c hj hk aj ak bj bk => h.dist j k v' u c hj hk ((ha j).1 aj) ((ha k).1 ak) bj bk, h.mc, RpL.sees s h.keep⟩
  by_cases e : j = i
  · subst e
    rw [hv] at hu
    cases hu
    simp only [List.getElem?_set_self hil]
    exact ho s
  · simp only [List.getElem?_set_ne (Ne.symm e)]
    refine (h.obs j u hu).sees s fun hlj c hc => hother c ?_
    rintro rfl
    exact e (h.dist j i u v c hu hv hlj ⟨o, hi, hl⟩ hc hb)
theorem kill_alive : ∀ (fz : List Nat) (os : List Ob) (j : Nat), alive (kill os fz) j → alive os j ∧ j ∉ fz
  | [], os, j, h => ⟨h, by simp⟩
  | i :: fz, os, j, h => by
    obtain ⟨h1, h2⟩ := kill_alive fz (os.set i .dead) j h
    by_cases e : j = i
    · subst e
      obtain ⟨o, ho, hl⟩ := h1
      rw [List.getElem?_set] at ho
      simp at ho
      obtain ⟨_, rfl⟩ := ho
      simp [Ob.live] at hl
    · refine ⟨?_, by simp [e, h2]⟩
      simpa only [alive, List.getElem?_set_ne (Ne.symm e)] using h1
theorem kill_get : ∀ (fz : List Nat) (os : List Ob) (j : Nat), (kill os fz)[j]? = os[j]? ∨ (kill os fz)[j]? = some .dead
  | [], os, j => .inl rfl
  | i :: fz, os, j => by
    rcases kill_get fz (os.set i .dead) j with h | h
    · by_cases e : j = i
      · subst e
        rw [kill, h, List.getElem?_set]
        by_cases hl : j < os.length
        · exact .inr (by simp [hl])
        · exact .inl (by simp [hl])
      · exact .inl (by rw [kill, h, List.getElem?_set_ne (Ne.symm e)])
    · exact .inr h
theorem kill_length : ∀ (fz : List Nat) (os : List Ob), (kill os fz).length = os.length
  | [], os => rfl
  | i :: fz, os => by rw [kill, kill_length fz]; simp
/-- Rows are written no more. -/
theorem Inv.kill (h : Inv U Mc w0 bnd st a w) (fz : List Nat) : Inv U Mc w0 bnd { st with os := kill st.os fz } a w := by
  have s : Sees (Mut Mc bnd st.os) (Mut Mc bnd (Iv.kill st.os fz)) w0.heap.size w0.heap.size bnd bnd w w := by
    refine ⟨fun c hc => .inl ?_, Nat.le_refl _, fun _ _ h => h, fun c x hx _ => hx⟩
    rcases hc with hc | ⟨i, v, hv, hi, hc⟩
    · exact .inl hc
    · exact .inr ⟨i, v, hv, (kill_alive fz _ i hi).1, hc⟩
  refine ⟨RpL.sees s h.slots, h.defs, h.below, fun j u hu => ?_, fun j k v' u c hj hk aj ak bj bk => h.dist j k v' u c hj hk (kill_alive fz _ j aj).1 (kill_alive fz _ k ak).1 bj bk, h.mc, RpL.sees s h.keep⟩
  rcases kill_get fz st.os j with e | e
  · simp only [e]
    exact (h.obs j u hu).sees s fun _ _ _ => rfl
  · simp only [e]
    trivial
/-- A row is made anew, on its old place or another. -/
theorem Inv.remake (h : Inv U Mc w0 bnd st a w) (i : Option Nat) (hi : ∀ k, i = some k → ∃ o u, st.os[k]? = some o ∧ o.live = true ∧ bnd k = some u) {l : List Nat} {v' : Value}
    (hg : ∀ b, b < w.heap.size → (∀ k u, i = some k → bnd k = some u → blk u ≠ some b) → w'.heap[b]? = w.heap[b]?)
    (hbel : Below w0.heap.size w0 w')
    (hv' : ∀ b, blk v' = some b → w.heap.size ≤ b ∨ ∃ k u, i = some k ∧ bnd k = some u ∧ blk u = some b)
    (ho : (∀ x ∈ l, x < 4294967296) ∧ l.length ≤ cap30 ∧ w'.ownsRow w0.heap.size tab.u 1 v' l.length (ints l)) (hform : ∃ a n c, v' = .slice a n c) :
    ∃ bnd', bnd' st.os.length = some v' ∧ Inv U Mc w0 bnd' { st with os := Iv.kill st.os i.toList ++ [.row l] } a w' := by
  have hnone : bnd st.os.length = none := by
    cases hb : bnd st.os.length with
    | none => rfl
    | some u =>
      have := h.obs _ u hb
      simp [ObR] at this
  have hkl : (Iv.kill st.os i.toList).length = st.os.length := kill_length _ _
  refine ⟨fun i => if i = st.os.length then some v' else bnd i, by simp, ?_⟩
  have hold : ∀ i u, bnd i = some u → (if i = st.os.length then some v' else bnd i) = some u := by
    intro i u hu
    split
    · rename_i e; subst e; rw [hnone] at hu; cases hu
    · exact hu
  have halive : ∀ j, alive (Iv.kill st.os i.toList ++ [.row l]) j → (alive st.os j ∧ i ≠ some j) ∨ j = st.os.length := by
    intro j hj
    have hlt := alive_lt hj
    simp [hkl] at hlt
    by_cases e : j = st.os.length
    · exact .inr e
    · obtain ⟨x, hx, hl⟩ := hj
      rw [List.getElem?_append_left (by omega)] at hx
      obtain ⟨h1, h2⟩ := kill_alive i.toList st.os j ⟨x, hx, hl⟩
      exact .inl ⟨h1, fun e => h2 (by simp [e])⟩
  have hown : ∀ k u b, i = some k → bnd k = some u → blk u = some b → Mut Mc bnd st.os b ∧ w0.heap.size ≤ b := by
    intro k u b hk hu hb
    obtain ⟨o, u', ho', hl, hu'⟩ := hi k hk
    rw [hu] at hu'
    cases hu'
    exact ⟨.inr ⟨k, u, hu, ⟨o, ho', hl⟩, hb⟩, (obR_block (h.obs k u hu) ⟨o, ho', hl⟩ hb).1⟩
  have s : Sees (Mut Mc bnd st.os) (Mut Mc (fun j => if j = st.os.length then some v' else bnd j) (Iv.kill st.os i.toList ++ [.row l])) w0.heap.size w0.heap.size bnd (fun j => if j = st.os.length then some v' else bnd j) w w' := by
    refine ⟨fun b hb => ?_, Nat.le_refl _, hold, fun b x hx hm => ?_⟩
    · rcases hb with hb | ⟨j, u, hu, hj, hb⟩
      · exact .inl (.inl hb)
      · by_cases e : j = st.os.length
        · simp only [e, if_true, Option.some.injEq] at hu
          subst hu
          rcases hv' b hb with h' | ⟨k, u, hk, hu, hb'⟩
          · exact .inr fun x hx => by have := heap_lt hx; omega
          · exact .inl (hown k u b hk hu hb').1
        · simp only [e, if_false] at hu
          rcases halive j hj with hj | hj
          · exact .inl (.inr ⟨j, u, hu, hj.1, hb⟩)
          · exact absurd hj e
    · rw [hg b (heap_lt hx) fun k u hk hu hb => ?_]
      · exact hx
      · obtain ⟨h1, h2⟩ := hown k u b hk hu hb
        rcases hm with hm | hm
        · exact hm h1
        · omega
  have hlt : ∀ i u b, bnd i = some u → alive st.os i → blk u = some b → b < w.heap.size := fun i u b hu hi hb => by
    obtain ⟨_, x, hx⟩ := obR_block (h.obs i u hu) hi hb
    exact heap_lt hx
  -- an old object that is alive lies elsewhere than the new one
  have apart : ∀ j u b, bnd j = some u → alive st.os j → i ≠ some j → blk u = some b → blk v' ≠ some b := by
    intro j u b hj aj hij bj hb
    rcases hv' b hb with h' | ⟨k, u', hk, hu', hb'⟩
    · have := hlt j u b hj aj bj; omega
    · obtain ⟨o, _, ho', hl, _⟩ := hi k hk
      have := h.dist j k u u' b hj hu' aj ⟨o, ho', hl⟩ bj hb'
      subst this
      exact hij hk
  refine ⟨RpL.sees s h.slots, h.defs, hbel, fun j u hu => ?_, fun j k v1 u b hj hk aj ak bj bk => ?_, h.mc, RpL.sees s h.keep⟩
  · by_cases e : j = st.os.length
    · subst e
      simp only [if_true, Option.some.injEq] at hu
      subst hu
      rw [List.getElem?_append_right (by omega)]
      simp only [hkl, Nat.sub_self, List.getElem?_cons_zero]
      exact ho
    · simp only [e, if_false] at hu
      have hob := h.obs j u hu
      have hjl : j < st.os.length := by
        cases hx : st.os[j]? with
        | none => rw [hx] at hob; exact hob.elim
        | some _ => exact (List.getElem?_eq_some_iff.1 hx).1
      rw [List.getElem?_append_left (by omega)]
      by_cases hij : i = some j
      · subst hij
        have : (Iv.kill st.os (some j).toList)[j]? = some .dead := by simp [Iv.kill, hjl]
        rw [this]
        trivial
      · have : (Iv.kill st.os i.toList)[j]? = st.os[j]? := by
          cases i with
          | none => rfl
          | some k =>
            have : k ≠ j := fun e => hij (by rw [e])
            simp [Iv.kill, List.getElem?_set_ne this]
        rw [this]
        refine hob.sees s fun hl b hb => ?_
        obtain ⟨_, x, hx⟩ := obR_block hob hl hb
        refine hg b (heap_lt hx) fun k u' hk hu' hb' => ?_
        obtain ⟨o, _, ho', hl', _⟩ := hi k hk
        have := h.dist j k u u' b hu hu' hl ⟨o, ho', hl'⟩ hb hb'
        subst this
        exact hij hk
  · by_cases ej : j = st.os.length <;> by_cases ek : k = st.os.length
    · omega
    · simp only [ej, ek, if_true, if_false, Option.some.injEq] at hj hk
      subst hj
      rcases halive k ak with ak | ak
      · exact absurd bj (apart k u b hk ak.1 ak.2 bk)
      · exact absurd ak ek
    · simp only [ej, ek, if_true, if_false, Option.some.injEq] at hj hk
      subst hk
      rcases halive j aj with aj | aj
      · exact absurd bk (apart j v1 b hj aj.1 aj.2 bj)
      · exact absurd aj ej
    · simp only [ej, ek, if_false] at hj hk
      rcases halive j aj with aj | aj
      · rcases halive k ak with ak | ak
        · exact h.dist j k v1 u b hj hk aj.1 ak.1 bj bk
        · exact absurd ak ek
      · exact absurd aj ej
theorem same_eq {j i : Nat} {x : SV} : (j = i ∧ same j i x = .undef) ∨ (j ≠ i ∧ same j i x = x) := by
  unfold same
  cases h : Nat.beq j i with
  | true => exact .inl ⟨Nat.eq_of_beq_eq_true h, rfl⟩
  | false => exact .inr ⟨Nat.ne_of_beq_eq_false h, rfl⟩
theorem purge_rp {i : Nat} {M' : Nat → Prop} {bnd' : Nat → Option Value} (hb : ∀ j, j ≠ i → bnd' j = bnd j) {n c : Nat} {ao : Option Addr} (hi : bnd i = some (.slice ao n c)) (s : Sees M M' N N bnd' bnd' w w') :
    ∀ {x : SV} {v : Value}, Rp M N bnd w x v → Rp M' N bnd' w' (purge i x) v := by
  intro x v h
  have plainL : ∀ (cs : List SV) (mk : List SV → SV), (mk cs).plain = SV.plainL cs → Rp M N bnd w (mk cs) v → Rp M' N bnd' w' (match SV.plainL cs with | true => mk cs | false => .undef) v := by
    intro cs mk hp h
    cases hc : SV.plainL cs with
    | true => exact Rp.sees s (Rp.plain_bnd bnd' (hp.trans hc) h)
    | false => simp [Rp]
  cases x
  case row j =>
    rcases same_eq (j := j) (i := i) (x := .row j) with ⟨_, e⟩ | ⟨hne, e⟩ <;> simp only [purge, e]
    · simp [Rp]
    · simp only [Rp] at h ⊢; rw [hb j hne]; exact h
  case view j lo hi' =>
    rcases same_eq (j := j) (i := i) (x := .view j lo hi') with ⟨_, e⟩ | ⟨hne, e⟩ <;> simp only [purge, e]
    · simp [Rp]
    · simp only [Rp] at h ⊢; rw [hb j hne]; exact h
  case rptr j k =>
    rcases same_eq (j := j) (i := i) (x := .rptr j k) with ⟨_, e⟩ | ⟨hne, e⟩ <;> simp only [purge, e]
    · simp [Rp]
    · simp only [Rp] at h ⊢; rw [hb j hne]; exact h
  case ptr j off =>
    simp only [Rp] at h
    have hne : j ≠ i := by
      rintro rfl
      obtain ⟨b, h1, _⟩ := h
      rw [hi] at h1; cases h1
    simp only [purge, Rp]
    rw [hb j hne]; exact h
  case agg cs => exact plainL cs .agg (by simp [SV.plain]) h
  case tup cs => exact plainL cs .tup (by simp [SV.plain]) h
  case ref cs o => exact plainL cs (fun cs => .ref cs o) (by simp [SV.plain]) h
  case fn f cs => exact plainL cs (fun cs => .fn f cs) (by simp [SV.plain]) h
  case undef => simp [purge, Rp]
  all_goals exact Rp.sees s (Rp.plain_bnd bnd' rfl h)
theorem purge_rpL {i : Nat} {M' : Nat → Prop} {bnd' : Nat → Option Value} (hb : ∀ j, j ≠ i → bnd' j = bnd j) {n c : Nat} {ao : Option Addr} (hi : bnd i = some (.slice ao n c)) (s : Sees M M' N N bnd' bnd' w w') :
    ∀ {xs : List SV} {vs : List Value}, RpL M N bnd w xs vs → RpL M' N bnd' w' (xs.map (purge i)) vs
  | [], vs, h => by simpa [RpL] using h
  | x :: xs, vs, h => by
    obtain ⟨v, vs', rfl, h1, h2⟩ := h
    exact ⟨v, vs', rfl, purge_rp hb hi s h1, purge_rpL hb hi s h2⟩
theorem purgeO_live (i : Nat) (o : Ob) : (purgeO i o).live = o.live := by cases o <;> rfl
/-- A row is made anew under its old number. -/
theorem Inv.rebind (h : Inv U Mc w0 bnd st a w) (hU : U.ks = [] ∧ U.kv = []) {i : Nat} {l0 l : List Nat} {u v' : Value} (hos : st.os[i]? = some (.row l0)) (hbi : bnd i = some u)
    (hg : ∀ b, b < w.heap.size → blk u ≠ some b → w'.heap[b]? = w.heap[b]?) (hbel : Below w0.heap.size w0 w')
    (hv' : ∀ b, blk v' = some b → w.heap.size ≤ b ∨ blk u = some b)
    (ho : (∀ x ∈ l, x < 4294967296) ∧ l.length ≤ cap30 ∧ w'.ownsRow w0.heap.size tab.u 1 v' l.length (ints l)) :
    ∃ bnd', bnd' i = some v' ∧ Inv U Mc w0 bnd' (Iv.rebind i l st) a w' := by
  have hil : i < st.os.length := (List.getElem?_eq_some_iff.1 hos).1
  have hali : alive st.os i := ⟨_, hos, rfl⟩
  have hob := h.obs i u hbi
  rw [hos] at hob
  obtain ⟨ao, n, c, rfl⟩ : ∃ a n c, u = .slice a n c := by
    rcases hob.2.2.2 with ⟨rfl, _⟩ | ⟨g, cap, cur, rfl, _⟩ <;> exact ⟨_, _, _, rfl⟩
  refine ⟨fun j => if j = i then some v' else bnd j, by simp, ?_⟩
  have hb : ∀ j, j ≠ i → (fun j => if j = i then some v' else bnd j) j = bnd j := fun j hj => by simp [hj]
  have hget : ∀ j, j ≠ i → (Iv.rebind i l st).os[j]? = (st.os[j]?).map (purgeO i) := fun j hj => by
    simp only [Iv.rebind]; rw [List.getElem?_set_ne (Ne.symm hj), List.getElem?_map]
  have hgeti : (Iv.rebind i l st).os[i]? = some (.row l) := by
    simp only [Iv.rebind]; rw [List.getElem?_set_self (by simpa using hil)]
  have hal : ∀ j, alive (Iv.rebind i l st).os j → alive st.os j := by
    intro j hj
    by_cases e : j = i
    · subst e; exact hali
    · obtain ⟨o, ho', hl⟩ := hj
      rw [hget j e] at ho'
      cases hx : st.os[j]? with
      | none => simp [hx] at ho'
      | some y =>
        simp only [hx, Option.map_some, Option.some.injEq] at ho'
        subst ho'
        exact ⟨y, hx, by rwa [purgeO_live] at hl⟩
  have hown : ∀ b, blk (.slice ao n c) = some b → Mut Mc bnd st.os b ∧ w0.heap.size ≤ b := fun b hbb =>
    ⟨.inr ⟨i, _, hbi, hali, hbb⟩, (obR_block (h.obs i _ hbi) hali hbb).1⟩
  have s : Sees (Mut Mc bnd st.os) (Mut Mc (fun j => if j = i then some v' else bnd j) (Iv.rebind i l st).os) w0.heap.size w0.heap.size (fun j => if j = i then some v' else bnd j) (fun j => if j = i then some v' else bnd j) w w' := by
    refine ⟨fun b hm => ?_, Nat.le_refl _, fun _ _ h => h, fun b x hx hm => ?_⟩
    · rcases hm with hm | ⟨j, u, hu, hj, hbb⟩
      · exact .inl (.inl hm)
      · by_cases e : j = i
        · simp only [e, if_true, Option.some.injEq] at hu
          subst hu
          rcases hv' b hbb with h' | h'
          · exact .inr fun x hx => by have := heap_lt hx; omega
          · exact .inl (hown b h').1
        · simp only [e, if_false] at hu
          exact .inl (.inr ⟨j, u, hu, hal j hj, hbb⟩)
    · rw [hg b (heap_lt hx) fun hbb => ?_]
      · exact hx
      · obtain ⟨h1, h2⟩ := hown b hbb
        rcases hm with hm | hm
        · exact hm h1
        · omega
  have hlt : ∀ i u b, bnd i = some u → alive st.os i → blk u = some b → b < w.heap.size := fun i u b hu hi hb => by
    obtain ⟨_, x, hx⟩ := obR_block (h.obs i u hu) hi hb
    exact heap_lt hx
  have apart : ∀ j u b, j ≠ i → bnd j = some u → alive st.os j → blk u = some b → blk v' ≠ some b := by
    intro j u b hne hj aj bj hb'
    rcases hv' b hb' with h' | h'
    · have := hlt j u b hj aj bj; omega
    · exact hne (h.dist j i u _ b hj hbi aj hali bj h')
  refine ⟨purge_rpL hb hbi s h.slots, h.defs, hbel, fun j u hu => ?_, fun j k v1 u b hj hk aj ak bj bk => ?_, h.mc, by rw [hU.1, hU.2]; simp [RpL]⟩
  · by_cases e : j = i
    · subst e
      simp only [if_true, Option.some.injEq] at hu
      subst hu
      rw [hgeti]
      exact ho
    · simp only [e, if_false] at hu
      have hobj := h.obs j u hu
      rw [hget j e]
      cases hx : st.os[j]? with
      | none => rw [hx] at hobj; exact hobj.elim
      | some y =>
        rw [hx] at hobj
        simp only [Option.map_some]
        cases y with
        | dead => trivial
        | row l2 =>
          obtain ⟨h1, h2, h3⟩ := hobj
          refine ⟨h1, h2, own_heap h3 fun b hbb => ?_⟩
          have hajj : alive st.os j := ⟨_, hx, rfl⟩
          exact hg b (hlt j u b hu hajj hbb) fun hbb' => e (h.dist j i _ _ b hu hbi hajj hali hbb hbb')
        | var T cs =>
          obtain ⟨b, vs, e1, h1, h2, h3⟩ := hobj
          refine ⟨b, vs, e1, h1, ?_, purge_rpL hb hbi s h3⟩
          subst e1
          rw [hg b (heap_lt h2) fun hbb => e (h.dist j i _ _ b hu hbi ⟨_, hx, rfl⟩ hali rfl hbb)]
          exact h2
  · by_cases ej : j = i <;> by_cases ek : k = i
    · omega
    · simp only [ej, ek, if_true, if_false, Option.some.injEq] at hj hk
      subst hj
      exact absurd bj (apart k u b ek hk (hal k ak) bk)
    · simp only [ej, ek, if_true, if_false, Option.some.injEq] at hj hk
      subst hk
      exact absurd bk (apart j v1 b ej hj (hal j aj) bj)
    · simp only [ej, ek, if_false] at hj hk
      exact h.dist j k v1 u b hj hk (hal j aj) (hal k ak) bj bk
/-- A function run in place begins, and is left. -/
theorem Inv.frame (h : Inv U Mc w0 bnd st a w) {xs : List SV} {vs : List Value} (hx : RpL (Mut Mc bnd st.os) w0.heap.size bnd w xs vs) :
    Inv (u := tab.u) (ap := false) ⟨st.slots ++ U.ks, a.tmps.toList ++ U.kv, by simp, []⟩ Mc w0 bnd ⟨xs, st.os⟩ { tmps := vs.toArray, defers := [] } w :=
  ⟨by simpa using hx, rfl, h.below, h.obs, h.dist, h.mc, h.slots.append h.keep⟩
theorem Inv.unframe {sl : List SV} {os' : List Ob} {x : SV} {v : Value} (hl : sl.length = a.tmps.toList.length) (hd : a.defers = U.ds)
    (h : Inv (u := tab.u) (ap := false) ⟨sl ++ U.ks, a.tmps.toList ++ U.kv, by simp, []⟩ Mc w0 bnd ⟨[x], os'⟩ { tmps := #[v], defers := [] } w) : Inv U Mc w0 bnd ⟨sl, os'⟩ a w ∧ Rp (Mut Mc bnd os') w0.heap.size bnd w x v := by
  have h1 := h.keep.take sl.length
  have h2 := h.keep.drop sl.length
  rw [List.take_left, hl, List.take_left] at h1
  rw [List.drop_left, hl, List.drop_left] at h2
  obtain ⟨v', vs', e, hv, hn⟩ := h.slots
  simp only [List.cons.injEq] at e
  obtain ⟨rfl, _⟩ := e
  exact ⟨⟨h1, hd, h.below, h.obs, h.dist, h.mc, h2⟩, hv⟩
/-- Rows are read alone from here on. -/
def fz1 (os : List Ob) : SV → SV
  | .row i => match os[i]? with | some (.row l) => .words l | _ => .row i
  | .view i lo hi => match os[i]? with | some (.row l) => .words ((l.take hi).drop lo) | _ => .view i lo hi
  | x => x
def deadRow : Ob → Ob
  | .row _ => .dead
  | o => o
def freeze (st : St) : St := { slots := st.slots.map (fz1 st.os), os := st.os.map deadRow }
theorem freeze_alive {os : List Ob} {i : Nat} (h : alive (os.map deadRow) i) : alive os i ∧ ∀ l, os[i]? ≠ some (.row l) := by
  obtain ⟨o, ho, hl⟩ := h
  rw [List.getElem?_map] at ho
  cases hx : os[i]? with
  | none => simp [hx] at ho
  | some y =>
    simp only [hx, Option.map_some, Option.some.injEq] at ho
    subst ho
    cases y <;> simp [deadRow, Ob.live] at hl
    exact ⟨⟨_, hx, rfl⟩, by simp⟩
theorem Inv.freeze (h : Inv U Mc w0 bnd st a w) : Inv U Mc w0 bnd (Iv.freeze st) a w := by
  have s : Sees (Mut Mc bnd st.os) (Mut Mc bnd (st.os.map deadRow)) w0.heap.size w0.heap.size bnd bnd w w := by
    refine ⟨fun c hc => .inl ?_, Nat.le_refl _, fun _ _ h => h, fun c x hx _ => hx⟩
    rcases hc with hc | ⟨i, v, hv, hi, hc⟩
    · exact .inl hc
    · exact .inr ⟨i, v, hv, (freeze_alive hi).1, hc⟩
  have notM : ∀ i l v b, st.os[i]? = some (.row l) → bnd i = some v → blk v = some b → ¬ Mut Mc bnd (st.os.map deadRow) b := by
    intro i l v b hos hv hb hm
    have hbN := (obR_block (h.obs i v hv) ⟨_, hos, rfl⟩ hb).1
    rcases hm with hm | ⟨j, u, hu, hj, hb'⟩
    · have := h.mc.lt b hm; omega
    · obtain ⟨h1, h2⟩ := freeze_alive hj
      have := h.dist i j v u b hv hu ⟨_, hos, rfl⟩ h1 hb hb'
      subst this
      exact h2 l hos
  have cellsOf : ∀ i l v, st.os[i]? = some (.row l) → bnd i = some v → (v = .slice none 0 0 ∧ l.length = 0) ∨ ∃ g cap, v = .slice (some ⟨g, 0, none⟩) l.length cap ∧ l.length ≤ cap ∧ ¬ Mut Mc bnd (st.os.map deadRow) g ∧ ∀ j, j < l.length → w.cell? ⟨g, j, none⟩ = some (.int .u32 (l.getD j 0 : Nat)) := by
    intro i l v hos hv
    have hob := h.obs i v hv
    rw [hos] at hob
    obtain ⟨_, _, hown⟩ := hob
    rcases hown.2 with ⟨rfl, h0⟩ | ⟨g, cap, cur, rfl, _, _, hcap, _⟩
    · exact .inl ⟨rfl, h0⟩
    · refine .inr ⟨g, cap, rfl, hcap, notM i l _ g hos hv rfl, fun j hj => ?_⟩
      have := hown.cells (g := g) rfl j (.int .u32 (l.getD j 0 : Nat)) (by simp [ints, List.getElem?_eq_getElem hj, List.getD_eq_getElem?_getD])
      rw [add_lit] at this
      simpa using this
  have one : ∀ x v, Rp (Mut Mc bnd st.os) w0.heap.size bnd w x v → Rp (Mut Mc bnd (st.os.map deadRow)) w0.heap.size bnd w (fz1 st.os x) v := by
    intro x v hx
    cases x
    case row i =>
      simp only [fz1]
      split
      · rename_i l hos
        simp only [Rp] at hx
        have hob := h.obs i v hx.1
        rw [hos] at hob
        obtain ⟨h1, h2, _⟩ := hob
        simp only [Rp]
        rcases cellsOf i l v hos hx.1 with ⟨rfl, h0⟩ | ⟨g, cap, rfl, hcap, hm, hc⟩
        · exact ⟨h1, h2, none, 0, by rw [h0], by omega, fun hp => by omega⟩
        · exact ⟨h1, h2, _, cap, rfl, hcap, fun hp => ⟨_, rfl, hm, fun j hj => by rw [add_lit, Nat.zero_add]; exact hc j hj⟩⟩
      · exact Rp.sees s hx
    case view i lo hi =>
      simp only [fz1]
      split
      · rename_i l hos
        have hle := view_le h.obs.weak hos hx
        · simp only [Rp] at hx
          obtain ⟨b, n, c, hb, hlo, hhi, rfl⟩ := hx
          have hob := h.obs i _ hb
          rw [hos] at hob
          obtain ⟨h1, h2, _⟩ := hob
          have hlen : ((l.take hi).drop lo).length = hi - lo := by simp; omega
          simp only [Rp]
          rcases cellsOf i l _ hos hb with ⟨e, _⟩ | ⟨g, cap, e, hcap, hm, hc⟩
          · cases e
          · simp only [Value.slice.injEq, Option.some.injEq, Addr.mk.injEq] at e
            obtain ⟨⟨rfl, _⟩, rfl, rfl⟩ := e
            refine ⟨fun y hy => h1 y (List.mem_of_mem_take (List.mem_of_mem_drop hy)), by rw [hlen]; omega, _, _, by rw [hlen], by rw [hlen]; omega, fun hp => ⟨_, rfl, hm, fun j hj => ?_⟩⟩
            rw [hlen] at hj
            rw [add_lit, hc (lo + j) (by omega)]
            simp [List.getD_eq_getElem?_getD, List.getElem?_drop, List.getElem?_take, show lo + j < hi by omega]
      · exact Rp.sees s hx
    all_goals exact Rp.sees s hx
  have many : ∀ (cs : List SV) (vs : List Value), RpL (Mut Mc bnd st.os) w0.heap.size bnd w cs vs → RpL (Mut Mc bnd (st.os.map deadRow)) w0.heap.size bnd w (cs.map (fz1 st.os)) vs := by
    intro cs
    induction cs with
    | nil => intro vs h; simpa [RpL] using h
    | cons c cs ih =>
      intro vs h
      obtain ⟨v, vs', rfl, hv, h'⟩ := h
      exact ⟨v, vs', rfl, one c v hv, ih vs' h'⟩
  refine ⟨many _ _ h.slots, h.defs, h.below, fun j u hu => ?_, fun j k v' u c hj hk aj ak bj bk => h.dist j k v' u c hj hk (freeze_alive aj).1 (freeze_alive ak).1 bj bk, h.mc, RpL.sees s h.keep⟩
  have hob := h.obs j u hu
  simp only [Iv.freeze, List.getElem?_map]
  cases hx : st.os[j]? with
  | none => rw [hx] at hob; exact hob.elim
  | some y =>
    rw [hx] at hob
    simp only [Option.map_some]
    cases y with
    | row l => trivial
    | dead => trivial
    | var T cs => exact ObR.sees (o := some (.var T cs)) hob s fun _ _ _ => rfl
end
end Iv
end Go.Proofs.YtfajgibpidlojaaDoor
end

section
/- The verified interpreter, part G: the outcomes of an operation, and a region in the text's order. Conditions: the table of types is the program's (TabOK), the callees' contracts (EnvOK). -/
set_option linter.unusedVariables false
set_option linter.unusedSimpArgs false
namespace Go.Proofs.YtfajgibpidlojaaDoor
namespace Iv
open Go Go.RowKit

section
variable {P : Program} {tab : Tb} {env : Env} {U : Ctx tab.u tab.app} {F : TypeId} {Mc M M' : Nat → Prop} {N : Nat} {w0 w w' : World} {bnd bnd' : Nat → Option Value} {st : St} {a : Act} {os : List Ob} {ev : Operand → SV} {ρ : Operand → Value}

theorem new_sound (ht : TabOK P tab) (o : Oper) {ob : Ob} {x : Nat → SV} (h : opSem tab os ev o.op = .new ob x) (hev : ∀ y ∈ o.op.operands, Rp M N bnd w (ev y) (ρ y)) :
    ∃ T cs, ∃ vs : List Value, ob = .var T cs ∧ x = (fun k => .ptr k 0) ∧ (execOp ρ o).run P w = .ok (.value (.pointer (some ⟨w.heap.size, 0, none⟩))) (w.alloc (.cells vs.toArray T)) ∧ RpL M N bnd w cs vs := by
  obtain ⟨dst, op, type, pos, after, guard⟩ := o
  simp only at h hev
  cases op <;> try (simp [opSem] at h; done)
  case alloc T =>
    simp only [opSem] at h
    split at h
    · rename_i ti hti
      split at h
      · rename_i hf0
        simp only [Out.new.injEq] at h
        obtain ⟨rfl, rfl⟩ := h
        obtain ⟨_, ⟨i, z, hi, hz, hs, hzl⟩, hdry, _⟩ := ht T ti hti
        have hzl := hzl hf0
        have hdry := hdry hf0
        refine ⟨T, ti.zero, ti.zero.map toV, rfl, rfl, ?_, RpL.zero hdry⟩
        have hzc : z.cells = (ti.zero.map toV).toArray := by apply Array.ext'; rw [hzl]
        simp [execOp, Instr.alloc, zeroValue, typeInfo, hi, hz, newVar, newRow, hzc]
      · cases h
    · cases h
  case box T y =>
    simp only [opSem] at h
    split at h
    · rename_i hl
      simp only [Out.new.injEq] at h
      obtain ⟨rfl, rfl⟩ := h
      have hy := (hev y (by simp [Op.operands])).cells hl
      exact ⟨T, _, _, rfl, rfl, by simp [execOp, Instr.box, newVar, newRow], hy.1⟩
    · cases h
  case makeFunc fn first caps => cases fn <;> simp only [opSem] at h <;> repeat' (first | (cases h; done) | split at h)
  all_goals
    simp only [opSem] at h
    repeat' (first | (cases h; done) | split at h)

theorem put_sound (ht : TabOK P tab) (ho : ObsW tab.u M N bnd w os) (o : Oper) {i off : Nat} {cs : List SV} (h : opSem tab os ev o.op = .put i off cs) (hev : ∀ y ∈ o.op.operands, Rp M N bnd w (ev y) (ρ y)) :
    ∃ T b, ∃ ds : List SV, ∃ vs us : List Value, os[i]? = some (.var T ds) ∧ bnd i = some (.pointer (some ⟨b, 0, none⟩)) ∧ N ≤ b ∧ w.heap[b]? = some (.cells vs.toArray T) ∧ RpL M N bnd w ds vs ∧ RpL M N bnd w cs us ∧
      (execOp ρ o).run P w = .ok .skip (w.setCells b off us) := by
  obtain ⟨dst, op, type, pos, after, guard⟩ := o
  simp only at h hev
  cases op <;> try (simp [opSem] at h; done)
  case store T a y =>
    have ha := hev a (by simp [Op.operands])
    have hy := hev y (by simp [Op.operands])
    simp only [opSem] at h
    split at h
    · rename_i j o' ti hea hti
      split at h
      · rename_i T' ds hos
        split at h
        · rename_i hc
          simp only [Out.put.injEq] at h
          obtain ⟨rfl, rfl, rfl⟩ := h
          rw [hea] at ha
          simp only [Rp] at ha
          obtain ⟨b, hb, hv⟩ := ha
          have hob := ho j _ hb _ hos
          obtain ⟨b', vs, e, hN, hh, hr⟩ := hob
          simp only [Value.pointer.injEq, Option.some.injEq, Addr.mk.injEq] at e
          obtain ⟨rfl, _⟩ := e
          obtain ⟨_, ⟨i', z, hi, hz, hs, hzl⟩, _⟩ := ht T ti hti
          obtain ⟨hcl, hone⟩ := hy.cells hc.2.2
          have hlen := hcl.length
          have hlen' := hr.length
          refine ⟨T', b, ds, vs, (ρ y).cells.toList, hos, hb, hN, hh, hr, hcl, ?_⟩
          have := store_run (P := P) (T := T) (s := ti.zero.length) (by simp [hi, hs]) b o' vs hh (ρ y) (by simp at hlen; omega) (by omega) hone
          exact run_u (by rw [hv]; exact this)
        · cases h
      · cases h
    · split at h
      · split at h <;> cases h
      · cases h
    · cases h
  case makeFunc fn first caps => cases fn <;> simp only [opSem] at h <;> repeat' (first | (cases h; done) | split at h)
  all_goals
    simp only [opSem] at h
    repeat' (first | (cases h; done) | split at h)

theorem ints_set (l : List Nat) (j n : Nat) : ints (l.set j n) = (ints l).set j (.int .u32 (n : Nat)) := by simp [ints, List.map_set]
theorem ints_len (l : List Nat) : (ints l).length = l.length := by simp [ints]
theorem ints_get (l : List Nat) {j : Nat} {u : Value} (h : (ints l)[j]? = some u) : j < l.length ∧ u = .int .u32 (l.getD j 0 : Nat) := by
  have hj : j < (ints l).length := (List.getElem?_eq_some_iff.1 h).1
  rw [ints_len] at hj
  refine ⟨hj, ?_⟩
  simp [ints, List.getElem?_eq_getElem hj] at h
  rw [← h]
  simp [List.getD_eq_getElem?_getD, hj]
theorem ints_one (l : List Nat) : ∀ u ∈ ints l, u.oneCell' = true := by
  intro u hu
  simp only [ints, List.mem_map] at hu
  obtain ⟨x, _, rfl⟩ := hu
  simp [Value.oneCell']
theorem src_sound (ho : ObsW tab.u M N bnd w os) {x : SV} {v : Value} {l : List Nat} (h : listOf os x = some l) (hx : Rp M N bnd w x v) :
    (∀ y ∈ l, y < 4294967296) ∧ ((∃ c, v = .slice none 0 c ∧ l = []) ∨ ∃ a c, v = .slice (some a) l.length c ∧ ∀ j u, (ints l)[j]? = some u → w.cell? (a.add j) = some u) := by
  have key : ∀ l, Ws M w l v → (∀ y ∈ l, y < 4294967296) ∧ ((∃ c, v = .slice none 0 c ∧ l = []) ∨ ∃ a c, v = .slice (some a) l.length c ∧ ∀ j u, (ints l)[j]? = some u → w.cell? (a.add j) = some u) := by
    rintro l ⟨h1, _, a, c, rfl, hc, hl⟩
    refine ⟨h1, ?_⟩
    cases a with
    | none =>
      by_cases e : 0 < l.length
      · obtain ⟨ad, h0, _⟩ := hl e; cases h0
      · have : l = [] := List.eq_nil_of_length_eq_zero (by omega)
        subst this
        exact .inl ⟨c, rfl, rfl⟩
    | some a =>
      refine .inr ⟨a, c, rfl, fun j u hj => ?_⟩
      obtain ⟨hj', rfl⟩ := ints_get l hj
      obtain ⟨ad, e, _, hh⟩ := hl (by omega)
      cases e
      exact hh j hj'
  have fromL : ∀ l, x.list = some l → (∀ y ∈ l, y < 4294967296) ∧ ((∃ c, v = .slice none 0 c ∧ l = []) ∨ ∃ a c, v = .slice (some a) l.length c ∧ ∀ j u, (ints l)[j]? = some u → w.cell? (a.add j) = some u) := fun l hl => key l (hx.list hl)
  cases x
  case row i =>
    simp only [listOf] at h
    split at h
    · rename_i l' hos
      simp only [Option.some.injEq] at h
      subst h
      obtain ⟨h1, h2, hown, hb⟩ := row_ws ho hos hx
      refine ⟨h1, ?_⟩
      rcases hown.2 with ⟨rfl, h0⟩ | ⟨g, cap, cur, rfl, _⟩
      · exact .inl ⟨0, rfl, List.eq_nil_of_length_eq_zero h0⟩
      · exact .inr ⟨_, cap, rfl, fun j u hj => hown.cells (g := g) rfl j u hj⟩
    · cases h
  case view i lo hi =>
    simp only [listOf] at h
    split at h
    · rename_i l' hos
      have hle := view_le ho hos hx
      · simp only [Option.some.injEq] at h
        subst h
        simp only [Rp] at hx
        obtain ⟨b, n, c, hb, hlo, hhi, rfl⟩ := hx
        obtain ⟨h1, h2, hown⟩ := ho i _ hb _ hos
        have hlen : ((l'.take hi).drop lo).length = hi - lo := by simp; omega
        refine ⟨fun y hy => h1 y (List.mem_of_mem_take (List.mem_of_mem_drop hy)), .inr ⟨_, _, by rw [hlen], fun j u hj => ?_⟩⟩
        obtain ⟨hj', rfl⟩ := ints_get _ hj
        rw [hlen] at hj'
        have := hown.cells (g := b) (by
          rcases hown.2 with ⟨e, _⟩ | ⟨g, cap, cur, e, _⟩
          · cases e
          · rfl) (lo + j) (.int .u32 (l'.getD (lo + j) 0 : Nat)) (by simp [ints, List.getElem?_eq_getElem (show lo + j < l'.length by omega), List.getD_eq_getElem?_getD])
        rw [add_lit] at this ⊢
        rw [Nat.zero_add] at this
        rw [this]
        simp [List.getD_eq_getElem?_getD, List.getElem?_drop, List.getElem?_take, show lo + j < hi by omega]
    · cases h
  all_goals exact fromL l (by simpa only [listOf] using h)
theorem base_sound (ho : ObsW tab.u M N bnd w os) {x : SV} {v : Value} {i : Option Nat} {l : List Nat} (h : baseOf os x = some (i, l)) (hx : Rp M N bnd w x v) :
    (∀ y ∈ l, y < 4294967296) ∧ l.length ≤ cap30 ∧ w.ownsRow N tab.u 1 v l.length (ints l) ∧ (∀ b, v.ownBlock = some b → ∃ k u, i = some k ∧ bnd k = some u ∧ blk u = some b) ∧ (∀ k, i = some k → ∃ l0 u, os[k]? = some (.row l0) ∧ bnd k = some u) := by
  cases x <;> try (simp [baseOf] at h; done)
  case nil =>
    simp only [baseOf] at h
    simp only [Option.some.injEq, Prod.mk.injEq] at h
    obtain ⟨rfl, rfl⟩ := h
    simp only [Rp] at hx
    subst hx
    exact ⟨by simp, by simp [cap30], World.ownsRow_nil w N tab.u 1, by simp [Value.ownBlock], by simp⟩
  case row k =>
    simp only [baseOf] at h
    split at h
    · rename_i l' hos
      simp only [Option.some.injEq, Prod.mk.injEq] at h
      obtain ⟨rfl, rfl⟩ := h
      obtain ⟨h1, h2, hown, hb⟩ := row_ws ho hos hx
      refine ⟨h1, h2, hown, fun b e => ⟨k, v, rfl, hb, ?_⟩, fun k' e => ?_⟩
      · rcases hown.2 with ⟨rfl, _⟩ | ⟨g, cap, cur, rfl, _⟩ <;> first | (simp [Value.ownBlock, blk] at e; done) | simpa [Value.ownBlock, blk] using e
      · simp only [Option.some.injEq] at e
        subst e
        exact ⟨_, _, hos, hb⟩
    · cases h
  case view k lo hi =>
    cases lo with
    | succ n => simp [baseOf] at h
    | zero =>
    simp only [baseOf] at h
    split at h
    · rename_i l' hos
      have hle := view_le ho hos hx
      · simp only [Option.some.injEq, Prod.mk.injEq] at h
        obtain ⟨rfl, rfl⟩ := h
        simp only [Rp] at hx
        obtain ⟨b, n, c, hb, _, _, rfl⟩ := hx
        obtain ⟨h1, h2, hown⟩ := ho k _ hb _ hos
        have hlen : (l'.take hi).length = hi := by simp; omega
        refine ⟨fun y hy => h1 y (List.mem_of_mem_take hy), by rw [hlen]; omega, ?_, fun b' e => ⟨k, _, rfl, hb, by simpa [Value.ownBlock, blk] using e⟩, fun k' e => ?_⟩
        · rcases hown.2 with ⟨e, _⟩ | ⟨g, cap, cur, e, h3, h4, h5, h6, h7, h8⟩
          · cases e
          · simp only [Value.slice.injEq, Option.some.injEq, Addr.mk.injEq] at e
            obtain ⟨⟨rfl, _⟩, rfl, rfl⟩ := e
            refine ⟨by simp [ints], .inr ⟨b, c, cur, by rw [hlen]; simp, h3, h4, by rw [hlen]; omega, h6, h7, ?_⟩⟩
            rw [hlen]
            simp only [Nat.mul_one] at h8 ⊢
            have : cur.toList.take hi = (cur.toList.take l'.length).take hi := by rw [List.take_take]; congr 1; omega
            rw [this, h8]
            simp [ints, List.map_take]
        · simp only [Option.some.injEq] at e
          subst e
          exact ⟨_, _, hos, hb⟩
    · cases h
theorem append_none_run {t ty e : TypeId} {i : TypeInfo} (ht : P.underlying t = some (.slice e)) (hi : P.info? e = some i) {v : Value} {base size n : Nat} {xs : List Value} {c : Nat} (hown : w.ownsRow base e size v n xs) :
    (Builtin.append_ #[t, t] ty #[v, .slice none 0 c]).run P w = .ok v w := by
  rcases hown.2 with ⟨rfl, rfl⟩ | ⟨g, cap, cur, rfl, _, _, hnc, _⟩
  · simp [Builtin.append_, run_underlying ht, sizeOf, typeInfo, hi, Builtin.lenOf, Builtin.firstCells]
  · simp [Builtin.append_, run_underlying ht, sizeOf, typeInfo, hi, Builtin.lenOf, Builtin.firstCells, hnc, storeCells]
theorem alloc_below (w : World) (o : Obj) : Below w.heap.size w (w.alloc o) := (Below.refl _ _).alloc (Nat.le_refl _) o
theorem rg0 : Array.range 0 = #[] := by apply Array.ext'; simp
theorem rg1 : Array.range 1 = #[0] := by apply Array.ext'; simp [List.range_succ]
theorem rg2 : Array.range 2 = #[0, 1] := by apply Array.ext'; simp [List.range_succ]
theorem grown_alloc (w : World) (o : Obj) (r : Option Nat) : w.grownBy (w.alloc o) r := ⟨rfl, rfl, rfl, by simp, fun k hk _ => heap_alloc_old w o hk⟩
theorem app_sound (ho : ObsW tab.u M N bnd w os) (hN : N ≤ w.heap.size) (o : Oper) (hok : opChk P tab o.op = true) {i : Option Nat} {l : List Nat} (h : opSem tab os ev o.op = .app i l) (hev : ∀ y ∈ o.op.operands, Rp M N bnd w (ev y) (ρ y)) :
    ∃ v' w' r, (execOp ρ o).run P w = .ok (.value v') w' ∧ w.grownBy w' r ∧ (∀ b, r = some b → ∃ k u, i = some k ∧ bnd k = some u ∧ blk u = some b) ∧ (∀ b, blk v' = some b → w.heap.size ≤ b ∨ r = some b) ∧
      (∀ k, i = some k → ∃ l0 u, os[k]? = some (.row l0) ∧ bnd k = some u ∧ tab.app = true) ∧ (∀ x ∈ l, x < 4294967296) ∧ l.length ≤ cap30 ∧ w'.ownsRow N tab.u 1 v' l.length (ints l) ∧ ∃ a n c, v' = .slice a n c := by
  have form : ∀ {w' : World} {v' : Value} {n : Nat} {xs : List Value}, w'.ownsRow N tab.u 1 v' n xs → ∃ a n c, v' = .slice a n c := by
    intro w' v' n xs h
    rcases h.2 with ⟨rfl, _⟩ | ⟨g, cap, cur, rfl, _⟩
    · exact ⟨_, _, _, rfl⟩
    · exact ⟨_, _, _, rfl⟩
  obtain ⟨dst, op, type, pos, after, guard⟩ := o
  simp only at h hev hok
  cases op <;> try (simp [opSem] at h; done)
  case makeSlice T n c =>
    have hn := hev n (by simp [Op.operands])
    have hc := hev c (by simp [Op.operands])
    have hint : ∀ (y : Operand) z, asInt? (ev y) = some z → Rp M N bnd w (ev y) (ρ y) → ∃ k, ρ y = .int k z := by
      intro y z hz hy
      cases hx : ev y <;> simp [hx, asInt?] at hz
      subst hz
      rw [hx] at hy
      exact ⟨_, by simpa [Rp] using hy⟩
    obtain ⟨hT, ti, hi1, hs, hby, hz⟩ := wordSlice_spec hok
    simp only [opSem] at h
    split at h
    · rename_i z y hz1 hy1
      split at h
      · rename_i hb
        simp only [Out.app.injEq] at h
        obtain ⟨rfl, rfl⟩ := h
        obtain ⟨k1, e1⟩ := hint n z hz1 hn
        obtain ⟨k2, e2⟩ := hint c y hy1 hc
        have hcap : (cap30 : Int) = 1073741824 := rfl
        have hrun := run_make (P := P) w T tab.u ti _ hT hi1 hz k1 k2 z y hb.1 hb.2.1 (by rw [hby]; omega) (by omega)
        refine ⟨.slice (some ⟨w.heap.size, 0, none⟩) z.toNat y.toNat, w.alloc (.cells (madeCells (Value.int .u32 0).cells (y.toNat * ti.size)) tab.u), none, by simp [execOp, e1, e2, hrun], grown_alloc _ _ _, by simp, fun b hb' => .inl (by simp [blk] at hb'; omega), by simp, fun x hx => by rw [List.eq_of_mem_replicate hx]; omega, by simp only [List.length_replicate]; omega, ?_, ⟨_, _, _, rfl⟩⟩
        have hcell : (Value.int .u32 0).cells = #[.int .u32 0] := rfl
        refine ⟨by simp [ints], .inr ⟨w.heap.size, y.toNat, _, by simp, hN, heap_alloc_new w _, by simp only [List.length_replicate]; omega, by simp only [maxLen]; omega, by simp [hs, hcell, size_madeCells], ?_⟩⟩
        rw [hcell, hs, toList_madeCells_one]
        simp [ints, List.take_replicate]
        omega
      · cases h
    · cases h
  case buildSlice T n ps =>
    obtain ⟨hT, ti, hi1, hs, hby, hz⟩ := wordSlice_spec hok
    have hcell : (Value.int .u32 0).cells = #[.int .u32 0] := rfl
    simp only [opSem] at h
    split at h
    · rename_i hps
      simp only [Out.app.injEq] at h
      obtain ⟨rfl, rfl⟩ := h
      have : ps = #[] := by apply Array.ext'; simpa using hps
      subst this
      refine ⟨.slice (some ⟨w.heap.size, 0, none⟩) 0 0, w.alloc (.cells #[] tab.u), none, ?_, grown_alloc _ _ _, by simp, fun b hb' => .inl (by simp [blk] at hb'; omega), by simp, by simp, by simp [cap30], ?_, ⟨_, _, _, rfl⟩⟩
      · simp [execOp, Instr.buildSlice, Sem.run_bind, run_underlying hT, sizeOf, typeInfo, hi1, hs, Instr.fill, newRow, rg0]
      · exact ⟨by simp [ints], .inr ⟨w.heap.size, 0, #[], rfl, hN, heap_alloc_new w _, by simp, by simp [maxLen], by simp, by simp [ints]⟩⟩
    all_goals repeat' (first | (cases h; done) | split at h)
  case call c =>
    obtain ⟨callee, args, argTypes⟩ := c
    simp only [opSem] at h
    split at h
    · repeat' (first | (cases h; done) | split at h)
    · split at h
      · rename_i x y hargs
        split at h
        · rename_i i' l1 l2 h1 h2
          have h0 : ∃ hlen : l1.length + l2.length ≤ cap30, i' = i ∧ l1 ++ l2 = l ∧ (∀ k, i' = some k → tab.app = true) := by
            cases ha : tab.app <;> cases i' <;> simp only [ha] at h
            · split at h
              · rename_i hlen; simp only [Out.app.injEq] at h; exact ⟨hlen, h.1, h.2, by simp⟩
              · cases h
            · cases h
            · split at h
              · rename_i hlen; simp only [Out.app.injEq] at h; exact ⟨hlen, h.1, h.2, by simp⟩
              · cases h
            · split at h
              · rename_i hlen; simp only [Out.app.injEq] at h; exact ⟨hlen, h.1, h.2, by simp⟩
              · cases h
          obtain ⟨hlen, rfl, rfl, happ⟩ := h0
          · clear h
            have hargs' : args = #[x, y] := by apply Array.ext'; simpa using hargs
            subst hargs'
            have hx := hev x (by simp [Op.operands, Call.operands])
            have hy := hev y (by simp [Op.operands, Call.operands])
            simp only [opChk] at hok
            split at hok
            · rename_i T T' hT2
              simp only [Bool.and_eq_true, beq_iff_eq] at hok
              obtain ⟨rfl, hok⟩ := hok
              have hT' : argTypes = #[T, T] := by apply Array.ext'; simpa using hT2
              subst hT'
              obtain ⟨hT, ti, hi1, hs, hby, hz⟩ := wordSlice_spec hok
              obtain ⟨hb1, hb2, hown, hblk, hlive0⟩ := base_sound ho h1 hx
              have hlive : ∀ k, i' = some k → ∃ l0 u, os[k]? = some (.row l0) ∧ bnd k = some u ∧ tab.app = true := fun k hk => by
                obtain ⟨l0, u, e1, e2⟩ := hlive0 k hk
                exact ⟨l0, u, e1, e2, happ k hk⟩
              obtain ⟨hs1, hsrc⟩ := src_sound ho h2 hy
              have hall : ∀ z ∈ l1 ++ l2, z < 4294967296 := by
                intro z hz
                rcases List.mem_append.1 hz with hz | hz
                · exact hb1 z hz
                · exact hs1 z hz
              have hl30 : (l1 ++ l2).length ≤ cap30 := by simpa using hlen
              have hcap : cap30 = 1073741824 := rfl
              rcases hsrc with ⟨cc, e, rfl⟩ | ⟨a, cc, e, hcells⟩
              · refine ⟨ρ x, w, (ρ x).ownBlock, ?_, ⟨rfl, rfl, rfl, Nat.le_refl _, fun _ _ _ => rfl⟩, hblk, fun b hb => .inr ?_, hlive, hall, hl30, by simpa using hown, form hown⟩
                · have := append_none_run (P := P) (ty := type) (c := cc) hT hi1 hown
                  simp [execOp, resolve, Sem.run_bind, invoke, builtin, e, this]
                · rcases hown.2 with ⟨e', _⟩ | ⟨g, cap, cur, e', _⟩ <;> rw [e'] at hb ⊢ <;> first | (simp [Value.ownBlock, blk] at hb; done) | simpa [Value.ownBlock, blk] using hb
              · obtain ⟨v', w', hr, hown', hgr, _, hat⟩ := run_append_own_at (P := P) w N T type tab.u ti _ 1 4 hT hi1 hz hs hby (by simp [Value.cells]) (by omega) (ρ x) l1.length (ints l1) hown a l2.length cc (ints l2) (by simp [ints]) hcells (ints_one l2) (by simp only [maxLen]; simp at hl30; omega) (by simp at hl30; omega) hN
                refine ⟨v', w', (ρ x).ownBlock, ?_, hgr, hblk, fun b hb => ?_, hlive, hall, hl30, by simpa [ints] using hown', form hown'⟩
                · simp [execOp, resolve, Sem.run_bind, invoke, builtin, e, hr]
                · have : v'.ownBlock = some b := by
                    rcases hown'.2 with ⟨e', _⟩ | ⟨g, cap, cur, e', _⟩ <;> rw [e'] at hb ⊢ <;> first | (simp [Value.ownBlock, blk] at hb; done) | simpa [Value.ownBlock, blk] using hb
                  rcases hat with hat | hat
                  · rw [hat] at this; exact .inr this
                  · rw [hat] at this
                    simp only [Option.some.injEq] at this
                    exact .inl (by omega)
            · cases hok
        · cases h
      · cases h
    · repeat' (first | (cases h; done) | split at h)
    · repeat' (first | (cases h; done) | split at h)
    · repeat' (first | (cases h; done) | split at h)
    · cases h
  case makeFunc fn first caps => cases fn <;> simp only [opSem] at h <;> repeat' (first | (cases h; done) | split at h)
  all_goals
    simp only [opSem] at h
    repeat' (first | (cases h; done) | split at h)
theorem lit_sound (hM : ∀ b, M b → b < w.heap.size) (o : Oper) (hok : opChk P tab o.op = true) {l : List Nat} (h : opSem tab os ev o.op = .lit l) (hev : ∀ y ∈ o.op.operands, Rp M N bnd w (ev y) (ρ y)) :
    ∃ v' w', (execOp ρ o).run P w = .ok (.value v') w' ∧ Below w.heap.size w w' ∧ Ws M w' l v' := by
  have key : ∀ (l : List Nat) (cs : Array Value), cs.toList = ints l → (∀ x ∈ l, x < 4294967296) → l.length ≤ cap30 → Ws M (w.alloc (.cells cs tab.u)) l (.slice (some ⟨w.heap.size, 0, none⟩) l.length l.length) := by
    intro l cs hcs h1 h2
    refine ⟨h1, h2, _, _, rfl, Nat.le_refl _, fun _ => ⟨_, rfl, fun hm => Nat.lt_irrefl _ (hM _ hm), fun j hj => ?_⟩⟩
    rw [add_lit, Nat.zero_add]
    have : (w.alloc (.cells cs tab.u)).heap[w.heap.size]? = some (.cells cs tab.u) := heap_alloc_new w _
    simp only [World.cell?, this]
    have : cs[j]? = (ints l)[j]? := by rw [← hcs]; simp
    simp [this, ints, hj, List.getD_eq_getElem?_getD]
  obtain ⟨dst, op, type, pos, after, guard⟩ := o
  simp only at h hev hok
  cases op <;> try (simp [opSem] at h; done)
  case buildSlice T n ps =>
    obtain ⟨hT, ti, hi1, hs, hby, hz⟩ := wordSlice_spec hok
    have hcell : (Value.int .u32 0).cells = #[.int .u32 0] := rfl
    simp only [opSem] at h
    split at h
    · cases h
    · rename_i x hps
      split at h
      · rename_i a hx
        split at h
        · rename_i hb
          simp only [Out.lit.injEq] at h
          subst h
          have : ps = #[(0, x)] := by apply Array.ext'; simpa using hps
          subst this
          have hxv := hev x (by simp [Op.operands])
          rw [hx] at hxv
          simp only [Rp] at hxv
          have ha : ((a.toNat : Nat) : Int) = a := by omega
          refine ⟨.slice (some ⟨w.heap.size, 0, none⟩) 1 1, w.alloc (.cells #[.int .u32 a] tab.u), ?_, alloc_below w _, key [a.toNat] _ (by simp [ints, ha]) (by simp; omega) (by simp [cap30])⟩
          · simp [execOp, Instr.buildSlice, Sem.run_bind, run_underlying hT, sizeOf, typeInfo, zeroValue, hi1, hs, hz, hcell, Instr.fill, newRow, hxv, Value.cells, rg1]
        · cases h
      · cases h
    · rename_i x y hps
      split at h
      · rename_i a b hx hy
        split at h
        · rename_i hb
          simp only [Out.lit.injEq] at h
          subst h
          have : ps = #[(0, x), (1, y)] := by apply Array.ext'; simpa using hps
          subst this
          have hxv := hev x (by simp [Op.operands])
          have hyv := hev y (by simp [Op.operands])
          rw [hx] at hxv
          rw [hy] at hyv
          simp only [Rp] at hxv hyv
          have ha : ((a.toNat : Nat) : Int) = a := by omega
          have hb2 : ((b.toNat : Nat) : Int) = b := by omega
          refine ⟨.slice (some ⟨w.heap.size, 0, none⟩) 2 2, w.alloc (.cells #[.int .u32 a, .int .u32 b] tab.u), ?_, alloc_below w _, key [a.toNat, b.toNat] _ (by simp [ints, ha, hb2]) (by simp; omega) (by simp [cap30])⟩
          · simp [execOp, Instr.buildSlice, Sem.run_bind, run_underlying hT, sizeOf, typeInfo, zeroValue, hi1, hs, hz, hcell, Instr.fill, newRow, hxv, hyv, Value.cells, rg2]
        · cases h
      · cases h
    · cases h
  case makeFunc fn first caps => cases fn <;> simp only [opSem] at h <;> repeat' (first | (cases h; done) | split at h)
  all_goals
    simp only [opSem] at h
    repeat' (first | (cases h; done) | split at h)
theorem own_of_cells {b n c : Nat} {l : List Nat} {T : TypeId} (h : w.ownsRow N T 1 (.slice (some ⟨b, 0, none⟩) n c) l.length (ints l)) : n = l.length ∧ N ≤ b ∧ ∃ cur, w.heap[b]? = some (.cells cur T (0, 0)) ∧ l.length ≤ c ∧ c ≤ maxLen ∧ cur.size = c ∧ cur.toList.take l.length = ints l := by
  rcases h.2 with ⟨e, _⟩ | ⟨g, cap, cur, e, h3, h4, h5, h6, h7, h8⟩
  · cases e
  · simp only [Value.slice.injEq, Option.some.injEq, Addr.mk.injEq] at e
    obtain ⟨⟨rfl, _⟩, rfl, rfl⟩ := e
    exact ⟨rfl, h3, cur, h4, h5, h6, by simpa using h7, by simpa using h8⟩
theorem ints_take (l : List Nat) (n : Nat) : (ints l).take n = ints (l.take n) := by simp [ints, List.map_take]
theorem ints_drop (l : List Nat) (n : Nat) : (ints l).drop n = ints (l.drop n) := by simp [ints, List.map_drop]
theorem ints_append (l m : List Nat) : ints (l ++ m) = ints l ++ ints m := by simp [ints]
theorem overwrite_len (l src : List Nat) : (overwrite l src).length = l.length := by simp [overwrite]; omega
theorem rput_sound (ht : TabOK P tab) (ho : ObsW tab.u M N bnd w os) (o : Oper) (hok : opChk P tab o.op = true) {i : Nat} {l' : List Nat} (h : opSem tab os ev o.op = .rput i l') (hev : ∀ y ∈ o.op.operands, Rp M N bnd w (ev y) (ρ y)) :
    ∃ b c, ∃ l : List Nat, ∃ nx w', os[i]? = some (.row l) ∧ bnd i = some (.slice (some ⟨b, 0, none⟩) l.length c) ∧ l'.length = l.length ∧ (∀ x ∈ l', x < 4294967296) ∧ (execOp ρ o).run P w = .ok nx w' ∧ (nx = .skip ∨ ∃ z, nx = .value z) ∧
      w'.ownsRow N tab.u 1 (.slice (some ⟨b, 0, none⟩) l.length c) l.length (ints l') ∧ w.grownBy w' (some b) ∧ N ≤ b ∧ w'.heap.size = w.heap.size := by
  obtain ⟨dst, op, type, pos, after, guard⟩ := o
  simp only at h hev hok
  cases op <;> try (simp [opSem] at h; done)
  case store T a y =>
    have ha := hev a (by simp [Op.operands])
    have hy := hev y (by simp [Op.operands])
    simp only [opSem] at h
    split at h
    · split at h
      · split at h <;> cases h
      · cases h
    · rename_i i' j' ti hea hti
      split at h
      · rename_i l m hrow hos hem
        split at h
        · rename_i hc
          simp only [Out.rput.injEq] at h
          obtain ⟨rfl, rfl⟩ := h
          rw [hea] at ha
          simp only [Rp] at ha
          obtain ⟨b, len, c, hb, hv⟩ := ha
          have hob := ho i' _ hb _ hos
          obtain ⟨hl1, hl2, hown⟩ := hob
          rw [hem] at hy
          simp only [Rp] at hy
          obtain ⟨rfl, hNb, cur, hcur, _⟩ := own_of_cells hown
          obtain ⟨_, ⟨ii, z, hi, hz, hs, hzl⟩, _⟩ := ht T ti hti
          have hst' := hown.stored j' (.int .u32 (m.toNat : Nat))
          refine ⟨b, c, l, .skip, w.setCell ⟨b, j', none⟩ (.int .u32 (m.toNat : Nat)), hos, hb, by simp, fun x hx => ?_, run_u ?_, .inl rfl, by rw [ints_set]; exact hst'.1, hst'.2, hNb, by simp⟩
          · rcases List.mem_or_eq_of_mem_set hx with hx | rfl
            · exact hl1 x hx
            · omega
          have hcell := hown.cells (g := b) rfl j' (.int .u32 (l.getD j' 0 : Nat)) (by simp [ints, List.getElem?_eq_getElem hc.1, List.getD_eq_getElem?_getD])
          rw [add_lit, Nat.zero_add] at hcell
          have hfz := hown.frozenAt (w := w) j'
          rw [hv, hy]
          have hs1 : ii.size = 1 := by rw [hs]; exact hc.2.1
          have hn : ((m.toNat : Nat) : Int) = m := by omega
          simp only [hn]
          have hst : (store ⟨b, j', none⟩ (.int .u32 m)).run P w = .ok () (w.setCell ⟨b, j', none⟩ (.int .u32 m)) := by
            rw [run_store P w _ _ _ rfl, hcell]
            simp [hfz]
          simp [Instr.storeAt, Instr.sureAddr, storeVar, sizeOf, typeInfo, hi, hs1, Value.cells, storeCells, hst, add_lit]
        · cases h
      · cases h
    · cases h
  case call c =>
    obtain ⟨callee, args, argTypes⟩ := c
    simp only [opSem] at h
    split at h
    · repeat' (first | (cases h; done) | split at h)
    · repeat' (first | (cases h; done) | split at h)
    · split at h
      · rename_i x y hargs
        split at h
        · rename_i i' src hx hsrc
          split at h
          · rename_i l hos
            split at h
            · rename_i hl0
              simp only [Out.rput.injEq] at h
              obtain ⟨rfl, rfl⟩ := h
              have hargs' : args = #[x, y] := by apply Array.ext'; simpa using hargs
              subst hargs'
              have hxv := hev x (by simp [Op.operands, Call.operands])
              have hyv := hev y (by simp [Op.operands, Call.operands])
              rw [hx] at hxv
              obtain ⟨h1, h2, hown, hb⟩ := row_ws ho hos hxv
              simp only [opChk] at hok
              split at hok
              · rename_i T T' hT2
                simp only [Bool.and_eq_true] at hok
                have hT' : argTypes = #[T, T'] := by apply Array.ext'; simpa using hT2
                subst hT'
                obtain ⟨hT, ti, hi1, hs, hby, hz⟩ := wordSlice_spec hok.1
                have hsz : (P.info? tab.u).map (·.size) = some 1 := by simp [hi1, hs]
                rcases hown.2 with ⟨_, h0⟩ | ⟨g, cap, cur, hv, hNg, hg, hcap, hcm, hcs, htake⟩
                · omega
                simp only [Nat.mul_one] at hcs htake
                rw [hv] at hb hown
                obtain ⟨hw1, _, a, cc, hyv', hcc, hcell⟩ := hyv.list hsrc
                have hol : ∀ z ∈ overwrite l src, z < 4294967296 := by
                  intro z hz
                  rcases List.mem_append.1 hz with hz | hz
                  · exact hw1 z (List.mem_of_mem_take hz)
                  · exact h1 z (List.mem_of_mem_drop hz)
                by_cases e0 : src.length = 0
                · have : src = [] := List.eq_nil_of_length_eq_zero e0
                  subst this
                  have hr := run_copy_none (P := P) w T T' type tab.u (some ⟨g, 0, none⟩) a l.length cap 0 cc hT hsz (by simp)
                  refine ⟨g, cap, l, .value (goInt 0), w, hos, hb, overwrite_len _ _, hol, ?_, .inr ⟨_, rfl⟩, by simpa [overwrite] using hown, ⟨rfl, rfl, rfl, Nat.le_refl _, fun _ _ _ => rfl⟩, hNg, rfl⟩
                  simp at hyv'
                  simp [execOp, resolve, Sem.run_bind, invoke, builtin, hv, hyv', hr]
                · obtain ⟨ad, rfl, _, hcc'⟩ := hcell (by omega)
                  have hlen : (src.take l.length).length = min src.length l.length := by simp [Nat.min_comm]
                  have hr := run_copy_row (P := P) w T T' type tab.u g 0 l.length cap ad src.length cc cur tab.u (ints (src.take l.length)) hT hsz hg (by rw [ints_len, hlen])
                    (fun j v hj => by
                      obtain ⟨hj', rfl⟩ := ints_get _ hj
                      rw [hlen] at hj'
                      have hj2 : j < src.length := by omega
                      rw [hcc' j hj2]
                      have hj3 : j < l.length := by omega
                      simp [List.getD_eq_getElem?_getD, List.getElem?_take, hj3]) (by rw [ints_len, hlen, hcs]; omega) (ints_one _)
                  refine ⟨g, cap, l, .value (goInt (ints (src.take l.length)).length), w.setRow g (ints (src.take l.length) ++ cur.toList.drop (ints (src.take l.length)).length).toArray, hos, hb, overwrite_len _ _, hol, ?_, .inr ⟨_, rfl⟩, ?_, ⟨rfl, rfl, rfl, by simp, fun k _ hk => setRow_other w g k _ fun e => hk (by rw [e])⟩, hNg, setRow_size _ _ _⟩
                  · simp [execOp, resolve, Sem.run_bind, invoke, builtin, hv, hyv', hr]
                  · refine ⟨by rw [ints_len, overwrite_len]; simp, .inr ⟨g, cap, _, rfl, hNg, setRow_heap w g cur _ tab.u _ hg, hcap, hcm, ?_, ?_⟩⟩
                    · simp [ints_len]; omega
                    · simp only [Nat.mul_one, ints_len, overwrite, ints_append]
                      rw [List.take_append]
                      have h3 : (ints (src.take l.length)).length ≤ l.length := by rw [ints_len, hlen]; omega
                      rw [List.take_of_length_le h3]
                      congr 1
                      have h4 : ∀ k, (cur.toList.drop k).take (l.length - k) = (ints l).drop k := fun k => by rw [← htake, List.drop_take]
                      rw [ints_len, h4, ints_drop]
                      congr 1
                      rw [List.length_take]
                      by_cases hle : src.length ≤ l.length
                      · rw [Nat.min_eq_right hle]
                      · rw [Nat.min_eq_left (by omega), List.drop_eq_nil_of_le (show l.length ≤ src.length by omega), List.drop_eq_nil_of_le (Nat.le_refl _)]
              · cases hok
            · cases h
          · cases h
        · cases h
      · cases h
    · repeat' (first | (cases h; done) | split at h)
    · repeat' (first | (cases h; done) | split at h)
    · cases h
  case makeFunc fn first caps => cases fn <;> simp only [opSem] at h <;> repeat' (first | (cases h; done) | split at h)
  all_goals
    simp only [opSem] at h
    repeat' (first | (cases h; done) | split at h)
/-! ### Calls -/
theorem go_sound (ho : ObsW tab.u M N bnd w os) (hsub : ∀ b, M' b → M b) (hN : N ≤ w.heap.size) : ∀ (cs : List SV) (vs : List Value) (ds : List SV), RpL M N bnd w cs vs → expo.go os cs = some ds → RpL M' w.heap.size (fun _ => none) w ds vs
  | [], vs, ds, h, e => by simp [expo.go] at e; subst e; simpa [RpL] using h
  | c :: cs, vs, ds, h, e => by
    obtain ⟨v, vs', rfl, hv, h'⟩ := h
    have s : Sees M M' N w.heap.size (fun _ => none) (fun _ => none) w w := ⟨fun b hb => .inl (hsub b hb), hN, fun _ _ h => h, fun b o h _ => h⟩
    by_cases hp : ∃ i off, c = .ptr i off
    · obtain ⟨i, off, rfl⟩ := hp
      simp only [expo.go] at e
      split at e
      · rename_i T es hos
        split at e
        · rename_i hpl
          cases hg : expo.go os cs with
          | none => simp [hg] at e
          | some gs =>
            simp [hg] at e
            subst e
            refine ⟨v, vs', rfl, ?_, go_sound ho hsub hN cs vs' gs h' hg⟩
            simp only [Rp] at hv
            obtain ⟨b, hb, hv⟩ := hv
            have hob := ho i _ hb _ hos
            obtain ⟨b', us, e, hN', hh, hr⟩ := hob
            simp only [Value.pointer.injEq, Option.some.injEq, Addr.mk.injEq] at e
            obtain ⟨rfl, _⟩ := e
            simp only [Rp]
            exact ⟨b, T, us, heap_lt hh, hv, hh, RpL.sees s (RpL.plain_bnd _ hpl hr)⟩
        · cases e
      · cases e
    · have e' : (if c.plain then (expo.go os cs).map (c :: ·) else none) = some ds := by
        cases c <;> first | (exact absurd ⟨_, _, rfl⟩ hp) | simpa [expo.go] using e
      split at e'
      · rename_i hpl
        cases hg : expo.go os cs with
        | none => simp [hg] at e'
        | some gs =>
          simp [hg] at e'
          subst e'
          exact ⟨v, vs', rfl, Rp.sees s (Rp.plain_bnd _ hpl hv), go_sound ho hsub hN cs vs' gs h' hg⟩
      · cases e'
theorem expo_sound (ho : ObsW tab.u M N bnd w os) (hsub : ∀ b, M' b → M b) (hN : N ≤ w.heap.size) {x y : SV} {fz : List Nat} {v : Value} (hx : Rp M N bnd w x v) (h : expo os x = some (y, fz))
    (hfz : ∀ i ∈ fz, ∀ u b, bnd i = some u → blk u = some b → ¬ M' b) : Rp M' w.heap.size (fun _ => none) w y v := by
  have s : Sees M M' N w.heap.size (fun _ => none) (fun _ => none) w w := ⟨fun b hb => .inl (hsub b hb), hN, fun _ _ h => h, fun b o h _ => h⟩
  have plain : ∀ x : SV, (if x.plain then some (x, ([] : List Nat)) else none) = some (y, fz) → Rp M N bnd w x v → Rp M' w.heap.size (fun _ => none) w y v := by
    intro x e hx
    split at e
    · rename_i hpl
      simp only [Option.some.injEq, Prod.mk.injEq] at e
      obtain ⟨rfl, _⟩ := e
      exact Rp.sees s (Rp.plain_bnd _ hpl hx)
    · cases e
  cases x
  case ptr i off =>
    simp only [expo] at h
    split at h
    · rename_i T es hos
      split at h
      · rename_i hpl
        simp only [Option.some.injEq, Prod.mk.injEq] at h
        obtain ⟨rfl, _⟩ := h
        simp only [Rp] at hx
        obtain ⟨b, hb, hv⟩ := hx
        have hob := ho i _ hb _ hos
        obtain ⟨b', us, e, hN', hh, hr⟩ := hob
        simp only [Value.pointer.injEq, Option.some.injEq, Addr.mk.injEq] at e
        obtain ⟨rfl, _⟩ := e
        simp only [Rp]
        exact ⟨b, T, us, heap_lt hh, hv, hh, RpL.sees s (RpL.plain_bnd _ hpl hr)⟩
      · cases h
    · cases h
  case row i =>
    simp only [expo] at h
    split at h
    · rename_i l hos
      simp only [Option.some.injEq, Prod.mk.injEq] at h
      obtain ⟨rfl, rfl⟩ := h
      obtain ⟨h1, h2, hown, hb⟩ := row_ws ho hos hx
      simp only [Rp]
      refine ⟨h1, h2, ?_⟩
      rcases hown.2 with ⟨rfl, h0⟩ | ⟨g, cap, cur, rfl, _, _, hcap, _⟩
      · exact ⟨none, 0, by rw [h0], by omega, fun hp => by omega⟩
      · refine ⟨_, cap, rfl, hcap, fun hp => ⟨_, rfl, hfz i (by simp) _ _ hb rfl, fun j hj => ?_⟩⟩
        exact hown.cells (g := g) rfl j _ (by simp [ints, List.getElem?_eq_getElem hj, List.getD_eq_getElem?_getD])
    · cases h
  case view i lo hi =>
    simp only [expo] at h
    split at h
    · rename_i l hos
      have hle := view_le ho hos hx
      · simp only [Option.some.injEq, Prod.mk.injEq] at h
        obtain ⟨rfl, rfl⟩ := h
        simp only [Rp] at hx
        obtain ⟨b, n, c, hb, hlo, hhi, rfl⟩ := hx
        obtain ⟨h1, h2, hown⟩ := ho i _ hb _ hos
        have hlen : ((l.take hi).drop lo).length = hi - lo := by simp; omega
        simp only [Rp]
        rcases hown.2 with ⟨e, _⟩ | ⟨g, cap, cur, e, _, _, hcap, _⟩
        · cases e
        · simp only [Value.slice.injEq, Option.some.injEq, Addr.mk.injEq] at e
          obtain ⟨⟨rfl, _⟩, rfl, rfl⟩ := e
          refine ⟨fun y hy => h1 y (List.mem_of_mem_take (List.mem_of_mem_drop hy)), by rw [hlen]; omega, some ⟨b, lo, none⟩, c - lo, by rw [hlen], by rw [hlen]; omega, fun hp => ⟨_, rfl, hfz i (by simp) _ _ hb rfl, fun j hj => ?_⟩⟩
          rw [hlen] at hj
          have := hown.cells (g := b) rfl (lo + j) (.int .u32 (l.getD (lo + j) 0 : Nat)) (by simp [ints, List.getElem?_eq_getElem (show lo + j < l.length by omega), List.getD_eq_getElem?_getD])
          rw [add_lit] at this ⊢
          rw [Nat.zero_add] at this
          rw [this]
          simp [List.getD_eq_getElem?_getD, List.getElem?_drop, List.getElem?_take, show lo + j < hi by omega]
    · cases h
  case fn f caps =>
    simp only [expo] at h
    cases hg : expo.go os caps with
    | none => simp [hg] at h
    | some cs =>
      simp [hg] at h
      obtain ⟨rfl, rfl⟩ := h
      simp only [Rp] at hx ⊢
      obtain ⟨vs, hv, hl⟩ := hx
      exact ⟨vs, hv, go_sound ho hsub hN caps vs cs hl hg⟩
  all_goals exact plain _ (by simpa only [expo] using h) hx
theorem expoL_sound (ho : ObsW tab.u M N bnd w os) (hsub : ∀ b, M' b → M b) (hN : N ≤ w.heap.size) : ∀ (xs ys : List SV) (fz : List Nat) (vs : List Value), RpL M N bnd w xs vs → expoL os xs = some (ys, fz) →
    (∀ i ∈ fz, ∀ u b, bnd i = some u → blk u = some b → ¬ M' b) → RpL M' w.heap.size (fun _ => none) w ys vs
  | [], ys, fz, vs, h, e, _ => by simp [expoL] at e; obtain ⟨rfl, _⟩ := e; simpa [RpL] using h
  | x :: xs, ys, fz, vs, h, e, hfz => by
    obtain ⟨v, vs', rfl, hv, h'⟩ := h
    simp only [expoL] at e
    split at e
    · rename_i y f ys' g hy hys
      simp only [Option.some.injEq, Prod.mk.injEq] at e
      obtain ⟨rfl, rfl⟩ := e
      exact ⟨v, vs', rfl, expo_sound ho hsub hN hv hy (fun i hi => hfz i (by simp [hi])), expoL_sound ho hsub hN xs ys' g vs' h' hys (fun i hi => hfz i (by simp [hi]))⟩
    · cases e
theorem expo_row {x y : SV} {fz : List Nat} (h : expo os x = some (y, fz)) : ∀ i ∈ fz, ∃ l, os[i]? = some (.row l) := by
  cases x <;> simp only [expo] at h
  case row i =>
    split at h
    · rename_i l hos
      simp only [Option.some.injEq, Prod.mk.injEq] at h
      obtain ⟨_, rfl⟩ := h
      intro j hj
      simp at hj
      subst hj
      exact ⟨l, hos⟩
    · cases h
  case view i lo hi =>
    split at h
    · rename_i l hos
      simp only [Option.some.injEq, Prod.mk.injEq] at h
      obtain ⟨_, rfl⟩ := h
      intro j hj
      simp at hj
      subst hj
      exact ⟨l, hos⟩
    · cases h
  case fn f caps =>
    cases hg : expo.go os caps with
    | none => simp [hg] at h
    | some cs => simp [hg] at h; obtain ⟨_, rfl⟩ := h; simp
  case ptr i off =>
    split at h
    · split at h
      · simp at h; obtain ⟨_, rfl⟩ := h; simp
      · cases h
    · cases h
  all_goals
    split at h
    · simp at h; obtain ⟨_, rfl⟩ := h; simp
    · cases h
theorem expoL_row : ∀ (xs ys : List SV) (fz : List Nat), expoL os xs = some (ys, fz) → ∀ i ∈ fz, ∃ l, os[i]? = some (.row l)
  | [], ys, fz, e => by simp [expoL] at e; obtain ⟨_, rfl⟩ := e; simp
  | x :: xs, ys, fz, e => by
    simp only [expoL] at e
    split at e
    · rename_i y f ys' g hy hys
      simp only [Option.some.injEq, Prod.mk.injEq] at e
      obtain ⟨_, rfl⟩ := e
      intro i hi
      rcases List.mem_append.1 hi with hi | hi
      · exact expo_row hy i hi
      · exact expoL_row xs ys' g hys i hi
    · cases e
theorem map_RpL : ∀ (l : List Operand), (∀ y ∈ l, Rp M N bnd w (ev y) (ρ y)) → RpL M N bnd w (l.map ev) (l.map ρ)
  | [], _ => by simp [RpL]
  | y :: l, h => ⟨ρ y, l.map ρ, rfl, h y (by simp), map_RpL l fun z hz => h z (by simp [hz])⟩
theorem call_sound (ho : ObsW tab.u M N bnd w os) (hN : N ≤ w.heap.size) (o : Oper) {f : FuncId} {xs : List SV} {fz : List Nat} (h : opSem tab os ev o.op = .call f xs fz) (hf : Enters P f) (hev : ∀ y ∈ o.op.operands, Rp M N bnd w (ev y) (ρ y)) :
    (∀ i ∈ fz, ∃ l, os[i]? = some (.row l)) ∧
    ∃ vs : List Value, (execOp ρ o).run P w = .ok (.enter f vs.toArray) w ∧
      ∀ M' : Nat → Prop, (∀ b, M' b → M b) → (∀ i ∈ fz, ∀ u b, bnd i = some u → blk u = some b → ¬ M' b) → RpL M' w.heap.size (fun _ => none) w xs vs := by
  obtain ⟨dst, op, type, pos, after, guard⟩ := o
  simp only at h hev
  cases op <;> try (simp [opSem] at h; done)
  case call c =>
    obtain ⟨callee, args, argTypes⟩ := c
    simp only [opSem] at h
    split at h
    · rename_i _ g
      split at h
      · rename_i f' caps hg
        split at h
        · cases h
        split at h
        · rename_i ys fz' hex
          simp only [Out.call.injEq] at h
          obtain ⟨rfl, rfl, rfl⟩ := h
          have hgv := hev g (by simp [Op.operands, Call.operands])
          rw [hg] at hgv
          simp only [Rp] at hgv
          obtain ⟨cv, hcv, hcl⟩ := hgv
          have hargs := map_RpL (M := M) (N := N) (bnd := bnd) (w := w) (ev := ev) (ρ := ρ) args.toList (fun y hy => hev y (by simp [Op.operands, Call.operands]; exact .inr (by simpa using hy)))
          refine ⟨expoL_row _ _ _ hex, args.toList.map ρ ++ cv, ?_, fun M' hsub hfz => expoL_sound ho hsub hN _ _ _ _ (hargs.append hcl) hex hfz⟩
          have he := hf (args.map ρ ++ cv.toArray) w
          have harr : (args.toList.map ρ ++ cv).toArray = args.map ρ ++ cv.toArray := by
            apply Array.ext'; simp
          rw [harr]
          simp [execOp, resolve, Sem.run_bind, invoke, Deferred.ofValue, hcv, he]
        · cases h
      · cases h
    · repeat' (first | (cases h; done) | split at h)
    · repeat' (first | (cases h; done) | split at h)
    · repeat' (first | (cases h; done) | split at h)
    · repeat' (first | (cases h; done) | split at h)
    · cases h
  case makeFunc fn first caps => cases fn <;> simp only [opSem] at h <;> repeat' (first | (cases h; done) | split at h)
  all_goals
    simp only [opSem] at h
    repeat' (first | (cases h; done) | split at h)

theorem inl_sound (o : Oper) {f : FuncId} {xs : List SV} (h : opSem tab os ev o.op = .inl f xs) (hf : Enters P f) (hev : ∀ y ∈ o.op.operands, Rp M N bnd w (ev y) (ρ y)) :
    ∃ vs : List Value, (execOp ρ o).run P w = .ok (.enter f vs.toArray) w ∧ RpL M N bnd w xs vs := by
  obtain ⟨dst, op, type, pos, after, guard⟩ := o
  simp only at h hev
  cases op <;> try (simp [opSem] at h; done)
  case call c =>
    obtain ⟨callee, args, argTypes⟩ := c
    simp only [opSem] at h
    split at h
    · rename_i _ g
      split at h
      · rename_i f' caps hg
        split at h
        · simp only [Out.inl.injEq] at h
          obtain ⟨rfl, rfl⟩ := h
          have hgv := hev g (by simp [Op.operands, Call.operands])
          rw [hg] at hgv
          simp only [Rp] at hgv
          obtain ⟨cv, hcv, hcl⟩ := hgv
          have hargs := map_RpL (M := M) (N := N) (bnd := bnd) (w := w) (ev := ev) (ρ := ρ) args.toList (fun y hy => hev y (by simp [Op.operands, Call.operands]; exact .inr (by simpa using hy)))
          refine ⟨args.toList.map ρ ++ cv, ?_, hargs.append hcl⟩
          have he := hf (args.map ρ ++ cv.toArray) w
          have harr : (args.toList.map ρ ++ cv).toArray = args.map ρ ++ cv.toArray := by
            apply Array.ext'; simp
          rw [harr]
          simp [execOp, resolve, Sem.run_bind, invoke, Deferred.ofValue, hcv, he]
        · split at h <;> cases h
      · cases h
    · repeat' (first | (cases h; done) | split at h)
    · repeat' (first | (cases h; done) | split at h)
    · repeat' (first | (cases h; done) | split at h)
    · repeat' (first | (cases h; done) | split at h)
    · cases h
  case makeFunc fn first caps => cases fn <;> simp only [opSem] at h <;> repeat' (first | (cases h; done) | split at h)
  all_goals
    simp only [opSem] at h
    repeat' (first | (cases h; done) | split at h)

/-! ### One operation -/
theorem pick_sound (o : Oper) {t : Bool} {x y : SV} (h : opSem tab os ev o.op = .pick t x y) (hev : ∀ y ∈ o.op.operands, Rp M N bnd w (ev y) (ρ y)) :
    ∃ u v, (execOp ρ o).run P w = .ok (.value (if t then u else v)) w ∧ Rp M N bnd w x u ∧ Rp M N bnd w y v := by
  obtain ⟨dst, op, type, pos, after, guard⟩ := o
  simp only at h hev
  cases op <;> try (simp [opSem] at h; done)
  case pick c a b =>
    have hc := hev c (by simp [Op.operands])
    have ha := hev a (by simp [Op.operands])
    have hb := hev b (by simp [Op.operands])
    simp only [opSem] at h
    split at h
    · rename_i t' hct
      simp only [Out.pick.injEq] at h
      obtain ⟨rfl, rfl, rfl⟩ := h
      rw [hct] at hc
      simp only [Rp] at hc
      exact ⟨ρ a, ρ b, by simp [execOp, hc, asBool], ha, hb⟩
    · cases h
  case makeFunc fn first caps => cases fn <;> simp only [opSem] at h <;> repeat' (first | (cases h; done) | split at h)
  all_goals
    simp only [opSem] at h
    repeat' (first | (cases h; done) | split at h)
theorem ev_sound (h : Inv U Mc w0 bnd st a w) (y : Operand) : Rp (Mut Mc bnd st.os) w0.heap.size bnd w (st.ev y) (a.eval y) := by
  cases y with
  | tmp t =>
    have := h.slots.getD t undef
    simpa [St.ev, Act.eval] using this
  | const v =>
    simp only [St.ev, Act.eval]
    cases v <;> try (simp [ofConst, Rp]; done)
    case slice a n c =>
      cases a with
      | none =>
        cases n with
        | zero => cases c <;> simp [ofConst, Rp]
        | succ n => simp [ofConst, Rp]
      | some a => simp [ofConst, Rp]
  | func f => simp [St.ev, Act.eval, Rp, RpL]
  | global g => simp [St.ev, Rp]
theorem alloc_get (w : World) (o : Obj) : (w.alloc o).heap[w.heap.size]? = some o := by
  show (w.heap.push o)[w.heap.size]? = some o
  simp

/-- The outcome makes no object. -/
def Out.keeps (env : Env) : Out → Bool
  | .new _ _ | .app _ _ | .inl _ _ => false
  | .call f xs _ => (env.con f xs).isSome
  | _ => true
/-- ONE OPERATION. -/
theorem out_sound (ht : TabOK P tab) (he : EnvOK P F tab env) (h : Inv U Mc w0 bnd st a w) (o : Oper) (hok : opChk P tab o.op = true) {Q : St → Prop} {E : Int → Prop} {K : Act → World → Prop} {Qm : Exit → Act → World → Prop}
    (hQ : wpOut env st o.dst Q E (opSem tab st.os st.ev o.op))
    (hK : ∀ bnd' st' a' w', Inv U Mc w0 bnd' st' a' w' → ((opSem tab st.os st.ev o.op).keeps env = true → bnd' = bnd) → Q st' → K a' w')
    (hE : ∀ e a' w', E e → a'.defers = U.ds → Below w0.heap.size w0 w' → Qm (.panic [{ v := failV F e, recovered := false }]) a' w') : o.wp P a w K Qm := by
  have hev : ∀ y ∈ o.op.operands, Rp (Mut Mc bnd st.os) w0.heap.size bnd w (st.ev y) (a.eval y) := fun y _ => ev_sound h y
  unfold Oper.wp
  cases hop : opSem tab st.os st.ev o.op with
  | val x =>
    rw [hop] at hQ
    obtain ⟨v, hr, hx⟩ := val_sound (ρ := a.eval) ht h.obs.weak o hok hop hev
    rw [hr]
    exact hK _ _ _ _ (h.put o.dst hx) (fun _ => rfl) hQ
  | pick t x y =>
    rw [hop] at hQ
    obtain ⟨u, v, hr, hu, hv⟩ := pick_sound (ρ := a.eval) o hop hev
    rw [hr]
    cases t
    · exact hK _ _ _ _ (h.put o.dst hv) (fun _ => rfl) hQ
    · exact hK _ _ _ _ (h.put o.dst hu) (fun _ => rfl) hQ
  | new ob x =>
    rw [hop] at hQ
    obtain ⟨T, cs, vs, rfl, rfl, hr, hl⟩ := new_sound (ρ := a.eval) ht o hop hev
    rw [hr]
    have hg := alloc_below w (.cells vs.toArray T)
    obtain ⟨bnd', hb, hi⟩ := h.new (o := .var T cs) (v := .pointer (some ⟨w.heap.size, 0, none⟩)) hg (fun b hb => by simp [blk] at hb; omega) (fun bnd' s => ⟨w.heap.size, vs, rfl, h.below.size, alloc_get w _, RpL.sees s hl⟩)
    exact hK _ _ _ _ (hi.put o.dst (by simp only [Rp]; exact ⟨_, hb, rfl⟩)) (fun hn => by rw [hop] at hn; cases hn) hQ
  | put i off cs =>
    rw [hop] at hQ
    obtain ⟨T, b, ds, vs, us, hos, hb, hN, hh, hds, hcs, hr⟩ := put_sound (ρ := a.eval) ht h.obs.weak o hop hev
    rw [hr]
    simp only [wpOut, hos] at hQ
    have hi := h.upd (w' := w.setCells b off us) hos rfl (o' := .var T (setMany ds off cs)) rfl hb rfl (fun c hc => heap_setCells_other us off w b c hc) (below_setCells us off w b hN h.below)
      (fun s => ⟨b, setManyV vs off us, rfl, hN, heap_setCells us off w b vs T _ hh, RpL.setMany off (RpL.sees s hds) (RpL.sees s hcs)⟩)
    exact hK _ _ _ _ (hi.put o.dst (by simp [Rp])) (fun _ => rfl) hQ
  | rput i l' =>
    rw [hop] at hQ
    obtain ⟨b, c, l, nx, w', hos, hb, hll, hl', hr, hnx, hown, hgr, hNb, hsz⟩ := rput_sound (ρ := a.eval) ht h.obs.weak o hok hop hev
    rw [hr]
    simp only [wpOut, hos] at hQ
    have hob := h.obs i _ hb
    rw [hos] at hob
    have hi := h.upd (w' := w') hos rfl (o' := .row l') rfl hb rfl (fun c' hc => by
        by_cases hlt : c' < w.heap.size
        · exact hgr.block c' hlt (fun e => hc (by simpa using e))
        · rw [Array.getElem?_eq_none (by omega), Array.getElem?_eq_none (by omega)])
      ⟨hgr.os.trans h.below.os, hgr.tape.trans h.below.tape, hgr.output.trans h.below.output, Nat.le_trans h.below.size hgr.size, fun k hk => by
        have : k < w.heap.size := Nat.lt_of_lt_of_le hk h.below.size
        rw [hgr.block k this (fun e => by simp only [Option.some.injEq] at e; omega)]
        exact h.below.block k hk⟩
      (fun s => ⟨hl', by rw [hll]; exact hob.2.1, by rw [hll]; exact hown⟩)
    rcases hnx with rfl | ⟨z, rfl⟩
    · exact hK _ _ _ _ (hi.put o.dst (by simp [Rp])) (fun _ => rfl) hQ
    · exact hK _ _ _ _ (hi.put o.dst (v := z) (by simp [Rp])) (fun _ => rfl) hQ
  | app i l =>
    rw [hop] at hQ
    obtain ⟨v', w', r, hr, hgr, hrow, hv', hlive, hl1, hl2, hown, hform⟩ := app_sound (ρ := a.eval) h.obs.weak h.below.size o hok hop hev
    rw [hr]
    have hNr : ∀ b, r = some b → w0.heap.size ≤ b := by
      intro b hb
      obtain ⟨k, u, hk, hu, hbu⟩ := hrow b hb
      obtain ⟨l0, u', ho', hu', _⟩ := hlive k hk
      exact (obR_block (h.obs k u hu) ⟨_, ho', rfl⟩ hbu).1
    have hbel : Below w0.heap.size w0 w' := ⟨hgr.os.trans h.below.os, hgr.tape.trans h.below.tape, hgr.output.trans h.below.output, Nat.le_trans h.below.size hgr.size, fun k hk => by
        have : k < w.heap.size := Nat.lt_of_lt_of_le hk h.below.size
        rw [hgr.block k this (fun e => by have := hNr k e.symm; omega)]
        exact h.below.block k hk⟩
    cases i with
    | none =>
      have hr0 : ∀ b, r ≠ some b := fun b e => by obtain ⟨k, u, hk, _⟩ := hrow b e; cases hk
      obtain ⟨bnd', hb, hi⟩ := h.remake (w' := w') none (fun k hk => by cases hk) (l := l) (v' := v') (fun b hb _ => hgr.block b hb (fun e => hr0 b e.symm)) hbel
        (fun b hb => by
          rcases hv' b hb with h' | h'
          · exact .inl h'
          · exact absurd h' (hr0 b)) ⟨hl1, hl2, hown⟩ hform
      exact hK _ _ _ _ (hi.put o.dst (by simp only [Rp]; exact ⟨hb, hform⟩)) (fun hn => by rw [hop] at hn; cases hn) hQ
    | some k =>
      obtain ⟨l0, u, hos, hbu, happ⟩ := hlive k rfl
      obtain ⟨bnd', hb, hi⟩ := h.rebind (w' := w') (U.none happ) hos hbu (l := l) (v' := v') (fun b hb hne => hgr.block b hb (fun e => by
          obtain ⟨k', u', hk', hu', hbu'⟩ := hrow b e.symm
          simp only [Option.some.injEq] at hk'
          subst hk'
          rw [hbu] at hu'
          cases hu'
          exact hne hbu')) hbel
        (fun b hb => by
          rcases hv' b hb with h' | h'
          · exact .inl h'
          · obtain ⟨k', u', hk', hu', hbu'⟩ := hrow b h'
            simp only [Option.some.injEq] at hk'
            subst hk'
            rw [hbu] at hu'
            cases hu'
            exact .inr hbu') ⟨hl1, hl2, hown⟩
      exact hK _ _ _ _ (hi.put o.dst (by simp only [Rp]; exact ⟨hb, hform⟩)) (fun hn => by rw [hop] at hn; cases hn) hQ
  | lit l =>
    rw [hop] at hQ
    have hM : ∀ b, Mut Mc bnd st.os b → b < w.heap.size := by
      intro b hb
      rcases hb with hb | ⟨i, u, hu, hi, hb⟩
      · exact Nat.lt_of_lt_of_le (h.mc.lt b hb) h.below.size
      · exact heap_lt (obR_block (h.obs i u hu) hi hb).2.choose_spec
    obtain ⟨v', w', hr, hbl, hws⟩ := lit_sound (ρ := a.eval) hM o hok hop hev
    rw [hr]
    exact hK _ _ _ _ ((h.grow hbl).put o.dst (by simp only [Rp]; exact hws)) (fun _ => rfl) hQ
  | inl f xs =>
    rw [hop] at hQ
    simp only [wpOut] at hQ
    cases hk : env.inl f with
    | none => rw [hk] at hQ; exact hQ.elim
    | some k =>
      rw [hk] at hQ
      obtain ⟨hent, hin⟩ := he.inl f k hk
      obtain ⟨vs, hrun, hvs⟩ := inl_sound (ρ := a.eval) o hop hent hev
      rw [hrun]
      refine (hin xs st.os _ hQ false _ Mc w0 bnd w vs rfl (h.frame hvs)).mono ?_
      rintro e w'' ⟨x, os', bnd', v, rfl, hQ', hi⟩
      have hl := h.slots.length
      obtain ⟨h1, h2⟩ := hi.unframe (a := a) hl.symm h.defs
      exact hK _ _ _ _ (h1.put o.dst h2) (fun hn => by rw [hop] at hn; cases hn) hQ'
  | call f xs fz =>
    rw [hop] at hQ
    simp only [wpOut] at hQ
    cases hfe : env f xs with
    | none =>
      rw [hfe] at hQ
      simp only at hQ
      cases hfr : env.fresh f xs with
      | none => rw [hfr] at hQ; exact hQ.elim
      | some pr =>
        obtain ⟨pre, l⟩ := pr
        rw [hfr] at hQ
        cases fz with
        | cons _ _ => exact hQ.elim
        | nil =>
          simp only at hQ
          obtain ⟨hpre, hQ⟩ := hQ
          obtain ⟨hent, hcon⟩ := he.fresh f xs pre l hfr
          obtain ⟨hrow, vs, hrun, hvs⟩ := call_sound (ρ := a.eval) h.obs.weak h.below.size o hop hent hev
          rw [hrun]
          have hlt : ∀ b, Mut Mc bnd st.os b → b < w.heap.size := by
            intro b hb
            rcases hb with hb | ⟨i, u, hu, hi, hb⟩
            · exact Nat.lt_of_lt_of_le (h.mc.lt b hb) h.below.size
            · exact heap_lt (obR_block (h.obs i u hu) hi hb).2.choose_spec
          have hargs := hvs (Mut Mc bnd st.os) (fun b hb => hb) (fun i hi => by cases hi)
          refine (hcon hpre _ w vs ⟨hlt, h.mc.gl.below (Nat.le_refl _) h.below⟩ hargs).mono ?_
          rintro e w'' ⟨hg, v, rfl, h1, h2, hown⟩
          have hsz := h.below.size
          have hform : ∃ a n c, v = .slice a n c := by
            rcases hown.2 with ⟨rfl, _⟩ | ⟨g, cap, cur, rfl, _⟩ <;> exact ⟨_, _, _, rfl⟩
          have hfar : ∀ b, blk v = some b → w.heap.size ≤ b := fun b hb => by
            rcases hown.2 with ⟨rfl, _⟩ | ⟨g, cap, cur, rfl, hgb, _⟩
            · simp [blk] at hb
            · simp only [blk, Option.some.injEq] at hb; omega
          have hown' : w''.ownsRow w0.heap.size tab.u 1 v l.length (ints l) := by
            refine ⟨hown.1, ?_⟩
            rcases hown.2 with h0 | ⟨g, cap, cur, e1, hgb, h5⟩
            · exact .inl h0
            · exact .inr ⟨g, cap, cur, e1, by omega, h5⟩
          obtain ⟨bnd', hb, hi⟩ := h.remake (w' := w'') none (fun k hk => by cases hk) (l := l) (v' := v) (fun b hb _ => below_heap hg hb) (h.below.trans (hg.mono h.below.size)) (fun b hb => .inl (hfar b hb)) ⟨h1, h2, hown'⟩ hform
          exact hK _ _ _ _ (hi.put o.dst (by simp only [Rp]; exact ⟨hb, hform⟩)) (fun hn => by rw [hop] at hn; simp only [Out.keeps] at hn; have := hfe; rw [this] at hn; cases hn) hQ
    | some pr =>
      obtain ⟨pre, r⟩ := pr
      rw [hfe] at hQ
      simp only at hQ
      obtain ⟨hpre, hres⟩ := hQ
      obtain ⟨hent, hcon⟩ := he.con f xs pre r hfe
      obtain ⟨hrow, vs, hrun, hvs⟩ := call_sound (ρ := a.eval) h.obs.weak h.below.size o hop hent hev
      rw [hrun]
      have hsub : ∀ b, (Mut Mc bnd st.os b ∧ ∀ i ∈ fz, ∀ u, bnd i = some u → blk u ≠ some b) → Mut Mc bnd st.os b := fun b hb => hb.1
      have hargs := hvs (fun b => Mut Mc bnd st.os b ∧ ∀ i ∈ fz, ∀ u, bnd i = some u → blk u ≠ some b) hsub (fun i hi u b hu hb hm => hm.2 i hi u hu hb)
      have hlt : ∀ b, Mut Mc bnd st.os b → b < w.heap.size := by
        intro b hb
        rcases hb with hb | ⟨i, u, hu, hi, hb⟩
        · exact Nat.lt_of_lt_of_le (h.mc.lt b hb) h.below.size
        · exact heap_lt (obR_block (h.obs i u hu) hi hb).2.choose_spec
      refine (hcon hpre _ w vs ⟨fun b hb => hlt b hb.1, h.mc.gl.below (Nat.le_refl _) h.below⟩ hargs).mono ?_
      intro e w'' hfin
      obtain ⟨hg, hfin⟩ := hfin
      have hpick := wpRes_pick hres
      have hi := h.grow hg
      cases hp : r.pick with
      | error k =>
        rw [hp] at hfin hpick
        subst hfin
        exact hE k a w'' hpick h.defs hi.below
      | ok x =>
        rw [hp] at hfin hpick
        obtain ⟨v, rfl, hcl, hx⟩ := hfin
        simp only at hpick ⊢
        have hx' := Rp.clean_any w0.heap.size bnd hcl hx
        cases hfd : (fz.isEmpty || x.dry) with
        | true =>
          rw [hfd] at hpick
          refine hK _ _ _ _ (hi.put o.dst ?_) (fun _ => rfl) hpick
          rcases Bool.or_eq_true_iff.1 hfd with hf | hd
          · have hf' : fz = [] := by simpa using hf
            subst hf'
            exact Rp.sees ⟨fun b hb => .inl ⟨hb, by simp⟩, Nat.le_refl _, fun _ _ h => h, fun b o ho _ => ho⟩ hx'
          · exact Rp.dry_any _ _ _ _ hd hx'
        | false =>
          rw [hfd] at hpick
          refine hK _ _ _ _ ((hi.kill fz).put o.dst ?_) (fun _ => rfl) hpick
          refine Rp.sees ⟨fun b hb => .inl ?_, Nat.le_refl _, fun _ _ h => h, fun b o ho _ => ho⟩ hx'
          rcases hb with hb | ⟨i, u, hu, hal, hb⟩
          · refine ⟨.inl hb, fun j hj u hu he => ?_⟩
            obtain ⟨l, hl⟩ := hrow j hj
            have h1 := h.mc.lt b hb
            have h2 := (obR_block (h.obs j u hu) ⟨_, hl, rfl⟩ he).1
            omega
          · obtain ⟨h1, h2⟩ := kill_alive fz _ i hal
            refine ⟨.inr ⟨i, u, hu, h1, hb⟩, fun j hj u' hu' he => ?_⟩
            obtain ⟨l, hl⟩ := hrow j hj
            exact h2 (h.dist i j u u' b hu hu' h1 ⟨_, hl, rfl⟩ hb he ▸ hj)
  | none => rw [hop] at hQ; exact hQ.elim
end
end Iv
end Go.Proofs.YtfajgibpidlojaaDoor
end

section
/- The verified interpreter, part H: a region in the text's order, code, a whole function. Conditions: the table of types is the program's (TabOK), the callees' contracts (EnvOK), what is shown of a region that draws (DrawOK). -/
set_option linter.unusedVariables false
set_option linter.unusedSimpArgs false
namespace Go.Proofs.YtfajgibpidlojaaDoor
namespace Iv
open Go Go.RowKit

section
variable {P : Program} {tab : Tb} {env : Env} {U : Ctx tab.u tab.app} {F : TypeId} {Mc : Nat → Prop} {w0 : World}

theorem wanted_sound {ops : Array Oper} {bnd : Nat → Option Value} {st : St} {a : Act} {w : World} (h : Inv U Mc w0 bnd st a w) {o : Oper} {b : Bool} (hw : wantedSem ops st o = some b) : Region.wanted o (yielded ops a.tmps) = b := by
  unfold wantedSem at hw
  unfold Region.wanted
  cases hg : o.guard with
  | none => rw [hg] at hw; simpa using hw
  | some jw =>
    obtain ⟨j, want⟩ := jw
    rw [hg] at hw
    simp only at hw ⊢
    split at hw
    · rename_i d hd
      split at hw
      · rename_i t ht
        simp only [Option.some.injEq] at hw
        subst hw
        have hs := h.slots.getD d undef
        rw [ht] at hs
        simp only [Rp] at hs
        have hx : a.tmps[d]? = some (.bool t) := by
          cases hx : a.tmps[d]? with
          | none => simp [List.getD_eq_getElem?_getD, hx, undef] at hs
          | some u => simp [List.getD_eq_getElem?_getD, hx] at hs; rw [hs]
        simp [yielded, hd, hx]
      · rename_i ht
        simp only [Option.some.injEq] at hw
        subst hw
        have hs := h.slots.getD d undef
        rw [ht] at hs
        simp only [Rp] at hs
        obtain ⟨vs, hv, hn⟩ := hs
        simp only [RpL] at hn
        subst hn
        have hx : a.tmps[d]? = none ∨ a.tmps[d]? = some (.tuple #[]) := by
          cases hx : a.tmps[d]? with
          | none => exact .inl rfl
          | some u => simp [List.getD_eq_getElem?_getD, hx] at hv; rw [hv]; exact .inr rfl
        rcases hx with hx | hx <;> simp [yielded, hd, hx]
      · cases hw
    · cases hw
theorem set_same (l : List SV) (d : Nat) (x : SV) (h : l.getD d .undef = x) (hx : x ≠ .undef) : l.set d x = l := by
  apply List.ext_getElem?
  intro i
  by_cases e : i = d
  · subst e
    rw [List.getElem?_set]
    cases hl : l[i]? with
    | none => simp [List.getD_eq_getElem?_getD, hl] at h; exact absurd h.symm hx
    | some y =>
      have hlt := (List.getElem?_eq_some_iff.1 hl).1
      simp [List.getD_eq_getElem?_getD, hl] at h
      simp [hlt, h]
  · rw [List.getElem?_set_ne (Ne.symm e)]
theorem gated_sound {dst : Option Tmp} {Q : St → Prop} {st : St} (h : gated dst Q st) : Q st := by
  unfold gated at h
  split at h
  · rename_i d
    split at h
    · rename_i b hb
      cases b
      · simpa [ifB, St.norm_eq, set_same _ _ _ hb] using h
      · simpa [ifB, St.norm_eq, set_same _ _ _ hb] using h
    · exact h
  · exact h

theorem opsT_sound (ht : TabOK P tab) (he : EnvOK P F tab env) {ops : Array Oper} {Q : St → Prop} {E : Int → Prop} {Qm : Exit → Act → World → Prop}
    (hQ : ∀ bnd' st' a' w', Inv U Mc w0 bnd' st' a' w' → Q st' → Qm .normal a' w')
    (hE : ∀ e a' w', E e → a'.defers = U.ds → Below w0.heap.size w0 w' → Qm (.panic [{ v := failV F e, recovered := false }]) a' w') :
    ∀ (rest : List Oper) (bnd : Nat → Option Value) (st : St) (a : Act) (w : World), (∀ o ∈ rest, opChk P tab o.op = true) → Inv U Mc w0 bnd st a w → wpOpsT tab env ops Q E rest st → wpList P ops Qm rest a w
  | [], bnd, st, a, w, _, hi, h => hQ _ _ _ _ hi h
  | o :: rest, bnd, st, a, w, hok, hi, h => by
    have ih := fun bnd st a w => opsT_sound ht he (ops := ops) hQ hE rest bnd st a w (fun x hx => hok x (by simp [hx]))
    unfold wpOpsT at h
    split at h
    · rename_i hw
      have hwm := wanted_sound hi hw
      unfold wpList
      rw [if_pos hwm]
      left
      refine out_sound ht he hi o (hok o (by simp)) (OV.wp_sem h).2 (fun bnd' st' a' w' hi' _ hq => ih bnd' st' a' w' hi' ?_) hE
      split at hq
      · exact gated_sound hq
      · exact hq
    · rename_i hw
      have hwm := wanted_sound hi hw
      unfold wpList
      rw [hwm]
      rw [St.norm_eq] at h
      exact ih _ _ _ _ (hi.put o.dst (by simp only [Rp]; exact ⟨[], rfl, rfl⟩)) h
    · exact h.elim

/-- Every operation of a code is of the checked kind. -/
def codeChk (P : Program) (tab : Tb) : Code → Bool
  | .region _ ops _ => ops.toList.all fun o => opChk P tab o.op
  | .seq a b => codeChk P tab a && codeChk P tab b
  | .cond _ a b => codeChk P tab a && codeChk P tab b
  | .block _ a => codeChk P tab a
  | .loop a => codeChk P tab a
  | _ => true
/-- What is shown of a region that draws its order. -/
def DrawOK (P : Program) (tab : Tb) (env : Env) (F : TypeId) (D : Array Oper → St → (St → Prop) → (Int → Prop) → Prop) : Prop :=
  ∀ (U : Ctx tab.u tab.app) (Mc : Nat → Prop) (w0 : World) (id : Nat) (ops : Array Oper) (Q : St → Prop) (E : Int → Prop) (Qm : Exit → Act → World → Prop) (bnd : Nat → Option Value) (st : St) (a : Act) (w : World),
    (∀ o ∈ ops.toList, opChk P tab o.op = true) →
    (∀ bnd' st' a' w', Inv U Mc w0 bnd' st' a' w' → Q st' → Qm .normal a' w') →
    (∀ e a' w', E e → a'.defers = U.ds → Below w0.heap.size w0 w' → Qm (.panic [{ v := failV F e, recovered := false }]) a' w') →
    Inv U Mc w0 bnd st a w → D ops st Q E → (Code.region id ops true).wp P Qm a w
def exOf : Ex → Exit
  | .normal => .normal
  | .exit id => .exit id
  | .ret => .ret
variable {D : Array Oper → St → (St → Prop) → (Int → Prop) → Prop}

theorem code_sound (ht : TabOK P tab) (he : EnvOK P F tab env) (hD : DrawOK P tab env F D) {E : Int → Prop} : ∀ (c : Code) {Q : Ex → St → Prop} {Qm : Exit → Act → World → Prop} {bnd : Nat → Option Value} {st : St} {a : Act} {w : World},
    codeChk P tab c = true →
    (∀ x bnd' st' a' w', Inv U Mc w0 bnd' st' a' w' → Q x st' → Qm (exOf x) a' w') →
    (∀ e a' w', E e → a'.defers = U.ds → Below w0.heap.size w0 w' → Qm (.panic [{ v := failV F e, recovered := false }]) a' w') →
    Inv U Mc w0 bnd st a w → wpC tab env D E c st Q → c.wp P Qm a w
  | .skip, Q, Qm, bnd, st, a, w, hc, hQ, hE, hi, h => wp_skip (hQ .normal _ _ _ _ hi h)
  | .region id ops false, Q, Qm, bnd, st, a, w, hc, hQ, hE, hi, h => by
    simp only [codeChk, List.all_eq_true] at hc
    exact wp_region_list (opsT_sound ht he (hQ .normal) hE ops.toList bnd st a w hc hi h)
  | .region id ops true, Q, Qm, bnd, st, a, w, hc, hQ, hE, hi, h => by
    simp only [codeChk, List.all_eq_true] at hc
    exact hD U Mc w0 id ops _ E Qm bnd st a w hc (hQ .normal) hE hi h
  | .seq x y, Q, Qm, bnd, st, a, w, hc, hQ, hE, hi, h => by
    simp only [codeChk, Bool.and_eq_true] at hc
    refine wp_seq (code_sound ht he hD x hc.1 (fun e bnd' st' a' w' hi' hq => ?_) (fun e a' w' h1 h2 h3 => hE e a' w' h1 h2 h3) hi h)
    cases e with
    | normal => exact code_sound ht he hD y hc.2 hQ hE hi' hq
    | exit id => exact hQ (.exit id) _ _ _ _ hi' hq
    | ret => exact hQ .ret _ _ _ _ hi' hq
  | .cond c x y, Q, Qm, bnd, st, a, w, hc, hQ, hE, hi, h => by
    simp only [codeChk, Bool.and_eq_true] at hc
    unfold wpC at h
    split at h
    · rename_i t hct
      have hv := ev_sound hi c
      rw [hct] at hv
      simp only [Rp] at hv
      cases t
      · exact wp_cond_false hv (code_sound ht he hD y hc.2 hQ hE hi h)
      · exact wp_cond_true hv (code_sound ht he hD x hc.1 hQ hE hi h)
    · rename_i hct
      have hv := ev_sound hi c
      rw [hct] at hv
      simp only [Rp] at hv
      obtain ⟨t, hv⟩ := hv
      cases t
      · exact wp_cond_false hv (code_sound ht he hD y hc.2 hQ hE hi h.2)
      · exact wp_cond_true hv (code_sound ht he hD x hc.1 hQ hE hi h.1)
    · exact h.elim
  | .block id x, Q, Qm, bnd, st, a, w, hc, hQ, hE, hi, h => by
    simp only [codeChk] at hc
    refine wp_block (code_sound ht he hD x hc (fun e bnd' st' a' w' hi' hq => ?_) (fun e a' w' h1 h2 h3 => hE e a' w' h1 h2 h3) hi h)
    cases e with
    | normal => exact hQ .normal _ _ _ _ hi' hq
    | exit j =>
      simp only at hq
      simp only [exOf, Exit.inBlock]
      split at hq
      · rename_i e; rw [if_pos e]; exact hQ .normal _ _ _ _ hi' hq
      · rename_i e; rw [if_neg e]; exact hQ (.exit j) _ _ _ _ hi' hq
    | ret => exact hQ .ret _ _ _ _ hi' hq
  | .loop x, Q, Qm, bnd, st, a, w, hc, hQ, hE, hi, h => by
    simp only [codeChk] at hc
    obtain ⟨n, h⟩ := h
    refine wp_loop_rounds n ?_
    induction n generalizing bnd st a w with
    | zero => exact h.elim
    | succ n ih =>
      rw [rounds_succ]
      refine code_sound ht he hD x hc (fun e bnd' st' a' w' hi' hq => ?_) (fun e a' w' h1 h2 h3 => hE e a' w' h1 h2 h3) hi h
      cases e with
      | normal => exact ih _ _ _ _ hi' hq
      | exit j => exact hQ (.exit j) _ _ _ _ hi' hq
      | ret => exact hQ .ret _ _ _ _ hi' hq
  | .exit id, Q, Qm, bnd, st, a, w, hc, hQ, hE, hi, h => wp_exit (hQ (.exit id) _ _ _ _ hi h)
  | .ret, Q, Qm, bnd, st, a, w, hc, hQ, hE, hi, h => wp_ret (hQ .ret _ _ _ _ hi h)
  | .rangeFunc _ _ _ _, Q, Qm, bnd, st, a, w, hc, hQ, hE, hi, h => h.elim
  | .scope _, Q, Qm, bnd, st, a, w, hc, hQ, hE, hi, h => h.elim
  | .label _, Q, Qm, bnd, st, a, w, hc, hQ, hE, hi, h => h.elim
  | .goto _, Q, Qm, bnd, st, a, w, hc, hQ, hE, hi, h => h.elim
  | .refuse _, Q, Qm, bnd, st, a, w, hc, hQ, hE, hi, h => h.elim

/-! ### A whole function -/
def resRun (a : Act) : ResultVar → Sem Value
  | .tmp t => pure (a.tmps.getD t undef)
  | .cell b t => do loadVar t (← asAddr (a.tmps.getD b undef))
def FinK (tab : Tb) (fn : Func) (K : Except Int SV → Prop) (st : St) : Prop :=
  match resOf tab st fn.results.toList with
  | some x => match outOf st.os x with
    | some y => K (.ok y)
    | Option.none => False
  | Option.none => False
theorem resOne_sound (ht : TabOK P tab) {bnd : Nat → Option Value} {st : St} {a : Act} {w : World} (hi : Inv U Mc w0 bnd st a w) {r : ResultVar} {x : SV} (h : resOne tab st r = some x) :
    ∃ v, (resRun a r).run P w = .ok v w ∧ Rp (Mut Mc bnd st.os) w0.heap.size bnd w x v := by
  cases r with
  | tmp t =>
    simp only [resOne, Option.some.injEq] at h
    subst h
    exact ⟨a.tmps.getD t undef, by simp [resRun], by simpa using hi.slots.getD t undef⟩
  | cell b T =>
    simp only [resOne] at h
    split at h
    · rename_i i hsl
      split at h
      · rename_i T' cs ti hos hti
        have hp := hi.slots.getD b undef
        rw [hsl] at hp
        have hca : cellsAt st.os (.ptr i 0) = some (cs, 0) := by simp [cellsAt, hos]
        have key := fun x hx => load_sound (P := P) (T := T) (ht T ti hti) hi.obs.weak hp hca (x := x) hx
        have hload : ∀ u, (Instr.loadAt T (a.tmps.toList.getD b undef)).run P w = .ok u w → (resRun a (.cell b T)).run P w = .ok u w := by
          intro u hu
          obtain ⟨b', _, _, hv, _⟩ := cellsAt_get hi.obs.weak hca hp
          have hv' : a.tmps.getD b undef = .pointer (some ⟨b', 0, none⟩) := by simpa using hv
          rw [hv] at hu
          simp only [resRun, hv']
          simpa [Instr.loadAt, Instr.sureAddr, asAddr] using hu
        split at h
        · rename_i hrow
          split at h
          · rename_i hlen
            simp only [Option.some.injEq] at h
            obtain ⟨u, h1, h2⟩ := key x (.inl ⟨hrow, by omega, by rw [← h]; simp [← hlen]⟩)
            exact ⟨u, hload u h1, h2⟩
          · cases h
        · rename_i hrow
          obtain ⟨u, h1, h2⟩ := key x (.inr ⟨hrow, h⟩)
          exact ⟨u, hload u h1, h2⟩
      · cases h
    · cases h
theorem resAll_sound (ht : TabOK P tab) {bnd : Nat → Option Value} {st : St} {a : Act} {w : World} (hi : Inv U Mc w0 bnd st a w) : ∀ (rs : List ResultVar) (xs : List SV), resAll tab st rs = some xs →
    ∃ vs, (rs.mapM (resRun a)).run P w = .ok vs w ∧ RpL (Mut Mc bnd st.os) w0.heap.size bnd w xs vs
  | [], xs, h => by simp [resAll] at h; subst h; exact ⟨[], by simp, by simp [RpL]⟩
  | r :: rs, xs, h => by
    simp only [resAll] at h
    split at h
    · rename_i x xs' hx hxs
      simp only [Option.some.injEq] at h
      subst h
      obtain ⟨v, h1, h2⟩ := resOne_sound ht hi hx
      obtain ⟨vs, h3, h4⟩ := resAll_sound ht hi rs xs' hxs
      refine ⟨v :: vs, ?_, ⟨v, vs, rfl, h2, h4⟩⟩
      rw [List.mapM_cons, Sem.run_bind, h1]
      simp [h3]
    · cases h
theorem res_sound (ht : TabOK P tab) {bnd : Nat → Option Value} {st : St} {a : Act} {w : World} (hi : Inv U Mc w0 bnd st a w) (fn : Func) {x : SV} (h : resOf tab st fn.results.toList = some x) :
    ∃ v, (results fn a.tmps).run P w = .ok v w ∧ Rp (Mut Mc bnd st.os) w0.heap.size bnd w x v := by
  unfold resOf at h
  have run : ∀ vs : List Value, (fn.results.toList.mapM (resRun a)).run P w = .ok vs w →
      (results fn a.tmps).run P w = .ok (if h : vs.toArray.size = 1 then vs.toArray[0] else .tuple vs.toArray) w := by
    intro vs hvs
    have : results fn a.tmps = (do let vs ← fn.results.mapM (resRun a); pure (if h : vs.size = 1 then vs[0] else .tuple vs)) := rfl
    rw [this, Array.mapM_eq_mapM_toList]
    simp [hvs]
  cases hr : resAll tab st fn.results.toList with
  | none => rw [hr] at h; cases h
  | some xs =>
    rw [hr] at h
    obtain ⟨vs, h1, h2⟩ := resAll_sound ht hi _ xs hr
    have h3 := run vs h1
    cases xs with
    | nil =>
      simp [RpL] at h2
      subst h2
      simp only [Option.some.injEq] at h
      subst h
      exact ⟨_, h3, by simp [Rp, RpL]⟩
    | cons y ys =>
      obtain ⟨v, vs', rfl, hy, hys⟩ := h2
      cases ys with
      | nil =>
        simp [RpL] at hys
        subst hys
        simp only [Option.some.injEq] at h
        subst h
        exact ⟨v, by simpa using h3, hy⟩
      | cons z zs =>
        obtain ⟨u, us, rfl, hz, hzs⟩ := hys
        simp only [Option.some.injEq] at h
        subst h
        exact ⟨.tuple (v :: u :: us).toArray, by simpa using h3, by simp only [Rp]; exact ⟨_, rfl, v, _, rfl, hy, u, us, rfl, hz, hzs⟩⟩
theorem own_ws {M : Nat → Prop} {N : Nat} {w : World} {l : List Nat} {v : Value} (h1 : ∀ x ∈ l, x < 4294967296) (h2 : l.length ≤ cap30) {T : TypeId} (hown : w.ownsRow N T 1 v l.length (ints l)) (hm : ∀ b, blk v = some b → ¬ M b) : Ws M w l v := by
  refine ⟨h1, h2, ?_⟩
  rcases hown.2 with ⟨rfl, h0⟩ | ⟨g, cap, cur, rfl, _, _, hcap, _⟩
  · exact ⟨none, 0, by rw [h0], by omega, fun hp => by omega⟩
  · refine ⟨_, cap, rfl, hcap, fun hp => ⟨_, rfl, hm _ rfl, fun j hj => ?_⟩⟩
    exact hown.cells (g := g) rfl j _ (by simp [ints, List.getElem?_eq_getElem hj, List.getD_eq_getElem?_getD])
theorem outOne {bnd : Nat → Option Value} {st : St} {a : Act} {w : World} (hi : Inv U Mc w0 bnd st a w) {i : Nat} {l : List Nat} (hos : st.os[i]? = some (.row l)) {v : Value} (h : Rp (Mut Mc bnd st.os) w0.heap.size bnd w (.row i) v) : Rp Mc w0.heap.size (fun _ => none) w (.words l) v := by
  obtain ⟨h1, h2, hown, hb⟩ := row_ws hi.obs.weak hos h
  simp only [Rp]
  refine own_ws h1 h2 hown fun b hbl hm => ?_
  have := hi.mc.lt b hm
  have := (obR_block (hi.obs i v hb) ⟨_, hos, rfl⟩ hbl).1
  omega
theorem outClean {bnd : Nat → Option Value} {st : St} {a : Act} {w : World} (hi : Inv U Mc w0 bnd st a w) {x : SV} (hc : x.clean = true) {v : Value} (h : Rp (Mut Mc bnd st.os) w0.heap.size bnd w x v) : Rp Mc w0.heap.size (fun _ => none) w x v :=
  Rp.clean_any _ _ hc (Rp.sees ⟨fun b hb => .inl (.inl hb), Nat.le_refl _, fun _ _ h => h, fun b o ho _ => ho⟩ h)
theorem outGo {bnd : Nat → Option Value} {st : St} {a : Act} {w : World} (hi : Inv U Mc w0 bnd st a w) : ∀ (xs ys : List SV) (vs : List Value), outOf.go st.os xs = some ys → RpL (Mut Mc bnd st.os) w0.heap.size bnd w xs vs → SV.cleanL ys = true ∧ RpL Mc w0.heap.size (fun _ => none) w ys vs
  | [], ys, vs, e, h => by simp [outOf.go] at e; subst e; exact ⟨rfl, by simpa [RpL] using h⟩
  | x :: xs, ys, vs, e, h => by
    obtain ⟨v, vs', rfl, hv, h'⟩ := h
    by_cases hrow : ∃ i, x = .row i
    · obtain ⟨i, rfl⟩ := hrow
      simp only [outOf.go] at e
      split at e
      · rename_i l hos
        cases hg : outOf.go st.os xs with
        | none => simp [hg] at e
        | some zs =>
          simp [hg] at e
          subst e
          obtain ⟨h1, h2⟩ := outGo hi xs zs vs' hg h'
          exact ⟨by simp [SV.cleanL, SV.clean, h1], v, vs', rfl, outOne hi hos hv, h2⟩
      · cases e
    · have e' : (if x.clean then (outOf.go st.os xs).map (x :: ·) else none) = some ys := by
        cases x <;> first | (exact absurd ⟨_, rfl⟩ hrow) | simpa [outOf.go] using e
      split at e'
      · rename_i hc
        cases hg : outOf.go st.os xs with
        | none => simp [hg] at e'
        | some zs =>
          simp [hg] at e'
          subst e'
          obtain ⟨h1, h2⟩ := outGo hi xs zs vs' hg h'
          exact ⟨by simp [SV.cleanL, hc, h1], v, vs', rfl, outClean hi hc hv, h2⟩
      · cases e'
theorem out_of_sound {bnd : Nat → Option Value} {st : St} {a : Act} {w : World} (hi : Inv U Mc w0 bnd st a w) {x y : SV} (h : outOf st.os x = some y) {v : Value} (hx : Rp (Mut Mc bnd st.os) w0.heap.size bnd w x v) :
    y.clean = true ∧ Rp Mc w0.heap.size (fun _ => none) w y v := by
  have plain : ∀ x : SV, (if x.clean then some x else none) = some y → Rp (Mut Mc bnd st.os) w0.heap.size bnd w x v → y.clean = true ∧ Rp Mc w0.heap.size (fun _ => none) w y v := by
    intro x e hx
    split at e
    · rename_i hc
      simp only [Option.some.injEq] at e
      subst e
      exact ⟨hc, outClean hi hc hx⟩
    · cases e
  cases x
  case row i =>
    simp only [outOf] at h
    split at h
    · rename_i l hos
      simp only [Option.some.injEq] at h
      subst h
      exact ⟨rfl, outOne hi hos hx⟩
    · cases h
  case tup xs =>
    simp only [outOf] at h
    cases hg : outOf.go st.os xs with
    | none => simp [hg] at h
    | some ys =>
      simp [hg] at h
      subst h
      simp only [Rp] at hx ⊢
      obtain ⟨vs, hv, hl⟩ := hx
      obtain ⟨h1, h2⟩ := outGo hi xs ys vs hg hl
      exact ⟨by simpa [SV.clean] using h1, vs, hv, h2⟩
  case agg xs =>
    simp only [outOf] at h
    cases hg : outOf.go st.os xs with
    | none => simp [hg] at h
    | some ys =>
      simp [hg] at h
      subst h
      simp only [Rp] at hx ⊢
      obtain ⟨vs, hv, hl⟩ := hx
      obtain ⟨h1, h2⟩ := outGo hi xs ys vs hg hl
      exact ⟨by simpa [SV.clean] using h1, vs, hv, h2⟩
  all_goals exact plain _ (by simpa only [outOf] using h) hx

/-- A WHOLE FUNCTION. -/
theorem fun_sound (ht : TabOK P tab) (he : EnvOK P F tab env) (hD : DrawOK P tab env F D) {f : FuncId} {fn : Func} {c : Code} (hf : P.funcs[f]? = some fn) (hb : fn.body = some c) (hc : codeChk P tab c = true)
    {args : List SV} {K : Except Int SV → Prop} (h : wpF tab env D fn args K) {M : Nat → Prop} {w : World} {vs : List Value} (hM : MOK M w) (hargs : RpL M w.heap.size (fun _ => none) w args vs) :
    Calls P f vs.toArray w fun e w' => ∃ r, K r ∧ Fin F M w r e w' := by
  refine calls_of_wp hf hb ?_
  simp only [wpF, hb] at h
  have hlen := hargs.length
  have hi : Inv (u := tab.u) (ap := tab.app) ⟨[], [], by simp, []⟩ M w (fun _ => none) { slots := args ++ List.replicate (fn.ntmps - args.length) .undef, os := [] } { tmps := vs.toArray ++ Array.replicate (fn.ntmps - vs.toArray.size) undef, defers := [] } w := by
    refine ⟨?_, rfl, Below.refl _ _, fun i v hv => by simp at hv, fun i j v u b hv => by simp at hv, hM, by simp [RpL]⟩
    have : (vs.toArray ++ Array.replicate (fn.ntmps - vs.toArray.size) undef).toList = vs ++ List.replicate (fn.ntmps - args.length) undef := by simp [hlen]
    rw [this]
    refine RpL.append (RpL.sees ⟨fun b hb => .inl ?_, Nat.le_refl _, fun _ _ h => h, fun b o ho _ => ho⟩ hargs) (RpL.replicate_undef _ _)
    rcases hb with hb | ⟨i, v, hv, _⟩
    · exact hb
    · cases hv
  refine code_sound ht he hD c hc (fun x bnd' st' a' w' hi' hq => ?_) (fun e a' w' h1 h2 h3 => ⟨h2, .error e, h1, h3, rfl⟩) hi h
  have fin : FinK tab fn K st' → a'.defers = [] ∧ ∃ v, (results fn a'.tmps).run P w' = .ok v w' ∧ ∃ r, K r ∧ Fin F M w r (.returned v) w' := by
    intro hq
    unfold FinK at hq
    split at hq
    · rename_i x hx
      split at hq
      · rename_i y hy
        obtain ⟨v, h1, h2⟩ := res_sound ht hi' fn hx
        obtain ⟨h3, h4⟩ := out_of_sound hi' hy h2
        exact ⟨hi'.defs, v, h1, .ok y, hq, hi'.below, v, rfl, h3, h4⟩
      · exact hq.elim
    · exact hq.elim
  cases x with
  | normal => exact fin hq
  | ret => exact fin hq
  | exit id => exact hq.elim
/-- A function run in place. -/
def wpInl (tab : Tb) (env : Env) (D : Array Oper → St → (St → Prop) → (Int → Prop) → Prop) (fn : Func) (xs : List SV) (os : List Ob) (K : SV → List Ob → Prop) : Prop :=
  match fn.body with
  | some c => wpC tab env D (fun _ => False) c { slots := xs ++ List.replicate (fn.ntmps - xs.length) .undef, os := os } fun e st => match e with
    | .exit _ => False
    | _ => match resOf tab st fn.results.toList with
      | some x => K x st.os
      | Option.none => False
  | Option.none => False
theorem run_fun (ht : TabOK P tab) (he : EnvOK P F tab env) (hD : DrawOK P tab env F D) {f : FuncId} {fn : Func} {c : Code} (hf : P.funcs[f]? = some fn) (hb : fn.body = some c) (hc : codeChk P tab c = true)
    {xs : List SV} {os : List Ob} {K : SV → List Ob → Prop} (h : wpInl tab env D fn xs os K) {U : Ctx tab.u tab.app} {Mc : Nat → Prop} {w0 : World} {bnd : Nat → Option Value} {w : World} {vs : List Value}
    (hinv : Inv U Mc w0 bnd ⟨xs, os⟩ { tmps := vs.toArray, defers := [] } w) :
    Calls P f vs.toArray w fun e w' => ∃ x os' bnd' v, e = .returned v ∧ K x os' ∧ Inv U Mc w0 bnd' ⟨[x], os'⟩ { tmps := #[v], defers := [] } w' := by
  refine calls_of_wp hf hb ?_
  simp only [wpInl, hb] at h
  have hargs : RpL (Mut Mc bnd os) w0.heap.size bnd w xs vs := by simpa using hinv.slots
  have hlen := hargs.length
  have hi : Inv U Mc w0 bnd { slots := xs ++ List.replicate (fn.ntmps - xs.length) .undef, os := os } { tmps := vs.toArray ++ Array.replicate (fn.ntmps - vs.toArray.size) undef, defers := [] } w := by
    refine ⟨?_, hinv.defs, hinv.below, hinv.obs, hinv.dist, hinv.mc, hinv.keep⟩
    have : (vs.toArray ++ Array.replicate (fn.ntmps - vs.toArray.size) undef).toList = vs ++ List.replicate (fn.ntmps - xs.length) undef := by simp [hlen]
    rw [this]
    exact RpL.append hargs (RpL.replicate_undef _ _)
  refine code_sound ht he hD c hc (fun x bnd' st' a' w' hi' hq => ?_) (fun e a' w' h1 h2 h3 => h1.elim) hi h
  have fin : (match resOf tab st' fn.results.toList with
      | some x => K x st'.os
      | Option.none => False) → a'.defers = [] ∧ ∃ v, (results fn a'.tmps).run P w' = .ok v w' ∧ ∃ x os' bnd' u, Ending.returned v = .returned u ∧ K x os' ∧ Inv U Mc w0 bnd' ⟨[x], os'⟩ { tmps := #[u], defers := [] } w' := by
    intro hq
    split at hq
    · rename_i x hx
      obtain ⟨v, h1, h2⟩ := res_sound ht hi' fn hx
      exact ⟨hi'.defs.trans hinv.defs.symm, v, h1, x, st'.os, bnd', v, rfl, hq, ⟨⟨v, [], rfl, h2, rfl⟩, hinv.defs, hi'.below, hi'.obs, hi'.dist, hi'.mc, hi'.keep⟩⟩
    · exact hq.elim
  cases x with
  | normal => exact fin hq
  | ret => exact fin hq
  | exit id => exact hq.elim
theorem inl_fun (ht : TabOK P tab) (he : EnvOK P F tab env) (hD : DrawOK P tab env F D) (ha : tab.app = false) {f : FuncId} {fn : Func} {c : Code} (hf : P.funcs[f]? = some fn) (hb : fn.body = some c) (hc : codeChk P tab c = true)
    {xs : List SV} {os : List Ob} {K : SV → List Ob → Prop} (h : wpInl tab env D fn xs os K) : InlOK P tab.u f xs os K := by
  intro ap U Mc w0 bnd w vs hap hinv
  obtain rfl : ap = tab.app := hap.trans ha.symm
  exact run_fun ht he hD hf hb hc h hinv
/-- A function that answers a row of its own. -/
theorem fresh_fun (ht : TabOK P tab) (he : EnvOK P F tab env) (hD : DrawOK P tab env F D) {f : FuncId} {fn : Func} {c : Code} (hf : P.funcs[f]? = some fn) (hb : fn.body = some c) (hc : codeChk P tab c = true)
    {xs : List SV} {l : List Nat} (h : wpInl tab env D fn xs [] (fun x os => ∃ i, baseOf os x = some (some i, l))) : HoldsF P tab.u f xs l := by
  intro M w vs hM hargs
  have hi : Inv (u := tab.u) (ap := tab.app) ⟨[], [], by simp, []⟩ M w (fun _ => none) ⟨xs, []⟩ { tmps := vs.toArray, defers := [] } w := by
    refine ⟨?_, rfl, Below.refl _ _, fun i v hv => by simp at hv, fun i j v u b hv => by simp at hv, hM, by simp [RpL]⟩
    have : RpL (Mut M (fun _ => none) []) w.heap.size (fun _ => none) w xs vs := RpL.sees ⟨fun b hb => .inl ?_, Nat.le_refl _, fun _ _ h => h, fun b o ho _ => ho⟩ hargs
    · simpa using this
    · rcases hb with hb | ⟨i, v, hv, _⟩
      · exact hb
      · cases hv
  refine (run_fun ht he hD hf hb hc h hi).mono ?_
  rintro e w' ⟨x, os', bnd', v, rfl, ⟨i, hbase⟩, hinv⟩
  obtain ⟨v', vs', e1, hx, _⟩ := hinv.slots
  simp only [List.cons.injEq] at e1
  obtain ⟨rfl, _⟩ := e1
  obtain ⟨h1, h2, h3, _⟩ := base_sound hinv.obs.weak hbase hx
  exact ⟨hinv.below, v, rfl, h1, h2, h3⟩
/-- The contract. -/
theorem fun_holds (ht : TabOK P tab) (he : EnvOK P F tab env) (hD : DrawOK P tab env F D) {f : FuncId} {fn : Func} {c : Code} (hf : P.funcs[f]? = some fn) (hb : fn.body = some c) (hc : codeChk P tab c = true)
    {args : List SV} {r : Except Int SV} (h : wpF tab env D fn args (fun r' => r' = r)) : Holds P F f args r :=
  fun M w vs hM hargs => (fun_sound ht he hD hf hb hc h hM hargs).mono fun e w' ⟨r', hr, hfin⟩ => by subst hr; exact hfin
end
end Iv
end Go.Proofs.YtfajgibpidlojaaDoor
end

section
/- The verified interpreter, part I: a region that draws its order, run as in the text's order. Conditions: the region's edges are as drawChk asks; what an operation looks at and what another writes is ordered by an edge. -/
set_option linter.unusedVariables false
set_option linter.unusedSimpArgs false
namespace Go.Proofs.YtfajgibpidlojaaDoor
namespace Iv
noncomputable section
open Go Go.RowKit

def objOf : SV → List Nat
  | .ptr i _ => [i]
  | .row i => [i]
  | .rptr i _ => [i]
  | .view i _ _ => [i]
  | .fn _ caps => go caps
  | _ => []
where
  go : List SV → List Nat
    | [] => []
    | c :: cs => ptrOf c ++ go cs
  ptrOf : SV → List Nat
    | .ptr i _ => [i]
    | _ => []
/-- The objects that an operation looks at. -/
def accObj (ev : Operand → SV) : Op → List Nat
  | .load _ a => objOf (ev a)
  | .store _ a _ => objOf (ev a)
  | .indexAddr _ a _ => objOf (ev a)
  | .slice _ a _ _ _ => objOf (ev a)
  | .call c => (match c.callee with | .value g => objOf (ev g) | _ => []) ++ c.args.toList.flatMap fun y => objOf (ev y)
  | _ => []
/-- The objects that an outcome writes. -/
def wrObj : Out → List Nat
  | .put i _ _ => [i]
  | .rput i _ => [i]
  | _ => []
def noFz : Out → Bool
  | .call _ _ fz => fz.isEmpty
  | .app _ _ => false
  | .inl _ _ => false
  | _ => true
/-- The captured values of a function are no functions, no rows. -/
def capsPlain : SV → Bool
  | .fn _ caps => caps.all fun | .fn _ _ => false | .row _ => false | .rptr _ _ => false | .view _ _ _ => false | _ => true
  | _ => true
def callCh (ev : Operand → SV) : Op → Bool
  | .call c => match c.callee with
    | .value g => capsPlain (ev g)
    | _ => true
  | _ => true
def edge (o : Oper) (j : Nat) : Bool := o.after.toList.any fun e => Region.binds .any e && e.on == j
def isOff (offs : List Nat) (o : Oper) : Bool := offs.any (edge o)
def conflOK (o : Oper) (A W : List Nat) (wr ac : List (Nat × Nat)) : Bool :=
  wr.all (fun p => !A.contains p.2 || edge o p.1) && ac.all (fun p => !W.contains p.2 || edge o p.1)
/-- A region that draws, in the text's order. -/
def wpD (tab : Tb) (env : Env) (ops : Array Oper) (Q : St → Prop) (E : Int → Prop) : List Oper → Nat → St → List Nat → List (Nat × Nat) → List (Nat × Nat) → Option Int → Prop
  | [], _, st, _, _, _, none => Q st
  | [], _, _, _, _, _, some e => E e
  | o :: rest, i, st, offs, wr, ac, thr =>
    match isOff offs o with
    | true => wpD tab env ops Q E rest (i + 1) st (i :: offs) wr ac thr
    | false => match wantedSem ops st o with
      | none => False
      | some false => St.norm (fun s => wpD tab env ops Q E rest (i + 1) s offs wr ac thr) (st.put o.dst .undef)
      | some true =>
        match (accObj st.ev o.op).all (· < st.os.length) && conflOK o (accObj st.ev o.op) (wrObj (opV tab st.os st.ev o.op).out) wr ac && noFz (opV tab st.os st.ev o.op).out && callCh st.ev o.op with
        | false => False
        | true => (opV tab st.os st.ev o.op).wp env st o.dst
            (fun st' => if isGate ops o then gated o.dst (fun st'' => normL (fun wr' => normL (fun ac' => wpD tab env ops Q E rest (i + 1) st'' offs wr' ac' thr) ((accObj st.ev o.op).map (i, ·) ++ ac)) ((wrObj (opV tab st.os st.ev o.op).out).map (i, ·) ++ wr)) st'
              else normL (fun wr' => normL (fun ac' => wpD tab env ops Q E rest (i + 1) st' offs wr' ac' thr) ((accObj st.ev o.op).map (i, ·) ++ ac)) ((wrObj (opV tab st.os st.ev o.op).out).map (i, ·) ++ wr))
            (fun e => match thr with
              | none => normL (fun ac' => wpD tab env ops Q E rest (i + 1) st (i :: offs) wr ac' (some e)) ((accObj st.ev o.op).map (i, ·) ++ ac)
              | some _ => False)
theorem wpD_step {tab : Tb} {env : Env} {ops : Array Oper} {Q : St → Prop} {E : Int → Prop} {o : Oper} {rest : List Oper} {i : Nat} {st : St} {offs : List Nat} {wr ac : List (Nat × Nat)} {thr : Option Int}
    : wpD tab env ops Q E (o :: rest) i st offs wr ac thr →
    match isOff offs o with
    | true => wpD tab env ops Q E rest (i + 1) st (i :: offs) wr ac thr
    | false => match wantedSem ops st o with
      | none => False
      | some false => wpD tab env ops Q E rest (i + 1) (st.put o.dst .undef) offs wr ac thr
      | some true =>
        match (accObj st.ev o.op).all (· < st.os.length) && conflOK o (accObj st.ev o.op) (wrObj (opSem tab st.os st.ev o.op)) wr ac && noFz (opSem tab st.os st.ev o.op) && callCh st.ev o.op with
        | false => False
        | true => wpOut env st o.dst
            (fun st' => if isGate ops o then gated o.dst (fun st'' => wpD tab env ops Q E rest (i + 1) st'' offs ((wrObj (opSem tab st.os st.ev o.op)).map (i, ·) ++ wr) ((accObj st.ev o.op).map (i, ·) ++ ac) thr) st'
              else wpD tab env ops Q E rest (i + 1) st' offs ((wrObj (opSem tab st.os st.ev o.op)).map (i, ·) ++ wr) ((accObj st.ev o.op).map (i, ·) ++ ac) thr)
            (fun e => match thr with
              | none => wpD tab env ops Q E rest (i + 1) st (i :: offs) wr ((accObj st.ev o.op).map (i, ·) ++ ac) (some e)
              | some _ => False) (opSem tab st.os st.ev o.op) := by
  intro h
  unfold wpD at h
  simp only [normL_eq] at h
  cases h1 : isOff offs o with
  | true => simp only [h1] at h ⊢; exact h
  | false =>
    simp only [h1] at h ⊢
    cases h2 : wantedSem ops st o with
    | none => simp only [h2] at h
    | some b =>
      cases b with
      | false => simp only [h2] at h ⊢; rw [St.norm_eq] at h; exact h
      | true =>
        simp only [h2] at h ⊢
        split at h
        · exact h.elim
        · rename_i hc
          obtain ⟨e, h'⟩ := OV.wp_sem h
          rw [e] at hc h'
          rw [hc]
          exact h'
/-- The slots that an operation looks at or writes. -/
def slotsOf (ops : Array Oper) (o : Oper) : List Tmp :=
  o.dst.toList ++ (o.op.operands.toList.filterMap fun | .tmp t => some t | _ => none) ++ (match o.guard with | some (g, _) => ((ops[g]?).bind (·.dst)).toList | none => [])
def drawChk (ops : Array Oper) : Bool :=
  (List.range ops.size).all fun i => match ops[i]? with
    | none => false
    | some o => o.after.all (fun e => !Region.binds .any e || e.on < i) &&
      (List.range ops.size).all fun j => match ops[j]? with
        | none => false
        | some p => match p.dst with
          | none => true
          | some d => !(slotsOf ops o).contains d || (j == i) || (if j < i then edge o j else edge p i)
def Env.dry (env : Env) : Env := { env with fresh := fun _ _ => none }
def wpDraw (tab : Tb) (env : Env) (ops : Array Oper) (st : St) (Q : St → Prop) (E : Int → Prop) : Prop :=
  drawChk ops = true ∧ (wpD tab env.dry ops Q E ops.toList 0 st [] [] [] none ∨ wpD tab env.dry ops Q E ops.toList 0 (freeze st) [] [] [] none)

section
variable {P : Program} {tab : Tb} {env : Env} {U : Ctx tab.u tab.app} {F : TypeId} {Mc : Nat → Prop} {w0 : World}

/-! ### What an outcome comes to, once its choices are made -/
def outTo (env : Env) (st : St) (dst : Option Tmp) : Out → Except Int St → Prop
  | .val x, r => r = .ok (st.put dst x)
  | .pick t x y, r => r = .ok (st.put dst (if t then x else y))
  | .new ob x, r => r = .ok ({ st with os := st.os ++ [ob] }.put dst (x st.os.length))
  | .put i off cs, r => ∃ T ds, st.os[i]? = some (.var T ds) ∧ r = .ok ({ st with os := st.os.set i (.var T (setMany ds off cs)) }.put dst .undef)
  | .rput i l', r => ∃ l, st.os[i]? = some (.row l) ∧ r = .ok ({ st with os := st.os.set i (.row l') }.put dst .undef)
  | .lit l, r => r = .ok (st.put dst (.words l))
  | .call f xs _, r => ∃ pre q, env f xs = some (pre, q) ∧ pre ∧ (match q.pick with | .ok x => r = .ok (st.put dst x) | .error e => r = .error e)
  | _, _ => False
theorem out_to (hdry : ∀ f xs, env.fresh f xs = none) {st : St} {dst : Option Tmp} {Q : St → Prop} {E : Int → Prop} {out : Out} (hf : noFz out = true) (h : wpOut env st dst Q E out) :
    ∃ r, outTo env st dst out r ∧ match r with | .ok s => Q s | .error e => E e := by
  cases out with
  | val x => exact ⟨_, rfl, h⟩
  | pick t x y => cases t <;> exact ⟨_, rfl, h⟩
  | new ob x => exact ⟨_, rfl, h⟩
  | put i off cs =>
    simp only [wpOut] at h
    split at h
    · rename_i T ds hos; exact ⟨_, ⟨T, ds, hos, rfl⟩, h⟩
    · exact h.elim
  | rput i l' =>
    simp only [wpOut] at h
    split at h
    · rename_i l hos; exact ⟨_, ⟨l, hos, rfl⟩, h⟩
    · exact h.elim
  | app i l => simp [noFz] at hf
  | lit l => exact ⟨_, rfl, h⟩
  | inl f xs => simp [noFz] at hf
  | call f xs fz =>
    simp only [wpOut] at h
    simp only [noFz, List.isEmpty_iff] at hf
    subst hf
    split at h
    · rename_i pre q he
      obtain ⟨hp, hr⟩ := h
      have hk := wpRes_pick hr
      cases hq : q.pick with
      | ok x => rw [hq] at hk; exact ⟨.ok (st.put dst x), ⟨pre, q, he, hp, by rw [hq]⟩, by simpa using hk⟩
      | error e => rw [hq] at hk; exact ⟨.error e, ⟨pre, q, he, hp, by rw [hq]⟩, hk⟩
    · rw [hdry] at h; exact h.elim
  | none => exact h.elim

/-! ### The text's run as two functions -/
def OJ (ops : Array Oper) (j : Nat) : Oper := (ops[j]?).getD default
def isErr : Option (Except Int St) → Prop
  | some (.ok _) => False
  | _ => True
def nextS (s : St) : Option (Except Int St) → St
  | some (.ok s') => s'
  | _ => s
/-- The operation j is run (not passed over). -/
def Ran (ops : Array Oper) (S : Nat → St) (R : Nat → Option (Except Int St)) (j : Nat) : Prop := R j ≠ none ∧ wantedSem ops (S j) (OJ ops j) = some true
def Aj (ops : Array Oper) (S : Nat → St) (j : Nat) : List Nat := accObj (S j).ev (OJ ops j).op
def Wj (tab : Tb) (ops : Array Oper) (S : Nat → St) (j : Nat) : List Nat := wrObj (opSem tab (S j).os (S j).ev (OJ ops j).op)
structure TrOK (tab : Tb) (env : Env) (ops : Array Oper) (Q : St → Prop) (E : Int → Prop) (S : Nat → St) (R : Nat → Option (Except Int St)) (i0 n : Nat) (offs : List Nat) (wr ac : List (Nat × Nat)) (thr : Option Int) : Prop where
  off : ∀ j, i0 ≤ j → j < n → R j = none → ∃ k, (k ∈ offs ∨ (i0 ≤ k ∧ k < j ∧ isErr (R k))) ∧ edge (OJ ops j) k = true
  go : ∀ j, i0 ≤ j → j < n → ∀ r, R j = some r → (wantedSem ops (S j) (OJ ops j) = some false ∧ r = .ok ((S j).put (OJ ops j).dst .undef)) ∨
    (wantedSem ops (S j) (OJ ops j) = some true ∧ outTo env (S j) (OJ ops j).dst (opSem tab (S j).os (S j).ev (OJ ops j).op) r ∧ (∀ k ∈ Aj ops S j, k < (S j).os.length) ∧ noFz (opSem tab (S j).os (S j).ev (OJ ops j).op) = true ∧ callCh (S j).ev (OJ ops j).op = true)
  wr : ∀ j, i0 ≤ j → j < n → Ran ops S R j → ∀ p ∈ wr, p.2 ∈ Aj ops S j → edge (OJ ops j) p.1 = true
  ac : ∀ j, i0 ≤ j → j < n → Ran ops S R j → ∀ p ∈ ac, p.2 ∈ Wj tab ops S j → edge (OJ ops j) p.1 = true
  wr2 : ∀ j q, i0 ≤ q → q < j → j < n → Ran ops S R j → Ran ops S R q → ∀ k ∈ Wj tab ops S q, k ∈ Aj ops S j → edge (OJ ops j) q = true
  ac2 : ∀ j q, i0 ≤ q → q < j → j < n → Ran ops S R j → Ran ops S R q → ∀ k ∈ Aj ops S q, k ∈ Wj tab ops S j → edge (OJ ops j) q = true
  next : ∀ j, i0 ≤ j → j < n → S (j + 1) = nextS (S j) (R j)
  err : ∀ j, i0 ≤ j → j < n → ∀ e, R j = some (.error e) → E e
  fin : thr = none → (∀ j, i0 ≤ j → j < n → ¬ isErr (R j)) → Q (S n)

theorem Wj_sub_Aj (st : St) (o : Op) : ∀ k ∈ wrObj (opSem tab st.os st.ev o), k ∈ accObj st.ev o := by
  intro k hk
  cases o <;> try (simp [opSem, wrObj] at hk; done)
  case store T a x =>
    simp only [opSem] at hk
    split at hk
    · rename_i i off ti he ht
      split at hk
      · split at hk
        · simp [wrObj] at hk; subst hk; simp [accObj, objOf, he]
        · simp [wrObj] at hk
      · simp [wrObj] at hk
    · rename_i i j ti he ht
      split at hk
      · split at hk
        · simp [wrObj] at hk; subst hk; simp [accObj, objOf, he]
        · simp [wrObj] at hk
      · simp [wrObj] at hk
    · simp [wrObj] at hk
  case call c =>
    simp only [opSem] at hk
    repeat' (first | (simp [wrObj] at hk; done) | split at hk)
    rename_i xx yy hargs _ _ _ _ hx _ _ _ _ _
    simp only [wrObj, List.mem_singleton] at hk
    subst hk
    simp only [accObj, List.mem_append, List.mem_flatMap]
    right
    exact ⟨xx, by rw [hargs]; simp, by rw [hx]; simp [objOf]⟩
  case makeFunc fn first caps => cases fn <;> simp only [opSem] at hk <;> repeat' (first | (simp [wrObj] at hk; done) | split at hk)
  all_goals
    simp only [opSem] at hk
    repeat' (first | (simp [wrObj] at hk; done) | split at hk)

theorem wpD_err (hdry : ∀ f xs, env.fresh f xs = none) {ops : Array Oper} {Q : St → Prop} {E : Int → Prop} {e : Int} : ∀ (rest : List Oper) (i : Nat) (st : St) (offs : List Nat) (wr ac : List (Nat × Nat)), wpD tab env ops Q E rest i st offs wr ac (some e) → E e
  | [], i, st, offs, wr, ac, h => h
  | o :: rest, i, st, offs, wr, ac, h => by
    replace h := wpD_step h
    split at h
    · exact wpD_err hdry rest _ _ _ _ _ h
    · split at h
      · exact h.elim
      · exact wpD_err hdry rest _ _ _ _ _ h
      · split at h
        · exact h.elim
        · rename_i hc
          simp only [Bool.and_eq_true] at hc
          obtain ⟨r, _, hr⟩ := out_to hdry hc.1.2 h
          cases r with
          | ok s =>
            simp only at hr
            split at hr
            · exact wpD_err hdry rest _ _ _ _ _ (gated_sound hr)
            · exact wpD_err hdry rest _ _ _ _ _ hr
          | error e' => exact hr.elim

theorem trace (hdry : ∀ f xs, env.fresh f xs = none) {ops : Array Oper} {Q : St → Prop} {E : Int → Prop} : ∀ (rest : List Oper) (i : Nat) (st : St) (offs : List Nat) (wr ac : List (Nat × Nat)) (thr : Option Int), rest = ops.toList.drop i → i ≤ ops.size →
    wpD tab env ops Q E rest i st offs wr ac thr → ∃ S R, S i = st ∧ TrOK tab env ops Q E S R i ops.size offs wr ac thr
  | [], i, st, offs, wr, ac, thr, hr, hi, h => by
    have hn : ops.size ≤ i := by
      have := congrArg List.length hr
      simp at this
      omega
    have hii : i = ops.size := by omega
    subst hii
    refine ⟨fun _ => st, fun _ => none, rfl, ⟨fun j a b => by omega, fun j a b => by omega, fun j a b => by omega, fun j a b => by omega, fun j q a b c => by omega, fun j q a b c => by omega, fun j a b => by omega, fun j a b => by omega, fun ht _ => ?_⟩⟩
    subst ht
    exact h
  | o :: rest, i, st, offs, wr, ac, thr, hr, hi, h => by
    have hlt : i < ops.size := by
      have := congrArg List.length hr
      simp at this
      omega
    have hoi : ops[i]? = some o := by
      have := congrArg (·[0]?) hr
      simp at this
      exact this.symm
    have hO : OJ ops i = o := by simp [OJ, hoi]
    have hrest : rest = ops.toList.drop (i + 1) := by
      have := congrArg List.tail hr
      simpa [List.tail_drop] using this
    -- how the two functions are put together
    have put_ : ∀ (r0 : Option (Except Int St)) (offs' : List Nat) (wr' ac' : List (Nat × Nat)) (thr' : Option Int) (S' : Nat → St) (R' : Nat → Option (Except Int St)),
        S' (i + 1) = nextS st r0 → TrOK tab env ops Q E S' R' (i + 1) ops.size offs' wr' ac' thr' →
        (∀ k ∈ offs', k ∈ offs ∨ (k = i ∧ isErr r0)) → (∀ p ∈ wr, p ∈ wr') → (∀ p ∈ ac, p ∈ ac') →
        (r0 ≠ none → wantedSem ops st o = some true → (∀ k ∈ wrObj (opSem tab st.os st.ev o.op), (i, k) ∈ wr') ∧ (∀ k ∈ accObj st.ev o.op, (i, k) ∈ ac')) →
        (r0 = none → ∃ k ∈ offs, edge o k = true) →
        (∀ r, r0 = some r → (wantedSem ops st o = some false ∧ r = .ok (st.put o.dst .undef)) ∨ (wantedSem ops st o = some true ∧ outTo env st o.dst (opSem tab st.os st.ev o.op) r ∧ (∀ k ∈ accObj st.ev o.op, k < st.os.length) ∧ noFz (opSem tab st.os st.ev o.op) = true ∧ callCh st.ev o.op = true)) →
        (r0 ≠ none → wantedSem ops st o = some true → (∀ p ∈ wr, p.2 ∈ accObj st.ev o.op → edge o p.1 = true) ∧ (∀ p ∈ ac, p.2 ∈ wrObj (opSem tab st.os st.ev o.op) → edge o p.1 = true)) →
        (∀ e, r0 = some (.error e) → E e) → (¬ isErr r0 → thr = none → thr' = none) →
        ∃ S R, S i = st ∧ TrOK tab env ops Q E S R i ops.size offs wr ac thr := by
      intro r0 offs' wr' ac' thr' S' R' hS' T hoffs hwr hac hnew hoff0 hgo0 hcf0 herr0 hthr
      let S : Nat → St := fun j => if j ≤ i then st else S' j
      let R : Nat → Option (Except Int St) := fun j => if j = i then r0 else R' j
      have S_i : S i = st := by simp [S]
      have S_gt : ∀ j, i < j → S j = S' j := fun j hj => by simp only [S]; rw [if_neg (by omega)]
      have R_i : R i = r0 := by simp [R]
      have R_gt : ∀ j, i < j → R j = R' j := fun j hj => by simp only [R]; rw [if_neg (by omega)]
      have ran_i : Ran ops S R i ↔ (r0 ≠ none ∧ wantedSem ops st o = some true) := by simp only [Ran, R_i, S_i, hO]
      have ran_gt : ∀ j, i < j → (Ran ops S R j ↔ Ran ops S' R' j) := fun j hj => by simp only [Ran, R_gt j hj, S_gt j hj]
      have A_i : Aj ops S i = accObj st.ev o.op := by simp only [Aj, S_i, hO]
      have W_i : Wj tab ops S i = wrObj (opSem tab st.os st.ev o.op) := by simp only [Wj, S_i, hO]
      have A_gt : ∀ j, i < j → Aj ops S j = Aj ops S' j := fun j hj => by simp only [Aj, S_gt j hj]
      have W_gt : ∀ j, i < j → Wj tab ops S j = Wj tab ops S' j := fun j hj => by simp only [Wj, S_gt j hj]
      refine ⟨S, R, S_i, ?_⟩
      refine ⟨fun j a b hj => ?_, fun j a b r hj => ?_, fun j a b hj p hp hk => ?_, fun j a b hj p hp hk => ?_, fun j q a b c hj hq k h1 h2 => ?_, fun j q a b c hj hq k h1 h2 => ?_, fun j a b => ?_, fun j a b e hj => ?_, fun ht hne => ?_⟩
      · by_cases e : j = i
        · subst e
          rw [R_i] at hj
          obtain ⟨k, hk, hek⟩ := hoff0 hj
          exact ⟨k, .inl hk, by rw [hO]; exact hek⟩
        · rw [R_gt j (by omega)] at hj
          obtain ⟨k, hk, hek⟩ := T.off j (by omega) b hj
          refine ⟨k, ?_, hek⟩
          rcases hk with hk | ⟨h1, h2, h3⟩
          · rcases hoffs k hk with hk | ⟨rfl, hk⟩
            · exact .inl hk
            · exact .inr ⟨Nat.le_refl _, by omega, by rw [R_i]; exact hk⟩
          · exact .inr ⟨by omega, h2, by rw [R_gt k (by omega)]; exact h3⟩
      · by_cases e : j = i
        · subst e
          rw [R_i] at hj
          rw [S_i, A_i, hO]
          exact hgo0 r hj
        · rw [R_gt j (by omega)] at hj
          rw [S_gt j (by omega), A_gt j (by omega)]
          exact T.go j (by omega) b r hj
      · by_cases e : j = i
        · subst e
          rw [A_i] at hk
          obtain ⟨h1, h2⟩ := ran_i.1 hj
          rw [hO]
          exact (hcf0 h1 h2).1 p hp hk
        · rw [A_gt j (by omega)] at hk
          exact T.wr j (by omega) b ((ran_gt j (by omega)).1 hj) p (hwr p hp) hk
      · by_cases e : j = i
        · subst e
          rw [W_i] at hk
          obtain ⟨h1, h2⟩ := ran_i.1 hj
          rw [hO]
          exact (hcf0 h1 h2).2 p hp hk
        · rw [W_gt j (by omega)] at hk
          exact T.ac j (by omega) b ((ran_gt j (by omega)).1 hj) p (hac p hp) hk
      · by_cases e : q = i
        · subst e
          rw [W_i] at h1
          rw [A_gt j (by omega)] at h2
          obtain ⟨g1, g2⟩ := ran_i.1 hq
          exact T.wr j (by omega) c ((ran_gt j (by omega)).1 hj) (q, k) ((hnew g1 g2).1 k h1) h2
        · rw [W_gt q (by omega)] at h1
          rw [A_gt j (by omega)] at h2
          exact T.wr2 j q (by omega) b c ((ran_gt j (by omega)).1 hj) ((ran_gt q (by omega)).1 hq) k h1 h2
      · by_cases e : q = i
        · subst e
          rw [A_i] at h1
          rw [W_gt j (by omega)] at h2
          obtain ⟨g1, g2⟩ := ran_i.1 hq
          exact T.ac j (by omega) c ((ran_gt j (by omega)).1 hj) (q, k) ((hnew g1 g2).2 k h1) h2
        · rw [A_gt q (by omega)] at h1
          rw [W_gt j (by omega)] at h2
          exact T.ac2 j q (by omega) b c ((ran_gt j (by omega)).1 hj) ((ran_gt q (by omega)).1 hq) k h1 h2
      · by_cases e : j = i
        · subst e
          rw [S_gt _ (by omega), S_i, R_i]
          exact hS'
        · rw [S_gt _ (by omega), S_gt _ (by omega), R_gt _ (by omega)]
          exact T.next j (by omega) b
      · by_cases e' : j = i
        · subst e'
          rw [R_i] at hj
          exact herr0 e hj
        · rw [R_gt j (by omega)] at hj
          exact T.err j (by omega) b e hj
      · have h0 := hne i (Nat.le_refl _) hlt
        rw [R_i] at h0
        rw [S_gt _ hlt]
        exact T.fin (hthr h0 ht) (fun j a b => by have := hne j (by omega) b; rwa [R_gt j (by omega)] at this)
    replace h := wpD_step h
    split at h
    · rename_i hoff
      obtain ⟨S', R', hS', T⟩ := trace hdry rest (i + 1) st (i :: offs) wr ac thr hrest (by omega) h
      refine put_ none (i :: offs) wr ac thr S' R' (by simpa [nextS] using hS') T ?_ (fun p hp => hp) (fun p hp => hp) (fun h => absurd rfl h) ?_ (fun r hr => by cases hr) (fun h => absurd rfl h) (fun e he => by cases he) (fun h => absurd trivial h)
      · intro k hk
        rcases List.mem_cons.1 hk with rfl | hk
        · exact .inr ⟨rfl, trivial⟩
        · exact .inl hk
      · intro _
        simpa [isOff] using hoff
    · rename_i hoff
      split at h
      · exact h.elim
      · rename_i hw
        obtain ⟨S', R', hS', T⟩ := trace hdry rest (i + 1) _ offs wr ac thr hrest (by omega) h
        refine put_ (some (.ok (st.put o.dst .undef))) offs wr ac thr S' R' (by simpa [nextS] using hS') T (fun k hk => .inl hk) (fun p hp => hp) (fun p hp => hp) (fun _ h => by rw [hw] at h; cases h) (fun h => by cases h) (fun r hr => by cases hr; exact .inl ⟨hw, rfl⟩) (fun _ h => by rw [hw] at h; cases h) (fun e he => by cases he) (fun _ h => h)
      · rename_i hw
        split at h
        · exact h.elim
        · rename_i hc
          simp only [Bool.and_eq_true, List.all_eq_true, decide_eq_true_eq] at hc
          obtain ⟨⟨⟨hA, hcf⟩, hfz⟩, hcc⟩ := hc
          have hcf' : (∀ p ∈ wr, p.2 ∈ accObj st.ev o.op → edge o p.1 = true) ∧ (∀ p ∈ ac, p.2 ∈ wrObj (opSem tab st.os st.ev o.op) → edge o p.1 = true) := by
            simp only [conflOK, Bool.and_eq_true, List.all_eq_true] at hcf
            refine ⟨fun p hp hk => ?_, fun p hp hk => ?_⟩
            · have := hcf.1 p hp
              simpa [hk] using this
            · have := hcf.2 p hp
              simpa [hk] using this
          obtain ⟨r, hr1, hr2⟩ := out_to hdry hfz h
          cases r with
          | ok s =>
            have hs : wpD tab env ops Q E rest (i + 1) s offs ((wrObj (opSem tab st.os st.ev o.op)).map (i, ·) ++ wr) ((accObj st.ev o.op).map (i, ·) ++ ac) thr := by
              simp only at hr2
              split at hr2
              · exact gated_sound hr2
              · exact hr2
            obtain ⟨S', R', hS', T⟩ := trace hdry rest (i + 1) _ _ _ _ _ hrest (by omega) hs
            refine put_ (some (.ok s)) _ _ _ thr S' R' (by simpa [nextS] using hS') T (fun k hk => .inl hk) (fun p hp => by simp [hp]) (fun p hp => by simp [hp]) (fun _ _ => ⟨fun k hk => by simp [hk], fun k hk => by simp [hk]⟩) (fun h => by cases h) (fun r hr => by cases hr; exact .inr ⟨hw, hr1, hA, hfz, hcc⟩) (fun _ _ => hcf') (fun e he => by cases he) (fun _ h => h)
          | error e =>
            simp only at hr2
            cases thr with
            | some _ => exact hr2.elim
            | none =>
              simp only at hr2
              have hE := wpD_err hdry _ _ _ _ _ _ hr2
              obtain ⟨S', R', hS', T⟩ := trace hdry rest (i + 1) _ _ _ _ _ hrest (by omega) hr2
              refine put_ (some (.error e)) _ _ _ _ S' R' (by simpa [nextS] using hS') T ?_ (fun p hp => hp) (fun p hp => by simp [hp]) (fun _ _ => ⟨fun k hk => ?_, fun k hk => by simp [hk]⟩) (fun h => by cases h) (fun r hr => by cases hr; exact .inr ⟨hw, hr1, hA, hfz, hcc⟩) (fun _ _ => hcf') (fun e' he => by cases he; exact hE) (fun h => absurd trivial h)
              · intro k hk
                rcases List.mem_cons.1 hk with rfl | hk
                · exact .inr ⟨rfl, trivial⟩
                · exact .inl hk
              · cases hop : opSem tab st.os st.ev o.op <;> rw [hop] at hk hr1 <;> simp [wrObj] at hk
                all_goals (simp only [outTo] at hr1; first | (obtain ⟨_, _, _, h3⟩ := hr1; cases h3; done) | (obtain ⟨_, _, h3⟩ := hr1; cases h3; done))
end
end
end Iv
end Go.Proofs.YtfajgibpidlojaaDoor
end
