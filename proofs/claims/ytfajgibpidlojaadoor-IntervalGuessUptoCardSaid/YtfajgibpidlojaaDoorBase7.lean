/-
  Contracts of functions that a law reaches, and what they rest on, part 7. Each part says its own conditions.
-/
import Derived.Tactics
import Derived.Tactics2
import Derived.Defers
import Derived.Recover
import Derived.Test.YtfajgibpidlojaaDoorBase6

section
/- Contracts of the reference's rational numbers, part F: Of. Conditions: the lists are words and not too long. -/
set_option linter.unusedVariables false
set_option linter.unusedSimpArgs false
set_option maxHeartbeats 4000000
set_option maxRecDepth 8000
namespace Go.Proofs.YtfajgibpidlojaaDoor
namespace Iv
open Go Go.Proofs

theorem nb_val32 {l : List Nat} (h : ∀ x ∈ l, x < B32) : nb (val B32 l) ≤ 32 * l.length := by
  refine nb_le.2 ?_
  have := val_lt (B := B32) (by decide) h
  rw [Nat.pow_mul]
  exact this
theorem X.nb_n (x : X) (h : x.ok) : nb x.n ≤ 67108864 ∧ nb (val B32 x.den) ≤ 67108864 ∧ nb x.d ≤ 67108864 := by
  have a := nb_val32 h.num
  have b := nb_val32 h.den
  have c := h.nl
  have d := h.dl
  refine ⟨by unfold X.n; omega, by omega, ?_⟩
  unfold X.d
  split
  · rw [nb_one]; omega
  · omega
noncomputable def envOfQ (F : TypeId) : Env := envOf [wordsC F, natofC F, makeC F]
theorem envOfQ_ok (F : TypeId) : EnvOK Tryd.prog F tbX (envOfQ F) := envOf_ok _
theorem rof_wp (F : TypeId) (x : X) (hx : x.ok) (K : Except Int SV → Prop) (hK : ∀ r, SubE r (.ok (sR (tF x.q))) → K r) :
    wpF tbX (envOfQ F) (wpDraw tbX (envOfQ F)) Tryd.f74 [x.sv] K := by
  obtain ⟨n1, n2, n3⟩ := x.nb_n hx
  have h30 := c30
  have z := L16_zero (a := val B32 x.den)
  unfold L16 at z
  refine And.intro ⟨hx.den, by have := hx.dl; (try dsimp only); omega⟩ ?_
  refine ifB_mk (fun h => ?_) (fun h => ?_)
  · have h0 : val B32 x.den = 0 := by
      have : (((dig16 (val B32 x.den)).length : Int) == 0) = true := h
      rw [beq_iff_eq] at this
      omega
    refine And.intro ⟨by decide, by decide⟩ ?_
    refine And.intro (by kernel_rfl) (Or.inl ?_)
    refine And.intro ⟨hx.num, by have := hx.nl; (try dsimp only); omega⟩ ?_
    refine And.intro ⟨by show 0 < (1 : Int).toNat; decide, by show nb x.n ≤ _; omega, by show nb 1 ≤ _; rw [nb_one]; omega⟩ ?_
    show K (.ok (sR (tF (rv x.neg x.n 1))))
    have : x.d = 1 := by unfold X.d; rw [if_pos h0]
    rw [← this]
    exact hK _ ⟨rfl, Sub.refl _⟩
  · have h0 : ¬ val B32 x.den = 0 := by
      have : (((dig16 (val B32 x.den)).length : Int) == 0) = false := h
      rw [beq_eq_false_iff_ne] at this
      omega
    refine And.intro (by kernel_rfl) (Or.inl ?_)
    refine And.intro ⟨hx.num, by have := hx.nl; (try dsimp only); omega⟩ ?_
    refine And.intro ⟨by show 0 < val B32 x.den; omega, by show nb x.n ≤ _; omega, by show nb (val B32 x.den) ≤ _; omega⟩ ?_
    show K (.ok (sR (tF (rv x.neg x.n (val B32 x.den)))))
    have : x.d = val B32 x.den := by unfold X.d; rw [if_neg h0]
    rw [← this]
    exact hK _ ⟨rfl, Sub.refl _⟩
theorem rof_holds (F : TypeId) (x : X) (h : x.ok) : Holds Tryd.prog F 74 [x.sv] (.ok (sR (tF x.q))) :=
  holds_run mixed tbX_ok (envOfQ_ok F) Tryd.func74 rfl (by kernel_rfl) (args := [x.sv]) (rof_wp F x h _ fun _ hr => hr) (fun _ _ _ _ _ h => h)
def rofC (F : TypeId) : Con Tryd.prog F :=
  mkCon 74 (enters_of Tryd.func74 (by kernel_rfl) rfl) decX (fun x => [x.sv]) X.ok (fun x => sR (tF x.q)) decX_sub (rof_holds F)
end Iv
end Go.Proofs.YtfajgibpidlojaaDoor
end

section
/- Contracts of the reference's rational numbers, part G: Large. Conditions: the lists are words and not too long. -/
set_option linter.unusedVariables false
set_option linter.unusedSimpArgs false
set_option maxHeartbeats 4000000
set_option maxRecDepth 8000
namespace Go.Proofs.YtfajgibpidlojaaDoor
namespace Iv
open Go Go.Proofs

def large (x : X) : Bool := decide (512 < L16 x.n) || decide (512 < L16 (val B32 x.den)) || over (tF x.q)
noncomputable def envLg (F : TypeId) : Env := envOf [wordsC F, rofC F, overC F]
theorem envLg_ok (F : TypeId) : EnvOK Tryd.prog F tbX (envLg F) := envOf_ok _
theorem large_wp (F : TypeId) (x : X) (hx : x.ok) (K : Except Int SV → Prop) (hK : ∀ r, SubE r (.ok (.bool (large x))) → K r) :
    wpF tbX (envLg F) (wpDraw tbX (envLg F)) Tryd.f72 [x.sv] K := by
  have h30 := c30
  refine And.intro ⟨hx.num, by have := hx.nl; (try dsimp only); omega⟩ ?_
  refine ifB_mk (fun h => ?_) (fun h => ?_)
  · have h1 : 512 < L16 x.n := by
      have : ((dig16 (val B32 x.num)).length : Int) > 512 := of_decide_eq_true h
      unfold L16 X.n
      omega
    show K (.ok (.bool true))
    refine hK _ ?_
    unfold large
    rw [decide_eq_true h1, Bool.true_or, Bool.true_or]
    exact ⟨rfl, Sub.refl _⟩
  · have h1 : ¬ 512 < L16 x.n := by
      have : ¬ ((dig16 (val B32 x.num)).length : Int) > 512 := of_decide_eq_false h
      unfold L16 X.n
      omega
    refine And.intro ⟨hx.den, by have := hx.dl; (try dsimp only); omega⟩ ?_
    refine ifB_mk (fun h2 => ?_) (fun h2 => ?_)
    · have h3 : 512 < L16 (val B32 x.den) := by
        have : ((dig16 (val B32 x.den)).length : Int) > 512 := of_decide_eq_true h2
        unfold L16
        omega
      show K (.ok (.bool true))
      refine hK _ ?_
      unfold large
      rw [decide_eq_true h3, Bool.or_true, Bool.true_or]
      exact ⟨rfl, Sub.refl _⟩
    · have h3 : ¬ 512 < L16 (val B32 x.den) := by
        have : ¬ ((dig16 (val B32 x.den)).length : Int) > 512 := of_decide_eq_false h2
        unfold L16
        omega
      refine And.intro hx ?_
      refine And.intro trivial ?_
      show K (.ok (.bool (over (tF x.q))))
      refine hK _ ?_
      unfold large
      rw [decide_eq_false h1, decide_eq_false h3, Bool.false_or, Bool.false_or]
      exact ⟨rfl, Sub.refl _⟩
theorem large_holds (F : TypeId) (x : X) (h : x.ok) : Holds Tryd.prog F 72 [x.sv] (.ok (.bool (large x))) :=
  holds_run mixed tbX_ok (envLg_ok F) Tryd.func72 rfl (by kernel_rfl) (args := [x.sv]) (large_wp F x h _ fun _ hr => hr) (fun _ _ _ _ _ h => h)
def largeC (F : TypeId) : Con Tryd.prog F :=
  mkCon 72 (enters_of Tryd.func72 (by kernel_rfl) rfl) decX (fun x => [x.sv]) X.ok (fun x => .bool (large x)) decX_sub (large_holds F)
end Iv
end Go.Proofs.YtfajgibpidlojaaDoor
end

section
/- Contracts whose answer parts on a condition; answers with an error code. No condition. -/
set_option linter.unusedVariables false
set_option linter.unusedSimpArgs false
namespace Go.Proofs.YtfajgibpidlojaaDoor
namespace Iv
open Go Go.Proofs

section
variable {P : Program} {F : TypeId}
def specR {α : Type} (dec : List SV → Option α) (pre : α → Prop) (res : α → Res) (xs : List SV) : Option (Prop × Res) :=
  match dec xs with
  | some a => some (pre a, res a)
  | none => none
def mkConR {α : Type} (f : FuncId) (ent : Enters P f) (dec : List SV → Option α) (args : α → List SV) (pre : α → Prop) (res : α → Res) (hd : ∀ xs a, dec xs = some a → SubL xs (args a))
    (h : ∀ a, pre a → Holds P F f (args a) (res a).pick) : Con P F where
  f := f
  spec := specR dec pre res
  ent := ent
  ok := fun xs p r hs hp => by
    unfold specR at hs
    split at hs
    · rename_i a ha
      simp only [Option.some.injEq, Prod.mk.injEq] at hs
      obtain ⟨rfl, rfl⟩ := hs
      have hh := h a hp
      have hsub := hd xs a ha
      exact fun M w vs hM hargs => hh M w vs hM (hsub _ _ _ _ _ hargs)
    · cases hs
theorem pick_pos {c : Prop} {a b : Res} (h : c) : (Res.ite c a b).pick = a.pick := if_pos h
theorem pick_neg {c : Prop} {a b : Res} (h : ¬ c) : (Res.ite c a b).pick = b.pick := if_neg h
theorem pick_ok {x : SV} : (Res.ok x).pick = .ok x := rfl
theorem pick_err {e : Int} : (Res.err e).pick = .error e := rfl
end
/-- An answer with an error code. -/
def errOf {α : Type} : Except Int α → Int
  | .error e => e
  | .ok _ => 0
def okOf {α : Type} (d : α) : Except Int α → α
  | .error _ => d
  | .ok z => z
def tOut {α : Type} (sv : α → SV) (zero : α) : Except Int α → SV
  | .ok z => .tup [sv z, .int .i64 0]
  | .error k => .tup [sv zero, .int .i64 k]
def hasErr {α : Type} (r : Except Int α) : Prop := ∃ e, r = .error e
def tRes {α : Type} (sv : α → SV) (zero : α) (r : Except Int α) : Res :=
  .ite (hasErr r) (.ok (.tup [sv zero, .int .i64 (errOf r)])) (.ok (.tup [sv (okOf zero r), .int .i64 0]))
theorem tRes_pick {α : Type} {sv : α → SV} {zero : α} {r : Except Int α} : (tRes sv zero r).pick = .ok (tOut sv zero r) := by
  cases r with
  | error e => exact pick_pos ⟨e, rfl⟩
  | ok z => exact pick_neg (fun ⟨e, h⟩ => by cases h)
theorem tOut_err {α : Type} {sv : α → SV} {zero : α} {r : Except Int α} (h : hasErr r) : tOut sv zero r = .tup [sv zero, .int .i64 (errOf r)] := by
  obtain ⟨e, rfl⟩ := h
  rfl
theorem tOut_ok {α : Type} {sv : α → SV} {zero : α} {r : Except Int α} (h : ¬ hasErr r) : tOut sv zero r = .tup [sv (okOf zero r), .int .i64 0] := by
  cases r with
  | error e => exact absurd ⟨e, rfl⟩ h
  | ok z => rfl
theorem not_hasErr {α : Type} {r : Except Int α} (h : ¬ hasErr r) : ∃ z, r = .ok z := by
  cases r with
  | error e => exact absurd ⟨e, rfl⟩ h
  | ok z => exact ⟨z, rfl⟩
/-- Answers of a function that may fail. -/
def fRes {α : Type} (sv : α → SV) (zero : α) (r : Except Int α) : Res := .ite (hasErr r) (.err (errOf r)) (.ok (sv (okOf zero r)))
theorem fRes_pick {α : Type} {sv : α → SV} {zero : α} {r : Except Int α} : (fRes sv zero r).pick = r.map sv := by
  cases r with
  | error e => exact pick_pos ⟨e, rfl⟩
  | ok z => exact pick_neg (fun ⟨e, h⟩ => by cases h)
end Iv
end Go.Proofs.YtfajgibpidlojaaDoor
end

section
/- Sets as pairs of ends, with what the operations do to them; their canonical form. No condition. -/
set_option linter.unusedVariables false
set_option linter.unusedSimpArgs false
namespace Go.Proofs.YtfajgibpidlojaaDoor
namespace Iv
open Go Go.Proofs

/-- A set: none is the empty one; an end none is infinite. -/
abbrev Ab := Option (Option Rat × Option Rat)
def leR (x y : Rat) : Rat := if cmpR y x < 0 then y else x
def grR (x y : Rat) : Rat := if cmpR y x > 0 then y else x
/-- Both ends, where one that is not there makes the result not there. -/
def l2 (f : Rat → Rat → Rat) : Option Rat → Option Rat → Option Rat
  | some x, some y => some (f x y)
  | _, _ => none
/-- The ends of what two sets have in common. -/
def m2 (f : Rat → Rat → Rat) : Option Rat → Option Rat → Option Rat
  | some x, some y => some (f x y)
  | none, y => y
  | x, none => x
def Ab.sp (l h : Option Rat) : Ab := match l, h with
  | some x, some y => if cmpR x y > 0 then none else some (l, h)
  | _, _ => some (l, h)
def Ab.meet : Ab → Ab → Ab
  | some (a, b), some (c, d) => Ab.sp (m2 grR a c) (m2 leR b d)
  | _, _ => none
def Ab.join : Ab → Ab → Ab
  | none, t => t
  | s, none => s
  | some (a, b), some (c, d) => some (l2 leR a c, l2 grR b d)
def Ab.neg : Ab → Ab
  | some (a, b) => some (b.map (- ·), a.map (- ·))
  | none => none
def Ab.sum : Ab → Ab → Ab
  | some (a, b), some (c, d) => some (l2 (· + ·) a c, l2 (· + ·) b d)
  | _, _ => none
def Ab.hull (p : Nat) : Ab → Ab
  | some (a, b) => some (a.map (gridR false p), b.map (gridR true p))
  | none => none
/-- The set of all least numbers of a pair. -/
def Ab.low : Ab → Ab → Ab
  | some (a, b), some (c, d) => some (l2 leR a c, m2 leR b d)
  | _, _ => none
def fitR (q : Rat) : Bool := fit (nN q) q.den
def Ab.fits : Ab → Bool
  | some (a, b) => a.all fitR && b.all fitR
  | none => true
/-- The signs of the ends. -/
def sgL (a : Option Rat) : Int := match a with | some x => sgR x | none => -1
def sgH (a : Option Rat) : Int := match a with | some x => sgR x | none => 1
def Ab.abs : Ab → Ab
  | some (a, b) => if sgL a ≥ 0 then some (a, b) else if sgH b ≤ 0 then Ab.neg (some (a, b)) else some (some 0, l2 grR (a.map (- ·)) b)
  | none => none
def Ab.sign : Ab → Int
  | none => 4
  | some (a, b) => if sgL a > 0 then 2 else if sgH b < 0 then -2 else if sgL a = 0 ∧ sgH b = 0 then 0 else if sgL a = 0 then 1 else if sgH b = 0 then -1 else 3
def Ab.fin : Ab → Bool
  | some (a, b) => a.isSome && b.isSome
  | none => true
/-- Is the first set a part of the second one? -/
def Ab.sub : Ab → Ab → Bool
  | none, _ => true
  | some _, none => false
  | some (a, b), some (c, d) => (match c, a with | none, _ => true | some y, some x => decide (cmpR x y ≥ 0) | some _, none => false) && (match d, b with | none, _ => true | some y, some x => decide (cmpR x y ≤ 0) | some _, none => false)
def Ab.has (s : Ab) (x : Rat) : Bool := (Ab.meet s (some (some x, some x))).isSome
/-- The canonical value of a number, and of a set. -/
def cT (q : Rat) : Tr := (nB q, nN q, if q.den = 1 then 0 else q.den)
def zT : Option Rat → Tr
  | some q => cT q
  | none => t0
def cz : Ab → Z
  | some (a, b) => ⟨zT a, zT b, a.isNone, b.isNone⟩
  | none => ⟨cT 1, t0, false, false⟩
/-- What an operation comes to: a canonical interval, or an error. -/
def outA (A : Ab) : Except Int Z := if A.fits = true then .ok (cz A) else .error 1
/-- An answer of intervals. -/
abbrev sOut : Except Int Z → SV := tOut Z.sv z0
theorem cT_one : cT 1 = (false, 1, 0) := by decide
theorem cT_zero : cT 0 = t0 := by decide
theorem bd_fit {q : Rat} (h : fitR q = true) : Bd 2048 q := by
  unfold fitR fit at h
  simp only [decide_eq_true_eq] at h
  exact ⟨h.1, h.2⟩
theorem cT_bd {q : Rat} : nN q = (cT q).2.1 := rfl
end Iv
end Go.Proofs.YtfajgibpidlojaaDoor
end

section
/- An interval as it comes in. No condition. -/
set_option linter.unusedVariables false
set_option linter.unusedSimpArgs false
namespace Go.Proofs.YtfajgibpidlojaaDoor
namespace Iv
open Go Go.Proofs

/-- A set: its ends as they lie in memory. -/
structure Se where
  lo : Tr
  hi : Tr
  li : Bool
  hf : Bool
  vo : Bool
def Se.sv (s : Se) : SV := .agg [.bool s.lo.1, .n32 s.lo.2.1, .n32 s.lo.2.2, .bool s.hi.1, .n32 s.hi.2.1, .n32 s.hi.2.2, .bool s.li, .bool s.hf, .bool s.vo]
def numOk (x : X) : Bool := !long x && fit (nN x.q) x.q.den
structure Y where
  lo : X
  hi : X
  li : Bool
  hf : Bool
def Y.sv (y : Y) : SV := .agg [.bool y.lo.neg, .words y.lo.num, .words y.lo.den, .bool y.hi.neg, .words y.hi.num, .words y.hi.den, .bool y.li, .bool y.hf]
def Y.ok (y : Y) : Prop := y.lo.ok ∧ y.hi.ok
def decY1 : SV → Option Y
  | .agg [.bool a, b, c, .bool d, e, f, .bool g, .bool h] => match b.list, c.list, e.list, f.list with
    | some b, some c, some e, some f => some ⟨⟨a, b, c⟩, ⟨d, e, f⟩, g, h⟩
    | _, _, _, _ => none
  | _ => none
theorem decY1_sub (x : SV) (p : Y) (h : decY1 x = some p) : Sub x p.sv := by
  unfold decY1 at h
  split at h
  · split at h
    · rename_i hb hc he hf
      simp only [Option.some.injEq] at h
      subst h
      exact Sub.agg (SubL.cons (Sub.refl _) (SubL.cons (Sub.words hb) (SubL.cons (Sub.words hc) (SubL.cons (Sub.refl _) (SubL.cons (Sub.words he) (SubL.cons (Sub.words hf) (SubL.cons (Sub.refl _) (SubL.cons (Sub.refl _) SubL.nil))))))))
    · cases h
  · cases h
def decY : List SV → Option Y
  | [x] => decY1 x
  | _ => none
theorem decY_sub (xs : List SV) (p : Y) (h : decY xs = some p) : SubL xs [p.sv] := by
  unfold decY at h
  split at h
  · exact SubL.cons (decY1_sub _ _ h) SubL.nil
  · cases h
/-- Can both ends be read? -/
def Y.good (y : Y) : Bool := numOk y.lo && numOk y.hi
/-- A set as it comes in. -/
def Y.ab (y : Y) : Ab := Ab.sp (if y.li then none else some y.lo.q) (if y.hf then none else some y.hi.q)
def decYY : List SV → Option (Y × Y)
  | [x, y] => match decY1 x, decY1 y with
    | some a, some b => some (a, b)
    | _, _ => none
  | _ => none
theorem decYY_sub (xs : List SV) (p : Y × Y) (h : decYY xs = some p) : SubL xs [p.1.sv, p.2.sv] := by
  unfold decYY at h
  split at h
  · split at h
    · rename_i ha hb
      simp only [Option.some.injEq] at h
      subst h
      exact SubL.cons (decY1_sub _ _ ha) (SubL.cons (decY1_sub _ _ hb) SubL.nil)
    · cases h
  · cases h
def decYi : List SV → Option (Y × Int)
  | [x, .int .i64 k] => match decY1 x with
    | some a => some (a, k)
    | _ => none
  | _ => none
theorem decYi_sub (xs : List SV) (p : Y × Int) (h : decYi xs = some p) : SubL xs [p.1.sv, .int .i64 p.2] := by
  unfold decYi at h
  split at h
  · split at h
    · rename_i ha
      simp only [Option.some.injEq] at h
      subst h
      exact SubL.cons (decY1_sub _ _ ha) (SubL.cons (Sub.refl _) SubL.nil)
    · cases h
  · cases h
def decYYi : List SV → Option (Y × Y × Int)
  | [x, y, .int .i64 k] => match decY1 x, decY1 y with
    | some a, some b => some (a, b, k)
    | _, _ => none
  | _ => none
theorem decYYi_sub (xs : List SV) (p : Y × Y × Int) (h : decYYi xs = some p) : SubL xs [p.1.sv, p.2.1.sv, .int .i64 p.2.2] := by
  unfold decYYi at h
  split at h
  · split at h
    · rename_i ha hb
      simp only [Option.some.injEq] at h
      subst h
      exact SubL.cons (decY1_sub _ _ ha) (SubL.cons (decY1_sub _ _ hb) (SubL.cons (Sub.refl _) SubL.nil))
    · cases h
  · cases h
/-- A precision in its range. -/
def pOk (p : Int) : Bool := decide (0 ≤ p) && decide (p ≤ 128)
/-! ### What the layer's functions answer -/
def when (c : Bool) (r : Except Int Z) : Except Int Z := if c then r else .error 1
def spOne (y : Y) (f : Ab → Ab) : Except Int Z := if y.good then outA (f y.ab) else .error 1
def spTwo (a b : Y) (f : Ab → Ab → Ab) : Except Int Z := if a.good && b.good then outA (f a.ab b.ab) else .error 1
def spOneP (y : Y) (p : Int) (f : Ab → Ab) : Except Int Z := if y.good then (if pOk p then outA (f y.ab) else .error 2) else .error 1
def spTwoP (a b : Y) (p : Int) (f : Ab → Ab → Ab) : Except Int Z := if a.good && b.good then (if pOk p then outA (f a.ab b.ab) else .error 2) else .error 1
end Iv
end Go.Proofs.YtfajgibpidlojaaDoor
end

section
/- Contracts of the reference's rational numbers, part I: Int, whole, Rat, Same, Canonical. Conditions: lowest terms; the sizes. -/
set_option linter.unusedVariables false
set_option linter.unusedSimpArgs false
set_option maxHeartbeats 4000000
set_option maxRecDepth 8000
namespace Go.Proofs.YtfajgibpidlojaaDoor
namespace Iv
open Go Go.Proofs

/-! ### Int -/
noncomputable def envRi (F : TypeId) : Env := envOf [natofC F, makeC F]
theorem envRi_ok (F : TypeId) : EnvOK Tryd.prog F tbX (envRi F) := envOf_ok _
theorem rint_eq (n : Int) : rv (decide (n < 0)) n.natAbs 1 = (n : Rat) := by
  rw [← Rat.mkRat_one]
  refine rv_eq ?_
  by_cases h : n < 0
  · simp only [h, decide_true, if_true]; omega
  · simp only [h, decide_false, Bool.false_eq_true, if_false]; omega
theorem nb_int {n : Nat} (h : n < 18446744073709551616) : nb n ≤ 64 := nb_le.2 (by simpa using h)
theorem rint_wp (F : TypeId) (n : Int) (hn : -9223372036854775808 ≤ n) (hn2 : n < 9223372036854775808) (K : Except Int SV → Prop) (hK : ∀ r, SubE r (.ok (sR (tF (n : Rat)))) → K r) :
    wpF tbX (envRi F) (wpDraw tbX (envRi F)) Tryd.f51 [.int .i64 n] K := by
  rw [← rint_eq n] at hK
  refine ifB_mk (fun h => ?_) (fun h => ?_)
  · have h1 : n < 0 := @of_decide_eq_true _ (Classical.propDecidable _) h
    refine And.intro (by (try dsimp only); omega) ?_
    refine And.intro (by (try dsimp only); omega) ?_
    refine And.intro ⟨by (try dsimp only); omega, by (try dsimp only); omega⟩ ?_
    refine And.intro ⟨by decide, by decide⟩ ?_
    have e : ((0 - (n + 1)) % 18446744073709551616 + 1) % 18446744073709551616 = ((n.natAbs : Nat) : Int) := by omega
    refine And.intro ⟨by show 0 < (1 : Int).toNat; decide, ?_, by show nb 1 ≤ _; rw [nb_one]; decide⟩ ?_
    · show nb (((0 - (n + 1)) % 18446744073709551616 + 1) % 18446744073709551616).toNat ≤ _
      exact Nat.le_trans (nb_int (by omega)) (by decide)
    · show K (.ok (sR (tF (rv true (((0 - (n + 1)) % 18446744073709551616 + 1) % 18446744073709551616).toNat 1))))
      rw [e, Int.toNat_natCast]
      rw [decide_eq_true h1] at hK
      exact hK _ ⟨rfl, Sub.refl _⟩
  · have h1 : ¬ n < 0 := @of_decide_eq_false _ (Classical.propDecidable _) h
    refine And.intro ⟨by (try dsimp only); omega, by (try dsimp only); omega⟩ ?_
    refine And.intro ⟨by decide, by decide⟩ ?_
    have e : n % 18446744073709551616 = ((n.natAbs : Nat) : Int) := by omega
    refine And.intro ⟨by show 0 < (1 : Int).toNat; decide, ?_, by show nb 1 ≤ _; rw [nb_one]; decide⟩ ?_
    · show nb (n % 18446744073709551616).toNat ≤ _
      exact Nat.le_trans (nb_int (by omega)) (by decide)
    · show K (.ok (sR (tF (rv false (n % 18446744073709551616).toNat 1))))
      rw [e, Int.toNat_natCast]
      rw [decide_eq_false h1] at hK
      exact hK _ ⟨rfl, Sub.refl _⟩
theorem rint_holds (F : TypeId) (p : Int) (h : -9223372036854775808 ≤ p ∧ p < 9223372036854775808) : Holds Tryd.prog F 51 [.int .i64 p] (.ok (sR (tF (p : Rat)))) :=
  holds_run mixed tbX_ok (envRi_ok F) Tryd.func51 rfl (by kernel_rfl) (args := [.int .i64 p]) (rint_wp F p h.1 h.2 _ fun _ hr => hr) (fun _ _ _ _ _ h => h)
def rintC (F : TypeId) : Con Tryd.prog F :=
  mkCon 51 (enters_of Tryd.func51 (by kernel_rfl) rfl) dec_i64 (fun p => [.int .i64 p]) (fun p => -9223372036854775808 ≤ p ∧ p < 9223372036854775808) (fun p => sR (tF (p : Rat))) dec_i64_sub (rint_holds F)
/-! ### whole -/
def whole (p : Tr) : Bool := decide (p.2.2 = 0) || decide (p.2.2 = 1)
theorem whole_wp (p : Tr) (K : Except Int SV → Prop) (hK : ∀ r, SubE r (.ok (.bool (whole p))) → K r) :
    wpF tbX env0 (wpDraw tbX env0) Tryd.f106 [sR p] K := by
  obtain ⟨b, n, d⟩ := p
  have z := L16_zero (a := d)
  have o := dig16_one (a := d)
  unfold L16 at z
  refine ifB_mk (fun h => ?_) (fun h => ?_)
  · have h0 : d = 0 := by
      have : (((dig16 d).length : Int) == 0) = true := h
      rw [beq_iff_eq] at this
      omega
    show K (.ok (.bool true))
    have e : whole (b, n, d) = true := by unfold whole; simp [h0]
    rw [e] at hK
    exact hK _ ⟨rfl, Sub.refl _⟩
  · have h0 : ¬ d = 0 := by
      have : (((dig16 d).length : Int) == 0) = false := h
      rw [beq_eq_false_iff_ne] at this
      omega
    refine ifB_mk (fun h2 => ?_) (fun h2 => ?_)
    · have h3 : (dig16 d).length = 1 := by
        have : (((dig16 d).length : Int) == 1) = true := h2
        rw [beq_iff_eq] at this
        omega
      refine And.intro (by (try dsimp only); omega) ?_
      show K (.ok (.bool ((((dig16 d).getD (0 : Int).toNat 0 : Nat) : Int) == 1)))
      have e : whole (b, n, d) = ((((dig16 d).getD (0 : Int).toNat 0 : Nat) : Int) == 1) := by
        unfold whole
        rw [Bool.eq_iff_iff]
        simp only [Bool.or_eq_true, decide_eq_true_eq, beq_iff_eq, h0, false_or]
        rw [o, Int.toNat_zero]
        constructor
        · intro h; omega
        · intro h; exact ⟨h3, by omega⟩
      rw [e] at hK
      exact hK _ ⟨rfl, Sub.refl _⟩
    · have h3 : ¬ (dig16 d).length = 1 := by
        have : (((dig16 d).length : Int) == 1) = false := h2
        rw [beq_eq_false_iff_ne] at this
        omega
      show K (.ok (.bool false))
      have e : whole (b, n, d) = false := by
        unfold whole
        simp only [Bool.or_eq_false_iff, decide_eq_false_iff_not]
        exact ⟨h0, fun c => h3 (o.1 c).1⟩
      rw [e] at hK
      exact hK _ ⟨rfl, Sub.refl _⟩
theorem whole_holds (F : TypeId) (p : Tr) (h : True) : Holds Tryd.prog F 106 [sR p] (.ok (.bool (whole p))) :=
  holds_run mixed tbX_ok (env0X_ok F) Tryd.func106 rfl (by kernel_rfl) (args := [sR p]) (whole_wp p _ fun _ hr => hr) (fun _ _ _ _ _ h => h)
def wholeC (F : TypeId) : Con Tryd.prog F :=
  mkCon 106 (enters_of Tryd.func106 (by kernel_rfl) rfl) decR (fun p => [sR p]) (fun _ => True) (fun p => .bool (whole p)) decR_sub (whole_holds F)
/-! ### Rat -/
noncomputable def envRt (F : TypeId) : Env := envOf [listC F, wholeC F]
theorem envRt_ok (F : TypeId) : EnvOK Tryd.prog F tbX (envRt F) := envOf_ok _
theorem cT_vQ {p : Tr} (h : OkQ p) : cT (vQ p) = (p.1, p.2.1, if whole p = true then 0 else p.2.2) := by
  obtain ⟨e1, e2, e3⟩ := vQ_parts h
  unfold cT
  rw [e1, e2, e3]
  unfold dn whole
  by_cases h0 : p.2.2 = 0
  · simp [h0]
  · by_cases h1 : p.2.2 = 1
    · simp [h1]
    · simp [h0, h1]
theorem okL16 {p : Tr} (h : OkQ p) : L16 p.2.1 ≤ cap30 ∧ L16 p.2.2 ≤ cap30 := by
  have h1 := h.2.1
  have h2 := h.2.2
  have a := L16_le_nb p.2.1
  have b := L16_le_nb p.2.2
  have c := c30
  have f := fb_eq
  unfold dn at h2
  split at h2
  · rename_i h0
    rw [h0] at b ⊢
    rw [nb_zero] at b
    exact ⟨by omega, by omega⟩
  · exact ⟨by omega, by omega⟩
theorem rat_wp (F : TypeId) (p : Tr) (hp : OkQ p) (K : Except Int SV → Prop) (hK : ∀ r, SubE r (.ok (sT (cT (vQ p)))) → K r) :
    wpF tbX (envRt F) (wpDraw tbX (envRt F)) Tryd.f50 [sR p] K := by
  rw [cT_vQ hp] at hK
  obtain ⟨l1, l2⟩ := okL16 hp
  have hs := hp.1.sgn
  obtain ⟨b, n, d⟩ := p
  dsimp only at l1 l2 hs
  have z := L16_zero (a := n)
  unfold L16 at z
  cases b
  · refine And.intro (by kernel_rfl) (Or.inl ?_)
    refine And.intro l1 ?_
    refine And.intro trivial ?_
    refine ifB_mk (fun h => ?_) (fun h => ?_)
    · have h1 : whole (false, n, d) = false := by
        have : (!whole (false, n, d)) = true := h
        simpa using this
      refine And.intro l2 ?_
      show K (.ok (.agg [.bool false, .n32 n, .n32 d]))
      rw [h1] at hK
      exact hK _ ⟨rfl, Sub.refl _⟩
    · have h1 : whole (false, n, d) = true := by
        have : (!whole (false, n, d)) = false := h
        simpa using this
      show K (.ok (.agg [.bool false, .n32 n, .nil]))
      rw [h1] at hK
      exact hK _ ⟨rfl, Sub.agg (SubL.cons (Sub.refl _) (SubL.cons (Sub.refl _) (SubL.cons Sub.nil32 SubL.nil)))⟩
  · have hn : ¬ n = 0 := fun c => by cases hs c
    refine And.intro (by kernel_rfl) (Or.inl ?_)
    refine And.intro l1 ?_
    refine And.intro trivial ?_
    have e : (decide (((dig16 n).length : Int) > 0)) = true := by
      rw [decide_eq_true_eq]
      omega
    refine ifB_mk (fun h => ?_) (fun h => ?_)
    · have h1 : whole (true, n, d) = false := by
        have : (!whole (true, n, d)) = true := h
        simpa using this
      refine And.intro l2 ?_
      show K (.ok (.agg [.bool (decide (((dig16 n).length : Int) > 0)), .n32 n, .n32 d]))
      rw [h1] at hK
      rw [e]
      exact hK _ ⟨rfl, Sub.refl _⟩
    · have h1 : whole (true, n, d) = true := by
        have : (!whole (true, n, d)) = false := h
        simpa using this
      show K (.ok (.agg [.bool (decide (((dig16 n).length : Int) > 0)), .n32 n, .nil]))
      rw [h1] at hK
      rw [e]
      exact hK _ ⟨rfl, Sub.agg (SubL.cons (Sub.refl _) (SubL.cons (Sub.refl _) (SubL.cons Sub.nil32 SubL.nil)))⟩
theorem rat_holds (F : TypeId) (p : Tr) (h : OkQ p) : Holds Tryd.prog F 50 [sR p] (.ok (sT (cT (vQ p)))) :=
  holds_run mixed tbX_ok (envRt_ok F) Tryd.func50 rfl (by kernel_rfl) (args := [sR p]) (rat_wp F p h _ fun _ hr => hr) (fun _ _ _ _ _ h => h)
def ratC (F : TypeId) : Con Tryd.prog F :=
  mkCon 50 (enters_of Tryd.func50 (by kernel_rfl) rfl) decR (fun p => [sR p]) OkQ (fun p => sT (cT (vQ p))) decR_sub (rat_holds F)
/-! ### Same -/
theorem X.okQ (x : X) (h : x.ok) : OkQ (tF x.q) := by
  obtain ⟨n1, n2, n3⟩ := x.nb_n h
  have := bd_rv (b := x.neg) x.d_pos n1 n3
  have hf := fb_eq
  exact okQ_tF (Nat.le_trans this.num (by omega)) (Nat.le_trans this.den (by omega))
def decX1 : SV → Option X
  | .agg [.bool b, x, y] => match x.list, y.list with
    | some l, some m => some ⟨b, l, m⟩
    | _, _ => none
  | _ => none
theorem decX1_sub (x : SV) (p : X) (h : decX1 x = some p) : Sub x p.sv := by
  unfold decX1 at h
  split at h
  · split at h
    · rename_i hl hm
      simp only [Option.some.injEq] at h
      subst h
      exact Sub.agg (SubL.cons (Sub.refl _) (SubL.cons (Sub.words hl) (SubL.cons (Sub.words hm) SubL.nil)))
    · cases h
  · cases h
def decXX : List SV → Option (X × X)
  | [x, y] => match decX1 x, decX1 y with
    | some a, some b => some (a, b)
    | _, _ => none
  | _ => none
theorem decXX_sub (xs : List SV) (p : X × X) (h : decXX xs = some p) : SubL xs [p.1.sv, p.2.sv] := by
  unfold decXX at h
  split at h
  · split at h
    · rename_i ha hb
      simp only [Option.some.injEq] at h
      subst h
      exact SubL.cons (decX1_sub _ _ ha) (SubL.cons (decX1_sub _ _ hb) SubL.nil)
    · cases h
  · cases h
noncomputable def envSame (F : TypeId) : Env := envOf [rofC F, qcmpC F]
theorem envSame_ok (F : TypeId) : EnvOK Tryd.prog F tbX (envSame F) := envOf_ok _
theorem same_wp (F : TypeId) (x y : X) (hx : x.ok) (hy : y.ok) (K : Except Int SV → Prop) (hK : ∀ r, SubE r (.ok (.bool (decide (x.q = y.q)))) → K r) :
    wpF tbX (envSame F) (wpDraw tbX (envSame F)) Tryd.f104 [x.sv, y.sv] K := by
  refine And.intro (by kernel_rfl) (Or.inl ?_)
  refine And.intro hx ?_
  refine And.intro hy ?_
  refine And.intro ⟨x.okQ hx, y.okQ hy⟩ ?_
  show K (.ok (.bool (cmpR (vQ (tF x.q)) (vQ (tF y.q)) == 0)))
  rw [vQ_tF, vQ_tF]
  have e : (cmpR x.q y.q == 0) = decide (x.q = y.q) := by
    rw [Bool.eq_iff_iff, beq_iff_eq, decide_eq_true_eq]
    exact cmpR_eq
  rw [e]
  exact hK _ ⟨rfl, Sub.refl _⟩
theorem same_holds (F : TypeId) (p : X × X) (h : p.1.ok ∧ p.2.ok) : Holds Tryd.prog F 104 [p.1.sv, p.2.sv] (.ok (.bool (decide (p.1.q = p.2.q)))) :=
  holds_run mixed tbX_ok (envSame_ok F) Tryd.func104 rfl (by kernel_rfl) (args := [p.1.sv, p.2.sv]) (same_wp F p.1 p.2 h.1 h.2 _ fun _ hr => hr) (fun _ _ _ _ _ h => h)
def sameC (F : TypeId) : Con Tryd.prog F :=
  mkCon 104 (enters_of Tryd.func104 (by kernel_rfl) rfl) decXX (fun p => [p.1.sv, p.2.sv]) (fun p => p.1.ok ∧ p.2.ok) (fun p => .bool (decide (p.1.q = p.2.q))) decXX_sub (same_holds F)
end Iv
end Go.Proofs.YtfajgibpidlojaaDoor
end

section
/- Contracts of the reference's intervals, part A: None, Of, Large, Api, Done, one, two. Conditions: the sizes of what comes in. -/
set_option linter.unusedVariables false
set_option linter.unusedSimpArgs false
set_option maxHeartbeats 4000000
set_option maxRecDepth 8000
namespace Go.Proofs.YtfajgibpidlojaaDoor
namespace Iv
open Go Go.Proofs

/-- A set of the reference. -/
def Se.rv (s : Se) : SV := .agg [.bool s.lo.1, .n16 s.lo.2.1, .n16 s.lo.2.2, .bool s.hi.1, .n16 s.hi.2.1, .n16 s.hi.2.2, .bool s.li, .bool s.hf, .bool s.vo]
def decI1 : SV → Option Se
  | .agg [.bool a, b, c, .bool d, e, f, .bool g, .bool h, .bool i] => match asN16 b, asN16 c, asN16 e, asN16 f with
    | some b, some c, some e, some f => some ⟨(a, b, c), (d, e, f), g, h, i⟩
    | _, _, _, _ => none
  | _ => none
theorem decI1_sub (x : SV) (p : Se) (h : decI1 x = some p) : Sub x p.rv := by
  unfold decI1 at h
  split at h
  · split at h
    · rename_i hb hc he hf
      simp only [Option.some.injEq] at h
      subst h
      exact Sub.agg (SubL.cons (Sub.refl _) (SubL.cons (asN16_sub hb) (SubL.cons (asN16_sub hc) (SubL.cons (Sub.refl _) (SubL.cons (asN16_sub he) (SubL.cons (asN16_sub hf) (SubL.cons (Sub.refl _) (SubL.cons (Sub.refl _) (SubL.cons (Sub.refl _) SubL.nil)))))))))
    · cases h
  · cases h
def decI : List SV → Option Se
  | [x] => decI1 x
  | _ => none
theorem decI_sub (xs : List SV) (p : Se) (h : decI xs = some p) : SubL xs [p.rv] := by
  unfold decI at h
  split at h
  · exact SubL.cons (decI1_sub _ _ h) SubL.nil
  · cases h
def decII : List SV → Option (Se × Se)
  | [x, y] => match decI1 x, decI1 y with
    | some a, some b => some (a, b)
    | _, _ => none
  | _ => none
theorem decII_sub (xs : List SV) (p : Se × Se) (h : decII xs = some p) : SubL xs [p.1.rv, p.2.rv] := by
  unfold decII at h
  split at h
  · split at h
    · rename_i ha hb
      simp only [Option.some.injEq] at h
      subst h
      exact SubL.cons (decI1_sub _ _ ha) (SubL.cons (decI1_sub _ _ hb) SubL.nil)
    · cases h
  · cases h
def decIi : List SV → Option (Se × Int)
  | [x, .int .i64 k] => match decI1 x with
    | some a => some (a, k)
    | _ => none
  | _ => none
theorem decIi_sub (xs : List SV) (p : Se × Int) (h : decIi xs = some p) : SubL xs [p.1.rv, .int .i64 p.2] := by
  unfold decIi at h
  split at h
  · split at h
    · rename_i ha
      simp only [Option.some.injEq] at h
      subst h
      exact SubL.cons (decI1_sub _ _ ha) (SubL.cons (Sub.refl _) SubL.nil)
    · cases h
  · cases h
theorem SubM3 {b : Bool} {xs : List SV} {ys : List SV} (h : SubL xs ys) : SubL (.bool b :: .nil :: .nil :: xs) (.bool b :: .n16 0 :: .n16 0 :: ys) :=
  SubL.cons (Sub.refl _) (SubL.cons Sub.nil16 (SubL.cons Sub.nil16 h))
theorem SubU3 {b : Bool} {n d : Nat} {xs : List SV} {ys : List SV} (h : SubL xs ys) : SubL (.bool b :: .n16 n :: .n16 d :: xs) (.bool b :: .n16 n :: .n16 d :: ys) :=
  SubL.cons (Sub.refl _) (SubL.cons (Sub.refl _) (SubL.cons (Sub.refl _) h))
def nR : Se := ⟨t0, t0, false, false, true⟩
def zR : Se := ⟨t0, t0, false, false, false⟩
theorem okQ_t0 : OkQ t0 := ⟨⟨by decide, by decide, fun _ => rfl⟩, by rw [fb_eq]; decide, by rw [fb_eq]; decide⟩
theorem vQ_t0 : vQ t0 = 0 := rv_zero _ _
/-- What is kept of the reference's sets: ends in lowest terms; a missing end is 0; the empty set's are 0. -/
structure Se.inv (s : Se) : Prop where
  lo : OkQ s.lo
  hi : OkQ s.hi
  li : s.li = true → vQ s.lo = 0
  hf : s.hf = true → vQ s.hi = 0
  vo : s.vo = true → vQ s.lo = 0 ∧ vQ s.hi = 0
def enQ (i : Bool) (p : Tr) : Option Rat := if i then none else some (vQ p)
def Se.abq (s : Se) : Ab := if s.vo then none else some (enQ s.li s.lo, enQ s.hf s.hi)
theorem nR_inv : nR.inv := ⟨okQ_t0, okQ_t0, fun h => (by cases h), fun h => (by cases h), fun _ => ⟨vQ_t0, vQ_t0⟩⟩
/-! ### None -/
theorem rnone_wp (K : Except Int SV → Prop) (hK : ∀ r, SubE r (.ok nR.rv) → K r) :
    wpF tbX env0 (wpDraw tbX env0) Tryd.f115 [] K := by
  show K _
  exact hK _ ⟨rfl, Sub.agg (SubM3 (SubM3 (SubR _)))⟩
def dec_0 : List SV → Option Unit
  | [] => some ()
  | _ => none
theorem dec_0_sub (xs : List SV) (p : Unit) (h : dec_0 xs = some p) : SubL xs [] := by
  unfold dec_0 at h
  split at h
  · exact SubR _
  · cases h
theorem rnone_holds (F : TypeId) (p : Unit) (h : True) : Holds Tryd.prog F 115 [] (.ok nR.rv) :=
  holds_run mixed tbX_ok (env0X_ok F) Tryd.func115 rfl (by kernel_rfl) (args := []) (rnone_wp _ fun _ hr => hr) (fun _ _ _ _ _ h => h)
def rnoneC (F : TypeId) : Con Tryd.prog F :=
  mkCon 115 (enters_of Tryd.func115 (by kernel_rfl) rfl) dec_0 (fun _ => []) (fun _ => True) (fun _ => nR.rv) dec_0_sub (rnone_holds F)
/-! ### Of -/
def Y.rset (y : Y) : Se := if (!y.li && !y.hf && decide (cmpR y.lo.q y.hi.q > 0)) = true then nR else ⟨if y.li then t0 else tF y.lo.q, if y.hf then t0 else tF y.hi.q, y.li, y.hf, false⟩
theorem rset_ab (y : Y) : y.rset.abq = y.ab := by
  obtain ⟨lo, hi, li, hf⟩ := y
  unfold Y.rset Y.ab
  cases li <;> cases hf <;> simp only [Bool.not_false, Bool.not_true, Bool.true_and, Bool.false_and, Bool.and_false, decide_eq_true_eq, Bool.false_eq_true, if_false, if_true, Ab.sp]
  · by_cases h : cmpR lo.q hi.q > 0
    · rw [if_pos h, if_pos h]; rfl
    · rw [if_neg h, if_neg h]; simp [Se.abq, enQ, vQ_tF]
  · simp [Se.abq, enQ, vQ_tF]
  · simp [Se.abq, enQ, vQ_tF]
  · simp [Se.abq, enQ, vQ_tF]
theorem rset_inv (y : Y) (h : y.ok) : y.rset.inv := by
  unfold Y.rset
  split
  · exact nR_inv
  · refine ⟨?_, ?_, ?_, ?_, fun h => by cases h⟩
    · dsimp only; split
      · exact okQ_t0
      · exact y.lo.okQ h.1
    · dsimp only; split
      · exact okQ_t0
      · exact y.hi.okQ h.2
    · intro e; dsimp only at e ⊢; rw [if_pos e]; exact vQ_t0
    · intro e; dsimp only at e ⊢; rw [if_pos e]; exact vQ_t0
noncomputable def envIof (F : TypeId) : Env := envOf [rofC F, qcmpC F, rnoneC F]
theorem envIof_ok (F : TypeId) : EnvOK Tryd.prog F tbX (envIof F) := envOf_ok _
theorem iof_wp (F : TypeId) (y : Y) (hy : y.ok) (K : Except Int SV → Prop) (hK : ∀ r, SubE r (.ok y.rset.rv) → K r) :
    wpF tbX (envIof F) (wpDraw tbX (envIof F)) Tryd.f90 [y.sv] K := by
  obtain ⟨lo, hi, li, hf⟩ := y
  have o1 := lo.okQ hy.1
  have o2 := hi.okQ hy.2
  unfold Y.rset at hK
  cases li <;> cases hf
  · refine And.intro hy.1 ?_
    refine And.intro hy.2 ?_
    refine And.intro ⟨o1, o2⟩ ?_
    refine ifB_mk (fun h => ?_) (fun h => ?_)
    · have h1 : cmpR lo.q hi.q > 0 := by
        have : cmpR (vQ (tF lo.q)) (vQ (tF hi.q)) > 0 := of_decide_eq_true h
        rwa [vQ_tF, vQ_tF] at this
      rw [if_pos (by simp [h1])] at hK
      refine And.intro trivial ?_
      show K _
      exact hK _ ⟨rfl, Sub.refl _⟩
    · have h1 : ¬ cmpR lo.q hi.q > 0 := by
        have : ¬ cmpR (vQ (tF lo.q)) (vQ (tF hi.q)) > 0 := of_decide_eq_false h
        rwa [vQ_tF, vQ_tF] at this
      rw [if_neg (by simp [h1])] at hK
      show K _
      exact hK _ ⟨rfl, Sub.refl _⟩
  · refine And.intro hy.1 ?_
    rw [if_neg (by simp)] at hK
    show K _
    exact hK _ ⟨rfl, Sub.agg (SubU3 (SubM3 (SubR _)))⟩
  · refine And.intro hy.2 ?_
    rw [if_neg (by simp)] at hK
    show K _
    exact hK _ ⟨rfl, Sub.agg (SubM3 (SubR _))⟩
  · rw [if_neg (by simp)] at hK
    show K _
    exact hK _ ⟨rfl, Sub.agg (SubM3 (SubM3 (SubR _)))⟩
theorem iof_holds (F : TypeId) (y : Y) (h : y.ok) : Holds Tryd.prog F 90 [y.sv] (.ok y.rset.rv) :=
  holds_run mixed tbX_ok (envIof_ok F) Tryd.func90 rfl (by kernel_rfl) (args := [y.sv]) (iof_wp F y h _ fun _ hr => hr) (fun _ _ _ _ _ h => h)
def iofC (F : TypeId) : Con Tryd.prog F :=
  mkCon 90 (enters_of Tryd.func90 (by kernel_rfl) rfl) decY (fun y => [y.sv]) Y.ok (fun y => y.rset.rv) decY_sub (iof_holds F)
/-! ### Large -/
theorem large_num (x : X) (h : x.ok) : large x = !numOk x := by
  unfold large numOk long over fit
  have a1 := len16_iff x.n 512
  have a2 := len16_iff (val B32 x.den) 512
  have a3 := len32_iff x.n 256
  have a4 := len32_iff (val B32 x.den) 256
  have a5 := len16_iff (nN x.q) 128
  have a6 := len16_iff x.q.den 128
  have e1 : (tF x.q).2.1 = nN x.q := rfl
  have e2 : (tF x.q).2.2 = x.q.den := rfl
  rw [e1, e2, Bool.eq_iff_iff]
  simp only [Bool.or_eq_true, decide_eq_true_eq, Bool.not_eq_true', Bool.and_eq_false_iff, Bool.not_eq_false', decide_eq_false_iff_not]
  unfold L16 L32
  omega
noncomputable def envIl (F : TypeId) : Env := envOf [largeC F]
theorem envIl_ok (F : TypeId) : EnvOK Tryd.prog F tbX (envIl F) := envOf_ok _
theorem ilarge_wp (F : TypeId) (y : Y) (hy : y.ok) (K : Except Int SV → Prop) (hK : ∀ r, SubE r (.ok (.bool (!y.good))) → K r) :
    wpF tbX (envIl F) (wpDraw tbX (envIl F)) Tryd.f33 [y.sv] K := by
  have e1 := large_num y.lo hy.1
  have e2 := large_num y.hi hy.2
  have e3 : y.good = (numOk y.lo && numOk y.hi) := rfl
  refine And.intro hy.1 ?_
  refine ifB_mk (fun h => ?_) (fun h => ?_)
  · have h1 : large y.lo = true := h
    rw [e1] at h1
    simp only [Bool.not_eq_true'] at h1
    rw [e3, h1] at hK
    show K (.ok (.bool true))
    exact hK _ ⟨rfl, Sub.refl _⟩
  · have h1 : large y.lo = false := h
    rw [e1] at h1
    simp only [Bool.not_eq_false'] at h1
    refine And.intro hy.2 ?_
    show K (.ok (.bool (large y.hi)))
    rw [e3, h1, Bool.true_and] at hK
    rw [e2]
    exact hK _ ⟨rfl, Sub.refl _⟩
theorem ilarge_holds (F : TypeId) (y : Y) (h : y.ok) : Holds Tryd.prog F 33 [y.sv] (.ok (.bool (!y.good))) :=
  holds_run mixed tbX_ok (envIl_ok F) Tryd.func33 rfl (by kernel_rfl) (args := [y.sv]) (ilarge_wp F y h _ fun _ hr => hr) (fun _ _ _ _ _ h => h)
def ilargeC (F : TypeId) : Con Tryd.prog F :=
  mkCon 33 (enters_of Tryd.func33 (by kernel_rfl) rfl) decY (fun y => [y.sv]) Y.ok (fun y => .bool (!y.good)) decY_sub (ilarge_holds F)
/-! ### Api -/
theorem cT_inf {p : Tr} (h : vQ p = 0) : cT (vQ p) = t0 := by rw [h, cT_zero]
theorem tF_one_int : tF ((1 : Int) : Rat) = (false, 1, 1) := by decide
theorem okQ_one : OkQ (tF ((1 : Int) : Rat)) := by rw [tF_one_int]; exact ⟨⟨by decide, by decide, fun _ => rfl⟩, by rw [fb_eq]; decide, by rw [fb_eq]; decide⟩
noncomputable def envIa (F : TypeId) : Env := envOf [rintC F, ratC F]
theorem envIa_ok (F : TypeId) : EnvOK Tryd.prog F tbX (envIa F) := envOf_ok _
theorem api_cz (s : Se) (h : s.inv) (hv : s.vo = false) : cz s.abq = ⟨cT (vQ s.lo), cT (vQ s.hi), s.li, s.hf⟩ := by
  obtain ⟨lo, hi, li, hf, vo⟩ := s
  simp only at hv
  subst hv
  cases li <;> cases hf <;> simp only [Se.abq, enQ, cz, zT, Bool.false_eq_true, if_false, if_true, Option.isNone]
  · rw [cT_inf (h.hf rfl)]
  · rw [cT_inf (h.li rfl)]
  · rw [cT_inf (h.li rfl), cT_inf (h.hf rfl)]
theorem api_wp (F : TypeId) (s : Se) (hs : s.inv) (K : Except Int SV → Prop) (hK : ∀ r, SubE r (.ok (cz s.abq).sv) → K r) :
    wpF tbX (envIa F) (wpDraw tbX (envIa F)) Tryd.f54 [s.rv] K := by
  cases hv : s.vo
  · rw [api_cz s hs hv] at hK
    obtain ⟨lo, hi, li, hf, vo⟩ := s
    simp only at hv
    subst hv
    refine And.intro (by kernel_rfl) (Or.inl ?_)
    refine And.intro hs.lo ?_
    refine And.intro hs.hi ?_
    show K _
    exact hK _ ⟨rfl, Sub.refl _⟩
  · have e : cz s.abq = ⟨(false, 1, 0), t0, false, false⟩ := by unfold Se.abq; rw [hv]; simp only [if_true, cz, cT_one]
    rw [e] at hK
    obtain ⟨lo, hi, li, hf, vo⟩ := s
    simp only at hv
    subst hv
    refine And.intro ⟨by decide, by decide⟩ ?_
    refine And.intro okQ_one ?_
    show K (.ok (.agg [.bool (cT (vQ (tF ((1 : Int) : Rat)))).1, .n32 (cT (vQ (tF ((1 : Int) : Rat)))).2.1, .n32 (cT (vQ (tF ((1 : Int) : Rat)))).2.2, .bool false, .nil, .nil, .bool false, .bool false]))
    rw [vQ_tF, show cT ((1 : Int) : Rat) = (false, 1, 0) by decide]
    exact hK _ ⟨rfl, Sub.agg (SubT3 (SubN3 (SubR _)))⟩
theorem api_holds (F : TypeId) (s : Se) (h : s.inv) : Holds Tryd.prog F 54 [s.rv] (.ok (cz s.abq).sv) :=
  holds_run mixed tbX_ok (envIa_ok F) Tryd.func54 rfl (by kernel_rfl) (args := [s.rv]) (api_wp F s h _ fun _ hr => hr) (fun _ _ _ _ _ h => h)
def apiC (F : TypeId) : Con Tryd.prog F :=
  mkCon 54 (enters_of Tryd.func54 (by kernel_rfl) rfl) decI (fun s => [s.rv]) Se.inv (fun s => (cz s.abq).sv) decI_sub (api_holds F)
/-! ### Done -/
theorem over_fit {p : Tr} (h : OkQ p) : over p = !fitR (vQ p) := by
  obtain ⟨e1, e2, e3⟩ := vQ_parts h
  unfold fitR fit over
  rw [e2, e3]
  have a1 := len16_iff p.2.1 128
  have a2 := len16_iff p.2.2 128
  rw [Bool.eq_iff_iff]
  simp only [Bool.or_eq_true, decide_eq_true_eq, Bool.not_eq_true', decide_eq_false_iff_not]
  unfold L16
  unfold dn
  split
  · rename_i h0
    rw [h0] at a2 ⊢
    rw [nb_one]
    rw [nb_zero] at a2
    omega
  · omega
theorem fitR_zero : fitR 0 = true := by decide
theorem over_fits (s : Se) (h : s.inv) : (over s.lo || over s.hi) = !s.abq.fits := by
  rw [over_fit h.lo, over_fit h.hi]
  obtain ⟨lo, hi, li, hf, vo⟩ := s
  cases vo
  · cases li <;> cases hf <;> simp only [Se.abq, enQ, Ab.fits, Option.all, Bool.false_eq_true, if_false, if_true]
    · rw [Bool.not_and]
    · have := h.hf rfl
      simp only at this ⊢
      rw [this, fitR_zero]; simp
    · have := h.li rfl
      simp only at this ⊢
      rw [this, fitR_zero]; simp
    · have h1 := h.li rfl
      have h2 := h.hf rfl
      simp only at h1 h2 ⊢
      rw [h1, h2, fitR_zero]; rfl
  · obtain ⟨h1, h2⟩ := h.vo rfl
    simp only at h1 h2 ⊢
    rw [h1, h2, fitR_zero]; rfl
noncomputable def envId (F : TypeId) : Env := envOf [overC F, apiC F]
theorem envId_ok (F : TypeId) : EnvOK Tryd.prog F tbX (envId F) := envOf_ok _
theorem done_wp (F : TypeId) (s : Se) (hs : s.inv) (K : Except Int SV → Prop) (hK : ∀ r, SubE r (.ok (sOut (outA s.abq))) → K r) :
    wpF tbX (envId F) (wpDraw tbX (envId F)) Tryd.f46 [s.rv] K := by
  have e := over_fits s hs
  have bad : s.abq.fits = false → K (.ok (.tup [.agg [.bool false, .nil, .nil, .bool false, .nil, .nil, .bool false, .bool false], .int .i64 1])) := by
    intro h
    refine hK _ ?_
    unfold outA
    rw [if_neg (by rw [h]; decide)]
    exact ⟨rfl, Sub.tup (SubL.cons (Sub.agg (SubN3 (SubN3 (SubR _)))) (SubR _))⟩
  refine And.intro trivial ?_
  refine ifB_mk (fun h => ?_) (fun h => ?_)
  · have h1 : over s.lo = true := h
    rw [h1, Bool.true_or] at e
    show K _
    exact bad (by simpa using e.symm)
  · have h1 : over s.lo = false := h
    rw [h1, Bool.false_or] at e
    refine And.intro trivial ?_
    refine ifB_mk (fun h2 => ?_) (fun h2 => ?_)
    · have h3 : over s.hi = true := h2
      rw [h3] at e
      show K _
      exact bad (by simpa using e.symm)
    · have h3 : over s.hi = false := h2
      rw [h3] at e
      refine And.intro hs ?_
      show K (.ok (.tup [(cz s.abq).sv, .int .i64 0]))
      refine hK _ ?_
      unfold outA
      rw [if_pos (by simpa using e.symm)]
      exact ⟨rfl, Sub.refl _⟩
theorem done_holds (F : TypeId) (s : Se) (h : s.inv) : Holds Tryd.prog F 46 [s.rv] (tRes Z.sv z0 (outA s.abq)).pick := by
  rw [tRes_pick]
  exact holds_run mixed tbX_ok (envId_ok F) Tryd.func46 rfl (by kernel_rfl) (args := [s.rv]) (done_wp F s h _ fun _ hr => hr) (fun _ _ _ _ _ h => h)
def doneC (F : TypeId) : Con Tryd.prog F :=
  mkConR 46 (enters_of Tryd.func46 (by kernel_rfl) rfl) decI (fun s => [s.rv]) Se.inv (fun s => tRes Z.sv z0 (outA s.abq)) decI_sub (done_holds F)
/-! ### one, two -/
noncomputable def envOne (F : TypeId) : Env := envOf [ilargeC F, iofC F]
theorem envOne_ok (F : TypeId) : EnvOK Tryd.prog F tbX (envOne F) := envOf_ok _
def oneR (y : Y) (p : Int) : Res := .ite (y.good = false) (.ok (.tup [zR.rv, .int .i64 1])) (.ite (pOk p = false) (.ok (.tup [zR.rv, .int .i64 2])) (.ok (.tup [y.rset.rv, .int .i64 0])))
def twoR (a b : Y) (p : Int) : Res := .ite ((a.good && b.good) = false) (.ok (.tup [zR.rv, zR.rv, .int .i64 1])) (.ite (pOk p = false) (.ok (.tup [zR.rv, zR.rv, .int .i64 2])) (.ok (.tup [a.rset.rv, b.rset.rv, .int .i64 0])))
theorem pOk_false {p : Int} : pOk p = false ↔ p < 0 ∨ 128 < p := by
  unfold pOk
  rw [← Bool.not_eq_true]
  simp only [Bool.and_eq_true, decide_eq_true_eq]
  omega
theorem subZ : Sub (.agg [.bool false, .nil, .nil, .bool false, .nil, .nil, .bool false, .bool false, .bool false]) zR.rv := Sub.agg (SubM3 (SubM3 (SubR _)))
theorem ione_wp (F : TypeId) (y : Y) (p : Int) (hy : y.ok) (K : Except Int SV → Prop) (hK : ∀ r, SubE r (oneR y p).pick → K r) :
    wpF tbX (envOne F) (wpDraw tbX (envOne F)) Tryd.f45 [y.sv, .int .i64 p] K := by
  unfold oneR at hK
  refine And.intro hy ?_
  refine ifB_mk (fun h => ?_) (fun h => ?_)
  · have h1 : y.good = false := by
      have : (!y.good) = true := h
      simpa using this
    rw [pick_pos h1, pick_ok] at hK
    show K _
    exact hK _ ⟨rfl, Sub.tup (SubL.cons subZ (SubR _))⟩
  · have h1 : ¬ y.good = false := by
      have : (!y.good) = false := h
      simpa using this
    rw [pick_neg h1] at hK
    have bad : pOk p = false → K (.ok (.tup [.agg [.bool false, .nil, .nil, .bool false, .nil, .nil, .bool false, .bool false, .bool false], .int .i64 2])) := by
      intro c
      rw [pick_pos c, pick_ok] at hK
      exact hK _ ⟨rfl, Sub.tup (SubL.cons subZ (SubR _))⟩
    refine ifB_mk (fun h2 => ?_) (fun h2 => ?_)
    · have h3 : p < 0 := @of_decide_eq_true _ (Classical.propDecidable _) h2
      show K _
      exact bad (pOk_false.2 (.inl h3))
    · have h3 : ¬ p < 0 := @of_decide_eq_false _ (Classical.propDecidable _) h2
      refine ifB_mk (fun h4 => ?_) (fun h4 => ?_)
      · have h5 : p > 128 := of_decide_eq_true h4
        show K _
        exact bad (pOk_false.2 (.inr h5))
      · have h5 : ¬ p > 128 := of_decide_eq_false h4
        rw [pick_neg (by rw [pOk_false]; omega), pick_ok] at hK
        refine And.intro hy ?_
        show K _
        exact hK _ ⟨rfl, Sub.refl _⟩
theorem ione_holds (F : TypeId) (q : Y × Int) (h : q.1.ok) : Holds Tryd.prog F 45 [q.1.sv, .int .i64 q.2] (oneR q.1 q.2).pick :=
  holds_run mixed tbX_ok (envOne_ok F) Tryd.func45 rfl (by kernel_rfl) (args := [q.1.sv, .int .i64 q.2]) (ione_wp F q.1 q.2 h _ fun _ hr => hr) (fun _ _ _ _ _ h => h)
theorem itwo_wp (F : TypeId) (a b : Y) (p : Int) (ha : a.ok) (hb : b.ok) (K : Except Int SV → Prop) (hK : ∀ r, SubE r (twoR a b p).pick → K r) :
    wpF tbX (envOne F) (wpDraw tbX (envOne F)) Tryd.f61 [a.sv, b.sv, .int .i64 p] K := by
  unfold twoR at hK
  have bad1 : (a.good && b.good) = false → K (.ok (.tup [.agg [.bool false, .nil, .nil, .bool false, .nil, .nil, .bool false, .bool false, .bool false], .agg [.bool false, .nil, .nil, .bool false, .nil, .nil, .bool false, .bool false, .bool false], .int .i64 1])) := by
    intro c
    rw [pick_pos c, pick_ok] at hK
    exact hK _ ⟨rfl, Sub.tup (SubL.cons subZ (SubL.cons subZ (SubR _)))⟩
  refine And.intro ha ?_
  refine ifB_mk (fun h => ?_) (fun h => ?_)
  · have h1 : a.good = false := by
      have : (!a.good) = true := h
      simpa using this
    show K _
    exact bad1 (by rw [h1]; rfl)
  · have h1 : a.good = true := by
      have : (!a.good) = false := h
      simpa using this
    refine And.intro hb ?_
    refine ifB_mk (fun h0 => ?_) (fun h0 => ?_)
    · have h1' : b.good = false := by
        have : (!b.good) = true := h0
        simpa using this
      show K _
      exact bad1 (by rw [h1', Bool.and_false])
    · have h1' : b.good = true := by
        have : (!b.good) = false := h0
        simpa using this
      rw [pick_neg (by rw [h1, h1']; decide)] at hK
      have bad : pOk p = false → K (.ok (.tup [.agg [.bool false, .nil, .nil, .bool false, .nil, .nil, .bool false, .bool false, .bool false], .agg [.bool false, .nil, .nil, .bool false, .nil, .nil, .bool false, .bool false, .bool false], .int .i64 2])) := by
        intro c
        rw [pick_pos c, pick_ok] at hK
        exact hK _ ⟨rfl, Sub.tup (SubL.cons subZ (SubL.cons subZ (SubR _)))⟩
      refine ifB_mk (fun h2 => ?_) (fun h2 => ?_)
      · have h3 : p < 0 := @of_decide_eq_true _ (Classical.propDecidable _) h2
        show K _
        exact bad (pOk_false.2 (.inl h3))
      · have h3 : ¬ p < 0 := @of_decide_eq_false _ (Classical.propDecidable _) h2
        refine ifB_mk (fun h4 => ?_) (fun h4 => ?_)
        · have h5 : p > 128 := of_decide_eq_true h4
          show K _
          exact bad (pOk_false.2 (.inr h5))
        · have h5 : ¬ p > 128 := of_decide_eq_false h4
          rw [pick_neg (by rw [pOk_false]; omega), pick_ok] at hK
          refine And.intro (by kernel_rfl) (Or.inl ?_)
          refine And.intro ha ?_
          refine And.intro hb ?_
          show K _
          exact hK _ ⟨rfl, Sub.refl _⟩
theorem itwo_holds (F : TypeId) (q : Y × Y × Int) (h : q.1.ok ∧ q.2.1.ok) : Holds Tryd.prog F 61 [q.1.sv, q.2.1.sv, .int .i64 q.2.2] (twoR q.1 q.2.1 q.2.2).pick :=
  holds_run mixed tbX_ok (envOne_ok F) Tryd.func61 rfl (by kernel_rfl) (args := [q.1.sv, q.2.1.sv, .int .i64 q.2.2]) (itwo_wp F q.1 q.2.1 q.2.2 h.1 h.2 _ fun _ hr => hr) (fun _ _ _ _ _ h => h)
def oneIC (F : TypeId) : Con Tryd.prog F :=
  mkConR 45 (enters_of Tryd.func45 (by kernel_rfl) rfl) decYi (fun q => [q.1.sv, .int .i64 q.2]) (fun q => q.1.ok) (fun q => oneR q.1 q.2) decYi_sub (ione_holds F)
def twoIC (F : TypeId) : Con Tryd.prog F :=
  mkConR 61 (enters_of Tryd.func61 (by kernel_rfl) rfl) decYYi (fun q => [q.1.sv, q.2.1.sv, .int .i64 q.2.2]) (fun q => q.1.ok ∧ q.2.1.ok) (fun q => twoR q.1 q.2.1 q.2.2) decYYi_sub (itwo_holds F)
end Iv
end Go.Proofs.YtfajgibpidlojaaDoor
end

section
/- Contracts of the reference's rational numbers, part J: Canonical at a canonical value; the law's None at zero. Conditions: the value is canonical. -/
set_option linter.unusedVariables false
set_option linter.unusedSimpArgs false
set_option maxHeartbeats 4000000
set_option maxRecDepth 8000
namespace Go.Proofs.YtfajgibpidlojaaDoor
namespace Iv
open Go Go.Proofs

/-- A value of memory as it comes in. -/
def xT (p : Tr) : X := ⟨p.1, dig32 p.2.1, dig32 p.2.2⟩
theorem xT_q (q : Rat) : (xT (cT q)).q = q := by
  have h1 : (xT (cT q)).n = nN q := by unfold X.n xT cT; exact val_dig32 _
  have h2 : (xT (cT q)).d = q.den := by
    unfold X.d xT cT
    dsimp only
    rw [val_dig32]
    have := q.den_pos
    by_cases h : q.den = 1
    · rw [if_pos h, if_pos rfl, h]
    · rw [if_neg h, if_neg (by omega)]
  unfold X.q
  rw [h1, h2]
  exact rv_self q
theorem xT_ok {q : Rat} (h : Bd 100000 q) : (xT (cT q)).ok := by
  have l1 := L32_le_nb (nN q)
  have l2 := L32_le_nb q.den
  have b1 := h.num
  have b2 := h.den
  have e : ∀ n, n ≤ 2 → n < B32 := by intro n hn; have : B32 = 4294967296 := rfl; omega
  refine ⟨lt32 _, lt32 _, ?_, ?_⟩
  · show (dig32 (nN q)).length ≤ _; unfold L32 at l1; omega
  · show (dig32 (if q.den = 1 then 0 else q.den)).length ≤ _
    split
    · have : (dig32 0).length = 0 := by decide
      omega
    · unfold L32 at l2; omega
noncomputable def envCn (F : TypeId) : Env := envOf [rofC F, ratC F]
theorem envCn_ok (F : TypeId) : EnvOK Tryd.prog F tbX (envCn F) := envOf_ok _
theorem canon_wp (F : TypeId) (q : Rat) (hq : Bd 100000 q) (K : Except Int SV → Prop) (hK : ∀ r, SubE r (.ok (.bool true)) → K r) :
    wpF tbX (envCn F) (wpDraw tbX (envCn F)) Tryd.f87 [(xT (cT q)).sv] K := by
  have h30 := c30
  have hx := xT_ok hq
  have l1 : (dig32 (cT q).2.1).length ≤ 2097152 := hx.nl
  have l2 : (dig32 (cT q).2.2).length ≤ 2097152 := hx.dl
  have E : (cT (vQ (tF (xT (cT q)).q))) = cT q := by rw [vQ_tF, xT_q]
  refine And.intro hx ?_
  refine And.intro ((xT (cT q)).okQ hx) ?_
  refine ifB_mk (fun h => ?_) (fun h => ?_)
  · exfalso
    have : ((cT q).1 != (cT (vQ (tF (xT (cT q)).q))).1) = true := h
    rw [E] at this
    simp at this
  · refine ifB_mk (fun h2 => ?_) (fun h2 => ?_)
    · exfalso
      have : (((dig32 (cT q).2.1).length : Int) != ((dig32 (cT (vQ (tF (xT (cT q)).q))).2.1).length : Int)) = true := h2
      rw [E] at this
      simp at this
    · refine ifB_mk (fun h3 => ?_) (fun h3 => ?_)
      · exfalso
        have : (((dig32 (cT q).2.2).length : Int) != ((dig32 (cT (vQ (tF (xT (cT q)).q))).2.2).length : Int)) = true := h3
        rw [E] at this
        simp at this
      · show ∃ n, wpLoop _ n _ _
        refine loop_rule (fun n st => ∃ (k : Int), (n : Int) = (dig32 (cT q).2.1).length - k ∧ 0 ≤ k ∧ ∃ x, st = ⟨pat x 0 [none, some (.ptr 0 0), none, some (.ptr 1 0), none, none, none, none, none, none, none, none, none, none, none, none, none, none, none, none, none, none, none, none, none, none, none, none, none, none, none, none, none, none, some (.int .i64 (List.length (dig32 (cT q).2.1) : Nat)), some (.int .i64 k), none, none, none, none, none, none, none, none, none, none, none, none, none, none, none, none, none, none, none, none, none, none, none, none, none, none, none, none, none, none, none, none], [.var 24 [.bool (cT q).1, .words (dig32 (cT q).2.1), .words (dig32 (cT q).2.2)], .var 24 [.bool (cT (vQ (tF (xT (cT q)).q))).1, .n32 (cT (vQ (tF (xT (cT q)).q))).2.1, .n32 (cT (vQ (tF (xT (cT q)).q))).2.2]]⟩) ?stepF21F (n := (dig32 (cT q).2.1).length) ?initF21F
        case initF21F => exact ⟨0, by omega, by omega, (fits (.n (.s rfl (.n (.s rfl (.n (.n (.n (.n (.n (.n (.n (.n (.n (.n (.n (.n (.n (.n (.n (.n (.n (.n (.n (.n (.n (.n (.n (.n (.n (.n (.n (.n (.n (.n (.s rfl (.s rfl (.n (.n (.n (.n (.n (.n (.n (.n (.n (.n (.n (.n (.n (.n (.n (.n (.n (.n (.n (.n (.n (.n (.n (.n (.n (.n (.n (.n (.n (.n (.n (.n .nil)))))))))))))))))))))))))))))))))))))))))))))))))))))))))))))))))))))⟩
        case stepF21F =>
          rintro n st K' hK1 hK2 ⟨k, hn, hk, x, rfl⟩
          refine ifB_mk (fun g => ?_) (fun g => ?_)
          · have g1 : k < ((dig32 (cT q).2.1).length : Int) := @of_decide_eq_true _ (Classical.propDecidable _) g
            refine And.intro (by kernel_rfl) (Or.inl ?_)
            refine And.intro ⟨hk, g1⟩ ?_
            refine And.intro ⟨hk, by show k < ((dig32 (cT (vQ (tF (xT (cT q)).q))).2.1).length : Int); rw [E]; exact g1⟩ ?_
            refine ifB_mk (fun g2 => ?_) (fun g2 => ?_)
            · exfalso
              have : ((((dig32 (cT q).2.1).getD k.toNat 0 : Nat) : Int) != (((dig32 (cT (vQ (tF (xT (cT q)).q))).2.1).getD k.toNat 0 : Nat) : Int)) = true := g2
              rw [E] at this
              simp at this
            · have : (dig32 (cT q).2.1).length ≤ 2097152 := l1
              refine And.intro (by (try dsimp only); omega) ?_
              refine hK1 (n - 1) _ (by omega) ⟨k + 1, by omega, by omega, ?_⟩
              exact (fits (.n (.s rfl (.n (.s rfl (.n (.n (.n (.n (.n (.n (.n (.n (.n (.n (.n (.n (.n (.n (.n (.n (.n (.n (.n (.n (.n (.n (.n (.n (.n (.n (.n (.n (.n (.n (.s rfl (.s rfl (.n (.n (.n (.n (.n (.n (.n (.n (.n (.n (.n (.n (.n (.n (.n (.n (.n (.n (.n (.n (.n (.n (.n (.n (.n (.n (.n (.n (.n (.n (.n (.n .nil)))))))))))))))))))))))))))))))))))))))))))))))))))))))))))))))))))))
          · refine hK2 _ _ (by simp) ?_
            show ∃ n, wpLoop _ n _ _
            refine loop_rule (fun n st => ∃ (k : Int), (n : Int) = (dig32 (cT q).2.2).length - k ∧ 0 ≤ k ∧ ∃ x, st = ⟨pat x 0 [none, some (.ptr 0 0), none, some (.ptr 1 0), none, none, none, none, none, none, none, none, none, none, none, none, none, none, none, none, none, none, none, none, none, none, none, none, none, none, none, none, none, none, none, none, none, none, none, none, none, none, none, none, none, none, none, none, none, none, none, none, some (.int .i64 (List.length (dig32 (cT q).2.2) : Nat)), some (.int .i64 k), none, none, none, none, none, none, none, none, none, none, none, none, none, none], [.var 24 [.bool (cT q).1, .words (dig32 (cT q).2.1), .words (dig32 (cT q).2.2)], .var 24 [.bool (cT (vQ (tF (xT (cT q)).q))).1, .n32 (cT (vQ (tF (xT (cT q)).q))).2.1, .n32 (cT (vQ (tF (xT (cT q)).q))).2.2]]⟩) ?stepF22F (n := (dig32 (cT q).2.2).length) ?initF22F
            case initF22F => exact ⟨0, by omega, by omega, (fits (.n (.s rfl (.n (.s rfl (.n (.n (.n (.n (.n (.n (.n (.n (.n (.n (.n (.n (.n (.n (.n (.n (.n (.n (.n (.n (.n (.n (.n (.n (.n (.n (.n (.n (.n (.n (.n (.n (.n (.n (.n (.n (.n (.n (.n (.n (.n (.n (.n (.n (.n (.n (.n (.n (.s rfl (.s rfl (.n (.n (.n (.n (.n (.n (.n (.n (.n (.n (.n (.n (.n (.n .nil)))))))))))))))))))))))))))))))))))))))))))))))))))))))))))))))))))))⟩
            case stepF22F =>
              rintro n st K' hK1 hK2 ⟨k, hn, hk, x, rfl⟩
              refine ifB_mk (fun g => ?_) (fun g => ?_)
              · have g1 : k < ((dig32 (cT q).2.2).length : Int) := @of_decide_eq_true _ (Classical.propDecidable _) g
                refine And.intro (by kernel_rfl) (Or.inl ?_)
                refine And.intro ⟨hk, g1⟩ ?_
                refine And.intro ⟨hk, by show k < ((dig32 (cT (vQ (tF (xT (cT q)).q))).2.2).length : Int); rw [E]; exact g1⟩ ?_
                refine ifB_mk (fun g2 => ?_) (fun g2 => ?_)
                · exfalso
                  have : ((((dig32 (cT q).2.2).getD k.toNat 0 : Nat) : Int) != (((dig32 (cT (vQ (tF (xT (cT q)).q))).2.2).getD k.toNat 0 : Nat) : Int)) = true := g2
                  rw [E] at this
                  simp at this
                · have : (dig32 (cT q).2.2).length ≤ 2097152 := l2
                  refine And.intro (by (try dsimp only); omega) ?_
                  refine hK1 (n - 1) _ (by omega) ⟨k + 1, by omega, by omega, ?_⟩
                  exact (fits (.n (.s rfl (.n (.s rfl (.n (.n (.n (.n (.n (.n (.n (.n (.n (.n (.n (.n (.n (.n (.n (.n (.n (.n (.n (.n (.n (.n (.n (.n (.n (.n (.n (.n (.n (.n (.n (.n (.n (.n (.n (.n (.n (.n (.n (.n (.n (.n (.n (.n (.n (.n (.n (.n (.s rfl (.s rfl (.n (.n (.n (.n (.n (.n (.n (.n (.n (.n (.n (.n (.n (.n .nil)))))))))))))))))))))))))))))))))))))))))))))))))))))))))))))))))))))
              · refine hK2 _ _ (by simp) ?_
                show K _
                exact hK _ ⟨rfl, Sub.refl _⟩
theorem canon_holds (F : TypeId) (q : Rat) (h : Bd 100000 q) : Holds Tryd.prog F 87 [(xT (cT q)).sv] (.ok (.bool true)) :=
  holds_run mixed tbX_ok (envCn_ok F) Tryd.func87 rfl (by kernel_rfl) (args := [(xT (cT q)).sv]) (canon_wp F q h _ fun _ hr => hr) (fun _ _ _ _ _ h => h)
def canonC (F : TypeId) : Con Tryd.prog F :=
  mkCon 87 (enters_of Tryd.func87 (by kernel_rfl) rfl) decX (fun x => [x.sv]) (fun x => ∃ q, Bd 100000 q ∧ x = xT (cT q)) (fun _ => .bool true) decX_sub (fun x ⟨q, h, e⟩ => e ▸ canon_holds F q h)
end Iv
end Go.Proofs.YtfajgibpidlojaaDoor
end

section
/- Canonical intervals, read again; sets whose ends are in order. No condition. -/
set_option linter.unusedVariables false
set_option linter.unusedSimpArgs false
namespace Go.Proofs.YtfajgibpidlojaaDoor
namespace Iv
open Go Go.Proofs

/-- The ends are in order. -/
def Ab.wf : Ab → Prop
  | some (some x, some y) => x ≤ y
  | _ => True
theorem sp_wf (l h : Option Rat) : (Ab.sp l h).wf := by
  unfold Ab.sp
  split
  · split
    · trivial
    · rename_i hc
      rw [cmpR_pos] at hc
      exact Rat.not_lt.1 hc
  · rename_i hn
    unfold Ab.wf
    split
    · rename_i e
      simp only [Option.some.injEq, Prod.mk.injEq] at e
      exact absurd e.2 (hn _ _ e.1)
    · trivial
theorem neg_wf {x : Ab} (h : x.wf) : x.neg.wf := by
  match x, h with
  | none, _ => trivial
  | some (none, none), _ => trivial
  | some (none, some b), _ => trivial
  | some (some a, none), _ => trivial
  | some (some a, some b), h => exact Rat.neg_le_neg h
theorem sum_wf {x y : Ab} (h : x.wf) (k : y.wf) : (x.sum y).wf := by
  match x, y, h, k with
  | none, _, _, _ => trivial
  | some (a, b), none, _, _ => trivial
  | some (none, b), some (c, d), _, _ => trivial
  | some (some a, none), some (none, d), _, _ => trivial
  | some (some a, none), some (some c, d), _, _ => trivial
  | some (some a, some b), some (none, d), _, _ => trivial
  | some (some a, some b), some (some c, none), _, _ => trivial
  | some (some a, some b), some (some c, some d), h, k =>
    have h1 : a ≤ b := h
    have h2 : c ≤ d := k
    show a + c ≤ b + d
    grind
theorem grid_le (p : Nat) (q : Rat) : gridR false p q ≤ q := by
  have hP : (0 : Rat) < ((2 ^ p : Nat) : Rat) := by
    have : 0 < 2 ^ p := Nat.two_pow_pos p
    exact_mod_cast this
  have e1 : q * ((2 ^ p : Nat) : Rat) = mkRat (q.num * 2 ^ p) q.den := by
    have hq := Rat.mkRat_self q
    rw [Rat.mkRat_eq_div] at hq
    rw [Rat.mkRat_eq_div]
    conv => lhs; rw [← hq]
    rw [Rat.div_def, Rat.div_def, Rat.intCast_mul, Rat.mul_assoc, Rat.mul_assoc, Rat.mul_comm _ (((2 ^ p : Nat) : Rat))]
    congr 2
  have e2 := Rat.floor_le (q * ((2 ^ p : Nat) : Rat))
  rw [e1, floor_mkRat _ q.den_pos, ← e1] at e2
  unfold gridR
  simp only [Bool.false_eq_true, if_false]
  rw [Rat.mkRat_eq_div, Rat.div_def]
  have h3 := Rat.mul_le_mul_of_nonneg_right e2 (Rat.le_of_lt (Rat.inv_pos.2 hP))
  rw [Rat.mul_assoc, Rat.mul_inv_cancel _ (Rat.ne_of_gt hP), Rat.mul_one] at h3
  exact h3
theorem le_grid (p : Nat) (q : Rat) : q ≤ gridR true p q := by
  have h := grid_le p (-q)
  have e : gridR true p q = -(gridR false p (-q)) := by
    unfold gridR
    simp only [Bool.false_eq_true, if_false, if_true]
    rw [Rat.neg_mkRat, Rat.neg_num, Rat.neg_den, Int.neg_mul]
  rw [e]
  grind
theorem hull_wf {x : Ab} (p : Nat) (h : x.wf) : (x.hull p).wf := by
  match x, h with
  | none, _ => trivial
  | some (none, none), _ => trivial
  | some (none, some b), _ => trivial
  | some (some a, none), _ => trivial
  | some (some a, some b), h =>
    have h1 : a ≤ b := h
    exact Rat.le_trans (grid_le p a) (Rat.le_trans h1 (le_grid p b))
/-! ### A canonical value, read again -/
def yZ (z : Z) : Y := ⟨xT z.lo, xT z.hi, z.li, z.hf⟩
theorem xT_num {q : Rat} (h : fitR q = true) : numOk (xT (cT q)) = true := by
  have hb := bd_fit h
  have e := xT_q q
  have h1 : (xT (cT q)).n = nN q := by unfold X.n xT cT; exact val_dig32 _
  have h2 : val B32 (xT (cT q)).den = if q.den = 1 then 0 else q.den := by unfold xT cT; exact val_dig32 _
  have l1 := len32_iff (nN q) 256
  have l2 := len32_iff (if q.den = 1 then 0 else q.den) 256
  have b1 := hb.num
  have b2 := hb.den
  have b3 : nb (if q.den = 1 then 0 else q.den) ≤ 2048 := by
    split
    · rw [nb_zero]; omega
    · exact b2
  unfold numOk long
  rw [e, h1, h2]
  unfold fitR at h
  rw [h]
  simp only [Bool.and_true, Bool.not_eq_true', decide_eq_false_iff_not]
  unfold L32
  omega
theorem zT_cT (o : Option Rat) : zT o = cT (o.getD 0) := by
  cases o with
  | none => exact cT_zero.symm
  | some q => rfl
theorem yZ_parts (A : Ab) (hf : A.fits = true) : ∃ x y, fitR x = true ∧ fitR y = true ∧ (cz A).lo = cT x ∧ (cz A).hi = cT y := by
  cases A with
  | none => exact ⟨1, 0, by decide, by decide, rfl, cT_zero.symm⟩
  | some p =>
    obtain ⟨a, b⟩ := p
    have h : (a.all fitR && b.all fitR) = true := hf
    rw [Bool.and_eq_true] at h
    refine ⟨a.getD 0, b.getD 0, ?_, ?_, zT_cT a, zT_cT b⟩
    · cases a with
      | none => decide
      | some q => simpa using h.1
    · cases b with
      | none => decide
      | some q => simpa using h.2
theorem bd_big {q : Rat} (h : fitR q = true) : Bd 100000 q := (bd_fit h).mono (by decide)
theorem yZ_ok (A : Ab) (hf : A.fits = true) : (yZ (cz A)).ok ∧ (yZ (cz A)).good = true := by
  obtain ⟨x, y, h1, h2, e1, e2⟩ := yZ_parts A hf
  unfold yZ
  rw [e1, e2]
  refine ⟨⟨xT_ok (bd_big h1), xT_ok (bd_big h2)⟩, ?_⟩
  show (numOk (xT (cT x)) && numOk (xT (cT y))) = true
  rw [xT_num h1, xT_num h2]; rfl
theorem yZ_ab (A : Ab) (hw : A.wf) : (yZ (cz A)).ab = A := by
  match A, hw with
  | none, _ =>
    show Ab.sp (some (xT (cT 1)).q) (some (xT t0).q) = none
    rw [← cT_zero, xT_q, xT_q]
    unfold Ab.sp
    exact if_pos (by decide)
  | some (none, none), _ => rfl
  | some (none, some b), _ => show Ab.sp none (some (xT (cT b)).q) = _; rw [xT_q]; rfl
  | some (some a, none), _ => show Ab.sp (some (xT (cT a)).q) none = _; rw [xT_q]; rfl
  | some (some a, some b), h =>
    show Ab.sp (some (xT (cT a)).q) (some (xT (cT b)).q) = _
    rw [xT_q, xT_q]
    unfold Ab.sp
    exact if_neg (by rw [cmpR_pos]; exact Rat.not_lt.2 h)
end Iv
end Go.Proofs.YtfajgibpidlojaaDoor
end

section
/- Contracts of what the laws ask: None, Canonical, Same, Is, yes. Conditions: the answers agree, and are canonical or nothing. -/
set_option linter.unusedVariables false
set_option linter.unusedSimpArgs false
set_option maxHeartbeats 4000000
set_option maxRecDepth 8000
namespace Go.Proofs.YtfajgibpidlojaaDoor
namespace Iv
open Go Go.Proofs

/-! ### None -/
theorem none1_wp (K : Except Int SV → Prop) (hK : ∀ r, SubE r (.ok (.bool true)) → K r) :
    wpF tbX env0 (wpDraw tbX env0) Tryd.f86 [sT t0] K := by
  have e : (((dig32 0).length : Int) == 0) = true := by decide
  show K _
  exact hK _ ⟨rfl, Sub.refl _⟩
theorem none1_holds (F : TypeId) (p : Tr) (h : p = t0) : Holds Tryd.prog F 86 [sT p] (.ok (.bool true)) := by
  subst h
  exact holds_run mixed tbX_ok (env0X_ok F) Tryd.func86 rfl (by kernel_rfl) (args := [sT t0]) (none1_wp _ fun _ hr => hr) (fun _ _ _ _ _ h => h)
def none1C (F : TypeId) : Con Tryd.prog F :=
  mkCon 86 (enters_of Tryd.func86 (by kernel_rfl) rfl) decF (fun p => [sT p]) (fun p => p = t0) (fun _ => .bool true) decF_sub (none1_holds F)
def decZ1 : SV → Option Z
  | .agg [.bool a, b, c, .bool d, e, f, .bool g, .bool h] => match asN32 b, asN32 c, asN32 e, asN32 f with
    | some b, some c, some e, some f => some ⟨(a, b, c), (d, e, f), g, h⟩
    | _, _, _, _ => none
  | _ => none
theorem decZ1_sub (x : SV) (p : Z) (h : decZ1 x = some p) : Sub x p.sv := by
  unfold decZ1 at h
  split at h
  · split at h
    · rename_i hb hc he hf
      simp only [Option.some.injEq] at h
      subst h
      exact Sub.agg (SubL.cons (Sub.refl _) (SubL.cons (asN32_sub hb) (SubL.cons (asN32_sub hc) (SubL.cons (Sub.refl _) (SubL.cons (asN32_sub he) (SubL.cons (asN32_sub hf) (SubL.cons (Sub.refl _) (SubL.cons (Sub.refl _) SubL.nil))))))))
    · cases h
  · cases h
def decZ : List SV → Option Z
  | [x] => decZ1 x
  | _ => none
theorem decZ_sub (xs : List SV) (p : Z) (h : decZ xs = some p) : SubL xs [p.sv] := by
  unfold decZ at h
  split at h
  · exact SubL.cons (decZ1_sub _ _ h) SubL.nil
  · cases h
noncomputable def envN3 (F : TypeId) : Env := envOf [none1C F]
theorem envN3_ok (F : TypeId) : EnvOK Tryd.prog F tbX (envN3 F) := envOf_ok _
theorem none3_wp (F : TypeId) (K : Except Int SV → Prop) (hK : ∀ r, SubE r (.ok (.bool true)) → K r) :
    wpF tbX (envN3 F) (wpDraw tbX (envN3 F)) Tryd.f48 [z0.sv] K := by
  refine And.intro rfl ?_
  refine And.intro rfl ?_
  show K _
  exact hK _ ⟨rfl, Sub.refl _⟩
theorem none3_holds (F : TypeId) (p : Z) (h : p = z0) : Holds Tryd.prog F 48 [p.sv] (.ok (.bool true)) := by
  subst h
  exact holds_run mixed tbX_ok (envN3_ok F) Tryd.func48 rfl (by kernel_rfl) (args := [z0.sv]) (none3_wp F _ fun _ hr => hr) (fun _ _ _ _ _ h => h)
def none3C (F : TypeId) : Con Tryd.prog F :=
  mkCon 48 (enters_of Tryd.func48 (by kernel_rfl) rfl) decZ (fun p => [p.sv]) (fun p => p = z0) (fun _ => .bool true) decZ_sub (none3_holds F)
/-! ### Canonical -/
/-- Canonical, and of a size that fits. -/
def Z.can (z : Z) : Prop := ∃ A : Ab, A.wf ∧ A.fits = true ∧ z = cz A
theorem Sub.z (z : Z) : Sub z.sv (yZ z).sv :=
  Sub.agg (SubL.cons (Sub.refl _) (SubL.cons (Sub.of32 _) (SubL.cons (Sub.of32 _) (SubL.cons (Sub.refl _) (SubL.cons (Sub.of32 _) (SubL.cons (Sub.of32 _) (SubL.cons (Sub.refl _) (SubL.cons (Sub.refl _) SubL.nil))))))))
noncomputable def envC3 (F : TypeId) : Env := envOf [canonC F, iofC F, apiC F, sameC F]
theorem envC3_ok (F : TypeId) : EnvOK Tryd.prog F tbX (envC3 F) := envOf_ok _
theorem canon3_wp (F : TypeId) (z : Z) (hz : z.can) (K : Except Int SV → Prop) (hK : ∀ r, SubE r (.ok (.bool true)) → K r) :
    wpF tbX (envC3 F) (wpDraw tbX (envC3 F)) Tryd.f49 [(yZ z).sv] K := by
  obtain ⟨A, hw, hf, rfl⟩ := hz
  obtain ⟨x, y, h1, h2, e1, e2⟩ := yZ_parts A hf
  have e3 := yZ_ab A hw
  have e4 := yZ_ok A hf
  have e5 : cz (yZ (cz A)).rset.abq = cz A := by rw [rset_ab, e3]
  have i := rset_inv _ e4.1
  have o1 : (xT (cz A).lo).ok := e4.1.1
  have o2 : (xT (cz A).hi).ok := e4.1.2
  have c1 : ∃ q, Bd 100000 q ∧ xT (cz A).lo = xT (cT q) := ⟨x, bd_big h1, by rw [e1]⟩
  have c2 : ∃ q, Bd 100000 q ∧ xT (cz A).hi = xT (cT q) := ⟨y, bd_big h2, by rw [e2]⟩
  generalize cz A = z at *
  refine And.intro c1 ?_
  refine And.intro c2 ?_
  refine And.intro e4.1 ?_
  show wpRes _ _ (.ok (yZ z).rset.rv)
  generalize (yZ z).rset = s at *
  refine And.intro i ?_
  show wpRes _ _ (.ok (cz s.abq).sv)
  rw [e5]
  refine ifB_mk (fun g => ?_) (fun g => ?_)
  · refine ifB_mk (fun g => ?_) (fun g => ?_)
    · refine And.intro ⟨o1, o1⟩ ?_
      refine ifB_mk (fun g => ?_) (fun g => ?_)
      · refine And.intro ⟨o2, o2⟩ ?_
        show K (.ok (.bool (decide ((xT z.hi).q = (xT z.hi).q))))
        rw [decide_eq_true rfl]
        exact hK _ ⟨rfl, Sub.refl _⟩
      · exfalso
        have : decide ((xT z.lo).q = (xT z.lo).q) = false := g
        simp at this
    · exfalso
      have : (z.hf == z.hf) = false := g
      simp at this
  · exfalso
    have : (z.li == z.li) = false := g
    simp at this
theorem canon3_holds (F : TypeId) (z : Z) (h : z.can) : Holds Tryd.prog F 49 [z.sv] (.ok (.bool true)) :=
  holds_run mixed tbX_ok (envC3_ok F) Tryd.func49 rfl (by kernel_rfl) (args := [(yZ z).sv]) (canon3_wp F z h _ fun _ hr => hr) (SubL.cons (Sub.z z) SubL.nil)
def canon3C (F : TypeId) : Con Tryd.prog F :=
  mkCon 49 (enters_of Tryd.func49 (by kernel_rfl) rfl) decZ (fun p => [p.sv]) Z.can (fun _ => .bool true) decZ_sub (canon3_holds F)
/-! ### Same -/
def decZZ : List SV → Option (Z × Z)
  | [x, y] => match decZ1 x, decZ1 y with
    | some a, some b => some (a, b)
    | _, _ => none
  | _ => none
theorem decZZ_sub (xs : List SV) (p : Z × Z) (h : decZZ xs = some p) : SubL xs [p.1.sv, p.2.sv] := by
  unfold decZZ at h
  split at h
  · split at h
    · rename_i ha hb
      simp only [Option.some.injEq] at h
      subst h
      exact SubL.cons (decZ1_sub _ _ ha) (SubL.cons (decZ1_sub _ _ hb) SubL.nil)
    · cases h
  · cases h
noncomputable def envS3 (F : TypeId) : Env := envOf [iofC F, qcmpC F]
theorem envS3_ok (F : TypeId) : EnvOK Tryd.prog F tbX (envS3 F) := envOf_ok _
theorem same3_wp (F : TypeId) (z : Z) (hz : z.can) (K : Except Int SV → Prop) (hK : ∀ r, SubE r (.ok (.bool true)) → K r) :
    wpF tbX (envS3 F) (wpDraw tbX (envS3 F)) Tryd.f37 [(yZ z).sv, (yZ z).sv] K := by
  have ho : (yZ z).ok := by
    obtain ⟨A, hw, hf, rfl⟩ := hz
    exact (yZ_ok A hf).1
  have i := rset_inv _ ho
  have cc : ∀ q : Rat, cmpR q q = 0 := fun q => cmpR_eq.2 rfl
  refine And.intro (by kernel_rfl) (Or.inl ?_)
  refine And.intro ho ?_
  show wpRes _ _ (.ok (yZ z).rset.rv)
  refine And.intro ho ?_
  show wpRes _ _ (.ok (yZ z).rset.rv)
  generalize (yZ z).rset = s at *
  refine ifB_mk (fun g => ?_) (fun g => ?_)
  · have g1 : s.vo = true := g
    refine ifB_mk (fun g => ?_) (fun g => ?_)
    · show K (.ok (.bool s.vo))
      rw [g1]
      exact hK _ ⟨rfl, Sub.refl _⟩
    · have : s.vo = false := g
      rw [g1] at this
      cases this
  · have g1 : s.vo = false := g
    refine ifB_mk (fun g => ?_) (fun g => ?_)
    · have : s.vo = true := g
      rw [g1] at this
      cases this
    refine ifB_mk (fun g => ?_) (fun g => ?_)
    · refine ifB_mk (fun g => ?_) (fun g => ?_)
      · refine And.intro ⟨i.lo, i.lo⟩ ?_
        refine ifB_mk (fun g => ?_) (fun g => ?_)
        · refine And.intro ⟨i.hi, i.hi⟩ ?_
          show K (.ok (.bool (cmpR (vQ s.hi) (vQ s.hi) == 0)))
          rw [cc]
          exact hK _ ⟨rfl, Sub.refl _⟩
        · exfalso
          have : (cmpR (vQ s.lo) (vQ s.lo) == 0) = false := g
          rw [cc] at this
          cases this
      · exfalso
        have : (s.hf == s.hf) = false := g
        simp at this
    · exfalso
      have : (s.li == s.li) = false := g
      simp at this
theorem same3_holds (F : TypeId) (p : Z × Z) (h : p.1 = p.2 ∧ p.1.can) : Holds Tryd.prog F 37 [p.1.sv, p.2.sv] (.ok (.bool true)) := by
  obtain ⟨z, y⟩ := p
  obtain ⟨h1, hz⟩ := h
  dsimp only at h1 hz
  subst h1
  exact holds_run mixed tbX_ok (envS3_ok F) Tryd.func37 rfl (by kernel_rfl) (args := [(yZ z).sv, (yZ z).sv]) (same3_wp F z hz _ fun _ hr => hr) (SubL.cons (Sub.z z) (SubL.cons (Sub.z z) SubL.nil))
def same3C (F : TypeId) : Con Tryd.prog F :=
  mkCon 37 (enters_of Tryd.func37 (by kernel_rfl) rfl) decZZ (fun p => [p.1.sv, p.2.sv]) (fun p => p.1 = p.2 ∧ p.1.can) (fun _ => .bool true) decZZ_sub (same3_holds F)
/-! ### Is -/
def decIs : List SV → Option (Z × Int × Z × Int)
  | [x, .int .i64 e, y, .int .i64 f] => match decZ1 x, decZ1 y with
    | some a, some b => some (a, e, b, f)
    | _, _ => none
  | _ => none
theorem decIs_sub (xs : List SV) (p : Z × Int × Z × Int) (h : decIs xs = some p) : SubL xs [p.1.sv, .int .i64 p.2.1, p.2.2.1.sv, .int .i64 p.2.2.2] := by
  unfold decIs at h
  split at h
  · split at h
    · rename_i ha hb
      simp only [Option.some.injEq] at h
      subst h
      exact SubL.cons (decZ1_sub _ _ ha) (SubL.cons (Sub.refl _) (SubL.cons (decZ1_sub _ _ hb) (SubL.cons (Sub.refl _) SubL.nil)))
    · cases h
  · cases h
noncomputable def envIs (F : TypeId) : Env := envOf [none3C F, canon3C F, same3C F]
theorem envIs_ok (F : TypeId) : EnvOK Tryd.prog F tbX (envIs F) := envOf_ok _
theorem is_wp (F : TypeId) (z : Z) (e : Int) (h : (¬ e = 0 ∧ z = z0) ∨ (e = 0 ∧ z.can)) (K : Except Int SV → Prop) (hK : ∀ r, SubE r (.ok (.bool true)) → K r) :
    wpF tbX (envIs F) (wpDraw tbX (envIs F)) Tryd.f13 [z.sv, .int .i64 e, z.sv, .int .i64 e] K := by
  refine ifB_mk (fun g => ?_) (fun g => ?_)
  · exfalso
    have : (e != e) = true := g
    simp at this
  · refine ifB_mk (fun g2 => ?_) (fun g2 => ?_)
    · have g3 : ¬ e = 0 := by
        have : (e != 0) = true := g2
        simpa using this
      rcases h with h | h
      · refine And.intro h.2 ?_
        show K _
        exact hK _ ⟨rfl, Sub.refl _⟩
      · exact absurd h.1 g3
    · have g3 : e = 0 := by
        have : (e != 0) = false := g2
        simpa using this
      rcases h with h | h
      · exact absurd g3 h.1
      · refine And.intro h.2 ?_
        refine And.intro ⟨rfl, h.2⟩ ?_
        show K _
        exact hK _ ⟨rfl, Sub.refl _⟩
theorem is_holds (F : TypeId) (p : Z × Int × Z × Int) (h : p.1 = p.2.2.1 ∧ p.2.1 = p.2.2.2 ∧ ((¬ p.2.1 = 0 ∧ p.1 = z0) ∨ (p.2.1 = 0 ∧ p.1.can))) :
    Holds Tryd.prog F 13 [p.1.sv, .int .i64 p.2.1, p.2.2.1.sv, .int .i64 p.2.2.2] (.ok (.bool true)) := by
  obtain ⟨z, e, y, f⟩ := p
  obtain ⟨h1, h2, h⟩ := h
  dsimp only at h1 h2 h
  subst h1
  subst h2
  exact holds_run mixed tbX_ok (envIs_ok F) Tryd.func13 rfl (by kernel_rfl) (args := [z.sv, .int .i64 e, z.sv, .int .i64 e]) (is_wp F z e h _ fun _ hr => hr) (fun _ _ _ _ _ h => h)
def isC (F : TypeId) : Con Tryd.prog F :=
  mkCon 13 (enters_of Tryd.func13 (by kernel_rfl) rfl) decIs (fun p => [p.1.sv, .int .i64 p.2.1, p.2.2.1.sv, .int .i64 p.2.2.2]) (fun p => p.1 = p.2.2.1 ∧ p.2.1 = p.2.2.2 ∧ ((¬ p.2.1 = 0 ∧ p.1 = z0) ∨ (p.2.1 = 0 ∧ p.1.can))) (fun _ => .bool true) decIs_sub (is_holds F)
end Iv
end Go.Proofs.YtfajgibpidlojaaDoor
end

section
/- Contracts of the intervals' functions, part A: must, precise, least, greatest, number, signs, minus. Conditions: the sizes. -/
set_option linter.unusedVariables false
set_option linter.unusedSimpArgs false
set_option maxHeartbeats 4000000
set_option maxRecDepth 8000
namespace Go.Proofs.YtfajgibpidlojaaDoor
namespace Iv
open Go Go.Proofs

/-- The type of the failure that ends an operation. -/
def FF : TypeId := 126
theorem must_zero (w : World) : Calls Tryd.prog 77 #[.int .i64 0] w fun e w' => e = .returned (.tuple #[]) ∧ w' = w := by
  go_enter Tryd.func77, Tryd.ntmps77
  go_wp2
  simp [bodyPost, results, Tryd.results77]
theorem must_err (k : Int) (hk : ¬ k = 0) (w : World) : Calls Tryd.prog 77 #[.int .i64 k] w fun e w' => e = .panicked [{ v := failV FF k, recovered := false }] ∧ w' = w := by
  go_enter Tryd.func77, Tryd.ntmps77
  go_wp2
  simp [Oper.upon, go_sem, Result.andThen, Instr.panic, Exit.thenS, bodyPost, Sem.run, failV, FF]
  exact ⟨rfl, rfl, rfl⟩
/-! ### Contracts with an error -/
section
variable {P : Program} {F : TypeId}
def specE {α : Type} (dec : List SV → Option α) (pre : α → Prop) (c : α → Prop) (err : α → Int) (res : α → SV) (xs : List SV) : Option (Prop × Res) :=
  match dec xs with
  | some a => some (pre a, .ite (c a) (.err (err a)) (.ok (res a)))
  | none => none
open Classical in
/-- What is answered: the error, if c holds. -/
noncomputable def exE (c : Prop) (e : Int) (x : SV) : Except Int SV := if c then .error e else .ok x
def mkConE {α : Type} (f : FuncId) (ent : Enters P f) (dec : List SV → Option α) (args : α → List SV) (pre c : α → Prop) (err : α → Int) (res : α → SV) (hd : ∀ xs a, dec xs = some a → SubL xs (args a))
    (h : ∀ a, pre a → Holds P F f (args a) (exE (c a) (err a) (res a))) : Con P F where
  f := f
  spec := specE dec pre c err res
  ent := ent
  ok := fun xs p r hs hp => by
    unfold specE at hs
    split at hs
    · rename_i a ha
      simp only [Option.some.injEq, Prod.mk.injEq] at hs
      obtain ⟨rfl, rfl⟩ := hs
      have hh := h a hp
      have hsub := hd xs a ha
      have e : (Res.ite (c a) (.err (err a)) (.ok (res a))).pick = exE (c a) (err a) (res a) := by
        unfold exE Res.pick
        split <;> rfl
      rw [e]
      exact fun M w vs hM hargs => hh M w vs hM (hsub _ _ _ _ _ hargs)
    · cases hs
theorem exE_err {c : Prop} {e : Int} {x : SV} (h : c) : exE c e x = .error e := if_pos h
theorem exE_ok {c : Prop} {e : Int} {x : SV} (h : ¬ c) : exE c e x = .ok x := if_neg h
end
theorem must_holds (k : Int) (h : True) : Holds Tryd.prog FF 77 [.int .i64 k] (exE (¬ k = 0) k (.tup [])) := by
  intro M w vs hM ha
  obtain ⟨v, vs', rfl, hv, hvs⟩ := ha
  simp only [RpL] at hvs
  subst hvs
  have hv' : v = .int .i64 k := hv
  subst hv'
  by_cases hk : k = 0
  · rw [exE_ok (by simpa using hk)]
    subst hk
    refine (must_zero w).mono ?_
    rintro e w' ⟨rfl, rfl⟩
    exact ⟨Go.RowKit.Below.refl _ _, _, rfl, rfl, ⟨[], rfl, rfl⟩⟩
  · rw [exE_err hk]
    refine (must_err k hk w).mono ?_
    rintro e w' ⟨rfl, rfl⟩
    exact ⟨Go.RowKit.Below.refl _ _, rfl⟩
def mustC : Con Tryd.prog FF :=
  mkConE 77 (enters_of Tryd.func77 (by kernel_rfl) rfl) dec_i64 (fun k => [.int .i64 k]) (fun _ => True) (fun k => ¬ k = 0) (fun k => k) (fun _ => .tup []) dec_i64_sub must_holds
/-! ### precise -/
noncomputable def envMust : Env := envOf [mustC]
theorem envMust_ok : EnvOK Tryd.prog FF tbX envMust := envOf_ok _
theorem precise_wp (n lo hi : Int) (K : Except Int SV → Prop) (hK : ∀ r, SubE r (exE (n < lo ∨ hi < n) 2 (.tup [])) → K r) :
    wpF tbX envMust (wpDraw tbX envMust) Tryd.f43 [.int .i64 n, .int .i64 lo, .int .i64 hi] K := by
  have bad : (n < lo ∨ hi < n) → wpRes (fun _ => K (.ok (.tup []))) (fun e => K (.error e)) (.ite (¬ (2 : Int) = 0) (.err 2) (.ok (.tup []))) := by
    intro h
    refine ⟨fun _ => ?_, fun h => absurd (by decide) h⟩
    refine hK _ ?_
    rw [exE_err h]
    rfl
  refine ifB_mk (fun h => ?_) (fun h => ?_)
  · have h1 : n < lo := @of_decide_eq_true _ (Classical.propDecidable _) h
    refine And.intro trivial ?_
    exact bad (.inl h1)
  · have h1 : ¬ n < lo := @of_decide_eq_false _ (Classical.propDecidable _) h
    refine ifB_mk (fun h2 => ?_) (fun h2 => ?_)
    · have h3 : n > hi := of_decide_eq_true h2
      refine And.intro trivial ?_
      exact bad (.inr h3)
    · have h3 : ¬ n > hi := of_decide_eq_false h2
      show K (.ok (.tup []))
      refine hK _ ?_
      rw [exE_ok (by omega)]
      exact ⟨rfl, Sub.refl _⟩
def dec_3i : List SV → Option (Int × Int × Int)
  | [.int .i64 n, .int .i64 a, .int .i64 b] => some (n, a, b)
  | _ => none
theorem dec_3i_sub (xs : List SV) (p : Int × Int × Int) (h : dec_3i xs = some p) : SubL xs [.int .i64 p.1, .int .i64 p.2.1, .int .i64 p.2.2] := by
  unfold dec_3i at h
  split at h
  · simp only [Option.some.injEq] at h
    subst h
    exact SubL.cons (Sub.refl _) (SubL.cons (Sub.refl _) (SubL.cons (Sub.refl _) SubL.nil))
  · cases h
theorem precise_holds (p : Int × Int × Int) (h : True) : Holds Tryd.prog FF 43 [.int .i64 p.1, .int .i64 p.2.1, .int .i64 p.2.2] (exE (p.1 < p.2.1 ∨ p.2.2 < p.1) 2 (.tup [])) :=
  holds_run mixed tbX_ok envMust_ok Tryd.func43 rfl (by kernel_rfl) (args := [.int .i64 p.1, .int .i64 p.2.1, .int .i64 p.2.2]) (precise_wp p.1 p.2.1 p.2.2 _ fun _ hr => hr) (fun _ _ _ _ _ h => h)
def preciseC : Con Tryd.prog FF :=
  mkConE 43 (enters_of Tryd.func43 (by kernel_rfl) rfl) dec_3i (fun p => [.int .i64 p.1, .int .i64 p.2.1, .int .i64 p.2.2]) (fun _ => True) (fun p => p.1 < p.2.1 ∨ p.2.2 < p.1) (fun _ => 2) (fun _ => .tup []) dec_3i_sub precise_holds
/-! ### least, greatest -/
def leT (p q : Tr) : Tr := if cmpR (vF q) (vF p) < 0 then q else p
def grT (p q : Tr) : Tr := if cmpR (vF q) (vF p) > 0 then q else p
noncomputable def envFc : Env := envOf [fcmpC FF]
theorem envFc_ok : EnvOK Tryd.prog FF tbX envFc := envOf_ok _
theorem least_wp (p q : Tr) (hp : Ok p) (hq : Ok q) (K : Except Int SV → Prop) (hK : ∀ r, SubE r (.ok (sT (leT p q))) → K r) :
    wpF tbX envFc (wpDraw tbX envFc) Tryd.f114 [sT p, sT q] K := by
  refine And.intro ⟨hq, hp⟩ ?_
  refine ifB_mk (fun h => ?_) (fun h => ?_)
  · have h1 : cmpR (vF q) (vF p) < 0 := @of_decide_eq_true _ (Classical.propDecidable _) h
    have e : leT p q = q := if_pos h1
    rw [e] at hK
    show K (.ok (sT q))
    exact hK _ ⟨rfl, Sub.refl _⟩
  · have h1 : ¬ cmpR (vF q) (vF p) < 0 := @of_decide_eq_false _ (Classical.propDecidable _) h
    have e : leT p q = p := if_neg h1
    rw [e] at hK
    show K (.ok (sT p))
    exact hK _ ⟨rfl, Sub.refl _⟩
theorem greatest_wp (p q : Tr) (hp : Ok p) (hq : Ok q) (K : Except Int SV → Prop) (hK : ∀ r, SubE r (.ok (sT (grT p q))) → K r) :
    wpF tbX envFc (wpDraw tbX envFc) Tryd.f120 [sT p, sT q] K := by
  refine And.intro ⟨hq, hp⟩ ?_
  refine ifB_mk (fun h => ?_) (fun h => ?_)
  · have h1 : cmpR (vF q) (vF p) > 0 := of_decide_eq_true h
    have e : grT p q = q := if_pos h1
    rw [e] at hK
    show K (.ok (sT q))
    exact hK _ ⟨rfl, Sub.refl _⟩
  · have h1 : ¬ cmpR (vF q) (vF p) > 0 := of_decide_eq_false h
    have e : grT p q = p := if_neg h1
    rw [e] at hK
    show K (.ok (sT p))
    exact hK _ ⟨rfl, Sub.refl _⟩
theorem least_holds (p : Tr × Tr) (h : Ok p.1 ∧ Ok p.2) : Holds Tryd.prog FF 114 [sT p.1, sT p.2] (.ok (sT (leT p.1 p.2))) :=
  holds_run mixed tbX_ok envFc_ok Tryd.func114 rfl (by kernel_rfl) (args := [sT p.1, sT p.2]) (least_wp p.1 p.2 h.1 h.2 _ fun _ hr => hr) (fun _ _ _ _ _ h => h)
theorem greatest_holds (p : Tr × Tr) (h : Ok p.1 ∧ Ok p.2) : Holds Tryd.prog FF 120 [sT p.1, sT p.2] (.ok (sT (grT p.1 p.2))) :=
  holds_run mixed tbX_ok envFc_ok Tryd.func120 rfl (by kernel_rfl) (args := [sT p.1, sT p.2]) (greatest_wp p.1 p.2 h.1 h.2 _ fun _ hr => hr) (fun _ _ _ _ _ h => h)
def leastC : Con Tryd.prog FF :=
  mkCon 114 (enters_of Tryd.func114 (by kernel_rfl) rfl) decFF (fun p => [sT p.1, sT p.2]) (fun p => Ok p.1 ∧ Ok p.2) (fun p => sT (leT p.1 p.2)) decFF_sub least_holds
def greatestC : Con Tryd.prog FF :=
  mkCon 120 (enters_of Tryd.func120 (by kernel_rfl) rfl) decFF (fun p => [sT p.1, sT p.2]) (fun p => Ok p.1 ∧ Ok p.2) (fun p => sT (grT p.1 p.2)) decFF_sub greatest_holds
/-! ### number -/
noncomputable def envNum : Env := envOf [readC FF, mustC]
theorem envNum_ok : EnvOK Tryd.prog FF tbX envNum := envOf_ok _
theorem number_wp (x : X) (hx : x.ok) (K : Except Int SV → Prop) (hK : ∀ r, SubE r (exE (numOk x = false) 1 (sF x.q)) → K r) :
    wpF tbX envNum (wpDraw tbX envNum) Tryd.f71 [x.sv] K := by
  refine And.intro hx ?_
  refine ifB_mk (fun h => ?_) (fun h => ?_)
  · have h1 : numOk x = false := by
      have : (!(!long x && fit (nN x.q) x.q.den)) = true := h
      unfold numOk
      simpa only [Bool.not_eq_true'] using this
    refine And.intro trivial ?_
    refine ⟨fun _ => ?_, fun h => absurd (by decide) h⟩
    refine hK _ ?_
    rw [exE_err h1]
    rfl
  · have h1 : numOk x = true := by
      have : (!(!long x && fit (nN x.q) x.q.den)) = false := h
      unfold numOk
      simpa only [Bool.not_eq_false'] using this
    have h2 : long x = false := by
      unfold numOk at h1
      cases hl : long x
      · rfl
      · rw [hl] at h1; cases h1
    show K (.ok (.agg [.bool (!long x && nB x.q), .n32 (if long x = true then 0 else nN x.q), .n32 (if long x = true then 0 else x.q.den)]))
    refine hK _ ?_
    rw [exE_ok (by rw [h1]; decide), h2]
    exact ⟨rfl, Sub.refl _⟩
theorem number_holds (x : X) (h : x.ok) : Holds Tryd.prog FF 71 [x.sv] (exE (numOk x = false) 1 (sF x.q)) :=
  holds_run mixed tbX_ok envNum_ok Tryd.func71 rfl (by kernel_rfl) (args := [x.sv]) (number_wp x h _ fun _ hr => hr) (fun _ _ _ _ _ h => h)
def numberC : Con Tryd.prog FF :=
  mkConE 71 (enters_of Tryd.func71 (by kernel_rfl) rfl) decX (fun x => [x.sv]) X.ok (fun x => numOk x = false) (fun _ => 1) (fun x => sF x.q) decX_sub number_holds
end Iv
end Go.Proofs.YtfajgibpidlojaaDoor
end

section
/- Contracts of the intervals' functions, part B: sets: signs, minus, read, have, give, hull. Conditions: the sizes. -/
set_option linter.unusedVariables false
set_option linter.unusedSimpArgs false
set_option maxHeartbeats 4000000
set_option maxRecDepth 8000
namespace Go.Proofs.YtfajgibpidlojaaDoor
namespace Iv
open Go Go.Proofs

/-- Its finite ends are in lowest terms and of a bounded size. -/
def Se.fin (s : Se) : Prop := (s.li = false → Ok s.lo) ∧ (s.hf = false → Ok s.hi)
def decS1 : SV → Option Se
  | .agg [.bool a, b, c, .bool d, e, f, .bool g, .bool h, .bool i] => match asN32 b, asN32 c, asN32 e, asN32 f with
    | some b, some c, some e, some f => some ⟨(a, b, c), (d, e, f), g, h, i⟩
    | _, _, _, _ => none
  | _ => none
theorem decS1_sub (x : SV) (p : Se) (h : decS1 x = some p) : Sub x p.sv := by
  unfold decS1 at h
  split at h
  · split at h
    · rename_i hb hc he hf
      simp only [Option.some.injEq] at h
      subst h
      exact Sub.agg (SubL.cons (Sub.refl _) (SubL.cons (asN32_sub hb) (SubL.cons (asN32_sub hc) (SubL.cons (Sub.refl _) (SubL.cons (asN32_sub he) (SubL.cons (asN32_sub hf) (SubL.cons (Sub.refl _) (SubL.cons (Sub.refl _) (SubL.cons (Sub.refl _) SubL.nil)))))))))
    · cases h
  · cases h
def decS : List SV → Option Se
  | [x] => decS1 x
  | _ => none
theorem decS_sub (xs : List SV) (p : Se) (h : decS xs = some p) : SubL xs [p.sv] := by
  unfold decS at h
  split at h
  · exact SubL.cons (decS1_sub _ _ h) SubL.nil
  · cases h
def decSS : List SV → Option (Se × Se)
  | [x, y] => match decS1 x, decS1 y with
    | some a, some b => some (a, b)
    | _, _ => none
  | _ => none
theorem decSS_sub (xs : List SV) (p : Se × Se) (h : decSS xs = some p) : SubL xs [p.1.sv, p.2.sv] := by
  unfold decSS at h
  split at h
  · split at h
    · rename_i ha hb
      simp only [Option.some.injEq] at h
      subst h
      exact SubL.cons (decS1_sub _ _ ha) (SubL.cons (decS1_sub _ _ hb) SubL.nil)
    · cases h
  · cases h
/-! ### minus -/
def opT (p : Tr) : Tr := (!p.1 && !decide (p.2.1 = 0), p.2.1, p.2.2)
def Se.minus (s : Se) : Se := ⟨opT s.hi, opT s.lo, s.hf, s.li, s.vo⟩
noncomputable def envMinus : Env := envOf [oppC FF]
theorem envMinus_ok : EnvOK Tryd.prog FF tbX envMinus := envOf_ok _
theorem minus_wp (s : Se) (K : Except Int SV → Prop) (hK : ∀ r, SubE r (.ok s.minus.sv) → K r) :
    wpF tbX envMinus (wpDraw tbX envMinus) Tryd.f64 [s.sv] K := by
  refine And.intro (by kernel_rfl) (Or.inl ?_)
  refine And.intro trivial ?_
  refine And.intro trivial ?_
  show K (.ok s.minus.sv)
  exact hK _ ⟨rfl, Sub.refl _⟩
theorem minus_holds (s : Se) (h : True) : Holds Tryd.prog FF 64 [s.sv] (.ok s.minus.sv) :=
  holds_run mixed tbX_ok envMinus_ok Tryd.func64 rfl (by kernel_rfl) (args := [s.sv]) (minus_wp s _ fun _ hr => hr) (fun _ _ _ _ _ h => h)
def minusC : Con Tryd.prog FF :=
  mkCon 64 (enters_of Tryd.func64 (by kernel_rfl) rfl) decS (fun s => [s.sv]) (fun _ => True) (fun s => s.minus.sv) decS_sub minus_holds
/-! ### signs -/
def Se.sl (s : Se) : Int := if s.li = true then -1 else sgZ s.lo.1 s.lo.2.1
def Se.sh (s : Se) : Int := if s.hf = true then 1 else sgZ s.hi.1 s.hi.2.1
noncomputable def envSign : Env := envOf [signC FF]
theorem envSign_ok : EnvOK Tryd.prog FF tbX envSign := envOf_ok _
theorem signs_wp (s : Se) (K : Except Int SV → Prop) (hK : ∀ r, SubE r (.ok (.tup [.int .i64 s.sl, .int .i64 s.sh])) → K r) :
    wpF tbX envSign (wpDraw tbX envSign) Tryd.f94 [s.sv] K := by
  obtain ⟨lo, hi, li, hf, vo⟩ := s
  cases li <;> cases hf
  · refine And.intro trivial ?_
    refine And.intro trivial ?_
    exact hK _ ⟨rfl, Sub.refl _⟩
  · refine And.intro trivial ?_
    exact hK _ ⟨rfl, Sub.refl _⟩
  · refine And.intro trivial ?_
    exact hK _ ⟨rfl, Sub.refl _⟩
  · exact hK _ ⟨rfl, Sub.refl _⟩
theorem signs_holds (s : Se) (h : True) : Holds Tryd.prog FF 94 [s.sv] (.ok (.tup [.int .i64 s.sl, .int .i64 s.sh])) :=
  holds_run mixed tbX_ok envSign_ok Tryd.func94 rfl (by kernel_rfl) (args := [s.sv]) (signs_wp s _ fun _ hr => hr) (fun _ _ _ _ _ h => h)
def signsC : Con Tryd.prog FF :=
  mkCon 94 (enters_of Tryd.func94 (by kernel_rfl) rfl) decS (fun s => [s.sv]) (fun _ => True) (fun s => .tup [.int .i64 s.sl, .int .i64 s.sh]) decS_sub signs_holds
/-! ### read -/
def Y.set (y : Y) : Se := ⟨tF y.lo.q, tF y.hi.q, y.li, y.hf, !y.li && !y.hf && decide (cmpR (vF (tF y.lo.q)) (vF (tF y.hi.q)) > 0)⟩
theorem numOk_ok {x : X} (h : numOk x = true) : Ok (tF x.q) ∧ nb (nN x.q) ≤ 2048 ∧ nb x.q.den ≤ 2048 := by
  have h1 : nb (nN x.q) ≤ 2048 ∧ nb x.q.den ≤ 2048 := by
    unfold numOk fit at h
    simp only [Bool.and_eq_true, decide_eq_true_eq] at h
    exact h.2
  have := fb_eq
  exact ⟨ok_tF (by omega) (by omega), h1⟩
noncomputable def envRd : Env := envOf [numberC, fcmpC FF]
theorem envRd_ok : EnvOK Tryd.prog FF tbX envRd := envOf_ok _
theorem sread_wp (y : Y) (hy : y.ok) (K : Except Int SV → Prop) (hK : ∀ r, SubE r (exE (y.good = false) 1 y.set.sv) → K r) :
    wpF tbX envRd (wpDraw tbX envRd) Tryd.f68 [y.sv] K := by
  have bad : y.good = false → K (.error 1) := by
    intro h
    refine hK _ ?_
    rw [exE_err h]
    rfl
  refine And.intro (by kernel_rfl) (Or.inl ?_)
  refine And.intro hy.1 ?_
  refine And.intro (fun h => ?_) (fun h => ?_)
  · show K (.error 1)
    exact bad (by unfold Y.good; rw [show numOk y.lo = false from h]; rfl)
  have h1 : numOk y.lo = true := by
    have : ¬ numOk y.lo = false := h
    simpa only [Bool.not_eq_false] using this
  refine And.intro hy.2 ?_
  refine And.intro (fun h => ?_) (fun h2 => ?_)
  · show K (.error 1)
    exact bad (by unfold Y.good; rw [show numOk y.hi = false from h, Bool.and_false])
  have h3 : numOk y.hi = true := by
    have : ¬ numOk y.hi = false := h2
    simpa only [Bool.not_eq_false] using this
  have hg : ¬ y.good = false := by unfold Y.good; rw [h1, h3]; decide
  have o1 := (numOk_ok h1).1
  have o2 := (numOk_ok h3).1
  obtain ⟨lo, hi, li, hf⟩ := y
  rw [exE_ok hg] at hK
  cases li <;> cases hf
  · refine And.intro ⟨o1, o2⟩ ?_
    exact hK _ ⟨rfl, Sub.refl _⟩
  · exact hK _ ⟨rfl, Sub.refl _⟩
  · exact hK _ ⟨rfl, Sub.refl _⟩
  · exact hK _ ⟨rfl, Sub.refl _⟩
theorem sread_holds (y : Y) (h : y.ok) : Holds Tryd.prog FF 68 [y.sv] (exE (y.good = false) 1 y.set.sv) :=
  holds_run mixed tbX_ok envRd_ok Tryd.func68 rfl (by kernel_rfl) (args := [y.sv]) (sread_wp y h _ fun _ hr => hr) (fun _ _ _ _ _ h => h)
def sreadC : Con Tryd.prog FF :=
  mkConE 68 (enters_of Tryd.func68 (by kernel_rfl) rfl) decY (fun y => [y.sv]) Y.ok (fun y => y.good = false) (fun _ => 1) (fun y => y.set.sv) decY_sub sread_holds
/-! ### have -/
def decFi : List SV → Option (Tr × Int)
  | [x, .int .i64 e] => match decF [x] with
    | some p => some (p, e)
    | _ => none
  | _ => none
theorem decFi_sub (xs : List SV) (p : Tr × Int) (h : decFi xs = some p) : SubL xs [sT p.1, .int .i64 p.2] := by
  unfold decFi at h
  split at h
  · split at h
    · rename_i x k p1 hp
      simp only [Option.some.injEq] at h
      subst h
      have h1 := decF_sub _ _ hp
      refine SubL.cons (fun M N bnd w v hv => ?_) (SubL.cons (Sub.refl _) SubL.nil)
      obtain ⟨v', vs', e, hv', _⟩ := h1 M N bnd w [v] ⟨v, [], rfl, hv, rfl⟩
      simp only [List.cons.injEq] at e
      exact e.1 ▸ hv'
    · cases h
  · cases h
theorem have_wp (p : Tr) (e : Int) (K : Except Int SV → Prop) (hK : ∀ r, SubE r (exE (¬ e = 0) e (sT p)) → K r) :
    wpF tbX envMust (wpDraw tbX envMust) Tryd.f82 [sT p, .int .i64 e] K := by
  refine And.intro trivial ⟨fun h => ?_, fun h => ?_⟩
  · have h1 : ¬ e = 0 := h
    rw [exE_err h1] at hK
    exact hK _ rfl
  · have h1 : ¬ ¬ e = 0 := h
    rw [exE_ok h1] at hK
    exact hK _ ⟨rfl, Sub.refl _⟩
theorem have_holds (p : Tr × Int) (h : True) : Holds Tryd.prog FF 82 [sT p.1, .int .i64 p.2] (exE (¬ p.2 = 0) p.2 (sT p.1)) :=
  holds_run mixed tbX_ok envMust_ok Tryd.func82 rfl (by kernel_rfl) (args := [sT p.1, .int .i64 p.2]) (have_wp p.1 p.2 _ fun _ hr => hr) (fun _ _ _ _ _ h => h)
def haveC : Con Tryd.prog FF :=
  mkConE 82 (enters_of Tryd.func82 (by kernel_rfl) rfl) decFi (fun p => [sT p.1, .int .i64 p.2]) (fun _ => True) (fun p => ¬ p.2 = 0) (fun p => p.2) (fun p => sT p.1) decFi_sub have_holds
end Iv
end Go.Proofs.YtfajgibpidlojaaDoor
end

section
/- Contracts of the intervals' functions, part C: sets: give, hull, joined, met, sum. Conditions: the sizes. -/
set_option linter.unusedVariables false
set_option linter.unusedSimpArgs false
set_option maxHeartbeats 4000000
set_option maxRecDepth 8000
namespace Go.Proofs.YtfajgibpidlojaaDoor
namespace Iv
open Go Go.Proofs

/-! ### sum -/
def Se.sum (s t : Se) : Se := ⟨if s.li || t.li then t0 else tF (vF s.lo + vF t.lo), if s.hf || t.hf then t0 else tF (vF s.hi + vF t.hi), s.li || t.li, s.hf || t.hf, false⟩
noncomputable def envSum : Env := envOf [faddC FF]
theorem envSum_ok : EnvOK Tryd.prog FF tbX envSum := envOf_ok _
theorem sum_wp (s t : Se) (hs : s.fin) (ht : t.fin) (K : Except Int SV → Prop) (hK : ∀ r, SubE r (.ok (s.sum t).sv) → K r) :
    wpF tbX envSum (wpDraw tbX envSum) Tryd.f58 [s.sv, t.sv] K := by
  obtain ⟨lo, hi, li, hf, vo⟩ := s
  obtain ⟨lo', hi', li', hf', vo'⟩ := t
  cases li <;> cases li' <;> cases hf <;> cases hf'
  · refine And.intro ⟨hs.1 rfl, ht.1 rfl⟩ ?_
    refine And.intro ⟨hs.2 rfl, ht.2 rfl⟩ ?_
    exact hK _ ⟨rfl, Sub.refl _⟩
  · refine And.intro ⟨hs.1 rfl, ht.1 rfl⟩ ?_
    exact hK _ ⟨rfl, Sub.agg (SubT3 (SubN3 (SubR _)))⟩
  · refine And.intro ⟨hs.1 rfl, ht.1 rfl⟩ ?_
    exact hK _ ⟨rfl, Sub.agg (SubT3 (SubN3 (SubR _)))⟩
  · refine And.intro ⟨hs.1 rfl, ht.1 rfl⟩ ?_
    exact hK _ ⟨rfl, Sub.agg (SubT3 (SubN3 (SubR _)))⟩
  · refine And.intro ⟨hs.2 rfl, ht.2 rfl⟩ ?_
    exact hK _ ⟨rfl, Sub.agg (SubN3 (SubR _))⟩
  · exact hK _ ⟨rfl, Sub.agg (SubN3 (SubN3 (SubR _)))⟩
  · exact hK _ ⟨rfl, Sub.agg (SubN3 (SubN3 (SubR _)))⟩
  · exact hK _ ⟨rfl, Sub.agg (SubN3 (SubN3 (SubR _)))⟩
  · refine And.intro ⟨hs.2 rfl, ht.2 rfl⟩ ?_
    exact hK _ ⟨rfl, Sub.agg (SubN3 (SubR _))⟩
  · exact hK _ ⟨rfl, Sub.agg (SubN3 (SubN3 (SubR _)))⟩
  · exact hK _ ⟨rfl, Sub.agg (SubN3 (SubN3 (SubR _)))⟩
  · exact hK _ ⟨rfl, Sub.agg (SubN3 (SubN3 (SubR _)))⟩
  · refine And.intro ⟨hs.2 rfl, ht.2 rfl⟩ ?_
    exact hK _ ⟨rfl, Sub.agg (SubN3 (SubR _))⟩
  · exact hK _ ⟨rfl, Sub.agg (SubN3 (SubN3 (SubR _)))⟩
  · exact hK _ ⟨rfl, Sub.agg (SubN3 (SubN3 (SubR _)))⟩
  · exact hK _ ⟨rfl, Sub.agg (SubN3 (SubN3 (SubR _)))⟩
theorem sum_holds (p : Se × Se) (h : p.1.fin ∧ p.2.fin) : Holds Tryd.prog FF 58 [p.1.sv, p.2.sv] (.ok (p.1.sum p.2).sv) :=
  holds_run mixed tbX_ok envSum_ok Tryd.func58 rfl (by kernel_rfl) (args := [p.1.sv, p.2.sv]) (sum_wp p.1 p.2 h.1 h.2 _ fun _ hr => hr) (fun _ _ _ _ _ h => h)
def sumC : Con Tryd.prog FF :=
  mkCon 58 (enters_of Tryd.func58 (by kernel_rfl) rfl) decSS (fun p => [p.1.sv, p.2.sv]) (fun p => p.1.fin ∧ p.2.fin) (fun p => (p.1.sum p.2).sv) decSS_sub sum_holds
/-! ### hull -/
def Se.hull (s : Se) (k : Nat) : Se := if s.vo then s else ⟨if s.li then s.lo else tF (gridR false k (vF s.lo)), if s.hf then s.hi else tF (gridR true k (vF s.hi)), s.li, s.hf, false⟩
noncomputable def envHull : Env := envOf [gridC FF]
theorem envHull_ok : EnvOK Tryd.prog FF tbX envHull := envOf_ok _
theorem hull_wp (s : Se) (k : Int) (hs : s.vo = false → s.fin) (h0 : 0 ≤ k) (h1 : k ≤ 1000) (K : Except Int SV → Prop) (hK : ∀ r, SubE r (.ok (s.hull k.toNat).sv) → K r) :
    wpF tbX envHull (wpDraw tbX envHull) Tryd.f44 [s.sv, .int .i64 k] K := by
  obtain ⟨lo, hi, li, hf, vo⟩ := s
  cases vo
  · have hs' := hs rfl
    cases li <;> cases hf
    · refine And.intro ⟨hs'.1 rfl, h0, h1⟩ ?_
      refine And.intro ⟨hs'.2 rfl, h0, h1⟩ ?_
      exact hK _ ⟨rfl, Sub.refl _⟩
    · refine And.intro ⟨hs'.1 rfl, h0, h1⟩ ?_
      exact hK _ ⟨rfl, Sub.refl _⟩
    · refine And.intro ⟨hs'.2 rfl, h0, h1⟩ ?_
      exact hK _ ⟨rfl, Sub.refl _⟩
    · exact hK _ ⟨rfl, Sub.refl _⟩
  · exact hK _ ⟨rfl, Sub.refl _⟩
def decSi : List SV → Option (Se × Int)
  | [x, .int .i64 k] => match decS1 x with
    | some a => some (a, k)
    | _ => none
  | _ => none
theorem decSi_sub (xs : List SV) (p : Se × Int) (h : decSi xs = some p) : SubL xs [p.1.sv, .int .i64 p.2] := by
  unfold decSi at h
  split at h
  · split at h
    · rename_i ha
      simp only [Option.some.injEq] at h
      subst h
      exact SubL.cons (decS1_sub _ _ ha) (SubL.cons (Sub.refl _) SubL.nil)
    · cases h
  · cases h
theorem hull_holds (p : Se × Int) (h : (p.1.vo = false → p.1.fin) ∧ 0 ≤ p.2 ∧ p.2 ≤ 1000) : Holds Tryd.prog FF 44 [p.1.sv, .int .i64 p.2] (.ok (p.1.hull p.2.toNat).sv) :=
  holds_run mixed tbX_ok envHull_ok Tryd.func44 rfl (by kernel_rfl) (args := [p.1.sv, .int .i64 p.2]) (hull_wp p.1 p.2 h.1 h.2.1 h.2.2 _ fun _ hr => hr) (fun _ _ _ _ _ h => h)
def hullC : Con Tryd.prog FF :=
  mkCon 44 (enters_of Tryd.func44 (by kernel_rfl) rfl) decSi (fun p => [p.1.sv, .int .i64 p.2]) (fun p => (p.1.vo = false → p.1.fin) ∧ 0 ≤ p.2 ∧ p.2 ≤ 1000) (fun p => (p.1.hull p.2.toNat).sv) decSi_sub hull_holds
end Iv
end Go.Proofs.YtfajgibpidlojaaDoor
end

section
/- Contracts of the intervals' functions, part D: sets: give. Conditions: the sizes. -/
set_option linter.unusedVariables false
set_option linter.unusedSimpArgs false
set_option maxHeartbeats 4000000
set_option maxRecDepth 8000
namespace Go.Proofs.YtfajgibpidlojaaDoor
namespace Iv
open Go Go.Proofs

/-! ### give -/
def gvT (p : Tr) : Tr := (gvB p.1 p.2.1 p.2.2, gvN p.2.1 p.2.2, gvD p.2.1 p.2.2)
def okT (p : Tr) : Bool := fit p.2.1 p.2.2
/-- Does the set fit? -/
def Se.fits (s : Se) : Bool := s.vo || ((s.li || okT s.lo) && (s.hf || okT s.hi))
def Se.give (s : Se) : Z := if s.vo then ⟨(false, 1, 0), t0, false, false⟩ else ⟨if s.li then t0 else gvT s.lo, if s.hf then t0 else gvT s.hi, s.li, s.hf⟩
theorem gvE_zero {n d : Nat} : gvE n d = 0 ↔ fit n d = true := by
  unfold gvE
  split
  · rename_i h; simp [h]
  · rename_i h; simp [h]
theorem fit_one : fit 1 1 = true := by unfold fit; rw [nb_one]; decide
noncomputable def envGv : Env := envOf [giveC FF, haveC, intC FF]
theorem envGv_ok : EnvOK Tryd.prog FF tbX envGv := envOf_ok _
theorem sgive_wp (s : Se) (K : Except Int SV → Prop) (hK : ∀ r, SubE r (exE (s.fits = false) 1 s.give.sv) → K r) :
    wpF tbX envGv (wpDraw tbX envGv) Tryd.f99 [s.sv] K := by
  obtain ⟨lo, hi, li, hf, vo⟩ := s
  cases vo
  · have bad : ∀ p : Tr, ¬ gvE p.2.1 p.2.2 = 0 → okT p = false ∧ gvE p.2.1 p.2.2 = 1 := by
      intro p h
      rw [gvE_zero] at h
      have h1 : okT p = false := by unfold okT; simpa using h
      refine ⟨h1, ?_⟩
      unfold gvE
      rw [if_neg h]
    have good : ∀ p : Tr, ¬ ¬ gvE p.2.1 p.2.2 = 0 → okT p = true := fun p h => gvE_zero.1 (Classical.not_not.1 h)
    have bl : li = false → okT lo = false → K (.error 1) := by
      intro h1 h2
      refine hK _ ?_
      rw [exE_err (by unfold Se.fits; simp [h1, h2])]
      rfl
    have bh : hf = false → okT hi = false → K (.error 1) := by
      intro h1 h2
      refine hK _ ?_
      rw [exE_err (by unfold Se.fits; simp [h1, h2])]
      rfl
    cases li <;> cases hf
    · refine And.intro trivial (And.intro trivial (And.intro (fun h => ?_) (fun h => ?_)))
      · obtain ⟨h1, h2⟩ := bad lo h
        show K (.error (gvE lo.2.1 lo.2.2))
        rw [h2]
        exact bl rfl h1
      have g1 := good lo h
      refine And.intro trivial (And.intro trivial (And.intro (fun h => ?_) (fun h => ?_)))
      · obtain ⟨h1, h2⟩ := bad hi h
        show K (.error (gvE hi.2.1 hi.2.2))
        rw [h2]
        exact bh rfl h1
      have g2 := good hi h
      rw [exE_ok (by unfold Se.fits; simp [g1, g2])] at hK
      exact hK _ ⟨rfl, Sub.refl _⟩
    · refine And.intro trivial (And.intro trivial (And.intro (fun h => ?_) (fun h => ?_)))
      · obtain ⟨h1, h2⟩ := bad lo h
        show K (.error (gvE lo.2.1 lo.2.2))
        rw [h2]
        exact bl rfl h1
      have g1 := good lo h
      rw [exE_ok (by unfold Se.fits; simp [g1])] at hK
      exact hK _ ⟨rfl, Sub.agg (SubT3 (SubN3 (SubR _)))⟩
    · refine And.intro trivial (And.intro trivial (And.intro (fun h => ?_) (fun h => ?_)))
      · obtain ⟨h1, h2⟩ := bad hi h
        show K (.error (gvE hi.2.1 hi.2.2))
        rw [h2]
        exact bh rfl h1
      have g2 := good hi h
      rw [exE_ok (by unfold Se.fits; simp [g2])] at hK
      exact hK _ ⟨rfl, Sub.agg (SubN3 (SubR _))⟩
    · rw [exE_ok (by unfold Se.fits; simp)] at hK
      exact hK _ ⟨rfl, Sub.agg (SubN3 (SubN3 (SubR _)))⟩
  · rw [exE_ok (by unfold Se.fits; simp)] at hK
    refine And.intro ⟨by decide, by decide⟩ ?_
    refine And.intro trivial ?_
    refine And.intro trivial (And.intro (fun h => ?_) (fun h => ?_))
    · exact absurd (gvE_zero.2 fit_one) h
    · show K (.ok (.agg [.bool (fit 1 1 && decide ((1 : Int) < 0)), .n32 (if fit 1 1 = true then 1 else 0), .n32 (if fit 1 1 = true ∧ 1 ≠ 1 then 1 else 0), .bool false, .nil, .nil, .bool false, .bool false]))
      rw [fit_one]
      exact hK _ ⟨rfl, Sub.agg (SubT3 (SubN3 (SubR _)))⟩
theorem sgive_holds (s : Se) (h : True) : Holds Tryd.prog FF 99 [s.sv] (exE (s.fits = false) 1 s.give.sv) :=
  holds_run mixed tbX_ok envGv_ok Tryd.func99 rfl (by kernel_rfl) (args := [s.sv]) (sgive_wp s _ fun _ hr => hr) (fun _ _ _ _ _ h => h)
def sgiveC : Con Tryd.prog FF :=
  mkConE 99 (enters_of Tryd.func99 (by kernel_rfl) rfl) decS (fun s => [s.sv]) (fun _ => True) (fun s => s.fits = false) (fun _ => 1) (fun s => s.give.sv) decS_sub sgive_holds
end Iv
end Go.Proofs.YtfajgibpidlojaaDoor
end

section
/- The program's sets as pairs of ends: what its operations do. No condition. -/
set_option linter.unusedVariables false
set_option linter.unusedSimpArgs false
namespace Go.Proofs.YtfajgibpidlojaaDoor
namespace Iv
open Go Go.Proofs

/-! ### The program's sets -/
def enF (i : Bool) (p : Tr) : Option Rat := if i then none else some (vF p)
def Se.ab (s : Se) : Ab := if s.vo then none else some (enF s.li s.lo, enF s.hf s.hi)
/-- The finite ends of a set that is not empty are in lowest terms and of a bounded size. -/
def Se.okk (s : Se) : Prop := s.vo = false → s.fin
theorem cT_of {p : Tr} (h : Ok p) (hf : okT p = true) : gvT p = cT (vF p) := by
  obtain ⟨e1, e2, e3⟩ := vF_parts h
  unfold okT at hf
  unfold gvT cT gvB gvN gvD
  rw [e1, e2, e3, hf]
  simp only [Bool.true_and, if_true, true_and]
  by_cases h1 : p.2.2 = 1 <;> simp [h1]
theorem fitR_vF {p : Tr} (h : Ok p) : fitR (vF p) = okT p := by
  obtain ⟨e1, e2, e3⟩ := vF_parts h
  unfold fitR okT
  rw [e2, e3]
theorem give_ab (s : Se) (h : s.okk) : s.fits = s.ab.fits ∧ (s.fits = true → s.give = cz s.ab) := by
  obtain ⟨lo, hi, li, hf, vo⟩ := s
  cases vo
  · obtain ⟨h1, h2⟩ := h rfl
    cases li <;> cases hf <;> simp only [Se.fits, Se.ab, Ab.fits, enF, Option.all, Se.give, cz, zT, Bool.false_or, Bool.true_or, if_true, Bool.false_eq_true, if_false, Option.isNone]
    · rw [fitR_vF (h1 rfl), fitR_vF (h2 rfl)]
      refine ⟨rfl, fun hf => ?_⟩
      simp only [Bool.and_eq_true] at hf
      rw [cT_of (h1 rfl) hf.1, cT_of (h2 rfl) hf.2]
    · rw [fitR_vF (h1 rfl)]
      refine ⟨rfl, fun hf => ?_⟩
      simp only [Bool.and_true] at hf
      rw [cT_of (h1 rfl) hf]
    · rw [fitR_vF (h2 rfl)]
      refine ⟨rfl, fun hf => ?_⟩
      simp only [Bool.true_and] at hf
      rw [cT_of (h2 rfl) hf]
    · first | exact ⟨rfl, fun _ => rfl⟩ | exact ⟨trivial, trivial⟩ | simp
  · exact ⟨rfl, fun _ => by simp only [Se.give, if_true, Se.ab, cz, cT_one]⟩
theorem set_ab (y : Y) : y.set.ab = y.ab := by
  obtain ⟨lo, hi, li, hf⟩ := y
  cases li <;> cases hf <;> simp only [Y.set, Se.ab, Y.ab, Ab.sp, enF, vF_tF, Bool.not_false, Bool.not_true, Bool.true_and, Bool.false_and, Bool.and_false, Bool.false_eq_true, if_false, if_true]
  by_cases h : cmpR lo.q hi.q > 0 <;> simp [h]
theorem set_fin (y : Y) (h : y.good = true) : y.set.fin := by
  unfold Y.good at h
  simp only [Bool.and_eq_true] at h
  exact ⟨fun _ => (numOk_ok h.1).1, fun _ => (numOk_ok h.2).1⟩
/-! ### What the program's operations do -/
theorem opT_ok {p : Tr} (h : Ok p) : Ok (opT p) ∧ vF (opT p) = - vF p := by
  obtain ⟨e1, e2, e3⟩ := vF_parts h
  obtain ⟨n1, n2, n3⟩ := neg_parts (vF p)
  rw [e1, e2] at n1
  rw [e2] at n2
  rw [e3] at n3
  have hc := can_self (-(vF p))
  rw [n1, n2, n3] at hc
  refine ⟨⟨hc, h.2.1, h.2.2⟩, ?_⟩
  have := rv_self (-(vF p))
  rw [n1, n2, n3] at this
  exact this
theorem minus_ab (s : Se) (h : s.okk) : s.minus.ab = s.ab.neg := by
  obtain ⟨lo, hi, li, hf, vo⟩ := s
  cases vo
  · obtain ⟨h1, h2⟩ := h rfl
    cases li <;> cases hf <;> simp only [Se.minus, Se.ab, Ab.neg, enF, Bool.false_eq_true, if_false, if_true, Option.map_some, Option.map_none]
    · rw [(opT_ok (h1 rfl)).2, (opT_ok (h2 rfl)).2]
    · rw [(opT_ok (h1 rfl)).2]
    · rw [(opT_ok (h2 rfl)).2]
  · rfl
theorem minus_okk (s : Se) (h : s.okk) : s.minus.okk := fun hv => ⟨fun hh => (opT_ok ((h hv).2 hh)).1, fun hl => (opT_ok ((h hv).1 hl)).1⟩
theorem sum_ab (s t : Se) (hs : s.vo = false) (ht : t.vo = false) : (s.sum t).ab = s.ab.sum t.ab := by
  obtain ⟨lo, hi, li, hf, vo⟩ := s
  obtain ⟨lo', hi', li', hf', vo'⟩ := t
  simp only at hs ht
  subst hs
  subst ht
  cases li <;> cases hf <;> cases li' <;> cases hf' <;> simp [Se.sum, Se.ab, Ab.sum, enF, l2, vF_tF]
theorem hull_ab (s : Se) (p : Nat) : (s.hull p).ab = s.ab.hull p := by
  obtain ⟨lo, hi, li, hf, vo⟩ := s
  cases vo <;> cases li <;> cases hf <;> simp [Se.hull, Se.ab, Ab.hull, enF, vF_tF]
theorem sl_sg (s : Se) (h : s.okk) (hv : s.vo = false) : s.sl = sgL (enF s.li s.lo) ∧ s.sh = sgH (enF s.hf s.hi) := by
  obtain ⟨h1, h2⟩ := h hv
  unfold Se.sl Se.sh sgL sgH enF
  constructor
  · cases hl : s.li
    · simp only [Bool.false_eq_true, if_false]; exact sgZ_vF (h1 hl)
    · rfl
  · cases hl : s.hf
    · simp only [Bool.false_eq_true, if_false]; exact sgZ_vF (h2 hl)
    · rfl
/-! ### Sizes -/
theorem ok_bd {q : Rat} {k : Nat} (h : Bd k q) (hk : k ≤ fb) : Ok (tF q) := ok_tF (Nat.le_trans h.num hk) (Nat.le_trans h.den hk)
end Iv
end Go.Proofs.YtfajgibpidlojaaDoor
end

section
/- Contracts of the intervals' closures, part E: rounded$1 at sum. Conditions: the sizes. -/
set_option linter.unusedVariables false
set_option linter.unusedSimpArgs false
set_option maxHeartbeats 4000000
set_option maxRecDepth 8000
namespace Go.Proofs.YtfajgibpidlojaaDoor
namespace Iv
open Go Go.Proofs

/-- Types of functions, for the closures' boxes. -/
def fnTi : Ti := { row := false, zero := [.undef], offs := [], ik := none, fn := true }
def tblC : List (TypeId × Ti) := (80, fnTi) :: tblX
def tbC : Tb := { ti := tbOf tblC, u := 74, inl := fun _ => false }
theorem tbC_ok : TabOK Tryd.prog tbC := tbChk_spec (l := tblC) (by kernel_rfl)
/-- Small: as it is read. -/
def OkS (p : Tr) : Prop := Can p.1 p.2.1 p.2.2 ∧ nb p.2.1 ≤ 2048 ∧ nb p.2.2 ≤ 2048
def Se.sm (s : Se) : Prop := (s.li = false → OkS s.lo) ∧ (s.hf = false → OkS s.hi)
theorem OkS.ok {p : Tr} (h : OkS p) : Ok p := ⟨h.1, Nat.le_trans h.2.1 (by rw [fb_eq]; decide), Nat.le_trans h.2.2 (by rw [fb_eq]; decide)⟩
theorem Se.sm.fin {s : Se} (h : s.sm) : s.fin := ⟨fun e => (h.1 e).ok, fun e => (h.2 e).ok⟩
theorem OkS.bd {p : Tr} (h : OkS p) : Bd 2048 (vF p) := by
  obtain ⟨e1, e2, e3⟩ := vF_parts h.ok
  exact ⟨by rw [e2]; exact h.2.1, by rw [e3]; exact h.2.2⟩
theorem okS_tF {q : Rat} (h : Bd 2048 q) : OkS (tF q) := ⟨can_self q, h.num, h.den⟩
theorem ok_sum {p q : Tr} (h : OkS p) (k : OkS q) : Ok (tF (vF p + vF q)) := by
  have := Bd.add h.bd k.bd
  exact ok_tF (Nat.le_trans this.num (by rw [fb_eq]; decide)) (Nat.le_trans this.den (by rw [fb_eq]; decide))
theorem sum_fin {s t : Se} (h : s.sm) (k : t.sm) : (s.sum t).fin := by
  obtain ⟨lo, hi, li, hf, vo⟩ := s
  obtain ⟨lo', hi', li', hf', vo'⟩ := t
  constructor
  · intro e
    simp only [Se.sum, Bool.or_eq_false_iff] at e
    simp only [Se.sum, e.1, e.2, Bool.or_self, Bool.false_eq_true, if_false]
    exact ok_sum (h.1 e.1) (k.1 e.2)
  · intro e
    simp only [Se.sum, Bool.or_eq_false_iff] at e
    simp only [Se.sum, e.1, e.2, Bool.or_self, Bool.false_eq_true, if_false]
    exact ok_sum (h.2 e.1) (k.2 e.2)
theorem opT_okS {p : Tr} (h : OkS p) : OkS (opT p) := by
  obtain ⟨e1, e2, e3⟩ := vF_parts h.ok
  obtain ⟨n1, n2, n3⟩ := neg_parts (vF p)
  have hc := can_self (-(vF p))
  rw [n1, n2, n3, e1, e2, e3] at hc
  exact ⟨hc, h.2.1, h.2.2⟩
theorem minus_sm {s : Se} (h : s.sm) : s.minus.sm := ⟨fun e => opT_okS (h.2 e), fun e => opT_okS (h.1 e)⟩
/-! ### rounded$1 -/
def voidS : Se := ⟨t0, t0, false, false, true⟩
def rndS (f : Se → Se → Se) (s t : Se) (p : Int) : Except Int Se := if pOk p = true then .ok (if s.vo || t.vo then voidS else (f s t).hull p.toNat) else .error 2
theorem Sub.ref {xs ys : List SV} {o : Nat} (h : SubL xs ys) : Sub (.ref xs o) (.ref ys o) := by
  intro M N bnd w v hr
  simp only [Rp] at hr ⊢
  obtain ⟨b, T, vs, h1, h2, h3, hl⟩ := hr
  exact ⟨b, T, vs, h1, h2, h3, h _ _ _ _ _ hl⟩

noncomputable def envRSum : Env := envOf [preciseC, sumC, hullC]
theorem envRSum_ok : EnvOK Tryd.prog FF tbC envRSum := envOf_ok _
def argRSum (p : Se × Se × Int) : List SV := [p.1.sv, p.2.1.sv, .ref [.int .i64 p.2.2] 0, .ref [.fn 58 []] 0]
theorem rSum_wp (s t : Se) (p : Int) (hs : s.sm) (ht : t.sm) (K : Except Int SV → Prop) (hK : ∀ r, SubE r ((rndS Se.sum s t p).map Se.sv) → K r) :
    wpF tbC envRSum (wpDraw tbC envRSum) Tryd.f112 (argRSum (s, t, p)) K := by
  refine And.intro trivial (And.intro (fun h => ?_) (fun h => ?_))
  · have h1 : p < 0 ∨ 128 < p := h
    show K (.error 2)
    refine hK _ ?_
    unfold rndS
    rw [if_neg (by unfold pOk; simp only [Bool.and_eq_true, decide_eq_true_eq]; omega)]
    rfl
  have h1 : 0 ≤ p ∧ p ≤ 128 := by
    have : ¬ (p < 0 ∨ 128 < p) := h
    omega
  unfold rndS at hK
  rw [if_pos (by unfold pOk; simp only [Bool.and_eq_true, decide_eq_true_eq]; exact h1)] at hK
  cases hv : s.vo
  · cases hv' : t.vo
    · rw [hv, hv'] at hK
      refine And.intro (by kernel_rfl) (Or.inl ?_)
      refine And.intro ⟨hs.fin, ht.fin⟩ ?_
      refine And.intro ⟨fun _ => sum_fin hs ht, h1.1, by have := h1.2; (try dsimp only); omega⟩ ?_
      show K _
      exact hK _ ⟨rfl, Sub.refl _⟩
    · rw [hv, hv'] at hK
      show K _
      exact hK _ ⟨rfl, Sub.agg (SubN3 (SubN3 (SubR _)))⟩
  · rw [hv] at hK
    show K _
    exact hK _ ⟨rfl, Sub.agg (SubN3 (SubN3 (SubR _)))⟩
theorem rSum_holds (p : Se × Se × Int) (h : p.1.sm ∧ p.2.1.sm) : Holds Tryd.prog FF 112 (argRSum p) ((rndS Se.sum p.1 p.2.1 p.2.2).map Se.sv) :=
  holds_run mixed tbC_ok envRSum_ok Tryd.func112 rfl (by kernel_rfl) (args := argRSum p) (rSum_wp p.1 p.2.1 p.2.2 h.1 h.2 _ fun _ hr => hr) (fun _ _ _ _ _ h => h)
def decRSum : List SV → Option (Se × Se × Int)
  | [x, y, .ref [.int .i64 p] 0, .ref [.fn g []] 0] => match Nat.beq g 58, decS1 x, decS1 y with
    | true, some a, some b => some (a, b, p)
    | _, _, _ => none
  | _ => none
theorem decRSum_sub (xs : List SV) (p : Se × Se × Int) (h : decRSum xs = some p) : SubL xs (argRSum p) := by
  unfold decRSum at h
  split at h
  · split at h
    · rename_i hg ha hb
      have hg := Nat.eq_of_beq_eq_true hg
      simp only [Option.some.injEq] at h
      subst h
      subst hg
      exact SubL.cons (decS1_sub _ _ ha) (SubL.cons (decS1_sub _ _ hb) (SubR _))
    · cases h
  · cases h
def rSumC : Con Tryd.prog FF :=
  mkConR 112 (enters_of Tryd.func112 (by kernel_rfl) rfl) decRSum argRSum (fun p => p.1.sm ∧ p.2.1.sm) (fun p => fRes Se.sv voidS (rndS Se.sum p.1 p.2.1 p.2.2)) decRSum_sub (fun p h => by rw [fRes_pick]; exact rSum_holds p h)

end Iv
end Go.Proofs.YtfajgibpidlojaaDoor
end

section
/- A function value that may end by a failure, and the function that carries it out and takes the failure up (try), part A: laws whatever the program. No condition. -/
set_option linter.unusedVariables false
set_option linter.unusedSimpArgs false
namespace Go.Proofs.YtfajgibpidlojaaDoor
namespace Iv
open Go Go.Proofs Go.RowKit

section
variable {P : Program} {tab : Tb} {env : Env} {U : Ctx tab.u tab.app} {F : TypeId} {Mc : Nat → Prop} {w0 w : World} {bnd : Nat → Option Value} {st : St} {a : Act}

theorem Inv.start {M : Nat → Prop} {args : List SV} {vs : List Value} (hM : MOK M w) (hargs : RpL M w.heap.size (fun _ => none) w args vs) (n : Nat) :
    Inv (u := tab.u) (ap := tab.app) ⟨[], [], by simp, []⟩ M w (fun _ => none) { slots := args ++ List.replicate (n - args.length) .undef, os := [] } { tmps := vs.toArray ++ Array.replicate (n - vs.toArray.size) undef, defers := [] } w := by
  have hlen := hargs.length
  refine ⟨?_, rfl, Below.refl _ _, fun i v hv => by simp at hv, fun i j v u b hv => by simp at hv, hM, by simp [RpL]⟩
  have : (vs.toArray ++ Array.replicate (n - vs.toArray.size) undef).toList = vs ++ List.replicate (n - args.length) undef := by simp [hlen]
  rw [this]
  refine RpL.append (RpL.sees ⟨fun b hb => .inl ?_, Nat.le_refl _, fun _ _ h => h, fun b o ho _ => ho⟩ hargs) (RpL.replicate_undef _ _)
  rcases hb with hb | ⟨i, v, hv, _⟩
  · exact hb
  · cases hv
/-- The same state, where calls are deferred. -/
theorem Inv.defer (h : Inv U Mc w0 bnd st a w) (ds : List Deferred) :
    Inv (u := tab.u) (ap := tab.app) ⟨U.ks, U.kv, U.none, ds⟩ Mc w0 bnd st { a with defers := ds } w :=
  ⟨h.slots, rfl, h.below, h.obs, h.dist, h.mc, h.keep⟩
theorem expo_go_plain (os : List Ob) : ∀ (cs : List SV), SV.plainL cs = true → expo.go os cs = some cs
  | [], _ => rfl
  | c :: cs, h => by
    simp only [SV.plainL, Bool.and_eq_true] at h
    have ih := expo_go_plain os cs h.2
    cases c <;> simp [SV.plain] at h <;> simp [expo.go, ih, SV.plain, h]
theorem expo_plain (os : List Ob) (x : SV) (h : x.plain = true) : expo os x = some (x, []) := by
  cases x <;> simp [SV.plain] at h <;> simp [expo, SV.plain, h]
  exact expo_go_plain os _ h
theorem expoL_plain (os : List Ob) : ∀ (xs : List SV), SV.plainL xs = true → expoL os xs = some (xs, [])
  | [], _ => rfl
  | x :: xs, h => by
    simp only [SV.plainL, Bool.and_eq_true] at h
    simp only [expoL, expo_plain os x h.1, expoL_plain os xs h.2, List.append_nil]
/-- A call whose failure leaves all that is known of the state. -/
theorem call_keep (h : Inv U Mc w0 bnd st a w) (o : Oper) {f : FuncId} {xs : List SV} (hop : opSem tab st.os st.ev o.op = .call f xs []) (hent : Enters P f) {r : Except Int SV} (hcon : Holds P F f xs r) {K : Act → World → Prop} {Qm : Exit → Act → World → Prop}
    (hK : ∀ x v w', r = .ok x → x.clean = true → Inv U Mc w0 bnd (st.put o.dst x) (a.put o.dst v) w' → K (a.put o.dst v) w')
    (hE : ∀ k w', r = .error k → Inv U Mc w0 bnd st a w' → Qm (.panic [{ v := failV F k, recovered := false }]) a w') : o.wp P a w K Qm := by
  have hev : ∀ y ∈ o.op.operands, Rp (Mut Mc bnd st.os) w0.heap.size bnd w (st.ev y) (a.eval y) := fun y _ => ev_sound h y
  unfold Oper.wp
  obtain ⟨hrow, vs, hrun, hvs⟩ := call_sound (ρ := a.eval) h.obs.weak h.below.size o hop hent hev
  rw [hrun]
  have hargs := hvs (Mut Mc bnd st.os) (fun b hb => hb) (fun i hi => by cases hi)
  have hlt : ∀ b, Mut Mc bnd st.os b → b < w.heap.size := by
    intro b hb
    rcases hb with hb | ⟨i, u, hu, hi, hb⟩
    · exact Nat.lt_of_lt_of_le (h.mc.lt b hb) h.below.size
    · exact heap_lt (obR_block (h.obs i u hu) hi hb).2.choose_spec
  refine (hcon _ w vs ⟨hlt, h.mc.gl.below (Nat.le_refl _) h.below⟩ hargs).mono ?_
  rintro e w'' ⟨hg, hfin⟩
  have hi := h.grow hg
  cases r with
  | error k => subst hfin; exact hE k w'' rfl hi
  | ok x =>
    obtain ⟨v, rfl, hcl, hx⟩ := hfin
    exact hK x v w'' rfl hcl (hi.put o.dst (Rp.clean_any _ _ hcl hx))
theorem wpList_one {ops : Array Oper} {Q : Exit → Act → World → Prop} {o : Oper} {rest : List Oper} (hg : o.guard = none) (h : o.wp P a w (wpList P ops Q rest) Q) : wpList P ops Q (o :: rest) a w := by
  unfold wpList
  rw [if_pos (by unfold Region.wanted; rw [hg])]
  exact Or.inl h
/-- Behind the deferred calls: what the results' cells hold is answered. -/
theorem door_end (ht : TabOK P tab) {fn : Func} {x y : SV} (hi : Inv U Mc w0 bnd st a w) (hr : resOf tab st fn.results.toList = some x) (ho : outOf st.os x = some y) {r : Except Int SV} (hs : SubE (.ok y) r) :
    Leaves P fn a.tmps (fun e w' => Fin F Mc w0 r e w') [] .returning w := by
  obtain ⟨v, h1, h2⟩ := res_sound ht hi fn hr
  obtain ⟨h3, h4⟩ := out_of_sound hi ho h2
  refine ⟨v, h1, ?_⟩
  have : Fin F Mc w0 (.ok y) (.returned v) w := ⟨hi.below, v, rfl, h3, h4⟩
  exact this.sub hs
end
/-- What try takes: a function value, the state that it has caught, and what it comes to. -/
structure TCon (P : Program) (F : TypeId) (α : Type) (sv : α → SV) where
  f : FuncId
  β : Type
  dec : List SV → Option β
  pre : β → Prop
  res : β → Except Int α
  ent : Enters P f
  pl : ∀ xs b, dec xs = some b → SV.plainL xs = true
  ok : ∀ xs b, dec xs = some b → pre b → Holds P F f xs ((res b).map sv)
def trySpec {P : Program} {F : TypeId} {α : Type} {sv : α → SV} (zero : α) (t : TCon P F α sv) : List SV → Option (Prop × Res)
  | [.fn g caps] => match Nat.beq g t.f with
    | true => match t.dec caps with
      | some b => some (t.pre b, tRes sv zero (t.res b))
      | none => none
    | false => none
  | _ => none
/-- The contract of try at one function value. -/
def mkTry {P : Program} {F : TypeId} {α : Type} {sv : α → SV} (f : FuncId) (ent : Enters P f) (zero : α)
    (h : ∀ (g : FuncId) (caps : List SV) (r : Except Int α), Enters P g → SV.plainL caps = true → Holds P F g caps (r.map sv) → Holds P F f [.fn g caps] (.ok (tOut sv zero r))) (t : TCon P F α sv) : Con P F where
  f := f
  spec := trySpec zero t
  ent := ent
  ok := fun xs pre r hs hp => by
    unfold trySpec at hs
    split at hs
    · rename_i g caps
      split at hs
      · rename_i hg
        have hg : g = t.f := Nat.eq_of_beq_eq_true hg
        subst hg
        split at hs
        · rename_i b hb
          simp only [Option.some.injEq, Prod.mk.injEq] at hs
          obtain ⟨rfl, rfl⟩ := hs
          rw [tRes_pick]
          exact h t.f caps (t.res b) t.ent (t.pl _ _ hb) (t.ok _ _ hb hp)
        · cases hs
      · cases hs
    · cases hs
end Iv
end Go.Proofs.YtfajgibpidlojaaDoor
end

section
/- try at intervals: the deferred function in both ways, and the whole. No condition. -/
set_option linter.unusedVariables false
set_option linter.unusedSimpArgs false
set_option maxHeartbeats 4000000
set_option maxRecDepth 8000
namespace Go.Proofs.YtfajgibpidlojaaDoor
namespace Iv
open Go Go.Proofs Go.RowKit

namespace TryI
def failTi : Ti := { row := true, zero := [.int .i64 0], offs := [(0, 1, false)], ik := none }
def tblT : List (TypeId × Ti) := (126, failTi) :: tblX
def tbT : Tb := { ti := tbOf tblT, u := 74, inl := fun _ => false, app := false }
theorem tbT_ok : TabOK Tryd.prog tbT := tbChk_spec (l := tblT) (by kernel_rfl)
theorem envT_ok : EnvOK Tryd.prog FF tbT env0 := ⟨fun f xs pre r h => by simp [env0] at h, fun f k h => by simp [env0] at h, fun f xs pre l h => by simp [env0] at h⟩
theorem dT_ok : DrawOK Tryd.prog tbT env0 FF (wpDraw tbT env0) := draw_ok mixed tbT_ok envT_ok

theorem assert_fail (v : Value) (w : World) : (Instr.typeAssert (.iface 126 v) 20 126 true).run Tryd.prog w = .ok (.tuple #[v, .bool true]) w := by kernel_rfl
/-- The deferred function, where nothing failed. -/
theorem idle (p q : Value) (w : World) :
    CallsD Tryd.prog 146 #[p, q] .returning w fun e u' w' => e = .returned (.tuple #[]) ∧ u' = .returning ∧ w' = w := by
  refine callsD_of_wpS Tryd.func146 rfl fun c₀ cs hu => ?_
  apply wpS_seq
  apply wpS_region
  simp [wpOpsS, go_sem, recoverD, hu, Tryd.ntmps146, Exit.thenS]
  refine wpS_of_wp ?_
  go_wp2
  cases c₀
  simp_all [bodyPostS, results, Tryd.results146]
/-- The code that takes the failure up. -/
def upC : Code → Code
  | .seq _ (.block _ (.seq _ (.cond _ _ (.seq _ (.cond _ c _))))) => c
  | c => c
noncomputable def upBody : Code := match Tryd.f146.body with | some c => upC c | none => .skip
def cs0 : List SV := [.bool false, .nil, .nil, .bool false, .nil, .nil, .bool false, .bool false]
theorem upBody_chk : codeChk Tryd.prog tbT upBody = true := by kernel_rfl
def os0 (k : Int) : List Ob := [.var 26 cs0, .var 27 [.int .i64 k], .var 126 [.int .i64 k], .var 26 cs0]
theorem up_wp (k : Int) (Q : Ex → St → Prop) (c0 c1 c2 c3 c4 c5 c6 c7 v : SV) (hQ : ∀ sl, Q .normal ⟨sl, os0 k⟩) :
    wpC tbT env0 (wpDraw tbT env0) (fun _ => False) upBody ⟨[.ptr 0 0, .ptr 1 0, .undef, .undef, .undef, .undef, .undef, .undef, .undef, .undef, .undef, .agg [.int .i64 k], .undef, .undef, .undef], [.var 26 [c0, c1, c2, c3, c4, c5, c6, c7], .var 27 [v]]⟩ Q := by
  refine And.intro (by kernel_rfl) (Or.inl ?_)
  exact hQ _
theorem taken {U : Ctx tbT.u tbT.app} {Mc : Nat → Prop} {w0 w : World} {bnd : Nat → Option Value} {sl : List SV} {ac : Act} {c0 c1 c2 c3 c4 c5 c6 c7 v : SV}
    (hi : Inv U Mc w0 bnd ⟨sl, [.var 26 [c0, c1, c2, c3, c4, c5, c6, c7], .var 27 [v]]⟩ ac w) {p q : Value}
    (hp : Rp (Mut Mc bnd [.var 26 [c0, c1, c2, c3, c4, c5, c6, c7], .var 27 [v]]) w0.heap.size bnd w (.ptr 0 0) p) (hq : Rp (Mut Mc bnd [.var 26 [c0, c1, c2, c3, c4, c5, c6, c7], .var 27 [v]]) w0.heap.size bnd w (.ptr 1 0) q) (k : Int) (older : List PanicEntry) :
    CallsD Tryd.prog 146 #[p, q] (.panicking ({ v := failV FF k, recovered := false } :: older)) w fun e u' w' =>
      e = .returned (.tuple #[]) ∧ u' = .panicking ({ v := failV FF k, recovered := true } :: older) ∧ ∃ bnd', Inv U Mc w0 bnd' ⟨sl, os0 k⟩ ac w' := by
  have hv0 : ∀ x : Value, Rp (Mut Mc bnd [.var 26 [c0, c1, c2, c3, c4, c5, c6, c7], .var 27 [v]]) w0.heap.size bnd w .undef x := fun _ => trivial
  refine callsD_of_wpS Tryd.func146 rfl fun c₀ cs hu => ?_
  apply wpS_seq
  apply wpS_region
  simp [wpOpsS, go_sem, recoverD, hu, Tryd.ntmps146, Exit.thenS]
  refine wpS_of_wp ?_
  refine wp_block ?_
  refine wp_seq (wp_region_list ?_)
  simp only [failV, FF]
  simp [wpList, Oper.wp, Oper.upon, go_sem, Region.wanted]
  refine Or.inl ?_
  refine wp_cond_false (by simp [Act.eval, Array.replicate]) ?_
  refine wp_seq (wp_region_list ?_)
  simp [wpList, Oper.wp, Oper.upon, go_sem, Region.wanted, assert_fail]
  refine Or.inl (Or.inl (Or.inl ?_))
  refine wp_cond_true (by simp [Act.eval, Array.replicate]) ?_
  have hf := hi.frame (xs := [.ptr 0 0, .ptr 1 0]) (vs := [p, q]) ⟨p, [q], rfl, hp, q, [], rfl, hq, rfl⟩
  have hi2 : Inv (u := tbT.u) (ap := tbT.app) ⟨sl ++ U.ks, ac.tmps.toList ++ U.kv, fun h => absurd h (by decide), []⟩ Mc w0 bnd ⟨[.ptr 0 0, .ptr 1 0, .undef, .undef, .undef, .undef, .undef, .undef, .undef, .undef, .undef, .agg [.int .i64 k], .undef, .undef, .undef], [.var 26 [c0, c1, c2, c3, c4, c5, c6, c7], .var 27 [v]]⟩ 
      { tmps := #[p, q, undef, undef, undef, undef, .iface 126 (.agg #[.int .i64 k]), undef, .bool false, .tuple #[.agg #[.int .i64 k], .bool true], .bool true, .agg #[.int .i64 k], undef, undef, undef], defers := [] } w := by
    refine ⟨?_, rfl, hf.below, hf.obs, hf.dist, hf.mc, hf.keep⟩
    refine ⟨_, _, rfl, hp, _, _, rfl, hq, _, _, rfl, trivial, _, _, rfl, trivial, _, _, rfl, trivial, _, _, rfl, trivial, _, _, rfl, trivial, _, _, rfl, trivial, _, _, rfl, trivial, _, _, rfl, trivial, _, _, rfl, trivial, _, _, rfl, ⟨[.int .i64 k], rfl, _, [], rfl, rfl, rfl⟩, _, _, rfl, trivial, _, _, rfl, trivial, _, _, rfl, trivial, rfl⟩
  have hlen := hi.slots.length
  show Code.wp Tryd.prog upBody _ { tmps := #[p, q, undef, undef, undef, undef, .iface 126 (.agg #[.int .i64 k]), undef, .bool false, .tuple #[.agg #[.int .i64 k], .bool true], .bool true, .agg #[.int .i64 k], undef, undef, undef], defers := [] } w
  refine code_sound tbT_ok envT_ok dT_ok upBody (Q := fun x st => x = .normal ∧ ∃ sl', st = ⟨sl', os0 k⟩) upBody_chk ?_ ?_ hi2 (up_wp k _ c0 c1 c2 c3 c4 c5 c6 c7 v fun sl' => ⟨rfl, sl', rfl⟩)
  · rintro x bnd' st' a' w' hinv ⟨rfl, sl', rfl⟩
    refine ⟨hinv.defs, _, rfl, .tuple #[], by simp [results, Tryd.results146], ?_⟩
    refine ⟨rfl, rfl, bnd', ?_⟩
    have h1 := hinv.keep.take sl.length
    have h2 := hinv.keep.drop sl.length
    dsimp only at h1 h2 hlen
    rw [List.take_left, ← hlen, List.take_left] at h1
    rw [List.drop_left, ← hlen, List.drop_left] at h2
    exact ⟨h1, hi.defs, hinv.below, hinv.obs, hinv.dist, hinv.mc, h2⟩
  · intro e a' w' h
    exact h.elim
def sl1 (f : FuncId) (caps : List SV) (x4 x5 x6 : SV) : List SV := [.fn f caps, .undef, .ptr 0 0, .ptr 1 0, x4, x5, x6]
def osv (z : Z) (k : Int) : List Ob := [.var 26 (SV.cells (Z.sv z)), .var 27 [.int .i64 k]]
theorem holds (f : FuncId) (caps : List SV) (r : Except Int Z) (hen : Enters Tryd.prog f) (hpl : SV.plainL caps = true) (hd : Holds Tryd.prog FF f caps (r.map Z.sv)) :
    Holds Tryd.prog FF 97 [.fn f caps] (.ok (tOut Z.sv z0 r)) := by
  intro M w vs hM ha
  refine calls_of_wp_defers Tryd.func97 rfl ?_
  have hi0 := Inv.start (tab := tbT) hM ha 7
  refine wp_seq ?_
  refine code_sound tbT_ok envT_ok dT_ok (E := fun _ => False) _ (Q := fun x st => x = .normal ∧ st = ⟨sl1 f caps .undef .undef .undef, [.var 26 cs0, .var 27 [.int .i64 0]]⟩) (by kernel_rfl) ?_ (fun e a' w' h => h.elim) hi0 ⟨rfl, rfl⟩
  rintro x bnd1 st1 a1 w1 hi1 ⟨rfl, rfl⟩
  refine wp_seq (wp_region_list ?_)
  refine wpList_one rfl ?_
  refine out_sound (env := env0) (E := fun _ => False) tbT_ok envT_ok hi1 _ (by kernel_rfl) (Q := fun st => st = ⟨sl1 f caps (.fn 146 [.ptr 0 0, .ptr 1 0]) .undef .undef, [.var 26 cs0, .var 27 [.int .i64 0]]⟩) rfl ?_ (fun e _ _ h => h.elim)
  rintro bnd2 st2 a2 w2 hi2 _ rfl
  refine wpList_one rfl ?_
  obtain ⟨vs4, e4, p, _, rfl, hp, q, _, rfl, hq, rfl⟩ := hi2.slots.getD 4 undef
  have e4' : a2.tmps.getD 4 undef = .func (.func 146) #[] #[p, q] := by simpa using e4
  have hdef : ∀ (o : Oper), o.op = .defer { callee := .value (.tmp 4), args := #[], argTypes := #[] } → (execOp a2.eval o).run Tryd.prog w2 = .ok (.defer { target := .fn (.func 146) #[p, q], args := #[] }) w2 := by
    intro o ho
    obtain ⟨_, _, _, _, _, _⟩ := o
    subst ho
    simp [execOp, Act.eval, e4', go_sem]
  unfold Oper.wp
  rw [hdef _ rfl]
  have hd2 := hi2.defs
  have hi3 := hi2.defer [{ target := .fn (.func 146) #[p, q], args := #[] }]
  obtain ⟨tm, df⟩ := a2
  dsimp only at hd2
  subst hd2
  show Code.wp _ _ _ { tmps := tm, defers := [{ target := .fn (.func 146) #[p, q], args := #[] }] } w2
  refine wp_seq (wp_region_list ?_)
  refine wpList_one rfl ?_
  refine out_sound (env := env0) (E := fun _ => False) tbT_ok envT_ok hi3 _ (by kernel_rfl) (Q := fun st => st = ⟨sl1 f caps (.fn 146 [.ptr 0 0, .ptr 1 0]) (.fn f caps) .undef, [.var 26 cs0, .var 27 [.int .i64 0]]⟩) rfl ?_ (fun e _ _ h => h.elim)
  rintro bnd5 st5 a5 w5 hi5 hb5 rfl
  obtain rfl := hb5 rfl
  refine wpList_one rfl ?_
  refine call_keep hi5 _ (f := f) (xs := caps) (by simp [opSem, St.ev, sl1, tbT, expoL_plain _ _ hpl]) hen hd ?_ ?_
  · intro x v w6 hr hcl hi6
    cases r with
    | error k => cases hr
    | ok z =>
      obtain rfl : x = Z.sv z := by cases hr; rfl
      refine opsT_sound (env := env0) (E := fun _ => False) tbT_ok envT_ok (Q := fun st => st = ⟨sl1 f caps (.fn 146 [.ptr 0 0, .ptr 1 0]) (.fn f caps) (Z.sv z), osv z 0⟩) ?_ (fun _ _ _ h => h.elim) _ _ _ _ _ (by intro o ho; simp only [List.mem_cons, List.not_mem_nil, or_false] at ho; rcases ho with rfl | rfl <;> kernel_rfl) hi6 rfl
      rintro bnd7 st7 a7 w7 hi7 rfl
      show Code.wp _ Code.ret _ a7 w7
      refine wp_ret ?_
      have hd7 := hi7.defs
      show Leaves _ _ a7.tmps _ a7.defers .returning w7
      rw [hd7]
      refine leaves_cons (f := 146) (args := #[p, q]) (by simp) (by simp [go_sem]) ?_
      refine (idle p q w7).mono ?_
      rintro e u' w8 ⟨rfl, rfl, rfl⟩
      exact door_end tbT_ok hi7 rfl rfl ⟨rfl, Sub.refl _⟩
  · intro k w6 hr hi6
    cases r with
    | ok z => cases hr
    | error k' =>
      obtain rfl : k' = k := by cases hr; rfl
      have hd6 := hi6.defs
      show Leaves _ _ a5.tmps _ a5.defers (.panicking _) w6
      rw [hd6]
      refine leaves_cons (f := 146) (args := #[p, q]) (by simp) (by simp [go_sem]) ?_
      refine (taken hi6 hp hq k' []).mono ?_
      rintro e u' w8 ⟨rfl, rfl, bnd8, hi8⟩
      show Leaves _ _ _ _ [] .returning w8
      exact door_end tbT_ok hi8 rfl rfl ⟨rfl, Sub.tup (SubL.cons (Sub.agg (SubN3 (SubN3 (SubR _)))) (SubR _))⟩
theorem enters : Enters Tryd.prog 97 := enters_of Tryd.func97 (by kernel_rfl) rfl
/-- The contract of try at a function value. -/
noncomputable def con (t : TCon Tryd.prog FF Z Z.sv) : Con Tryd.prog FF := mkTry 97 enters z0 holds t
end TryI
end Iv
end Go.Proofs.YtfajgibpidlojaaDoor
end

section
/- What the intervals' closures are told and answer: the pieces that all share. No condition. -/
set_option linter.unusedVariables false
set_option linter.unusedSimpArgs false
namespace Go.Proofs.YtfajgibpidlojaaDoor
namespace Iv
open Go Go.Proofs

theorem out_give (s : Se) (h : s.okk) : (s.fits = false → outA s.ab = .error 1) ∧ (s.fits = true → outA s.ab = .ok s.give) := by
  obtain ⟨h1, h2⟩ := give_ab s h
  unfold outA
  rw [← h1]
  constructor
  · intro e; rw [if_neg (by rw [e]; decide)]
  · intro e; rw [if_pos e, h2 e]
/-- Two intervals are read, an operation is done, its set is given. -/
def exS (a b : Y) (g : Se → Se → Except Int Se) : Except Int Z :=
  if a.good = true then (if b.good = true then (match g a.set b.set with
    | .error e => .error e
    | .ok s => if s.fits = true then .ok s.give else .error 1) else .error 1) else .error 1
/-- The same with one interval. -/
def unS (a : Y) (g : Se → Except Int Se) : Except Int Z :=
  if a.good = true then (match g a.set with
    | .error e => .error e
    | .ok s => if s.fits = true then .ok s.give else .error 1) else .error 1
def Y.cells (y : Y) : List SV := [.bool y.lo.neg, .words y.lo.num, .words y.lo.den, .bool y.hi.neg, .words y.hi.num, .words y.hi.den, .bool y.li, .bool y.hf]
def decC : SV → Option Y
  | .ref cs 0 => decY1 (.agg cs)
  | _ => none
theorem agg_inv {xs ys : List SV} (h : Sub (.agg xs) (.agg ys)) : SubL xs ys := by
  intro M N bnd w vs hv
  have := h M N bnd w (.agg vs.toArray) ⟨vs, rfl, hv⟩
  obtain ⟨us, e, hu⟩ := this
  simp only [Value.agg.injEq] at e
  have : vs = us := by simpa using congrArg Array.toList e
  exact this ▸ hu
theorem decC_sub (x : SV) (y : Y) (h : decC x = some y) : Sub x (.ref y.cells 0) := by
  unfold decC at h
  split at h
  · exact Sub.ref (agg_inv (decY1_sub _ _ h))
  · cases h
theorem list_plain {x : SV} {l : List Nat} (h : x.list = some l) : x.plain = true := by
  cases x <;> simp [SV.list] at h <;> rfl
theorem decC_plain {x : SV} {y : Y} (h : decC x = some y) : x.plain = true := by
  unfold decC at h
  split at h
  · unfold decY1 at h
    split at h
    · rename_i e
      simp only [SV.agg.injEq] at e
      subst e
      split at h
      · rename_i h1 h2 h3 h4
        simp [SV.plain, SV.plainL, list_plain h1, list_plain h2, list_plain h3, list_plain h4]
      · cases h
    · cases h
  · cases h
theorem set_sm (y : Y) (h : y.good = true) : y.set.sm := by
  have hg : y.good = (numOk y.lo && numOk y.hi) := rfl
  rw [hg, Bool.and_eq_true] at h
  obtain ⟨a1, a2, a3⟩ := numOk_ok h.1
  obtain ⟨b1, b2, b3⟩ := numOk_ok h.2
  exact ⟨fun _ => ⟨a1.1, a2, a3⟩, fun _ => ⟨b1.1, b2, b3⟩⟩
theorem void_ab : voidS.ab = none := rfl
theorem hull_fin {s : Se} (h : s.fin) (k : Nat) (hk : k ≤ 1000) (hb : (s.li = false → Bd 10000 (vF s.lo)) ∧ (s.hf = false → Bd 10000 (vF s.hi))) : (s.hull k).okk := by
  obtain ⟨lo, hi, li, hf, vo⟩ := s
  intro hv
  cases vo
  · refine ⟨fun e => ?_, fun e => ?_⟩
    · simp only [Se.hull] at e ⊢
      have e' : li = false := e
      subst e'
      have := (hb.1 rfl).grid false k
      exact ok_tF (Nat.le_trans this.num (by rw [fb_eq]; omega)) (Nat.le_trans this.den (by rw [fb_eq]; omega))
    · simp only [Se.hull] at e ⊢
      have e' : hf = false := e
      subst e'
      have := (hb.2 rfl).grid true k
      exact ok_tF (Nat.le_trans this.num (by rw [fb_eq]; omega)) (Nat.le_trans this.den (by rw [fb_eq]; omega))
  · cases hv
/-- What the rounded operations come to. -/
theorem exS_rnd (a b : Y) (p : Int) (f : Se → Se → Se) (F : Ab → Ab → Ab) (hF : ∀ s t, s.sm → t.sm → s.vo = false → t.vo = false → (f s t).ab = F s.ab t.ab ∧ (f s t).fin ∧ ((f s t).li = false → Bd 10000 (vF (f s t).lo)) ∧ ((f s t).hf = false → Bd 10000 (vF (f s t).hi)))
    (hL : ∀ x, F none x = none) (hR : ∀ x, F x none = none) : exS a b (fun s t => rndS f s t p) = spTwoP a b p (fun x y => (F x y).hull p.toNat) := by
  unfold exS spTwoP
  cases ha : a.good
  · rfl
  · cases hb : b.good
    · rfl
    · simp only [if_true, Bool.and_self]
      unfold rndS
      by_cases hp : pOk p = true
      · rw [if_pos hp, if_pos hp]
        simp only
        have hp' : p.toNat ≤ 1000 := by
          unfold pOk at hp
          simp only [Bool.and_eq_true, decide_eq_true_eq] at hp
          omega
        have key : (if a.set.vo || b.set.vo then voidS else (f a.set b.set).hull p.toNat).okk ∧ (if a.set.vo || b.set.vo then voidS else (f a.set b.set).hull p.toNat).ab = (F a.ab b.ab).hull p.toNat := by
          rw [← set_ab a, ← set_ab b]
          cases hv : a.set.vo
          · cases hv' : b.set.vo
            · simp only [Bool.or_self, Bool.false_eq_true, if_false]
              obtain ⟨h1, h2, h3⟩ := hF _ _ (set_sm a ha) (set_sm b hb) hv hv'
              exact ⟨hull_fin h2 _ hp' h3, by rw [hull_ab, h1]⟩
            · simp only [Bool.or_true, if_true]
              have : b.set.ab = none := by unfold Se.ab; rw [hv']; rfl
              rw [this, hR]
              exact ⟨fun h => (by cases h), rfl⟩
          · simp only [Bool.true_or, if_true]
            have : a.set.ab = none := by unfold Se.ab; rw [hv]; rfl
            rw [this, hL]
            exact ⟨fun h => (by cases h), rfl⟩
        obtain ⟨k1, k2⟩ := key
        obtain ⟨g1, g2⟩ := out_give _ k1
        rw [k2] at g1 g2
        generalize (if a.set.vo || b.set.vo then voidS else (f a.set b.set).hull p.toNat) = s at *
        cases hs : s.fits
        · rw [g1 hs]; rfl
        · rw [g2 hs]; rfl
      · rw [if_neg hp, if_neg hp]
theorem exS_ok (a b : Y) (f : Se → Se → Se) (F : Ab → Ab → Ab) (hF : ∀ s t, s.sm → t.sm → (f s t).ab = F s.ab t.ab ∧ (f s t).okk) : exS a b (fun s t => .ok (f s t)) = spTwo a b F := by
  unfold exS spTwo
  cases ha : a.good
  · rfl
  · cases hb : b.good
    · rfl
    · simp only [if_true, Bool.and_self]
      obtain ⟨h1, h2⟩ := hF _ _ (set_sm a ha) (set_sm b hb)
      obtain ⟨g1, g2⟩ := out_give _ h2
      rw [h1, set_ab, set_ab] at g1 g2
      generalize f a.set b.set = s at *
      cases hs : s.fits
      · rw [g1 hs]; rfl
      · rw [g2 hs]; rfl
theorem unS_ok (a : Y) (f : Se → Se) (F : Ab → Ab) (hF : ∀ s, s.sm → (f s).ab = F s.ab ∧ (f s).okk) : unS a (fun s => .ok (f s)) = spOne a F := by
  unfold unS spOne
  cases ha : a.good
  · rfl
  · simp only [if_true]
    obtain ⟨h1, h2⟩ := hF _ (set_sm a ha)
    obtain ⟨g1, g2⟩ := out_give _ h2
    rw [h1, set_ab] at g1 g2
    generalize f a.set = s at *
    cases hs : s.fits
    · rw [g1 hs]; rfl
    · rw [g2 hs]; rfl
/-- The sums. -/
theorem sum_fact (s t : Se) (hs : s.sm) (ht : t.sm) (hv : s.vo = false) (hv' : t.vo = false) :
    (s.sum t).ab = s.ab.sum t.ab ∧ (s.sum t).fin ∧ ((s.sum t).li = false → Bd 10000 (vF (s.sum t).lo)) ∧ ((s.sum t).hf = false → Bd 10000 (vF (s.sum t).hi)) := by
  refine ⟨sum_ab s t hv hv', sum_fin hs ht, fun e => ?_, fun e => ?_⟩
  · have e2 : s.li = false ∧ t.li = false := by simpa only [Se.sum, Bool.or_eq_false_iff] using e
    have : (s.sum t).lo = tF (vF s.lo + vF t.lo) := by simp only [Se.sum, e2.1, e2.2, Bool.or_self, Bool.false_eq_true, if_false]
    rw [this, vF_tF]
    exact (Bd.add (hs.1 e2.1).bd (ht.1 e2.2).bd).mono (by decide)
  · have e2 : s.hf = false ∧ t.hf = false := by simpa only [Se.sum, Bool.or_eq_false_iff] using e
    have : (s.sum t).hi = tF (vF s.hi + vF t.hi) := by simp only [Se.sum, e2.1, e2.2, Bool.or_self, Bool.false_eq_true, if_false]
    rw [this, vF_tF]
    exact (Bd.add (hs.2 e2.1).bd (ht.2 e2.2).bd).mono (by decide)
theorem sum_none_r (x : Ab) : x.sum none = none := by cases x <;> rfl
theorem exS_sum (a b : Y) (p : Int) : exS a b (fun s t => rndS Se.sum s t p) = spTwoP a b p (fun x y => (x.sum y).hull p.toNat) :=
  exS_rnd a b p _ Ab.sum sum_fact (fun _ => rfl) sum_none_r
theorem exS_sub (a b : Y) (p : Int) : exS a b (fun s t => rndS (fun s t => s.sum t.minus) s t p) = spTwoP a b p (fun x y => (x.sum y.neg).hull p.toNat) :=
  exS_rnd a b p _ (fun x y => x.sum y.neg) (fun s t hs ht hv hv' => by
    have h := sum_fact s t.minus hs (minus_sm ht) hv hv'
    rw [minus_ab t (fun _ => ht.fin)] at h
    exact h) (fun _ => rfl) (fun x => sum_none_r x)
end Iv
end Go.Proofs.YtfajgibpidlojaaDoor
end
