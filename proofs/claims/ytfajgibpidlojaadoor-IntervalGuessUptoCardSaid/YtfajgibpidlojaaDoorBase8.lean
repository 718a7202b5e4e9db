/-
  Contracts of functions that a law reaches, and what they rest on, part 8. Each part says its own conditions.
-/
import Derived.Test.YtfajgibpidlojaaDoorRows
import Derived.WalkKit
import Derived.ProofKit
import Derived.OpenShut
import Derived.Carry
import Derived.Deep.Slices
import Derived.Deep.Strs
import Derived.Lib.SmallJoins
import Derived.Deep.DeepHandedRow
import Derived.Lib.LaidTab
import Derived.Test.YtfajgibpidlojaaDoorBase7

section
/- The exported function Add. Conditions: the sizes of what comes in. -/
set_option linter.unusedVariables false
set_option linter.unusedSimpArgs false
set_option maxHeartbeats 4000000
set_option maxRecDepth 8000
namespace Go.Proofs.YtfajgibpidlojaaDoor
namespace Iv
open Go Go.Proofs

/-! ### exact$1 at Sum -/
noncomputable def envESum : Env := envOf [sreadC, rSumC, sgiveC]
theorem envESum_ok : EnvOK Tryd.prog FF tbC envESum := envOf_ok _
def argESum (q : Y × Y × Int) : List SV := [.ref q.1.cells 0, .ref [.fn 112 [.ref [.int .i64 q.2.2] 0, .ref [.fn 58 []] 0]] 0, .ref q.2.1.cells 0]
theorem ESum_wp (q : Y × Y × Int) (ha : q.1.ok) (hb : q.2.1.ok) (K : Except Int SV → Prop) (hK : ∀ r, SubE r ((exS q.1 q.2.1 (fun s t => rndS Se.sum s t q.2.2)).map Z.sv) → K r) :
    wpF tbC envESum (wpDraw tbC envESum) Tryd.f113 (argESum q) K := by
  unfold exS at hK
  refine And.intro ha (And.intro (fun h => ?_) (fun h => ?_))
  · have h1 : q.1.good = false := h
    rw [if_neg (by rw [h1]; decide)] at hK
    show K (.error 1)
    exact hK _ rfl
  have h1 : q.1.good = true := by
    have : ¬ q.1.good = false := h
    simpa only [Bool.not_eq_false] using this
  rw [if_pos h1] at hK
  refine And.intro (by kernel_rfl) (Or.inl ?_)
  refine And.intro hb (And.intro (fun h => ?_) (fun h => ?_))
  · have h2 : q.2.1.good = false := h
    rw [if_neg (by rw [h2]; decide)] at hK
    show K (.error 1)
    exact hK _ rfl
  have h2 : q.2.1.good = true := by
    have : ¬ q.2.1.good = false := h
    simpa only [Bool.not_eq_false] using this
  rw [if_pos h2] at hK
  refine And.intro ⟨set_sm _ h1, set_sm _ h2⟩ (And.intro (fun h => ?_) (fun h => ?_))
  · have h3 : hasErr ((fun s t => rndS Se.sum s t q.2.2) q.1.set q.2.1.set) := h
    obtain ⟨e, he⟩ := h3
    rw [he] at hK
    show K (.error (errOf ((fun s t => rndS Se.sum s t q.2.2) q.1.set q.2.1.set)))
    rw [he]
    exact hK _ rfl
  obtain ⟨s, hs⟩ := not_hasErr h
  have hs : (fun s t => rndS Se.sum s t q.2.2) q.1.set q.2.1.set = .ok s := hs
  rw [hs] at hK
  simp only at hK
  have es : okOf voidS ((fun s t => rndS Se.sum s t q.2.2) q.1.set q.2.1.set) = s := by rw [hs]; rfl
  refine And.intro trivial (And.intro (fun h => ?_) (fun h => ?_))
  · have h4 : s.fits = false := by
      have : (okOf voidS ((fun s t => rndS Se.sum s t q.2.2) q.1.set q.2.1.set)).fits = false := h
      rwa [es] at this
    rw [if_neg (by rw [h4]; decide)] at hK
    show K (.error 1)
    exact hK _ rfl
  · have h4 : s.fits = true := by
      have : ¬ (okOf voidS ((fun s t => rndS Se.sum s t q.2.2) q.1.set q.2.1.set)).fits = false := h
      rw [es] at this
      simpa only [Bool.not_eq_false] using this
    rw [if_pos h4] at hK
    show K (.ok (okOf voidS ((fun s t => rndS Se.sum s t q.2.2) q.1.set q.2.1.set)).give.sv)
    rw [es]
    exact hK _ ⟨rfl, Sub.refl _⟩
theorem ESum_holds (q : Y × Y × Int) (h : q.1.ok ∧ q.2.1.ok) : Holds Tryd.prog FF 113 (argESum q) ((spTwoP q.1 q.2.1 q.2.2 (fun x y => (x.sum y).hull q.2.2.toNat)).map Z.sv) := by
  rw [← exS_sum q.1 q.2.1 q.2.2]
  exact holds_run mixed tbC_ok envESum_ok Tryd.func113 rfl (by kernel_rfl) (args := argESum q) (ESum_wp q h.1 h.2 _ fun _ hr => hr) (fun _ _ _ _ _ h => h)
def decESum : List SV → Option (Y × Y × Int)
  | [x, .ref [.fn g [.ref [.int .i64 p] 0, .ref [.fn k []] 0]] 0, y] => match Nat.beq g 112, Nat.beq k 58, decC x, decC y with
    | true, true, some a, some b => some (a, b, p)
    | _, _, _, _ => none
  | _ => none
theorem decESum_sub (xs : List SV) (p : Y × Y × Int) (h : decESum xs = some p) : SubL xs (argESum p) := by
  unfold decESum at h
  split at h
  · split at h
    · rename_i eg ek ha hb
      have eg := Nat.eq_of_beq_eq_true eg
      have ek := Nat.eq_of_beq_eq_true ek
      simp only [Option.some.injEq] at h
      subst h
      subst eg
      subst ek
      exact SubL.cons (decC_sub _ _ ha) (SubL.cons (Sub.refl _) (SubL.cons (decC_sub _ _ hb) SubL.nil))
    · cases h
  · cases h
noncomputable def ESumT : TCon Tryd.prog FF Z Z.sv where
  f := 113
  β := Y × Y × Int
  dec := decESum
  pre := fun q => q.1.ok ∧ q.2.1.ok
  res := fun q => spTwoP q.1 q.2.1 q.2.2 (fun x y => (x.sum y).hull q.2.2.toNat)
  ent := enters_of Tryd.func113 (by kernel_rfl) rfl
  pl := fun xs q h => by
    unfold decESum at h
    split at h
    · split at h
      · rename_i eg ek ha hb
        simp only [SV.plainL, SV.plain, decC_plain ha, decC_plain hb, Bool.and_self]
      · cases h
    · cases h
  ok := fun xs q hd hp => fun M w vs hM ha => ESum_holds q hp M w vs hM (decESum_sub xs q hd _ _ _ _ _ ha)
/-! ### XSum -/
noncomputable def envXSum : Env := envOf [TryI.con ESumT]
theorem envXSum_ok : EnvOK Tryd.prog FF tbC envXSum := envOf_ok _
def argXSum (q : Y × Y × Int) : List SV := [q.1.sv, q.2.1.sv, .fn 112 [.ref [.int .i64 q.2.2] 0, .ref [.fn 58 []] 0]]
theorem XSum_wp (q : Y × Y × Int) (h : q.1.ok ∧ q.2.1.ok) (K : Except Int SV → Prop) (hK : ∀ r, SubE r (.ok (tOut Z.sv z0 (spTwoP q.1 q.2.1 q.2.2 (fun x y => (x.sum y).hull q.2.2.toNat)))) → K r) :
    wpF tbC envXSum (wpDraw tbC envXSum) Tryd.f59 (argXSum q) K := by
  refine And.intro h (And.intro (fun h => ?_) (fun h => ?_))
  · have h : hasErr (spTwoP q.1 q.2.1 q.2.2 (fun x y => (x.sum y).hull q.2.2.toNat)) := h
    rw [tOut_err h] at hK
    show K _
    exact hK _ ⟨rfl, Sub.refl _⟩
  · have h : ¬ hasErr (spTwoP q.1 q.2.1 q.2.2 (fun x y => (x.sum y).hull q.2.2.toNat)) := h
    rw [tOut_ok h] at hK
    show K _
    exact hK _ ⟨rfl, Sub.refl _⟩
theorem XSum_holds (q : Y × Y × Int) (h : q.1.ok ∧ q.2.1.ok) : Holds Tryd.prog FF 59 (argXSum q) (tRes Z.sv z0 (spTwoP q.1 q.2.1 q.2.2 (fun x y => (x.sum y).hull q.2.2.toNat))).pick := by
  rw [tRes_pick]
  exact holds_run mixed tbC_ok envXSum_ok Tryd.func59 rfl (by kernel_rfl) (args := argXSum q) (XSum_wp q h _ fun _ hr => hr) (fun _ _ _ _ _ h => h)
def decXSum : List SV → Option (Y × Y × Int)
  | [x, y, .fn g [.ref [.int .i64 p] 0, .ref [.fn k []] 0]] => match Nat.beq g 112, Nat.beq k 58, decY1 x, decY1 y with
    | true, true, some a, some b => some (a, b, p)
    | _, _, _, _ => none
  | _ => none
theorem decXSum_sub (xs : List SV) (p : Y × Y × Int) (h : decXSum xs = some p) : SubL xs (argXSum p) := by
  unfold decXSum at h
  split at h
  · split at h
    · rename_i eg ek ha hb
      have eg := Nat.eq_of_beq_eq_true eg
      have ek := Nat.eq_of_beq_eq_true ek
      simp only [Option.some.injEq] at h
      subst h
      subst eg
      subst ek
      exact SubL.cons (decY1_sub _ _ ha) (SubL.cons (decY1_sub _ _ hb) (SubL.cons (Sub.refl _) SubL.nil))
    · cases h
  · cases h
def XSumC : Con Tryd.prog FF :=
  mkConR 59 (enters_of Tryd.func59 (by kernel_rfl) rfl) decXSum argXSum (fun q => q.1.ok ∧ q.2.1.ok) (fun q => tRes Z.sv z0 (spTwoP q.1 q.2.1 q.2.2 (fun x y => (x.sum y).hull q.2.2.toNat))) decXSum_sub XSum_holds
/-! ### RSumX -/
noncomputable def envRSumX : Env := envOf [XSumC]
theorem envRSumX_ok : EnvOK Tryd.prog FF tbC envRSumX := envOf_ok _
def argRSumX (q : Y × Y × Int) : List SV := [q.1.sv, q.2.1.sv, .int .i64 q.2.2, .fn 58 []]
theorem RSumX_wp (q : Y × Y × Int) (h : q.1.ok ∧ q.2.1.ok) (K : Except Int SV → Prop) (hK : ∀ r, SubE r (.ok (tOut Z.sv z0 (spTwoP q.1 q.2.1 q.2.2 (fun x y => (x.sum y).hull q.2.2.toNat)))) → K r) :
    wpF tbC envRSumX (wpDraw tbC envRSumX) Tryd.f57 (argRSumX q) K := by
  refine And.intro h (And.intro (fun h => ?_) (fun h => ?_))
  · have h : hasErr (spTwoP q.1 q.2.1 q.2.2 (fun x y => (x.sum y).hull q.2.2.toNat)) := h
    rw [tOut_err h] at hK
    show K _
    exact hK _ ⟨rfl, Sub.refl _⟩
  · have h : ¬ hasErr (spTwoP q.1 q.2.1 q.2.2 (fun x y => (x.sum y).hull q.2.2.toNat)) := h
    rw [tOut_ok h] at hK
    show K _
    exact hK _ ⟨rfl, Sub.refl _⟩
theorem RSumX_holds (q : Y × Y × Int) (h : q.1.ok ∧ q.2.1.ok) : Holds Tryd.prog FF 57 (argRSumX q) (tRes Z.sv z0 (spTwoP q.1 q.2.1 q.2.2 (fun x y => (x.sum y).hull q.2.2.toNat))).pick := by
  rw [tRes_pick]
  exact holds_run mixed tbC_ok envRSumX_ok Tryd.func57 rfl (by kernel_rfl) (args := argRSumX q) (RSumX_wp q h _ fun _ hr => hr) (fun _ _ _ _ _ h => h)
def decRSumX : List SV → Option (Y × Y × Int)
  | [x, y, .int .i64 p, .fn k []] => match Nat.beq k 58, decY1 x, decY1 y with
    | true, some a, some b => some (a, b, p)
    | _, _, _ => none
  | _ => none
theorem decRSumX_sub (xs : List SV) (p : Y × Y × Int) (h : decRSumX xs = some p) : SubL xs (argRSumX p) := by
  unfold decRSumX at h
  split at h
  · split at h
    · rename_i ek ha hb
      have ek := Nat.eq_of_beq_eq_true ek
      simp only [Option.some.injEq] at h
      subst h
      subst ek
      exact SubL.cons (decY1_sub _ _ ha) (SubL.cons (decY1_sub _ _ hb) (SubL.cons (Sub.refl _) (SubL.cons (Sub.refl _) SubL.nil)))
    · cases h
  · cases h
def RSumXC : Con Tryd.prog FF :=
  mkConR 57 (enters_of Tryd.func57 (by kernel_rfl) rfl) decRSumX argRSumX (fun q => q.1.ok ∧ q.2.1.ok) (fun q => tRes Z.sv z0 (spTwoP q.1 q.2.1 q.2.2 (fun x y => (x.sum y).hull q.2.2.toNat))) decRSumX_sub RSumX_holds
/-! ### PSum -/
noncomputable def envPSum : Env := envOf [RSumXC]
theorem envPSum_ok : EnvOK Tryd.prog FF tbC envPSum := envOf_ok _
def argPSum (q : Y × Y × Int) : List SV := [q.1.sv, q.2.1.sv, .int .i64 q.2.2]
theorem PSum_wp (q : Y × Y × Int) (h : q.1.ok ∧ q.2.1.ok) (K : Except Int SV → Prop) (hK : ∀ r, SubE r (.ok (tOut Z.sv z0 (spTwoP q.1 q.2.1 q.2.2 (fun x y => (x.sum y).hull q.2.2.toNat)))) → K r) :
    wpF tbC envPSum (wpDraw tbC envPSum) Tryd.f22 (argPSum q) K := by
  refine And.intro h (And.intro (fun h => ?_) (fun h => ?_))
  · have h : hasErr (spTwoP q.1 q.2.1 q.2.2 (fun x y => (x.sum y).hull q.2.2.toNat)) := h
    rw [tOut_err h] at hK
    show K _
    exact hK _ ⟨rfl, Sub.refl _⟩
  · have h : ¬ hasErr (spTwoP q.1 q.2.1 q.2.2 (fun x y => (x.sum y).hull q.2.2.toNat)) := h
    rw [tOut_ok h] at hK
    show K _
    exact hK _ ⟨rfl, Sub.refl _⟩
theorem PSum_holds (q : Y × Y × Int) (h : q.1.ok ∧ q.2.1.ok) : Holds Tryd.prog FF 22 (argPSum q) (tRes Z.sv z0 (spTwoP q.1 q.2.1 q.2.2 (fun x y => (x.sum y).hull q.2.2.toNat))).pick := by
  rw [tRes_pick]
  exact holds_run mixed tbC_ok envPSum_ok Tryd.func22 rfl (by kernel_rfl) (args := argPSum q) (PSum_wp q h _ fun _ hr => hr) (fun _ _ _ _ _ h => h)
def PSumC : Con Tryd.prog FF :=
  mkConR 22 (enters_of Tryd.func22 (by kernel_rfl) rfl) decYYi argPSum (fun q => q.1.ok ∧ q.2.1.ok) (fun q => tRes Z.sv z0 (spTwoP q.1 q.2.1 q.2.2 (fun x y => (x.sum y).hull q.2.2.toNat))) decYYi_sub PSum_holds
end Iv
end Go.Proofs.YtfajgibpidlojaaDoor
end

section
/- The sanity check awake; what each kind of result may be. Conditions: the sizes of what comes in. -/
set_option linter.unusedVariables false
set_option linter.unusedSimpArgs false
set_option maxHeartbeats 4000000
set_option maxRecDepth 8000
namespace Go.Proofs.YtfajgibpidlojaaDoor
namespace Iv
open Go Go.Proofs

/-- An error, or a canonical interval. -/
def okRes (r : Except Int Z) : Prop := (∃ e, ¬ e = 0 ∧ r = .error e) ∨ ∃ z : Z, z.can ∧ r = .ok z
theorem tRes_val {r : Except Int Z} (h : okRes r) : ∃ (z : Z) (e : Int), ((¬ e = 0 ∧ z = z0) ∨ (e = 0 ∧ z.can)) ∧ ∀ (Q : SV → Prop) (E : Int → Prop), Q (.tup [z.sv, .int .i64 e]) → wpRes Q E (tRes Z.sv z0 r) := by
  rcases h with ⟨e, he, rfl⟩ | ⟨z, hz, rfl⟩
  · exact ⟨z0, e, .inl ⟨he, rfl⟩, fun Q E hq => ⟨fun _ => hq, fun c => absurd ⟨e, rfl⟩ c⟩⟩
  · exact ⟨z, 0, .inr ⟨rfl, hz⟩, fun Q E hq => ⟨fun ⟨e, c⟩ => (by cases c), fun _ => hq⟩⟩
theorem outA_okRes {A : Ab} (h : A.wf) : okRes (outA A) := by
  unfold outA
  split
  · rename_i hf; exact .inr ⟨_, ⟨A, h, hf, rfl⟩, rfl⟩
  · exact .inl ⟨1, by decide, rfl⟩
theorem yab_wf (y : Y) : y.ab.wf := sp_wf _ _
theorem spTwoP_okRes (a b : Y) (p : Int) (F : Ab → Ab → Ab) (hF : ∀ x y : Ab, x.wf → y.wf → (F x y).wf) : okRes (spTwoP a b p F) := by
  unfold spTwoP
  split
  · split
    · exact outA_okRes (hF _ _ (yab_wf a) (yab_wf b))
    · exact .inl ⟨2, by decide, rfl⟩
  · exact .inl ⟨1, by decide, rfl⟩
/-! ### awake -/
def zN (m n : Int) : Z := ⟨cT (vQ (tF (m : Rat))), cT (vQ (tF (n : Rat))), false, false⟩
theorem zN_cz (m n : Int) : zN m n = cz (some (some (m : Rat), some (n : Rat))) := by unfold zN; rw [vQ_tF, vQ_tF]; rfl
theorem awake_sum : spTwoP (yZ (zN 1 2)) (yZ (zN 3 4)) 0 (fun x y => (x.sum y).hull (0 : Int).toNat) = .ok ⟨(false, 4, 0), (false, 6, 0), false, false⟩ := by
  rw [zN_cz, zN_cz]
  have f1 : Ab.fits (some (some ((1 : Int) : Rat), some ((2 : Int) : Rat))) = true := by decide
  have f2 : Ab.fits (some (some ((3 : Int) : Rat), some ((4 : Int) : Rat))) = true := by decide
  have w1 : Ab.wf (some (some ((1 : Int) : Rat), some ((2 : Int) : Rat))) := show ((1 : Int) : Rat) ≤ ((2 : Int) : Rat) by decide
  have w2 : Ab.wf (some (some ((3 : Int) : Rat), some ((4 : Int) : Rat))) := show ((3 : Int) : Rat) ≤ ((4 : Int) : Rat) by decide
  unfold spTwoP
  rw [(yZ_ok _ f1).2, (yZ_ok _ f2).2, yZ_ab _ w1, yZ_ab _ w2, Bool.and_self, if_pos rfl, if_pos (by decide)]
  have e : Ab.hull (0 : Int).toNat (Ab.sum (some (some ((1 : Int) : Rat), some ((2 : Int) : Rat))) (some (some ((3 : Int) : Rat), some ((4 : Int) : Rat)))) = some (some 4, some 6) := by decide +kernel
  show outA (Ab.hull (0 : Int).toNat (Ab.sum (some (some ((1 : Int) : Rat), some ((2 : Int) : Rat))) (some (some ((3 : Int) : Rat), some ((4 : Int) : Rat))))) = _
  rw [e]
  unfold outA
  rw [if_pos (by decide)]
  have c1 : cT 4 = (false, 4, 0) := by decide
  have c2 : cT 6 = (false, 6, 0) := by decide
  show Except.ok (Z.mk (cT 4) (cT 6) false false) = _
  rw [c1, c2]
theorem zN_ok (m n : Int) (hf : Ab.fits (some (some (m : Rat), some (n : Rat))) = true) : (yZ (zN m n)).ok := by
  rw [zN_cz]
  exact (yZ_ok _ hf).1
theorem okQ_int (n : Int) (h : fitR (n : Rat) = true) : OkQ (tF (n : Rat)) := by
  have := bd_fit h
  exact okQ_tF (Nat.le_trans this.num (by rw [fb_eq]; decide)) (Nat.le_trans this.den (by rw [fb_eq]; decide))
noncomputable def envAw : Env := envOf [rintC FF, ratC FF, PSumC]
theorem envAw_ok : EnvOK Tryd.prog FF tbX envAw := envOf_ok _
theorem awake_wp (K : Except Int SV → Prop) (hK : ∀ r, SubE r (.ok (.bool true)) → K r) :
    wpF tbX envAw (wpDraw tbX envAw) Tryd.f14 [] K := by
  have o1 := zN_ok 1 2 (by decide)
  have o2 := zN_ok 3 4 (by decide)
  have q1 := okQ_int 1 (by decide)
  have q2 := okQ_int 2 (by decide)
  have q3 := okQ_int 3 (by decide)
  have q4 := okQ_int 4 (by decide)
  have E := awake_sum
  refine And.intro ⟨by decide, by decide⟩ ?_
  refine And.intro q1 ?_
  refine And.intro ⟨by decide, by decide⟩ ?_
  refine And.intro q2 ?_
  refine And.intro ⟨by decide, by decide⟩ ?_
  refine And.intro q3 ?_
  refine And.intro ⟨by decide, by decide⟩ ?_
  refine And.intro q4 ?_
  refine And.intro ⟨o1, o2⟩ ?_
  show wpRes _ _ (tRes Z.sv z0 (spTwoP (yZ (zN 1 2)) (yZ (zN 3 4)) 0 (fun x y => (x.sum y).hull (0 : Int).toNat)))
  rw [E]
  refine And.intro (fun ⟨e, h⟩ => by cases h) (fun _ => ?_)
  refine And.intro ⟨by decide, by decide⟩ ?_
  refine And.intro ⟨by decide, by decide⟩ ?_
  show K _
  exact hK _ ⟨rfl, Sub.refl _⟩
theorem awake_holds (p : Unit) (h : True) : Holds Tryd.prog FF 14 [] (.ok (.bool true)) :=
  holds_run mixed tbX_ok envAw_ok Tryd.func14 rfl (by kernel_rfl) (args := []) (awake_wp _ fun _ hr => hr) (fun _ _ _ _ _ h => h)
def awakeC : Con Tryd.prog FF :=
  mkCon 14 (enters_of Tryd.func14 (by kernel_rfl) rfl) dec_0 (fun _ => []) (fun _ => True) (fun _ => .bool true) dec_0_sub awake_holds
end Iv
end Go.Proofs.YtfajgibpidlojaaDoor
end

section
/- How an interval among a law's arguments reads, and the library's table; what the bound on the input's size gives. Conditions: the bound. -/
set_option linter.unusedVariables false
set_option linter.unusedSimpArgs false
set_option maxRecDepth 8000
namespace Go.Proofs.YtfajgibpidlojaaDoor
namespace Iv
open Go Go.Proofs Go.RowKit Go.ChangeShapes Go.WideShapes Go.ChangeAt Go.Deep Go.Joins

theorem bulk_one {H : Type} (d : DataW H) : 1 ≤ Rows.uptoBulk d := by
  cases d with
  | lit l => cases l <;> simp [Rows.uptoBulk]
  | nil => simp [Rows.uptoBulk]
  | ptr d => simp [Rows.uptoBulk]
  | slice elems spare => simp [Rows.uptoBulk]
  | agg parts => simp [Rows.uptoBulk]
  | iface t d => simp [Rows.uptoBulk]
  | map entries => simp [Rows.uptoBulk]
  | held h => simp [Rows.uptoBulk]
theorem bulk_part {H : Type} {d : DataW H} {l : List (DataW H)} (h : d ∈ l) : Rows.uptoBulk d ≤ Rows.uptoBulkAll l := by
  induction l with
  | nil => cases h
  | cons x r ih =>
    simp only [Rows.uptoBulkAll]
    cases List.mem_cons.1 h with
    | inl e => subst e; omega
    | inr e => have := ih e; omega
theorem bulk_length {H : Type} (l : List (DataW H)) : l.length ≤ Rows.uptoBulkAll l := by
  induction l with
  | nil => simp [Rows.uptoBulkAll]
  | cons x r ih => have := bulk_one x; simp only [Rows.uptoBulkAll, List.length_cons]; omega
theorem bulk_agg {H : Type} {d : DataW H} {l : List (DataW H)} (h : d ∈ l) : Rows.uptoBulk d ≤ Rows.uptoBulk (.agg l) := by
  have := bulk_part h
  simp only [Rows.uptoBulk]
  omega
theorem array8 {α : Type} {cs : Array α} (h : cs.size = 8) : ∃ a b c d e f g h, cs = #[a, b, c, d, e, f, g, h] := by
  obtain ⟨l⟩ := cs
  match l, h with
  | [a, b, c, d, e, f, g, h], _ => exact ⟨a, b, c, d, e, f, g, h, rfl⟩
theorem laidOut : laidOutB Tryd.prog = true := by kernel_rfl
theorem cellsInt : Tryd.prog.cellsOf 3 = 1 := by kernel_rfl
theorem cellsU32 : Tryd.prog.cellsOf 74 = 1 := by kernel_rfl
theorem cellsSl : Tryd.prog.cellsOf 22 = 1 := by kernel_rfl
theorem cellsBool : Tryd.prog.cellsOf 4 = 1 := by kernel_rfl
theorem cellsRat : Tryd.prog.cellsOf 24 = 3 := by kernel_rfl
theorem cellsIv : Tryd.prog.cellsOf 26 = 8 := by kernel_rfl

section
variable {H : Type} {enc : TypeId × Value → H} {W : World} {M : Nat → Prop} {N : Nat} {bnd : Nat → Option Value}
/-- A list of words. -/
theorem read_words (hM : ∀ b, ¬ M b) {fuel : Nat} {v : Value} {x : DataW H × List MemPlace} (h : DataW.trod enc Tryd.prog W 0 (fun _ => true) true fuel 22 [v] = some x) (hb : Rows.uptoBulk x.1 ≤ 1048576) :
    ∃ l : List Nat, (∀ y ∈ l, y < B32) ∧ l.length ≤ 2097152 ∧ Ws M W l v := by
  rcases open_slice1 Tryd.underlying22 cellsU32 h with ⟨e, _⟩ | ⟨a, len, cap, m, n, V, D, Pl, e, _, hlc, hcm, hm, hx, hi⟩
  · simp only [List.cons.injEq, and_true] at e
    subst e
    exact ⟨[], by simp, by simp, by simp, by simp [cap30], none, 0, rfl, by simp, by simp⟩
  · simp only [List.cons.injEq, and_true] at e
    subst e
    simp only [if_true] at hm
    subst hm
    have hlen : len ≤ 1048576 := by
      rw [hx] at hb
      have := bulk_length ((List.range len).map D)
      simp only [Rows.uptoBulk] at hb
      simp at this
      omega
    have hV : ∀ i, i < len → ∃ k : Nat, k < B32 ∧ V i = .int .u32 (k : Nat) := by
      intro i hil
      obtain ⟨_, h2⟩ := hi i (by omega)
      obtain ⟨z, hz, _, hw⟩ := DataW.trod_int Tryd.underlying74 h2
      simp only [List.cons.injEq, and_true] at hz
      have hr : 0 ≤ z ∧ z < 4294967296 := by
        have m1 : IntKind.u32.min = 0 := by decide
        have m2 : IntKind.u32.max = 4294967295 := by decide
        simp only [Lit.wf, Bool.and_eq_true, decide_eq_true_eq, m1, m2] at hw
        omega
      have hB : B32 = 4294967296 := rfl
      exact ⟨z.toNat, by omega, by rw [hz, Int.toNat_of_nonneg hr.1]⟩
    let g : Nat → Nat := fun i => match V i with | .int _ z => z.toNat | _ => 0
    have hg : ∀ i, i < len → V i = .int .u32 (g i : Nat) ∧ g i < B32 := by
      intro i hil
      obtain ⟨k, hk, e⟩ := hV i hil
      have : g i = k := by simp only [g, e]; simp
      rw [this]
      exact ⟨e, hk⟩
    have hw : ∀ y ∈ (List.range len).map g, y < B32 := by
      intro y hy
      obtain ⟨i, hi', rfl⟩ := List.mem_map.1 hy
      exact (hg i (List.mem_range.1 hi')).2
    refine ⟨(List.range len).map g, hw, by simp; omega, hw, by simp [cap30]; omega, some a, m, by simp, by simpa using hlc, fun _ => ⟨a, rfl, hM _, fun j hj => ?_⟩⟩
    have hj' : j < len := by simpa using hj
    rw [(hi j (by omega)).1, (hg j hj').1]
    simp [List.getD_eq_getElem?_getD, hj']
/-- A number. -/
theorem read_rat (hM : ∀ b, ¬ M b) {fuel : Nat} {c0 c1 c2 : Value} {x : DataW H × List MemPlace} (h : DataW.trod enc Tryd.prog W 0 (fun _ => true) true fuel 24 [c0, c1, c2] = some x) (hb : Rows.uptoBulk x.1 ≤ 1048576) :
    ∃ y : X, y.ok ∧ c0 = .bool y.neg ∧ Ws M W y.num c1 ∧ Ws M W y.den c2 := by
  obtain ⟨y0, y1, y2, n, rfl, _, h0, h1, h2⟩ := trod_struct3 Tryd.underlying24 h
  have b1 : Rows.uptoBulk y1.1 ≤ 1048576 := Nat.le_trans (bulk_agg (by simp)) hb
  have b2 : Rows.uptoBulk y2.1 ≤ 1048576 := Nat.le_trans (bulk_agg (by simp)) hb
  simp only [cellsBool, cellsSl] at h0 h1 h2
  obtain ⟨b, e, _⟩ := DataW.trod_bool Tryd.underlying4 h0
  simp at e
  obtain ⟨l, l1, l2, l3⟩ := read_words hM (v := c1) (by simpa using h1) b1
  obtain ⟨m, m1, m2, m3⟩ := read_words hM (v := c2) (by simpa using h2) b2
  exact ⟨⟨b, l, m⟩, ⟨l1, m1, l2, m2⟩, e, l3, m3⟩
/-- An interval. -/
theorem read_iv (hM : ∀ b, ¬ M b) {r : Reach} {b0 : Nat} {v : Value} {d : DataW H} {ps : List MemPlace} (hv : Value.okWide Tryd.prog W r b0 26 v) (h : DataW.Trod enc Tryd.prog W 0 (fun _ => true) true 26 v d ps) (hb : Rows.uptoBulk d ≤ 1048576) :
    ∃ y : Y, y.ok ∧ Rp M N bnd W y.sv v := by
  obtain ⟨cs, rfl, hsz⟩ := okWide_struct Tryd.underlying26 hv
  obtain ⟨c0, c1, c2, c3, c4, c5, c6, c7, rfl⟩ := array8 (hsz.trans cellsIv)
  obtain ⟨fuel, hf⟩ := h
  obtain ⟨y0, y1, y2, y3, n, hx, _, h0, h1, h2, h3⟩ := trod_struct4 Tryd.underlying26 hf
  simp only [Prod.mk.injEq] at hx
  obtain ⟨rfl, _⟩ := hx
  have b1 : Rows.uptoBulk y0.1 ≤ 1048576 := Nat.le_trans (bulk_agg (by simp)) hb
  have b2 : Rows.uptoBulk y1.1 ≤ 1048576 := Nat.le_trans (bulk_agg (by simp)) hb
  simp only [cellsBool, cellsRat] at h0 h1 h2 h3
  obtain ⟨x0, o0, e0, w1, w2⟩ := read_rat hM (c0 := c0) (c1 := c1) (c2 := c2) (by simpa [Value.cells] using h0) b1
  obtain ⟨x1, o1, e1, w3, w4⟩ := read_rat hM (c0 := c3) (c1 := c4) (c2 := c5) (by simpa [Value.cells] using h1) b2
  obtain ⟨li, e2, _⟩ := DataW.trod_bool Tryd.underlying4 h2
  obtain ⟨hf', e3, _⟩ := DataW.trod_bool Tryd.underlying4 h3
  simp [Value.cells] at e2 e3
  subst e0 e1 e2 e3
  refine ⟨⟨x0, x1, li, hf'⟩, ⟨o0, o1⟩, ?_⟩
  exact ⟨_, rfl, _, _, rfl, rfl, _, _, rfl, w1, _, _, rfl, w2, _, _, rfl, rfl, _, _, rfl, w3, _, _, rfl, w4, _, _, rfl, rfl, _, _, rfl, rfl, rfl⟩
end
/-! ### The table -/
theorem gTab : Tryd.prog.globalNamed "math/bits.deBruijn32tab" = some 0 := by kernel_rfl
theorem gTabType : (Tryd.prog.globals[0]?).map (·.type) = some 152 := by kernel_rfl
theorem cellsTab : Tryd.prog.cellsOf 152 = 32 := by kernel_rfl
theorem cellsU8 : Tryd.prog.cellsOf 5 = 1 := by kernel_rfl
theorem gl_of {W : World} {rest : List (String × DataW Unit)} (h : laidMetH Tryd.prog (("math/bits.deBruijn32tab", Rows.laid_math_bits_deBruijn32tab) :: rest) W) (hr : rest = []) : Gl W := by
  subst hr
  have ht : Lib.TabIs Tryd.prog W "math/bits.deBruijn32tab" .u8 (tab32.map fun (n : Nat) => (n : Int)) :=
    Lib.tabIs_of_head (rest := []) gTab gTabType Tryd.underlying152 Tryd.underlying5 cellsU8 cellsTab h
  intro j hj
  have := ht.cell gTab j (by simpa [tab32] using hj)
  rw [this]
  have e : ((tab32.map fun (n : Nat) => (n : Int)).getD j 0) = ((tab32.getD j 0 : Nat) : Int) := by
    rw [List.getD_eq_getElem?_getD, List.getD_eq_getElem?_getD, List.getElem?_map]
    cases tab32[j]? <;> rfl
  rw [e]
theorem mok_none {W : World} (h : Gl W) : MOK (fun _ => False) W := ⟨fun _ h => h.elim, h⟩
end Iv
end Go.Proofs.YtfajgibpidlojaaDoor
end

section
/- Contracts of the reference's intervals, part B: Rounded, Minus. Conditions: the sizes. -/
set_option linter.unusedVariables false
set_option linter.unusedSimpArgs false
set_option maxHeartbeats 4000000
set_option maxRecDepth 8000
namespace Go.Proofs.YtfajgibpidlojaaDoor
namespace Iv
open Go Go.Proofs

/-! ### Rounded -/
def Se.rnd (s : Se) (k : Nat) : Se := if s.vo then s else ⟨if s.li then s.lo else tF (gridR false k (vQ s.lo)), if s.hf then s.hi else tF (gridR true k (vQ s.hi)), s.li, s.hf, false⟩
noncomputable def envRnd (F : TypeId) : Env := envOf [gdownC F, gupC F]
theorem envRnd_ok (F : TypeId) : EnvOK Tryd.prog F tbX (envRnd F) := envOf_ok _
theorem rnd_wp (F : TypeId) (s : Se) (k : Int) (hs : s.inv) (h0 : 0 ≤ k) (h1 : k ≤ 1000) (K : Except Int SV → Prop) (hK : ∀ r, SubE r (.ok (s.rnd k.toNat).rv) → K r) :
    wpF tbX (envRnd F) (wpDraw tbX (envRnd F)) Tryd.f47 [s.rv, .int .i64 k] K := by
  obtain ⟨lo, hi, li, hf, vo⟩ := s
  cases vo
  · cases li <;> cases hf
    · refine And.intro ⟨hs.lo, h0, h1⟩ ?_
      refine And.intro ⟨hs.hi, h0, h1⟩ ?_
      show K _
      exact hK _ ⟨rfl, Sub.refl _⟩
    · refine And.intro ⟨hs.lo, h0, h1⟩ ?_
      show K _
      exact hK _ ⟨rfl, Sub.refl _⟩
    · refine And.intro ⟨hs.hi, h0, h1⟩ ?_
      show K _
      exact hK _ ⟨rfl, Sub.refl _⟩
    · show K _
      exact hK _ ⟨rfl, Sub.refl _⟩
  · show K _
    exact hK _ ⟨rfl, Sub.refl _⟩
theorem rnd_holds (F : TypeId) (p : Se × Int) (h : p.1.inv ∧ 0 ≤ p.2 ∧ p.2 ≤ 1000) : Holds Tryd.prog F 47 [p.1.rv, .int .i64 p.2] (.ok (p.1.rnd p.2.toNat).rv) :=
  holds_run mixed tbX_ok (envRnd_ok F) Tryd.func47 rfl (by kernel_rfl) (args := [p.1.rv, .int .i64 p.2]) (rnd_wp F p.1 p.2 h.1 h.2.1 h.2.2 _ fun _ hr => hr) (fun _ _ _ _ _ h => h)
def rndC (F : TypeId) : Con Tryd.prog F :=
  mkCon 47 (enters_of Tryd.func47 (by kernel_rfl) rfl) decIi (fun p => [p.1.rv, .int .i64 p.2]) (fun p => p.1.inv ∧ 0 ≤ p.2 ∧ p.2 ≤ 1000) (fun p => (p.1.rnd p.2.toNat).rv) decIi_sub (rnd_holds F)
theorem rnd_ab (s : Se) (k : Nat) : (s.rnd k).abq = s.abq.hull k := by
  obtain ⟨lo, hi, li, hf, vo⟩ := s
  cases vo <;> cases li <;> cases hf <;> simp [Se.rnd, Se.abq, Ab.hull, enQ, vQ_tF]
theorem rnd_inv (s : Se) (k : Nat) (h : s.inv) (hk : k ≤ 1000) (hb : (s.li = false → Bd 10000 (vQ s.lo)) ∧ (s.hf = false → Bd 10000 (vQ s.hi))) : (s.rnd k).inv := by
  obtain ⟨lo, hi, li, hf, vo⟩ := s
  cases vo
  · have g1 : li = false → OkQ (tF (gridR false k (vQ lo))) := fun e => by
      have := (hb.1 e).grid false k
      exact okQ_tF (Nat.le_trans this.num (by rw [fb_eq]; omega)) (Nat.le_trans this.den (by rw [fb_eq]; omega))
    have g2 : hf = false → OkQ (tF (gridR true k (vQ hi))) := fun e => by
      have := (hb.2 e).grid true k
      exact okQ_tF (Nat.le_trans this.num (by rw [fb_eq]; omega)) (Nat.le_trans this.den (by rw [fb_eq]; omega))
    cases li <;> cases hf
    · exact ⟨g1 rfl, g2 rfl, fun e => (by cases e), fun e => (by cases e), fun e => (by cases e)⟩
    · exact ⟨g1 rfl, h.hi, fun e => (by cases e), fun e => h.hf rfl, fun e => (by cases e)⟩
    · exact ⟨h.lo, g2 rfl, fun e => h.li rfl, fun e => (by cases e), fun e => (by cases e)⟩
    · exact ⟨h.lo, h.hi, fun e => h.li rfl, fun e => h.hf rfl, fun e => (by cases e)⟩
  · exact h
/-! ### Minus -/
def Se.mns (s : Se) : Se := if s.vo then s else ⟨opQ s.hi, opQ s.lo, s.hf, s.li, false⟩
noncomputable def envMns (F : TypeId) : Env := envOf [roppC F]
theorem envMns_ok (F : TypeId) : EnvOK Tryd.prog F tbX (envMns F) := envOf_ok _
theorem mns_wp (F : TypeId) (s : Se) (K : Except Int SV → Prop) (hK : ∀ r, SubE r (.ok s.mns.rv) → K r) :
    wpF tbX (envMns F) (wpDraw tbX (envMns F)) Tryd.f118 [s.rv] K := by
  obtain ⟨lo, hi, li, hf, vo⟩ := s
  cases vo
  · refine And.intro (by kernel_rfl) (Or.inl ?_)
    refine And.intro trivial ?_
    refine And.intro trivial ?_
    show K _
    exact hK _ ⟨rfl, Sub.refl _⟩
  · show K _
    exact hK _ ⟨rfl, Sub.refl _⟩
theorem mns_holds (F : TypeId) (s : Se) (h : True) : Holds Tryd.prog F 118 [s.rv] (.ok s.mns.rv) :=
  holds_run mixed tbX_ok (envMns_ok F) Tryd.func118 rfl (by kernel_rfl) (args := [s.rv]) (mns_wp F s _ fun _ hr => hr) (fun _ _ _ _ _ h => h)
def mnsC (F : TypeId) : Con Tryd.prog F :=
  mkCon 118 (enters_of Tryd.func118 (by kernel_rfl) rfl) decI (fun s => [s.rv]) (fun _ => True) (fun s => s.mns.rv) decI_sub (mns_holds F)
theorem vQ_opQ {p : Tr} (h : OkQ p) : vQ (opQ p) = - vQ p := (opQ_parts h).2
theorem mns_ab (s : Se) (h : s.inv) : s.mns.abq = s.abq.neg := by
  have e1 := vQ_opQ h.lo
  have e2 := vQ_opQ h.hi
  obtain ⟨lo, hi, li, hf, vo⟩ := s
  simp only at e1 e2
  cases vo <;> cases li <;> cases hf <;> simp [Se.mns, Se.abq, Ab.neg, enQ, e1, e2]
theorem mns_inv (s : Se) (h : s.inv) : s.mns.inv := by
  have e1 := vQ_opQ h.lo
  have e2 := vQ_opQ h.hi
  have o1 := (opQ_parts h.lo).1
  have o2 := (opQ_parts h.hi).1
  obtain ⟨lo, hi, li, hf, vo⟩ := s
  cases vo
  · refine ⟨o2, o1, fun e => ?_, fun e => ?_, fun e => (by cases e)⟩
    · have := h.hf e
      show vQ (opQ hi) = 0
      simp only at e2 this
      rw [e2, this]; rfl
    · have := h.li e
      show vQ (opQ lo) = 0
      simp only at e1 this
      rw [e1, this]; rfl
  · exact h
/-- Small: as it is read. -/
structure Se.smq (s : Se) : Prop where
  inv : s.inv
  lo : Bd 2048 (vQ s.lo)
  hi : Bd 2048 (vQ s.hi)
theorem bd_zero {k : Nat} (hk : 1 ≤ k) : Bd k 0 := ⟨by rw [show nN 0 = 0 from rfl, nb_zero]; omega, by show nb 1 ≤ k; rw [nb_one]; exact hk⟩
theorem numOk_bd {x : X} (h : numOk x = true) : Bd 2048 x.q := by
  have h1 : nb (nN x.q) ≤ 2048 ∧ nb x.q.den ≤ 2048 := by
    unfold numOk fit at h
    simp only [Bool.and_eq_true, decide_eq_true_eq] at h
    exact h.2
  exact ⟨h1.1, h1.2⟩
theorem rset_smq (y : Y) (h : y.ok) (hg : y.good = true) : y.rset.smq := by
  have e3 : y.good = (numOk y.lo && numOk y.hi) := rfl
  rw [e3, Bool.and_eq_true] at hg
  refine ⟨rset_inv y h, ?_, ?_⟩
  · unfold Y.rset
    split
    · show Bd 2048 (vQ t0); rw [vQ_t0]; exact bd_zero (by decide)
    · dsimp only; split
      · rw [vQ_t0]; exact bd_zero (by decide)
      · rw [vQ_tF]; exact numOk_bd hg.1
  · unfold Y.rset
    split
    · show Bd 2048 (vQ t0); rw [vQ_t0]; exact bd_zero (by decide)
    · dsimp only; split
      · rw [vQ_t0]; exact bd_zero (by decide)
      · rw [vQ_tF]; exact numOk_bd hg.2
theorem mns_smq {s : Se} (h : s.smq) : s.mns.smq := by
  refine ⟨mns_inv s h.inv, ?_, ?_⟩
  · unfold Se.mns
    split
    · exact h.lo
    · show Bd 2048 (vQ (opQ s.hi)); rw [vQ_opQ h.inv.hi]; exact h.hi.neg
  · unfold Se.mns
    split
    · exact h.hi
    · show Bd 2048 (vQ (opQ s.lo)); rw [vQ_opQ h.inv.lo]; exact h.lo.neg
end Iv
end Go.Proofs.YtfajgibpidlojaaDoor
end
