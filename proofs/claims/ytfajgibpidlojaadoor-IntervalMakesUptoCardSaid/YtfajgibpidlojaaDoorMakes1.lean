/-
  The whole proof of a law, the last part. Each part says its own conditions.
-/
import Derived.Test.YtfajgibpidlojaaDoorCards
import Derived.Test.YtfajgibpidlojaaDoorTie
import Derived.Test.YtfajgibpidlojaaDoorBase7
import Derived.Test.YtfajgibpidlojaaDoorBase8

section
/- Sets of numbers: which operations keep the ends in order, and which keep them small. No condition. -/
set_option linter.unusedVariables false
set_option linter.unusedSimpArgs false
namespace Go.Proofs.YtfajgibpidlojaaDoor
namespace Iv
open Go Go.Proofs

theorem sgR_cmp (x : Rat) : sgR x = cmpR x 0 := by
  have h := sgR_sub x 0
  have e : x - 0 = x := by grind
  rwa [e] at h
theorem sgR_pos {x : Rat} : sgR x > 0 ↔ 0 < x := by rw [sgR_cmp, cmpR_pos]
theorem sgR_lt {x : Rat} : sgR x < 0 ↔ x < 0 := by rw [sgR_cmp, cmpR_lt]
theorem sgR_eq {x : Rat} : sgR x = 0 ↔ x = 0 := by rw [sgR_cmp, cmpR_eq]
theorem leR_or (x y : Rat) : leR x y = x ∨ leR x y = y := by unfold leR; split <;> simp
theorem grR_or (x y : Rat) : grR x y = x ∨ grR x y = y := by unfold grR; split <;> simp
theorem leR_le (x y : Rat) : leR x y ≤ x ∧ leR x y ≤ y := by
  unfold leR
  split
  · rename_i h
    rw [cmpR_lt] at h
    exact ⟨Rat.le_of_lt h, Rat.le_refl⟩
  · rename_i h
    rw [cmpR_lt] at h
    exact ⟨Rat.le_refl, Rat.not_lt.1 h⟩
theorem le_grR (x y : Rat) : x ≤ grR x y ∧ y ≤ grR x y := by
  unfold grR
  split
  · rename_i h
    rw [cmpR_pos] at h
    exact ⟨Rat.le_of_lt h, Rat.le_refl⟩
  · rename_i h
    rw [cmpR_pos] at h
    exact ⟨Rat.le_refl, Rat.not_lt.1 h⟩
/-! ### The order -/
theorem meet_wf (x y : Ab) : (x.meet y).wf := by
  match x, y with
  | none, _ => trivial
  | some (a, b), none => trivial
  | some (a, b), some (c, d) => exact sp_wf _ _
theorem join_wf {x y : Ab} (h : x.wf) (k : y.wf) : (x.join y).wf := by
  match x, y, h, k with
  | none, _, _, k => exact k
  | some (a, b), none, h, _ => exact h
  | some (none, b), some (c, d), _, _ => trivial
  | some (some a, none), some (none, d), _, _ => trivial
  | some (some a, none), some (some c, d), _, _ => trivial
  | some (some a, some b), some (none, d), _, _ => trivial
  | some (some a, some b), some (some c, none), _, _ => trivial
  | some (some a, some b), some (some c, some d), h, k =>
    have h1 : a ≤ b := h
    exact Rat.le_trans (leR_le a c).1 (Rat.le_trans h1 (le_grR b d).1)
theorem abs_wf {x : Ab} (h : x.wf) : x.abs.wf := by
  match x, h with
  | none, _ => trivial
  | some (a, b), h =>
    show (if sgL a ≥ 0 then some (a, b) else if sgH b ≤ 0 then Ab.neg (some (a, b)) else some (some 0, l2 grR (a.map (- ·)) b) : Ab).wf
    split
    · exact h
    · split
      · exact neg_wf h
      · rename_i hb
        match a, b, hb with
        | none, _, _ => trivial
        | some x, none, _ => trivial
        | some x, some y, hb =>
          have hy : 0 < y := by
            have : ¬ sgR y ≤ 0 := hb
            have : sgR y > 0 := by omega
            exact sgR_pos.1 this
          exact Rat.le_trans (Rat.le_of_lt hy) (le_grR (-x) y).2
theorem low_wf {x y : Ab} (h : x.wf) (k : y.wf) : (x.low y).wf := by
  match x, y, h, k with
  | none, _, _, _ => trivial
  | some (a, b), none, _, _ => trivial
  | some (none, b), some (c, d), _, _ => trivial
  | some (some a, b), some (none, d), _, _ => trivial
  | some (some a, none), some (some c, none), _, _ => trivial
  | some (some a, none), some (some c, some d), h, k =>
    have k1 : c ≤ d := k
    exact Rat.le_trans (leR_le a c).2 k1
  | some (some a, some b), some (some c, none), h, k =>
    have h1 : a ≤ b := h
    exact Rat.le_trans (leR_le a c).1 h1
  | some (some a, some b), some (some c, some d), h, k =>
    have h1 : a ≤ b := h
    have k1 : c ≤ d := k
    show leR a c ≤ leR b d
    rcases leR_or b d with e | e <;> rw [e]
    · exact Rat.le_trans (leR_le a c).1 h1
    · exact Rat.le_trans (leR_le a c).2 k1
/-! ### The sizes -/
theorem fitR_neg (q : Rat) : fitR (-q) = fitR q := by
  obtain ⟨n1, n2, n3⟩ := neg_parts q
  unfold fitR
  rw [n2, n3]
theorem fitR_le {x y : Rat} (h : fitR x = true) (k : fitR y = true) : fitR (leR x y) = true := by rcases leR_or x y with e | e <;> rw [e] <;> assumption
theorem fitR_gr {x y : Rat} (h : fitR x = true) (k : fitR y = true) : fitR (grR x y) = true := by rcases grR_or x y with e | e <;> rw [e] <;> assumption
theorem sp_fits {l h : Option Rat} (hl : l.all fitR = true) (hh : h.all fitR = true) : (Ab.sp l h).fits = true := by
  have : Ab.fits (some (l, h)) = true := by simp [Ab.fits, hl, hh]
  unfold Ab.sp
  split
  · split
    · rfl
    · exact this
  · exact this
theorem ab_fits (y : Y) (h : y.good = true) : y.ab.fits = true := by
  have e3 : y.good = (numOk y.lo && numOk y.hi) := rfl
  rw [e3, Bool.and_eq_true] at h
  have f : ∀ x : X, numOk x = true → fitR x.q = true := fun x hx => by
    unfold numOk at hx
    rw [Bool.and_eq_true] at hx
    exact hx.2
  unfold Y.ab
  refine sp_fits ?_ ?_
  · split
    · rfl
    · exact f _ h.1
  · split
    · rfl
    · exact f _ h.2
theorem neg_fits {x : Ab} (h : x.fits = true) : x.neg.fits = true := by
  match x, h with
  | none, _ => rfl
  | some (a, b), h =>
    unfold Ab.fits at h
    rw [Bool.and_eq_true] at h
    have f : ∀ o : Option Rat, o.all fitR = true → (o.map (- ·)).all fitR = true := fun o ho => by
      cases o
      · rfl
      · simp only [Option.map_some, Option.all_some] at ho ⊢
        rw [fitR_neg]; exact ho
    simp only [Ab.neg, Ab.fits, f _ h.1, f _ h.2, Bool.and_self]
theorem l2_fits {f : Rat → Rat → Rat} (hf : ∀ x y, fitR x = true → fitR y = true → fitR (f x y) = true) {a b : Option Rat} (h : a.all fitR = true) (k : b.all fitR = true) : (l2 f a b).all fitR = true := by
  cases a <;> cases b <;> first | rfl | exact hf _ _ h k
theorem m2_fits {f : Rat → Rat → Rat} (hf : ∀ x y, fitR x = true → fitR y = true → fitR (f x y) = true) {a b : Option Rat} (h : a.all fitR = true) (k : b.all fitR = true) : (m2 f a b).all fitR = true := by
  cases a <;> cases b <;> first | rfl | exact hf _ _ h k | exact h | exact k
theorem meet_fits {x y : Ab} (h : x.fits = true) (k : y.fits = true) : (x.meet y).fits = true := by
  match x, y, h, k with
  | none, _, _, _ => rfl
  | some (a, b), none, _, _ => rfl
  | some (a, b), some (c, d), h, k =>
    unfold Ab.fits at h k
    rw [Bool.and_eq_true] at h k
    exact sp_fits (m2_fits (fun _ _ => fitR_gr) h.1 k.1) (m2_fits (fun _ _ => fitR_le) h.2 k.2)
theorem join_fits {x y : Ab} (h : x.fits = true) (k : y.fits = true) : (x.join y).fits = true := by
  match x, y, h, k with
  | none, _, _, k => exact k
  | some (a, b), none, h, _ => exact h
  | some (a, b), some (c, d), h, k =>
    unfold Ab.fits at h k
    rw [Bool.and_eq_true] at h k
    simp only [Ab.join, Ab.fits, l2_fits (fun _ _ => fitR_le) h.1 k.1, l2_fits (fun _ _ => fitR_gr) h.2 k.2, Bool.and_self]
theorem low_fits {x y : Ab} (h : x.fits = true) (k : y.fits = true) : (x.low y).fits = true := by
  match x, y, h, k with
  | none, _, _, _ => rfl
  | some (a, b), none, _, _ => rfl
  | some (a, b), some (c, d), h, k =>
    unfold Ab.fits at h k
    rw [Bool.and_eq_true] at h k
    simp only [Ab.low, Ab.fits, l2_fits (fun _ _ => fitR_le) h.1 k.1, m2_fits (fun _ _ => fitR_le) h.2 k.2, Bool.and_self]
theorem abs_fits {x : Ab} (h : x.fits = true) : x.abs.fits = true := by
  match x, h with
  | none, _ => rfl
  | some (a, b), h =>
    have h0 := neg_fits h
    have h' := h
    unfold Ab.fits at h
    rw [Bool.and_eq_true] at h
    show (if sgL a ≥ 0 then some (a, b) else if sgH b ≤ 0 then Ab.neg (some (a, b)) else some (some 0, l2 grR (a.map (- ·)) b) : Ab).fits = true
    split
    · exact h'
    · split
      · exact h0
      · have f : (a.map (- ·)).all fitR = true := by
          have ha := h.1
          cases a
          · rfl
          · simp only [Option.map_some, Option.all_some] at ha ⊢
            rw [fitR_neg]; exact ha
        have z : Option.all fitR (some 0) = true := fitR_zero
        simp only [Ab.fits, z, l2_fits (fun _ _ => fitR_gr) f h.2, Bool.and_self]
theorem outA_fits {A : Ab} (h : A.fits = true) : outA A = .ok (cz A) := if_pos h
end Iv
end Go.Proofs.YtfajgibpidlojaaDoor
end

section
/- What the answers of the layer's functions may be: an error, or a canonical interval. No condition. -/
set_option linter.unusedVariables false
set_option linter.unusedSimpArgs false
namespace Go.Proofs.YtfajgibpidlojaaDoor
namespace Iv
open Go Go.Proofs

theorem spOne_okRes (a : Y) (F : Ab → Ab) (hF : ∀ x : Ab, x.wf → (F x).wf) : okRes (spOne a F) := by
  unfold spOne
  split
  · exact outA_okRes (hF _ (yab_wf a))
  · exact .inl ⟨1, by decide, rfl⟩
theorem spTwo_okRes (a b : Y) (F : Ab → Ab → Ab) (hF : ∀ x y : Ab, x.wf → y.wf → (F x y).wf) : okRes (spTwo a b F) := by
  unfold spTwo
  split
  · exact outA_okRes (hF _ _ (yab_wf a) (yab_wf b))
  · exact .inl ⟨1, by decide, rfl⟩
/-- Answers that are no intervals: any value with any error. -/
theorem tRes_any {α : Type} (sv : α → SV) (zero : α) (r : Except Int α) : ∃ (z : α) (e : Int), ∀ (Q : SV → Prop) (E : Int → Prop), Q (.tup [sv z, .int .i64 e]) → wpRes Q E (tRes sv zero r) := by
  cases r with
  | error e => exact ⟨zero, e, fun Q E hq => ⟨fun _ => hq, fun c => absurd ⟨e, rfl⟩ c⟩⟩
  | ok z => exact ⟨z, 0, fun Q E hq => ⟨fun ⟨e, c⟩ => (by cases c), fun _ => hq⟩⟩
end Iv
end Go.Proofs.YtfajgibpidlojaaDoor
end

section
/- Contracts of the intervals' closures: Canon$1; what unary and exact come to at each operation. Conditions: the sizes. -/
set_option linter.unusedVariables false
set_option linter.unusedSimpArgs false
set_option maxHeartbeats 4000000
set_option maxRecDepth 8000
namespace Go.Proofs.YtfajgibpidlojaaDoor
namespace Iv
open Go Go.Proofs

noncomputable def envCan : Env := envOf [minusC]
theorem envCan_ok : EnvOK Tryd.prog FF tbX envCan := envOf_ok _
theorem can1_wp (s : Se) (K : Except Int SV → Prop) (hK : ∀ r, SubE r (.ok s.sv) → K r) :
    wpF tbX envCan (wpDraw tbX envCan) Tryd.f109 [s.sv] K := by
  show K _
  exact hK _ ⟨rfl, Sub.refl _⟩
theorem can1_holds (s : Se) (h : True) : Holds Tryd.prog FF 109 [s.sv] (.ok s.sv) :=
  holds_run mixed tbX_ok envCan_ok Tryd.func109 rfl (by kernel_rfl) (args := [s.sv]) (can1_wp s _ fun _ hr => hr) (fun _ _ _ _ _ h => h)
def can1C : Con Tryd.prog FF :=
  mkCon 109 (enters_of Tryd.func109 (by kernel_rfl) rfl) decS (fun s => [s.sv]) (fun _ => True) (fun s => s.sv) decS_sub can1_holds
theorem unS_can (a : Y) : unS a (fun s => .ok s) = spOne a (fun x => x) := unS_ok a (fun s => s) (fun x => x) (fun s hs => ⟨rfl, fun _ => hs.fin⟩)
theorem unS_neg (a : Y) : unS a (fun s => .ok s.minus) = spOne a Ab.neg := unS_ok a Se.minus Ab.neg (fun s hs => ⟨minus_ab s (fun _ => hs.fin), minus_okk s (fun _ => hs.fin)⟩)
end Iv
end Go.Proofs.YtfajgibpidlojaaDoor
end

section
/- What the chains over unary rest on; Canon. Conditions: the sizes of what comes in. -/
set_option linter.unusedVariables false
set_option linter.unusedSimpArgs false
set_option maxHeartbeats 4000000
set_option maxRecDepth 8000
namespace Go.Proofs.YtfajgibpidlojaaDoor
namespace Iv
open Go Go.Proofs

/-- The table with the type of functions of one set. -/
def tblU : List (TypeId × Ti) := (62, fnTi) :: tblX
def tbU : Tb := { ti := tbOf tblU, u := 74, inl := fun _ => false }
theorem tbU_ok : TabOK Tryd.prog tbU := tbChk_spec (l := tblU) (by kernel_rfl)
/-! ### unary$1 at Can -/
noncomputable def envUCan : Env := envOf [sreadC, can1C, sgiveC]
theorem envUCan_ok : EnvOK Tryd.prog FF tbU envUCan := envOf_ok _
def argUCan (q : Y) : List SV := [.ref [.fn 109 []] 0, .ref q.cells 0]
theorem UCan_wp (q : Y) (ha : q.ok) (K : Except Int SV → Prop) (hK : ∀ r, SubE r ((unS q (fun s => .ok ((fun s => s) s))).map Z.sv) → K r) :
    wpF tbU envUCan (wpDraw tbU envUCan) Tryd.f98 (argUCan q) K := by
  unfold unS at hK
  refine And.intro (by kernel_rfl) (Or.inl ?_)
  refine And.intro ha (And.intro (fun h => ?_) (fun h => ?_))
  · have h1 : q.good = false := h
    rw [if_neg (by rw [h1]; decide)] at hK
    show K (.error 1)
    exact hK _ rfl
  have h1 : q.good = true := by
    have : ¬ q.good = false := h
    simpa only [Bool.not_eq_false] using this
  rw [if_pos h1] at hK
  refine And.intro (trivial) ?_
  simp only at hK
  refine And.intro trivial (And.intro (fun h => ?_) (fun h => ?_))
  · have h4 : ((fun s => s) q.set).fits = false := h
    rw [if_neg (by rw [h4]; decide)] at hK
    show K (.error 1)
    exact hK _ rfl
  · have h4 : ((fun s => s) q.set).fits = true := by
      have : ¬ ((fun s => s) q.set).fits = false := h
      simpa only [Bool.not_eq_false] using this
    rw [if_pos h4] at hK
    show K (.ok ((fun s => s) q.set).give.sv)
    exact hK _ ⟨rfl, Sub.refl _⟩
theorem UCan_holds (q : Y) (h : q.ok) : Holds Tryd.prog FF 98 (argUCan q) ((spOne q (fun x => x)).map Z.sv) := by
  rw [← unS_can q]
  exact holds_run mixed tbU_ok envUCan_ok Tryd.func98 rfl (by kernel_rfl) (args := argUCan q) (UCan_wp q h _ fun _ hr => hr) (fun _ _ _ _ _ h => h)
def decUCan : List SV → Option (Y)
  | [.ref [.fn k []] 0, x] => match Nat.beq k 109, decC x with
    | true, some a => some a
    | _, _ => none
  | _ => none
theorem decUCan_sub (xs : List SV) (p : Y) (h : decUCan xs = some p) : SubL xs (argUCan p) := by
  unfold decUCan at h
  split at h
  · split at h
    · rename_i ek ha
      have ek := Nat.eq_of_beq_eq_true ek
      simp only [Option.some.injEq] at h
      subst h
      subst ek
      exact SubL.cons (Sub.refl _) (SubL.cons (decC_sub _ _ ha) SubL.nil)
    · cases h
  · cases h
noncomputable def UCanT : TCon Tryd.prog FF Z Z.sv where
  f := 98
  β := Y
  dec := decUCan
  pre := fun q => q.ok
  res := fun q => spOne q (fun x => x)
  ent := enters_of Tryd.func98 (by kernel_rfl) rfl
  pl := fun xs q h => by
    unfold decUCan at h
    split at h
    · split at h
      · rename_i ek ha
        simp only [SV.plainL, SV.plain, decC_plain ha, Bool.and_self]
      · cases h
    · cases h
  ok := fun xs q hd hp => fun M w vs hM ha => UCan_holds q hp M w vs hM (decUCan_sub xs q hd _ _ _ _ _ ha)
/-! ### VCan -/
noncomputable def envVCan : Env := envOf [TryI.con UCanT]
theorem envVCan_ok : EnvOK Tryd.prog FF tbU envVCan := envOf_ok _
def argVCan (q : Y) : List SV := [q.sv, .fn 109 []]
theorem VCan_wp (q : Y) (h : q.ok) (K : Except Int SV → Prop) (hK : ∀ r, SubE r (.ok (tOut Z.sv z0 (spOne q (fun x => x)))) → K r) :
    wpF tbU envVCan (wpDraw tbU envVCan) Tryd.f41 (argVCan q) K := by
  refine And.intro h (And.intro (fun h => ?_) (fun h => ?_))
  · have h : hasErr (spOne q (fun x => x)) := h
    rw [tOut_err h] at hK
    show K _
    exact hK _ ⟨rfl, Sub.refl _⟩
  · have h : ¬ hasErr (spOne q (fun x => x)) := h
    rw [tOut_ok h] at hK
    show K _
    exact hK _ ⟨rfl, Sub.refl _⟩
theorem VCan_holds (q : Y) (h : q.ok) : Holds Tryd.prog FF 41 (argVCan q) (tRes Z.sv z0 (spOne q (fun x => x))).pick := by
  rw [tRes_pick]
  exact holds_run mixed tbU_ok envVCan_ok Tryd.func41 rfl (by kernel_rfl) (args := argVCan q) (VCan_wp q h _ fun _ hr => hr) (fun _ _ _ _ _ h => h)
def decVCan : List SV → Option (Y)
  | [x, .fn k []] => match Nat.beq k 109, decY1 x with
    | true, some a => some a
    | _, _ => none
  | _ => none
theorem decVCan_sub (xs : List SV) (p : Y) (h : decVCan xs = some p) : SubL xs (argVCan p) := by
  unfold decVCan at h
  split at h
  · split at h
    · rename_i ek ha
      have ek := Nat.eq_of_beq_eq_true ek
      simp only [Option.some.injEq] at h
      subst h
      subst ek
      exact SubL.cons (decY1_sub _ _ ha) (SubL.cons (Sub.refl _) SubL.nil)
    · cases h
  · cases h
def VCanC : Con Tryd.prog FF :=
  mkConR 41 (enters_of Tryd.func41 (by kernel_rfl) rfl) decVCan argVCan (fun q => q.ok) (fun q => tRes Z.sv z0 (spOne q (fun x => x))) decVCan_sub VCan_holds
/-! ### PCan -/
noncomputable def envPCan : Env := envOf [VCanC]
theorem envPCan_ok : EnvOK Tryd.prog FF tbU envPCan := envOf_ok _
def argPCan (q : Y) : List SV := [q.sv]
theorem PCan_wp (q : Y) (h : q.ok) (K : Except Int SV → Prop) (hK : ∀ r, SubE r (.ok (tOut Z.sv z0 (spOne q (fun x => x)))) → K r) :
    wpF tbU envPCan (wpDraw tbU envPCan) Tryd.f52 (argPCan q) K := by
  refine And.intro h (And.intro (fun h => ?_) (fun h => ?_))
  · have h : hasErr (spOne q (fun x => x)) := h
    rw [tOut_err h] at hK
    show K _
    exact hK _ ⟨rfl, Sub.refl _⟩
  · have h : ¬ hasErr (spOne q (fun x => x)) := h
    rw [tOut_ok h] at hK
    show K _
    exact hK _ ⟨rfl, Sub.refl _⟩
theorem PCan_holds (q : Y) (h : q.ok) : Holds Tryd.prog FF 52 (argPCan q) (tRes Z.sv z0 (spOne q (fun x => x))).pick := by
  rw [tRes_pick]
  exact holds_run mixed tbU_ok envPCan_ok Tryd.func52 rfl (by kernel_rfl) (args := argPCan q) (PCan_wp q h _ fun _ hr => hr) (fun _ _ _ _ _ h => h)
def PCanC : Con Tryd.prog FF :=
  mkConR 52 (enters_of Tryd.func52 (by kernel_rfl) rfl) decY argPCan (fun q => q.ok) (fun q => tRes Z.sv z0 (spOne q (fun x => x))) decY_sub PCan_holds
end Iv
end Go.Proofs.YtfajgibpidlojaaDoor
end

section
/- Contracts of the reference's intervals: the layer's Canon. Conditions: the sizes of what comes in. -/
set_option linter.unusedVariables false
set_option linter.unusedSimpArgs false
set_option maxHeartbeats 4000000
set_option maxRecDepth 8000
namespace Go.Proofs.YtfajgibpidlojaaDoor
namespace Iv
open Go Go.Proofs

/-! ### RCan -/
noncomputable def envRCan (F : TypeId) : Env := envOf [oneIC F, apiC F]
theorem envRCan_ok (F : TypeId) : EnvOK Tryd.prog F tbX (envRCan F) := envOf_ok _
theorem RCan_wp (F : TypeId) (a : Y) (ha : a.ok) (K : Except Int SV → Prop) (hK : ∀ r, SubE r (.ok (sOut (spOne a (fun x => x)))) → K r) :
    wpF tbX (envRCan F) (wpDraw tbX (envRCan F)) Tryd.f53 [a.sv] K := by
  unfold spOne at hK
  refine And.intro ha (And.intro (fun h => ?_) (fun h => And.intro (fun h2 => ?_) (fun h2 => ?_)))
  · have h1 : a.good = false := h
    rw [if_neg (by rw [h1]; decide)] at hK
    show K _
    exact hK _ ⟨rfl, Sub.tup (SubL.cons (Sub.agg (SubN3 (SubN3 (SubR _)))) (SubR _))⟩
  · exact absurd (show pOk 0 = false from h2) (by decide)
  have h1 : a.good = true := by
    have : ¬ a.good = false := h
    simpa only [Bool.not_eq_false] using this
  rw [if_pos h1] at hK
  have i1 := rset_inv a ha
  have i2 := rset_ab a
  have hf : ((fun x => x) a.ab).fits = true := ab_fits a h1
  rw [outA_fits hf] at hK
  rw [← i2] at hK hf
  show wpRes _ _ (.ok (.tup [a.rset.rv, .int .i64 0]))
  have i0 := rset_smq a ha h1
  clear h h2 i2
  generalize a.rset = s at *
  refine And.intro i1 ?_
  show K (.ok (.tup [(cz s.abq).sv, .int .i64 0]))
  exact hK _ ⟨rfl, Sub.refl _⟩
theorem RCan_holds (F : TypeId) (a : Y) (h : a.ok) : Holds Tryd.prog F 53 [a.sv] (tRes Z.sv z0 (spOne a (fun x => x))).pick := by
  rw [tRes_pick]
  exact holds_run mixed tbX_ok (envRCan_ok F) Tryd.func53 rfl (by kernel_rfl) (args := [a.sv]) (RCan_wp F a h _ fun _ hr => hr) (fun _ _ _ _ _ h => h)
def RCanC (F : TypeId) : Con Tryd.prog F :=
  mkConR 53 (enters_of Tryd.func53 (by kernel_rfl) rfl) decY (fun q => [q.sv]) (fun q => q.ok) (fun q => tRes Z.sv z0 (spOne q (fun x => x))) decY_sub (RCan_holds F)
end Iv
end Go.Proofs.YtfajgibpidlojaaDoor
end

section
/- The functions Between, Point and Whole, the program's and the reference's. Conditions: the sizes of what comes in. -/
set_option linter.unusedVariables false
set_option linter.unusedSimpArgs false
set_option maxHeartbeats 4000000
set_option maxRecDepth 8000
namespace Go.Proofs.YtfajgibpidlojaaDoor
namespace Iv
open Go Go.Proofs

/-- Two numbers, as an interval. -/
def yXX (x y : X) : Y := ⟨x, y, false, false⟩
/-! ### Bet -/
noncomputable def envBet : Env := envOf [PCanC]
theorem envBet_ok : EnvOK Tryd.prog FF tbX envBet := envOf_ok _
def argBet (q : X × X) : List SV := [q.1.sv, q.2.sv]
theorem Bet_wp (q : X × X) (h : q.1.ok ∧ q.2.ok) (K : Except Int SV → Prop) (hK : ∀ r, SubE r (.ok (tOut Z.sv z0 (spOne (yXX q.1 q.2) (fun x => x)))) → K r) :
    wpF tbX envBet (wpDraw tbX envBet) Tryd.f17 (argBet q) K := by
  refine And.intro h (And.intro (fun h => ?_) (fun h => ?_))
  · have h : hasErr (spOne (yXX q.1 q.2) (fun x => x)) := h
    rw [tOut_err h] at hK
    show K _
    exact hK _ ⟨rfl, Sub.refl _⟩
  · have h : ¬ hasErr (spOne (yXX q.1 q.2) (fun x => x)) := h
    rw [tOut_ok h] at hK
    show K _
    exact hK _ ⟨rfl, Sub.refl _⟩
theorem Bet_holds (q : X × X) (h : q.1.ok ∧ q.2.ok) : Holds Tryd.prog FF 17 (argBet q) (tRes Z.sv z0 (spOne (yXX q.1 q.2) (fun x => x))).pick := by
  rw [tRes_pick]
  exact holds_run mixed tbX_ok envBet_ok Tryd.func17 rfl (by kernel_rfl) (args := argBet q) (Bet_wp q h _ fun _ hr => hr) (fun _ _ _ _ _ h => h)
def BetC : Con Tryd.prog FF :=
  mkConR 17 (enters_of Tryd.func17 (by kernel_rfl) rfl) decXX argBet (fun q => q.1.ok ∧ q.2.ok) (fun q => tRes Z.sv z0 (spOne (yXX q.1 q.2) (fun x => x))) decXX_sub Bet_holds
/-! ### RBet -/
noncomputable def envRBet : Env := envOf [RCanC FF]
theorem envRBet_ok : EnvOK Tryd.prog FF tbX envRBet := envOf_ok _
def argRBet (q : X × X) : List SV := [q.1.sv, q.2.sv]
theorem RBet_wp (q : X × X) (h : q.1.ok ∧ q.2.ok) (K : Except Int SV → Prop) (hK : ∀ r, SubE r (.ok (tOut Z.sv z0 (spOne (yXX q.1 q.2) (fun x => x)))) → K r) :
    wpF tbX envRBet (wpDraw tbX envRBet) Tryd.f18 (argRBet q) K := by
  refine And.intro h (And.intro (fun h => ?_) (fun h => ?_))
  · have h : hasErr (spOne (yXX q.1 q.2) (fun x => x)) := h
    rw [tOut_err h] at hK
    show K _
    exact hK _ ⟨rfl, Sub.refl _⟩
  · have h : ¬ hasErr (spOne (yXX q.1 q.2) (fun x => x)) := h
    rw [tOut_ok h] at hK
    show K _
    exact hK _ ⟨rfl, Sub.refl _⟩
theorem RBet_holds (q : X × X) (h : q.1.ok ∧ q.2.ok) : Holds Tryd.prog FF 18 (argRBet q) (tRes Z.sv z0 (spOne (yXX q.1 q.2) (fun x => x))).pick := by
  rw [tRes_pick]
  exact holds_run mixed tbX_ok envRBet_ok Tryd.func18 rfl (by kernel_rfl) (args := argRBet q) (RBet_wp q h _ fun _ hr => hr) (fun _ _ _ _ _ h => h)
def RBetC : Con Tryd.prog FF :=
  mkConR 18 (enters_of Tryd.func18 (by kernel_rfl) rfl) decXX argRBet (fun q => q.1.ok ∧ q.2.ok) (fun q => tRes Z.sv z0 (spOne (yXX q.1 q.2) (fun x => x))) decXX_sub RBet_holds
/-! ### Poi -/
noncomputable def envPoi : Env := envOf [BetC]
theorem envPoi_ok : EnvOK Tryd.prog FF tbX envPoi := envOf_ok _
def argPoi (q : X) : List SV := [q.sv]
theorem Poi_wp (q : X) (h : q.ok ∧ q.ok) (K : Except Int SV → Prop) (hK : ∀ r, SubE r (.ok (tOut Z.sv z0 (spOne (yXX q q) (fun x => x)))) → K r) :
    wpF tbX envPoi (wpDraw tbX envPoi) Tryd.f15 (argPoi q) K := by
  refine And.intro h (And.intro (fun h => ?_) (fun h => ?_))
  · have h : hasErr (spOne (yXX q q) (fun x => x)) := h
    rw [tOut_err h] at hK
    show K _
    exact hK _ ⟨rfl, Sub.refl _⟩
  · have h : ¬ hasErr (spOne (yXX q q) (fun x => x)) := h
    rw [tOut_ok h] at hK
    show K _
    exact hK _ ⟨rfl, Sub.refl _⟩
theorem Poi_holds (q : X) (h : q.ok ∧ q.ok) : Holds Tryd.prog FF 15 (argPoi q) (tRes Z.sv z0 (spOne (yXX q q) (fun x => x))).pick := by
  rw [tRes_pick]
  exact holds_run mixed tbX_ok envPoi_ok Tryd.func15 rfl (by kernel_rfl) (args := argPoi q) (Poi_wp q h _ fun _ hr => hr) (fun _ _ _ _ _ h => h)
def PoiC : Con Tryd.prog FF :=
  mkConR 15 (enters_of Tryd.func15 (by kernel_rfl) rfl) decX argPoi (fun q => q.ok ∧ q.ok) (fun q => tRes Z.sv z0 (spOne (yXX q q) (fun x => x))) decX_sub Poi_holds
/-! ### RPoi -/
noncomputable def envRPoi : Env := envOf [RBetC]
theorem envRPoi_ok : EnvOK Tryd.prog FF tbX envRPoi := envOf_ok _
def argRPoi (q : X) : List SV := [q.sv]
theorem RPoi_wp (q : X) (h : q.ok ∧ q.ok) (K : Except Int SV → Prop) (hK : ∀ r, SubE r (.ok (tOut Z.sv z0 (spOne (yXX q q) (fun x => x)))) → K r) :
    wpF tbX envRPoi (wpDraw tbX envRPoi) Tryd.f16 (argRPoi q) K := by
  refine And.intro h (And.intro (fun h => ?_) (fun h => ?_))
  · have h : hasErr (spOne (yXX q q) (fun x => x)) := h
    rw [tOut_err h] at hK
    show K _
    exact hK _ ⟨rfl, Sub.refl _⟩
  · have h : ¬ hasErr (spOne (yXX q q) (fun x => x)) := h
    rw [tOut_ok h] at hK
    show K _
    exact hK _ ⟨rfl, Sub.refl _⟩
theorem RPoi_holds (q : X) (h : q.ok ∧ q.ok) : Holds Tryd.prog FF 16 (argRPoi q) (tRes Z.sv z0 (spOne (yXX q q) (fun x => x))).pick := by
  rw [tRes_pick]
  exact holds_run mixed tbX_ok envRPoi_ok Tryd.func16 rfl (by kernel_rfl) (args := argRPoi q) (RPoi_wp q h _ fun _ hr => hr) (fun _ _ _ _ _ h => h)
def RPoiC : Con Tryd.prog FF :=
  mkConR 16 (enters_of Tryd.func16 (by kernel_rfl) rfl) decX argRPoi (fun q => q.ok ∧ q.ok) (fun q => tRes Z.sv z0 (spOne (yXX q q) (fun x => x))) decX_sub RPoi_holds
/-! ### Whole -/
def zL : Z := ⟨t0, t0, true, true⟩
def lR : Se := ⟨t0, t0, true, true, false⟩
theorem lR_inv : lR.inv := ⟨okQ_t0, okQ_t0, fun _ => vQ_t0, fun _ => vQ_t0, fun h => by cases h⟩
theorem zL_can : zL.can := ⟨some (none, none), trivial, rfl, rfl⟩
noncomputable def envWh : Env := envOf [rnoneC FF]
theorem envWh_ok : EnvOK Tryd.prog FF tbX envWh := envOf_ok _
theorem iwhole_wp (K : Except Int SV → Prop) (hK : ∀ r, SubE r (.ok zL.sv) → K r) :
    wpF tbX envWh (wpDraw tbX envWh) Tryd.f19 [] K := by
  show K _
  exact hK _ ⟨rfl, Sub.agg (SubN3 (SubN3 (SubR _)))⟩
theorem iwhole_holds (p : Unit) (h : True) : Holds Tryd.prog FF 19 [] (.ok zL.sv) :=
  holds_run mixed tbX_ok envWh_ok Tryd.func19 rfl (by kernel_rfl) (args := []) (iwhole_wp _ fun _ hr => hr) (fun _ _ _ _ _ h => h)
def iwholeC : Con Tryd.prog FF :=
  mkCon 19 (enters_of Tryd.func19 (by kernel_rfl) rfl) dec_0 (fun _ => []) (fun _ => True) (fun _ => zL.sv) dec_0_sub iwhole_holds
theorem line_wp (K : Except Int SV → Prop) (hK : ∀ r, SubE r (.ok lR.rv) → K r) :
    wpF tbX envWh (wpDraw tbX envWh) Tryd.f55 [] K := by
  show K _
  exact hK _ ⟨rfl, Sub.agg (SubM3 (SubM3 (SubR _)))⟩
theorem line_holds (p : Unit) (h : True) : Holds Tryd.prog FF 55 [] (.ok lR.rv) :=
  holds_run mixed tbX_ok envWh_ok Tryd.func55 rfl (by kernel_rfl) (args := []) (line_wp _ fun _ hr => hr) (fun _ _ _ _ _ h => h)
def lineC : Con Tryd.prog FF :=
  mkCon 55 (enters_of Tryd.func55 (by kernel_rfl) rfl) dec_0 (fun _ => []) (fun _ => True) (fun _ => lR.rv) dec_0_sub line_holds
noncomputable def envRWh : Env := envOf [lineC, apiC FF]
theorem envRWh_ok : EnvOK Tryd.prog FF tbX envRWh := envOf_ok _
theorem rwhole_wp (K : Except Int SV → Prop) (hK : ∀ r, SubE r (.ok zL.sv) → K r) :
    wpF tbX envRWh (wpDraw tbX envRWh) Tryd.f20 [] K := by
  refine And.intro trivial ?_
  refine And.intro lR_inv ?_
  show K (.ok (cz lR.abq).sv)
  exact hK _ ⟨rfl, Sub.refl _⟩
theorem rwhole_holds (p : Unit) (h : True) : Holds Tryd.prog FF 20 [] (.ok zL.sv) :=
  holds_run mixed tbX_ok envRWh_ok Tryd.func20 rfl (by kernel_rfl) (args := []) (rwhole_wp _ fun _ hr => hr) (fun _ _ _ _ _ h => h)
def rwholeC : Con Tryd.prog FF :=
  mkCon 20 (enters_of Tryd.func20 (by kernel_rfl) rfl) dec_0 (fun _ => []) (fun _ => True) (fun _ => zL.sv) dec_0_sub rwhole_holds
end Iv
end Go.Proofs.YtfajgibpidlojaaDoor
end

section
/- The law IntervalMakes. Conditions: the sizes of what comes in. -/
set_option linter.unusedVariables false
set_option linter.unusedSimpArgs false
set_option maxHeartbeats 4000000
set_option maxRecDepth 8000
namespace Go.Proofs.YtfajgibpidlojaaDoor
namespace Iv
open Go Go.Proofs

noncomputable def envMakes : Env := envOf [PoiC, RPoiC, BetC, RBetC, iwholeC, rwholeC, isC FF, awakeC]
theorem envMakes_ok : EnvOK Tryd.prog FF tbX envMakes := envOf_ok _
theorem makes_wp (x y : X) (hx : x.ok) (hy : y.ok) (K : Except Int SV → Prop) (hK : ∀ r, SubE r (.ok (.bool true)) → K r) :
    wpF tbX envMakes (wpDraw tbX envMakes) Tryd.f4 [x.sv, y.sv] K := by
  obtain ⟨z1, e1, c1, k1⟩ := tRes_val (spOne_okRes (yXX x x) (fun x => x) (fun x hx => hx))
  obtain ⟨z2, e2, c2, k2⟩ := tRes_val (spOne_okRes (yXX x y) (fun x => x) (fun x hx => hx))
  refine And.intro ⟨hx, hx⟩ ?_
  refine k1 _ _ ?_
  refine And.intro ⟨hx, hx⟩ ?_
  refine k1 _ _ ?_
  refine And.intro ⟨hx, hy⟩ ?_
  refine k2 _ _ ?_
  refine And.intro ⟨hx, hy⟩ ?_
  refine k2 _ _ ?_
  refine And.intro ⟨rfl, rfl, c1⟩ ?_
  refine And.intro ⟨rfl, rfl, c2⟩ ?_
  refine And.intro trivial ?_
  refine And.intro trivial ?_
  refine And.intro ⟨rfl, rfl, .inr ⟨rfl, zL_can⟩⟩ ?_
  refine And.intro trivial ?_
  show K _
  exact hK _ ⟨rfl, Sub.refl _⟩
theorem makes_holds (q : X × X) (h : q.1.ok ∧ q.2.ok) : Holds Tryd.prog FF 4 [q.1.sv, q.2.sv] (.ok (.bool true)) :=
  holds_run mixed tbX_ok envMakes_ok Tryd.func4 rfl (by kernel_rfl) (args := [q.1.sv, q.2.sv]) (makes_wp q.1 q.2 h.1 h.2 _ fun _ hr => hr) (fun _ _ _ _ _ h => h)
end Iv
end Go.Proofs.YtfajgibpidlojaaDoor
end

section
/- How a number that comes in reads. Condition: its bulk. -/
set_option linter.unusedVariables false
set_option linter.unusedSimpArgs false
set_option maxRecDepth 8000
namespace Go.Proofs.YtfajgibpidlojaaDoor
namespace Iv
open Go Go.Proofs Go.ChangeShapes Go.WideShapes Go.ChangeAt Go.RowKit

theorem array3 {α : Type} {cs : Array α} (h : cs.size = 3) : ∃ a b c, cs = #[a, b, c] := by
  obtain ⟨l⟩ := cs
  match l, h with
  | [a, b, c], _ => exact ⟨a, b, c, rfl⟩
section
variable {H : Type} {enc : TypeId × Value → H} {W : World} {M : Nat → Prop} {N : Nat} {bnd : Nat → Option Value}
theorem read_num (hM : ∀ b, ¬ M b) {r : Reach} {b0 : Nat} {v : Value} {d : DataW H} {ps : List MemPlace} (hv : Value.okWide Tryd.prog W r b0 24 v) (h : DataW.Trod enc Tryd.prog W 0 (fun _ => true) true 24 v d ps) (hb : Rows.uptoBulk d ≤ 1048576) :
    ∃ y : X, y.ok ∧ Rp M N bnd W y.sv v := by
  obtain ⟨cs, rfl, hsz⟩ := okWide_struct Tryd.underlying24 hv
  obtain ⟨c0, c1, c2, rfl⟩ := array3 (hsz.trans cellsRat)
  obtain ⟨fuel, hf⟩ := h
  obtain ⟨x0, o0, e0, w1, w2⟩ := read_rat hM (c0 := c0) (c1 := c1) (c2 := c2) (by simpa [Value.cells] using hf) hb
  subst e0
  refine ⟨x0, o0, ?_⟩
  exact ⟨_, rfl, _, _, rfl, rfl, _, _, rfl, w1, _, _, rfl, w2, rfl⟩
end
end Iv
end Go.Proofs.YtfajgibpidlojaaDoor
end

section
/-
  The law IntervalMakes answers true and leaves its arguments as they read: for all intervals, numbers and precisions whose reading is together of bulk at most 1048576; the library's table math/bits.deBruijn32tab lies as the program's text lays it (the card ties it).
-/
set_option linter.unusedVariables false
set_option linter.unusedSimpArgs false
set_option maxRecDepth 8000
namespace Go.Proofs.YtfajgibpidlojaaDoor.intervalMakes
open Go Go.Proofs Go.ChangeShapes Go.WideShapes Go.ChangeAt Go.RowKit Go.Proofs.YtfajgibpidlojaaDoor.Iv

theorem own : ownKnob Tryd.prog.godebug = none := by kernel_rfl
theorem contract (H : Type) (enc : TypeId × Value → H) (W : World) (base : Nat) (args : Array Value) (ds gs : List (DataW H)) (before : List MemPlace)
    (hval : ∀ (j : Nat) t v, Tryd.f4.params[j]? = some t → args[j]? = some v → Value.okWide Tryd.prog W .any base t v)
    (hW : DataW.Whole enc Tryd.prog Tryd.f4.params.toList Rows.intervalMakesSpec.vars false W args.toList ds gs before) (hbulk : Rows.uptoSmall H (ds ++ gs) = true) (hL : laidMetH Tryd.prog Rows.intervalMakesUptoRow.laid W) :
    Calls Tryd.prog 4 args W fun e W' => ∃ v, e = .returned v ∧ Rows.intervalMakesSpec.post enc Tryd.prog Tryd.f4 false true false false W args v W' := by
  have hW' := hW
  obtain ⟨p, q, hA0, hV, rfl, _, _⟩ := hW
  have hA : DataW.TrodAll enc Tryd.prog W 0 (fun _ => true) true Tryd.f4.params.toList args.toList ds p := hA0
  rw [Tryd.params4] at hA hval
  obtain ⟨v0, vs0, d0, ds0, p0, q0, hargs, rfl, rfl, h0, r0⟩ := trodAll_cons hA
  obtain ⟨v1, vs1, d1, ds1, p1, q1, rfl, rfl, rfl, h1, r1⟩ := trodAll_cons r0
  obtain ⟨rfl, rfl, rfl⟩ := trodAll_nil r1
  obtain rfl : args = #[v0, v1] := by cases args; simp_all
  obtain ⟨rfl, rfl⟩ := trodVars_none hV
  clear hA0
  simp only [List.append_nil, List.append_assoc] at hW'
  have hb0 : Rows.uptoBulkAll [d0, d1] ≤ 1048576 := by
    have := of_decide_eq_true hbulk
    simpa only [List.append_nil] using this
  obtain ⟨y0, o0, e0⟩ := read_num (M := fun _ => False) (N := W.heap.size) (bnd := fun _ => none) (fun _ h => h) (hval 0 24 v0 rfl rfl) h0 (Nat.le_trans (bulk_part (by simp)) hb0)
  obtain ⟨y1, o1, e1⟩ := read_num (M := fun _ => False) (N := W.heap.size) (bnd := fun _ => none) (fun _ h => h) (hval 1 24 v1 rfl rfl) h1 (Nat.le_trans (bulk_part (by simp)) hb0)
  have hlt : ∀ x ∈ p0 ++ p1, x.block < W.heap.size := fun x hx => by simpa using hW'.lt x (by simpa using hx)
  refine (makes_holds (y0, y1) ⟨o0, o1⟩ (fun _ => False) W [v0, v1] (mok_none (gl_of hL rfl)) ⟨v0, _, rfl, e0, v1, _, rfl, e1, rfl⟩).mono ?_
  rintro e W' ⟨hb, v, rfl, _, hr⟩
  have hr : v = .bool true := hr
  subst hr
  have g0 := Below.trod laidOut (by kernel_rfl) (of_decide_eq_true (by kernel_rfl)) h0 hb (fun x hx => hlt x (by simp [hx]))
  have g1 := Below.trod laidOut (by kernel_rfl) (of_decide_eq_true (by kernel_rfl)) h1 hb (fun x hx => hlt x (by simp [hx]))
  have hW2 : DataW.Whole enc Tryd.prog Tryd.f4.params.toList Rows.intervalMakesSpec.vars false W #[v0, v1].toList [d0, d1] [] (p0 ++ p1) := by simpa only [List.append_nil, List.append_assoc] using hW'
  exact ⟨_, rfl, _, _, _, [], _, [], hW2, trodAll_mk1 (shut_bool Tryd.underlying4 _), trodAll_mk2 g0 g1, rfl, hb.frame _, fun h => by cases h⟩
/-- A world for the witness: the settled one, the table (its block) holding what its initialiser lays. -/
noncomputable def laidWorld (os : Os) : World :=
  { World.holding Tryd.prog os ⟨#[], #[], []⟩ with heap := (World.holding Tryd.prog os ⟨#[], #[], []⟩).heap.modify 0 fun
      | .cells _ t frozen => .cells #[.int .u8 0, .int .u8 1, .int .u8 28, .int .u8 2, .int .u8 29, .int .u8 14, .int .u8 24, .int .u8 3, .int .u8 30, .int .u8 22, .int .u8 20, .int .u8 15, .int .u8 25, .int .u8 17, .int .u8 4, .int .u8 8, .int .u8 31, .int .u8 27, .int .u8 13, .int .u8 23, .int .u8 21, .int .u8 19, .int .u8 16, .int .u8 7, .int .u8 26, .int .u8 12, .int .u8 18, .int .u8 6, .int .u8 11, .int .u8 5, .int .u8 10, .int .u8 9] t frozen
      | o => o }
def wArgs : Array Value := #[.agg #[.bool false, .slice none 0 0, .slice none 0 0], .agg #[.bool false, .slice none 0 0, .slice none 0 0]]
theorem laid_met (os : Os) : laidMet Tryd.prog Rows.intervalMakesUptoRow.laid ((laidWorld os).forCall (fun _ _ => 0) ⟨#[], wArgs, []⟩).memory :=
  laidMet_of_run' 8 (by kernel_rfl) (by kernel_rfl)
theorem reads (os : Os) {H : Type} (enc : TypeId × Value → H) : ∃ places, DataW.whole enc Tryd.prog ((laidWorld os).forCall (fun _ _ => 0) ⟨#[], wArgs, []⟩).memory Tryd.f4.params.toList Rows.intervalMakesSpec.vars false wArgs.toList 8 = some ([.agg [.lit (.bool false), .nil, .nil], .agg [.lit (.bool false), .nil, .nil]], [], places) :=
  ⟨[], by kernel_rfl⟩
set_option maxRecDepth 100000 in
theorem lifted (os : Os) (started : os.Started) (H : Type) (enc : TypeId × Value → H) (F : Stop.Interp) :
    ReturnsInHanded {} Tryd.checked os 4 .any ((Rows.OpenSpec.upto Rows.intervalMakesSpec).preRow enc Tryd.prog Tryd.f4 Rows.intervalMakesUptoRow.domain false Rows.intervalMakesUptoRow.laid) (((Rows.OpenSpec.upto Rows.intervalMakesSpec).at F).post enc Tryd.prog Tryd.f4 false true false false) := by
  obtain ⟨places, hx⟩ := reads os enc
  refine returnsInHanded_of_row (C := Tryd.checked) (s := Rows.OpenSpec.upto Rows.intervalMakesSpec) own started (by kernel_rfl) Tryd.func4
    (witness_row_at (enc := enc) (C := Tryd.checked) false (laidWorld os) wArgs rfl (by kernel_rfl) (by kernel_rfl) (by kernel_rfl)
      (OpenSpec.preRow_of_cond 8 hx (by kernel_rfl) (fun k hk => by cases hk; kernel_rfl) (by kernel_rfl) (laid_met os))) ?_
  intro W base args ds gs before hval hW _ hcond _ hL _ _
  exact contract H enc W base args ds gs before hval hW (hcond _ rfl) hL
theorem said : Rows.IntervalMakesUptoSaid :=
  OpenClaim.holds_of_cond 4 Tryd.f4 rfl rfl rfl rfl rfl rfl rfl ⟨rfl, rfl, rfl, rfl, rfl⟩ rfl rfl rfl rfl rfl (by kernel_rfl) Tryd.func4 (by kernel_rfl)
    (of_decide_eq_true (by kernel_rfl)) (by unfold Func.isWrapper; first | (rw [if_pos (by decide +kernel)]; kernel_rfl) | (rw [if_neg (by decide +kernel)]; exact ⟨rfl, rfl⟩))
    (fun os started H enc _ F => by rw [OpenClaim.pre_eq_preRow]; exact lifted os started H enc F)
theorem plain (f : FuncId) (fn : Func) (hf : Tryd.pinned.checked.prog.funcNamed "inequality/inequalitylaw03.IntervalMakes" = some f) (hfn : Tryd.pinned.checked.prog.funcs[f]? = some fn) :
    true = Tryd.pinned.checked.prog.looks [] ∧ ∀ (j : Nat) t, fn.params[j]? = some t → Tryd.pinned.checked.prog.wantsStandIn t = false := by
  obtain rfl : f = 4 := Option.some.inj ((show Tryd.prog.funcNamed "inequality/inequalitylaw03.IntervalMakes" = some 4 by kernel_rfl).symm.trans hf) |>.symm
  obtain rfl : fn = Tryd.f4 := (Option.some.inj (Tryd.func4.symm.trans hfn)).symm
  refine ⟨by kernel_rfl, fun j t ht => ?_⟩
  rw [Tryd.params4] at ht
  have hm : t ∈ [24, 24] := by simpa using Array.mem_of_getElem? ht
  have hall : ∀ t ∈ [24, 24], Tryd.prog.wantsStandIn t = false := by
    intro t ht
    simp only [List.mem_cons, List.not_mem_nil, or_false] at ht
    rcases ht with rfl | rfl <;> kernel_rfl
  exact hall t hm
/-- The statement. -/
theorem card : Rows.IntervalMakesUptoCardSaid :=
  Claim7.holds_tied_plain_at .later [] _ _ _ _ said (fun _ h => by cases h) (by kernel_rfl) (fun _ h => by cases h) intervalMakesUpto_row_tie rfl ⟨rfl, rfl⟩ (by kernel_rfl) rfl plain (by kernel_rfl)
#print axioms card
end Go.Proofs.YtfajgibpidlojaaDoor.intervalMakes
end
