/-
  The whole proof of a law, the last part. Each part says its own conditions.
-/
import Derived.Test.YtfajgibpidlojaaGreatDoorCards
import Derived.Test.YtfajgibpidlojaaGreatDoorTie
import Derived.Test.YtfajgibpidlojaaGreatDoorBase6
import Derived.Test.YtfajgibpidlojaaGreatDoorBase7
import Derived.Test.YtfajgibpidlojaaGreatDoorBase8

section
/- Sets of numbers: which operations keep the ends in order, and which keep them small. No condition. -/
set_option linter.unusedVariables false
set_option linter.unusedSimpArgs false
namespace Go.Proofs.YtfajgibpidlojaaGreatDoor
namespace Iv
open Go Go.Proofs

theorem sgR_cmp (x : Rat) : sgR x = cmpR x 0 := by
  have h := sgR_sub x 0
  have e : x - 0 = x := by grind
  rwa [e] at h
theorem sgR_pos {x : Rat} : sgR x > 0 ↔ 0 < x := by rw [sgR_cmp, cmpR_pos]
theorem sgR_lt {x : Rat} : sgR x < 0 ↔ x < 0 := by rw [sgR_cmp, cmpR_lt]
theorem sgR_eq {x : Rat} : sgR x = 0 ↔ x = 0 := by rw [sgR_cmp, cmpR_eq]
theorem leR_or (x y : Rat) : leR x y = x ∨ leR x y = y := by unfold leR; split <;> simp
theorem grR_or (x y : Rat) : grR x y = x ∨ grR x y = y := by unfold grR; split <;> simp
theorem leR_le (x y : Rat) : leR x y ≤ x ∧ leR x y ≤ y := by
  unfold leR
  split
  · rename_i h
    rw [cmpR_lt] at h
    exact ⟨Rat.le_of_lt h, Rat.le_refl⟩
  · rename_i h
    rw [cmpR_lt] at h
    exact ⟨Rat.le_refl, Rat.not_lt.1 h⟩
theorem le_grR (x y : Rat) : x ≤ grR x y ∧ y ≤ grR x y := by
  unfold grR
  split
  · rename_i h
    rw [cmpR_pos] at h
    exact ⟨Rat.le_of_lt h, Rat.le_refl⟩
  · rename_i h
    rw [cmpR_pos] at h
    exact ⟨Rat.le_refl, Rat.not_lt.1 h⟩
/-! ### The order -/
theorem meet_wf (x y : Ab) : (x.meet y).wf := by
  match x, y with
  | none, _ => trivial
  | some (a, b), none => trivial
  | some (a, b), some (c, d) => exact sp_wf _ _
theorem join_wf {x y : Ab} (h : x.wf) (k : y.wf) : (x.join y).wf := by
  match x, y, h, k with
  | none, _, _, k => exact k
  | some (a, b), none, h, _ => exact h
  | some (none, b), some (c, d), _, _ => trivial
  | some (some a, none), some (none, d), _, _ => trivial
  | some (some a, none), some (some c, d), _, _ => trivial
  | some (some a, some b), some (none, d), _, _ => trivial
  | some (some a, some b), some (some c, none), _, _ => trivial
  | some (some a, some b), some (some c, some d), h, k =>
    have h1 : a ≤ b := h
    exact Rat.le_trans (leR_le a c).1 (Rat.le_trans h1 (le_grR b d).1)
theorem abs_wf {x : Ab} (h : x.wf) : x.abs.wf := by
  match x, h with
  | none, _ => trivial
  | some (a, b), h =>
    show (if sgL a ≥ 0 then some (a, b) else if sgH b ≤ 0 then Ab.neg (some (a, b)) else some (some 0, l2 grR (a.map (- ·)) b) : Ab).wf
    split
    · exact h
    · split
      · exact neg_wf h
      · rename_i hb
        match a, b, hb with
        | none, _, _ => trivial
        | some x, none, _ => trivial
        | some x, some y, hb =>
          have hy : 0 < y := by
            have : ¬ sgR y ≤ 0 := hb
            have : sgR y > 0 := by omega
            exact sgR_pos.1 this
          exact Rat.le_trans (Rat.le_of_lt hy) (le_grR (-x) y).2
theorem low_wf {x y : Ab} (h : x.wf) (k : y.wf) : (x.low y).wf := by
  match x, y, h, k with
  | none, _, _, _ => trivial
  | some (a, b), none, _, _ => trivial
  | some (none, b), some (c, d), _, _ => trivial
  | some (some a, b), some (none, d), _, _ => trivial
  | some (some a, none), some (some c, none), _, _ => trivial
  | some (some a, none), some (some c, some d), h, k =>
    have k1 : c ≤ d := k
    exact Rat.le_trans (leR_le a c).2 k1
  | some (some a, some b), some (some c, none), h, k =>
    have h1 : a ≤ b := h
    exact Rat.le_trans (leR_le a c).1 h1
  | some (some a, some b), some (some c, some d), h, k =>
    have h1 : a ≤ b := h
    have k1 : c ≤ d := k
    show leR a c ≤ leR b d
    rcases leR_or b d with e | e <;> rw [e]
    · exact Rat.le_trans (leR_le a c).1 h1
    · exact Rat.le_trans (leR_le a c).2 k1
/-! ### The sizes -/
theorem fitR_neg (q : Rat) : fitR (-q) = fitR q := by
  obtain ⟨n1, n2, n3⟩ := neg_parts q
  unfold fitR
  rw [n2, n3]
theorem fitR_le {x y : Rat} (h : fitR x = true) (k : fitR y = true) : fitR (leR x y) = true := by rcases leR_or x y with e | e <;> rw [e] <;> assumption
theorem fitR_gr {x y : Rat} (h : fitR x = true) (k : fitR y = true) : fitR (grR x y) = true := by rcases grR_or x y with e | e <;> rw [e] <;> assumption
theorem sp_fits {l h : Option Rat} (hl : l.all fitR = true) (hh : h.all fitR = true) : (Ab.sp l h).fits = true := by
  have : Ab.fits (some (l, h)) = true := by simp [Ab.fits, hl, hh]
  unfold Ab.sp
  split
  · split
    · rfl
    · exact this
  · exact this
theorem ab_fits (y : Y) (h : y.good = true) : y.ab.fits = true := by
  have e3 : y.good = (numOk y.lo && numOk y.hi) := rfl
  rw [e3, Bool.and_eq_true] at h
  have f : ∀ x : X, numOk x = true → fitR x.q = true := fun x hx => by
    unfold numOk at hx
    rw [Bool.and_eq_true] at hx
    exact hx.2
  unfold Y.ab
  refine sp_fits ?_ ?_
  · split
    · rfl
    · exact f _ h.1
  · split
    · rfl
    · exact f _ h.2
theorem neg_fits {x : Ab} (h : x.fits = true) : x.neg.fits = true := by
  match x, h with
  | none, _ => rfl
  | some (a, b), h =>
    unfold Ab.fits at h
    rw [Bool.and_eq_true] at h
    have f : ∀ o : Option Rat, o.all fitR = true → (o.map (- ·)).all fitR = true := fun o ho => by
      cases o
      · rfl
      · simp only [Option.map_some, Option.all_some] at ho ⊢
        rw [fitR_neg]; exact ho
    simp only [Ab.neg, Ab.fits, f _ h.1, f _ h.2, Bool.and_self]
theorem l2_fits {f : Rat → Rat → Rat} (hf : ∀ x y, fitR x = true → fitR y = true → fitR (f x y) = true) {a b : Option Rat} (h : a.all fitR = true) (k : b.all fitR = true) : (l2 f a b).all fitR = true := by
  cases a <;> cases b <;> first | rfl | exact hf _ _ h k
theorem m2_fits {f : Rat → Rat → Rat} (hf : ∀ x y, fitR x = true → fitR y = true → fitR (f x y) = true) {a b : Option Rat} (h : a.all fitR = true) (k : b.all fitR = true) : (m2 f a b).all fitR = true := by
  cases a <;> cases b <;> first | rfl | exact hf _ _ h k | exact h | exact k
theorem meet_fits {x y : Ab} (h : x.fits = true) (k : y.fits = true) : (x.meet y).fits = true := by
  match x, y, h, k with
  | none, _, _, _ => rfl
  | some (a, b), none, _, _ => rfl
  | some (a, b), some (c, d), h, k =>
    unfold Ab.fits at h k
    rw [Bool.and_eq_true] at h k
    exact sp_fits (m2_fits (fun _ _ => fitR_gr) h.1 k.1) (m2_fits (fun _ _ => fitR_le) h.2 k.2)
theorem join_fits {x y : Ab} (h : x.fits = true) (k : y.fits = true) : (x.join y).fits = true := by
  match x, y, h, k with
  | none, _, _, k => exact k
  | some (a, b), none, h, _ => exact h
  | some (a, b), some (c, d), h, k =>
    unfold Ab.fits at h k
    rw [Bool.and_eq_true] at h k
    simp only [Ab.join, Ab.fits, l2_fits (fun _ _ => fitR_le) h.1 k.1, l2_fits (fun _ _ => fitR_gr) h.2 k.2, Bool.and_self]
theorem low_fits {x y : Ab} (h : x.fits = true) (k : y.fits = true) : (x.low y).fits = true := by
  match x, y, h, k with
  | none, _, _, _ => rfl
  | some (a, b), none, _, _ => rfl
  | some (a, b), some (c, d), h, k =>
    unfold Ab.fits at h k
    rw [Bool.and_eq_true] at h k
    simp only [Ab.low, Ab.fits, l2_fits (fun _ _ => fitR_le) h.1 k.1, m2_fits (fun _ _ => fitR_le) h.2 k.2, Bool.and_self]
theorem abs_fits {x : Ab} (h : x.fits = true) : x.abs.fits = true := by
  match x, h with
  | none, _ => rfl
  | some (a, b), h =>
    have h0 := neg_fits h
    have h' := h
    unfold Ab.fits at h
    rw [Bool.and_eq_true] at h
    show (if sgL a ≥ 0 then some (a, b) else if sgH b ≤ 0 then Ab.neg (some (a, b)) else some (some 0, l2 grR (a.map (- ·)) b) : Ab).fits = true
    split
    · exact h'
    · split
      · exact h0
      · have f : (a.map (- ·)).all fitR = true := by
          have ha := h.1
          cases a
          · rfl
          · simp only [Option.map_some, Option.all_some] at ha ⊢
            rw [fitR_neg]; exact ha
        have z : Option.all fitR (some 0) = true := fitR_zero
        simp only [Ab.fits, z, l2_fits (fun _ _ => fitR_gr) f h.2, Bool.and_self]
theorem outA_fits {A : Ab} (h : A.fits = true) : outA A = .ok (cz A) := if_pos h
end Iv
end Go.Proofs.YtfajgibpidlojaaGreatDoor
end

section
/- What the answers of the layer's functions may be: an error, or a canonical interval. No condition. -/
set_option linter.unusedVariables false
set_option linter.unusedSimpArgs false
namespace Go.Proofs.YtfajgibpidlojaaGreatDoor
namespace Iv
open Go Go.Proofs

theorem spOne_okRes (a : Y) (F : Ab → Ab) (hF : ∀ x : Ab, x.wf → (F x).wf) : okRes (spOne a F) := by
  unfold spOne
  split
  · exact outA_okRes (hF _ (yab_wf a))
  · exact .inl ⟨1, by decide, rfl⟩
theorem spTwo_okRes (a b : Y) (F : Ab → Ab → Ab) (hF : ∀ x y : Ab, x.wf → y.wf → (F x y).wf) : okRes (spTwo a b F) := by
  unfold spTwo
  split
  · exact outA_okRes (hF _ _ (yab_wf a) (yab_wf b))
  · exact .inl ⟨1, by decide, rfl⟩
/-- Answers that are no intervals: any value with any error. -/
theorem tRes_any {α : Type} (sv : α → SV) (zero : α) (r : Except Int α) : ∃ (z : α) (e : Int), ∀ (Q : SV → Prop) (E : Int → Prop), Q (.tup [sv z, .int .i64 e]) → wpRes Q E (tRes sv zero r) := by
  cases r with
  | error e => exact ⟨zero, e, fun Q E hq => ⟨fun _ => hq, fun c => absurd ⟨e, rfl⟩ c⟩⟩
  | ok z => exact ⟨z, 0, fun Q E hq => ⟨fun ⟨e, c⟩ => (by cases c), fun _ => hq⟩⟩
end Iv
end Go.Proofs.YtfajgibpidlojaaGreatDoor
end

section
/- Contracts of the intervals' closures: Canon$1; what unary and exact come to at each operation. Conditions: the sizes. -/
set_option linter.unusedVariables false
set_option linter.unusedSimpArgs false
set_option maxHeartbeats 4000000
set_option maxRecDepth 8000
namespace Go.Proofs.YtfajgibpidlojaaGreatDoor
namespace Iv
open Go Go.Proofs

noncomputable def envCan : Env := envOf [minusC]
theorem envCan_ok : EnvOK Tryz.prog FF tbX envCan := envOf_ok _
theorem can1_wp (s : Se) (K : Except Int SV → Prop) (hK : ∀ r, SubE r (.ok s.sv) → K r) :
    wpF tbX envCan (wpDraw tbX envCan) Tryz.f55 [s.sv] K := by
  show K _
  exact hK _ ⟨rfl, Sub.refl _⟩
theorem can1_holds (s : Se) (h : True) : Holds Tryz.prog FF 55 [s.sv] (.ok s.sv) :=
  holds_run mixed tbX_ok envCan_ok Tryz.func55 rfl (by kernel_rfl) (args := [s.sv]) (can1_wp s _ fun _ hr => hr) (fun _ _ _ _ _ h => h)
def can1C : Con Tryz.prog FF :=
  mkCon 55 (enters_of Tryz.func55 (by kernel_rfl) rfl) decS (fun s => [s.sv]) (fun _ => True) (fun s => s.sv) decS_sub can1_holds
theorem unS_can (a : Y) : unS a (fun s => .ok s) = spOne a (fun x => x) := unS_ok a (fun s => s) (fun x => x) (fun s hs => ⟨rfl, fun _ => hs.fin⟩)
theorem unS_neg (a : Y) : unS a (fun s => .ok s.minus) = spOne a Ab.neg := unS_ok a Se.minus Ab.neg (fun s hs => ⟨minus_ab s (fun _ => hs.fin), minus_okk s (fun _ => hs.fin)⟩)
end Iv
end Go.Proofs.YtfajgibpidlojaaGreatDoor
end

section
/- What the chains over unary rest on; Canon. Conditions: the sizes of what comes in. -/
set_option linter.unusedVariables false
set_option linter.unusedSimpArgs false
set_option maxHeartbeats 4000000
set_option maxRecDepth 8000
namespace Go.Proofs.YtfajgibpidlojaaGreatDoor
namespace Iv
open Go Go.Proofs

/-- The table with the type of functions of one set. -/
def tblU : List (TypeId × Ti) := (66, fnTi) :: tblX
def tbU : Tb := { ti := tbOf tblU, u := 64, inl := fun _ => false }
theorem tbU_ok : TabOK Tryz.prog tbU := tbChk_spec (l := tblU) (by kernel_rfl)
/-! ### unary$1 at Can -/
noncomputable def envUCan : Env := envOf [sreadC, can1C, sgiveC]
theorem envUCan_ok : EnvOK Tryz.prog FF tbU envUCan := envOf_ok _
def argUCan (q : Y) : List SV := [.ref [.fn 55 []] 0, .ref q.cells 0]
theorem UCan_wp (q : Y) (ha : q.ok) (K : Except Int SV → Prop) (hK : ∀ r, SubE r ((unS q (fun s => .ok ((fun s => s) s))).map Z.sv) → K r) :
    wpF tbU envUCan (wpDraw tbU envUCan) Tryz.f93 (argUCan q) K := by
  unfold unS at hK
  refine And.intro (by kernel_rfl) (Or.inl ?_)
  refine And.intro ha (And.intro (fun h => ?_) (fun h => ?_))
  · have h1 : q.good = false := h
    rw [if_neg (by rw [h1]; decide)] at hK
    show K (.error 1)
    exact hK _ rfl
  have h1 : q.good = true := by
    have : ¬ q.good = false := h
    simpa only [Bool.not_eq_false] using this
  rw [if_pos h1] at hK
  refine And.intro (trivial) ?_
  simp only at hK
  refine And.intro trivial (And.intro (fun h => ?_) (fun h => ?_))
  · have h4 : ((fun s => s) q.set).fits = false := h
    rw [if_neg (by rw [h4]; decide)] at hK
    show K (.error 1)
    exact hK _ rfl
  · have h4 : ((fun s => s) q.set).fits = true := by
      have : ¬ ((fun s => s) q.set).fits = false := h
      simpa only [Bool.not_eq_false] using this
    rw [if_pos h4] at hK
    show K (.ok ((fun s => s) q.set).give.sv)
    exact hK _ ⟨rfl, Sub.refl _⟩
theorem UCan_holds (q : Y) (h : q.ok) : Holds Tryz.prog FF 93 (argUCan q) ((spOne q (fun x => x)).map Z.sv) := by
  rw [← unS_can q]
  exact holds_run mixed tbU_ok envUCan_ok Tryz.func93 rfl (by kernel_rfl) (args := argUCan q) (UCan_wp q h _ fun _ hr => hr) (fun _ _ _ _ _ h => h)
def decUCan : List SV → Option (Y)
  | [.ref [.fn k []] 0, x] => match Nat.beq k 55, decC x with
    | true, some a => some a
    | _, _ => none
  | _ => none
theorem decUCan_sub (xs : List SV) (p : Y) (h : decUCan xs = some p) : SubL xs (argUCan p) := by
  unfold decUCan at h
  split at h
  · split at h
    · rename_i ek ha
      have ek := Nat.eq_of_beq_eq_true ek
      simp only [Option.some.injEq] at h
      subst h
      subst ek
      exact SubL.cons (Sub.refl _) (SubL.cons (decC_sub _ _ ha) SubL.nil)
    · cases h
  · cases h
noncomputable def UCanT : TCon Tryz.prog FF Z Z.sv where
  f := 93
  β := Y
  dec := decUCan
  pre := fun q => q.ok
  res := fun q => spOne q (fun x => x)
  ent := enters_of Tryz.func93 (by kernel_rfl) rfl
  pl := fun xs q h => by
    unfold decUCan at h
    split at h
    · split at h
      · rename_i ek ha
        simp only [SV.plainL, SV.plain, decC_plain ha, Bool.and_self]
      · cases h
    · cases h
  ok := fun xs q hd hp => fun M w vs hM ha => UCan_holds q hp M w vs hM (decUCan_sub xs q hd _ _ _ _ _ ha)
/-! ### VCan -/
noncomputable def envVCan : Env := envOf [TryI.con UCanT]
theorem envVCan_ok : EnvOK Tryz.prog FF tbU envVCan := envOf_ok _
def argVCan (q : Y) : List SV := [q.sv, .fn 55 []]
theorem VCan_wp (q : Y) (h : q.ok) (K : Except Int SV → Prop) (hK : ∀ r, SubE r (.ok (tOut Z.sv z0 (spOne q (fun x => x)))) → K r) :
    wpF tbU envVCan (wpDraw tbU envVCan) Tryz.f46 (argVCan q) K := by
  refine And.intro h (And.intro (fun h => ?_) (fun h => ?_))
  · have h : hasErr (spOne q (fun x => x)) := h
    rw [tOut_err h] at hK
    show K _
    exact hK _ ⟨rfl, Sub.refl _⟩
  · have h : ¬ hasErr (spOne q (fun x => x)) := h
    rw [tOut_ok h] at hK
    show K _
    exact hK _ ⟨rfl, Sub.refl _⟩
theorem VCan_holds (q : Y) (h : q.ok) : Holds Tryz.prog FF 46 (argVCan q) (tRes Z.sv z0 (spOne q (fun x => x))).pick := by
  rw [tRes_pick]
  exact holds_run mixed tbU_ok envVCan_ok Tryz.func46 rfl (by kernel_rfl) (args := argVCan q) (VCan_wp q h _ fun _ hr => hr) (fun _ _ _ _ _ h => h)
def decVCan : List SV → Option (Y)
  | [x, .fn k []] => match Nat.beq k 55, decY1 x with
    | true, some a => some a
    | _, _ => none
  | _ => none
theorem decVCan_sub (xs : List SV) (p : Y) (h : decVCan xs = some p) : SubL xs (argVCan p) := by
  unfold decVCan at h
  split at h
  · split at h
    · rename_i ek ha
      have ek := Nat.eq_of_beq_eq_true ek
      simp only [Option.some.injEq] at h
      subst h
      subst ek
      exact SubL.cons (decY1_sub _ _ ha) (SubL.cons (Sub.refl _) SubL.nil)
    · cases h
  · cases h
def VCanC : Con Tryz.prog FF :=
  mkConR 46 (enters_of Tryz.func46 (by kernel_rfl) rfl) decVCan argVCan (fun q => q.ok) (fun q => tRes Z.sv z0 (spOne q (fun x => x))) decVCan_sub VCan_holds
/-! ### PCan -/
noncomputable def envPCan : Env := envOf [VCanC]
theorem envPCan_ok : EnvOK Tryz.prog FF tbU envPCan := envOf_ok _
def argPCan (q : Y) : List SV := [q.sv]
theorem PCan_wp (q : Y) (h : q.ok) (K : Except Int SV → Prop) (hK : ∀ r, SubE r (.ok (tOut Z.sv z0 (spOne q (fun x => x)))) → K r) :
    wpF tbU envPCan (wpDraw tbU envPCan) Tryz.f17 (argPCan q) K := by
  refine And.intro h (And.intro (fun h => ?_) (fun h => ?_))
  · have h : hasErr (spOne q (fun x => x)) := h
    rw [tOut_err h] at hK
    show K _
    exact hK _ ⟨rfl, Sub.refl _⟩
  · have h : ¬ hasErr (spOne q (fun x => x)) := h
    rw [tOut_ok h] at hK
    show K _
    exact hK _ ⟨rfl, Sub.refl _⟩
theorem PCan_holds (q : Y) (h : q.ok) : Holds Tryz.prog FF 17 (argPCan q) (tRes Z.sv z0 (spOne q (fun x => x))).pick := by
  rw [tRes_pick]
  exact holds_run mixed tbU_ok envPCan_ok Tryz.func17 rfl (by kernel_rfl) (args := argPCan q) (PCan_wp q h _ fun _ hr => hr) (fun _ _ _ _ _ h => h)
def PCanC : Con Tryz.prog FF :=
  mkConR 17 (enters_of Tryz.func17 (by kernel_rfl) rfl) decY argPCan (fun q => q.ok) (fun q => tRes Z.sv z0 (spOne q (fun x => x))) decY_sub PCan_holds
end Iv
end Go.Proofs.YtfajgibpidlojaaGreatDoor
end

section
/- The exported function Neg. Conditions: the sizes of what comes in. -/
set_option linter.unusedVariables false
set_option linter.unusedSimpArgs false
set_option maxHeartbeats 4000000
set_option maxRecDepth 8000
namespace Go.Proofs.YtfajgibpidlojaaGreatDoor
namespace Iv
open Go Go.Proofs

/-! ### unary$1 at Neg -/
noncomputable def envUNeg : Env := envOf [sreadC, minusC, sgiveC]
theorem envUNeg_ok : EnvOK Tryz.prog FF tbU envUNeg := envOf_ok _
def argUNeg (q : Y) : List SV := [.ref [.fn 39 []] 0, .ref q.cells 0]
theorem UNeg_wp (q : Y) (ha : q.ok) (K : Except Int SV → Prop) (hK : ∀ r, SubE r ((unS q (fun s => .ok (Se.minus s))).map Z.sv) → K r) :
    wpF tbU envUNeg (wpDraw tbU envUNeg) Tryz.f93 (argUNeg q) K := by
  unfold unS at hK
  refine And.intro (by kernel_rfl) (Or.inl ?_)
  refine And.intro ha (And.intro (fun h => ?_) (fun h => ?_))
  · have h1 : q.good = false := h
    rw [if_neg (by rw [h1]; decide)] at hK
    show K (.error 1)
    exact hK _ rfl
  have h1 : q.good = true := by
    have : ¬ q.good = false := h
    simpa only [Bool.not_eq_false] using this
  rw [if_pos h1] at hK
  refine And.intro (trivial) ?_
  simp only at hK
  refine And.intro trivial (And.intro (fun h => ?_) (fun h => ?_))
  · have h4 : (Se.minus q.set).fits = false := h
    rw [if_neg (by rw [h4]; decide)] at hK
    show K (.error 1)
    exact hK _ rfl
  · have h4 : (Se.minus q.set).fits = true := by
      have : ¬ (Se.minus q.set).fits = false := h
      simpa only [Bool.not_eq_false] using this
    rw [if_pos h4] at hK
    show K (.ok (Se.minus q.set).give.sv)
    exact hK _ ⟨rfl, Sub.refl _⟩
theorem UNeg_holds (q : Y) (h : q.ok) : Holds Tryz.prog FF 93 (argUNeg q) ((spOne q Ab.neg).map Z.sv) := by
  rw [← unS_neg q]
  exact holds_run mixed tbU_ok envUNeg_ok Tryz.func93 rfl (by kernel_rfl) (args := argUNeg q) (UNeg_wp q h _ fun _ hr => hr) (fun _ _ _ _ _ h => h)
def decUNeg : List SV → Option (Y)
  | [.ref [.fn k []] 0, x] => match Nat.beq k 39, decC x with
    | true, some a => some a
    | _, _ => none
  | _ => none
theorem decUNeg_sub (xs : List SV) (p : Y) (h : decUNeg xs = some p) : SubL xs (argUNeg p) := by
  unfold decUNeg at h
  split at h
  · split at h
    · rename_i ek ha
      have ek := Nat.eq_of_beq_eq_true ek
      simp only [Option.some.injEq] at h
      subst h
      subst ek
      exact SubL.cons (Sub.refl _) (SubL.cons (decC_sub _ _ ha) SubL.nil)
    · cases h
  · cases h
noncomputable def UNegT : TCon Tryz.prog FF Z Z.sv where
  f := 93
  β := Y
  dec := decUNeg
  pre := fun q => q.ok
  res := fun q => spOne q Ab.neg
  ent := enters_of Tryz.func93 (by kernel_rfl) rfl
  pl := fun xs q h => by
    unfold decUNeg at h
    split at h
    · split at h
      · rename_i ek ha
        simp only [SV.plainL, SV.plain, decC_plain ha, Bool.and_self]
      · cases h
    · cases h
  ok := fun xs q hd hp => fun M w vs hM ha => UNeg_holds q hp M w vs hM (decUNeg_sub xs q hd _ _ _ _ _ ha)
/-! ### VNeg -/
noncomputable def envVNeg : Env := envOf [TryI.con UNegT]
theorem envVNeg_ok : EnvOK Tryz.prog FF tbU envVNeg := envOf_ok _
def argVNeg (q : Y) : List SV := [q.sv, .fn 39 []]
theorem VNeg_wp (q : Y) (h : q.ok) (K : Except Int SV → Prop) (hK : ∀ r, SubE r (.ok (tOut Z.sv z0 (spOne q Ab.neg))) → K r) :
    wpF tbU envVNeg (wpDraw tbU envVNeg) Tryz.f46 (argVNeg q) K := by
  refine And.intro h (And.intro (fun h => ?_) (fun h => ?_))
  · have h : hasErr (spOne q Ab.neg) := h
    rw [tOut_err h] at hK
    show K _
    exact hK _ ⟨rfl, Sub.refl _⟩
  · have h : ¬ hasErr (spOne q Ab.neg) := h
    rw [tOut_ok h] at hK
    show K _
    exact hK _ ⟨rfl, Sub.refl _⟩
theorem VNeg_holds (q : Y) (h : q.ok) : Holds Tryz.prog FF 46 (argVNeg q) (tRes Z.sv z0 (spOne q Ab.neg)).pick := by
  rw [tRes_pick]
  exact holds_run mixed tbU_ok envVNeg_ok Tryz.func46 rfl (by kernel_rfl) (args := argVNeg q) (VNeg_wp q h _ fun _ hr => hr) (fun _ _ _ _ _ h => h)
def decVNeg : List SV → Option (Y)
  | [x, .fn k []] => match Nat.beq k 39, decY1 x with
    | true, some a => some a
    | _, _ => none
  | _ => none
theorem decVNeg_sub (xs : List SV) (p : Y) (h : decVNeg xs = some p) : SubL xs (argVNeg p) := by
  unfold decVNeg at h
  split at h
  · split at h
    · rename_i ek ha
      have ek := Nat.eq_of_beq_eq_true ek
      simp only [Option.some.injEq] at h
      subst h
      subst ek
      exact SubL.cons (decY1_sub _ _ ha) (SubL.cons (Sub.refl _) SubL.nil)
    · cases h
  · cases h
def VNegC : Con Tryz.prog FF :=
  mkConR 46 (enters_of Tryz.func46 (by kernel_rfl) rfl) decVNeg argVNeg (fun q => q.ok) (fun q => tRes Z.sv z0 (spOne q Ab.neg)) decVNeg_sub VNeg_holds
/-! ### PNeg -/
noncomputable def envPNeg : Env := envOf [VNegC]
theorem envPNeg_ok : EnvOK Tryz.prog FF tbU envPNeg := envOf_ok _
def argPNeg (q : Y) : List SV := [q.sv]
theorem PNeg_wp (q : Y) (h : q.ok) (K : Except Int SV → Prop) (hK : ∀ r, SubE r (.ok (tOut Z.sv z0 (spOne q Ab.neg))) → K r) :
    wpF tbU envPNeg (wpDraw tbU envPNeg) Tryz.f13 (argPNeg q) K := by
  refine And.intro h (And.intro (fun h => ?_) (fun h => ?_))
  · have h : hasErr (spOne q Ab.neg) := h
    rw [tOut_err h] at hK
    show K _
    exact hK _ ⟨rfl, Sub.refl _⟩
  · have h : ¬ hasErr (spOne q Ab.neg) := h
    rw [tOut_ok h] at hK
    show K _
    exact hK _ ⟨rfl, Sub.refl _⟩
theorem PNeg_holds (q : Y) (h : q.ok) : Holds Tryz.prog FF 13 (argPNeg q) (tRes Z.sv z0 (spOne q Ab.neg)).pick := by
  rw [tRes_pick]
  exact holds_run mixed tbU_ok envPNeg_ok Tryz.func13 rfl (by kernel_rfl) (args := argPNeg q) (PNeg_wp q h _ fun _ hr => hr) (fun _ _ _ _ _ h => h)
def PNegC : Con Tryz.prog FF :=
  mkConR 13 (enters_of Tryz.func13 (by kernel_rfl) rfl) decY argPNeg (fun q => q.ok) (fun q => tRes Z.sv z0 (spOne q Ab.neg)) decY_sub PNeg_holds
end Iv
end Go.Proofs.YtfajgibpidlojaaGreatDoor
end

section
/- Contracts of the intervals' closures: Abs$1. Conditions: the sizes. -/
set_option linter.unusedVariables false
set_option linter.unusedSimpArgs false
set_option maxHeartbeats 4000000
set_option maxRecDepth 8000
namespace Go.Proofs.YtfajgibpidlojaaGreatDoor
namespace Iv
open Go Go.Proofs

def tZr : Tr := (false, 0, 1)
theorem ok_tZr : Ok tZr := ⟨⟨by decide, by decide, fun _ => rfl⟩, by rw [fb_eq]; decide, by rw [fb_eq]; decide⟩
theorem vF_tZr : vF tZr = 0 := rv_zero _ _
def absF (s : Se) (a b : Int) : Se := if s.vo = true then s else if a ≥ 0 then s else if b ≤ 0 then s.minus else ⟨tZr, if s.li || s.hf then t0 else grT (opT s.lo) s.hi, false, s.li || s.hf, false⟩
def Se.absS (s : Se) : Se := absF s s.sl s.sh
noncomputable def envAbs : Env := envOf [signsC, minusC, intC FF, greatestC, oppC FF]
theorem envAbs_ok : EnvOK Tryz.prog FF tbX envAbs := envOf_ok _
theorem ok_opT {p : Tr} (h : Ok p) : Ok (opT p) := (opT_ok h).1
theorem abs1_wp (s : Se) (hs : s.fin) (K : Except Int SV → Prop) (hK : ∀ r, SubE r (.ok s.absS.sv) → K r) :
    wpF tbX envAbs (wpDraw tbX envAbs) Tryz.f49 [s.sv] K := by
  unfold Se.absS at hK
  refine And.intro trivial ?_
  show wpRes _ _ (.ok (.tup [.int .i64 s.sl, .int .i64 s.sh]))
  generalize s.sl = a at *
  generalize s.sh = b at *
  obtain ⟨lo, hi, li, hf, vo⟩ := s
  unfold absF at hK
  cases vo
  · simp only [Bool.false_eq_true, if_false] at hK
    refine ifB_mk (fun h => ?_) (fun h => ?_)
    · have h1 : a ≥ 0 := by simpa using h
      rw [if_pos h1] at hK
      show K _
      exact hK _ ⟨rfl, Sub.refl _⟩
    · have h1 : ¬ a ≥ 0 := by simpa using h
      rw [if_neg h1] at hK
      refine ifB_mk (fun g => ?_) (fun g => ?_)
      · have h2 : b ≤ 0 := by simpa using g
        rw [if_pos h2] at hK
        refine And.intro trivial ?_
        show K _
        exact hK _ ⟨rfl, Sub.refl _⟩
      · have h2 : ¬ b ≤ 0 := by simpa using g
        rw [if_neg h2] at hK
        clear h g
        refine And.intro (by kernel_rfl) (Or.inl ?_)
        refine And.intro ⟨by decide, by decide⟩ ?_
        cases li <;> cases hf
        · refine And.intro (by kernel_rfl) (Or.inl ?_)
          refine And.intro trivial ?_
          refine And.intro ⟨ok_opT (hs.1 rfl), hs.2 rfl⟩ ?_
          show K _
          exact hK _ ⟨rfl, Sub.refl _⟩
        · show K _
          exact hK _ ⟨rfl, Sub.agg (SubT3 (SubN3 (SubR _)))⟩
        · show K _
          exact hK _ ⟨rfl, Sub.agg (SubT3 (SubN3 (SubR _)))⟩
        · show K _
          exact hK _ ⟨rfl, Sub.agg (SubT3 (SubN3 (SubR _)))⟩
  · simp only [if_true] at hK
    show K _
    exact hK _ ⟨rfl, Sub.refl _⟩
theorem abs1_holds (s : Se) (h : s.fin) : Holds Tryz.prog FF 49 [s.sv] (.ok s.absS.sv) :=
  holds_run mixed tbX_ok envAbs_ok Tryz.func49 rfl (by kernel_rfl) (args := [s.sv]) (abs1_wp s h _ fun _ hr => hr) (fun _ _ _ _ _ h => h)
def abs1C : Con Tryz.prog FF :=
  mkCon 49 (enters_of Tryz.func49 (by kernel_rfl) rfl) decS (fun s => [s.sv]) (fun s => s.fin) (fun s => s.absS.sv) decS_sub abs1_holds
theorem vF_gr3 (p q : Tr) : vF (grT p q) = grR (vF p) (vF q) := by unfold grT grR; split <;> rfl
theorem ok_gr3 {p q : Tr} (hp : Ok p) (hq : Ok q) : Ok (grT p q) := by unfold grT; split <;> assumption
theorem abs_fact (s : Se) (h : s.fin) : s.absS.ab = s.ab.abs ∧ s.absS.okk := by
  have e1 := sl_sg s (fun _ => h)
  have m1 := minus_ab s (fun _ => h)
  have m2 := minus_okk s (fun _ => h)
  unfold Se.absS
  generalize s.sl = a at *
  generalize s.sh = b at *
  obtain ⟨lo, hi, li, hf, vo⟩ := s
  cases vo
  · obtain ⟨rfl, rfl⟩ := e1 rfl
    show _ = (if sgL (enF li lo) ≥ 0 then some (enF li lo, enF hf hi) else if sgH (enF hf hi) ≤ 0 then Ab.neg (some (enF li lo, enF hf hi)) else some (some 0, l2 grR ((enF li lo).map (- ·)) (enF hf hi)) : Ab) ∧ _
    unfold absF
    simp only [Bool.false_eq_true, if_false]
    by_cases c1 : sgL (enF li lo) ≥ 0
    · rw [if_pos c1, if_pos c1]
      exact ⟨rfl, fun _ => h⟩
    · rw [if_neg c1, if_neg c1]
      by_cases c2 : sgH (enF hf hi) ≤ 0
      · rw [if_pos c2, if_pos c2]
        exact ⟨m1, m2⟩
      · rw [if_neg c2, if_neg c2]
        cases li <;> cases hf
        · have o := opT_ok (h.1 rfl)
          refine ⟨?_, fun _ => ⟨fun _ => ok_tZr, fun _ => ok_gr3 o.1 (h.2 rfl)⟩⟩
          simp [Se.ab, enF, l2, vF_tZr, vF_gr3, o.2]
        · exact ⟨by simp [Se.ab, enF, l2, vF_tZr], fun _ => ⟨fun _ => ok_tZr, fun e => (by cases e)⟩⟩
        · exact ⟨by simp [Se.ab, enF, l2, vF_tZr], fun _ => ⟨fun _ => ok_tZr, fun e => (by cases e)⟩⟩
        · exact ⟨by simp [Se.ab, enF, l2, vF_tZr], fun _ => ⟨fun _ => ok_tZr, fun e => (by cases e)⟩⟩
  · exact ⟨rfl, fun e => (by cases e)⟩
theorem unS_abs (a : Y) : unS a (fun s => .ok s.absS) = spOne a Ab.abs := unS_ok a Se.absS Ab.abs (fun s hs => abs_fact s hs.fin)
end Iv
end Go.Proofs.YtfajgibpidlojaaGreatDoor
end

section
/- The exported function Abs. Conditions: the sizes of what comes in. -/
set_option linter.unusedVariables false
set_option linter.unusedSimpArgs false
set_option maxHeartbeats 4000000
set_option maxRecDepth 8000
namespace Go.Proofs.YtfajgibpidlojaaGreatDoor
namespace Iv
open Go Go.Proofs

/-! ### unary$1 at Abs -/
noncomputable def envUAbs : Env := envOf [sreadC, abs1C, sgiveC]
theorem envUAbs_ok : EnvOK Tryz.prog FF tbU envUAbs := envOf_ok _
def argUAbs (q : Y) : List SV := [.ref [.fn 49 []] 0, .ref q.cells 0]
theorem UAbs_wp (q : Y) (ha : q.ok) (K : Except Int SV → Prop) (hK : ∀ r, SubE r ((unS q (fun s => .ok (Se.absS s))).map Z.sv) → K r) :
    wpF tbU envUAbs (wpDraw tbU envUAbs) Tryz.f93 (argUAbs q) K := by
  unfold unS at hK
  refine And.intro (by kernel_rfl) (Or.inl ?_)
  refine And.intro ha (And.intro (fun h => ?_) (fun h => ?_))
  · have h1 : q.good = false := h
    rw [if_neg (by rw [h1]; decide)] at hK
    show K (.error 1)
    exact hK _ rfl
  have h1 : q.good = true := by
    have : ¬ q.good = false := h
    simpa only [Bool.not_eq_false] using this
  rw [if_pos h1] at hK
  refine And.intro ((set_sm _ h1).fin) ?_
  simp only at hK
  refine And.intro trivial (And.intro (fun h => ?_) (fun h => ?_))
  · have h4 : (Se.absS q.set).fits = false := h
    rw [if_neg (by rw [h4]; decide)] at hK
    show K (.error 1)
    exact hK _ rfl
  · have h4 : (Se.absS q.set).fits = true := by
      have : ¬ (Se.absS q.set).fits = false := h
      simpa only [Bool.not_eq_false] using this
    rw [if_pos h4] at hK
    show K (.ok (Se.absS q.set).give.sv)
    exact hK _ ⟨rfl, Sub.refl _⟩
theorem UAbs_holds (q : Y) (h : q.ok) : Holds Tryz.prog FF 93 (argUAbs q) ((spOne q Ab.abs).map Z.sv) := by
  rw [← unS_abs q]
  exact holds_run mixed tbU_ok envUAbs_ok Tryz.func93 rfl (by kernel_rfl) (args := argUAbs q) (UAbs_wp q h _ fun _ hr => hr) (fun _ _ _ _ _ h => h)
def decUAbs : List SV → Option (Y)
  | [.ref [.fn k []] 0, x] => match Nat.beq k 49, decC x with
    | true, some a => some a
    | _, _ => none
  | _ => none
theorem decUAbs_sub (xs : List SV) (p : Y) (h : decUAbs xs = some p) : SubL xs (argUAbs p) := by
  unfold decUAbs at h
  split at h
  · split at h
    · rename_i ek ha
      have ek := Nat.eq_of_beq_eq_true ek
      simp only [Option.some.injEq] at h
      subst h
      subst ek
      exact SubL.cons (Sub.refl _) (SubL.cons (decC_sub _ _ ha) SubL.nil)
    · cases h
  · cases h
noncomputable def UAbsT : TCon Tryz.prog FF Z Z.sv where
  f := 93
  β := Y
  dec := decUAbs
  pre := fun q => q.ok
  res := fun q => spOne q Ab.abs
  ent := enters_of Tryz.func93 (by kernel_rfl) rfl
  pl := fun xs q h => by
    unfold decUAbs at h
    split at h
    · split at h
      · rename_i ek ha
        simp only [SV.plainL, SV.plain, decC_plain ha, Bool.and_self]
      · cases h
    · cases h
  ok := fun xs q hd hp => fun M w vs hM ha => UAbs_holds q hp M w vs hM (decUAbs_sub xs q hd _ _ _ _ _ ha)
/-! ### VAbs -/
noncomputable def envVAbs : Env := envOf [TryI.con UAbsT]
theorem envVAbs_ok : EnvOK Tryz.prog FF tbU envVAbs := envOf_ok _
def argVAbs (q : Y) : List SV := [q.sv, .fn 49 []]
theorem VAbs_wp (q : Y) (h : q.ok) (K : Except Int SV → Prop) (hK : ∀ r, SubE r (.ok (tOut Z.sv z0 (spOne q Ab.abs))) → K r) :
    wpF tbU envVAbs (wpDraw tbU envVAbs) Tryz.f46 (argVAbs q) K := by
  refine And.intro h (And.intro (fun h => ?_) (fun h => ?_))
  · have h : hasErr (spOne q Ab.abs) := h
    rw [tOut_err h] at hK
    show K _
    exact hK _ ⟨rfl, Sub.refl _⟩
  · have h : ¬ hasErr (spOne q Ab.abs) := h
    rw [tOut_ok h] at hK
    show K _
    exact hK _ ⟨rfl, Sub.refl _⟩
theorem VAbs_holds (q : Y) (h : q.ok) : Holds Tryz.prog FF 46 (argVAbs q) (tRes Z.sv z0 (spOne q Ab.abs)).pick := by
  rw [tRes_pick]
  exact holds_run mixed tbU_ok envVAbs_ok Tryz.func46 rfl (by kernel_rfl) (args := argVAbs q) (VAbs_wp q h _ fun _ hr => hr) (fun _ _ _ _ _ h => h)
def decVAbs : List SV → Option (Y)
  | [x, .fn k []] => match Nat.beq k 49, decY1 x with
    | true, some a => some a
    | _, _ => none
  | _ => none
theorem decVAbs_sub (xs : List SV) (p : Y) (h : decVAbs xs = some p) : SubL xs (argVAbs p) := by
  unfold decVAbs at h
  split at h
  · split at h
    · rename_i ek ha
      have ek := Nat.eq_of_beq_eq_true ek
      simp only [Option.some.injEq] at h
      subst h
      subst ek
      exact SubL.cons (decY1_sub _ _ ha) (SubL.cons (Sub.refl _) SubL.nil)
    · cases h
  · cases h
def VAbsC : Con Tryz.prog FF :=
  mkConR 46 (enters_of Tryz.func46 (by kernel_rfl) rfl) decVAbs argVAbs (fun q => q.ok) (fun q => tRes Z.sv z0 (spOne q Ab.abs)) decVAbs_sub VAbs_holds
/-! ### PAbs -/
noncomputable def envPAbs : Env := envOf [VAbsC]
theorem envPAbs_ok : EnvOK Tryz.prog FF tbU envPAbs := envOf_ok _
def argPAbs (q : Y) : List SV := [q.sv]
theorem PAbs_wp (q : Y) (h : q.ok) (K : Except Int SV → Prop) (hK : ∀ r, SubE r (.ok (tOut Z.sv z0 (spOne q Ab.abs))) → K r) :
    wpF tbU envPAbs (wpDraw tbU envPAbs) Tryz.f15 (argPAbs q) K := by
  refine And.intro h (And.intro (fun h => ?_) (fun h => ?_))
  · have h : hasErr (spOne q Ab.abs) := h
    rw [tOut_err h] at hK
    show K _
    exact hK _ ⟨rfl, Sub.refl _⟩
  · have h : ¬ hasErr (spOne q Ab.abs) := h
    rw [tOut_ok h] at hK
    show K _
    exact hK _ ⟨rfl, Sub.refl _⟩
theorem PAbs_holds (q : Y) (h : q.ok) : Holds Tryz.prog FF 15 (argPAbs q) (tRes Z.sv z0 (spOne q Ab.abs)).pick := by
  rw [tRes_pick]
  exact holds_run mixed tbU_ok envPAbs_ok Tryz.func15 rfl (by kernel_rfl) (args := argPAbs q) (PAbs_wp q h _ fun _ hr => hr) (fun _ _ _ _ _ h => h)
def PAbsC : Con Tryz.prog FF :=
  mkConR 15 (enters_of Tryz.func15 (by kernel_rfl) rfl) decY argPAbs (fun q => q.ok) (fun q => tRes Z.sv z0 (spOne q Ab.abs)) decY_sub PAbs_holds
end Iv
end Go.Proofs.YtfajgibpidlojaaGreatDoor
end

section
/- Contracts of the reference's intervals: the layer's Neg. Conditions: the sizes of what comes in. -/
set_option linter.unusedVariables false
set_option linter.unusedSimpArgs false
set_option maxHeartbeats 4000000
set_option maxRecDepth 8000
namespace Go.Proofs.YtfajgibpidlojaaGreatDoor
namespace Iv
open Go Go.Proofs

/-! ### RNeg -/
noncomputable def envRNeg (F : TypeId) : Env := envOf [oneIC F, mnsC F, apiC F]
theorem envRNeg_ok (F : TypeId) : EnvOK Tryz.prog F tbX (envRNeg F) := envOf_ok _
theorem RNeg_wp (F : TypeId) (a : Y) (ha : a.ok) (K : Except Int SV → Prop) (hK : ∀ r, SubE r (.ok (sOut (spOne a Ab.neg))) → K r) :
    wpF tbX (envRNeg F) (wpDraw tbX (envRNeg F)) Tryz.f14 [a.sv] K := by
  unfold spOne at hK
  refine And.intro ha (And.intro (fun h => ?_) (fun h => And.intro (fun h2 => ?_) (fun h2 => ?_)))
  · have h1 : a.good = false := h
    rw [if_neg (by rw [h1]; decide)] at hK
    show K _
    exact hK _ ⟨rfl, Sub.tup (SubL.cons (Sub.agg (SubN3 (SubN3 (SubR _)))) (SubR _))⟩
  · exact absurd (show pOk 0 = false from h2) (by decide)
  have h1 : a.good = true := by
    have : ¬ a.good = false := h
    simpa only [Bool.not_eq_false] using this
  rw [if_pos h1] at hK
  have i1 := rset_inv a ha
  have i2 := rset_ab a
  have hf : (Ab.neg a.ab).fits = true := neg_fits (ab_fits a h1)
  rw [outA_fits hf] at hK
  rw [← i2] at hK hf
  show wpRes _ _ (.ok (.tup [a.rset.rv, .int .i64 0]))
  have i0 := rset_smq a ha h1
  have iw : a.rset.abq.wf := by rw [rset_ab]; exact sp_wf _ _
  clear h h2 i2
  generalize a.rset = s at *
  have i3 : (Se.mns s).abq = Ab.neg s.abq := mns_ab s i1
  have i4 : (Se.mns s).inv := mns_inv s i1
  rw [← i3] at hK
  refine And.intro trivial ?_
  show wpRes _ _ (.ok (Se.mns s).rv)
  generalize (Se.mns s) = s at *
  refine And.intro i4 ?_
  show K (.ok (.tup [(cz s.abq).sv, .int .i64 0]))
  exact hK _ ⟨rfl, Sub.refl _⟩
theorem RNeg_holds (F : TypeId) (a : Y) (h : a.ok) : Holds Tryz.prog F 14 [a.sv] (tRes Z.sv z0 (spOne a Ab.neg)).pick := by
  rw [tRes_pick]
  exact holds_run mixed tbX_ok (envRNeg_ok F) Tryz.func14 rfl (by kernel_rfl) (args := [a.sv]) (RNeg_wp F a h _ fun _ hr => hr) (fun _ _ _ _ _ h => h)
def RNegC (F : TypeId) : Con Tryz.prog F :=
  mkConR 14 (enters_of Tryz.func14 (by kernel_rfl) rfl) decY (fun q => [q.sv]) (fun q => q.ok) (fun q => tRes Z.sv z0 (spOne q Ab.neg)) decY_sub (RNeg_holds F)
end Iv
end Go.Proofs.YtfajgibpidlojaaGreatDoor
end

section
/- Contracts of the reference's rational numbers, part M: Most. Conditions: lowest terms; the sizes. -/
set_option linter.unusedVariables false
set_option linter.unusedSimpArgs false
set_option maxHeartbeats 4000000
set_option maxRecDepth 8000
namespace Go.Proofs.YtfajgibpidlojaaGreatDoor
namespace Iv
open Go Go.Proofs

theorem qmost_wp (F : TypeId) (p q : Tr) (hp : OkQ p) (hq : OkQ q) (K : Except Int SV → Prop) (hK : ∀ r, SubE r (.ok (sR (grQ p q))) → K r) :
    wpF tbX (envQc F) (wpDraw tbX (envQc F)) Tryz.f98 [sR p, sR q] K := by
  refine And.intro ⟨hq, hp⟩ ?_
  refine ifB_mk (fun h => ?_) (fun h => ?_)
  · have h1 : cmpR (vQ q) (vQ p) > 0 := of_decide_eq_true h
    have e : grQ p q = q := if_pos h1
    rw [e] at hK
    show K (.ok (sR q))
    exact hK _ ⟨rfl, Sub.refl _⟩
  · have h1 : ¬ cmpR (vQ q) (vQ p) > 0 := of_decide_eq_false h
    have e : grQ p q = p := if_neg h1
    rw [e] at hK
    show K (.ok (sR p))
    exact hK _ ⟨rfl, Sub.refl _⟩
theorem qmost_holds (F : TypeId) (p : Tr × Tr) (h : OkQ p.1 ∧ OkQ p.2) : Holds Tryz.prog F 98 [sR p.1, sR p.2] (.ok (sR (grQ p.1 p.2))) :=
  holds_run mixed tbX_ok (envQc_ok F) Tryz.func98 rfl (by kernel_rfl) (args := [sR p.1, sR p.2]) (qmost_wp F p.1 p.2 h.1 h.2 _ fun _ hr => hr) (fun _ _ _ _ _ h => h)
def qmostC (F : TypeId) : Con Tryz.prog F :=
  mkCon 98 (enters_of Tryz.func98 (by kernel_rfl) rfl) decRR (fun p => [sR p.1, sR p.2]) (fun p => OkQ p.1 ∧ OkQ p.2) (fun p => sR (grQ p.1 p.2)) decRR_sub (qmost_holds F)
end Iv
end Go.Proofs.YtfajgibpidlojaaGreatDoor
end

section
/- Contracts of the reference's intervals: SignOf, Size. Conditions: the sizes; the ends are in order. -/
set_option linter.unusedVariables false
set_option linter.unusedSimpArgs false
set_option maxHeartbeats 4000000
set_option maxRecDepth 8000
namespace Go.Proofs.YtfajgibpidlojaaGreatDoor
namespace Iv
open Go Go.Proofs

theorem sgZ_vQ {p : Tr} (h : OkQ p) : sgZ p.1 p.2.1 = sgR (vQ p) := by
  obtain ⟨e1, e2, e3⟩ := vQ_parts h
  unfold sgZ sgR
  rw [e1, e2]
theorem sgR_tri (x : Rat) : sgR x = -1 ∨ sgR x = 0 ∨ sgR x = 1 := by
  unfold sgR
  split
  · exact .inr (.inl rfl)
  · split
    · exact .inl rfl
    · exact .inr (.inr rfl)
theorem sgR_mono {x y : Rat} (h : x ≤ y) : sgR x ≤ sgR y := by
  rcases sgR_tri x with e | e | e <;> rcases sgR_tri y with f | f | f <;> rw [e, f] <;> try decide
  · exfalso
    have h1 := sgR_eq.1 e
    have h2 := sgR_lt.1 (show sgR y < 0 by rw [f]; decide)
    grind
  · exfalso
    have h1 := sgR_pos.1 (show sgR x > 0 by rw [e]; decide)
    have h2 := sgR_lt.1 (show sgR y < 0 by rw [f]; decide)
    grind
  · exfalso
    have h1 := sgR_pos.1 (show sgR x > 0 by rw [e]; decide)
    have h2 := sgR_eq.1 f
    grind
theorem wf_sg {a b : Option Rat} (h : Ab.wf (some (a, b))) : sgL a ≤ sgH b ∧ -1 ≤ sgL a ∧ sgH b ≤ 1 := by
  have r : ∀ x : Rat, -1 ≤ sgR x ∧ sgR x ≤ 1 := fun x => by rcases sgR_tri x with e | e | e <;> rw [e] <;> decide
  match a, b, h with
  | none, none, _ => exact ⟨by decide, by decide, by decide⟩
  | none, some y, _ => exact ⟨(r y).1, by decide, (r y).2⟩
  | some x, none, _ => exact ⟨(r x).2, (r x).1, by decide⟩
  | some x, some y, h => exact ⟨sgR_mono h, (r x).1, (r y).2⟩
/-! ### SignOf -/
def sgnI (a b : Int) : Int := if a > 0 then 2 else if b < 0 then -2 else if a = 0 ∧ b = 0 then 0 else if a = 0 then 1 else if b = 0 then -1 else 3
noncomputable def envSgo (F : TypeId) : Env := envOf [sgnC F]
theorem envSgo_ok (F : TypeId) : EnvOK Tryz.prog F tbX (envSgo F) := envOf_ok _
theorem sgo_wp (F : TypeId) (s : Se) (hs : s.inv) (hw : s.abq.wf) (K : Except Int SV → Prop) (hK : ∀ r, SubE r (.ok (.int .i64 s.abq.sign)) → K r) :
    wpF tbX (envSgo F) (wpDraw tbX (envSgo F)) Tryz.f63 [s.rv] K := by
  have e1 := sgZ_vQ hs.lo
  have e2 := sgZ_vQ hs.hi
  clear hs
  obtain ⟨lo, hi, li, hf, vo⟩ := s
  dsimp only at e1 e2
  cases vo
  · have hw : Ab.wf (some (enQ li lo, enQ hf hi)) := hw
    have hq := wf_sg hw
    have hK : ∀ r, SubE r (.ok (.int .i64 (sgnI (sgL (enQ li lo)) (sgH (enQ hf hi))))) → K r := hK
    clear hw
    rcases sgR_tri (vQ lo) with l | l | l <;> rcases sgR_tri (vQ hi) with g | g | g <;> cases li <;> cases hf <;>
      (simp only [sgL, sgH, enQ, Bool.false_eq_true, if_false, if_true, l, g] at hq hK
       rw [l] at e1
       rw [g] at e2
       first
       | (exfalso; revert hq; decide)
       | ((repeat first
            | (refine And.intro trivial ?_
               show wpRes _ _ (.ok (.int .i64 (sgZ lo.1 lo.2.1)))
               rw [e1])
            | (refine And.intro trivial ?_
               show wpRes _ _ (.ok (.int .i64 (sgZ hi.1 hi.2.1)))
               rw [e2])
            | refine ifB_mk (fun h => ?_) (fun h => absurd (@of_decide_eq_false _ (Classical.propDecidable _) h) (by decide))
            | refine ifB_mk (fun h => absurd (@of_decide_eq_true _ (Classical.propDecidable _) h) (by decide)) (fun h => ?_))
          show K _
          exact hK _ ⟨rfl, Sub.refl _⟩))
  · show K _
    exact hK _ ⟨rfl, Sub.refl _⟩
theorem sgo_holds (F : TypeId) (s : Se) (h : s.inv ∧ s.abq.wf) : Holds Tryz.prog F 63 [s.rv] (.ok (.int .i64 s.abq.sign)) :=
  holds_run mixed tbX_ok (envSgo_ok F) Tryz.func63 rfl (by kernel_rfl) (args := [s.rv]) (sgo_wp F s h.1 h.2 _ fun _ hr => hr) (fun _ _ _ _ _ h => h)
def sgoC (F : TypeId) : Con Tryz.prog F :=
  mkCon 63 (enters_of Tryz.func63 (by kernel_rfl) rfl) decI (fun s => [s.rv]) (fun s => s.inv ∧ s.abq.wf) (fun s => .int .i64 s.abq.sign) decI_sub (sgo_holds F)
end Iv
end Go.Proofs.YtfajgibpidlojaaGreatDoor
end

section
/- Contracts of the reference's intervals: Size. Conditions: the sizes; the ends are in order. -/
set_option linter.unusedVariables false
set_option linter.unusedSimpArgs false
set_option maxHeartbeats 4000000
set_option maxRecDepth 8000
namespace Go.Proofs.YtfajgibpidlojaaGreatDoor
namespace Iv
open Go Go.Proofs

def sizF (s : Se) (k : Int) : Se := if k = 4 ∨ k = 0 ∨ k = 2 ∨ k = 1 then s else if k = -2 ∨ k = -1 then s.mns else ⟨t0, if s.li || s.hf then t0 else grQ (opQ s.lo) s.hi, false, s.li || s.hf, false⟩
def Se.siz (s : Se) : Se := sizF s s.abq.sign
theorem sign_range (A : Ab) : A.sign = 4 ∨ A.sign = 0 ∨ A.sign = 2 ∨ A.sign = 1 ∨ A.sign = -2 ∨ A.sign = -1 ∨ A.sign = 3 := by
  match A with
  | none => exact .inl rfl
  | some (a, b) =>
    simp only [Ab.sign]
    repeat' split
    all_goals simp
noncomputable def envSiz (F : TypeId) : Env := envOf [sgoC F, mnsC F, roppC F, qmostC F]
theorem envSiz_ok (F : TypeId) : EnvOK Tryz.prog F tbX (envSiz F) := envOf_ok _
theorem siz_wp (F : TypeId) (s : Se) (hs : s.inv) (hw : s.abq.wf) (K : Except Int SV → Prop) (hK : ∀ r, SubE r (.ok s.siz.rv) → K r) :
    wpF tbX (envSiz F) (wpDraw tbX (envSiz F)) Tryz.f54 [s.rv] K := by
  unfold Se.siz at hK
  refine And.intro ⟨hs, hw⟩ ?_
  show wpRes _ _ (.ok (.int .i64 s.abq.sign))
  have hk := sign_range s.abq
  have o1 := (opQ_parts hs.lo).1
  have o2 := hs.hi
  clear hs hw
  generalize s.abq.sign = k at *
  obtain ⟨lo, hi, li, hf, vo⟩ := s
  rcases hk with rfl | rfl | rfl | rfl | rfl | rfl | rfl
  · show K _
    exact hK _ ⟨rfl, Sub.refl _⟩
  · show K _
    exact hK _ ⟨rfl, Sub.refl _⟩
  · show K _
    exact hK _ ⟨rfl, Sub.refl _⟩
  · show K _
    exact hK _ ⟨rfl, Sub.refl _⟩
  · refine And.intro trivial ?_
    show K _
    exact hK _ ⟨rfl, Sub.refl _⟩
  · refine And.intro trivial ?_
    show K _
    exact hK _ ⟨rfl, Sub.refl _⟩
  · cases li <;> cases hf
    · refine And.intro (by kernel_rfl) (Or.inl ?_)
      refine And.intro trivial ?_
      refine And.intro ⟨o1, o2⟩ ?_
      show K _
      exact hK _ ⟨rfl, Sub.agg (SubM3 (SubR _))⟩
    · show K _
      exact hK _ ⟨rfl, Sub.agg (SubM3 (SubM3 (SubR _)))⟩
    · show K _
      exact hK _ ⟨rfl, Sub.agg (SubM3 (SubM3 (SubR _)))⟩
    · show K _
      exact hK _ ⟨rfl, Sub.agg (SubM3 (SubM3 (SubR _)))⟩
theorem siz_holds (F : TypeId) (s : Se) (h : s.inv ∧ s.abq.wf) : Holds Tryz.prog F 54 [s.rv] (.ok s.siz.rv) :=
  holds_run mixed tbX_ok (envSiz_ok F) Tryz.func54 rfl (by kernel_rfl) (args := [s.rv]) (siz_wp F s h.1 h.2 _ fun _ hr => hr) (fun _ _ _ _ _ h => h)
def sizC (F : TypeId) : Con Tryz.prog F :=
  mkCon 54 (enters_of Tryz.func54 (by kernel_rfl) rfl) decI (fun s => [s.rv]) (fun s => s.inv ∧ s.abq.wf) (fun s => s.siz.rv) decI_sub (siz_holds F)
theorem vQ_grQ (p q : Tr) : vQ (grQ p q) = grR (vQ p) (vQ q) := by unfold grQ grR; split <;> rfl
theorem okQ_grQ {p q : Tr} (hp : OkQ p) (hq : OkQ q) : OkQ (grQ p q) := by unfold grQ; split <;> assumption
theorem siz_fact (s : Se) (hs : s.inv) (hw : s.abq.wf) : s.siz.abq = s.abq.abs ∧ s.siz.inv := by
  have m1 := mns_ab s hs
  have m2 := mns_inv s hs
  have o := opQ_parts hs.lo
  unfold Se.siz
  by_cases hv : s.vo = true
  · have e : s.abq = none := by unfold Se.abq; rw [if_pos hv]
    have e4 : s.abq.sign = 4 := by rw [e]; rfl
    have e5 : sizF s 4 = s := rfl
    rw [e4, e5, e]
    exact ⟨rfl, hs⟩
  · have e : s.abq = some (enQ s.li s.lo, enQ s.hf s.hi) := by unfold Se.abq; rw [if_neg hv]
    rw [e] at hw
    obtain ⟨q1, q2, q3⟩ := wf_sg hw
    rw [e] at m1
    rw [e]
    have ea : Ab.abs (some (enQ s.li s.lo, enQ s.hf s.hi)) = (if sgL (enQ s.li s.lo) ≥ 0 then some (enQ s.li s.lo, enQ s.hf s.hi) else if sgH (enQ s.hf s.hi) ≤ 0 then Ab.neg (some (enQ s.li s.lo, enQ s.hf s.hi)) else some (some 0, l2 grR ((enQ s.li s.lo).map (- ·)) (enQ s.hf s.hi)) : Ab) := rfl
    rw [ea]
    have es : Ab.sign (some (enQ s.li s.lo, enQ s.hf s.hi)) = (if sgL (enQ s.li s.lo) > 0 then 2 else if sgH (enQ s.hf s.hi) < 0 then -2 else if sgL (enQ s.li s.lo) = 0 ∧ sgH (enQ s.hf s.hi) = 0 then 0 else if sgL (enQ s.li s.lo) = 0 then 1 else if sgH (enQ s.hf s.hi) = 0 then -1 else 3) := rfl
    by_cases c1 : sgL (enQ s.li s.lo) ≥ 0
    · rw [if_pos c1]
      have k : sizF s (Ab.sign (some (enQ s.li s.lo, enQ s.hf s.hi))) = s := by
        rw [es]
        unfold sizF
        rw [if_pos]
        (repeat' split) <;> first | omega | simp
      rw [k]
      exact ⟨e, hs⟩
    · rw [if_neg c1]
      by_cases c2 : sgH (enQ s.hf s.hi) ≤ 0
      · rw [if_pos c2]
        have k : sizF s (Ab.sign (some (enQ s.li s.lo, enQ s.hf s.hi))) = s.mns := by
          rw [es, if_neg (by omega)]
          by_cases c3 : sgH (enQ s.hf s.hi) < 0
          · rw [if_pos c3]; rfl
          · rw [if_neg c3, if_neg (by omega), if_neg (by omega), if_pos (by omega)]; rfl
        rw [k]
        exact ⟨m1, m2⟩
      · rw [if_neg c2]
        have k : sizF s (Ab.sign (some (enQ s.li s.lo, enQ s.hf s.hi))) = ⟨t0, if s.li || s.hf then t0 else grQ (opQ s.lo) s.hi, false, s.li || s.hf, false⟩ := by
          rw [es, if_neg (by omega), if_neg (by omega), if_neg (by omega), if_neg (by omega), if_neg (by omega)]; rfl
        rw [k]
        have h2 := hs.hi
        clear m1 m2 hs hw q1 q2 q3 e ea es c1 c2 k hv
        obtain ⟨lo, hi, li, hf, vo⟩ := s
        cases li <;> cases hf
        · refine ⟨?_, okQ_t0, okQ_grQ o.1 h2, fun e => (by cases e), fun e => (by cases e), fun e => (by cases e)⟩
          simp [Se.abq, enQ, l2, vQ_t0, vQ_grQ, o.2]
        · exact ⟨by simp [Se.abq, enQ, l2, vQ_t0], okQ_t0, okQ_t0, fun _ => vQ_t0, fun _ => vQ_t0, fun _ => ⟨vQ_t0, vQ_t0⟩⟩
        · exact ⟨by simp [Se.abq, enQ, l2, vQ_t0], okQ_t0, okQ_t0, fun _ => vQ_t0, fun _ => vQ_t0, fun _ => ⟨vQ_t0, vQ_t0⟩⟩
        · exact ⟨by simp [Se.abq, enQ, l2, vQ_t0], okQ_t0, okQ_t0, fun _ => vQ_t0, fun _ => vQ_t0, fun _ => ⟨vQ_t0, vQ_t0⟩⟩
end Iv
end Go.Proofs.YtfajgibpidlojaaGreatDoor
end

section
/- Contracts of the reference's intervals: the layer's Abs. Conditions: the sizes of what comes in. -/
set_option linter.unusedVariables false
set_option linter.unusedSimpArgs false
set_option maxHeartbeats 4000000
set_option maxRecDepth 8000
namespace Go.Proofs.YtfajgibpidlojaaGreatDoor
namespace Iv
open Go Go.Proofs

/-! ### RAbs -/
noncomputable def envRAbs (F : TypeId) : Env := envOf [oneIC F, sizC F, apiC F]
theorem envRAbs_ok (F : TypeId) : EnvOK Tryz.prog F tbX (envRAbs F) := envOf_ok _
theorem RAbs_wp (F : TypeId) (a : Y) (ha : a.ok) (K : Except Int SV → Prop) (hK : ∀ r, SubE r (.ok (sOut (spOne a Ab.abs))) → K r) :
    wpF tbX (envRAbs F) (wpDraw tbX (envRAbs F)) Tryz.f16 [a.sv] K := by
  unfold spOne at hK
  refine And.intro ha (And.intro (fun h => ?_) (fun h => And.intro (fun h2 => ?_) (fun h2 => ?_)))
  · have h1 : a.good = false := h
    rw [if_neg (by rw [h1]; decide)] at hK
    show K _
    exact hK _ ⟨rfl, Sub.tup (SubL.cons (Sub.agg (SubN3 (SubN3 (SubR _)))) (SubR _))⟩
  · exact absurd (show pOk 0 = false from h2) (by decide)
  have h1 : a.good = true := by
    have : ¬ a.good = false := h
    simpa only [Bool.not_eq_false] using this
  rw [if_pos h1] at hK
  have i1 := rset_inv a ha
  have i2 := rset_ab a
  have hf : (Ab.abs a.ab).fits = true := abs_fits (ab_fits a h1)
  rw [outA_fits hf] at hK
  rw [← i2] at hK hf
  show wpRes _ _ (.ok (.tup [a.rset.rv, .int .i64 0]))
  have i0 := rset_smq a ha h1
  have iw : a.rset.abq.wf := by rw [rset_ab]; exact sp_wf _ _
  clear h h2 i2
  generalize a.rset = s at *
  have i3 : (Se.siz s).abq = Ab.abs s.abq := (siz_fact s i1 iw).1
  have i4 : (Se.siz s).inv := (siz_fact s i1 iw).2
  rw [← i3] at hK
  refine And.intro ⟨i1, iw⟩ ?_
  show wpRes _ _ (.ok (Se.siz s).rv)
  generalize (Se.siz s) = s at *
  refine And.intro i4 ?_
  show K (.ok (.tup [(cz s.abq).sv, .int .i64 0]))
  exact hK _ ⟨rfl, Sub.refl _⟩
theorem RAbs_holds (F : TypeId) (a : Y) (h : a.ok) : Holds Tryz.prog F 16 [a.sv] (tRes Z.sv z0 (spOne a Ab.abs)).pick := by
  rw [tRes_pick]
  exact holds_run mixed tbX_ok (envRAbs_ok F) Tryz.func16 rfl (by kernel_rfl) (args := [a.sv]) (RAbs_wp F a h _ fun _ hr => hr) (fun _ _ _ _ _ h => h)
def RAbsC (F : TypeId) : Con Tryz.prog F :=
  mkConR 16 (enters_of Tryz.func16 (by kernel_rfl) rfl) decY (fun q => [q.sv]) (fun q => q.ok) (fun q => tRes Z.sv z0 (spOne q Ab.abs)) decY_sub (RAbs_holds F)
end Iv
end Go.Proofs.YtfajgibpidlojaaGreatDoor
end

section
/- The law IntervalSides. Conditions: the sizes of what comes in. -/
set_option linter.unusedVariables false
set_option linter.unusedSimpArgs false
set_option maxHeartbeats 4000000
set_option maxRecDepth 8000
namespace Go.Proofs.YtfajgibpidlojaaGreatDoor
namespace Iv
open Go Go.Proofs

noncomputable def envsides : Env := envOf [PNegC, RNegC FF, PAbsC, RAbsC FF, isC FF, awakeC]
theorem envsides_ok : EnvOK Tryz.prog FF tbX envsides := envOf_ok _
theorem sides_wp (a : Y) (ha : a.ok) (K : Except Int SV → Prop) (hK : ∀ r, SubE r (.ok (.bool true)) → K r) :
    wpF tbX envsides (wpDraw tbX envsides) Tryz.f4 [a.sv] K := by
  obtain ⟨z0, e0, c0, k0⟩ := tRes_val (spOne_okRes a Ab.neg (fun x => neg_wf))
  obtain ⟨z1, e1, c1, k1⟩ := tRes_val (spOne_okRes a Ab.abs (fun x => abs_wf))
  refine And.intro ha ?_
  refine k0 _ _ ?_
  refine And.intro ha ?_
  refine k0 _ _ ?_
  refine And.intro ha ?_
  refine k1 _ _ ?_
  refine And.intro ha ?_
  refine k1 _ _ ?_
  refine And.intro ⟨rfl, rfl, c0⟩ ?_
  refine And.intro ⟨rfl, rfl, c1⟩ ?_
  refine And.intro trivial ?_
  show K _
  exact hK _ ⟨rfl, Sub.refl _⟩
theorem sides_holds (q : Y) (h : q.ok) : Holds Tryz.prog FF 4 [q.sv] (.ok (.bool true)) :=
  holds_run mixed tbX_ok envsides_ok Tryz.func4 rfl (by kernel_rfl) (args := [q.sv]) (sides_wp q h _ fun _ hr => hr) (fun _ _ _ _ _ h => h)
end Iv
end Go.Proofs.YtfajgibpidlojaaGreatDoor
end

section
/-
  The law IntervalSides answers true and leaves its arguments as they read: for all intervals, numbers and precisions whose reading is together of bulk at most 1048576; the library's table math/bits.deBruijn32tab lies as the program's text lays it (the card ties it).
-/
set_option linter.unusedVariables false
set_option linter.unusedSimpArgs false
set_option maxRecDepth 8000
namespace Go.Proofs.YtfajgibpidlojaaGreatDoor.intervalSides
open Go Go.Proofs Go.ChangeShapes Go.WideShapes Go.ChangeAt Go.RowKit Go.Proofs.YtfajgibpidlojaaGreatDoor.Iv

theorem own : ownKnob Tryz.prog.godebug = none := by kernel_rfl
theorem contract (H : Type) (enc : TypeId × Value → H) (W : World) (base : Nat) (args : Array Value) (ds gs : List (DataW H)) (before : List MemPlace)
    (hval : ∀ (j : Nat) t v, Tryz.f4.params[j]? = some t → args[j]? = some v → Value.okWide Tryz.prog W .any base t v)
    (hW : DataW.Whole enc Tryz.prog Tryz.f4.params.toList Rows.intervalSidesSpec.vars false W args.toList ds gs before) (hbulk : Rows.uptoSmall H (ds ++ gs) = true) (hL : laidMetH Tryz.prog Rows.intervalSidesUptoRow.laid W) :
    Calls Tryz.prog 4 args W fun e W' => ∃ v, e = .returned v ∧ Rows.intervalSidesSpec.post enc Tryz.prog Tryz.f4 false true false false W args v W' := by
  have hW' := hW
  obtain ⟨p, q, hA0, hV, rfl, _, _⟩ := hW
  have hA : DataW.TrodAll enc Tryz.prog W 0 (fun _ => true) true Tryz.f4.params.toList args.toList ds p := hA0
  rw [Tryz.params4] at hA hval
  obtain ⟨v0, vs0, d0, ds0, p0, q0, hargs, rfl, rfl, h0, r0⟩ := trodAll_cons hA
  obtain ⟨rfl, rfl, rfl⟩ := trodAll_nil r0
  obtain rfl : args = #[v0] := by cases args; simp_all
  obtain ⟨rfl, rfl⟩ := trodVars_none hV
  clear hA0
  simp only [List.append_nil, List.append_assoc] at hW'
  have hb0 : Rows.uptoBulkAll [d0] ≤ 1048576 := by
    have := of_decide_eq_true hbulk
    simpa only [List.append_nil] using this
  obtain ⟨y0, o0, e0⟩ := read_iv (M := fun _ => False) (N := W.heap.size) (bnd := fun _ => none) (fun _ h => h) (hval 0 26 v0 rfl rfl) h0 (Nat.le_trans (bulk_part (by simp)) hb0)
  have hlt : ∀ x ∈ p0, x.block < W.heap.size := fun x hx => by simpa using hW'.lt x (by simpa using hx)
  refine (sides_holds y0 o0 (fun _ => False) W [v0] (mok_none (gl_of hL rfl)) ⟨v0, _, rfl, e0, rfl⟩).mono ?_
  rintro e W' ⟨hb, v, rfl, _, hr⟩
  have hr : v = .bool true := hr
  subst hr
  have g0 := Below.trod laidOut (by kernel_rfl) (of_decide_eq_true (by kernel_rfl)) h0 hb (fun x hx => hlt x (by simp [hx]))
  have hW2 : DataW.Whole enc Tryz.prog Tryz.f4.params.toList Rows.intervalSidesSpec.vars false W #[v0].toList [d0] [] (p0) := by simpa only [List.append_nil, List.append_assoc] using hW'
  exact ⟨_, rfl, _, _, _, [], _, [], hW2, trodAll_mk1 (shut_bool Tryz.underlying4 _), trodAll_mk1 g0, rfl, hb.frame _, fun h => by cases h⟩
/-- A world for the witness: the settled one, the table (its block) holding what its initialiser lays. -/
noncomputable def laidWorld (os : Os) : World :=
  { World.holding Tryz.prog os ⟨#[], #[], []⟩ with heap := (World.holding Tryz.prog os ⟨#[], #[], []⟩).heap.modify 0 fun
      | .cells _ t frozen => .cells #[.int .u8 0, .int .u8 1, .int .u8 28, .int .u8 2, .int .u8 29, .int .u8 14, .int .u8 24, .int .u8 3, .int .u8 30, .int .u8 22, .int .u8 20, .int .u8 15, .int .u8 25, .int .u8 17, .int .u8 4, .int .u8 8, .int .u8 31, .int .u8 27, .int .u8 13, .int .u8 23, .int .u8 21, .int .u8 19, .int .u8 16, .int .u8 7, .int .u8 26, .int .u8 12, .int .u8 18, .int .u8 6, .int .u8 11, .int .u8 5, .int .u8 10, .int .u8 9] t frozen
      | o => o }
def wArgs : Array Value := #[.agg #[.bool false, .slice none 0 0, .slice none 0 0, .bool false, .slice none 0 0, .slice none 0 0, .bool false, .bool false]]
theorem laid_met (os : Os) : laidMet Tryz.prog Rows.intervalSidesUptoRow.laid ((laidWorld os).forCall (fun _ _ => 0) ⟨#[], wArgs, []⟩).memory :=
  laidMet_of_run' 8 (by kernel_rfl) (by kernel_rfl)
theorem reads (os : Os) {H : Type} (enc : TypeId × Value → H) : ∃ places, DataW.whole enc Tryz.prog ((laidWorld os).forCall (fun _ _ => 0) ⟨#[], wArgs, []⟩).memory Tryz.f4.params.toList Rows.intervalSidesSpec.vars false wArgs.toList 8 = some ([.agg [.agg [.lit (.bool false), .nil, .nil], .agg [.lit (.bool false), .nil, .nil], .lit (.bool false), .lit (.bool false)]], [], places) :=
  ⟨[], by kernel_rfl⟩
set_option maxRecDepth 100000 in
theorem lifted (os : Os) (started : os.Started) (H : Type) (enc : TypeId × Value → H) (F : Stop.Interp) :
    ReturnsInHanded {} Tryz.checked os 4 .any ((Rows.OpenSpec.upto Rows.intervalSidesSpec).preRow enc Tryz.prog Tryz.f4 Rows.intervalSidesUptoRow.domain false Rows.intervalSidesUptoRow.laid) (((Rows.OpenSpec.upto Rows.intervalSidesSpec).at F).post enc Tryz.prog Tryz.f4 false true false false) := by
  obtain ⟨places, hx⟩ := reads os enc
  refine returnsInHanded_of_row (C := Tryz.checked) (s := Rows.OpenSpec.upto Rows.intervalSidesSpec) own started (by kernel_rfl) Tryz.func4
    (witness_row_at (enc := enc) (C := Tryz.checked) false (laidWorld os) wArgs rfl (by kernel_rfl) (by kernel_rfl) (by kernel_rfl)
      (OpenSpec.preRow_of_cond 8 hx (by kernel_rfl) (fun k hk => by cases hk; kernel_rfl) (by kernel_rfl) (laid_met os))) ?_
  intro W base args ds gs before hval hW _ hcond _ hL _ _
  exact contract H enc W base args ds gs before hval hW (hcond _ rfl) hL
theorem said : Rows.IntervalSidesUptoSaid :=
  OpenClaim.holds_of_cond 4 Tryz.f4 rfl rfl rfl rfl rfl rfl rfl ⟨rfl, rfl, rfl, rfl, rfl⟩ rfl rfl rfl rfl rfl (by kernel_rfl) Tryz.func4 (by kernel_rfl)
    (of_decide_eq_true (by kernel_rfl)) (by unfold Func.isWrapper; first | (rw [if_pos (by decide +kernel)]; kernel_rfl) | (rw [if_neg (by decide +kernel)]; exact ⟨rfl, rfl⟩))
    (fun os started H enc _ F => by rw [OpenClaim.pre_eq_preRow]; exact lifted os started H enc F)
theorem plain (f : FuncId) (fn : Func) (hf : Tryz.pinned.checked.prog.funcNamed "inequality/inequalitylaw03.IntervalSides" = some f) (hfn : Tryz.pinned.checked.prog.funcs[f]? = some fn) :
    true = Tryz.pinned.checked.prog.looks [] ∧ ∀ (j : Nat) t, fn.params[j]? = some t → Tryz.pinned.checked.prog.wantsStandIn t = false := by
  obtain rfl : f = 4 := Option.some.inj ((show Tryz.prog.funcNamed "inequality/inequalitylaw03.IntervalSides" = some 4 by kernel_rfl).symm.trans hf) |>.symm
  obtain rfl : fn = Tryz.f4 := (Option.some.inj (Tryz.func4.symm.trans hfn)).symm
  refine ⟨by kernel_rfl, fun j t ht => ?_⟩
  rw [Tryz.params4] at ht
  have hm : t ∈ [26] := by simpa using Array.mem_of_getElem? ht
  have hall : ∀ t ∈ [26], Tryz.prog.wantsStandIn t = false := by
    intro t ht
    simp only [List.mem_cons, List.not_mem_nil, or_false] at ht
    subst ht
    kernel_rfl
  exact hall t hm
/-- The statement. -/
theorem card : Rows.IntervalSidesUptoCardSaid :=
  Claim7.holds_tied_plain_at .later [] _ _ _ _ said (fun _ h => by cases h) (by kernel_rfl) (fun _ h => by cases h) intervalSidesUpto_row_tie rfl ⟨rfl, rfl⟩ (by kernel_rfl) rfl plain (by kernel_rfl)
#print axioms card
end Go.Proofs.YtfajgibpidlojaaGreatDoor.intervalSides
end
