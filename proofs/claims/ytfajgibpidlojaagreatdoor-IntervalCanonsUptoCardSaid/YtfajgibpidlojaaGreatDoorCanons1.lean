/-
  The whole proof of a law, the last part. Each part says its own conditions.
-/
import Derived.Test.YtfajgibpidlojaaGreatDoorCards
import Derived.Test.YtfajgibpidlojaaGreatDoorTie
import Derived.Test.YtfajgibpidlojaaGreatDoorBase6
import Derived.Test.YtfajgibpidlojaaGreatDoorBase7
import Derived.Test.YtfajgibpidlojaaGreatDoorBase8

section
/- Sets of numbers: which operations keep the ends in order, and which keep them small. No condition. -/
set_option linter.unusedVariables false
set_option linter.unusedSimpArgs false
namespace Go.Proofs.YtfajgibpidlojaaGreatDoor
namespace Iv
open Go Go.Proofs

theorem sgR_cmp (x : Rat) : sgR x = cmpR x 0 := by
  have h := sgR_sub x 0
  have e : x - 0 = x := by grind
  rwa [e] at h
theorem sgR_pos {x : Rat} : sgR x > 0 ↔ 0 < x := by rw [sgR_cmp, cmpR_pos]
theorem sgR_lt {x : Rat} : sgR x < 0 ↔ x < 0 := by rw [sgR_cmp, cmpR_lt]
theorem sgR_eq {x : Rat} : sgR x = 0 ↔ x = 0 := by rw [sgR_cmp, cmpR_eq]
theorem leR_or (x y : Rat) : leR x y = x ∨ leR x y = y := by unfold leR; split <;> simp
theorem grR_or (x y : Rat) : grR x y = x ∨ grR x y = y := by unfold grR; split <;> simp
theorem leR_le (x y : Rat) : leR x y ≤ x ∧ leR x y ≤ y := by
  unfold leR
  split
  · rename_i h
    rw [cmpR_lt] at h
    exact ⟨Rat.le_of_lt h, Rat.le_refl⟩
  · rename_i h
    rw [cmpR_lt] at h
    exact ⟨Rat.le_refl, Rat.not_lt.1 h⟩
theorem le_grR (x y : Rat) : x ≤ grR x y ∧ y ≤ grR x y := by
  unfold grR
  split
  · rename_i h
    rw [cmpR_pos] at h
    exact ⟨Rat.le_of_lt h, Rat.le_refl⟩
  · rename_i h
    rw [cmpR_pos] at h
    exact ⟨Rat.le_refl, Rat.not_lt.1 h⟩
/-! ### The order -/
theorem meet_wf (x y : Ab) : (x.meet y).wf := by
  match x, y with
  | none, _ => trivial
  | some (a, b), none => trivial
  | some (a, b), some (c, d) => exact sp_wf _ _
theorem join_wf {x y : Ab} (h : x.wf) (k : y.wf) : (x.join y).wf := by
  match x, y, h, k with
  | none, _, _, k => exact k
  | some (a, b), none, h, _ => exact h
  | some (none, b), some (c, d), _, _ => trivial
  | some (some a, none), some (none, d), _, _ => trivial
  | some (some a, none), some (some c, d), _, _ => trivial
  | some (some a, some b), some (none, d), _, _ => trivial
  | some (some a, some b), some (some c, none), _, _ => trivial
  | some (some a, some b), some (some c, some d), h, k =>
    have h1 : a ≤ b := h
    exact Rat.le_trans (leR_le a c).1 (Rat.le_trans h1 (le_grR b d).1)
theorem abs_wf {x : Ab} (h : x.wf) : x.abs.wf := by
  match x, h with
  | none, _ => trivial
  | some (a, b), h =>
    show (if sgL a ≥ 0 then some (a, b) else if sgH b ≤ 0 then Ab.neg (some (a, b)) else some (some 0, l2 grR (a.map (- ·)) b) : Ab).wf
    split
    · exact h
    · split
      · exact neg_wf h
      · rename_i hb
        match a, b, hb with
        | none, _, _ => trivial
        | some x, none, _ => trivial
        | some x, some y, hb =>
          have hy : 0 < y := by
            have : ¬ sgR y ≤ 0 := hb
            have : sgR y > 0 := by omega
            exact sgR_pos.1 this
          exact Rat.le_trans (Rat.le_of_lt hy) (le_grR (-x) y).2
theorem low_wf {x y : Ab} (h : x.wf) (k : y.wf) : (x.low y).wf := by
  match x, y, h, k with
  | none, _, _, _ => trivial
  | some (a, b), none, _, _ => trivial
  | some (none, b), some (c, d), _, _ => trivial
  | some (some a, b), some (none, d), _, _ => trivial
  | some (some a, none), some (some c, none), _, _ => trivial
  | some (some a, none), some (some c, some d), h, k =>
    have k1 : c ≤ d := k
    exact Rat.le_trans (leR_le a c).2 k1
  | some (some a, some b), some (some c, none), h, k =>
    have h1 : a ≤ b := h
    exact Rat.le_trans (leR_le a c).1 h1
  | some (some a, some b), some (some c, some d), h, k =>
    have h1 : a ≤ b := h
    have k1 : c ≤ d := k
    show leR a c ≤ leR b d
    rcases leR_or b d with e | e <;> rw [e]
    · exact Rat.le_trans (leR_le a c).1 h1
    · exact Rat.le_trans (leR_le a c).2 k1
/-! ### The sizes -/
theorem fitR_neg (q : Rat) : fitR (-q) = fitR q := by
  obtain ⟨n1, n2, n3⟩ := neg_parts q
  unfold fitR
  rw [n2, n3]
theorem fitR_le {x y : Rat} (h : fitR x = true) (k : fitR y = true) : fitR (leR x y) = true := by rcases leR_or x y with e | e <;> rw [e] <;> assumption
theorem fitR_gr {x y : Rat} (h : fitR x = true) (k : fitR y = true) : fitR (grR x y) = true := by rcases grR_or x y with e | e <;> rw [e] <;> assumption
theorem sp_fits {l h : Option Rat} (hl : l.all fitR = true) (hh : h.all fitR = true) : (Ab.sp l h).fits = true := by
  have : Ab.fits (some (l, h)) = true := by simp [Ab.fits, hl, hh]
  unfold Ab.sp
  split
  · split
    · rfl
    · exact this
  · exact this
theorem ab_fits (y : Y) (h : y.good = true) : y.ab.fits = true := by
  have e3 : y.good = (numOk y.lo && numOk y.hi) := rfl
  rw [e3, Bool.and_eq_true] at h
  have f : ∀ x : X, numOk x = true → fitR x.q = true := fun x hx => by
    unfold numOk at hx
    rw [Bool.and_eq_true] at hx
    exact hx.2
  unfold Y.ab
  refine sp_fits ?_ ?_
  · split
    · rfl
    · exact f _ h.1
  · split
    · rfl
    · exact f _ h.2
theorem neg_fits {x : Ab} (h : x.fits = true) : x.neg.fits = true := by
  match x, h with
  | none, _ => rfl
  | some (a, b), h =>
    unfold Ab.fits at h
    rw [Bool.and_eq_true] at h
    have f : ∀ o : Option Rat, o.all fitR = true → (o.map (- ·)).all fitR = true := fun o ho => by
      cases o
      · rfl
      · simp only [Option.map_some, Option.all_some] at ho ⊢
        rw [fitR_neg]; exact ho
    simp only [Ab.neg, Ab.fits, f _ h.1, f _ h.2, Bool.and_self]
theorem l2_fits {f : Rat → Rat → Rat} (hf : ∀ x y, fitR x = true → fitR y = true → fitR (f x y) = true) {a b : Option Rat} (h : a.all fitR = true) (k : b.all fitR = true) : (l2 f a b).all fitR = true := by
  cases a <;> cases b <;> first | rfl | exact hf _ _ h k
theorem m2_fits {f : Rat → Rat → Rat} (hf : ∀ x y, fitR x = true → fitR y = true → fitR (f x y) = true) {a b : Option Rat} (h : a.all fitR = true) (k : b.all fitR = true) : (m2 f a b).all fitR = true := by
  cases a <;> cases b <;> first | rfl | exact hf _ _ h k | exact h | exact k
theorem meet_fits {x y : Ab} (h : x.fits = true) (k : y.fits = true) : (x.meet y).fits = true := by
  match x, y, h, k with
  | none, _, _, _ => rfl
  | some (a, b), none, _, _ => rfl
  | some (a, b), some (c, d), h, k =>
    unfold Ab.fits at h k
    rw [Bool.and_eq_true] at h k
    exact sp_fits (m2_fits (fun _ _ => fitR_gr) h.1 k.1) (m2_fits (fun _ _ => fitR_le) h.2 k.2)
theorem join_fits {x y : Ab} (h : x.fits = true) (k : y.fits = true) : (x.join y).fits = true := by
  match x, y, h, k with
  | none, _, _, k => exact k
  | some (a, b), none, h, _ => exact h
  | some (a, b), some (c, d), h, k =>
    unfold Ab.fits at h k
    rw [Bool.and_eq_true] at h k
    simp only [Ab.join, Ab.fits, l2_fits (fun _ _ => fitR_le) h.1 k.1, l2_fits (fun _ _ => fitR_gr) h.2 k.2, Bool.and_self]
theorem low_fits {x y : Ab} (h : x.fits = true) (k : y.fits = true) : (x.low y).fits = true := by
  match x, y, h, k with
  | none, _, _, _ => rfl
  | some (a, b), none, _, _ => rfl
  | some (a, b), some (c, d), h, k =>
    unfold Ab.fits at h k
    rw [Bool.and_eq_true] at h k
    simp only [Ab.low, Ab.fits, l2_fits (fun _ _ => fitR_le) h.1 k.1, m2_fits (fun _ _ => fitR_le) h.2 k.2, Bool.and_self]
theorem abs_fits {x : Ab} (h : x.fits = true) : x.abs.fits = true := by
  match x, h with
  | none, _ => rfl
  | some (a, b), h =>
    have h0 := neg_fits h
    have h' := h
    unfold Ab.fits at h
    rw [Bool.and_eq_true] at h
    show (if sgL a ≥ 0 then some (a, b) else if sgH b ≤ 0 then Ab.neg (some (a, b)) else some (some 0, l2 grR (a.map (- ·)) b) : Ab).fits = true
    split
    · exact h'
    · split
      · exact h0
      · have f : (a.map (- ·)).all fitR = true := by
          have ha := h.1
          cases a
          · rfl
          · simp only [Option.map_some, Option.all_some] at ha ⊢
            rw [fitR_neg]; exact ha
        have z : Option.all fitR (some 0) = true := fitR_zero
        simp only [Ab.fits, z, l2_fits (fun _ _ => fitR_gr) f h.2, Bool.and_self]
theorem outA_fits {A : Ab} (h : A.fits = true) : outA A = .ok (cz A) := if_pos h
end Iv
end Go.Proofs.YtfajgibpidlojaaGreatDoor
end

section
/- What the answers of the layer's functions may be: an error, or a canonical interval. No condition. -/
set_option linter.unusedVariables false
set_option linter.unusedSimpArgs false
namespace Go.Proofs.YtfajgibpidlojaaGreatDoor
namespace Iv
open Go Go.Proofs

theorem spOne_okRes (a : Y) (F : Ab → Ab) (hF : ∀ x : Ab, x.wf → (F x).wf) : okRes (spOne a F) := by
  unfold spOne
  split
  · exact outA_okRes (hF _ (yab_wf a))
  · exact .inl ⟨1, by decide, rfl⟩
theorem spTwo_okRes (a b : Y) (F : Ab → Ab → Ab) (hF : ∀ x y : Ab, x.wf → y.wf → (F x y).wf) : okRes (spTwo a b F) := by
  unfold spTwo
  split
  · exact outA_okRes (hF _ _ (yab_wf a) (yab_wf b))
  · exact .inl ⟨1, by decide, rfl⟩
/-- Answers that are no intervals: any value with any error. -/
theorem tRes_any {α : Type} (sv : α → SV) (zero : α) (r : Except Int α) : ∃ (z : α) (e : Int), ∀ (Q : SV → Prop) (E : Int → Prop), Q (.tup [sv z, .int .i64 e]) → wpRes Q E (tRes sv zero r) := by
  cases r with
  | error e => exact ⟨zero, e, fun Q E hq => ⟨fun _ => hq, fun c => absurd ⟨e, rfl⟩ c⟩⟩
  | ok z => exact ⟨z, 0, fun Q E hq => ⟨fun ⟨e, c⟩ => (by cases c), fun _ => hq⟩⟩
end Iv
end Go.Proofs.YtfajgibpidlojaaGreatDoor
end

section
/- Contracts of the intervals' closures: Canon$1; what unary and exact come to at each operation. Conditions: the sizes. -/
set_option linter.unusedVariables false
set_option linter.unusedSimpArgs false
set_option maxHeartbeats 4000000
set_option maxRecDepth 8000
namespace Go.Proofs.YtfajgibpidlojaaGreatDoor
namespace Iv
open Go Go.Proofs

noncomputable def envCan : Env := envOf [minusC]
theorem envCan_ok : EnvOK Tryz.prog FF tbX envCan := envOf_ok _
theorem can1_wp (s : Se) (K : Except Int SV → Prop) (hK : ∀ r, SubE r (.ok s.sv) → K r) :
    wpF tbX envCan (wpDraw tbX envCan) Tryz.f55 [s.sv] K := by
  show K _
  exact hK _ ⟨rfl, Sub.refl _⟩
theorem can1_holds (s : Se) (h : True) : Holds Tryz.prog FF 55 [s.sv] (.ok s.sv) :=
  holds_run mixed tbX_ok envCan_ok Tryz.func55 rfl (by kernel_rfl) (args := [s.sv]) (can1_wp s _ fun _ hr => hr) (fun _ _ _ _ _ h => h)
def can1C : Con Tryz.prog FF :=
  mkCon 55 (enters_of Tryz.func55 (by kernel_rfl) rfl) decS (fun s => [s.sv]) (fun _ => True) (fun s => s.sv) decS_sub can1_holds
theorem unS_can (a : Y) : unS a (fun s => .ok s) = spOne a (fun x => x) := unS_ok a (fun s => s) (fun x => x) (fun s hs => ⟨rfl, fun _ => hs.fin⟩)
theorem unS_neg (a : Y) : unS a (fun s => .ok s.minus) = spOne a Ab.neg := unS_ok a Se.minus Ab.neg (fun s hs => ⟨minus_ab s (fun _ => hs.fin), minus_okk s (fun _ => hs.fin)⟩)
end Iv
end Go.Proofs.YtfajgibpidlojaaGreatDoor
end

section
/- What the chains over unary rest on; Canon. Conditions: the sizes of what comes in. -/
set_option linter.unusedVariables false
set_option linter.unusedSimpArgs false
set_option maxHeartbeats 4000000
set_option maxRecDepth 8000
namespace Go.Proofs.YtfajgibpidlojaaGreatDoor
namespace Iv
open Go Go.Proofs

/-- The table with the type of functions of one set. -/
def tblU : List (TypeId × Ti) := (66, fnTi) :: tblX
def tbU : Tb := { ti := tbOf tblU, u := 64, inl := fun _ => false }
theorem tbU_ok : TabOK Tryz.prog tbU := tbChk_spec (l := tblU) (by kernel_rfl)
/-! ### unary$1 at Can -/
noncomputable def envUCan : Env := envOf [sreadC, can1C, sgiveC]
theorem envUCan_ok : EnvOK Tryz.prog FF tbU envUCan := envOf_ok _
def argUCan (q : Y) : List SV := [.ref [.fn 55 []] 0, .ref q.cells 0]
theorem UCan_wp (q : Y) (ha : q.ok) (K : Except Int SV → Prop) (hK : ∀ r, SubE r ((unS q (fun s => .ok ((fun s => s) s))).map Z.sv) → K r) :
    wpF tbU envUCan (wpDraw tbU envUCan) Tryz.f93 (argUCan q) K := by
  unfold unS at hK
  refine And.intro (by kernel_rfl) (Or.inl ?_)
  refine And.intro ha (And.intro (fun h => ?_) (fun h => ?_))
  · have h1 : q.good = false := h
    rw [if_neg (by rw [h1]; decide)] at hK
    show K (.error 1)
    exact hK _ rfl
  have h1 : q.good = true := by
    have : ¬ q.good = false := h
    simpa only [Bool.not_eq_false] using this
  rw [if_pos h1] at hK
  refine And.intro (trivial) ?_
  simp only at hK
  refine And.intro trivial (And.intro (fun h => ?_) (fun h => ?_))
  · have h4 : ((fun s => s) q.set).fits = false := h
    rw [if_neg (by rw [h4]; decide)] at hK
    show K (.error 1)
    exact hK _ rfl
  · have h4 : ((fun s => s) q.set).fits = true := by
      have : ¬ ((fun s => s) q.set).fits = false := h
      simpa only [Bool.not_eq_false] using this
    rw [if_pos h4] at hK
    show K (.ok ((fun s => s) q.set).give.sv)
    exact hK _ ⟨rfl, Sub.refl _⟩
theorem UCan_holds (q : Y) (h : q.ok) : Holds Tryz.prog FF 93 (argUCan q) ((spOne q (fun x => x)).map Z.sv) := by
  rw [← unS_can q]
  exact holds_run mixed tbU_ok envUCan_ok Tryz.func93 rfl (by kernel_rfl) (args := argUCan q) (UCan_wp q h _ fun _ hr => hr) (fun _ _ _ _ _ h => h)
def decUCan : List SV → Option (Y)
  | [.ref [.fn k []] 0, x] => match Nat.beq k 55, decC x with
    | true, some a => some a
    | _, _ => none
  | _ => none
theorem decUCan_sub (xs : List SV) (p : Y) (h : decUCan xs = some p) : SubL xs (argUCan p) := by
  unfold decUCan at h
  split at h
  · split at h
    · rename_i ek ha
      have ek := Nat.eq_of_beq_eq_true ek
      simp only [Option.some.injEq] at h
      subst h
      subst ek
      exact SubL.cons (Sub.refl _) (SubL.cons (decC_sub _ _ ha) SubL.nil)
    · cases h
  · cases h
noncomputable def UCanT : TCon Tryz.prog FF Z Z.sv where
  f := 93
  β := Y
  dec := decUCan
  pre := fun q => q.ok
  res := fun q => spOne q (fun x => x)
  ent := enters_of Tryz.func93 (by kernel_rfl) rfl
  pl := fun xs q h => by
    unfold decUCan at h
    split at h
    · split at h
      · rename_i ek ha
        simp only [SV.plainL, SV.plain, decC_plain ha, Bool.and_self]
      · cases h
    · cases h
  ok := fun xs q hd hp => fun M w vs hM ha => UCan_holds q hp M w vs hM (decUCan_sub xs q hd _ _ _ _ _ ha)
/-! ### VCan -/
noncomputable def envVCan : Env := envOf [TryI.con UCanT]
theorem envVCan_ok : EnvOK Tryz.prog FF tbU envVCan := envOf_ok _
def argVCan (q : Y) : List SV := [q.sv, .fn 55 []]
theorem VCan_wp (q : Y) (h : q.ok) (K : Except Int SV → Prop) (hK : ∀ r, SubE r (.ok (tOut Z.sv z0 (spOne q (fun x => x)))) → K r) :
    wpF tbU envVCan (wpDraw tbU envVCan) Tryz.f46 (argVCan q) K := by
  refine And.intro h (And.intro (fun h => ?_) (fun h => ?_))
  · have h : hasErr (spOne q (fun x => x)) := h
    rw [tOut_err h] at hK
    show K _
    exact hK _ ⟨rfl, Sub.refl _⟩
  · have h : ¬ hasErr (spOne q (fun x => x)) := h
    rw [tOut_ok h] at hK
    show K _
    exact hK _ ⟨rfl, Sub.refl _⟩
theorem VCan_holds (q : Y) (h : q.ok) : Holds Tryz.prog FF 46 (argVCan q) (tRes Z.sv z0 (spOne q (fun x => x))).pick := by
  rw [tRes_pick]
  exact holds_run mixed tbU_ok envVCan_ok Tryz.func46 rfl (by kernel_rfl) (args := argVCan q) (VCan_wp q h _ fun _ hr => hr) (fun _ _ _ _ _ h => h)
def decVCan : List SV → Option (Y)
  | [x, .fn k []] => match Nat.beq k 55, decY1 x with
    | true, some a => some a
    | _, _ => none
  | _ => none
theorem decVCan_sub (xs : List SV) (p : Y) (h : decVCan xs = some p) : SubL xs (argVCan p) := by
  unfold decVCan at h
  split at h
  · split at h
    · rename_i ek ha
      have ek := Nat.eq_of_beq_eq_true ek
      simp only [Option.some.injEq] at h
      subst h
      subst ek
      exact SubL.cons (decY1_sub _ _ ha) (SubL.cons (Sub.refl _) SubL.nil)
    · cases h
  · cases h
def VCanC : Con Tryz.prog FF :=
  mkConR 46 (enters_of Tryz.func46 (by kernel_rfl) rfl) decVCan argVCan (fun q => q.ok) (fun q => tRes Z.sv z0 (spOne q (fun x => x))) decVCan_sub VCan_holds
/-! ### PCan -/
noncomputable def envPCan : Env := envOf [VCanC]
theorem envPCan_ok : EnvOK Tryz.prog FF tbU envPCan := envOf_ok _
def argPCan (q : Y) : List SV := [q.sv]
theorem PCan_wp (q : Y) (h : q.ok) (K : Except Int SV → Prop) (hK : ∀ r, SubE r (.ok (tOut Z.sv z0 (spOne q (fun x => x)))) → K r) :
    wpF tbU envPCan (wpDraw tbU envPCan) Tryz.f17 (argPCan q) K := by
  refine And.intro h (And.intro (fun h => ?_) (fun h => ?_))
  · have h : hasErr (spOne q (fun x => x)) := h
    rw [tOut_err h] at hK
    show K _
    exact hK _ ⟨rfl, Sub.refl _⟩
  · have h : ¬ hasErr (spOne q (fun x => x)) := h
    rw [tOut_ok h] at hK
    show K _
    exact hK _ ⟨rfl, Sub.refl _⟩
theorem PCan_holds (q : Y) (h : q.ok) : Holds Tryz.prog FF 17 (argPCan q) (tRes Z.sv z0 (spOne q (fun x => x))).pick := by
  rw [tRes_pick]
  exact holds_run mixed tbU_ok envPCan_ok Tryz.func17 rfl (by kernel_rfl) (args := argPCan q) (PCan_wp q h _ fun _ hr => hr) (fun _ _ _ _ _ h => h)
def PCanC : Con Tryz.prog FF :=
  mkConR 17 (enters_of Tryz.func17 (by kernel_rfl) rfl) decY argPCan (fun q => q.ok) (fun q => tRes Z.sv z0 (spOne q (fun x => x))) decY_sub PCan_holds
end Iv
end Go.Proofs.YtfajgibpidlojaaGreatDoor
end

section
/- What a question to one interval comes to; its decoder. No condition. Conditions: the sizes of what comes in. -/
set_option linter.unusedVariables false
set_option linter.unusedSimpArgs false
set_option maxHeartbeats 4000000
set_option maxRecDepth 8000
namespace Go.Proofs.YtfajgibpidlojaaGreatDoor
namespace Iv
open Go Go.Proofs

/-- A question to one interval. -/
def spV {α : Type} (a : Y) (f : Ab → α) : Except Int α := if a.good = true then .ok (f a.ab) else .error 1
def decCl : List SV → Option Y
  | [x] => decC x
  | _ => none
theorem decCl_sub (xs : List SV) (p : Y) (h : decCl xs = some p) : SubL xs [.ref p.cells 0] := by
  unfold decCl at h
  split at h
  · exact SubL.cons (decC_sub _ _ h) SubL.nil
  · cases h
theorem decCl_plain {xs : List SV} {p : Y} (h : decCl xs = some p) : SV.plainL xs = true := by
  unfold decCl at h
  split at h
  · simp only [SV.plainL, SV.plain, decC_plain h, Bool.and_self]
  · cases h
end Iv
end Go.Proofs.YtfajgibpidlojaaGreatDoor
end

section
/- Contracts of the intervals' closures: IsEmpty$1, Bounded$1. Conditions: the sizes of what comes in. -/
set_option linter.unusedVariables false
set_option linter.unusedSimpArgs false
set_option maxHeartbeats 4000000
set_option maxRecDepth 8000
namespace Go.Proofs.YtfajgibpidlojaaGreatDoor
namespace Iv
open Go Go.Proofs

theorem set_vo (a : Y) : a.set.vo = Option.isNone a.ab := by
  rw [← set_ab]
  unfold Se.ab
  cases a.set.vo <;> rfl
theorem set_fi (a : Y) : (!a.set.li && !a.set.hf) = Ab.fin a.ab := by
  rw [← set_ab]
  unfold Se.ab
  cases hv : a.set.vo
  · rw [if_neg (by decide)]
    cases a.set.li <;> cases a.set.hf <;> rfl
  · rw [if_pos rfl]
    obtain ⟨lo, hi, li, hf⟩ := a
    cases li <;> cases hf <;> first | rfl | (exact absurd hv (by simp [Y.set]))
/-! ### IsEmpty$1 -/
noncomputable def envIsE : Env := envOf [sreadC, signsC]
theorem envIsE_ok : EnvOK Tryz.prog FF tbX envIsE := envOf_ok _
theorem IsE_wp (a : Y) (ha : a.ok) (K : Except Int SV → Prop) (hK : ∀ r, SubE r ((spV a Option.isNone).map (fun b => SV.bool b)) → K r) :
    wpF tbX envIsE (wpDraw tbX envIsE) Tryz.f57 [.ref a.cells 0] K := by
  unfold spV at hK
  refine And.intro ha (And.intro (fun h => ?_) (fun h => ?_))
  · have h1 : a.good = false := h
    rw [if_neg (by rw [h1]; decide)] at hK
    show K (.error 1)
    exact hK _ rfl
  have h1 : a.good = true := by
    have : ¬ a.good = false := h
    simpa only [Bool.not_eq_false] using this
  rw [if_pos h1] at hK
  rw [← set_vo] at hK
  show K _
  exact hK _ ⟨rfl, Sub.refl _⟩
theorem IsE_holds (a : Y) (h : a.ok) : Holds Tryz.prog FF 57 [.ref a.cells 0] ((spV a Option.isNone).map (fun b => SV.bool b)) :=
  holds_run mixed tbX_ok envIsE_ok Tryz.func57 rfl (by kernel_rfl) (args := [.ref a.cells 0]) (IsE_wp a h _ fun _ hr => hr) (fun _ _ _ _ _ h => h)
noncomputable def IsET : TCon Tryz.prog FF Bool (fun b => SV.bool b) where
  f := 57
  β := Y
  dec := decCl
  pre := fun q => q.ok
  res := fun q => spV q Option.isNone
  ent := enters_of Tryz.func57 (by kernel_rfl) rfl
  pl := fun xs q h => decCl_plain h
  ok := fun xs q hd hp => fun M w vs hM ha => IsE_holds q hp M w vs hM (decCl_sub xs q hd _ _ _ _ _ ha)
/-! ### Bounded$1 -/
noncomputable def envBnd : Env := envOf [sreadC, signsC]
theorem envBnd_ok : EnvOK Tryz.prog FF tbX envBnd := envOf_ok _
theorem Bnd_wp (a : Y) (ha : a.ok) (K : Except Int SV → Prop) (hK : ∀ r, SubE r ((spV a Ab.fin).map (fun b => SV.bool b)) → K r) :
    wpF tbX envBnd (wpDraw tbX envBnd) Tryz.f59 [.ref a.cells 0] K := by
  unfold spV at hK
  refine And.intro ha (And.intro (fun h => ?_) (fun h => ?_))
  · have h1 : a.good = false := h
    rw [if_neg (by rw [h1]; decide)] at hK
    show K (.error 1)
    exact hK _ rfl
  have h1 : a.good = true := by
    have : ¬ a.good = false := h
    simpa only [Bool.not_eq_false] using this
  rw [if_pos h1] at hK
  rw [← set_fi] at hK
  show wpRes _ _ (.ok a.set.sv)
  generalize a.set = s at *
  obtain ⟨lo, hi, li, hf, vo⟩ := s
  cases li <;> cases hf <;> (show K _; exact hK _ ⟨rfl, Sub.refl _⟩)
theorem Bnd_holds (a : Y) (h : a.ok) : Holds Tryz.prog FF 59 [.ref a.cells 0] ((spV a Ab.fin).map (fun b => SV.bool b)) :=
  holds_run mixed tbX_ok envBnd_ok Tryz.func59 rfl (by kernel_rfl) (args := [.ref a.cells 0]) (Bnd_wp a h _ fun _ hr => hr) (fun _ _ _ _ _ h => h)
noncomputable def BndT : TCon Tryz.prog FF Bool (fun b => SV.bool b) where
  f := 59
  β := Y
  dec := decCl
  pre := fun q => q.ok
  res := fun q => spV q Ab.fin
  ent := enters_of Tryz.func59 (by kernel_rfl) rfl
  pl := fun xs q h => decCl_plain h
  ok := fun xs q hd hp => fun M w vs hM ha => Bnd_holds q hp M w vs hM (decCl_sub xs q hd _ _ _ _ _ ha)
end Iv
end Go.Proofs.YtfajgibpidlojaaGreatDoor
end

section
/- try at bools: the deferred function in both ways, and the whole. No condition. -/
set_option linter.unusedVariables false
set_option linter.unusedSimpArgs false
set_option maxHeartbeats 4000000
set_option maxRecDepth 8000
namespace Go.Proofs.YtfajgibpidlojaaGreatDoor
namespace Iv
open Go Go.Proofs Go.RowKit

namespace TryO
def failTi : Ti := { row := true, zero := [.int .i64 0], offs := [(0, 1, false)], ik := none }
def tblT : List (TypeId × Ti) := (104, failTi) :: tblX
def tbT : Tb := { ti := tbOf tblT, u := 64, inl := fun _ => false, app := false }
theorem tbT_ok : TabOK Tryz.prog tbT := tbChk_spec (l := tblT) (by kernel_rfl)
theorem envT_ok : EnvOK Tryz.prog FF tbT env0 := ⟨fun f xs pre r h => by simp [env0] at h, fun f k h => by simp [env0] at h, fun f xs pre l h => by simp [env0] at h⟩
theorem dT_ok : DrawOK Tryz.prog tbT env0 FF (wpDraw tbT env0) := draw_ok mixed tbT_ok envT_ok

theorem assert_fail (v : Value) (w : World) : (Instr.typeAssert (.iface 104 v) 20 104 true).run Tryz.prog w = .ok (.tuple #[v, .bool true]) w := by kernel_rfl
/-- The deferred function, where nothing failed. -/
theorem idle (p q : Value) (w : World) :
    CallsD Tryz.prog 99 #[p, q] .returning w fun e u' w' => e = .returned (.tuple #[]) ∧ u' = .returning ∧ w' = w := by
  refine callsD_of_wpS Tryz.func99 rfl fun c₀ cs hu => ?_
  apply wpS_seq
  apply wpS_region
  simp [wpOpsS, go_sem, recoverD, hu, Tryz.ntmps99, Exit.thenS]
  refine wpS_of_wp ?_
  go_wp2
  cases c₀
  simp_all [bodyPostS, results, Tryz.results99]
/-- The code that takes the failure up. -/
def upC : Code → Code
  | .seq _ (.block _ (.seq _ (.cond _ _ (.seq _ (.cond _ c _))))) => c
  | c => c
noncomputable def upBody : Code := match Tryz.f99.body with | some c => upC c | none => .skip
def cs0 : List SV := [.bool false]
theorem upBody_chk : codeChk Tryz.prog tbT upBody = true := by kernel_rfl
def os0 (k : Int) : List Ob := [.var 4 cs0, .var 27 [.int .i64 k], .var 104 [.int .i64 k]]
theorem up_wp (k : Int) (Q : Ex → St → Prop) (c0 v : SV) (hQ : ∀ sl, Q .normal ⟨sl, os0 k⟩) :
    wpC tbT env0 (wpDraw tbT env0) (fun _ => False) upBody ⟨[.ptr 0 0, .ptr 1 0, .undef, .undef, .undef, .undef, .undef, .undef, .undef, .undef, .undef, .agg [.int .i64 k], .undef, .undef, .undef], [.var 4 [c0], .var 27 [v]]⟩ Q := by
  refine And.intro (by kernel_rfl) (Or.inl ?_)
  exact hQ _
theorem taken {U : Ctx tbT.u tbT.app} {Mc : Nat → Prop} {w0 w : World} {bnd : Nat → Option Value} {sl : List SV} {ac : Act} {c0 v : SV}
    (hi : Inv U Mc w0 bnd ⟨sl, [.var 4 [c0], .var 27 [v]]⟩ ac w) {p q : Value}
    (hp : Rp (Mut Mc bnd [.var 4 [c0], .var 27 [v]]) w0.heap.size bnd w (.ptr 0 0) p) (hq : Rp (Mut Mc bnd [.var 4 [c0], .var 27 [v]]) w0.heap.size bnd w (.ptr 1 0) q) (k : Int) (older : List PanicEntry) :
    CallsD Tryz.prog 99 #[p, q] (.panicking ({ v := failV FF k, recovered := false } :: older)) w fun e u' w' =>
      e = .returned (.tuple #[]) ∧ u' = .panicking ({ v := failV FF k, recovered := true } :: older) ∧ ∃ bnd', Inv U Mc w0 bnd' ⟨sl, os0 k⟩ ac w' := by
  have hv0 : ∀ x : Value, Rp (Mut Mc bnd [.var 4 [c0], .var 27 [v]]) w0.heap.size bnd w .undef x := fun _ => trivial
  refine callsD_of_wpS Tryz.func99 rfl fun c₀ cs hu => ?_
  apply wpS_seq
  apply wpS_region
  simp [wpOpsS, go_sem, recoverD, hu, Tryz.ntmps99, Exit.thenS]
  refine wpS_of_wp ?_
  refine wp_block ?_
  refine wp_seq (wp_region_list ?_)
  simp only [failV, FF]
  simp [wpList, Oper.wp, Oper.upon, go_sem, Region.wanted]
  refine Or.inl ?_
  refine wp_cond_false (by simp [Act.eval, Array.replicate]) ?_
  refine wp_seq (wp_region_list ?_)
  simp [wpList, Oper.wp, Oper.upon, go_sem, Region.wanted, assert_fail]
  refine Or.inl (Or.inl (Or.inl ?_))
  refine wp_cond_true (by simp [Act.eval, Array.replicate]) ?_
  have hf := hi.frame (xs := [.ptr 0 0, .ptr 1 0]) (vs := [p, q]) ⟨p, [q], rfl, hp, q, [], rfl, hq, rfl⟩
  have hi2 : Inv (u := tbT.u) (ap := tbT.app) ⟨sl ++ U.ks, ac.tmps.toList ++ U.kv, fun h => absurd h (by decide), []⟩ Mc w0 bnd ⟨[.ptr 0 0, .ptr 1 0, .undef, .undef, .undef, .undef, .undef, .undef, .undef, .undef, .undef, .agg [.int .i64 k], .undef, .undef, .undef], [.var 4 [c0], .var 27 [v]]⟩ 
      { tmps := #[p, q, undef, undef, undef, undef, .iface 104 (.agg #[.int .i64 k]), undef, .bool false, .tuple #[.agg #[.int .i64 k], .bool true], .bool true, .agg #[.int .i64 k], undef, undef, undef], defers := [] } w := by
    refine ⟨?_, rfl, hf.below, hf.obs, hf.dist, hf.mc, hf.keep⟩
    refine ⟨_, _, rfl, hp, _, _, rfl, hq, _, _, rfl, trivial, _, _, rfl, trivial, _, _, rfl, trivial, _, _, rfl, trivial, _, _, rfl, trivial, _, _, rfl, trivial, _, _, rfl, trivial, _, _, rfl, trivial, _, _, rfl, trivial, _, _, rfl, ⟨[.int .i64 k], rfl, _, [], rfl, rfl, rfl⟩, _, _, rfl, trivial, _, _, rfl, trivial, _, _, rfl, trivial, rfl⟩
  have hlen := hi.slots.length
  show Code.wp Tryz.prog upBody _ { tmps := #[p, q, undef, undef, undef, undef, .iface 104 (.agg #[.int .i64 k]), undef, .bool false, .tuple #[.agg #[.int .i64 k], .bool true], .bool true, .agg #[.int .i64 k], undef, undef, undef], defers := [] } w
  refine code_sound tbT_ok envT_ok dT_ok upBody (Q := fun x st => x = .normal ∧ ∃ sl', st = ⟨sl', os0 k⟩) upBody_chk ?_ ?_ hi2 (up_wp k _ c0 v fun sl' => ⟨rfl, sl', rfl⟩)
  · rintro x bnd' st' a' w' hinv ⟨rfl, sl', rfl⟩
    refine ⟨hinv.defs, _, rfl, .tuple #[], by simp [results, Tryz.results99], ?_⟩
    refine ⟨rfl, rfl, bnd', ?_⟩
    have h1 := hinv.keep.take sl.length
    have h2 := hinv.keep.drop sl.length
    dsimp only at h1 h2 hlen
    rw [List.take_left, ← hlen, List.take_left] at h1
    rw [List.drop_left, ← hlen, List.drop_left] at h2
    exact ⟨h1, hi.defs, hinv.below, hinv.obs, hinv.dist, hinv.mc, h2⟩
  · intro e a' w' h
    exact h.elim
def sl1 (f : FuncId) (caps : List SV) (x4 x5 x6 : SV) : List SV := [.fn f caps, .undef, .ptr 0 0, .ptr 1 0, x4, x5, x6]
def osv (z : Bool) (k : Int) : List Ob := [.var 4 (SV.cells ((fun b => SV.bool b) z)), .var 27 [.int .i64 k]]
theorem holds (f : FuncId) (caps : List SV) (r : Except Int Bool) (hen : Enters Tryz.prog f) (hpl : SV.plainL caps = true) (hd : Holds Tryz.prog FF f caps (r.map (fun b => SV.bool b))) :
    Holds Tryz.prog FF 56 [.fn f caps] (.ok (tOut (fun b => SV.bool b) false r)) := by
  intro M w vs hM ha
  refine calls_of_wp_defers Tryz.func56 rfl ?_
  have hi0 := Inv.start (tab := tbT) hM ha 7
  refine wp_seq ?_
  refine code_sound tbT_ok envT_ok dT_ok (E := fun _ => False) _ (Q := fun x st => x = .normal ∧ st = ⟨sl1 f caps .undef .undef .undef, [.var 4 cs0, .var 27 [.int .i64 0]]⟩) (by kernel_rfl) ?_ (fun e a' w' h => h.elim) hi0 ⟨rfl, rfl⟩
  rintro x bnd1 st1 a1 w1 hi1 ⟨rfl, rfl⟩
  refine wp_seq (wp_region_list ?_)
  refine wpList_one rfl ?_
  refine out_sound (env := env0) (E := fun _ => False) tbT_ok envT_ok hi1 _ (by kernel_rfl) (Q := fun st => st = ⟨sl1 f caps (.fn 99 [.ptr 0 0, .ptr 1 0]) .undef .undef, [.var 4 cs0, .var 27 [.int .i64 0]]⟩) rfl ?_ (fun e _ _ h => h.elim)
  rintro bnd2 st2 a2 w2 hi2 _ rfl
  refine wpList_one rfl ?_
  obtain ⟨vs4, e4, p, _, rfl, hp, q, _, rfl, hq, rfl⟩ := hi2.slots.getD 4 undef
  have e4' : a2.tmps.getD 4 undef = .func (.func 99) #[] #[p, q] := by simpa using e4
  have hdef : ∀ (o : Oper), o.op = .defer { callee := .value (.tmp 4), args := #[], argTypes := #[] } → (execOp a2.eval o).run Tryz.prog w2 = .ok (.defer { target := .fn (.func 99) #[p, q], args := #[] }) w2 := by
    intro o ho
    obtain ⟨_, _, _, _, _, _⟩ := o
    subst ho
    simp [execOp, Act.eval, e4', go_sem]
  unfold Oper.wp
  rw [hdef _ rfl]
  have hd2 := hi2.defs
  have hi3 := hi2.defer [{ target := .fn (.func 99) #[p, q], args := #[] }]
  obtain ⟨tm, df⟩ := a2
  dsimp only at hd2
  subst hd2
  show Code.wp _ _ _ { tmps := tm, defers := [{ target := .fn (.func 99) #[p, q], args := #[] }] } w2
  refine wp_seq (wp_region_list ?_)
  refine wpList_one rfl ?_
  refine out_sound (env := env0) (E := fun _ => False) tbT_ok envT_ok hi3 _ (by kernel_rfl) (Q := fun st => st = ⟨sl1 f caps (.fn 99 [.ptr 0 0, .ptr 1 0]) (.fn f caps) .undef, [.var 4 cs0, .var 27 [.int .i64 0]]⟩) rfl ?_ (fun e _ _ h => h.elim)
  rintro bnd5 st5 a5 w5 hi5 hb5 rfl
  obtain rfl := hb5 rfl
  refine wpList_one rfl ?_
  refine call_keep hi5 _ (f := f) (xs := caps) (by simp [opSem, St.ev, sl1, tbT, expoL_plain _ _ hpl]) hen hd ?_ ?_
  · intro x v w6 hr hcl hi6
    cases r with
    | error k => cases hr
    | ok z =>
      obtain rfl : x = (fun b => SV.bool b) z := by cases hr; rfl
      refine opsT_sound (env := env0) (E := fun _ => False) tbT_ok envT_ok (Q := fun st => st = ⟨sl1 f caps (.fn 99 [.ptr 0 0, .ptr 1 0]) (.fn f caps) ((fun b => SV.bool b) z), osv z 0⟩) ?_ (fun _ _ _ h => h.elim) _ _ _ _ _ (by intro o ho; simp only [List.mem_cons, List.not_mem_nil, or_false] at ho; rcases ho with rfl | rfl <;> kernel_rfl) hi6 rfl
      rintro bnd7 st7 a7 w7 hi7 rfl
      show Code.wp _ Code.ret _ a7 w7
      refine wp_ret ?_
      have hd7 := hi7.defs
      show Leaves _ _ a7.tmps _ a7.defers .returning w7
      rw [hd7]
      refine leaves_cons (f := 99) (args := #[p, q]) (by simp) (by simp [go_sem]) ?_
      refine (idle p q w7).mono ?_
      rintro e u' w8 ⟨rfl, rfl, rfl⟩
      exact door_end tbT_ok hi7 rfl rfl ⟨rfl, Sub.refl _⟩
  · intro k w6 hr hi6
    cases r with
    | ok z => cases hr
    | error k' =>
      obtain rfl : k' = k := by cases hr; rfl
      have hd6 := hi6.defs
      show Leaves _ _ a5.tmps _ a5.defers (.panicking _) w6
      rw [hd6]
      refine leaves_cons (f := 99) (args := #[p, q]) (by simp) (by simp [go_sem]) ?_
      refine (taken hi6 hp hq k' []).mono ?_
      rintro e u' w8 ⟨rfl, rfl, bnd8, hi8⟩
      show Leaves _ _ _ _ [] .returning w8
      exact door_end tbT_ok hi8 rfl rfl ⟨rfl, Sub.refl _⟩
theorem enters : Enters Tryz.prog 56 := enters_of Tryz.func56 (by kernel_rfl) rfl
/-- The contract of try at a function value. -/
noncomputable def con (t : TCon Tryz.prog FF Bool (fun b => SV.bool b)) : Con Tryz.prog FF := mkTry 56 enters false holds t
end TryO
end Iv
end Go.Proofs.YtfajgibpidlojaaGreatDoor
end

section
/- The exported functions IsEmpty and Bounded. Conditions: the sizes of what comes in. -/
set_option linter.unusedVariables false
set_option linter.unusedSimpArgs false
set_option maxHeartbeats 4000000
set_option maxRecDepth 8000
namespace Go.Proofs.YtfajgibpidlojaaGreatDoor
namespace Iv
open Go Go.Proofs

/-! ### PIsE -/
noncomputable def envPIsE : Env := envOf [TryO.con IsET]
theorem envPIsE_ok : EnvOK Tryz.prog FF tbX envPIsE := envOf_ok _
def argPIsE (q : Y) : List SV := [q.sv]
theorem PIsE_wp (q : Y) (h : q.ok) (K : Except Int SV → Prop) (hK : ∀ r, SubE r (.ok (tOut (fun b => SV.bool b) false (spV q Option.isNone))) → K r) :
    wpF tbX envPIsE (wpDraw tbX envPIsE) Tryz.f19 (argPIsE q) K := by
  refine And.intro h (And.intro (fun h => ?_) (fun h => ?_))
  · have h : hasErr (spV q Option.isNone) := h
    rw [tOut_err h] at hK
    show K _
    exact hK _ ⟨rfl, Sub.refl _⟩
  · have h : ¬ hasErr (spV q Option.isNone) := h
    rw [tOut_ok h] at hK
    show K _
    exact hK _ ⟨rfl, Sub.refl _⟩
theorem PIsE_holds (q : Y) (h : q.ok) : Holds Tryz.prog FF 19 (argPIsE q) (tRes (fun b => SV.bool b) false (spV q Option.isNone)).pick := by
  rw [tRes_pick]
  exact holds_run mixed tbX_ok envPIsE_ok Tryz.func19 rfl (by kernel_rfl) (args := argPIsE q) (PIsE_wp q h _ fun _ hr => hr) (fun _ _ _ _ _ h => h)
def PIsEC : Con Tryz.prog FF :=
  mkConR 19 (enters_of Tryz.func19 (by kernel_rfl) rfl) decY argPIsE (fun q => q.ok) (fun q => tRes (fun b => SV.bool b) false (spV q Option.isNone)) decY_sub PIsE_holds
/-! ### PBnd -/
noncomputable def envPBnd : Env := envOf [TryO.con BndT]
theorem envPBnd_ok : EnvOK Tryz.prog FF tbX envPBnd := envOf_ok _
def argPBnd (q : Y) : List SV := [q.sv]
theorem PBnd_wp (q : Y) (h : q.ok) (K : Except Int SV → Prop) (hK : ∀ r, SubE r (.ok (tOut (fun b => SV.bool b) false (spV q Ab.fin))) → K r) :
    wpF tbX envPBnd (wpDraw tbX envPBnd) Tryz.f21 (argPBnd q) K := by
  refine And.intro h (And.intro (fun h => ?_) (fun h => ?_))
  · have h : hasErr (spV q Ab.fin) := h
    rw [tOut_err h] at hK
    show K _
    exact hK _ ⟨rfl, Sub.refl _⟩
  · have h : ¬ hasErr (spV q Ab.fin) := h
    rw [tOut_ok h] at hK
    show K _
    exact hK _ ⟨rfl, Sub.refl _⟩
theorem PBnd_holds (q : Y) (h : q.ok) : Holds Tryz.prog FF 21 (argPBnd q) (tRes (fun b => SV.bool b) false (spV q Ab.fin)).pick := by
  rw [tRes_pick]
  exact holds_run mixed tbX_ok envPBnd_ok Tryz.func21 rfl (by kernel_rfl) (args := argPBnd q) (PBnd_wp q h _ fun _ hr => hr) (fun _ _ _ _ _ h => h)
def PBndC : Con Tryz.prog FF :=
  mkConR 21 (enters_of Tryz.func21 (by kernel_rfl) rfl) decY argPBnd (fun q => q.ok) (fun q => tRes (fun b => SV.bool b) false (spV q Ab.fin)) decY_sub PBnd_holds
end Iv
end Go.Proofs.YtfajgibpidlojaaGreatDoor
end

section
/- Contracts of the intervals' closures: Sign$1. Conditions: the sizes of what comes in. -/
set_option linter.unusedVariables false
set_option linter.unusedSimpArgs false
set_option maxHeartbeats 4000000
set_option maxRecDepth 8000
namespace Go.Proofs.YtfajgibpidlojaaGreatDoor
namespace Iv
open Go Go.Proofs

/-! ### Sign$1 -/
noncomputable def envSgn1 : Env := envOf [sreadC, signsC]
theorem envSgn1_ok : EnvOK Tryz.prog FF tbX envSgn1 := envOf_ok _
theorem Sgn1_wp (a : Y) (ha : a.ok) (K : Except Int SV → Prop) (hK : ∀ r, SubE r ((spV a Ab.sign).map (fun n => SV.int .i64 n)) → K r) :
    wpF tbX envSgn1 (wpDraw tbX envSgn1) Tryz.f62 [.ref a.cells 0] K := by
  unfold spV at hK
  refine And.intro ha (And.intro (fun h => ?_) (fun h => ?_))
  · have h1 : a.good = false := h
    rw [if_neg (by rw [h1]; decide)] at hK
    show K (.error 1)
    exact hK _ rfl
  have h1 : a.good = true := by
    have : ¬ a.good = false := h
    simpa only [Bool.not_eq_false] using this
  rw [if_pos h1] at hK
  have hk : a.set.okk := fun _ => (set_sm _ h1).fin
  have es := sl_sg a.set hk
  rw [← set_ab] at hK
  show wpRes _ _ (.ok a.set.sv)
  generalize a.set = s at *
  refine And.intro trivial ?_
  show wpRes _ _ (.ok (.tup [.int .i64 s.sl, .int .i64 s.sh]))
  have ha' : s.ab = if s.vo then none else some (enF s.li s.lo, enF s.hf s.hi) := rfl
  have hK : ∀ r, SubE r (.ok (.int .i64 s.ab.sign)) → K r := hK
  rw [ha'] at hK
  clear ha' hk
  cases hv : s.vo
  · obtain ⟨e1, e2⟩ := es hv
    rw [hv, if_neg (by decide)] at hK
    have hK : ∀ r, SubE r (.ok (.int .i64 (if sgL (enF s.li s.lo) > 0 then 2 else if sgH (enF s.hf s.hi) < 0 then -2 else if sgL (enF s.li s.lo) = 0 ∧ sgH (enF s.hf s.hi) = 0 then 0 else if sgL (enF s.li s.lo) = 0 then 1 else if sgH (enF s.hf s.hi) = 0 then -1 else 3))) → K r := hK
    rw [← e1, ← e2] at hK
    generalize s.sl = l at *
    generalize s.sh = g at *
    refine ifB_mk (fun h => ?_) (fun h => ?_)
    · have c : l > 0 := of_decide_eq_true h
      rw [if_pos c] at hK
      show K _
      exact hK _ ⟨rfl, Sub.refl _⟩
    · have c : ¬ l > 0 := of_decide_eq_false h
      rw [if_neg c] at hK
      clear h
      refine ifB_mk (fun h => ?_) (fun h => ?_)
      · have c : g < 0 := @of_decide_eq_true _ (Classical.propDecidable _) h
        rw [if_pos c] at hK
        show K _
        exact hK _ ⟨rfl, Sub.refl _⟩
      · have c : ¬ g < 0 := @of_decide_eq_false _ (Classical.propDecidable _) h
        rw [if_neg c] at hK
        clear h
        by_cases cl : l = 0
        · subst cl
          by_cases cg : g = 0
          · subst cg
            rw [if_pos ⟨rfl, rfl⟩] at hK
            show K _
            exact hK _ ⟨rfl, Sub.refl _⟩
          · rw [if_neg (fun k => cg k.2), if_pos rfl] at hK
            have hb : (g == 0) = false := by simpa using cg
            refine ifB_mk (fun h => ?_) (fun h => ?_)
            · exact absurd (show (g == 0) = true from h) (by rw [hb]; decide)
            · show K _
              exact hK _ ⟨rfl, Sub.refl _⟩
        · rw [if_neg (fun k => cl k.1), if_neg cl] at hK
          have hb : (l == 0) = false := by simpa using cl
          refine ifB_mk (fun h => ?_) (fun h => ?_)
          · exact absurd (show (l == 0) = true from h) (by rw [hb]; decide)
          · refine ifB_mk (fun h2 => ?_) (fun h2 => ?_)
            · exact absurd (show (l == 0) = true from h2) (by rw [hb]; decide)
            · by_cases cg : g = 0
              · subst cg
                rw [if_pos rfl] at hK
                show K _
                exact hK _ ⟨rfl, Sub.refl _⟩
              · have hb' : (g == 0) = false := by simpa using cg
                rw [if_neg cg] at hK
                refine ifB_mk (fun h3 => ?_) (fun h3 => ?_)
                · exact absurd (show (g == 0) = true from h3) (by rw [hb']; decide)
                · show K _
                  exact hK _ ⟨rfl, Sub.refl _⟩
  · rw [hv, if_pos rfl] at hK
    show K _
    exact hK _ ⟨rfl, Sub.refl _⟩
theorem Sgn1_holds (a : Y) (h : a.ok) : Holds Tryz.prog FF 62 [.ref a.cells 0] ((spV a Ab.sign).map (fun n => SV.int .i64 n)) :=
  holds_run mixed tbX_ok envSgn1_ok Tryz.func62 rfl (by kernel_rfl) (args := [.ref a.cells 0]) (Sgn1_wp a h _ fun _ hr => hr) (fun _ _ _ _ _ h => h)
noncomputable def Sgn1T : TCon Tryz.prog FF Int (fun n => SV.int .i64 n) where
  f := 62
  β := Y
  dec := decCl
  pre := fun q => q.ok
  res := fun q => spV q Ab.sign
  ent := enters_of Tryz.func62 (by kernel_rfl) rfl
  pl := fun xs q h => decCl_plain h
  ok := fun xs q hd hp => fun M w vs hM ha => Sgn1_holds q hp M w vs hM (decCl_sub xs q hd _ _ _ _ _ ha)
end Iv
end Go.Proofs.YtfajgibpidlojaaGreatDoor
end

section
/- try at ints: the deferred function in both ways, and the whole. No condition. -/
set_option linter.unusedVariables false
set_option linter.unusedSimpArgs false
set_option maxHeartbeats 4000000
set_option maxRecDepth 8000
namespace Go.Proofs.YtfajgibpidlojaaGreatDoor
namespace Iv
open Go Go.Proofs Go.RowKit

namespace TryN
def failTi : Ti := { row := true, zero := [.int .i64 0], offs := [(0, 1, false)], ik := none }
def tblT : List (TypeId × Ti) := (104, failTi) :: tblX
def tbT : Tb := { ti := tbOf tblT, u := 64, inl := fun _ => false, app := false }
theorem tbT_ok : TabOK Tryz.prog tbT := tbChk_spec (l := tblT) (by kernel_rfl)
theorem envT_ok : EnvOK Tryz.prog FF tbT env0 := ⟨fun f xs pre r h => by simp [env0] at h, fun f k h => by simp [env0] at h, fun f xs pre l h => by simp [env0] at h⟩
theorem dT_ok : DrawOK Tryz.prog tbT env0 FF (wpDraw tbT env0) := draw_ok mixed tbT_ok envT_ok

theorem assert_fail (v : Value) (w : World) : (Instr.typeAssert (.iface 104 v) 20 104 true).run Tryz.prog w = .ok (.tuple #[v, .bool true]) w := by kernel_rfl
/-- The deferred function, where nothing failed. -/
theorem idle (p q : Value) (w : World) :
    CallsD Tryz.prog 101 #[p, q] .returning w fun e u' w' => e = .returned (.tuple #[]) ∧ u' = .returning ∧ w' = w := by
  refine callsD_of_wpS Tryz.func101 rfl fun c₀ cs hu => ?_
  apply wpS_seq
  apply wpS_region
  simp [wpOpsS, go_sem, recoverD, hu, Tryz.ntmps101, Exit.thenS]
  refine wpS_of_wp ?_
  go_wp2
  cases c₀
  simp_all [bodyPostS, results, Tryz.results101]
/-- The code that takes the failure up. -/
def upC : Code → Code
  | .seq _ (.block _ (.seq _ (.cond _ _ (.seq _ (.cond _ c _))))) => c
  | c => c
noncomputable def upBody : Code := match Tryz.f101.body with | some c => upC c | none => .skip
def cs0 : List SV := [.int .i64 0]
theorem upBody_chk : codeChk Tryz.prog tbT upBody = true := by kernel_rfl
def os0 (k : Int) : List Ob := [.var 3 cs0, .var 27 [.int .i64 k], .var 104 [.int .i64 k]]
theorem up_wp (k : Int) (Q : Ex → St → Prop) (c0 v : SV) (hQ : ∀ sl, Q .normal ⟨sl, os0 k⟩) :
    wpC tbT env0 (wpDraw tbT env0) (fun _ => False) upBody ⟨[.ptr 0 0, .ptr 1 0, .undef, .undef, .undef, .undef, .undef, .undef, .undef, .undef, .undef, .agg [.int .i64 k], .undef, .undef, .undef], [.var 3 [c0], .var 27 [v]]⟩ Q := by
  refine And.intro (by kernel_rfl) (Or.inl ?_)
  exact hQ _
theorem taken {U : Ctx tbT.u tbT.app} {Mc : Nat → Prop} {w0 w : World} {bnd : Nat → Option Value} {sl : List SV} {ac : Act} {c0 v : SV}
    (hi : Inv U Mc w0 bnd ⟨sl, [.var 3 [c0], .var 27 [v]]⟩ ac w) {p q : Value}
    (hp : Rp (Mut Mc bnd [.var 3 [c0], .var 27 [v]]) w0.heap.size bnd w (.ptr 0 0) p) (hq : Rp (Mut Mc bnd [.var 3 [c0], .var 27 [v]]) w0.heap.size bnd w (.ptr 1 0) q) (k : Int) (older : List PanicEntry) :
    CallsD Tryz.prog 101 #[p, q] (.panicking ({ v := failV FF k, recovered := false } :: older)) w fun e u' w' =>
      e = .returned (.tuple #[]) ∧ u' = .panicking ({ v := failV FF k, recovered := true } :: older) ∧ ∃ bnd', Inv U Mc w0 bnd' ⟨sl, os0 k⟩ ac w' := by
  have hv0 : ∀ x : Value, Rp (Mut Mc bnd [.var 3 [c0], .var 27 [v]]) w0.heap.size bnd w .undef x := fun _ => trivial
  refine callsD_of_wpS Tryz.func101 rfl fun c₀ cs hu => ?_
  apply wpS_seq
  apply wpS_region
  simp [wpOpsS, go_sem, recoverD, hu, Tryz.ntmps101, Exit.thenS]
  refine wpS_of_wp ?_
  refine wp_block ?_
  refine wp_seq (wp_region_list ?_)
  simp only [failV, FF]
  simp [wpList, Oper.wp, Oper.upon, go_sem, Region.wanted]
  refine Or.inl ?_
  refine wp_cond_false (by simp [Act.eval, Array.replicate]) ?_
  refine wp_seq (wp_region_list ?_)
  simp [wpList, Oper.wp, Oper.upon, go_sem, Region.wanted, assert_fail]
  refine Or.inl (Or.inl (Or.inl ?_))
  refine wp_cond_true (by simp [Act.eval, Array.replicate]) ?_
  have hf := hi.frame (xs := [.ptr 0 0, .ptr 1 0]) (vs := [p, q]) ⟨p, [q], rfl, hp, q, [], rfl, hq, rfl⟩
  have hi2 : Inv (u := tbT.u) (ap := tbT.app) ⟨sl ++ U.ks, ac.tmps.toList ++ U.kv, fun h => absurd h (by decide), []⟩ Mc w0 bnd ⟨[.ptr 0 0, .ptr 1 0, .undef, .undef, .undef, .undef, .undef, .undef, .undef, .undef, .undef, .agg [.int .i64 k], .undef, .undef, .undef], [.var 3 [c0], .var 27 [v]]⟩ 
      { tmps := #[p, q, undef, undef, undef, undef, .iface 104 (.agg #[.int .i64 k]), undef, .bool false, .tuple #[.agg #[.int .i64 k], .bool true], .bool true, .agg #[.int .i64 k], undef, undef, undef], defers := [] } w := by
    refine ⟨?_, rfl, hf.below, hf.obs, hf.dist, hf.mc, hf.keep⟩
    refine ⟨_, _, rfl, hp, _, _, rfl, hq, _, _, rfl, trivial, _, _, rfl, trivial, _, _, rfl, trivial, _, _, rfl, trivial, _, _, rfl, trivial, _, _, rfl, trivial, _, _, rfl, trivial, _, _, rfl, trivial, _, _, rfl, trivial, _, _, rfl, ⟨[.int .i64 k], rfl, _, [], rfl, rfl, rfl⟩, _, _, rfl, trivial, _, _, rfl, trivial, _, _, rfl, trivial, rfl⟩
  have hlen := hi.slots.length
  show Code.wp Tryz.prog upBody _ { tmps := #[p, q, undef, undef, undef, undef, .iface 104 (.agg #[.int .i64 k]), undef, .bool false, .tuple #[.agg #[.int .i64 k], .bool true], .bool true, .agg #[.int .i64 k], undef, undef, undef], defers := [] } w
  refine code_sound tbT_ok envT_ok dT_ok upBody (Q := fun x st => x = .normal ∧ ∃ sl', st = ⟨sl', os0 k⟩) upBody_chk ?_ ?_ hi2 (up_wp k _ c0 v fun sl' => ⟨rfl, sl', rfl⟩)
  · rintro x bnd' st' a' w' hinv ⟨rfl, sl', rfl⟩
    refine ⟨hinv.defs, _, rfl, .tuple #[], by simp [results, Tryz.results101], ?_⟩
    refine ⟨rfl, rfl, bnd', ?_⟩
    have h1 := hinv.keep.take sl.length
    have h2 := hinv.keep.drop sl.length
    dsimp only at h1 h2 hlen
    rw [List.take_left, ← hlen, List.take_left] at h1
    rw [List.drop_left, ← hlen, List.drop_left] at h2
    exact ⟨h1, hi.defs, hinv.below, hinv.obs, hinv.dist, hinv.mc, h2⟩
  · intro e a' w' h
    exact h.elim
def sl1 (f : FuncId) (caps : List SV) (x4 x5 x6 : SV) : List SV := [.fn f caps, .undef, .ptr 0 0, .ptr 1 0, x4, x5, x6]
def osv (z : Int) (k : Int) : List Ob := [.var 3 (SV.cells ((fun n => SV.int .i64 n) z)), .var 27 [.int .i64 k]]
theorem holds (f : FuncId) (caps : List SV) (r : Except Int Int) (hen : Enters Tryz.prog f) (hpl : SV.plainL caps = true) (hd : Holds Tryz.prog FF f caps (r.map (fun n => SV.int .i64 n))) :
    Holds Tryz.prog FF 61 [.fn f caps] (.ok (tOut (fun n => SV.int .i64 n) 0 r)) := by
  intro M w vs hM ha
  refine calls_of_wp_defers Tryz.func61 rfl ?_
  have hi0 := Inv.start (tab := tbT) hM ha 7
  refine wp_seq ?_
  refine code_sound tbT_ok envT_ok dT_ok (E := fun _ => False) _ (Q := fun x st => x = .normal ∧ st = ⟨sl1 f caps .undef .undef .undef, [.var 3 cs0, .var 27 [.int .i64 0]]⟩) (by kernel_rfl) ?_ (fun e a' w' h => h.elim) hi0 ⟨rfl, rfl⟩
  rintro x bnd1 st1 a1 w1 hi1 ⟨rfl, rfl⟩
  refine wp_seq (wp_region_list ?_)
  refine wpList_one rfl ?_
  refine out_sound (env := env0) (E := fun _ => False) tbT_ok envT_ok hi1 _ (by kernel_rfl) (Q := fun st => st = ⟨sl1 f caps (.fn 101 [.ptr 0 0, .ptr 1 0]) .undef .undef, [.var 3 cs0, .var 27 [.int .i64 0]]⟩) rfl ?_ (fun e _ _ h => h.elim)
  rintro bnd2 st2 a2 w2 hi2 _ rfl
  refine wpList_one rfl ?_
  obtain ⟨vs4, e4, p, _, rfl, hp, q, _, rfl, hq, rfl⟩ := hi2.slots.getD 4 undef
  have e4' : a2.tmps.getD 4 undef = .func (.func 101) #[] #[p, q] := by simpa using e4
  have hdef : ∀ (o : Oper), o.op = .defer { callee := .value (.tmp 4), args := #[], argTypes := #[] } → (execOp a2.eval o).run Tryz.prog w2 = .ok (.defer { target := .fn (.func 101) #[p, q], args := #[] }) w2 := by
    intro o ho
    obtain ⟨_, _, _, _, _, _⟩ := o
    subst ho
    simp [execOp, Act.eval, e4', go_sem]
  unfold Oper.wp
  rw [hdef _ rfl]
  have hd2 := hi2.defs
  have hi3 := hi2.defer [{ target := .fn (.func 101) #[p, q], args := #[] }]
  obtain ⟨tm, df⟩ := a2
  dsimp only at hd2
  subst hd2
  show Code.wp _ _ _ { tmps := tm, defers := [{ target := .fn (.func 101) #[p, q], args := #[] }] } w2
  refine wp_seq (wp_region_list ?_)
  refine wpList_one rfl ?_
  refine out_sound (env := env0) (E := fun _ => False) tbT_ok envT_ok hi3 _ (by kernel_rfl) (Q := fun st => st = ⟨sl1 f caps (.fn 101 [.ptr 0 0, .ptr 1 0]) (.fn f caps) .undef, [.var 3 cs0, .var 27 [.int .i64 0]]⟩) rfl ?_ (fun e _ _ h => h.elim)
  rintro bnd5 st5 a5 w5 hi5 hb5 rfl
  obtain rfl := hb5 rfl
  refine wpList_one rfl ?_
  refine call_keep hi5 _ (f := f) (xs := caps) (by simp [opSem, St.ev, sl1, tbT, expoL_plain _ _ hpl]) hen hd ?_ ?_
  · intro x v w6 hr hcl hi6
    cases r with
    | error k => cases hr
    | ok z =>
      obtain rfl : x = (fun n => SV.int .i64 n) z := by cases hr; rfl
      refine opsT_sound (env := env0) (E := fun _ => False) tbT_ok envT_ok (Q := fun st => st = ⟨sl1 f caps (.fn 101 [.ptr 0 0, .ptr 1 0]) (.fn f caps) ((fun n => SV.int .i64 n) z), osv z 0⟩) ?_ (fun _ _ _ h => h.elim) _ _ _ _ _ (by intro o ho; simp only [List.mem_cons, List.not_mem_nil, or_false] at ho; rcases ho with rfl | rfl <;> kernel_rfl) hi6 rfl
      rintro bnd7 st7 a7 w7 hi7 rfl
      show Code.wp _ Code.ret _ a7 w7
      refine wp_ret ?_
      have hd7 := hi7.defs
      show Leaves _ _ a7.tmps _ a7.defers .returning w7
      rw [hd7]
      refine leaves_cons (f := 101) (args := #[p, q]) (by simp) (by simp [go_sem]) ?_
      refine (idle p q w7).mono ?_
      rintro e u' w8 ⟨rfl, rfl, rfl⟩
      exact door_end tbT_ok hi7 rfl rfl ⟨rfl, Sub.refl _⟩
  · intro k w6 hr hi6
    cases r with
    | ok z => cases hr
    | error k' =>
      obtain rfl : k' = k := by cases hr; rfl
      have hd6 := hi6.defs
      show Leaves _ _ a5.tmps _ a5.defers (.panicking _) w6
      rw [hd6]
      refine leaves_cons (f := 101) (args := #[p, q]) (by simp) (by simp [go_sem]) ?_
      refine (taken hi6 hp hq k' []).mono ?_
      rintro e u' w8 ⟨rfl, rfl, bnd8, hi8⟩
      show Leaves _ _ _ _ [] .returning w8
      exact door_end tbT_ok hi8 rfl rfl ⟨rfl, Sub.refl _⟩
theorem enters : Enters Tryz.prog 61 := enters_of Tryz.func61 (by kernel_rfl) rfl
/-- The contract of try at a function value. -/
noncomputable def con (t : TCon Tryz.prog FF Int (fun n => SV.int .i64 n)) : Con Tryz.prog FF := mkTry 61 enters 0 holds t
end TryN
end Iv
end Go.Proofs.YtfajgibpidlojaaGreatDoor
end

section
/- The exported function Sign. Conditions: the sizes of what comes in. -/
set_option linter.unusedVariables false
set_option linter.unusedSimpArgs false
set_option maxHeartbeats 4000000
set_option maxRecDepth 8000
namespace Go.Proofs.YtfajgibpidlojaaGreatDoor
namespace Iv
open Go Go.Proofs

/-! ### PSgn -/
noncomputable def envPSgn : Env := envOf [TryN.con Sgn1T]
theorem envPSgn_ok : EnvOK Tryz.prog FF tbX envPSgn := envOf_ok _
def argPSgn (q : Y) : List SV := [q.sv]
theorem PSgn_wp (q : Y) (h : q.ok) (K : Except Int SV → Prop) (hK : ∀ r, SubE r (.ok (tOut (fun n => SV.int .i64 n) 0 (spV q Ab.sign))) → K r) :
    wpF tbX envPSgn (wpDraw tbX envPSgn) Tryz.f23 (argPSgn q) K := by
  refine And.intro h (And.intro (fun h => ?_) (fun h => ?_))
  · have h : hasErr (spV q Ab.sign) := h
    rw [tOut_err h] at hK
    show K _
    exact hK _ ⟨rfl, Sub.refl _⟩
  · have h : ¬ hasErr (spV q Ab.sign) := h
    rw [tOut_ok h] at hK
    show K _
    exact hK _ ⟨rfl, Sub.refl _⟩
theorem PSgn_holds (q : Y) (h : q.ok) : Holds Tryz.prog FF 23 (argPSgn q) (tRes (fun n => SV.int .i64 n) 0 (spV q Ab.sign)).pick := by
  rw [tRes_pick]
  exact holds_run mixed tbX_ok envPSgn_ok Tryz.func23 rfl (by kernel_rfl) (args := argPSgn q) (PSgn_wp q h _ fun _ hr => hr) (fun _ _ _ _ _ h => h)
def PSgnC : Con Tryz.prog FF :=
  mkConR 23 (enters_of Tryz.func23 (by kernel_rfl) rfl) decY argPSgn (fun q => q.ok) (fun q => tRes (fun n => SV.int .i64 n) 0 (spV q Ab.sign)) decY_sub PSgn_holds
end Iv
end Go.Proofs.YtfajgibpidlojaaGreatDoor
end

section
/- Contracts of the reference's intervals: the layer's Canon. Conditions: the sizes of what comes in. -/
set_option linter.unusedVariables false
set_option linter.unusedSimpArgs false
set_option maxHeartbeats 4000000
set_option maxRecDepth 8000
namespace Go.Proofs.YtfajgibpidlojaaGreatDoor
namespace Iv
open Go Go.Proofs

/-! ### RCan -/
noncomputable def envRCan (F : TypeId) : Env := envOf [oneIC F, apiC F]
theorem envRCan_ok (F : TypeId) : EnvOK Tryz.prog F tbX (envRCan F) := envOf_ok _
theorem RCan_wp (F : TypeId) (a : Y) (ha : a.ok) (K : Except Int SV → Prop) (hK : ∀ r, SubE r (.ok (sOut (spOne a (fun x => x)))) → K r) :
    wpF tbX (envRCan F) (wpDraw tbX (envRCan F)) Tryz.f18 [a.sv] K := by
  unfold spOne at hK
  refine And.intro ha (And.intro (fun h => ?_) (fun h => And.intro (fun h2 => ?_) (fun h2 => ?_)))
  · have h1 : a.good = false := h
    rw [if_neg (by rw [h1]; decide)] at hK
    show K _
    exact hK _ ⟨rfl, Sub.tup (SubL.cons (Sub.agg (SubN3 (SubN3 (SubR _)))) (SubR _))⟩
  · exact absurd (show pOk 0 = false from h2) (by decide)
  have h1 : a.good = true := by
    have : ¬ a.good = false := h
    simpa only [Bool.not_eq_false] using this
  rw [if_pos h1] at hK
  have i1 := rset_inv a ha
  have i2 := rset_ab a
  have hf : ((fun x => x) a.ab).fits = true := ab_fits a h1
  rw [outA_fits hf] at hK
  rw [← i2] at hK hf
  show wpRes _ _ (.ok (.tup [a.rset.rv, .int .i64 0]))
  have i0 := rset_smq a ha h1
  have iw : a.rset.abq.wf := by rw [rset_ab]; exact sp_wf _ _
  clear h h2 i2
  generalize a.rset = s at *
  refine And.intro i1 ?_
  show K (.ok (.tup [(cz s.abq).sv, .int .i64 0]))
  exact hK _ ⟨rfl, Sub.refl _⟩
theorem RCan_holds (F : TypeId) (a : Y) (h : a.ok) : Holds Tryz.prog F 18 [a.sv] (tRes Z.sv z0 (spOne a (fun x => x))).pick := by
  rw [tRes_pick]
  exact holds_run mixed tbX_ok (envRCan_ok F) Tryz.func18 rfl (by kernel_rfl) (args := [a.sv]) (RCan_wp F a h _ fun _ hr => hr) (fun _ _ _ _ _ h => h)
def RCanC (F : TypeId) : Con Tryz.prog F :=
  mkConR 18 (enters_of Tryz.func18 (by kernel_rfl) rfl) decY (fun q => [q.sv]) (fun q => q.ok) (fun q => tRes Z.sv z0 (spOne q (fun x => x))) decY_sub (RCan_holds F)
end Iv
end Go.Proofs.YtfajgibpidlojaaGreatDoor
end

section
/- Contracts of the reference's intervals: the empty set's ends. No condition. Conditions: the sizes of what comes in. -/
set_option linter.unusedVariables false
set_option linter.unusedSimpArgs false
set_option maxHeartbeats 4000000
set_option maxRecDepth 8000
namespace Go.Proofs.YtfajgibpidlojaaGreatDoor
namespace Iv
open Go Go.Proofs

/-- The empty set's ends are finite. -/
theorem rset_vo (y : Y) : y.rset.vo = true → y.rset.li = false ∧ y.rset.hf = false := by
  intro h
  unfold Y.rset at h ⊢
  split
  · exact ⟨rfl, rfl⟩
  · rename_i c
    rw [if_neg c] at h
    cases h
end Iv
end Go.Proofs.YtfajgibpidlojaaGreatDoor
end

section
/- Contracts of the reference's intervals: Finite, the layer's IsEmpty and Bounded. Conditions: the sizes of what comes in. -/
set_option linter.unusedVariables false
set_option linter.unusedSimpArgs false
set_option maxHeartbeats 4000000
set_option maxRecDepth 8000
namespace Go.Proofs.YtfajgibpidlojaaGreatDoor
namespace Iv
open Go Go.Proofs

/-! ### the layer's RIsE -/
noncomputable def envRIsE (F : TypeId) : Env := envOf [oneIC F]
theorem envRIsE_ok (F : TypeId) : EnvOK Tryz.prog F tbX (envRIsE F) := envOf_ok _
theorem RIsE_wp (F : TypeId) (a : Y) (ha : a.ok) (K : Except Int SV → Prop) (hK : ∀ r, SubE r (.ok (tOut (fun b => SV.bool b) false (spV a Option.isNone))) → K r) :
    wpF tbX (envRIsE F) (wpDraw tbX (envRIsE F)) Tryz.f20 [a.sv] K := by
  unfold spV at hK
  refine And.intro ha (And.intro (fun h => ?_) (fun h => And.intro (fun h2 => ?_) (fun h2 => ?_)))
  · have h1 : a.good = false := h
    rw [if_neg (by rw [h1]; decide)] at hK
    show K _
    exact hK _ ⟨rfl, Sub.refl _⟩
  · exact absurd (show pOk 0 = false from h2) (by decide)
  have h1 : a.good = true := by
    have : ¬ a.good = false := h
    simpa only [Bool.not_eq_false] using this
  rw [if_pos h1, ← rset_ab a] at hK
  have i1 := rset_inv a ha
  have iw : a.rset.abq.wf := by rw [rset_ab]; exact sp_wf _ _
  have iv := rset_vo a
  show wpRes _ _ (.ok (.tup [a.rset.rv, .int .i64 0]))
  clear h h2
  generalize a.rset = s at *
  have e : Option.isNone s.abq = s.vo := by unfold Se.abq; cases s.vo <;> rfl
  rw [e] at hK
  show K _
  exact hK _ ⟨rfl, Sub.refl _⟩
theorem RIsE_holds (F : TypeId) (a : Y) (h : a.ok) : Holds Tryz.prog F 20 [a.sv] (tRes (fun b => SV.bool b) false (spV a Option.isNone)).pick := by
  rw [tRes_pick]
  exact holds_run mixed tbX_ok (envRIsE_ok F) Tryz.func20 rfl (by kernel_rfl) (args := [a.sv]) (RIsE_wp F a h _ fun _ hr => hr) (fun _ _ _ _ _ h => h)
def RIsEC (F : TypeId) : Con Tryz.prog F :=
  mkConR 20 (enters_of Tryz.func20 (by kernel_rfl) rfl) decY (fun q => [q.sv]) (fun q => q.ok) (fun q => tRes (fun b => SV.bool b) false (spV q Option.isNone)) decY_sub (RIsE_holds F)
noncomputable def envFin (F : TypeId) : Env := envOf [oneIC F]
theorem envFin_ok (F : TypeId) : EnvOK Tryz.prog F tbX (envFin F) := envOf_ok _
def Se.finB (s : Se) : Bool := s.vo || (!s.li && !s.hf)
theorem finite_wp (F : TypeId) (s : Se) (K : Except Int SV → Prop) (hK : ∀ r, SubE r (.ok (.bool s.finB)) → K r) :
    wpF tbX (envFin F) (wpDraw tbX (envFin F)) Tryz.f60 [s.rv] K := by
  obtain ⟨lo, hi, li, hf, vo⟩ := s
  cases vo <;> cases li <;> cases hf <;> (show K _; exact hK _ ⟨rfl, Sub.refl _⟩)
theorem finite_holds (F : TypeId) (s : Se) (h : True) : Holds Tryz.prog F 60 [s.rv] (.ok (.bool s.finB)) :=
  holds_run mixed tbX_ok (envFin_ok F) Tryz.func60 rfl (by kernel_rfl) (args := [s.rv]) (finite_wp F s _ fun _ hr => hr) (fun _ _ _ _ _ h => h)
def finiteC (F : TypeId) : Con Tryz.prog F :=
  mkCon 60 (enters_of Tryz.func60 (by kernel_rfl) rfl) decI (fun s => [s.rv]) (fun _ => True) (fun s => .bool s.finB) decI_sub (finite_holds F)
/-! ### the layer's RBnd -/
noncomputable def envRBnd (F : TypeId) : Env := envOf [oneIC F, finiteC F]
theorem envRBnd_ok (F : TypeId) : EnvOK Tryz.prog F tbX (envRBnd F) := envOf_ok _
theorem RBnd_wp (F : TypeId) (a : Y) (ha : a.ok) (K : Except Int SV → Prop) (hK : ∀ r, SubE r (.ok (tOut (fun b => SV.bool b) false (spV a Ab.fin))) → K r) :
    wpF tbX (envRBnd F) (wpDraw tbX (envRBnd F)) Tryz.f22 [a.sv] K := by
  unfold spV at hK
  refine And.intro ha (And.intro (fun h => ?_) (fun h => And.intro (fun h2 => ?_) (fun h2 => ?_)))
  · have h1 : a.good = false := h
    rw [if_neg (by rw [h1]; decide)] at hK
    show K _
    exact hK _ ⟨rfl, Sub.refl _⟩
  · exact absurd (show pOk 0 = false from h2) (by decide)
  have h1 : a.good = true := by
    have : ¬ a.good = false := h
    simpa only [Bool.not_eq_false] using this
  rw [if_pos h1, ← rset_ab a] at hK
  have i1 := rset_inv a ha
  have iw : a.rset.abq.wf := by rw [rset_ab]; exact sp_wf _ _
  have iv := rset_vo a
  show wpRes _ _ (.ok (.tup [a.rset.rv, .int .i64 0]))
  clear h h2
  generalize a.rset = s at *
  have e : Ab.fin s.abq = s.finB := by
    unfold Se.abq Se.finB
    cases s.vo <;> cases s.li <;> cases s.hf <;> rfl
  rw [e] at hK
  refine And.intro trivial ?_
  show K _
  exact hK _ ⟨rfl, Sub.refl _⟩
theorem RBnd_holds (F : TypeId) (a : Y) (h : a.ok) : Holds Tryz.prog F 22 [a.sv] (tRes (fun b => SV.bool b) false (spV a Ab.fin)).pick := by
  rw [tRes_pick]
  exact holds_run mixed tbX_ok (envRBnd_ok F) Tryz.func22 rfl (by kernel_rfl) (args := [a.sv]) (RBnd_wp F a h _ fun _ hr => hr) (fun _ _ _ _ _ h => h)
def RBndC (F : TypeId) : Con Tryz.prog F :=
  mkConR 22 (enters_of Tryz.func22 (by kernel_rfl) rfl) decY (fun q => [q.sv]) (fun q => q.ok) (fun q => tRes (fun b => SV.bool b) false (spV q Ab.fin)) decY_sub (RBnd_holds F)
end Iv
end Go.Proofs.YtfajgibpidlojaaGreatDoor
end

section
/- Contracts of the reference's rational numbers, part M: Most. Conditions: lowest terms; the sizes. -/
set_option linter.unusedVariables false
set_option linter.unusedSimpArgs false
set_option maxHeartbeats 4000000
set_option maxRecDepth 8000
namespace Go.Proofs.YtfajgibpidlojaaGreatDoor
namespace Iv
open Go Go.Proofs

theorem qmost_wp (F : TypeId) (p q : Tr) (hp : OkQ p) (hq : OkQ q) (K : Except Int SV → Prop) (hK : ∀ r, SubE r (.ok (sR (grQ p q))) → K r) :
    wpF tbX (envQc F) (wpDraw tbX (envQc F)) Tryz.f98 [sR p, sR q] K := by
  refine And.intro ⟨hq, hp⟩ ?_
  refine ifB_mk (fun h => ?_) (fun h => ?_)
  · have h1 : cmpR (vQ q) (vQ p) > 0 := of_decide_eq_true h
    have e : grQ p q = q := if_pos h1
    rw [e] at hK
    show K (.ok (sR q))
    exact hK _ ⟨rfl, Sub.refl _⟩
  · have h1 : ¬ cmpR (vQ q) (vQ p) > 0 := of_decide_eq_false h
    have e : grQ p q = p := if_neg h1
    rw [e] at hK
    show K (.ok (sR p))
    exact hK _ ⟨rfl, Sub.refl _⟩
theorem qmost_holds (F : TypeId) (p : Tr × Tr) (h : OkQ p.1 ∧ OkQ p.2) : Holds Tryz.prog F 98 [sR p.1, sR p.2] (.ok (sR (grQ p.1 p.2))) :=
  holds_run mixed tbX_ok (envQc_ok F) Tryz.func98 rfl (by kernel_rfl) (args := [sR p.1, sR p.2]) (qmost_wp F p.1 p.2 h.1 h.2 _ fun _ hr => hr) (fun _ _ _ _ _ h => h)
def qmostC (F : TypeId) : Con Tryz.prog F :=
  mkCon 98 (enters_of Tryz.func98 (by kernel_rfl) rfl) decRR (fun p => [sR p.1, sR p.2]) (fun p => OkQ p.1 ∧ OkQ p.2) (fun p => sR (grQ p.1 p.2)) decRR_sub (qmost_holds F)
end Iv
end Go.Proofs.YtfajgibpidlojaaGreatDoor
end

section
/- Contracts of the reference's intervals: SignOf, Size. Conditions: the sizes; the ends are in order. -/
set_option linter.unusedVariables false
set_option linter.unusedSimpArgs false
set_option maxHeartbeats 4000000
set_option maxRecDepth 8000
namespace Go.Proofs.YtfajgibpidlojaaGreatDoor
namespace Iv
open Go Go.Proofs

theorem sgZ_vQ {p : Tr} (h : OkQ p) : sgZ p.1 p.2.1 = sgR (vQ p) := by
  obtain ⟨e1, e2, e3⟩ := vQ_parts h
  unfold sgZ sgR
  rw [e1, e2]
theorem sgR_tri (x : Rat) : sgR x = -1 ∨ sgR x = 0 ∨ sgR x = 1 := by
  unfold sgR
  split
  · exact .inr (.inl rfl)
  · split
    · exact .inl rfl
    · exact .inr (.inr rfl)
theorem sgR_mono {x y : Rat} (h : x ≤ y) : sgR x ≤ sgR y := by
  rcases sgR_tri x with e | e | e <;> rcases sgR_tri y with f | f | f <;> rw [e, f] <;> try decide
  · exfalso
    have h1 := sgR_eq.1 e
    have h2 := sgR_lt.1 (show sgR y < 0 by rw [f]; decide)
    grind
  · exfalso
    have h1 := sgR_pos.1 (show sgR x > 0 by rw [e]; decide)
    have h2 := sgR_lt.1 (show sgR y < 0 by rw [f]; decide)
    grind
  · exfalso
    have h1 := sgR_pos.1 (show sgR x > 0 by rw [e]; decide)
    have h2 := sgR_eq.1 f
    grind
theorem wf_sg {a b : Option Rat} (h : Ab.wf (some (a, b))) : sgL a ≤ sgH b ∧ -1 ≤ sgL a ∧ sgH b ≤ 1 := by
  have r : ∀ x : Rat, -1 ≤ sgR x ∧ sgR x ≤ 1 := fun x => by rcases sgR_tri x with e | e | e <;> rw [e] <;> decide
  match a, b, h with
  | none, none, _ => exact ⟨by decide, by decide, by decide⟩
  | none, some y, _ => exact ⟨(r y).1, by decide, (r y).2⟩
  | some x, none, _ => exact ⟨(r x).2, (r x).1, by decide⟩
  | some x, some y, h => exact ⟨sgR_mono h, (r x).1, (r y).2⟩
/-! ### SignOf -/
def sgnI (a b : Int) : Int := if a > 0 then 2 else if b < 0 then -2 else if a = 0 ∧ b = 0 then 0 else if a = 0 then 1 else if b = 0 then -1 else 3
noncomputable def envSgo (F : TypeId) : Env := envOf [sgnC F]
theorem envSgo_ok (F : TypeId) : EnvOK Tryz.prog F tbX (envSgo F) := envOf_ok _
theorem sgo_wp (F : TypeId) (s : Se) (hs : s.inv) (hw : s.abq.wf) (K : Except Int SV → Prop) (hK : ∀ r, SubE r (.ok (.int .i64 s.abq.sign)) → K r) :
    wpF tbX (envSgo F) (wpDraw tbX (envSgo F)) Tryz.f63 [s.rv] K := by
  have e1 := sgZ_vQ hs.lo
  have e2 := sgZ_vQ hs.hi
  clear hs
  obtain ⟨lo, hi, li, hf, vo⟩ := s
  dsimp only at e1 e2
  cases vo
  · have hw : Ab.wf (some (enQ li lo, enQ hf hi)) := hw
    have hq := wf_sg hw
    have hK : ∀ r, SubE r (.ok (.int .i64 (sgnI (sgL (enQ li lo)) (sgH (enQ hf hi))))) → K r := hK
    clear hw
    rcases sgR_tri (vQ lo) with l | l | l <;> rcases sgR_tri (vQ hi) with g | g | g <;> cases li <;> cases hf <;>
      (simp only [sgL, sgH, enQ, Bool.false_eq_true, if_false, if_true, l, g] at hq hK
       rw [l] at e1
       rw [g] at e2
       first
       | (exfalso; revert hq; decide)
       | ((repeat first
            | (refine And.intro trivial ?_
               show wpRes _ _ (.ok (.int .i64 (sgZ lo.1 lo.2.1)))
               rw [e1])
            | (refine And.intro trivial ?_
               show wpRes _ _ (.ok (.int .i64 (sgZ hi.1 hi.2.1)))
               rw [e2])
            | refine ifB_mk (fun h => ?_) (fun h => absurd (@of_decide_eq_false _ (Classical.propDecidable _) h) (by decide))
            | refine ifB_mk (fun h => absurd (@of_decide_eq_true _ (Classical.propDecidable _) h) (by decide)) (fun h => ?_))
          show K _
          exact hK _ ⟨rfl, Sub.refl _⟩))
  · show K _
    exact hK _ ⟨rfl, Sub.refl _⟩
theorem sgo_holds (F : TypeId) (s : Se) (h : s.inv ∧ s.abq.wf) : Holds Tryz.prog F 63 [s.rv] (.ok (.int .i64 s.abq.sign)) :=
  holds_run mixed tbX_ok (envSgo_ok F) Tryz.func63 rfl (by kernel_rfl) (args := [s.rv]) (sgo_wp F s h.1 h.2 _ fun _ hr => hr) (fun _ _ _ _ _ h => h)
def sgoC (F : TypeId) : Con Tryz.prog F :=
  mkCon 63 (enters_of Tryz.func63 (by kernel_rfl) rfl) decI (fun s => [s.rv]) (fun s => s.inv ∧ s.abq.wf) (fun s => .int .i64 s.abq.sign) decI_sub (sgo_holds F)
end Iv
end Go.Proofs.YtfajgibpidlojaaGreatDoor
end

section
/- Contracts of the reference's intervals: the layer's Sign. Conditions: the sizes of what comes in. -/
set_option linter.unusedVariables false
set_option linter.unusedSimpArgs false
set_option maxHeartbeats 4000000
set_option maxRecDepth 8000
namespace Go.Proofs.YtfajgibpidlojaaGreatDoor
namespace Iv
open Go Go.Proofs

/-! ### the layer's RSgn -/
noncomputable def envRSgn (F : TypeId) : Env := envOf [oneIC F, sgoC F]
theorem envRSgn_ok (F : TypeId) : EnvOK Tryz.prog F tbX (envRSgn F) := envOf_ok _
theorem RSgn_wp (F : TypeId) (a : Y) (ha : a.ok) (K : Except Int SV → Prop) (hK : ∀ r, SubE r (.ok (tOut (fun n => SV.int .i64 n) 0 (spV a Ab.sign))) → K r) :
    wpF tbX (envRSgn F) (wpDraw tbX (envRSgn F)) Tryz.f24 [a.sv] K := by
  unfold spV at hK
  refine And.intro ha (And.intro (fun h => ?_) (fun h => And.intro (fun h2 => ?_) (fun h2 => ?_)))
  · have h1 : a.good = false := h
    rw [if_neg (by rw [h1]; decide)] at hK
    show K _
    exact hK _ ⟨rfl, Sub.refl _⟩
  · exact absurd (show pOk 0 = false from h2) (by decide)
  have h1 : a.good = true := by
    have : ¬ a.good = false := h
    simpa only [Bool.not_eq_false] using this
  rw [if_pos h1, ← rset_ab a] at hK
  have i1 := rset_inv a ha
  have iw : a.rset.abq.wf := by rw [rset_ab]; exact sp_wf _ _
  have iv := rset_vo a
  show wpRes _ _ (.ok (.tup [a.rset.rv, .int .i64 0]))
  clear h h2
  generalize a.rset = s at *
  refine And.intro ⟨i1, iw⟩ ?_
  show K _
  exact hK _ ⟨rfl, Sub.refl _⟩
theorem RSgn_holds (F : TypeId) (a : Y) (h : a.ok) : Holds Tryz.prog F 24 [a.sv] (tRes (fun n => SV.int .i64 n) 0 (spV a Ab.sign)).pick := by
  rw [tRes_pick]
  exact holds_run mixed tbX_ok (envRSgn_ok F) Tryz.func24 rfl (by kernel_rfl) (args := [a.sv]) (RSgn_wp F a h _ fun _ hr => hr) (fun _ _ _ _ _ h => h)
def RSgnC (F : TypeId) : Con Tryz.prog F :=
  mkConR 24 (enters_of Tryz.func24 (by kernel_rfl) rfl) decY (fun q => [q.sv]) (fun q => q.ok) (fun q => tRes (fun n => SV.int .i64 n) 0 (spV q Ab.sign)) decY_sub (RSgn_holds F)
end Iv
end Go.Proofs.YtfajgibpidlojaaGreatDoor
end

section
/- The law's function yes, at equal answers. No condition. -/
set_option linter.unusedVariables false
set_option linter.unusedSimpArgs false
set_option maxHeartbeats 4000000
set_option maxRecDepth 8000
namespace Go.Proofs.YtfajgibpidlojaaGreatDoor
namespace Iv
open Go Go.Proofs

noncomputable def envYes : Env := envOf [rnoneC FF]
theorem envYes_ok : EnvOK Tryz.prog FF tbX envYes := envOf_ok _
theorem yes_wp (b : Bool) (e : Int) (K : Except Int SV → Prop) (hK : ∀ r, SubE r (.ok (.bool true)) → K r) :
    wpF tbX envYes (wpDraw tbX envYes) Tryz.f25 [.bool b, .int .i64 e, .bool b, .int .i64 e] K := by
  have h0 : (e == e) = true := beq_self_eq_true e
  cases b
  · show K _
    refine hK _ ⟨rfl, ?_⟩
    show Sub (.bool (e == e)) (.bool true)
    rw [h0]
    exact Sub.refl _
  · show K _
    refine hK _ ⟨rfl, ?_⟩
    show Sub (.bool (e == e)) (.bool true)
    rw [h0]
    exact Sub.refl _
theorem yes_holds (p : Bool × Int × Bool × Int) (h : p.1 = p.2.2.1 ∧ p.2.1 = p.2.2.2) : Holds Tryz.prog FF 25 [.bool p.1, .int .i64 p.2.1, .bool p.2.2.1, .int .i64 p.2.2.2] (.ok (.bool true)) := by
  rw [← h.1, ← h.2]
  exact holds_run mixed tbX_ok envYes_ok Tryz.func25 rfl (by kernel_rfl) (args := [.bool p.1, .int .i64 p.2.1, .bool p.1, .int .i64 p.2.1]) (yes_wp p.1 p.2.1 _ fun _ hr => hr) (fun _ _ _ _ _ h => h)
def decYes : List SV → Option (Bool × Int × Bool × Int)
  | [.bool a, .int .i64 e, .bool b, .int .i64 f] => some (a, e, b, f)
  | _ => none
theorem decYes_sub (xs : List SV) (p : Bool × Int × Bool × Int) (h : decYes xs = some p) : SubL xs [.bool p.1, .int .i64 p.2.1, .bool p.2.2.1, .int .i64 p.2.2.2] := by
  unfold decYes at h
  split at h
  · simp only [Option.some.injEq] at h
    subst h
    exact SubR _
  · cases h
def yesC : Con Tryz.prog FF :=
  mkCon 25 (enters_of Tryz.func25 (by kernel_rfl) rfl) decYes (fun p => [.bool p.1, .int .i64 p.2.1, .bool p.2.2.1, .int .i64 p.2.2.2]) (fun p => p.1 = p.2.2.1 ∧ p.2.1 = p.2.2.2) (fun _ => .bool true) decYes_sub yes_holds
end Iv
end Go.Proofs.YtfajgibpidlojaaGreatDoor
end

section
/- The law IntervalCanons. Conditions: the sizes of what comes in. -/
set_option linter.unusedVariables false
set_option linter.unusedSimpArgs false
set_option maxHeartbeats 4000000
set_option maxRecDepth 8000
namespace Go.Proofs.YtfajgibpidlojaaGreatDoor
namespace Iv
open Go Go.Proofs

noncomputable def envCanL : Env := envOf [PCanC, RCanC FF, PIsEC, RIsEC FF, PBndC, RBndC FF, PSgnC, RSgnC FF, isC FF, yesC, awakeC]
theorem envCanL_ok : EnvOK Tryz.prog FF tbX envCanL := envOf_ok _
theorem canL_wp (a : Y) (ha : a.ok) (K : Except Int SV → Prop) (hK : ∀ r, SubE r (.ok (.bool true)) → K r) :
    wpF tbX envCanL (wpDraw tbX envCanL) Tryz.f5 [a.sv] K := by
  obtain ⟨z0, e0, c0, k0⟩ := tRes_val (spOne_okRes a (fun x => x) (fun x hx => hx))
  obtain ⟨z1, e1, k1⟩ := tRes_any (fun b => SV.bool b) false (spV a Option.isNone)
  obtain ⟨z2, e2, k2⟩ := tRes_any (fun b => SV.bool b) false (spV a Ab.fin)
  obtain ⟨z3, e3, k3⟩ := tRes_any (fun n => SV.int .i64 n) 0 (spV a Ab.sign)
  refine And.intro ha ?_
  refine k0 _ _ ?_
  refine And.intro ha ?_
  refine k0 _ _ ?_
  refine And.intro ha ?_
  refine k1 _ _ ?_
  refine And.intro ha ?_
  refine k1 _ _ ?_
  refine And.intro ha ?_
  refine k2 _ _ ?_
  refine And.intro ha ?_
  refine k2 _ _ ?_
  refine And.intro ha ?_
  refine k3 _ _ ?_
  refine And.intro ha ?_
  refine k3 _ _ ?_
  refine And.intro ⟨rfl, rfl, c0⟩ ?_
  refine And.intro ⟨rfl, rfl⟩ ?_
  refine And.intro ⟨rfl, rfl⟩ ?_
  have b3 : (z3 == z3) = true := beq_self_eq_true z3
  have b4 : (e3 == e3) = true := beq_self_eq_true e3
  refine ifB_mk (fun h => ?_) (fun h => ?_)
  · refine ifB_mk (fun h2 => ?_) (fun h2 => ?_)
    · refine And.intro trivial ?_
      show K _
      exact hK _ ⟨rfl, Sub.refl _⟩
    · exact absurd (show (e3 == e3) = false from h2) (by rw [b4]; decide)
  · exact absurd (show (z3 == z3) = false from h) (by rw [b3]; decide)
theorem canL_holds (a : Y) (h : a.ok) : Holds Tryz.prog FF 5 [a.sv] (.ok (.bool true)) :=
  holds_run mixed tbX_ok envCanL_ok Tryz.func5 rfl (by kernel_rfl) (args := [a.sv]) (canL_wp a h _ fun _ hr => hr) (fun _ _ _ _ _ h => h)
end Iv
end Go.Proofs.YtfajgibpidlojaaGreatDoor
end

section
/-
  The law IntervalCanons answers true and leaves its arguments as they read: for all intervals, numbers and precisions whose reading is together of bulk at most 1048576; the library's table math/bits.deBruijn32tab lies as the program's text lays it (the card ties it).
-/
set_option linter.unusedVariables false
set_option linter.unusedSimpArgs false
set_option maxRecDepth 8000
namespace Go.Proofs.YtfajgibpidlojaaGreatDoor.intervalCanons
open Go Go.Proofs Go.ChangeShapes Go.WideShapes Go.ChangeAt Go.RowKit Go.Proofs.YtfajgibpidlojaaGreatDoor.Iv

theorem own : ownKnob Tryz.prog.godebug = none := by kernel_rfl
theorem contract (H : Type) (enc : TypeId × Value → H) (W : World) (base : Nat) (args : Array Value) (ds gs : List (DataW H)) (before : List MemPlace)
    (hval : ∀ (j : Nat) t v, Tryz.f5.params[j]? = some t → args[j]? = some v → Value.okWide Tryz.prog W .any base t v)
    (hW : DataW.Whole enc Tryz.prog Tryz.f5.params.toList Rows.intervalCanonsSpec.vars false W args.toList ds gs before) (hbulk : Rows.uptoSmall H (ds ++ gs) = true) (hL : laidMetH Tryz.prog Rows.intervalCanonsUptoRow.laid W) :
    Calls Tryz.prog 5 args W fun e W' => ∃ v, e = .returned v ∧ Rows.intervalCanonsSpec.post enc Tryz.prog Tryz.f5 false true false false W args v W' := by
  have hW' := hW
  obtain ⟨p, q, hA0, hV, rfl, _, _⟩ := hW
  have hA : DataW.TrodAll enc Tryz.prog W 0 (fun _ => true) true Tryz.f5.params.toList args.toList ds p := hA0
  rw [Tryz.params5] at hA hval
  obtain ⟨v0, vs0, d0, ds0, p0, q0, hargs, rfl, rfl, h0, r0⟩ := trodAll_cons hA
  obtain ⟨rfl, rfl, rfl⟩ := trodAll_nil r0
  obtain rfl : args = #[v0] := by cases args; simp_all
  obtain ⟨rfl, rfl⟩ := trodVars_none hV
  clear hA0
  simp only [List.append_nil, List.append_assoc] at hW'
  have hb0 : Rows.uptoBulkAll [d0] ≤ 1048576 := by
    have := of_decide_eq_true hbulk
    simpa only [List.append_nil] using this
  obtain ⟨y0, o0, e0⟩ := read_iv (M := fun _ => False) (N := W.heap.size) (bnd := fun _ => none) (fun _ h => h) (hval 0 26 v0 rfl rfl) h0 (Nat.le_trans (bulk_part (by simp)) hb0)
  have hlt : ∀ x ∈ p0, x.block < W.heap.size := fun x hx => by simpa using hW'.lt x (by simpa using hx)
  refine (canL_holds y0 o0 (fun _ => False) W [v0] (mok_none (gl_of hL rfl)) ⟨v0, _, rfl, e0, rfl⟩).mono ?_
  rintro e W' ⟨hb, v, rfl, _, hr⟩
  have hr : v = .bool true := hr
  subst hr
  have g0 := Below.trod laidOut (by kernel_rfl) (of_decide_eq_true (by kernel_rfl)) h0 hb (fun x hx => hlt x (by simp [hx]))
  have hW2 : DataW.Whole enc Tryz.prog Tryz.f5.params.toList Rows.intervalCanonsSpec.vars false W #[v0].toList [d0] [] (p0) := by simpa only [List.append_nil, List.append_assoc] using hW'
  exact ⟨_, rfl, _, _, _, [], _, [], hW2, trodAll_mk1 (shut_bool Tryz.underlying4 _), trodAll_mk1 g0, rfl, hb.frame _, fun h => by cases h⟩
/-- A world for the witness: the settled one, the table (its block) holding what its initialiser lays. -/
noncomputable def laidWorld (os : Os) : World :=
  { World.holding Tryz.prog os ⟨#[], #[], []⟩ with heap := (World.holding Tryz.prog os ⟨#[], #[], []⟩).heap.modify 0 fun
      | .cells _ t frozen => .cells #[.int .u8 0, .int .u8 1, .int .u8 28, .int .u8 2, .int .u8 29, .int .u8 14, .int .u8 24, .int .u8 3, .int .u8 30, .int .u8 22, .int .u8 20, .int .u8 15, .int .u8 25, .int .u8 17, .int .u8 4, .int .u8 8, .int .u8 31, .int .u8 27, .int .u8 13, .int .u8 23, .int .u8 21, .int .u8 19, .int .u8 16, .int .u8 7, .int .u8 26, .int .u8 12, .int .u8 18, .int .u8 6, .int .u8 11, .int .u8 5, .int .u8 10, .int .u8 9] t frozen
      | o => o }
def wArgs : Array Value := #[.agg #[.bool false, .slice none 0 0, .slice none 0 0, .bool false, .slice none 0 0, .slice none 0 0, .bool false, .bool false]]
theorem laid_met (os : Os) : laidMet Tryz.prog Rows.intervalCanonsUptoRow.laid ((laidWorld os).forCall (fun _ _ => 0) ⟨#[], wArgs, []⟩).memory :=
  laidMet_of_run' 8 (by kernel_rfl) (by kernel_rfl)
theorem reads (os : Os) {H : Type} (enc : TypeId × Value → H) : ∃ places, DataW.whole enc Tryz.prog ((laidWorld os).forCall (fun _ _ => 0) ⟨#[], wArgs, []⟩).memory Tryz.f5.params.toList Rows.intervalCanonsSpec.vars false wArgs.toList 8 = some ([.agg [.agg [.lit (.bool false), .nil, .nil], .agg [.lit (.bool false), .nil, .nil], .lit (.bool false), .lit (.bool false)]], [], places) :=
  ⟨[], by kernel_rfl⟩
set_option maxRecDepth 100000 in
theorem lifted (os : Os) (started : os.Started) (H : Type) (enc : TypeId × Value → H) (F : Stop.Interp) :
    ReturnsInHanded {} Tryz.checked os 5 .any ((Rows.OpenSpec.upto Rows.intervalCanonsSpec).preRow enc Tryz.prog Tryz.f5 Rows.intervalCanonsUptoRow.domain false Rows.intervalCanonsUptoRow.laid) (((Rows.OpenSpec.upto Rows.intervalCanonsSpec).at F).post enc Tryz.prog Tryz.f5 false true false false) := by
  obtain ⟨places, hx⟩ := reads os enc
  refine returnsInHanded_of_row (C := Tryz.checked) (s := Rows.OpenSpec.upto Rows.intervalCanonsSpec) own started (by kernel_rfl) Tryz.func5
    (witness_row_at (enc := enc) (C := Tryz.checked) false (laidWorld os) wArgs rfl (by kernel_rfl) (by kernel_rfl) (by kernel_rfl)
      (OpenSpec.preRow_of_cond 8 hx (by kernel_rfl) (fun k hk => by cases hk; kernel_rfl) (by kernel_rfl) (laid_met os))) ?_
  intro W base args ds gs before hval hW _ hcond _ hL _ _
  exact contract H enc W base args ds gs before hval hW (hcond _ rfl) hL
theorem said : Rows.IntervalCanonsUptoSaid :=
  OpenClaim.holds_of_cond 5 Tryz.f5 rfl rfl rfl rfl rfl rfl rfl ⟨rfl, rfl, rfl, rfl, rfl⟩ rfl rfl rfl rfl rfl (by kernel_rfl) Tryz.func5 (by kernel_rfl)
    (of_decide_eq_true (by kernel_rfl)) (by unfold Func.isWrapper; first | (rw [if_pos (by decide +kernel)]; kernel_rfl) | (rw [if_neg (by decide +kernel)]; exact ⟨rfl, rfl⟩))
    (fun os started H enc _ F => by rw [OpenClaim.pre_eq_preRow]; exact lifted os started H enc F)
theorem plain (f : FuncId) (fn : Func) (hf : Tryz.pinned.checked.prog.funcNamed "inequality/inequalitylaw03.IntervalCanons" = some f) (hfn : Tryz.pinned.checked.prog.funcs[f]? = some fn) :
    true = Tryz.pinned.checked.prog.looks [] ∧ ∀ (j : Nat) t, fn.params[j]? = some t → Tryz.pinned.checked.prog.wantsStandIn t = false := by
  obtain rfl : f = 5 := Option.some.inj ((show Tryz.prog.funcNamed "inequality/inequalitylaw03.IntervalCanons" = some 5 by kernel_rfl).symm.trans hf) |>.symm
  obtain rfl : fn = Tryz.f5 := (Option.some.inj (Tryz.func5.symm.trans hfn)).symm
  refine ⟨by kernel_rfl, fun j t ht => ?_⟩
  rw [Tryz.params5] at ht
  have hm : t ∈ [26] := by simpa using Array.mem_of_getElem? ht
  have hall : ∀ t ∈ [26], Tryz.prog.wantsStandIn t = false := by
    intro t ht
    simp only [List.mem_cons, List.not_mem_nil, or_false] at ht
    subst ht
    kernel_rfl
  exact hall t hm
/-- The statement. -/
theorem card : Rows.IntervalCanonsUptoCardSaid :=
  Claim7.holds_tied_plain_at .later [] _ _ _ _ said (fun _ h => by cases h) (by kernel_rfl) (fun _ h => by cases h) intervalCanonsUpto_row_tie rfl ⟨rfl, rfl⟩ (by kernel_rfl) rfl plain (by kernel_rfl)
#print axioms card
end Go.Proofs.YtfajgibpidlojaaGreatDoor.intervalCanons
end
