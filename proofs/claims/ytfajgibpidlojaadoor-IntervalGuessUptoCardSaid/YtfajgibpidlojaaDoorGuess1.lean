/-
  The whole proof of a law, the last part. Each part says its own conditions.
-/
import Derived.Test.YtfajgibpidlojaaDoorCards
import Derived.Test.YtfajgibpidlojaaDoorTie
import Derived.Test.YtfajgibpidlojaaDoorBase7
import Derived.Test.YtfajgibpidlojaaDoorBase8

section
/- Sets of numbers: which operations keep the ends in order, and which keep them small. No condition. -/
set_option linter.unusedVariables false
set_option linter.unusedSimpArgs false
namespace Go.Proofs.YtfajgibpidlojaaDoor
namespace Iv
open Go Go.Proofs

theorem sgR_cmp (x : Rat) : sgR x = cmpR x 0 := by
  have h := sgR_sub x 0
  have e : x - 0 = x := by grind
  rwa [e] at h
theorem sgR_pos {x : Rat} : sgR x > 0 ↔ 0 < x := by rw [sgR_cmp, cmpR_pos]
theorem sgR_lt {x : Rat} : sgR x < 0 ↔ x < 0 := by rw [sgR_cmp, cmpR_lt]
theorem sgR_eq {x : Rat} : sgR x = 0 ↔ x = 0 := by rw [sgR_cmp, cmpR_eq]
theorem leR_or (x y : Rat) : leR x y = x ∨ leR x y = y := by unfold leR; split <;> simp
theorem grR_or (x y : Rat) : grR x y = x ∨ grR x y = y := by unfold grR; split <;> simp
theorem leR_le (x y : Rat) : leR x y ≤ x ∧ leR x y ≤ y := by
  unfold leR
  split
  · rename_i h
    rw [cmpR_lt] at h
    exact ⟨Rat.le_of_lt h, Rat.le_refl⟩
  · rename_i h
    rw [cmpR_lt] at h
    exact ⟨Rat.le_refl, Rat.not_lt.1 h⟩
theorem le_grR (x y : Rat) : x ≤ grR x y ∧ y ≤ grR x y := by
  unfold grR
  split
  · rename_i h
    rw [cmpR_pos] at h
    exact ⟨Rat.le_of_lt h, Rat.le_refl⟩
  · rename_i h
    rw [cmpR_pos] at h
    exact ⟨Rat.le_refl, Rat.not_lt.1 h⟩
/-! ### The order -/
theorem meet_wf (x y : Ab) : (x.meet y).wf := by
  match x, y with
  | none, _ => trivial
  | some (a, b), none => trivial
  | some (a, b), some (c, d) => exact sp_wf _ _
theorem join_wf {x y : Ab} (h : x.wf) (k : y.wf) : (x.join y).wf := by
  match x, y, h, k with
  | none, _, _, k => exact k
  | some (a, b), none, h, _ => exact h
  | some (none, b), some (c, d), _, _ => trivial
  | some (some a, none), some (none, d), _, _ => trivial
  | some (some a, none), some (some c, d), _, _ => trivial
  | some (some a, some b), some (none, d), _, _ => trivial
  | some (some a, some b), some (some c, none), _, _ => trivial
  | some (some a, some b), some (some c, some d), h, k =>
    have h1 : a ≤ b := h
    exact Rat.le_trans (leR_le a c).1 (Rat.le_trans h1 (le_grR b d).1)
theorem abs_wf {x : Ab} (h : x.wf) : x.abs.wf := by
  match x, h with
  | none, _ => trivial
  | some (a, b), h =>
    show (if sgL a ≥ 0 then some (a, b) else if sgH b ≤ 0 then Ab.neg (some (a, b)) else some (some 0, l2 grR (a.map (- ·)) b) : Ab).wf
    split
    · exact h
    · split
      · exact neg_wf h
      · rename_i hb
        match a, b, hb with
        | none, _, _ => trivial
        | some x, none, _ => trivial
        | some x, some y, hb =>
          have hy : 0 < y := by
            have : ¬ sgR y ≤ 0 := hb
            have : sgR y > 0 := by omega
            exact sgR_pos.1 this
          exact Rat.le_trans (Rat.le_of_lt hy) (le_grR (-x) y).2
theorem low_wf {x y : Ab} (h : x.wf) (k : y.wf) : (x.low y).wf := by
  match x, y, h, k with
  | none, _, _, _ => trivial
  | some (a, b), none, _, _ => trivial
  | some (none, b), some (c, d), _, _ => trivial
  | some (some a, b), some (none, d), _, _ => trivial
  | some (some a, none), some (some c, none), _, _ => trivial
  | some (some a, none), some (some c, some d), h, k =>
    have k1 : c ≤ d := k
    exact Rat.le_trans (leR_le a c).2 k1
  | some (some a, some b), some (some c, none), h, k =>
    have h1 : a ≤ b := h
    exact Rat.le_trans (leR_le a c).1 h1
  | some (some a, some b), some (some c, some d), h, k =>
    have h1 : a ≤ b := h
    have k1 : c ≤ d := k
    show leR a c ≤ leR b d
    rcases leR_or b d with e | e <;> rw [e]
    · exact Rat.le_trans (leR_le a c).1 h1
    · exact Rat.le_trans (leR_le a c).2 k1
/-! ### The sizes -/
theorem fitR_neg (q : Rat) : fitR (-q) = fitR q := by
  obtain ⟨n1, n2, n3⟩ := neg_parts q
  unfold fitR
  rw [n2, n3]
theorem fitR_le {x y : Rat} (h : fitR x = true) (k : fitR y = true) : fitR (leR x y) = true := by rcases leR_or x y with e | e <;> rw [e] <;> assumption
theorem fitR_gr {x y : Rat} (h : fitR x = true) (k : fitR y = true) : fitR (grR x y) = true := by rcases grR_or x y with e | e <;> rw [e] <;> assumption
theorem sp_fits {l h : Option Rat} (hl : l.all fitR = true) (hh : h.all fitR = true) : (Ab.sp l h).fits = true := by
  have : Ab.fits (some (l, h)) = true := by simp [Ab.fits, hl, hh]
  unfold Ab.sp
  split
  · split
    · rfl
    · exact this
  · exact this
theorem ab_fits (y : Y) (h : y.good = true) : y.ab.fits = true := by
  have e3 : y.good = (numOk y.lo && numOk y.hi) := rfl
  rw [e3, Bool.and_eq_true] at h
  have f : ∀ x : X, numOk x = true → fitR x.q = true := fun x hx => by
    unfold numOk at hx
    rw [Bool.and_eq_true] at hx
    exact hx.2
  unfold Y.ab
  refine sp_fits ?_ ?_
  · split
    · rfl
    · exact f _ h.1
  · split
    · rfl
    · exact f _ h.2
theorem neg_fits {x : Ab} (h : x.fits = true) : x.neg.fits = true := by
  match x, h with
  | none, _ => rfl
  | some (a, b), h =>
    unfold Ab.fits at h
    rw [Bool.and_eq_true] at h
    have f : ∀ o : Option Rat, o.all fitR = true → (o.map (- ·)).all fitR = true := fun o ho => by
      cases o
      · rfl
      · simp only [Option.map_some, Option.all_some] at ho ⊢
        rw [fitR_neg]; exact ho
    simp only [Ab.neg, Ab.fits, f _ h.1, f _ h.2, Bool.and_self]
theorem l2_fits {f : Rat → Rat → Rat} (hf : ∀ x y, fitR x = true → fitR y = true → fitR (f x y) = true) {a b : Option Rat} (h : a.all fitR = true) (k : b.all fitR = true) : (l2 f a b).all fitR = true := by
  cases a <;> cases b <;> first | rfl | exact hf _ _ h k
theorem m2_fits {f : Rat → Rat → Rat} (hf : ∀ x y, fitR x = true → fitR y = true → fitR (f x y) = true) {a b : Option Rat} (h : a.all fitR = true) (k : b.all fitR = true) : (m2 f a b).all fitR = true := by
  cases a <;> cases b <;> first | rfl | exact hf _ _ h k | exact h | exact k
theorem meet_fits {x y : Ab} (h : x.fits = true) (k : y.fits = true) : (x.meet y).fits = true := by
  match x, y, h, k with
  | none, _, _, _ => rfl
  | some (a, b), none, _, _ => rfl
  | some (a, b), some (c, d), h, k =>
    unfold Ab.fits at h k
    rw [Bool.and_eq_true] at h k
    exact sp_fits (m2_fits (fun _ _ => fitR_gr) h.1 k.1) (m2_fits (fun _ _ => fitR_le) h.2 k.2)
theorem join_fits {x y : Ab} (h : x.fits = true) (k : y.fits = true) : (x.join y).fits = true := by
  match x, y, h, k with
  | none, _, _, k => exact k
  | some (a, b), none, h, _ => exact h
  | some (a, b), some (c, d), h, k =>
    unfold Ab.fits at h k
    rw [Bool.and_eq_true] at h k
    simp only [Ab.join, Ab.fits, l2_fits (fun _ _ => fitR_le) h.1 k.1, l2_fits (fun _ _ => fitR_gr) h.2 k.2, Bool.and_self]
theorem low_fits {x y : Ab} (h : x.fits = true) (k : y.fits = true) : (x.low y).fits = true := by
  match x, y, h, k with
  | none, _, _, _ => rfl
  | some (a, b), none, _, _ => rfl
  | some (a, b), some (c, d), h, k =>
    unfold Ab.fits at h k
    rw [Bool.and_eq_true] at h k
    simp only [Ab.low, Ab.fits, l2_fits (fun _ _ => fitR_le) h.1 k.1, m2_fits (fun _ _ => fitR_le) h.2 k.2, Bool.and_self]
theorem abs_fits {x : Ab} (h : x.fits = true) : x.abs.fits = true := by
  match x, h with
  | none, _ => rfl
  | some (a, b), h =>
    have h0 := neg_fits h
    have h' := h
    unfold Ab.fits at h
    rw [Bool.and_eq_true] at h
    show (if sgL a ≥ 0 then some (a, b) else if sgH b ≤ 0 then Ab.neg (some (a, b)) else some (some 0, l2 grR (a.map (- ·)) b) : Ab).fits = true
    split
    · exact h'
    · split
      · exact h0
      · have f : (a.map (- ·)).all fitR = true := by
          have ha := h.1
          cases a
          · rfl
          · simp only [Option.map_some, Option.all_some] at ha ⊢
            rw [fitR_neg]; exact ha
        have z : Option.all fitR (some 0) = true := fitR_zero
        simp only [Ab.fits, z, l2_fits (fun _ _ => fitR_gr) f h.2, Bool.and_self]
theorem outA_fits {A : Ab} (h : A.fits = true) : outA A = .ok (cz A) := if_pos h
end Iv
end Go.Proofs.YtfajgibpidlojaaDoor
end

section
/- Sets of numbers: when a number is in one, when one is a part of another. No condition. -/
set_option linter.unusedVariables false
set_option linter.unusedSimpArgs false
namespace Go.Proofs.YtfajgibpidlojaaDoor
namespace Iv
open Go Go.Proofs

theorem cmpR_le {x y : Rat} : cmpR x y ≤ 0 ↔ x ≤ y := by
  have := @cmpR_pos x y
  constructor
  · intro h
    exact Rat.not_lt.1 fun c => absurd (this.2 c) (by omega)
  · intro h
    have : ¬ cmpR x y > 0 := fun c => absurd (this.1 c) (Rat.not_lt.2 h)
    omega
theorem cmpR_ge {x y : Rat} : cmpR x y ≥ 0 ↔ y ≤ x := by
  have := @cmpR_lt x y
  constructor
  · intro h
    exact Rat.not_lt.1 fun c => absurd (this.2 c) (by omega)
  · intro h
    have : ¬ cmpR x y < 0 := fun c => absurd (this.1 c) (Rat.not_lt.2 h)
    omega
/-- As the reference looks for a number. -/
def inL (l : Option Rat) (x : Rat) : Bool := match l with | none => true | some y => decide (cmpR y x ≤ 0)
def inH (h : Option Rat) (x : Rat) : Bool := match h with | none => true | some y => decide (cmpR x y ≤ 0)
theorem has_in (a b : Option Rat) (x : Rat) : Ab.has (some (a, b)) x = (inL a x && inH b x) := by
  have key : ∀ l h : Rat, (Ab.sp (some l) (some h)).isSome = decide (l ≤ h) := fun l h => by
    show (if cmpR l h > 0 then (none : Ab) else some (some l, some h)).isSome = decide (l ≤ h)
    by_cases c : cmpR l h > 0
    · rw [if_pos c]
      have : ¬ l ≤ h := Rat.not_le.2 (cmpR_pos.1 c)
      simp [this]
    · rw [if_neg c]
      have : l ≤ h := Rat.not_lt.1 fun d => c (cmpR_pos.2 d)
      simp [this]
  have g : ∀ l : Rat, grR l x ≤ x ↔ l ≤ x := fun l => ⟨fun h => Rat.le_trans (le_grR l x).1 h, fun h => by rcases grR_or l x with e | e <;> rw [e] <;> first | exact h | exact Rat.le_refl⟩
  have g2 : ∀ h : Rat, x ≤ leR h x ↔ x ≤ h := fun h => ⟨fun k => Rat.le_trans k (leR_le h x).1, fun k => by rcases leR_or h x with e | e <;> rw [e] <;> first | exact k | exact Rat.le_refl⟩
  have e : Ab.has (some (a, b)) x = (Ab.sp (m2 grR a (some x)) (m2 leR b (some x))).isSome := rfl
  rw [e]
  match a, b with
  | none, none => show (Ab.sp (some x) (some x)).isSome = true; rw [key]; exact decide_eq_true Rat.le_refl
  | none, some h =>
    show (Ab.sp (some x) (some (leR h x))).isSome = decide (cmpR x h ≤ 0)
    rw [key]
    exact decide_eq_decide.2 ((g2 h).trans cmpR_le.symm)
  | some l, none =>
    show (Ab.sp (some (grR l x)) (some x)).isSome = (decide (cmpR l x ≤ 0) && true)
    rw [key, Bool.and_true]
    exact decide_eq_decide.2 ((g l).trans cmpR_le.symm)
  | some l, some h =>
    show (Ab.sp (some (grR l x)) (some (leR h x))).isSome = (decide (cmpR l x ≤ 0) && decide (cmpR x h ≤ 0))
    rw [key, ← Bool.decide_and]
    refine decide_eq_decide.2 ?_
    rw [cmpR_le, cmpR_le, ← g l, ← g2 h]
    constructor
    · intro k
      exact ⟨(g l).2 (Rat.le_trans (le_grR l x).1 (Rat.le_trans k (leR_le h x).2)), (g2 h).2 (Rat.le_trans (le_grR l x).2 (Rat.le_trans k (leR_le h x).1))⟩
    · intro k
      exact Rat.le_trans k.1 k.2
theorem vo_ab (s : Se) : (!s.vo) = s.ab.isSome := by
  unfold Se.ab
  cases s.vo <;> rfl
end Iv
end Go.Proofs.YtfajgibpidlojaaDoor
end

section
/- Contracts of the intervals' functions, part F: sets: joined. Conditions: the sizes. -/
set_option linter.unusedVariables false
set_option linter.unusedSimpArgs false
set_option maxHeartbeats 4000000
set_option maxRecDepth 8000
namespace Go.Proofs.YtfajgibpidlojaaDoor
namespace Iv
open Go Go.Proofs

/-! ### joined -/
def Se.join (s t : Se) : Se := if s.vo then t else if t.vo then s else
  ⟨if s.li || t.li then t0 else leT s.lo t.lo, if s.hf || t.hf then t0 else grT s.hi t.hi, s.li || t.li, s.hf || t.hf, false⟩
noncomputable def envJoin : Env := envOf [leastC, greatestC]
theorem envJoin_ok : EnvOK Tryd.prog FF tbX envJoin := envOf_ok _
theorem join_wp (s t : Se) (hs : s.vo = false → t.vo = false → s.fin ∧ t.fin) (K : Except Int SV → Prop) (hK : ∀ r, SubE r (.ok (s.join t).sv) → K r) :
    wpF tbX envJoin (wpDraw tbX envJoin) Tryd.f89 [s.sv, t.sv] K := by
  obtain ⟨lo, hi, li, hf, vo⟩ := s
  obtain ⟨lo', hi', li', hf', vo'⟩ := t
  cases vo
  · cases vo'
    · obtain ⟨hs1, ht⟩ := hs rfl rfl
      cases li <;> cases li' <;> cases hf <;> cases hf'
      all_goals (try refine And.intro ⟨hs1.1 rfl, ht.1 rfl⟩ ?_)
      all_goals (try refine And.intro ⟨hs1.2 rfl, ht.2 rfl⟩ ?_)
      all_goals show K _
      all_goals refine hK _ ?_
      all_goals first
          | exact ⟨rfl, Sub.refl _⟩
          | exact ⟨rfl, Sub.agg (SubT3 (SubN3 (SubR _)))⟩
          | exact ⟨rfl, Sub.agg (SubN3 (SubN3 (SubR _)))⟩
          | exact ⟨rfl, Sub.agg (SubN3 (SubR _))⟩
    · exact hK _ ⟨rfl, Sub.refl _⟩
  · exact hK _ ⟨rfl, Sub.refl _⟩
theorem join_holds (p : Se × Se) (h : p.1.vo = false → p.2.vo = false → p.1.fin ∧ p.2.fin) : Holds Tryd.prog FF 89 [p.1.sv, p.2.sv] (.ok (p.1.join p.2).sv) :=
  holds_run mixed tbX_ok envJoin_ok Tryd.func89 rfl (by kernel_rfl) (args := [p.1.sv, p.2.sv]) (join_wp p.1 p.2 h _ fun _ hr => hr) (fun _ _ _ _ _ h => h)
def joinC : Con Tryd.prog FF :=
  mkCon 89 (enters_of Tryd.func89 (by kernel_rfl) rfl) decSS (fun p => [p.1.sv, p.2.sv]) (fun p => p.1.vo = false → p.2.vo = false → p.1.fin ∧ p.2.fin) (fun p => (p.1.join p.2).sv) decSS_sub join_holds
end Iv
end Go.Proofs.YtfajgibpidlojaaDoor
end

section
/- Contracts of the intervals' functions, part G: sets: met. Conditions: the sizes. -/
set_option linter.unusedVariables false
set_option linter.unusedSimpArgs false
set_option maxHeartbeats 4000000
set_option maxRecDepth 8000
namespace Go.Proofs.YtfajgibpidlojaaDoor
namespace Iv
open Go Go.Proofs

/-! ### met -/
/-- The ends of what two sets have in common. -/
def Se.meL (s t : Se) : Tr := if s.li then t.lo else if t.li then s.lo else grT s.lo t.lo
def Se.meH (s t : Se) : Tr := if s.hf then t.hi else if t.hf then s.hi else leT s.hi t.hi
def Se.meet (s t : Se) : Se := ⟨s.meL t, s.meH t, s.li && t.li, s.hf && t.hf, s.vo || t.vo || (!(s.li && t.li) && !(s.hf && t.hf) && decide (cmpR (vF (s.meL t)) (vF (s.meH t)) > 0))⟩
theorem ok_grT {p q : Tr} (hp : Ok p) (hq : Ok q) : Ok (grT p q) := by unfold grT; split <;> assumption
theorem ok_leT {p q : Tr} (hp : Ok p) (hq : Ok q) : Ok (leT p q) := by unfold leT; split <;> assumption
noncomputable def envMeet : Env := envOf [leastC, greatestC, fcmpC FF]
theorem envMeet_ok : EnvOK Tryd.prog FF tbX envMeet := envOf_ok _
theorem meet_wp (s t : Se) (hs : s.fin) (ht : t.fin) (K : Except Int SV → Prop) (hK : ∀ r, SubE r (.ok (s.meet t).sv) → K r) :
    wpF tbX envMeet (wpDraw tbX envMeet) Tryd.f69 [s.sv, t.sv] K := by
  obtain ⟨lo, hi, li, hf, vo⟩ := s
  obtain ⟨lo', hi', li', hf', vo'⟩ := t
  have oL : (li && li') = false → Ok (Se.meL ⟨lo, hi, li, hf, vo⟩ ⟨lo', hi', li', hf', vo'⟩) := by
    intro h
    unfold Se.meL
    cases li <;> cases li'
    · exact ok_grT (hs.1 rfl) (ht.1 rfl)
    · exact hs.1 rfl
    · exact ht.1 rfl
    · cases h
  have oH : (hf && hf') = false → Ok (Se.meH ⟨lo, hi, li, hf, vo⟩ ⟨lo', hi', li', hf', vo'⟩) := by
    intro h
    unfold Se.meH
    cases hf <;> cases hf'
    · exact ok_leT (hs.2 rfl) (ht.2 rfl)
    · exact hs.2 rfl
    · exact ht.2 rfl
    · cases h
  cases li <;> cases li' <;> cases hf <;> cases hf' <;>
    (try refine And.intro ⟨hs.1 rfl, ht.1 rfl⟩ ?_) <;> (try refine And.intro ⟨hs.2 rfl, ht.2 rfl⟩ ?_) <;>
    cases vo <;> cases vo' <;> (try refine And.intro ⟨oL rfl, oH rfl⟩ ?_) <;>
    (show K _
     exact hK _ ⟨rfl, Sub.refl _⟩)
theorem meet_holds (p : Se × Se) (h : p.1.fin ∧ p.2.fin) : Holds Tryd.prog FF 69 [p.1.sv, p.2.sv] (.ok (p.1.meet p.2).sv) :=
  holds_run mixed tbX_ok envMeet_ok Tryd.func69 rfl (by kernel_rfl) (args := [p.1.sv, p.2.sv]) (meet_wp p.1 p.2 h.1 h.2 _ fun _ hr => hr) (fun _ _ _ _ _ h => h)
def meetC : Con Tryd.prog FF :=
  mkCon 69 (enters_of Tryd.func69 (by kernel_rfl) rfl) decSS (fun p => [p.1.sv, p.2.sv]) (fun p => p.1.fin ∧ p.2.fin) (fun p => (p.1.meet p.2).sv) decSS_sub meet_holds
end Iv
end Go.Proofs.YtfajgibpidlojaaDoor
end

section
/- The program's sets as pairs of ends: what its operations do. No condition. -/
set_option linter.unusedVariables false
set_option linter.unusedSimpArgs false
namespace Go.Proofs.YtfajgibpidlojaaDoor
namespace Iv
open Go Go.Proofs

theorem vF_leT (p q : Tr) : vF (leT p q) = leR (vF p) (vF q) := by unfold leT leR; split <;> rfl
theorem vF_grT (p q : Tr) : vF (grT p q) = grR (vF p) (vF q) := by unfold grT grR; split <;> rfl
theorem join_ab (s t : Se) : (s.join t).ab = s.ab.join t.ab := by
  obtain ⟨lo, hi, li, hf, vo⟩ := s
  obtain ⟨lo', hi', li', hf', vo'⟩ := t
  cases vo <;> cases vo' <;> cases li <;> cases hf <;> cases li' <;> cases hf' <;> simp [Se.join, Se.ab, Ab.join, enF, l2, vF_leT, vF_grT]
theorem meet_ab (s t : Se) : (s.meet t).ab = s.ab.meet t.ab := by
  obtain ⟨lo, hi, li, hf, vo⟩ := s
  obtain ⟨lo', hi', li', hf', vo'⟩ := t
  cases vo <;> cases vo' <;> cases li <;> cases hf <;> cases li' <;> cases hf' <;> simp [Se.meet, Se.meL, Se.meH, Se.ab, Ab.meet, Ab.sp, enF, m2, vF_leT, vF_grT]
end Iv
end Go.Proofs.YtfajgibpidlojaaDoor
end

section
/- Contracts of the intervals' closures: one, Has$1. Conditions: the sizes of what comes in. -/
set_option linter.unusedVariables false
set_option linter.unusedSimpArgs false
set_option maxHeartbeats 4000000
set_option maxRecDepth 8000
namespace Go.Proofs.YtfajgibpidlojaaDoor
namespace Iv
open Go Go.Proofs

/-- What Has comes to. -/
def spHas (a : Y) (x : X) : Except Int Bool := if a.good = true then (if numOk x = true then .ok (a.ab.has x.q) else .error 1) else .error 1
def X.cells (x : X) : List SV := [.bool x.neg, .words x.num, .words x.den]
def decCx : SV → Option X
  | .ref cs 0 => decX1 (.agg cs)
  | _ => none
theorem decCx_sub (x : SV) (y : X) (h : decCx x = some y) : Sub x (.ref y.cells 0) := by
  unfold decCx at h
  split at h
  · exact Sub.ref (agg_inv (decX1_sub _ _ h))
  · cases h
theorem decCx_plain {x : SV} {y : X} (h : decCx x = some y) : x.plain = true := by
  unfold decCx at h
  split at h
  · unfold decX1 at h
    split at h
    · rename_i e
      simp only [SV.agg.injEq] at e
      subst e
      split at h
      · rename_i h1 h2
        simp [SV.plain, SV.plainL, list_plain h1, list_plain h2]
      · cases h
    · cases h
  · cases h
/-! ### one -/
def oneS (p : Tr) : Se := ⟨p, p, false, false, false⟩
noncomputable def envOneS : Env := envOf [minusC]
theorem envOneS_ok : EnvOK Tryd.prog FF tbX envOneS := envOf_ok _
theorem oneS_wp (p : Tr) (K : Except Int SV → Prop) (hK : ∀ r, SubE r (.ok (oneS p).sv) → K r) :
    wpF tbX envOneS (wpDraw tbX envOneS) Tryd.f70 [sT p] K := by
  show K _
  exact hK _ ⟨rfl, Sub.refl _⟩
theorem oneS_holds (p : Tr) (h : True) : Holds Tryd.prog FF 70 [sT p] (.ok (oneS p).sv) :=
  holds_run mixed tbX_ok envOneS_ok Tryd.func70 rfl (by kernel_rfl) (args := [sT p]) (oneS_wp p _ fun _ hr => hr) (fun _ _ _ _ _ h => h)
def oneSC : Con Tryd.prog FF :=
  mkCon 70 (enters_of Tryd.func70 (by kernel_rfl) rfl) decF (fun p => [sT p]) (fun _ => True) (fun p => (oneS p).sv) decF_sub oneS_holds
/-! ### Has$1 -/
noncomputable def envHas : Env := envOf [sreadC, numberC, oneSC, meetC]
theorem envHas_ok : EnvOK Tryd.prog FF tbX envHas := envOf_ok _
def argHas (q : Y × X) : List SV := [.ref q.1.cells 0, .ref q.2.cells 0]
theorem has_fact (a : Y) (x : X) (h : a.good = true) (hx : numOk x = true) : (!(a.set.meet (oneS (tF x.q))).vo) = a.ab.has x.q := by
  rw [vo_ab, meet_ab, set_ab]
  show (a.ab.meet (some (some (vF (tF x.q)), some (vF (tF x.q))))).isSome = _
  rw [vF_tF]
  rfl
theorem has_wp (a : Y) (x : X) (ha : a.ok) (hx : x.ok) (K : Except Int SV → Prop) (hK : ∀ r, SubE r ((spHas a x).map (fun b => SV.bool b)) → K r) :
    wpF tbX envHas (wpDraw tbX envHas) Tryd.f67 (argHas (a, x)) K := by
  unfold spHas at hK
  refine And.intro ha (And.intro (fun h => ?_) (fun h => ?_))
  · have h1 : a.good = false := h
    rw [if_neg (by rw [h1]; decide)] at hK
    show K (.error 1)
    exact hK _ rfl
  have h1 : a.good = true := by
    have : ¬ a.good = false := h
    simpa only [Bool.not_eq_false] using this
  rw [if_pos h1] at hK
  refine And.intro (by kernel_rfl) (Or.inl ?_)
  refine And.intro hx (And.intro (fun h => ?_) (fun h => ?_))
  · have h2 : numOk x = false := h
    rw [if_neg (by rw [h2]; decide)] at hK
    show K (.error 1)
    exact hK _ rfl
  have h2 : numOk x = true := by
    have : ¬ numOk x = false := h
    simpa only [Bool.not_eq_false] using this
  rw [if_pos h2, ← has_fact a x h1 h2] at hK
  have f1 := (set_sm _ h1).fin
  have f2 : (oneS (tF x.q)).fin := ⟨fun _ => (numOk_ok h2).1, fun _ => (numOk_ok h2).1⟩
  refine And.intro trivial ?_
  show wpRes _ _ (.ok (oneS (tF x.q)).sv)
  generalize oneS (tF x.q) = t at *
  refine And.intro ⟨f1, f2⟩ ?_
  show K _
  exact hK _ ⟨rfl, Sub.refl _⟩
theorem has_holds (q : Y × X) (h : q.1.ok ∧ q.2.ok) : Holds Tryd.prog FF 67 (argHas q) ((spHas q.1 q.2).map (fun b => SV.bool b)) :=
  holds_run mixed tbX_ok envHas_ok Tryd.func67 rfl (by kernel_rfl) (args := argHas q) (has_wp q.1 q.2 h.1 h.2 _ fun _ hr => hr) (fun _ _ _ _ _ h => h)
def decHas : List SV → Option (Y × X)
  | [x, y] => match decC x, decCx y with
    | some a, some b => some (a, b)
    | _, _ => none
  | _ => none
theorem decHas_sub (xs : List SV) (p : Y × X) (h : decHas xs = some p) : SubL xs (argHas p) := by
  unfold decHas at h
  split at h
  · split at h
    · rename_i ha hb
      simp only [Option.some.injEq] at h
      subst h
      exact SubL.cons (decC_sub _ _ ha) (SubL.cons (decCx_sub _ _ hb) SubL.nil)
    · cases h
  · cases h
noncomputable def hasT : TCon Tryd.prog FF Bool (fun b => SV.bool b) where
  f := 67
  β := Y × X
  dec := decHas
  pre := fun q => q.1.ok ∧ q.2.ok
  res := fun q => spHas q.1 q.2
  ent := enters_of Tryd.func67 (by kernel_rfl) rfl
  pl := fun xs q h => by
    unfold decHas at h
    split at h
    · split at h
      · rename_i ha hb
        simp only [SV.plainL, SV.plain, decC_plain ha, decCx_plain hb, Bool.and_self]
      · cases h
    · cases h
  ok := fun xs q hd hp => fun M w vs hM ha => has_holds q hp M w vs hM (decHas_sub xs q hd _ _ _ _ _ ha)
/-- An interval and a number. -/
def decYX : List SV → Option (Y × X)
  | [x, y] => match decY1 x, decX1 y with
    | some a, some b => some (a, b)
    | _, _ => none
  | _ => none
theorem decYX_sub (xs : List SV) (p : Y × X) (h : decYX xs = some p) : SubL xs [p.1.sv, p.2.sv] := by
  unfold decYX at h
  split at h
  · split at h
    · rename_i ha hb
      simp only [Option.some.injEq] at h
      subst h
      exact SubL.cons (decY1_sub _ _ ha) (SubL.cons (decX1_sub _ _ hb) SubL.nil)
    · cases h
  · cases h
end Iv
end Go.Proofs.YtfajgibpidlojaaDoor
end

section
/- try at bools: the deferred function in both ways, and the whole. No condition. -/
set_option linter.unusedVariables false
set_option linter.unusedSimpArgs false
set_option maxHeartbeats 4000000
set_option maxRecDepth 8000
namespace Go.Proofs.YtfajgibpidlojaaDoor
namespace Iv
open Go Go.Proofs Go.RowKit

namespace TryO
def failTi : Ti := { row := true, zero := [.int .i64 0], offs := [(0, 1, false)], ik := none }
def tblT : List (TypeId × Ti) := (126, failTi) :: tblX
def tbT : Tb := { ti := tbOf tblT, u := 74, inl := fun _ => false, app := false }
theorem tbT_ok : TabOK Tryd.prog tbT := tbChk_spec (l := tblT) (by kernel_rfl)
theorem envT_ok : EnvOK Tryd.prog FF tbT env0 := ⟨fun f xs pre r h => by simp [env0] at h, fun f k h => by simp [env0] at h, fun f xs pre l h => by simp [env0] at h⟩
theorem dT_ok : DrawOK Tryd.prog tbT env0 FF (wpDraw tbT env0) := draw_ok mixed tbT_ok envT_ok

theorem assert_fail (v : Value) (w : World) : (Instr.typeAssert (.iface 126 v) 20 126 true).run Tryd.prog w = .ok (.tuple #[v, .bool true]) w := by kernel_rfl
/-- The deferred function, where nothing failed. -/
theorem idle (p q : Value) (w : World) :
    CallsD Tryd.prog 119 #[p, q] .returning w fun e u' w' => e = .returned (.tuple #[]) ∧ u' = .returning ∧ w' = w := by
  refine callsD_of_wpS Tryd.func119 rfl fun c₀ cs hu => ?_
  apply wpS_seq
  apply wpS_region
  simp [wpOpsS, go_sem, recoverD, hu, Tryd.ntmps119, Exit.thenS]
  refine wpS_of_wp ?_
  go_wp2
  cases c₀
  simp_all [bodyPostS, results, Tryd.results119]
/-- The code that takes the failure up. -/
def upC : Code → Code
  | .seq _ (.block _ (.seq _ (.cond _ _ (.seq _ (.cond _ c _))))) => c
  | c => c
noncomputable def upBody : Code := match Tryd.f119.body with | some c => upC c | none => .skip
def cs0 : List SV := [.bool false]
theorem upBody_chk : codeChk Tryd.prog tbT upBody = true := by kernel_rfl
def os0 (k : Int) : List Ob := [.var 4 cs0, .var 27 [.int .i64 k], .var 126 [.int .i64 k]]
theorem up_wp (k : Int) (Q : Ex → St → Prop) (c0 v : SV) (hQ : ∀ sl, Q .normal ⟨sl, os0 k⟩) :
    wpC tbT env0 (wpDraw tbT env0) (fun _ => False) upBody ⟨[.ptr 0 0, .ptr 1 0, .undef, .undef, .undef, .undef, .undef, .undef, .undef, .undef, .undef, .agg [.int .i64 k], .undef, .undef, .undef], [.var 4 [c0], .var 27 [v]]⟩ Q := by
  refine And.intro (by kernel_rfl) (Or.inl ?_)
  exact hQ _
theorem taken {U : Ctx tbT.u tbT.app} {Mc : Nat → Prop} {w0 w : World} {bnd : Nat → Option Value} {sl : List SV} {ac : Act} {c0 v : SV}
    (hi : Inv U Mc w0 bnd ⟨sl, [.var 4 [c0], .var 27 [v]]⟩ ac w) {p q : Value}
    (hp : Rp (Mut Mc bnd [.var 4 [c0], .var 27 [v]]) w0.heap.size bnd w (.ptr 0 0) p) (hq : Rp (Mut Mc bnd [.var 4 [c0], .var 27 [v]]) w0.heap.size bnd w (.ptr 1 0) q) (k : Int) (older : List PanicEntry) :
    CallsD Tryd.prog 119 #[p, q] (.panicking ({ v := failV FF k, recovered := false } :: older)) w fun e u' w' =>
      e = .returned (.tuple #[]) ∧ u' = .panicking ({ v := failV FF k, recovered := true } :: older) ∧ ∃ bnd', Inv U Mc w0 bnd' ⟨sl, os0 k⟩ ac w' := by
  have hv0 : ∀ x : Value, Rp (Mut Mc bnd [.var 4 [c0], .var 27 [v]]) w0.heap.size bnd w .undef x := fun _ => trivial
  refine callsD_of_wpS Tryd.func119 rfl fun c₀ cs hu => ?_
  apply wpS_seq
  apply wpS_region
  simp [wpOpsS, go_sem, recoverD, hu, Tryd.ntmps119, Exit.thenS]
  refine wpS_of_wp ?_
  refine wp_block ?_
  refine wp_seq (wp_region_list ?_)
  simp only [failV, FF]
  simp [wpList, Oper.wp, Oper.upon, go_sem, Region.wanted]
  refine Or.inl ?_
  refine wp_cond_false (by simp [Act.eval, Array.replicate]) ?_
  refine wp_seq (wp_region_list ?_)
  simp [wpList, Oper.wp, Oper.upon, go_sem, Region.wanted, assert_fail]
  refine Or.inl (Or.inl (Or.inl ?_))
  refine wp_cond_true (by simp [Act.eval, Array.replicate]) ?_
  have hf := hi.frame (xs := [.ptr 0 0, .ptr 1 0]) (vs := [p, q]) ⟨p, [q], rfl, hp, q, [], rfl, hq, rfl⟩
  have hi2 : Inv (u := tbT.u) (ap := tbT.app) ⟨sl ++ U.ks, ac.tmps.toList ++ U.kv, fun h => absurd h (by decide), []⟩ Mc w0 bnd ⟨[.ptr 0 0, .ptr 1 0, .undef, .undef, .undef, .undef, .undef, .undef, .undef, .undef, .undef, .agg [.int .i64 k], .undef, .undef, .undef], [.var 4 [c0], .var 27 [v]]⟩ 
      { tmps := #[p, q, undef, undef, undef, undef, .iface 126 (.agg #[.int .i64 k]), undef, .bool false, .tuple #[.agg #[.int .i64 k], .bool true], .bool true, .agg #[.int .i64 k], undef, undef, undef], defers := [] } w := by
    refine ⟨?_, rfl, hf.below, hf.obs, hf.dist, hf.mc, hf.keep⟩
    refine ⟨_, _, rfl, hp, _, _, rfl, hq, _, _, rfl, trivial, _, _, rfl, trivial, _, _, rfl, trivial, _, _, rfl, trivial, _, _, rfl, trivial, _, _, rfl, trivial, _, _, rfl, trivial, _, _, rfl, trivial, _, _, rfl, trivial, _, _, rfl, ⟨[.int .i64 k], rfl, _, [], rfl, rfl, rfl⟩, _, _, rfl, trivial, _, _, rfl, trivial, _, _, rfl, trivial, rfl⟩
  have hlen := hi.slots.length
  show Code.wp Tryd.prog upBody _ { tmps := #[p, q, undef, undef, undef, undef, .iface 126 (.agg #[.int .i64 k]), undef, .bool false, .tuple #[.agg #[.int .i64 k], .bool true], .bool true, .agg #[.int .i64 k], undef, undef, undef], defers := [] } w
  refine code_sound tbT_ok envT_ok dT_ok upBody (Q := fun x st => x = .normal ∧ ∃ sl', st = ⟨sl', os0 k⟩) upBody_chk ?_ ?_ hi2 (up_wp k _ c0 v fun sl' => ⟨rfl, sl', rfl⟩)
  · rintro x bnd' st' a' w' hinv ⟨rfl, sl', rfl⟩
    refine ⟨hinv.defs, _, rfl, .tuple #[], by simp [results, Tryd.results119], ?_⟩
    refine ⟨rfl, rfl, bnd', ?_⟩
    have h1 := hinv.keep.take sl.length
    have h2 := hinv.keep.drop sl.length
    dsimp only at h1 h2 hlen
    rw [List.take_left, ← hlen, List.take_left] at h1
    rw [List.drop_left, ← hlen, List.drop_left] at h2
    exact ⟨h1, hi.defs, hinv.below, hinv.obs, hinv.dist, hinv.mc, h2⟩
  · intro e a' w' h
    exact h.elim
def sl1 (f : FuncId) (caps : List SV) (x4 x5 x6 : SV) : List SV := [.fn f caps, .undef, .ptr 0 0, .ptr 1 0, x4, x5, x6]
def osv (z : Bool) (k : Int) : List Ob := [.var 4 (SV.cells ((fun b => SV.bool b) z)), .var 27 [.int .i64 k]]
theorem holds (f : FuncId) (caps : List SV) (r : Except Int Bool) (hen : Enters Tryd.prog f) (hpl : SV.plainL caps = true) (hd : Holds Tryd.prog FF f caps (r.map (fun b => SV.bool b))) :
    Holds Tryd.prog FF 66 [.fn f caps] (.ok (tOut (fun b => SV.bool b) false r)) := by
  intro M w vs hM ha
  refine calls_of_wp_defers Tryd.func66 rfl ?_
  have hi0 := Inv.start (tab := tbT) hM ha 7
  refine wp_seq ?_
  refine code_sound tbT_ok envT_ok dT_ok (E := fun _ => False) _ (Q := fun x st => x = .normal ∧ st = ⟨sl1 f caps .undef .undef .undef, [.var 4 cs0, .var 27 [.int .i64 0]]⟩) (by kernel_rfl) ?_ (fun e a' w' h => h.elim) hi0 ⟨rfl, rfl⟩
  rintro x bnd1 st1 a1 w1 hi1 ⟨rfl, rfl⟩
  refine wp_seq (wp_region_list ?_)
  refine wpList_one rfl ?_
  refine out_sound (env := env0) (E := fun _ => False) tbT_ok envT_ok hi1 _ (by kernel_rfl) (Q := fun st => st = ⟨sl1 f caps (.fn 119 [.ptr 0 0, .ptr 1 0]) .undef .undef, [.var 4 cs0, .var 27 [.int .i64 0]]⟩) rfl ?_ (fun e _ _ h => h.elim)
  rintro bnd2 st2 a2 w2 hi2 _ rfl
  refine wpList_one rfl ?_
  obtain ⟨vs4, e4, p, _, rfl, hp, q, _, rfl, hq, rfl⟩ := hi2.slots.getD 4 undef
  have e4' : a2.tmps.getD 4 undef = .func (.func 119) #[] #[p, q] := by simpa using e4
  have hdef : ∀ (o : Oper), o.op = .defer { callee := .value (.tmp 4), args := #[], argTypes := #[] } → (execOp a2.eval o).run Tryd.prog w2 = .ok (.defer { target := .fn (.func 119) #[p, q], args := #[] }) w2 := by
    intro o ho
    obtain ⟨_, _, _, _, _, _⟩ := o
    subst ho
    simp [execOp, Act.eval, e4', go_sem]
  unfold Oper.wp
  rw [hdef _ rfl]
  have hd2 := hi2.defs
  have hi3 := hi2.defer [{ target := .fn (.func 119) #[p, q], args := #[] }]
  obtain ⟨tm, df⟩ := a2
  dsimp only at hd2
  subst hd2
  show Code.wp _ _ _ { tmps := tm, defers := [{ target := .fn (.func 119) #[p, q], args := #[] }] } w2
  refine wp_seq (wp_region_list ?_)
  refine wpList_one rfl ?_
  refine out_sound (env := env0) (E := fun _ => False) tbT_ok envT_ok hi3 _ (by kernel_rfl) (Q := fun st => st = ⟨sl1 f caps (.fn 119 [.ptr 0 0, .ptr 1 0]) (.fn f caps) .undef, [.var 4 cs0, .var 27 [.int .i64 0]]⟩) rfl ?_ (fun e _ _ h => h.elim)
  rintro bnd5 st5 a5 w5 hi5 hb5 rfl
  obtain rfl := hb5 rfl
  refine wpList_one rfl ?_
  refine call_keep hi5 _ (f := f) (xs := caps) (by simp [opSem, St.ev, sl1, tbT, expoL_plain _ _ hpl]) hen hd ?_ ?_
  · intro x v w6 hr hcl hi6
    cases r with
    | error k => cases hr
    | ok z =>
      obtain rfl : x = (fun b => SV.bool b) z := by cases hr; rfl
      refine opsT_sound (env := env0) (E := fun _ => False) tbT_ok envT_ok (Q := fun st => st = ⟨sl1 f caps (.fn 119 [.ptr 0 0, .ptr 1 0]) (.fn f caps) ((fun b => SV.bool b) z), osv z 0⟩) ?_ (fun _ _ _ h => h.elim) _ _ _ _ _ (by intro o ho; simp only [List.mem_cons, List.not_mem_nil, or_false] at ho; rcases ho with rfl | rfl <;> kernel_rfl) hi6 rfl
      rintro bnd7 st7 a7 w7 hi7 rfl
      show Code.wp _ Code.ret _ a7 w7
      refine wp_ret ?_
      have hd7 := hi7.defs
      show Leaves _ _ a7.tmps _ a7.defers .returning w7
      rw [hd7]
      refine leaves_cons (f := 119) (args := #[p, q]) (by simp) (by simp [go_sem]) ?_
      refine (idle p q w7).mono ?_
      rintro e u' w8 ⟨rfl, rfl, rfl⟩
      exact door_end tbT_ok hi7 rfl rfl ⟨rfl, Sub.refl _⟩
  · intro k w6 hr hi6
    cases r with
    | ok z => cases hr
    | error k' =>
      obtain rfl : k' = k := by cases hr; rfl
      have hd6 := hi6.defs
      show Leaves _ _ a5.tmps _ a5.defers (.panicking _) w6
      rw [hd6]
      refine leaves_cons (f := 119) (args := #[p, q]) (by simp) (by simp [go_sem]) ?_
      refine (taken hi6 hp hq k' []).mono ?_
      rintro e u' w8 ⟨rfl, rfl, bnd8, hi8⟩
      show Leaves _ _ _ _ [] .returning w8
      exact door_end tbT_ok hi8 rfl rfl ⟨rfl, Sub.refl _⟩
theorem enters : Enters Tryd.prog 66 := enters_of Tryd.func66 (by kernel_rfl) rfl
/-- The contract of try at a function value. -/
noncomputable def con (t : TCon Tryd.prog FF Bool (fun b => SV.bool b)) : Con Tryd.prog FF := mkTry 66 enters false holds t
end TryO
end Iv
end Go.Proofs.YtfajgibpidlojaaDoor
end

section
/- The exported function Has. Conditions: the sizes of what comes in. -/
set_option linter.unusedVariables false
set_option linter.unusedSimpArgs false
set_option maxHeartbeats 4000000
set_option maxRecDepth 8000
namespace Go.Proofs.YtfajgibpidlojaaDoor
namespace Iv
open Go Go.Proofs

/-! ### PHas -/
noncomputable def envPHas : Env := envOf [TryO.con hasT]
theorem envPHas_ok : EnvOK Tryd.prog FF tbX envPHas := envOf_ok _
def argPHas (q : Y × X) : List SV := [q.1.sv, q.2.sv]
theorem PHas_wp (q : Y × X) (h : q.1.ok ∧ q.2.ok) (K : Except Int SV → Prop) (hK : ∀ r, SubE r (.ok (tOut (fun b => SV.bool b) false (spHas q.1 q.2))) → K r) :
    wpF tbX envPHas (wpDraw tbX envPHas) Tryd.f27 (argPHas q) K := by
  refine And.intro h (And.intro (fun h => ?_) (fun h => ?_))
  · have h : hasErr (spHas q.1 q.2) := h
    rw [tOut_err h] at hK
    show K _
    exact hK _ ⟨rfl, Sub.refl _⟩
  · have h : ¬ hasErr (spHas q.1 q.2) := h
    rw [tOut_ok h] at hK
    show K _
    exact hK _ ⟨rfl, Sub.refl _⟩
theorem PHas_holds (q : Y × X) (h : q.1.ok ∧ q.2.ok) : Holds Tryd.prog FF 27 (argPHas q) (tRes (fun b => SV.bool b) false (spHas q.1 q.2)).pick := by
  rw [tRes_pick]
  exact holds_run mixed tbX_ok envPHas_ok Tryd.func27 rfl (by kernel_rfl) (args := argPHas q) (PHas_wp q h _ fun _ hr => hr) (fun _ _ _ _ _ h => h)
def PHasC : Con Tryd.prog FF :=
  mkConR 27 (enters_of Tryd.func27 (by kernel_rfl) rfl) decYX argPHas (fun q => q.1.ok ∧ q.2.ok) (fun q => tRes (fun b => SV.bool b) false (spHas q.1 q.2)) decYX_sub PHas_holds
end Iv
end Go.Proofs.YtfajgibpidlojaaDoor
end

section
/- What the answers of the layer's functions may be: an error, or a canonical interval. No condition. -/
set_option linter.unusedVariables false
set_option linter.unusedSimpArgs false
namespace Go.Proofs.YtfajgibpidlojaaDoor
namespace Iv
open Go Go.Proofs

theorem spOne_okRes (a : Y) (F : Ab → Ab) (hF : ∀ x : Ab, x.wf → (F x).wf) : okRes (spOne a F) := by
  unfold spOne
  split
  · exact outA_okRes (hF _ (yab_wf a))
  · exact .inl ⟨1, by decide, rfl⟩
theorem spTwo_okRes (a b : Y) (F : Ab → Ab → Ab) (hF : ∀ x y : Ab, x.wf → y.wf → (F x y).wf) : okRes (spTwo a b F) := by
  unfold spTwo
  split
  · exact outA_okRes (hF _ _ (yab_wf a) (yab_wf b))
  · exact .inl ⟨1, by decide, rfl⟩
/-- Answers that are no intervals: any value with any error. -/
theorem tRes_any {α : Type} (sv : α → SV) (zero : α) (r : Except Int α) : ∃ (z : α) (e : Int), ∀ (Q : SV → Prop) (E : Int → Prop), Q (.tup [sv z, .int .i64 e]) → wpRes Q E (tRes sv zero r) := by
  cases r with
  | error e => exact ⟨zero, e, fun Q E hq => ⟨fun _ => hq, fun c => absurd ⟨e, rfl⟩ c⟩⟩
  | ok z => exact ⟨z, 0, fun Q E hq => ⟨fun ⟨e, c⟩ => (by cases c), fun _ => hq⟩⟩
end Iv
end Go.Proofs.YtfajgibpidlojaaDoor
end

section
/- The law's function has; number.Sign. Conditions: the sizes of what comes in. -/
set_option linter.unusedVariables false
set_option linter.unusedSimpArgs false
set_option maxHeartbeats 4000000
set_option maxRecDepth 8000
namespace Go.Proofs.YtfajgibpidlojaaDoor
namespace Iv
open Go Go.Proofs

def hasB (a : Y) (x : X) : Bool := okOf false (spHas a x)
noncomputable def envHasB : Env := envOf [PHasC]
theorem envHasB_ok : EnvOK Tryd.prog FF tbX envHasB := envOf_ok _
theorem hasB_wp (a : Y) (x : X) (ha : a.ok) (hx : x.ok) (K : Except Int SV → Prop) (hK : ∀ r, SubE r (.ok (.bool (hasB a x))) → K r) :
    wpF tbX envHasB (wpDraw tbX envHasB) Tryd.f39 [a.sv, x.sv] K := by
  unfold hasB at hK
  refine And.intro ⟨ha, hx⟩ (And.intro (fun h => ?_) (fun h => ?_))
  · have h : hasErr (spHas a x) := h
    obtain ⟨e, he⟩ := h
    rw [he] at hK
    show K _
    exact hK _ ⟨rfl, Sub.refl _⟩
  · have h : ¬ hasErr (spHas a x) := h
    obtain ⟨z, hz⟩ := not_hasErr h
    rw [hz] at hK
    show wpRes _ _ (.ok (.tup [.bool (okOf false (spHas a x)), .int .i64 0]))
    rw [hz]
    cases z
    · show K _
      exact hK _ ⟨rfl, Sub.refl _⟩
    · show K _
      exact hK _ ⟨rfl, Sub.refl _⟩
theorem hasB_holds (q : Y × X) (h : q.1.ok ∧ q.2.ok) : Holds Tryd.prog FF 39 [q.1.sv, q.2.sv] (.ok (.bool (hasB q.1 q.2))) :=
  holds_run mixed tbX_ok envHasB_ok Tryd.func39 rfl (by kernel_rfl) (args := [q.1.sv, q.2.sv]) (hasB_wp q.1 q.2 h.1 h.2 _ fun _ hr => hr) (fun _ _ _ _ _ h => h)
def hasBC : Con Tryd.prog FF :=
  mkCon 39 (enters_of Tryd.func39 (by kernel_rfl) rfl) decYX (fun q => [q.1.sv, q.2.sv]) (fun q => q.1.ok ∧ q.2.ok) (fun q => .bool (hasB q.1 q.2)) decYX_sub hasB_holds
/-! ### number.Sign -/
def spNS (x : X) : Except Int Int := if numOk x = true then .ok (sgR x.q) else .error 1
noncomputable def envNS : Env := envOf [readC FF, signC FF]
theorem envNS_ok : EnvOK Tryd.prog FF tbX envNS := envOf_ok _
theorem nsign_wp (x : X) (hx : x.ok) (K : Except Int SV → Prop) (hK : ∀ r, SubE r (.ok (tOut (fun n => SV.int .i64 n) 0 (spNS x))) → K r) :
    wpF tbX envNS (wpDraw tbX envNS) Tryd.f40 [x.sv] K := by
  unfold spNS at hK
  refine And.intro hx ?_
  refine ifB_mk (fun h => ?_) (fun h => ?_)
  · have h1 : numOk x = false := by
      have : (!(!long x && fit (nN x.q) x.q.den)) = true := h
      unfold numOk
      simpa only [Bool.not_eq_true'] using this
    rw [if_neg (by rw [h1]; decide)] at hK
    show K _
    exact hK _ ⟨rfl, Sub.refl _⟩
  · have h1 : numOk x = true := by
      have : (!(!long x && fit (nN x.q) x.q.den)) = false := h
      unfold numOk
      simpa only [Bool.not_eq_false'] using this
    have h2 : long x = false := by
      unfold numOk at h1
      cases hl : long x
      · rfl
      · rw [hl] at h1; cases h1
    rw [if_pos h1] at hK
    have e : sgZ (!long x && nB x.q) (if long x = true then 0 else nN x.q) = sgR x.q := by
      rw [h2]
      rfl
    refine And.intro trivial ?_
    show K (.ok (.tup [.int .i64 (sgZ (!long x && nB x.q) (if long x = true then 0 else nN x.q)), .int .i64 0]))
    rw [e]
    exact hK _ ⟨rfl, Sub.refl _⟩
theorem nsign_holds (x : X) (h : x.ok) : Holds Tryd.prog FF 40 [x.sv] (tRes (fun n => SV.int .i64 n) 0 (spNS x)).pick := by
  rw [tRes_pick]
  exact holds_run mixed tbX_ok envNS_ok Tryd.func40 rfl (by kernel_rfl) (args := [x.sv]) (nsign_wp x h _ fun _ hr => hr) (fun _ _ _ _ _ h => h)
def nsignC : Con Tryd.prog FF :=
  mkConR 40 (enters_of Tryd.func40 (by kernel_rfl) rfl) decX (fun x => [x.sv]) X.ok (fun x => tRes (fun n => SV.int .i64 n) 0 (spNS x)) decX_sub nsign_holds
end Iv
end Go.Proofs.YtfajgibpidlojaaDoor
end

section
/- What a question to one interval comes to; its decoder. No condition. Conditions: the sizes of what comes in. -/
set_option linter.unusedVariables false
set_option linter.unusedSimpArgs false
set_option maxHeartbeats 4000000
set_option maxRecDepth 8000
namespace Go.Proofs.YtfajgibpidlojaaDoor
namespace Iv
open Go Go.Proofs

/-- A question to one interval. -/
def spV {α : Type} (a : Y) (f : Ab → α) : Except Int α := if a.good = true then .ok (f a.ab) else .error 1
def decCl : List SV → Option Y
  | [x] => decC x
  | _ => none
theorem decCl_sub (xs : List SV) (p : Y) (h : decCl xs = some p) : SubL xs [.ref p.cells 0] := by
  unfold decCl at h
  split at h
  · exact SubL.cons (decC_sub _ _ h) SubL.nil
  · cases h
theorem decCl_plain {xs : List SV} {p : Y} (h : decCl xs = some p) : SV.plainL xs = true := by
  unfold decCl at h
  split at h
  · simp only [SV.plainL, SV.plain, decC_plain h, Bool.and_self]
  · cases h
end Iv
end Go.Proofs.YtfajgibpidlojaaDoor
end

section
/- Contracts of the intervals' closures: Sign$1. Conditions: the sizes of what comes in. -/
set_option linter.unusedVariables false
set_option linter.unusedSimpArgs false
set_option maxHeartbeats 4000000
set_option maxRecDepth 8000
namespace Go.Proofs.YtfajgibpidlojaaDoor
namespace Iv
open Go Go.Proofs

/-! ### Sign$1 -/
noncomputable def envSgn1 : Env := envOf [sreadC, signsC]
theorem envSgn1_ok : EnvOK Tryd.prog FF tbX envSgn1 := envOf_ok _
theorem Sgn1_wp (a : Y) (ha : a.ok) (K : Except Int SV → Prop) (hK : ∀ r, SubE r ((spV a Ab.sign).map (fun n => SV.int .i64 n)) → K r) :
    wpF tbX envSgn1 (wpDraw tbX envSgn1) Tryd.f93 [.ref a.cells 0] K := by
  unfold spV at hK
  refine And.intro ha (And.intro (fun h => ?_) (fun h => ?_))
  · have h1 : a.good = false := h
    rw [if_neg (by rw [h1]; decide)] at hK
    show K (.error 1)
    exact hK _ rfl
  have h1 : a.good = true := by
    have : ¬ a.good = false := h
    simpa only [Bool.not_eq_false] using this
  rw [if_pos h1] at hK
  have hk : a.set.okk := fun _ => (set_sm _ h1).fin
  have es := sl_sg a.set hk
  rw [← set_ab] at hK
  show wpRes _ _ (.ok a.set.sv)
  generalize a.set = s at *
  refine And.intro trivial ?_
  show wpRes _ _ (.ok (.tup [.int .i64 s.sl, .int .i64 s.sh]))
  have ha' : s.ab = if s.vo then none else some (enF s.li s.lo, enF s.hf s.hi) := rfl
  have hK : ∀ r, SubE r (.ok (.int .i64 s.ab.sign)) → K r := hK
  rw [ha'] at hK
  clear ha' hk
  cases hv : s.vo
  · obtain ⟨e1, e2⟩ := es hv
    rw [hv, if_neg (by decide)] at hK
    have hK : ∀ r, SubE r (.ok (.int .i64 (if sgL (enF s.li s.lo) > 0 then 2 else if sgH (enF s.hf s.hi) < 0 then -2 else if sgL (enF s.li s.lo) = 0 ∧ sgH (enF s.hf s.hi) = 0 then 0 else if sgL (enF s.li s.lo) = 0 then 1 else if sgH (enF s.hf s.hi) = 0 then -1 else 3))) → K r := hK
    rw [← e1, ← e2] at hK
    generalize s.sl = l at *
    generalize s.sh = g at *
    refine ifB_mk (fun h => ?_) (fun h => ?_)
    · have c : l > 0 := of_decide_eq_true h
      rw [if_pos c] at hK
      show K _
      exact hK _ ⟨rfl, Sub.refl _⟩
    · have c : ¬ l > 0 := of_decide_eq_false h
      rw [if_neg c] at hK
      clear h
      refine ifB_mk (fun h => ?_) (fun h => ?_)
      · have c : g < 0 := @of_decide_eq_true _ (Classical.propDecidable _) h
        rw [if_pos c] at hK
        show K _
        exact hK _ ⟨rfl, Sub.refl _⟩
      · have c : ¬ g < 0 := @of_decide_eq_false _ (Classical.propDecidable _) h
        rw [if_neg c] at hK
        clear h
        by_cases cl : l = 0
        · subst cl
          by_cases cg : g = 0
          · subst cg
            rw [if_pos ⟨rfl, rfl⟩] at hK
            show K _
            exact hK _ ⟨rfl, Sub.refl _⟩
          · rw [if_neg (fun k => cg k.2), if_pos rfl] at hK
            have hb : (g == 0) = false := by simpa using cg
            refine ifB_mk (fun h => ?_) (fun h => ?_)
            · exact absurd (show (g == 0) = true from h) (by rw [hb]; decide)
            · show K _
              exact hK _ ⟨rfl, Sub.refl _⟩
        · rw [if_neg (fun k => cl k.1), if_neg cl] at hK
          have hb : (l == 0) = false := by simpa using cl
          refine ifB_mk (fun h => ?_) (fun h => ?_)
          · exact absurd (show (l == 0) = true from h) (by rw [hb]; decide)
          · refine ifB_mk (fun h2 => ?_) (fun h2 => ?_)
            · exact absurd (show (l == 0) = true from h2) (by rw [hb]; decide)
            · by_cases cg : g = 0
              · subst cg
                rw [if_pos rfl] at hK
                show K _
                exact hK _ ⟨rfl, Sub.refl _⟩
              · have hb' : (g == 0) = false := by simpa using cg
                rw [if_neg cg] at hK
                refine ifB_mk (fun h3 => ?_) (fun h3 => ?_)
                · exact absurd (show (g == 0) = true from h3) (by rw [hb']; decide)
                · show K _
                  exact hK _ ⟨rfl, Sub.refl _⟩
  · rw [hv, if_pos rfl] at hK
    show K _
    exact hK _ ⟨rfl, Sub.refl _⟩
theorem Sgn1_holds (a : Y) (h : a.ok) : Holds Tryd.prog FF 93 [.ref a.cells 0] ((spV a Ab.sign).map (fun n => SV.int .i64 n)) :=
  holds_run mixed tbX_ok envSgn1_ok Tryd.func93 rfl (by kernel_rfl) (args := [.ref a.cells 0]) (Sgn1_wp a h _ fun _ hr => hr) (fun _ _ _ _ _ h => h)
noncomputable def Sgn1T : TCon Tryd.prog FF Int (fun n => SV.int .i64 n) where
  f := 93
  β := Y
  dec := decCl
  pre := fun q => q.ok
  res := fun q => spV q Ab.sign
  ent := enters_of Tryd.func93 (by kernel_rfl) rfl
  pl := fun xs q h => decCl_plain h
  ok := fun xs q hd hp => fun M w vs hM ha => Sgn1_holds q hp M w vs hM (decCl_sub xs q hd _ _ _ _ _ ha)
end Iv
end Go.Proofs.YtfajgibpidlojaaDoor
end

section
/- try at ints: the deferred function in both ways, and the whole. No condition. -/
set_option linter.unusedVariables false
set_option linter.unusedSimpArgs false
set_option maxHeartbeats 4000000
set_option maxRecDepth 8000
namespace Go.Proofs.YtfajgibpidlojaaDoor
namespace Iv
open Go Go.Proofs Go.RowKit

namespace TryN
def failTi : Ti := { row := true, zero := [.int .i64 0], offs := [(0, 1, false)], ik := none }
def tblT : List (TypeId × Ti) := (126, failTi) :: tblX
def tbT : Tb := { ti := tbOf tblT, u := 74, inl := fun _ => false, app := false }
theorem tbT_ok : TabOK Tryd.prog tbT := tbChk_spec (l := tblT) (by kernel_rfl)
theorem envT_ok : EnvOK Tryd.prog FF tbT env0 := ⟨fun f xs pre r h => by simp [env0] at h, fun f k h => by simp [env0] at h, fun f xs pre l h => by simp [env0] at h⟩
theorem dT_ok : DrawOK Tryd.prog tbT env0 FF (wpDraw tbT env0) := draw_ok mixed tbT_ok envT_ok

theorem assert_fail (v : Value) (w : World) : (Instr.typeAssert (.iface 126 v) 20 126 true).run Tryd.prog w = .ok (.tuple #[v, .bool true]) w := by kernel_rfl
/-- The deferred function, where nothing failed. -/
theorem idle (p q : Value) (w : World) :
    CallsD Tryd.prog 145 #[p, q] .returning w fun e u' w' => e = .returned (.tuple #[]) ∧ u' = .returning ∧ w' = w := by
  refine callsD_of_wpS Tryd.func145 rfl fun c₀ cs hu => ?_
  apply wpS_seq
  apply wpS_region
  simp [wpOpsS, go_sem, recoverD, hu, Tryd.ntmps145, Exit.thenS]
  refine wpS_of_wp ?_
  go_wp2
  cases c₀
  simp_all [bodyPostS, results, Tryd.results145]
/-- The code that takes the failure up. -/
def upC : Code → Code
  | .seq _ (.block _ (.seq _ (.cond _ _ (.seq _ (.cond _ c _))))) => c
  | c => c
noncomputable def upBody : Code := match Tryd.f145.body with | some c => upC c | none => .skip
def cs0 : List SV := [.int .i64 0]
theorem upBody_chk : codeChk Tryd.prog tbT upBody = true := by kernel_rfl
def os0 (k : Int) : List Ob := [.var 3 cs0, .var 27 [.int .i64 k], .var 126 [.int .i64 k]]
theorem up_wp (k : Int) (Q : Ex → St → Prop) (c0 v : SV) (hQ : ∀ sl, Q .normal ⟨sl, os0 k⟩) :
    wpC tbT env0 (wpDraw tbT env0) (fun _ => False) upBody ⟨[.ptr 0 0, .ptr 1 0, .undef, .undef, .undef, .undef, .undef, .undef, .undef, .undef, .undef, .agg [.int .i64 k], .undef, .undef, .undef], [.var 3 [c0], .var 27 [v]]⟩ Q := by
  refine And.intro (by kernel_rfl) (Or.inl ?_)
  exact hQ _
theorem taken {U : Ctx tbT.u tbT.app} {Mc : Nat → Prop} {w0 w : World} {bnd : Nat → Option Value} {sl : List SV} {ac : Act} {c0 v : SV}
    (hi : Inv U Mc w0 bnd ⟨sl, [.var 3 [c0], .var 27 [v]]⟩ ac w) {p q : Value}
    (hp : Rp (Mut Mc bnd [.var 3 [c0], .var 27 [v]]) w0.heap.size bnd w (.ptr 0 0) p) (hq : Rp (Mut Mc bnd [.var 3 [c0], .var 27 [v]]) w0.heap.size bnd w (.ptr 1 0) q) (k : Int) (older : List PanicEntry) :
    CallsD Tryd.prog 145 #[p, q] (.panicking ({ v := failV FF k, recovered := false } :: older)) w fun e u' w' =>
      e = .returned (.tuple #[]) ∧ u' = .panicking ({ v := failV FF k, recovered := true } :: older) ∧ ∃ bnd', Inv U Mc w0 bnd' ⟨sl, os0 k⟩ ac w' := by
  have hv0 : ∀ x : Value, Rp (Mut Mc bnd [.var 3 [c0], .var 27 [v]]) w0.heap.size bnd w .undef x := fun _ => trivial
  refine callsD_of_wpS Tryd.func145 rfl fun c₀ cs hu => ?_
  apply wpS_seq
  apply wpS_region
  simp [wpOpsS, go_sem, recoverD, hu, Tryd.ntmps145, Exit.thenS]
  refine wpS_of_wp ?_
  refine wp_block ?_
  refine wp_seq (wp_region_list ?_)
  simp only [failV, FF]
  simp [wpList, Oper.wp, Oper.upon, go_sem, Region.wanted]
  refine Or.inl ?_
  refine wp_cond_false (by simp [Act.eval, Array.replicate]) ?_
  refine wp_seq (wp_region_list ?_)
  simp [wpList, Oper.wp, Oper.upon, go_sem, Region.wanted, assert_fail]
  refine Or.inl (Or.inl (Or.inl ?_))
  refine wp_cond_true (by simp [Act.eval, Array.replicate]) ?_
  have hf := hi.frame (xs := [.ptr 0 0, .ptr 1 0]) (vs := [p, q]) ⟨p, [q], rfl, hp, q, [], rfl, hq, rfl⟩
  have hi2 : Inv (u := tbT.u) (ap := tbT.app) ⟨sl ++ U.ks, ac.tmps.toList ++ U.kv, fun h => absurd h (by decide), []⟩ Mc w0 bnd ⟨[.ptr 0 0, .ptr 1 0, .undef, .undef, .undef, .undef, .undef, .undef, .undef, .undef, .undef, .agg [.int .i64 k], .undef, .undef, .undef], [.var 3 [c0], .var 27 [v]]⟩ 
      { tmps := #[p, q, undef, undef, undef, undef, .iface 126 (.agg #[.int .i64 k]), undef, .bool false, .tuple #[.agg #[.int .i64 k], .bool true], .bool true, .agg #[.int .i64 k], undef, undef, undef], defers := [] } w := by
    refine ⟨?_, rfl, hf.below, hf.obs, hf.dist, hf.mc, hf.keep⟩
    refine ⟨_, _, rfl, hp, _, _, rfl, hq, _, _, rfl, trivial, _, _, rfl, trivial, _, _, rfl, trivial, _, _, rfl, trivial, _, _, rfl, trivial, _, _, rfl, trivial, _, _, rfl, trivial, _, _, rfl, trivial, _, _, rfl, trivial, _, _, rfl, ⟨[.int .i64 k], rfl, _, [], rfl, rfl, rfl⟩, _, _, rfl, trivial, _, _, rfl, trivial, _, _, rfl, trivial, rfl⟩
  have hlen := hi.slots.length
  show Code.wp Tryd.prog upBody _ { tmps := #[p, q, undef, undef, undef, undef, .iface 126 (.agg #[.int .i64 k]), undef, .bool false, .tuple #[.agg #[.int .i64 k], .bool true], .bool true, .agg #[.int .i64 k], undef, undef, undef], defers := [] } w
  refine code_sound tbT_ok envT_ok dT_ok upBody (Q := fun x st => x = .normal ∧ ∃ sl', st = ⟨sl', os0 k⟩) upBody_chk ?_ ?_ hi2 (up_wp k _ c0 v fun sl' => ⟨rfl, sl', rfl⟩)
  · rintro x bnd' st' a' w' hinv ⟨rfl, sl', rfl⟩
    refine ⟨hinv.defs, _, rfl, .tuple #[], by simp [results, Tryd.results145], ?_⟩
    refine ⟨rfl, rfl, bnd', ?_⟩
    have h1 := hinv.keep.take sl.length
    have h2 := hinv.keep.drop sl.length
    dsimp only at h1 h2 hlen
    rw [List.take_left, ← hlen, List.take_left] at h1
    rw [List.drop_left, ← hlen, List.drop_left] at h2
    exact ⟨h1, hi.defs, hinv.below, hinv.obs, hinv.dist, hinv.mc, h2⟩
  · intro e a' w' h
    exact h.elim
def sl1 (f : FuncId) (caps : List SV) (x4 x5 x6 : SV) : List SV := [.fn f caps, .undef, .ptr 0 0, .ptr 1 0, x4, x5, x6]
def osv (z : Int) (k : Int) : List Ob := [.var 3 (SV.cells ((fun n => SV.int .i64 n) z)), .var 27 [.int .i64 k]]
theorem holds (f : FuncId) (caps : List SV) (r : Except Int Int) (hen : Enters Tryd.prog f) (hpl : SV.plainL caps = true) (hd : Holds Tryd.prog FF f caps (r.map (fun n => SV.int .i64 n))) :
    Holds Tryd.prog FF 92 [.fn f caps] (.ok (tOut (fun n => SV.int .i64 n) 0 r)) := by
  intro M w vs hM ha
  refine calls_of_wp_defers Tryd.func92 rfl ?_
  have hi0 := Inv.start (tab := tbT) hM ha 7
  refine wp_seq ?_
  refine code_sound tbT_ok envT_ok dT_ok (E := fun _ => False) _ (Q := fun x st => x = .normal ∧ st = ⟨sl1 f caps .undef .undef .undef, [.var 3 cs0, .var 27 [.int .i64 0]]⟩) (by kernel_rfl) ?_ (fun e a' w' h => h.elim) hi0 ⟨rfl, rfl⟩
  rintro x bnd1 st1 a1 w1 hi1 ⟨rfl, rfl⟩
  refine wp_seq (wp_region_list ?_)
  refine wpList_one rfl ?_
  refine out_sound (env := env0) (E := fun _ => False) tbT_ok envT_ok hi1 _ (by kernel_rfl) (Q := fun st => st = ⟨sl1 f caps (.fn 145 [.ptr 0 0, .ptr 1 0]) .undef .undef, [.var 3 cs0, .var 27 [.int .i64 0]]⟩) rfl ?_ (fun e _ _ h => h.elim)
  rintro bnd2 st2 a2 w2 hi2 _ rfl
  refine wpList_one rfl ?_
  obtain ⟨vs4, e4, p, _, rfl, hp, q, _, rfl, hq, rfl⟩ := hi2.slots.getD 4 undef
  have e4' : a2.tmps.getD 4 undef = .func (.func 145) #[] #[p, q] := by simpa using e4
  have hdef : ∀ (o : Oper), o.op = .defer { callee := .value (.tmp 4), args := #[], argTypes := #[] } → (execOp a2.eval o).run Tryd.prog w2 = .ok (.defer { target := .fn (.func 145) #[p, q], args := #[] }) w2 := by
    intro o ho
    obtain ⟨_, _, _, _, _, _⟩ := o
    subst ho
    simp [execOp, Act.eval, e4', go_sem]
  unfold Oper.wp
  rw [hdef _ rfl]
  have hd2 := hi2.defs
  have hi3 := hi2.defer [{ target := .fn (.func 145) #[p, q], args := #[] }]
  obtain ⟨tm, df⟩ := a2
  dsimp only at hd2
  subst hd2
  show Code.wp _ _ _ { tmps := tm, defers := [{ target := .fn (.func 145) #[p, q], args := #[] }] } w2
  refine wp_seq (wp_region_list ?_)
  refine wpList_one rfl ?_
  refine out_sound (env := env0) (E := fun _ => False) tbT_ok envT_ok hi3 _ (by kernel_rfl) (Q := fun st => st = ⟨sl1 f caps (.fn 145 [.ptr 0 0, .ptr 1 0]) (.fn f caps) .undef, [.var 3 cs0, .var 27 [.int .i64 0]]⟩) rfl ?_ (fun e _ _ h => h.elim)
  rintro bnd5 st5 a5 w5 hi5 hb5 rfl
  obtain rfl := hb5 rfl
  refine wpList_one rfl ?_
  refine call_keep hi5 _ (f := f) (xs := caps) (by simp [opSem, St.ev, sl1, tbT, expoL_plain _ _ hpl]) hen hd ?_ ?_
  · intro x v w6 hr hcl hi6
    cases r with
    | error k => cases hr
    | ok z =>
      obtain rfl : x = (fun n => SV.int .i64 n) z := by cases hr; rfl
      refine opsT_sound (env := env0) (E := fun _ => False) tbT_ok envT_ok (Q := fun st => st = ⟨sl1 f caps (.fn 145 [.ptr 0 0, .ptr 1 0]) (.fn f caps) ((fun n => SV.int .i64 n) z), osv z 0⟩) ?_ (fun _ _ _ h => h.elim) _ _ _ _ _ (by intro o ho; simp only [List.mem_cons, List.not_mem_nil, or_false] at ho; rcases ho with rfl | rfl <;> kernel_rfl) hi6 rfl
      rintro bnd7 st7 a7 w7 hi7 rfl
      show Code.wp _ Code.ret _ a7 w7
      refine wp_ret ?_
      have hd7 := hi7.defs
      show Leaves _ _ a7.tmps _ a7.defers .returning w7
      rw [hd7]
      refine leaves_cons (f := 145) (args := #[p, q]) (by simp) (by simp [go_sem]) ?_
      refine (idle p q w7).mono ?_
      rintro e u' w8 ⟨rfl, rfl, rfl⟩
      exact door_end tbT_ok hi7 rfl rfl ⟨rfl, Sub.refl _⟩
  · intro k w6 hr hi6
    cases r with
    | ok z => cases hr
    | error k' =>
      obtain rfl : k' = k := by cases hr; rfl
      have hd6 := hi6.defs
      show Leaves _ _ a5.tmps _ a5.defers (.panicking _) w6
      rw [hd6]
      refine leaves_cons (f := 145) (args := #[p, q]) (by simp) (by simp [go_sem]) ?_
      refine (taken hi6 hp hq k' []).mono ?_
      rintro e u' w8 ⟨rfl, rfl, bnd8, hi8⟩
      show Leaves _ _ _ _ [] .returning w8
      exact door_end tbT_ok hi8 rfl rfl ⟨rfl, Sub.refl _⟩
theorem enters : Enters Tryd.prog 92 := enters_of Tryd.func92 (by kernel_rfl) rfl
/-- The contract of try at a function value. -/
noncomputable def con (t : TCon Tryd.prog FF Int (fun n => SV.int .i64 n)) : Con Tryd.prog FF := mkTry 92 enters 0 holds t
end TryN
end Iv
end Go.Proofs.YtfajgibpidlojaaDoor
end

section
/- The exported function Sign. Conditions: the sizes of what comes in. -/
set_option linter.unusedVariables false
set_option linter.unusedSimpArgs false
set_option maxHeartbeats 4000000
set_option maxRecDepth 8000
namespace Go.Proofs.YtfajgibpidlojaaDoor
namespace Iv
open Go Go.Proofs

/-! ### PSgn -/
noncomputable def envPSgn : Env := envOf [TryN.con Sgn1T]
theorem envPSgn_ok : EnvOK Tryd.prog FF tbX envPSgn := envOf_ok _
def argPSgn (q : Y) : List SV := [q.sv]
theorem PSgn_wp (q : Y) (h : q.ok) (K : Except Int SV → Prop) (hK : ∀ r, SubE r (.ok (tOut (fun n => SV.int .i64 n) 0 (spV q Ab.sign))) → K r) :
    wpF tbX envPSgn (wpDraw tbX envPSgn) Tryd.f38 (argPSgn q) K := by
  refine And.intro h (And.intro (fun h => ?_) (fun h => ?_))
  · have h : hasErr (spV q Ab.sign) := h
    rw [tOut_err h] at hK
    show K _
    exact hK _ ⟨rfl, Sub.refl _⟩
  · have h : ¬ hasErr (spV q Ab.sign) := h
    rw [tOut_ok h] at hK
    show K _
    exact hK _ ⟨rfl, Sub.refl _⟩
theorem PSgn_holds (q : Y) (h : q.ok) : Holds Tryd.prog FF 38 (argPSgn q) (tRes (fun n => SV.int .i64 n) 0 (spV q Ab.sign)).pick := by
  rw [tRes_pick]
  exact holds_run mixed tbX_ok envPSgn_ok Tryd.func38 rfl (by kernel_rfl) (args := argPSgn q) (PSgn_wp q h _ fun _ hr => hr) (fun _ _ _ _ _ h => h)
def PSgnC : Con Tryd.prog FF :=
  mkConR 38 (enters_of Tryd.func38 (by kernel_rfl) rfl) decY argPSgn (fun q => q.ok) (fun q => tRes (fun n => SV.int .i64 n) 0 (spV q Ab.sign)) decY_sub PSgn_holds
end Iv
end Go.Proofs.YtfajgibpidlojaaDoor
end

section
/- The law IntervalGuess. Conditions: the sizes of what comes in. -/
set_option linter.unusedVariables false
set_option linter.unusedSimpArgs false
set_option maxHeartbeats 4000000
set_option maxRecDepth 8000
namespace Go.Proofs.YtfajgibpidlojaaDoor
namespace Iv
open Go Go.Proofs

theorem sgq_tri (x : Rat) : sgR x = -1 ∨ sgR x = 0 ∨ sgR x = 1 := by
  unfold sgR
  split
  · exact .inr (.inl rfl)
  · split
    · exact .inl rfl
    · exact .inr (.inr rfl)
theorem sgq_mono {x y : Rat} (h : x ≤ y) : sgR x ≤ sgR y := by
  rcases sgq_tri x with e | e | e <;> rcases sgq_tri y with f | f | f <;> rw [e, f] <;> try decide
  · exfalso
    have h1 := sgR_eq.1 e
    have h2 := sgR_lt.1 (show sgR y < 0 by rw [f]; decide)
    grind
  · exfalso
    have h1 := sgR_pos.1 (show sgR x > 0 by rw [e]; decide)
    have h2 := sgR_lt.1 (show sgR y < 0 by rw [f]; decide)
    grind
  · exfalso
    have h1 := sgR_pos.1 (show sgR x > 0 by rw [e]; decide)
    have h2 := sgR_eq.1 f
    grind
theorem guess_fact (A : Ab) (q : Rat) (h : A.has q = true) : (A.sign = 2 ∧ sgR q = 1) ∨ (A.sign = 1 ∧ sgR q ≥ 0) ∨ (A.sign = 0 ∧ sgR q = 0) ∨ (A.sign = -1 ∧ sgR q ≤ 0) ∨ (A.sign = -2 ∧ sgR q = -1) ∨ A.sign = 3 := by
  match A, h with
  | none, h => exact Bool.noConfusion (show false = true from h)
  | some (a, b), h =>
    rw [has_in, Bool.and_eq_true] at h
    have r := sgq_tri q
    have hl : sgL a ≤ sgR q := by
      match a, h.1 with
      | none, _ => show -1 ≤ sgR q; omega
      | some l, h1 => exact sgq_mono (cmpR_le.1 (of_decide_eq_true h1))
    have hh : sgR q ≤ sgH b := by
      match b, h.2 with
      | none, _ => show sgR q ≤ 1; omega
      | some u, h1 => exact sgq_mono (cmpR_le.1 (of_decide_eq_true h1))
    have es : Ab.sign (some (a, b)) = (if sgL a > 0 then 2 else if sgH b < 0 then -2 else if sgL a = 0 ∧ sgH b = 0 then 0 else if sgL a = 0 then 1 else if sgH b = 0 then -1 else 3) := rfl
    rw [es]
    generalize sgL a = l at *
    generalize sgH b = u at *
    generalize sgR q = t at *
    (repeat' split) <;> omega
theorem hasB_true {a : Y} {x : X} (h : hasB a x = true) : numOk x = true ∧ a.ab.has x.q = true := by
  unfold hasB spHas at h
  split at h
  · split at h
    · rename_i h1 h2
      exact ⟨h2, h⟩
    · cases h
  · cases h
noncomputable def envGue : Env := envOf [PSgnC, hasBC, nsignC, awakeC]
theorem envGue_ok : EnvOK Tryd.prog FF tbX envGue := envOf_ok _
theorem gue_wp (a : Y) (x : X) (ha : a.ok) (hx : x.ok) (K : Except Int SV → Prop) (hK : ∀ r, SubE r (.ok (.bool true)) → K r) :
    wpF tbX envGue (wpDraw tbX envGue) Tryd.f10 [a.sv, x.sv] K := by
  refine And.intro ha (And.intro (fun h => ?_) (fun h => ?_))
  · have h : hasErr (spV a Ab.sign) := h
    have he : spV a Ab.sign = .error 1 := by
      unfold spV at h ⊢
      split
      · rename_i c
        rw [if_pos c] at h
        obtain ⟨e, c⟩ := h
        cases c
      · rfl
    show wpRes _ _ (.ok (.tup [.int .i64 0, .int .i64 (errOf (spV a Ab.sign))]))
    rw [he]
    refine And.intro trivial ?_
    show K _
    exact hK _ ⟨rfl, Sub.refl _⟩
  · have h : ¬ hasErr (spV a Ab.sign) := h
    have he : okOf 0 (spV a Ab.sign) = a.ab.sign := by
      unfold spV at h ⊢
      split
      · rfl
      · rename_i c
        rw [if_neg c] at h
        exact absurd ⟨_, rfl⟩ h
    show wpRes _ _ (.ok (.tup [.int .i64 (okOf 0 (spV a Ab.sign)), .int .i64 0]))
    rw [he]
    clear h he
    refine And.intro ⟨ha, hx⟩ ?_
    show wpRes _ _ (.ok (.bool (hasB a x)))
    cases hb : hasB a x
    · refine And.intro trivial ?_
      show K _
      exact hK _ ⟨rfl, Sub.refl _⟩
    · obtain ⟨n1, n2⟩ := hasB_true hb
      have hf := guess_fact a.ab x.q n2
      have ht := sgq_tri x.q
      have hs : spNS x = .ok (sgR x.q) := if_pos n1
      generalize a.ab.sign = k at *
      refine And.intro hx (And.intro (fun h => ?_) (fun h => ?_))
      · have h : hasErr (spNS x) := h
        obtain ⟨e, h⟩ := h
        rw [hs] at h
        cases h
      · show wpRes _ _ (.ok (.tup [.int .i64 (okOf 0 (spNS x)), .int .i64 0]))
        rw [hs]
        show wpRes _ _ (.ok (.tup [.int .i64 (sgR x.q), .int .i64 0]))
        generalize sgR x.q = t at *
        clear hb n1 n2 hs h
        rcases hf with ⟨rfl, hf⟩ | ⟨rfl, hf⟩ | ⟨rfl, hf⟩ | ⟨rfl, hf⟩ | ⟨rfl, hf⟩ | rfl <;> rcases ht with rfl | rfl | rfl <;>
          first
          | (exfalso; revert hf; decide)
          | (refine And.intro trivial ?_
             show K _
             exact hK _ ⟨rfl, Sub.refl _⟩)
theorem gue_holds (q : Y × X) (h : q.1.ok ∧ q.2.ok) : Holds Tryd.prog FF 10 [q.1.sv, q.2.sv] (.ok (.bool true)) :=
  holds_run mixed tbX_ok envGue_ok Tryd.func10 rfl (by kernel_rfl) (args := [q.1.sv, q.2.sv]) (gue_wp q.1 q.2 h.1 h.2 _ fun _ hr => hr) (fun _ _ _ _ _ h => h)
end Iv
end Go.Proofs.YtfajgibpidlojaaDoor
end

section
/- How a number that comes in reads. Condition: its bulk. -/
set_option linter.unusedVariables false
set_option linter.unusedSimpArgs false
set_option maxRecDepth 8000
namespace Go.Proofs.YtfajgibpidlojaaDoor
namespace Iv
open Go Go.Proofs Go.ChangeShapes Go.WideShapes Go.ChangeAt Go.RowKit

theorem array3 {α : Type} {cs : Array α} (h : cs.size = 3) : ∃ a b c, cs = #[a, b, c] := by
  obtain ⟨l⟩ := cs
  match l, h with
  | [a, b, c], _ => exact ⟨a, b, c, rfl⟩
section
variable {H : Type} {enc : TypeId × Value → H} {W : World} {M : Nat → Prop} {N : Nat} {bnd : Nat → Option Value}
theorem read_num (hM : ∀ b, ¬ M b) {r : Reach} {b0 : Nat} {v : Value} {d : DataW H} {ps : List MemPlace} (hv : Value.okWide Tryd.prog W r b0 24 v) (h : DataW.Trod enc Tryd.prog W 0 (fun _ => true) true 24 v d ps) (hb : Rows.uptoBulk d ≤ 1048576) :
    ∃ y : X, y.ok ∧ Rp M N bnd W y.sv v := by
  obtain ⟨cs, rfl, hsz⟩ := okWide_struct Tryd.underlying24 hv
  obtain ⟨c0, c1, c2, rfl⟩ := array3 (hsz.trans cellsRat)
  obtain ⟨fuel, hf⟩ := h
  obtain ⟨x0, o0, e0, w1, w2⟩ := read_rat hM (c0 := c0) (c1 := c1) (c2 := c2) (by simpa [Value.cells] using hf) hb
  subst e0
  refine ⟨x0, o0, ?_⟩
  exact ⟨_, rfl, _, _, rfl, rfl, _, _, rfl, w1, _, _, rfl, w2, rfl⟩
end
end Iv
end Go.Proofs.YtfajgibpidlojaaDoor
end

section
/-
  The law IntervalGuess answers true and leaves its arguments as they read: for all intervals, numbers and precisions whose reading is together of bulk at most 1048576; the library's table math/bits.deBruijn32tab lies as the program's text lays it (the card ties it).
-/
set_option linter.unusedVariables false
set_option linter.unusedSimpArgs false
set_option maxRecDepth 8000
namespace Go.Proofs.YtfajgibpidlojaaDoor.intervalGuess
open Go Go.Proofs Go.ChangeShapes Go.WideShapes Go.ChangeAt Go.RowKit Go.Proofs.YtfajgibpidlojaaDoor.Iv

theorem own : ownKnob Tryd.prog.godebug = none := by kernel_rfl
theorem contract (H : Type) (enc : TypeId × Value → H) (W : World) (base : Nat) (args : Array Value) (ds gs : List (DataW H)) (before : List MemPlace)
    (hval : ∀ (j : Nat) t v, Tryd.f10.params[j]? = some t → args[j]? = some v → Value.okWide Tryd.prog W .any base t v)
    (hW : DataW.Whole enc Tryd.prog Tryd.f10.params.toList Rows.intervalGuessSpec.vars false W args.toList ds gs before) (hbulk : Rows.uptoSmall H (ds ++ gs) = true) (hL : laidMetH Tryd.prog Rows.intervalGuessUptoRow.laid W) :
    Calls Tryd.prog 10 args W fun e W' => ∃ v, e = .returned v ∧ Rows.intervalGuessSpec.post enc Tryd.prog Tryd.f10 false true false false W args v W' := by
  have hW' := hW
  obtain ⟨p, q, hA0, hV, rfl, _, _⟩ := hW
  have hA : DataW.TrodAll enc Tryd.prog W 0 (fun _ => true) true Tryd.f10.params.toList args.toList ds p := hA0
  rw [Tryd.params10] at hA hval
  obtain ⟨v0, vs0, d0, ds0, p0, q0, hargs, rfl, rfl, h0, r0⟩ := trodAll_cons hA
  obtain ⟨v1, vs1, d1, ds1, p1, q1, rfl, rfl, rfl, h1, r1⟩ := trodAll_cons r0
  obtain ⟨rfl, rfl, rfl⟩ := trodAll_nil r1
  obtain rfl : args = #[v0, v1] := by cases args; simp_all
  obtain ⟨rfl, rfl⟩ := trodVars_none hV
  clear hA0
  simp only [List.append_nil, List.append_assoc] at hW'
  have hb0 : Rows.uptoBulkAll [d0, d1] ≤ 1048576 := by
    have := of_decide_eq_true hbulk
    simpa only [List.append_nil] using this
  obtain ⟨y0, o0, e0⟩ := read_iv (M := fun _ => False) (N := W.heap.size) (bnd := fun _ => none) (fun _ h => h) (hval 0 26 v0 rfl rfl) h0 (Nat.le_trans (bulk_part (by simp)) hb0)
  obtain ⟨y1, o1, e1⟩ := read_num (M := fun _ => False) (N := W.heap.size) (bnd := fun _ => none) (fun _ h => h) (hval 1 24 v1 rfl rfl) h1 (Nat.le_trans (bulk_part (by simp)) hb0)
  have hlt : ∀ x ∈ p0 ++ p1, x.block < W.heap.size := fun x hx => by simpa using hW'.lt x (by simpa using hx)
  refine (gue_holds (y0, y1) ⟨o0, o1⟩ (fun _ => False) W [v0, v1] (mok_none (gl_of hL rfl)) ⟨v0, _, rfl, e0, v1, _, rfl, e1, rfl⟩).mono ?_
  rintro e W' ⟨hb, v, rfl, _, hr⟩
  have hr : v = .bool true := hr
  subst hr
  have g0 := Below.trod laidOut (by kernel_rfl) (of_decide_eq_true (by kernel_rfl)) h0 hb (fun x hx => hlt x (by simp [hx]))
  have g1 := Below.trod laidOut (by kernel_rfl) (of_decide_eq_true (by kernel_rfl)) h1 hb (fun x hx => hlt x (by simp [hx]))
  have hW2 : DataW.Whole enc Tryd.prog Tryd.f10.params.toList Rows.intervalGuessSpec.vars false W #[v0, v1].toList [d0, d1] [] (p0 ++ p1) := by simpa only [List.append_nil, List.append_assoc] using hW'
  exact ⟨_, rfl, _, _, _, [], _, [], hW2, trodAll_mk1 (shut_bool Tryd.underlying4 _), trodAll_mk2 g0 g1, rfl, hb.frame _, fun h => by cases h⟩
/-- A world for the witness: the settled one, the table (its block) holding what its initialiser lays. -/
noncomputable def laidWorld (os : Os) : World :=
  { World.holding Tryd.prog os ⟨#[], #[], []⟩ with heap := (World.holding Tryd.prog os ⟨#[], #[], []⟩).heap.modify 0 fun
      | .cells _ t frozen => .cells #[.int .u8 0, .int .u8 1, .int .u8 28, .int .u8 2, .int .u8 29, .int .u8 14, .int .u8 24, .int .u8 3, .int .u8 30, .int .u8 22, .int .u8 20, .int .u8 15, .int .u8 25, .int .u8 17, .int .u8 4, .int .u8 8, .int .u8 31, .int .u8 27, .int .u8 13, .int .u8 23, .int .u8 21, .int .u8 19, .int .u8 16, .int .u8 7, .int .u8 26, .int .u8 12, .int .u8 18, .int .u8 6, .int .u8 11, .int .u8 5, .int .u8 10, .int .u8 9] t frozen
      | o => o }
def wArgs : Array Value := #[.agg #[.bool false, .slice none 0 0, .slice none 0 0, .bool false, .slice none 0 0, .slice none 0 0, .bool false, .bool false], .agg #[.bool false, .slice none 0 0, .slice none 0 0]]
theorem laid_met (os : Os) : laidMet Tryd.prog Rows.intervalGuessUptoRow.laid ((laidWorld os).forCall (fun _ _ => 0) ⟨#[], wArgs, []⟩).memory :=
  laidMet_of_run' 8 (by kernel_rfl) (by kernel_rfl)
theorem reads (os : Os) {H : Type} (enc : TypeId × Value → H) : ∃ places, DataW.whole enc Tryd.prog ((laidWorld os).forCall (fun _ _ => 0) ⟨#[], wArgs, []⟩).memory Tryd.f10.params.toList Rows.intervalGuessSpec.vars false wArgs.toList 8 = some ([.agg [.agg [.lit (.bool false), .nil, .nil], .agg [.lit (.bool false), .nil, .nil], .lit (.bool false), .lit (.bool false)], .agg [.lit (.bool false), .nil, .nil]], [], places) :=
  ⟨[], by kernel_rfl⟩
set_option maxRecDepth 100000 in
theorem lifted (os : Os) (started : os.Started) (H : Type) (enc : TypeId × Value → H) (F : Stop.Interp) :
    ReturnsInHanded {} Tryd.checked os 10 .any ((Rows.OpenSpec.upto Rows.intervalGuessSpec).preRow enc Tryd.prog Tryd.f10 Rows.intervalGuessUptoRow.domain false Rows.intervalGuessUptoRow.laid) (((Rows.OpenSpec.upto Rows.intervalGuessSpec).at F).post enc Tryd.prog Tryd.f10 false true false false) := by
  obtain ⟨places, hx⟩ := reads os enc
  refine returnsInHanded_of_row (C := Tryd.checked) (s := Rows.OpenSpec.upto Rows.intervalGuessSpec) own started (by kernel_rfl) Tryd.func10
    (witness_row_at (enc := enc) (C := Tryd.checked) false (laidWorld os) wArgs rfl (by kernel_rfl) (by kernel_rfl) (by kernel_rfl)
      (OpenSpec.preRow_of_cond 8 hx (by kernel_rfl) (fun k hk => by cases hk; kernel_rfl) (by kernel_rfl) (laid_met os))) ?_
  intro W base args ds gs before hval hW _ hcond _ hL _ _
  exact contract H enc W base args ds gs before hval hW (hcond _ rfl) hL
theorem said : Rows.IntervalGuessUptoSaid :=
  OpenClaim.holds_of_cond 10 Tryd.f10 rfl rfl rfl rfl rfl rfl rfl ⟨rfl, rfl, rfl, rfl, rfl⟩ rfl rfl rfl rfl rfl (by kernel_rfl) Tryd.func10 (by kernel_rfl)
    (of_decide_eq_true (by kernel_rfl)) (by unfold Func.isWrapper; first | (rw [if_pos (by decide +kernel)]; kernel_rfl) | (rw [if_neg (by decide +kernel)]; exact ⟨rfl, rfl⟩))
    (fun os started H enc _ F => by rw [OpenClaim.pre_eq_preRow]; exact lifted os started H enc F)
theorem plain (f : FuncId) (fn : Func) (hf : Tryd.pinned.checked.prog.funcNamed "inequality/inequalitylaw03.IntervalGuess" = some f) (hfn : Tryd.pinned.checked.prog.funcs[f]? = some fn) :
    true = Tryd.pinned.checked.prog.looks [] ∧ ∀ (j : Nat) t, fn.params[j]? = some t → Tryd.pinned.checked.prog.wantsStandIn t = false := by
  obtain rfl : f = 10 := Option.some.inj ((show Tryd.prog.funcNamed "inequality/inequalitylaw03.IntervalGuess" = some 10 by kernel_rfl).symm.trans hf) |>.symm
  obtain rfl : fn = Tryd.f10 := (Option.some.inj (Tryd.func10.symm.trans hfn)).symm
  refine ⟨by kernel_rfl, fun j t ht => ?_⟩
  rw [Tryd.params10] at ht
  have hm : t ∈ [26, 24] := by simpa using Array.mem_of_getElem? ht
  have hall : ∀ t ∈ [26, 24], Tryd.prog.wantsStandIn t = false := by
    intro t ht
    simp only [List.mem_cons, List.not_mem_nil, or_false] at ht
    rcases ht with rfl | rfl <;> kernel_rfl
  exact hall t hm
/-- The statement. -/
theorem card : Rows.IntervalGuessUptoCardSaid :=
  Claim7.holds_tied_plain_at .later [] _ _ _ _ said (fun _ h => by cases h) (by kernel_rfl) (fun _ h => by cases h) intervalGuessUpto_row_tie rfl ⟨rfl, rfl⟩ (by kernel_rfl) rfl plain (by kernel_rfl)
#print axioms card
end Go.Proofs.YtfajgibpidlojaaDoor.intervalGuess
end
