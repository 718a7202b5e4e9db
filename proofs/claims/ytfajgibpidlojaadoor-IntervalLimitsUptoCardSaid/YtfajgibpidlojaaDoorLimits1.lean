/-
  The whole proof of a law, the last part. Each part says its own conditions.
-/
import Derived.Test.YtfajgibpidlojaaDoorCards
import Derived.Test.YtfajgibpidlojaaDoorTie
import Derived.Test.YtfajgibpidlojaaDoorBase7
import Derived.Test.YtfajgibpidlojaaDoorBase8

section
/- Sets of numbers: which operations keep the ends in order, and which keep them small. No condition. -/
set_option linter.unusedVariables false
set_option linter.unusedSimpArgs false
namespace Go.Proofs.YtfajgibpidlojaaDoor
namespace Iv
open Go Go.Proofs

theorem sgR_cmp (x : Rat) : sgR x = cmpR x 0 := by
  have h := sgR_sub x 0
  have e : x - 0 = x := by grind
  rwa [e] at h
theorem sgR_pos {x : Rat} : sgR x > 0 ↔ 0 < x := by rw [sgR_cmp, cmpR_pos]
theorem sgR_lt {x : Rat} : sgR x < 0 ↔ x < 0 := by rw [sgR_cmp, cmpR_lt]
theorem sgR_eq {x : Rat} : sgR x = 0 ↔ x = 0 := by rw [sgR_cmp, cmpR_eq]
theorem leR_or (x y : Rat) : leR x y = x ∨ leR x y = y := by unfold leR; split <;> simp
theorem grR_or (x y : Rat) : grR x y = x ∨ grR x y = y := by unfold grR; split <;> simp
theorem leR_le (x y : Rat) : leR x y ≤ x ∧ leR x y ≤ y := by
  unfold leR
  split
  · rename_i h
    rw [cmpR_lt] at h
    exact ⟨Rat.le_of_lt h, Rat.le_refl⟩
  · rename_i h
    rw [cmpR_lt] at h
    exact ⟨Rat.le_refl, Rat.not_lt.1 h⟩
theorem le_grR (x y : Rat) : x ≤ grR x y ∧ y ≤ grR x y := by
  unfold grR
  split
  · rename_i h
    rw [cmpR_pos] at h
    exact ⟨Rat.le_of_lt h, Rat.le_refl⟩
  · rename_i h
    rw [cmpR_pos] at h
    exact ⟨Rat.le_refl, Rat.not_lt.1 h⟩
/-! ### The order -/
theorem meet_wf (x y : Ab) : (x.meet y).wf := by
  match x, y with
  | none, _ => trivial
  | some (a, b), none => trivial
  | some (a, b), some (c, d) => exact sp_wf _ _
theorem join_wf {x y : Ab} (h : x.wf) (k : y.wf) : (x.join y).wf := by
  match x, y, h, k with
  | none, _, _, k => exact k
  | some (a, b), none, h, _ => exact h
  | some (none, b), some (c, d), _, _ => trivial
  | some (some a, none), some (none, d), _, _ => trivial
  | some (some a, none), some (some c, d), _, _ => trivial
  | some (some a, some b), some (none, d), _, _ => trivial
  | some (some a, some b), some (some c, none), _, _ => trivial
  | some (some a, some b), some (some c, some d), h, k =>
    have h1 : a ≤ b := h
    exact Rat.le_trans (leR_le a c).1 (Rat.le_trans h1 (le_grR b d).1)
theorem abs_wf {x : Ab} (h : x.wf) : x.abs.wf := by
  match x, h with
  | none, _ => trivial
  | some (a, b), h =>
    show (if sgL a ≥ 0 then some (a, b) else if sgH b ≤ 0 then Ab.neg (some (a, b)) else some (some 0, l2 grR (a.map (- ·)) b) : Ab).wf
    split
    · exact h
    · split
      · exact neg_wf h
      · rename_i hb
        match a, b, hb with
        | none, _, _ => trivial
        | some x, none, _ => trivial
        | some x, some y, hb =>
          have hy : 0 < y := by
            have : ¬ sgR y ≤ 0 := hb
            have : sgR y > 0 := by omega
            exact sgR_pos.1 this
          exact Rat.le_trans (Rat.le_of_lt hy) (le_grR (-x) y).2
theorem low_wf {x y : Ab} (h : x.wf) (k : y.wf) : (x.low y).wf := by
  match x, y, h, k with
  | none, _, _, _ => trivial
  | some (a, b), none, _, _ => trivial
  | some (none, b), some (c, d), _, _ => trivial
  | some (some a, b), some (none, d), _, _ => trivial
  | some (some a, none), some (some c, none), _, _ => trivial
  | some (some a, none), some (some c, some d), h, k =>
    have k1 : c ≤ d := k
    exact Rat.le_trans (leR_le a c).2 k1
  | some (some a, some b), some (some c, none), h, k =>
    have h1 : a ≤ b := h
    exact Rat.le_trans (leR_le a c).1 h1
  | some (some a, some b), some (some c, some d), h, k =>
    have h1 : a ≤ b := h
    have k1 : c ≤ d := k
    show leR a c ≤ leR b d
    rcases leR_or b d with e | e <;> rw [e]
    · exact Rat.le_trans (leR_le a c).1 h1
    · exact Rat.le_trans (leR_le a c).2 k1
/-! ### The sizes -/
theorem fitR_neg (q : Rat) : fitR (-q) = fitR q := by
  obtain ⟨n1, n2, n3⟩ := neg_parts q
  unfold fitR
  rw [n2, n3]
theorem fitR_le {x y : Rat} (h : fitR x = true) (k : fitR y = true) : fitR (leR x y) = true := by rcases leR_or x y with e | e <;> rw [e] <;> assumption
theorem fitR_gr {x y : Rat} (h : fitR x = true) (k : fitR y = true) : fitR (grR x y) = true := by rcases grR_or x y with e | e <;> rw [e] <;> assumption
theorem sp_fits {l h : Option Rat} (hl : l.all fitR = true) (hh : h.all fitR = true) : (Ab.sp l h).fits = true := by
  have : Ab.fits (some (l, h)) = true := by simp [Ab.fits, hl, hh]
  unfold Ab.sp
  split
  · split
    · rfl
    · exact this
  · exact this
theorem ab_fits (y : Y) (h : y.good = true) : y.ab.fits = true := by
  have e3 : y.good = (numOk y.lo && numOk y.hi) := rfl
  rw [e3, Bool.and_eq_true] at h
  have f : ∀ x : X, numOk x = true → fitR x.q = true := fun x hx => by
    unfold numOk at hx
    rw [Bool.and_eq_true] at hx
    exact hx.2
  unfold Y.ab
  refine sp_fits ?_ ?_
  · split
    · rfl
    · exact f _ h.1
  · split
    · rfl
    · exact f _ h.2
theorem neg_fits {x : Ab} (h : x.fits = true) : x.neg.fits = true := by
  match x, h with
  | none, _ => rfl
  | some (a, b), h =>
    unfold Ab.fits at h
    rw [Bool.and_eq_true] at h
    have f : ∀ o : Option Rat, o.all fitR = true → (o.map (- ·)).all fitR = true := fun o ho => by
      cases o
      · rfl
      · simp only [Option.map_some, Option.all_some] at ho ⊢
        rw [fitR_neg]; exact ho
    simp only [Ab.neg, Ab.fits, f _ h.1, f _ h.2, Bool.and_self]
theorem l2_fits {f : Rat → Rat → Rat} (hf : ∀ x y, fitR x = true → fitR y = true → fitR (f x y) = true) {a b : Option Rat} (h : a.all fitR = true) (k : b.all fitR = true) : (l2 f a b).all fitR = true := by
  cases a <;> cases b <;> first | rfl | exact hf _ _ h k
theorem m2_fits {f : Rat → Rat → Rat} (hf : ∀ x y, fitR x = true → fitR y = true → fitR (f x y) = true) {a b : Option Rat} (h : a.all fitR = true) (k : b.all fitR = true) : (m2 f a b).all fitR = true := by
  cases a <;> cases b <;> first | rfl | exact hf _ _ h k | exact h | exact k
theorem meet_fits {x y : Ab} (h : x.fits = true) (k : y.fits = true) : (x.meet y).fits = true := by
  match x, y, h, k with
  | none, _, _, _ => rfl
  | some (a, b), none, _, _ => rfl
  | some (a, b), some (c, d), h, k =>
    unfold Ab.fits at h k
    rw [Bool.and_eq_true] at h k
    exact sp_fits (m2_fits (fun _ _ => fitR_gr) h.1 k.1) (m2_fits (fun _ _ => fitR_le) h.2 k.2)
theorem join_fits {x y : Ab} (h : x.fits = true) (k : y.fits = true) : (x.join y).fits = true := by
  match x, y, h, k with
  | none, _, _, k => exact k
  | some (a, b), none, h, _ => exact h
  | some (a, b), some (c, d), h, k =>
    unfold Ab.fits at h k
    rw [Bool.and_eq_true] at h k
    simp only [Ab.join, Ab.fits, l2_fits (fun _ _ => fitR_le) h.1 k.1, l2_fits (fun _ _ => fitR_gr) h.2 k.2, Bool.and_self]
theorem low_fits {x y : Ab} (h : x.fits = true) (k : y.fits = true) : (x.low y).fits = true := by
  match x, y, h, k with
  | none, _, _, _ => rfl
  | some (a, b), none, _, _ => rfl
  | some (a, b), some (c, d), h, k =>
    unfold Ab.fits at h k
    rw [Bool.and_eq_true] at h k
    simp only [Ab.low, Ab.fits, l2_fits (fun _ _ => fitR_le) h.1 k.1, m2_fits (fun _ _ => fitR_le) h.2 k.2, Bool.and_self]
theorem abs_fits {x : Ab} (h : x.fits = true) : x.abs.fits = true := by
  match x, h with
  | none, _ => rfl
  | some (a, b), h =>
    have h0 := neg_fits h
    have h' := h
    unfold Ab.fits at h
    rw [Bool.and_eq_true] at h
    show (if sgL a ≥ 0 then some (a, b) else if sgH b ≤ 0 then Ab.neg (some (a, b)) else some (some 0, l2 grR (a.map (- ·)) b) : Ab).fits = true
    split
    · exact h'
    · split
      · exact h0
      · have f : (a.map (- ·)).all fitR = true := by
          have ha := h.1
          cases a
          · rfl
          · simp only [Option.map_some, Option.all_some] at ha ⊢
            rw [fitR_neg]; exact ha
        have z : Option.all fitR (some 0) = true := fitR_zero
        simp only [Ab.fits, z, l2_fits (fun _ _ => fitR_gr) f h.2, Bool.and_self]
theorem outA_fits {A : Ab} (h : A.fits = true) : outA A = .ok (cz A) := if_pos h
end Iv
end Go.Proofs.YtfajgibpidlojaaDoor
end

section
/- What the answers of the layer's functions may be: an error, or a canonical interval. No condition. -/
set_option linter.unusedVariables false
set_option linter.unusedSimpArgs false
namespace Go.Proofs.YtfajgibpidlojaaDoor
namespace Iv
open Go Go.Proofs

theorem spOne_okRes (a : Y) (F : Ab → Ab) (hF : ∀ x : Ab, x.wf → (F x).wf) : okRes (spOne a F) := by
  unfold spOne
  split
  · exact outA_okRes (hF _ (yab_wf a))
  · exact .inl ⟨1, by decide, rfl⟩
theorem spTwo_okRes (a b : Y) (F : Ab → Ab → Ab) (hF : ∀ x y : Ab, x.wf → y.wf → (F x y).wf) : okRes (spTwo a b F) := by
  unfold spTwo
  split
  · exact outA_okRes (hF _ _ (yab_wf a) (yab_wf b))
  · exact .inl ⟨1, by decide, rfl⟩
/-- Answers that are no intervals: any value with any error. -/
theorem tRes_any {α : Type} (sv : α → SV) (zero : α) (r : Except Int α) : ∃ (z : α) (e : Int), ∀ (Q : SV → Prop) (E : Int → Prop), Q (.tup [sv z, .int .i64 e]) → wpRes Q E (tRes sv zero r) := by
  cases r with
  | error e => exact ⟨zero, e, fun Q E hq => ⟨fun _ => hq, fun c => absurd ⟨e, rfl⟩ c⟩⟩
  | ok z => exact ⟨z, 0, fun Q E hq => ⟨fun ⟨e, c⟩ => (by cases c), fun _ => hq⟩⟩
end Iv
end Go.Proofs.YtfajgibpidlojaaDoor
end

section
/- Contracts of the intervals' functions: lesser, Max$1; what exact comes to at them. Conditions: the sizes. -/
set_option linter.unusedVariables false
set_option linter.unusedSimpArgs false
set_option maxHeartbeats 4000000
set_option maxRecDepth 8000
namespace Go.Proofs.YtfajgibpidlojaaDoor
namespace Iv
open Go Go.Proofs

/-! ### lesser -/
def Se.lss (s t : Se) : Se := if s.vo || t.vo then voidS else
  ⟨if s.li || t.li then t0 else leT s.lo t.lo, if s.hf then t.hi else if t.hf then s.hi else leT s.hi t.hi, s.li || t.li, s.hf && t.hf, false⟩
noncomputable def envLss : Env := envOf [leastC]
theorem envLss_ok : EnvOK Tryd.prog FF tbX envLss := envOf_ok _
theorem lss_wp (s t : Se) (hs : s.fin) (ht : t.fin) (K : Except Int SV → Prop) (hK : ∀ r, SubE r (.ok (s.lss t).sv) → K r) :
    wpF tbX envLss (wpDraw tbX envLss) Tryd.f60 [s.sv, t.sv] K := by
  obtain ⟨lo, hi, li, hf, vo⟩ := s
  obtain ⟨lo', hi', li', hf', vo'⟩ := t
  cases vo
  · cases vo'
    · cases li <;> cases li' <;> cases hf <;> cases hf'
      all_goals (try refine And.intro ⟨hs.1 rfl, ht.1 rfl⟩ ?_)
      all_goals (try refine And.intro ⟨hs.2 rfl, ht.2 rfl⟩ ?_)
      all_goals show K _
      all_goals refine hK _ ?_
      all_goals first
          | exact ⟨rfl, Sub.refl _⟩
          | exact ⟨rfl, Sub.agg (SubN3 (SubR _))⟩
    · show K _
      exact hK _ ⟨rfl, Sub.agg (SubN3 (SubN3 (SubR _)))⟩
  · show K _
    exact hK _ ⟨rfl, Sub.agg (SubN3 (SubN3 (SubR _)))⟩
theorem lss_holds (p : Se × Se) (h : p.1.fin ∧ p.2.fin) : Holds Tryd.prog FF 60 [p.1.sv, p.2.sv] (.ok (p.1.lss p.2).sv) :=
  holds_run mixed tbX_ok envLss_ok Tryd.func60 rfl (by kernel_rfl) (args := [p.1.sv, p.2.sv]) (lss_wp p.1 p.2 h.1 h.2 _ fun _ hr => hr) (fun _ _ _ _ _ h => h)
def lssC : Con Tryd.prog FF :=
  mkCon 60 (enters_of Tryd.func60 (by kernel_rfl) rfl) decSS (fun p => [p.1.sv, p.2.sv]) (fun p => p.1.fin ∧ p.2.fin) (fun p => (p.1.lss p.2).sv) decSS_sub lss_holds
end Iv
end Go.Proofs.YtfajgibpidlojaaDoor
end

section
/- Contracts of the intervals' functions: Max$1; what exact comes to at lesser and at it. Conditions: the sizes. -/
set_option linter.unusedVariables false
set_option linter.unusedSimpArgs false
set_option maxHeartbeats 4000000
set_option maxRecDepth 8000
namespace Go.Proofs.YtfajgibpidlojaaDoor
namespace Iv
open Go Go.Proofs

theorem ok_le2 {p q : Tr} (hp : Ok p) (hq : Ok q) : Ok (leT p q) := by unfold leT; split <;> assumption
theorem vF_le2 (p q : Tr) : vF (leT p q) = leR (vF p) (vF q) := by unfold leT leR; split <;> rfl
theorem lss_ab (s t : Se) : (s.lss t).ab = s.ab.low t.ab := by
  obtain ⟨lo, hi, li, hf, vo⟩ := s
  obtain ⟨lo', hi', li', hf', vo'⟩ := t
  cases vo <;> cases vo' <;> cases li <;> cases hf <;> cases li' <;> cases hf' <;> simp [Se.lss, Se.ab, Ab.low, enF, l2, m2, vF_le2, voidS]
theorem lss_okk (s t : Se) (hs : s.fin) (ht : t.fin) : (s.lss t).okk := by
  obtain ⟨lo, hi, li, hf, vo⟩ := s
  obtain ⟨lo', hi', li', hf', vo'⟩ := t
  intro hv
  have hvv : (vo || vo') = false := by
    cases vo <;> cases vo' <;> first | rfl | exact Bool.noConfusion (show true = false from hv)
  unfold Se.lss
  rw [if_neg (by rw [hvv]; decide)]
  refine ⟨fun e => ?_, fun e => ?_⟩
  · have e : (li || li') = false := e
    rw [Bool.or_eq_false_iff] at e
    obtain ⟨rfl, rfl⟩ := e
    exact ok_le2 (hs.1 rfl) (ht.1 rfl)
  · have e : (hf && hf') = false := e
    show Ok (if hf = true then hi' else if hf' = true then hi else leT hi hi')
    cases hf <;> cases hf'
    · exact ok_le2 (hs.2 rfl) (ht.2 rfl)
    · exact hs.2 rfl
    · exact ht.2 rfl
    · cases e
/-! ### Max$1 -/
def Se.mxx (s t : Se) : Se := (s.minus.lss t.minus).minus
noncomputable def envMxx : Env := envOf [minusC, lssC]
theorem envMxx_ok : EnvOK Tryd.prog FF tbX envMxx := envOf_ok _
theorem mxx_wp (s t : Se) (hs : s.sm) (ht : t.sm) (K : Except Int SV → Prop) (hK : ∀ r, SubE r (.ok (s.mxx t).sv) → K r) :
    wpF tbX envMxx (wpDraw tbX envMxx) Tryd.f63 [s.sv, t.sv] K := by
  unfold Se.mxx at hK
  have h1 := (minus_sm hs).fin
  have h2 := (minus_sm ht).fin
  refine And.intro (by kernel_rfl) (Or.inl ?_)
  refine And.intro trivial ?_
  refine And.intro trivial ?_
  refine And.intro ⟨h1, h2⟩ ?_
  refine And.intro trivial ?_
  show K _
  exact hK _ ⟨rfl, Sub.refl _⟩
theorem mxx_holds (p : Se × Se) (h : p.1.sm ∧ p.2.sm) : Holds Tryd.prog FF 63 [p.1.sv, p.2.sv] (.ok (p.1.mxx p.2).sv) :=
  holds_run mixed tbX_ok envMxx_ok Tryd.func63 rfl (by kernel_rfl) (args := [p.1.sv, p.2.sv]) (mxx_wp p.1 p.2 h.1 h.2 _ fun _ hr => hr) (fun _ _ _ _ _ h => h)
def mxxC : Con Tryd.prog FF :=
  mkCon 63 (enters_of Tryd.func63 (by kernel_rfl) rfl) decSS (fun p => [p.1.sv, p.2.sv]) (fun p => p.1.sm ∧ p.2.sm) (fun p => (p.1.mxx p.2).sv) decSS_sub mxx_holds
theorem exS_min (a b : Y) : exS a b (fun s t => .ok (s.lss t)) = spTwo a b Ab.low := exS_ok a b Se.lss Ab.low (fun s t hs ht => ⟨lss_ab s t, lss_okk s t hs.fin ht.fin⟩)
def Ab.high (x y : Ab) : Ab := (x.neg.low y.neg).neg
theorem high_wf {x y : Ab} (h : x.wf) (k : y.wf) : (x.high y).wf := neg_wf (low_wf (neg_wf h) (neg_wf k))
theorem high_fits {x y : Ab} (h : x.fits = true) (k : y.fits = true) : (x.high y).fits = true := neg_fits (low_fits (neg_fits h) (neg_fits k))
theorem exS_max (a b : Y) : exS a b (fun s t => .ok (s.mxx t)) = spTwo a b Ab.high := exS_ok a b Se.mxx Ab.high (fun s t hs ht => by
  have k := lss_okk _ _ (minus_sm hs).fin (minus_sm ht).fin
  refine ⟨?_, minus_okk _ k⟩
  unfold Se.mxx Ab.high
  rw [minus_ab _ k, lss_ab, minus_ab _ (fun _ => hs.fin), minus_ab _ (fun _ => ht.fin)])
end Iv
end Go.Proofs.YtfajgibpidlojaaDoor
end

section
/- The exported functions Min and Max. Conditions: the sizes of what comes in. -/
set_option linter.unusedVariables false
set_option linter.unusedSimpArgs false
set_option maxHeartbeats 4000000
set_option maxRecDepth 8000
namespace Go.Proofs.YtfajgibpidlojaaDoor
namespace Iv
open Go Go.Proofs

/-! ### exact$1 at Min -/
noncomputable def envEMin : Env := envOf [sreadC, lssC, sgiveC]
theorem envEMin_ok : EnvOK Tryd.prog FF tbC envEMin := envOf_ok _
def argEMin (q : Y × Y) : List SV := [.ref q.1.cells 0, .ref [.fn 60 []] 0, .ref q.2.cells 0]
theorem EMin_wp (q : Y × Y) (ha : q.1.ok) (hb : q.2.ok) (K : Except Int SV → Prop) (hK : ∀ r, SubE r ((exS q.1 q.2 (fun s t => .ok (Se.lss s t))).map Z.sv) → K r) :
    wpF tbC envEMin (wpDraw tbC envEMin) Tryd.f113 (argEMin q) K := by
  unfold exS at hK
  refine And.intro ha (And.intro (fun h => ?_) (fun h => ?_))
  · have h1 : q.1.good = false := h
    rw [if_neg (by rw [h1]; decide)] at hK
    show K (.error 1)
    exact hK _ rfl
  have h1 : q.1.good = true := by
    have : ¬ q.1.good = false := h
    simpa only [Bool.not_eq_false] using this
  rw [if_pos h1] at hK
  refine And.intro (by kernel_rfl) (Or.inl ?_)
  refine And.intro hb (And.intro (fun h => ?_) (fun h => ?_))
  · have h2 : q.2.good = false := h
    rw [if_neg (by rw [h2]; decide)] at hK
    show K (.error 1)
    exact hK _ rfl
  have h2 : q.2.good = true := by
    have : ¬ q.2.good = false := h
    simpa only [Bool.not_eq_false] using this
  rw [if_pos h2] at hK
  refine And.intro (⟨(set_sm _ h1).fin, (set_sm _ h2).fin⟩) ?_
  simp only at hK
  refine And.intro trivial (And.intro (fun h => ?_) (fun h => ?_))
  · have h4 : (Se.lss q.1.set q.2.set).fits = false := h
    rw [if_neg (by rw [h4]; decide)] at hK
    show K (.error 1)
    exact hK _ rfl
  · have h4 : (Se.lss q.1.set q.2.set).fits = true := by
      have : ¬ (Se.lss q.1.set q.2.set).fits = false := h
      simpa only [Bool.not_eq_false] using this
    rw [if_pos h4] at hK
    show K (.ok (Se.lss q.1.set q.2.set).give.sv)
    exact hK _ ⟨rfl, Sub.refl _⟩
theorem EMin_holds (q : Y × Y) (h : q.1.ok ∧ q.2.ok) : Holds Tryd.prog FF 113 (argEMin q) ((spTwo q.1 q.2 Ab.low).map Z.sv) := by
  rw [← exS_min q.1 q.2]
  exact holds_run mixed tbC_ok envEMin_ok Tryd.func113 rfl (by kernel_rfl) (args := argEMin q) (EMin_wp q h.1 h.2 _ fun _ hr => hr) (fun _ _ _ _ _ h => h)
def decEMin : List SV → Option (Y × Y)
  | [x, .ref [.fn k []] 0, y] => match Nat.beq k 60, decC x, decC y with
    | true, some a, some b => some (a, b)
    | _, _, _ => none
  | _ => none
theorem decEMin_sub (xs : List SV) (p : Y × Y) (h : decEMin xs = some p) : SubL xs (argEMin p) := by
  unfold decEMin at h
  split at h
  · split at h
    · rename_i ek ha hb
      have ek := Nat.eq_of_beq_eq_true ek
      simp only [Option.some.injEq] at h
      subst h
      subst ek
      exact SubL.cons (decC_sub _ _ ha) (SubL.cons (Sub.refl _) (SubL.cons (decC_sub _ _ hb) SubL.nil))
    · cases h
  · cases h
noncomputable def EMinT : TCon Tryd.prog FF Z Z.sv where
  f := 113
  β := Y × Y
  dec := decEMin
  pre := fun q => q.1.ok ∧ q.2.ok
  res := fun q => spTwo q.1 q.2 Ab.low
  ent := enters_of Tryd.func113 (by kernel_rfl) rfl
  pl := fun xs q h => by
    unfold decEMin at h
    split at h
    · split at h
      · rename_i ek ha hb
        simp only [SV.plainL, SV.plain, decC_plain ha, decC_plain hb, Bool.and_self]
      · cases h
    · cases h
  ok := fun xs q hd hp => fun M w vs hM ha => EMin_holds q hp M w vs hM (decEMin_sub xs q hd _ _ _ _ _ ha)
/-! ### XMin -/
noncomputable def envXMin : Env := envOf [TryI.con EMinT]
theorem envXMin_ok : EnvOK Tryd.prog FF tbC envXMin := envOf_ok _
def argXMin (q : Y × Y) : List SV := [q.1.sv, q.2.sv, .fn 60 []]
theorem XMin_wp (q : Y × Y) (h : q.1.ok ∧ q.2.ok) (K : Except Int SV → Prop) (hK : ∀ r, SubE r (.ok (tOut Z.sv z0 (spTwo q.1 q.2 Ab.low))) → K r) :
    wpF tbC envXMin (wpDraw tbC envXMin) Tryd.f59 (argXMin q) K := by
  refine And.intro h (And.intro (fun h => ?_) (fun h => ?_))
  · have h : hasErr (spTwo q.1 q.2 Ab.low) := h
    rw [tOut_err h] at hK
    show K _
    exact hK _ ⟨rfl, Sub.refl _⟩
  · have h : ¬ hasErr (spTwo q.1 q.2 Ab.low) := h
    rw [tOut_ok h] at hK
    show K _
    exact hK _ ⟨rfl, Sub.refl _⟩
theorem XMin_holds (q : Y × Y) (h : q.1.ok ∧ q.2.ok) : Holds Tryd.prog FF 59 (argXMin q) (tRes Z.sv z0 (spTwo q.1 q.2 Ab.low)).pick := by
  rw [tRes_pick]
  exact holds_run mixed tbC_ok envXMin_ok Tryd.func59 rfl (by kernel_rfl) (args := argXMin q) (XMin_wp q h _ fun _ hr => hr) (fun _ _ _ _ _ h => h)
def decXMin : List SV → Option (Y × Y)
  | [x, y, .fn k []] => match Nat.beq k 60, decY1 x, decY1 y with
    | true, some a, some b => some (a, b)
    | _, _, _ => none
  | _ => none
theorem decXMin_sub (xs : List SV) (p : Y × Y) (h : decXMin xs = some p) : SubL xs (argXMin p) := by
  unfold decXMin at h
  split at h
  · split at h
    · rename_i ek ha hb
      have ek := Nat.eq_of_beq_eq_true ek
      simp only [Option.some.injEq] at h
      subst h
      subst ek
      exact SubL.cons (decY1_sub _ _ ha) (SubL.cons (decY1_sub _ _ hb) (SubL.cons (Sub.refl _) SubL.nil))
    · cases h
  · cases h
def XMinC : Con Tryd.prog FF :=
  mkConR 59 (enters_of Tryd.func59 (by kernel_rfl) rfl) decXMin argXMin (fun q => q.1.ok ∧ q.2.ok) (fun q => tRes Z.sv z0 (spTwo q.1 q.2 Ab.low)) decXMin_sub XMin_holds
/-! ### PMin -/
noncomputable def envPMin : Env := envOf [XMinC]
theorem envPMin_ok : EnvOK Tryd.prog FF tbC envPMin := envOf_ok _
def argPMin (q : Y × Y) : List SV := [q.1.sv, q.2.sv]
theorem PMin_wp (q : Y × Y) (h : q.1.ok ∧ q.2.ok) (K : Except Int SV → Prop) (hK : ∀ r, SubE r (.ok (tOut Z.sv z0 (spTwo q.1 q.2 Ab.low))) → K r) :
    wpF tbC envPMin (wpDraw tbC envPMin) Tryd.f23 (argPMin q) K := by
  refine And.intro h (And.intro (fun h => ?_) (fun h => ?_))
  · have h : hasErr (spTwo q.1 q.2 Ab.low) := h
    rw [tOut_err h] at hK
    show K _
    exact hK _ ⟨rfl, Sub.refl _⟩
  · have h : ¬ hasErr (spTwo q.1 q.2 Ab.low) := h
    rw [tOut_ok h] at hK
    show K _
    exact hK _ ⟨rfl, Sub.refl _⟩
theorem PMin_holds (q : Y × Y) (h : q.1.ok ∧ q.2.ok) : Holds Tryd.prog FF 23 (argPMin q) (tRes Z.sv z0 (spTwo q.1 q.2 Ab.low)).pick := by
  rw [tRes_pick]
  exact holds_run mixed tbC_ok envPMin_ok Tryd.func23 rfl (by kernel_rfl) (args := argPMin q) (PMin_wp q h _ fun _ hr => hr) (fun _ _ _ _ _ h => h)
def PMinC : Con Tryd.prog FF :=
  mkConR 23 (enters_of Tryd.func23 (by kernel_rfl) rfl) decYY argPMin (fun q => q.1.ok ∧ q.2.ok) (fun q => tRes Z.sv z0 (spTwo q.1 q.2 Ab.low)) decYY_sub PMin_holds
/-! ### exact$1 at Max -/
noncomputable def envEMax : Env := envOf [sreadC, mxxC, sgiveC]
theorem envEMax_ok : EnvOK Tryd.prog FF tbC envEMax := envOf_ok _
def argEMax (q : Y × Y) : List SV := [.ref q.1.cells 0, .ref [.fn 63 []] 0, .ref q.2.cells 0]
theorem EMax_wp (q : Y × Y) (ha : q.1.ok) (hb : q.2.ok) (K : Except Int SV → Prop) (hK : ∀ r, SubE r ((exS q.1 q.2 (fun s t => .ok (Se.mxx s t))).map Z.sv) → K r) :
    wpF tbC envEMax (wpDraw tbC envEMax) Tryd.f113 (argEMax q) K := by
  unfold exS at hK
  refine And.intro ha (And.intro (fun h => ?_) (fun h => ?_))
  · have h1 : q.1.good = false := h
    rw [if_neg (by rw [h1]; decide)] at hK
    show K (.error 1)
    exact hK _ rfl
  have h1 : q.1.good = true := by
    have : ¬ q.1.good = false := h
    simpa only [Bool.not_eq_false] using this
  rw [if_pos h1] at hK
  refine And.intro (by kernel_rfl) (Or.inl ?_)
  refine And.intro hb (And.intro (fun h => ?_) (fun h => ?_))
  · have h2 : q.2.good = false := h
    rw [if_neg (by rw [h2]; decide)] at hK
    show K (.error 1)
    exact hK _ rfl
  have h2 : q.2.good = true := by
    have : ¬ q.2.good = false := h
    simpa only [Bool.not_eq_false] using this
  rw [if_pos h2] at hK
  refine And.intro (⟨set_sm _ h1, set_sm _ h2⟩) ?_
  simp only at hK
  refine And.intro trivial (And.intro (fun h => ?_) (fun h => ?_))
  · have h4 : (Se.mxx q.1.set q.2.set).fits = false := h
    rw [if_neg (by rw [h4]; decide)] at hK
    show K (.error 1)
    exact hK _ rfl
  · have h4 : (Se.mxx q.1.set q.2.set).fits = true := by
      have : ¬ (Se.mxx q.1.set q.2.set).fits = false := h
      simpa only [Bool.not_eq_false] using this
    rw [if_pos h4] at hK
    show K (.ok (Se.mxx q.1.set q.2.set).give.sv)
    exact hK _ ⟨rfl, Sub.refl _⟩
theorem EMax_holds (q : Y × Y) (h : q.1.ok ∧ q.2.ok) : Holds Tryd.prog FF 113 (argEMax q) ((spTwo q.1 q.2 Ab.high).map Z.sv) := by
  rw [← exS_max q.1 q.2]
  exact holds_run mixed tbC_ok envEMax_ok Tryd.func113 rfl (by kernel_rfl) (args := argEMax q) (EMax_wp q h.1 h.2 _ fun _ hr => hr) (fun _ _ _ _ _ h => h)
def decEMax : List SV → Option (Y × Y)
  | [x, .ref [.fn k []] 0, y] => match Nat.beq k 63, decC x, decC y with
    | true, some a, some b => some (a, b)
    | _, _, _ => none
  | _ => none
theorem decEMax_sub (xs : List SV) (p : Y × Y) (h : decEMax xs = some p) : SubL xs (argEMax p) := by
  unfold decEMax at h
  split at h
  · split at h
    · rename_i ek ha hb
      have ek := Nat.eq_of_beq_eq_true ek
      simp only [Option.some.injEq] at h
      subst h
      subst ek
      exact SubL.cons (decC_sub _ _ ha) (SubL.cons (Sub.refl _) (SubL.cons (decC_sub _ _ hb) SubL.nil))
    · cases h
  · cases h
noncomputable def EMaxT : TCon Tryd.prog FF Z Z.sv where
  f := 113
  β := Y × Y
  dec := decEMax
  pre := fun q => q.1.ok ∧ q.2.ok
  res := fun q => spTwo q.1 q.2 Ab.high
  ent := enters_of Tryd.func113 (by kernel_rfl) rfl
  pl := fun xs q h => by
    unfold decEMax at h
    split at h
    · split at h
      · rename_i ek ha hb
        simp only [SV.plainL, SV.plain, decC_plain ha, decC_plain hb, Bool.and_self]
      · cases h
    · cases h
  ok := fun xs q hd hp => fun M w vs hM ha => EMax_holds q hp M w vs hM (decEMax_sub xs q hd _ _ _ _ _ ha)
/-! ### XMax -/
noncomputable def envXMax : Env := envOf [TryI.con EMaxT]
theorem envXMax_ok : EnvOK Tryd.prog FF tbC envXMax := envOf_ok _
def argXMax (q : Y × Y) : List SV := [q.1.sv, q.2.sv, .fn 63 []]
theorem XMax_wp (q : Y × Y) (h : q.1.ok ∧ q.2.ok) (K : Except Int SV → Prop) (hK : ∀ r, SubE r (.ok (tOut Z.sv z0 (spTwo q.1 q.2 Ab.high))) → K r) :
    wpF tbC envXMax (wpDraw tbC envXMax) Tryd.f59 (argXMax q) K := by
  refine And.intro h (And.intro (fun h => ?_) (fun h => ?_))
  · have h : hasErr (spTwo q.1 q.2 Ab.high) := h
    rw [tOut_err h] at hK
    show K _
    exact hK _ ⟨rfl, Sub.refl _⟩
  · have h : ¬ hasErr (spTwo q.1 q.2 Ab.high) := h
    rw [tOut_ok h] at hK
    show K _
    exact hK _ ⟨rfl, Sub.refl _⟩
theorem XMax_holds (q : Y × Y) (h : q.1.ok ∧ q.2.ok) : Holds Tryd.prog FF 59 (argXMax q) (tRes Z.sv z0 (spTwo q.1 q.2 Ab.high)).pick := by
  rw [tRes_pick]
  exact holds_run mixed tbC_ok envXMax_ok Tryd.func59 rfl (by kernel_rfl) (args := argXMax q) (XMax_wp q h _ fun _ hr => hr) (fun _ _ _ _ _ h => h)
def decXMax : List SV → Option (Y × Y)
  | [x, y, .fn k []] => match Nat.beq k 63, decY1 x, decY1 y with
    | true, some a, some b => some (a, b)
    | _, _, _ => none
  | _ => none
theorem decXMax_sub (xs : List SV) (p : Y × Y) (h : decXMax xs = some p) : SubL xs (argXMax p) := by
  unfold decXMax at h
  split at h
  · split at h
    · rename_i ek ha hb
      have ek := Nat.eq_of_beq_eq_true ek
      simp only [Option.some.injEq] at h
      subst h
      subst ek
      exact SubL.cons (decY1_sub _ _ ha) (SubL.cons (decY1_sub _ _ hb) (SubL.cons (Sub.refl _) SubL.nil))
    · cases h
  · cases h
def XMaxC : Con Tryd.prog FF :=
  mkConR 59 (enters_of Tryd.func59 (by kernel_rfl) rfl) decXMax argXMax (fun q => q.1.ok ∧ q.2.ok) (fun q => tRes Z.sv z0 (spTwo q.1 q.2 Ab.high)) decXMax_sub XMax_holds
/-! ### PMax -/
noncomputable def envPMax : Env := envOf [XMaxC]
theorem envPMax_ok : EnvOK Tryd.prog FF tbC envPMax := envOf_ok _
def argPMax (q : Y × Y) : List SV := [q.1.sv, q.2.sv]
theorem PMax_wp (q : Y × Y) (h : q.1.ok ∧ q.2.ok) (K : Except Int SV → Prop) (hK : ∀ r, SubE r (.ok (tOut Z.sv z0 (spTwo q.1 q.2 Ab.high))) → K r) :
    wpF tbC envPMax (wpDraw tbC envPMax) Tryd.f25 (argPMax q) K := by
  refine And.intro h (And.intro (fun h => ?_) (fun h => ?_))
  · have h : hasErr (spTwo q.1 q.2 Ab.high) := h
    rw [tOut_err h] at hK
    show K _
    exact hK _ ⟨rfl, Sub.refl _⟩
  · have h : ¬ hasErr (spTwo q.1 q.2 Ab.high) := h
    rw [tOut_ok h] at hK
    show K _
    exact hK _ ⟨rfl, Sub.refl _⟩
theorem PMax_holds (q : Y × Y) (h : q.1.ok ∧ q.2.ok) : Holds Tryd.prog FF 25 (argPMax q) (tRes Z.sv z0 (spTwo q.1 q.2 Ab.high)).pick := by
  rw [tRes_pick]
  exact holds_run mixed tbC_ok envPMax_ok Tryd.func25 rfl (by kernel_rfl) (args := argPMax q) (PMax_wp q h _ fun _ hr => hr) (fun _ _ _ _ _ h => h)
def PMaxC : Con Tryd.prog FF :=
  mkConR 25 (enters_of Tryd.func25 (by kernel_rfl) rfl) decYY argPMax (fun q => q.1.ok ∧ q.2.ok) (fun q => tRes Z.sv z0 (spTwo q.1 q.2 Ab.high)) decYY_sub PMax_holds
end Iv
end Go.Proofs.YtfajgibpidlojaaDoor
end

section
/- Contracts of the reference's intervals: Lower, Upper. Conditions: the sizes. -/
set_option linter.unusedVariables false
set_option linter.unusedSimpArgs false
set_option maxHeartbeats 4000000
set_option maxRecDepth 8000
namespace Go.Proofs.YtfajgibpidlojaaDoor
namespace Iv
open Go Go.Proofs

/-! ### Lower -/
def Se.lwr (s t : Se) : Se := if s.vo || t.vo then nR else
  ⟨if s.li || t.li then t0 else leQ s.lo t.lo, if s.hf then t.hi else if t.hf then s.hi else leQ s.hi t.hi, s.li || t.li, s.hf && t.hf, false⟩
noncomputable def envLwr (F : TypeId) : Env := envOf [qleastC F, rnoneC F]
theorem envLwr_ok (F : TypeId) : EnvOK Tryd.prog F tbX (envLwr F) := envOf_ok _
theorem lwr_wp (F : TypeId) (s t : Se) (hs : s.inv) (ht : t.inv) (K : Except Int SV → Prop) (hK : ∀ r, SubE r (.ok (s.lwr t).rv) → K r) :
    wpF tbX (envLwr F) (wpDraw tbX (envLwr F)) Tryd.f62 [s.rv, t.rv] K := by
  have l1 := hs.lo
  have l2 := ht.lo
  have h1 := hs.hi
  have h2 := ht.hi
  clear hs ht
  obtain ⟨lo, hi, li, hf, vo⟩ := s
  obtain ⟨lo', hi', li', hf', vo'⟩ := t
  cases vo
  · cases vo'
    · cases li <;> cases li' <;> cases hf <;> cases hf'
      all_goals (try refine And.intro ⟨l1, l2⟩ ?_)
      all_goals (try refine And.intro ⟨h1, h2⟩ ?_)
      all_goals show K _
      all_goals refine hK _ ?_
      all_goals first
          | exact ⟨rfl, Sub.refl _⟩
          | exact ⟨rfl, Sub.agg (SubM3 (SubR _))⟩
    · refine And.intro trivial ?_
      show K _
      exact hK _ ⟨rfl, Sub.refl _⟩
  · refine And.intro trivial ?_
    show K _
    exact hK _ ⟨rfl, Sub.refl _⟩
theorem lwr_holds (F : TypeId) (p : Se × Se) (h : p.1.inv ∧ p.2.inv) : Holds Tryd.prog F 62 [p.1.rv, p.2.rv] (.ok (p.1.lwr p.2).rv) :=
  holds_run mixed tbX_ok (envLwr_ok F) Tryd.func62 rfl (by kernel_rfl) (args := [p.1.rv, p.2.rv]) (lwr_wp F p.1 p.2 h.1 h.2 _ fun _ hr => hr) (fun _ _ _ _ _ h => h)
def lwrC (F : TypeId) : Con Tryd.prog F :=
  mkCon 62 (enters_of Tryd.func62 (by kernel_rfl) rfl) decII (fun p => [p.1.rv, p.2.rv]) (fun p => p.1.inv ∧ p.2.inv) (fun p => (p.1.lwr p.2).rv) decII_sub (lwr_holds F)
theorem vQ_leQ (p q : Tr) : vQ (leQ p q) = leR (vQ p) (vQ q) := by unfold leQ leR; split <;> rfl
theorem okQ_leQ {p q : Tr} (hp : OkQ p) (hq : OkQ q) : OkQ (leQ p q) := by unfold leQ; split <;> assumption
theorem lwr_ab (s t : Se) : (s.lwr t).abq = s.abq.low t.abq := by
  obtain ⟨lo, hi, li, hf, vo⟩ := s
  obtain ⟨lo', hi', li', hf', vo'⟩ := t
  cases vo <;> cases vo' <;> cases li <;> cases hf <;> cases li' <;> cases hf' <;> simp [Se.lwr, Se.abq, Ab.low, enQ, l2, m2, vQ_leQ, nR]
theorem lwr_inv (s t : Se) (hs : s.inv) (ht : t.inv) : (s.lwr t).inv := by
  unfold Se.lwr
  split
  · exact nR_inv
  · refine ⟨?_, ?_, fun e => ?_, fun e => ?_, fun e => (by cases e)⟩
    · dsimp only; split
      · exact okQ_t0
      · exact okQ_leQ hs.lo ht.lo
    · dsimp only; split
      · exact ht.hi
      · split
        · exact hs.hi
        · exact okQ_leQ hs.hi ht.hi
    · dsimp only at e ⊢; rw [if_pos e]; exact vQ_t0
    · dsimp only at e ⊢
      rw [Bool.and_eq_true] at e
      rw [if_pos e.1]
      exact ht.hf e.2
/-! ### Upper -/
def Se.upr (s t : Se) : Se := (s.mns.lwr t.mns).mns
noncomputable def envUpr (F : TypeId) : Env := envOf [mnsC F, lwrC F]
theorem envUpr_ok (F : TypeId) : EnvOK Tryd.prog F tbX (envUpr F) := envOf_ok _
theorem upr_wp (F : TypeId) (s t : Se) (hs : s.inv) (ht : t.inv) (K : Except Int SV → Prop) (hK : ∀ r, SubE r (.ok (s.upr t).rv) → K r) :
    wpF tbX (envUpr F) (wpDraw tbX (envUpr F)) Tryd.f65 [s.rv, t.rv] K := by
  unfold Se.upr at hK
  have h1 := mns_inv s hs
  have h2 := mns_inv t ht
  refine And.intro (by kernel_rfl) (Or.inl ?_)
  refine And.intro trivial ?_
  refine And.intro trivial ?_
  refine And.intro ⟨h1, h2⟩ ?_
  refine And.intro trivial ?_
  show K _
  exact hK _ ⟨rfl, Sub.refl _⟩
theorem upr_holds (F : TypeId) (p : Se × Se) (h : p.1.inv ∧ p.2.inv) : Holds Tryd.prog F 65 [p.1.rv, p.2.rv] (.ok (p.1.upr p.2).rv) :=
  holds_run mixed tbX_ok (envUpr_ok F) Tryd.func65 rfl (by kernel_rfl) (args := [p.1.rv, p.2.rv]) (upr_wp F p.1 p.2 h.1 h.2 _ fun _ hr => hr) (fun _ _ _ _ _ h => h)
def uprC (F : TypeId) : Con Tryd.prog F :=
  mkCon 65 (enters_of Tryd.func65 (by kernel_rfl) rfl) decII (fun p => [p.1.rv, p.2.rv]) (fun p => p.1.inv ∧ p.2.inv) (fun p => (p.1.upr p.2).rv) decII_sub (upr_holds F)
theorem upr_ab (s t : Se) (hs : s.inv) (ht : t.inv) : (s.upr t).abq = s.abq.high t.abq := by
  unfold Se.upr Ab.high
  rw [mns_ab _ (lwr_inv _ _ (mns_inv s hs) (mns_inv t ht)), lwr_ab, mns_ab s hs, mns_ab t ht]
theorem upr_inv (s t : Se) (hs : s.inv) (ht : t.inv) : (s.upr t).inv := mns_inv _ (lwr_inv _ _ (mns_inv s hs) (mns_inv t ht))
end Iv
end Go.Proofs.YtfajgibpidlojaaDoor
end

section
/- Contracts of the reference's intervals: the layer's Min and Max. Conditions: the sizes of what comes in. -/
set_option linter.unusedVariables false
set_option linter.unusedSimpArgs false
set_option maxHeartbeats 4000000
set_option maxRecDepth 8000
namespace Go.Proofs.YtfajgibpidlojaaDoor
namespace Iv
open Go Go.Proofs

/-! ### RMin -/
noncomputable def envRMin (F : TypeId) : Env := envOf [twoIC F, lwrC F, apiC F]
theorem envRMin_ok (F : TypeId) : EnvOK Tryd.prog F tbX (envRMin F) := envOf_ok _
theorem RMin_wp (F : TypeId) (a b : Y) (ha : a.ok) (hb : b.ok) (K : Except Int SV → Prop) (hK : ∀ r, SubE r (.ok (sOut (spTwo a b Ab.low))) → K r) :
    wpF tbX (envRMin F) (wpDraw tbX (envRMin F)) Tryd.f24 [a.sv, b.sv] K := by
  unfold spTwo at hK
  refine And.intro ⟨ha, hb⟩ (And.intro (fun h => ?_) (fun h => And.intro (fun h2 => ?_) (fun h2 => ?_)))
  · have h1 : (a.good && b.good) = false := h
    rw [if_neg (by rw [h1]; decide)] at hK
    show K _
    exact hK _ ⟨rfl, Sub.tup (SubL.cons (Sub.agg (SubN3 (SubN3 (SubR _)))) (SubR _))⟩
  · exact absurd (show pOk 0 = false from h2) (by decide)
  have h1 : (a.good && b.good) = true := by
    have : ¬ (a.good && b.good) = false := h
    simpa only [Bool.not_eq_false] using this
  rw [if_pos h1] at hK
  rw [Bool.and_eq_true] at h1
  obtain ⟨g1, g2⟩ := h1
  have i1 := rset_inv a ha
  have j1 := rset_inv b hb
  have i2 := rset_ab a
  have j2 := rset_ab b
  have hf : (Ab.low a.ab b.ab).fits = true := low_fits (ab_fits a g1) (ab_fits b g2)
  rw [outA_fits hf] at hK
  rw [← i2, ← j2] at hK hf
  show wpRes _ _ (.ok (.tup [a.rset.rv, b.rset.rv, .int .i64 0]))
  have i0 := rset_smq a ha g1
  have j0 := rset_smq b hb g2
  clear h h2 i2 j2
  generalize a.rset = s at *
  generalize b.rset = t at *
  have i3 : (Se.lwr s t).abq = Ab.low s.abq t.abq := lwr_ab s t
  have i4 : (Se.lwr s t).inv := lwr_inv s t i1 j1
  rw [← i3] at hK
  refine And.intro ⟨i1, j1⟩ ?_
  show wpRes _ _ (.ok (Se.lwr s t).rv)
  generalize (Se.lwr s t) = u at *
  refine And.intro i4 ?_
  show K (.ok (.tup [(cz u.abq).sv, .int .i64 0]))
  exact hK _ ⟨rfl, Sub.refl _⟩
theorem RMin_holds (F : TypeId) (q : Y × Y) (h : q.1.ok ∧ q.2.ok) : Holds Tryd.prog F 24 [q.1.sv, q.2.sv] (tRes Z.sv z0 (spTwo q.1 q.2 Ab.low)).pick := by
  rw [tRes_pick]
  exact holds_run mixed tbX_ok (envRMin_ok F) Tryd.func24 rfl (by kernel_rfl) (args := [q.1.sv, q.2.sv]) (RMin_wp F q.1 q.2 h.1 h.2 _ fun _ hr => hr) (fun _ _ _ _ _ h => h)
def RMinC (F : TypeId) : Con Tryd.prog F :=
  mkConR 24 (enters_of Tryd.func24 (by kernel_rfl) rfl) decYY (fun q => [q.1.sv, q.2.sv]) (fun q => q.1.ok ∧ q.2.ok) (fun q => tRes Z.sv z0 (spTwo q.1 q.2 Ab.low)) decYY_sub (RMin_holds F)
/-! ### RMax -/
noncomputable def envRMax (F : TypeId) : Env := envOf [twoIC F, uprC F, apiC F]
theorem envRMax_ok (F : TypeId) : EnvOK Tryd.prog F tbX (envRMax F) := envOf_ok _
theorem RMax_wp (F : TypeId) (a b : Y) (ha : a.ok) (hb : b.ok) (K : Except Int SV → Prop) (hK : ∀ r, SubE r (.ok (sOut (spTwo a b Ab.high))) → K r) :
    wpF tbX (envRMax F) (wpDraw tbX (envRMax F)) Tryd.f26 [a.sv, b.sv] K := by
  unfold spTwo at hK
  refine And.intro ⟨ha, hb⟩ (And.intro (fun h => ?_) (fun h => And.intro (fun h2 => ?_) (fun h2 => ?_)))
  · have h1 : (a.good && b.good) = false := h
    rw [if_neg (by rw [h1]; decide)] at hK
    show K _
    exact hK _ ⟨rfl, Sub.tup (SubL.cons (Sub.agg (SubN3 (SubN3 (SubR _)))) (SubR _))⟩
  · exact absurd (show pOk 0 = false from h2) (by decide)
  have h1 : (a.good && b.good) = true := by
    have : ¬ (a.good && b.good) = false := h
    simpa only [Bool.not_eq_false] using this
  rw [if_pos h1] at hK
  rw [Bool.and_eq_true] at h1
  obtain ⟨g1, g2⟩ := h1
  have i1 := rset_inv a ha
  have j1 := rset_inv b hb
  have i2 := rset_ab a
  have j2 := rset_ab b
  have hf : (Ab.high a.ab b.ab).fits = true := high_fits (ab_fits a g1) (ab_fits b g2)
  rw [outA_fits hf] at hK
  rw [← i2, ← j2] at hK hf
  show wpRes _ _ (.ok (.tup [a.rset.rv, b.rset.rv, .int .i64 0]))
  have i0 := rset_smq a ha g1
  have j0 := rset_smq b hb g2
  clear h h2 i2 j2
  generalize a.rset = s at *
  generalize b.rset = t at *
  have i3 : (Se.upr s t).abq = Ab.high s.abq t.abq := upr_ab s t i1 j1
  have i4 : (Se.upr s t).inv := upr_inv s t i1 j1
  rw [← i3] at hK
  refine And.intro ⟨i1, j1⟩ ?_
  show wpRes _ _ (.ok (Se.upr s t).rv)
  generalize (Se.upr s t) = u at *
  refine And.intro i4 ?_
  show K (.ok (.tup [(cz u.abq).sv, .int .i64 0]))
  exact hK _ ⟨rfl, Sub.refl _⟩
theorem RMax_holds (F : TypeId) (q : Y × Y) (h : q.1.ok ∧ q.2.ok) : Holds Tryd.prog F 26 [q.1.sv, q.2.sv] (tRes Z.sv z0 (spTwo q.1 q.2 Ab.high)).pick := by
  rw [tRes_pick]
  exact holds_run mixed tbX_ok (envRMax_ok F) Tryd.func26 rfl (by kernel_rfl) (args := [q.1.sv, q.2.sv]) (RMax_wp F q.1 q.2 h.1 h.2 _ fun _ hr => hr) (fun _ _ _ _ _ h => h)
def RMaxC (F : TypeId) : Con Tryd.prog F :=
  mkConR 26 (enters_of Tryd.func26 (by kernel_rfl) rfl) decYY (fun q => [q.1.sv, q.2.sv]) (fun q => q.1.ok ∧ q.2.ok) (fun q => tRes Z.sv z0 (spTwo q.1 q.2 Ab.high)) decYY_sub (RMax_holds F)
end Iv
end Go.Proofs.YtfajgibpidlojaaDoor
end

section
/- The law IntervalLimits. Conditions: the sizes of what comes in. -/
set_option linter.unusedVariables false
set_option linter.unusedSimpArgs false
set_option maxHeartbeats 4000000
set_option maxRecDepth 8000
namespace Go.Proofs.YtfajgibpidlojaaDoor
namespace Iv
open Go Go.Proofs

noncomputable def envlimits : Env := envOf [PMinC, RMinC FF, PMaxC, RMaxC FF, isC FF, awakeC]
theorem envlimits_ok : EnvOK Tryd.prog FF tbX envlimits := envOf_ok _
theorem limits_wp (a : Y) (b : Y) (ha : a.ok) (hb : b.ok) (K : Except Int SV → Prop) (hK : ∀ r, SubE r (.ok (.bool true)) → K r) :
    wpF tbX envlimits (wpDraw tbX envlimits) Tryd.f6 [a.sv, b.sv] K := by
  obtain ⟨z0, e0, c0, k0⟩ := tRes_val (spTwo_okRes a b Ab.low (fun x y => low_wf))
  obtain ⟨z1, e1, c1, k1⟩ := tRes_val (spTwo_okRes a b Ab.high (fun x y => high_wf))
  refine And.intro ⟨ha, hb⟩ ?_
  refine k0 _ _ ?_
  refine And.intro ⟨ha, hb⟩ ?_
  refine k0 _ _ ?_
  refine And.intro ⟨ha, hb⟩ ?_
  refine k1 _ _ ?_
  refine And.intro ⟨ha, hb⟩ ?_
  refine k1 _ _ ?_
  refine And.intro ⟨rfl, rfl, c0⟩ ?_
  refine And.intro ⟨rfl, rfl, c1⟩ ?_
  refine And.intro trivial ?_
  show K _
  exact hK _ ⟨rfl, Sub.refl _⟩
theorem limits_holds (q : Y × Y) (h : q.1.ok ∧ q.2.ok) : Holds Tryd.prog FF 6 [q.1.sv, q.2.sv] (.ok (.bool true)) :=
  holds_run mixed tbX_ok envlimits_ok Tryd.func6 rfl (by kernel_rfl) (args := [q.1.sv, q.2.sv]) (limits_wp q.1 q.2 h.1 h.2 _ fun _ hr => hr) (fun _ _ _ _ _ h => h)
end Iv
end Go.Proofs.YtfajgibpidlojaaDoor
end

section
/-
  The law IntervalLimits answers true and leaves its arguments as they read: for all intervals, numbers and precisions whose reading is together of bulk at most 1048576; the library's table math/bits.deBruijn32tab lies as the program's text lays it (the card ties it).
-/
set_option linter.unusedVariables false
set_option linter.unusedSimpArgs false
set_option maxRecDepth 8000
namespace Go.Proofs.YtfajgibpidlojaaDoor.intervalLimits
open Go Go.Proofs Go.ChangeShapes Go.WideShapes Go.ChangeAt Go.RowKit Go.Proofs.YtfajgibpidlojaaDoor.Iv

theorem own : ownKnob Tryd.prog.godebug = none := by kernel_rfl
theorem contract (H : Type) (enc : TypeId × Value → H) (W : World) (base : Nat) (args : Array Value) (ds gs : List (DataW H)) (before : List MemPlace)
    (hval : ∀ (j : Nat) t v, Tryd.f6.params[j]? = some t → args[j]? = some v → Value.okWide Tryd.prog W .any base t v)
    (hW : DataW.Whole enc Tryd.prog Tryd.f6.params.toList Rows.intervalLimitsSpec.vars false W args.toList ds gs before) (hbulk : Rows.uptoSmall H (ds ++ gs) = true) (hL : laidMetH Tryd.prog Rows.intervalLimitsUptoRow.laid W) :
    Calls Tryd.prog 6 args W fun e W' => ∃ v, e = .returned v ∧ Rows.intervalLimitsSpec.post enc Tryd.prog Tryd.f6 false true false false W args v W' := by
  have hW' := hW
  obtain ⟨p, q, hA0, hV, rfl, _, _⟩ := hW
  have hA : DataW.TrodAll enc Tryd.prog W 0 (fun _ => true) true Tryd.f6.params.toList args.toList ds p := hA0
  rw [Tryd.params6] at hA hval
  obtain ⟨v0, vs0, d0, ds0, p0, q0, hargs, rfl, rfl, h0, r0⟩ := trodAll_cons hA
  obtain ⟨v1, vs1, d1, ds1, p1, q1, rfl, rfl, rfl, h1, r1⟩ := trodAll_cons r0
  obtain ⟨rfl, rfl, rfl⟩ := trodAll_nil r1
  obtain rfl : args = #[v0, v1] := by cases args; simp_all
  obtain ⟨rfl, rfl⟩ := trodVars_none hV
  clear hA0
  simp only [List.append_nil, List.append_assoc] at hW'
  have hb0 : Rows.uptoBulkAll [d0, d1] ≤ 1048576 := by
    have := of_decide_eq_true hbulk
    simpa only [List.append_nil] using this
  obtain ⟨y0, o0, e0⟩ := read_iv (M := fun _ => False) (N := W.heap.size) (bnd := fun _ => none) (fun _ h => h) (hval 0 26 v0 rfl rfl) h0 (Nat.le_trans (bulk_part (by simp)) hb0)
  obtain ⟨y1, o1, e1⟩ := read_iv (M := fun _ => False) (N := W.heap.size) (bnd := fun _ => none) (fun _ h => h) (hval 1 26 v1 rfl rfl) h1 (Nat.le_trans (bulk_part (by simp)) hb0)
  have hlt : ∀ x ∈ p0 ++ p1, x.block < W.heap.size := fun x hx => by simpa using hW'.lt x (by simpa using hx)
  refine (limits_holds (y0, y1) ⟨o0, o1⟩ (fun _ => False) W [v0, v1] (mok_none (gl_of hL rfl)) ⟨v0, _, rfl, e0, v1, _, rfl, e1, rfl⟩).mono ?_
  rintro e W' ⟨hb, v, rfl, _, hr⟩
  have hr : v = .bool true := hr
  subst hr
  have g0 := Below.trod laidOut (by kernel_rfl) (of_decide_eq_true (by kernel_rfl)) h0 hb (fun x hx => hlt x (by simp [hx]))
  have g1 := Below.trod laidOut (by kernel_rfl) (of_decide_eq_true (by kernel_rfl)) h1 hb (fun x hx => hlt x (by simp [hx]))
  have hW2 : DataW.Whole enc Tryd.prog Tryd.f6.params.toList Rows.intervalLimitsSpec.vars false W #[v0, v1].toList [d0, d1] [] (p0 ++ p1) := by simpa only [List.append_nil, List.append_assoc] using hW'
  exact ⟨_, rfl, _, _, _, [], _, [], hW2, trodAll_mk1 (shut_bool Tryd.underlying4 _), trodAll_mk2 g0 g1, rfl, hb.frame _, fun h => by cases h⟩
/-- A world for the witness: the settled one, the table (its block) holding what its initialiser lays. -/
noncomputable def laidWorld (os : Os) : World :=
  { World.holding Tryd.prog os ⟨#[], #[], []⟩ with heap := (World.holding Tryd.prog os ⟨#[], #[], []⟩).heap.modify 0 fun
      | .cells _ t frozen => .cells #[.int .u8 0, .int .u8 1, .int .u8 28, .int .u8 2, .int .u8 29, .int .u8 14, .int .u8 24, .int .u8 3, .int .u8 30, .int .u8 22, .int .u8 20, .int .u8 15, .int .u8 25, .int .u8 17, .int .u8 4, .int .u8 8, .int .u8 31, .int .u8 27, .int .u8 13, .int .u8 23, .int .u8 21, .int .u8 19, .int .u8 16, .int .u8 7, .int .u8 26, .int .u8 12, .int .u8 18, .int .u8 6, .int .u8 11, .int .u8 5, .int .u8 10, .int .u8 9] t frozen
      | o => o }
def wArgs : Array Value := #[.agg #[.bool false, .slice none 0 0, .slice none 0 0, .bool false, .slice none 0 0, .slice none 0 0, .bool false, .bool false], .agg #[.bool false, .slice none 0 0, .slice none 0 0, .bool false, .slice none 0 0, .slice none 0 0, .bool false, .bool false]]
theorem laid_met (os : Os) : laidMet Tryd.prog Rows.intervalLimitsUptoRow.laid ((laidWorld os).forCall (fun _ _ => 0) ⟨#[], wArgs, []⟩).memory :=
  laidMet_of_run' 8 (by kernel_rfl) (by kernel_rfl)
theorem reads (os : Os) {H : Type} (enc : TypeId × Value → H) : ∃ places, DataW.whole enc Tryd.prog ((laidWorld os).forCall (fun _ _ => 0) ⟨#[], wArgs, []⟩).memory Tryd.f6.params.toList Rows.intervalLimitsSpec.vars false wArgs.toList 8 = some ([.agg [.agg [.lit (.bool false), .nil, .nil], .agg [.lit (.bool false), .nil, .nil], .lit (.bool false), .lit (.bool false)], .agg [.agg [.lit (.bool false), .nil, .nil], .agg [.lit (.bool false), .nil, .nil], .lit (.bool false), .lit (.bool false)]], [], places) :=
  ⟨[], by kernel_rfl⟩
set_option maxRecDepth 100000 in
theorem lifted (os : Os) (started : os.Started) (H : Type) (enc : TypeId × Value → H) (F : Stop.Interp) :
    ReturnsInHanded {} Tryd.checked os 6 .any ((Rows.OpenSpec.upto Rows.intervalLimitsSpec).preRow enc Tryd.prog Tryd.f6 Rows.intervalLimitsUptoRow.domain false Rows.intervalLimitsUptoRow.laid) (((Rows.OpenSpec.upto Rows.intervalLimitsSpec).at F).post enc Tryd.prog Tryd.f6 false true false false) := by
  obtain ⟨places, hx⟩ := reads os enc
  refine returnsInHanded_of_row (C := Tryd.checked) (s := Rows.OpenSpec.upto Rows.intervalLimitsSpec) own started (by kernel_rfl) Tryd.func6
    (witness_row_at (enc := enc) (C := Tryd.checked) false (laidWorld os) wArgs rfl (by kernel_rfl) (by kernel_rfl) (by kernel_rfl)
      (OpenSpec.preRow_of_cond 8 hx (by kernel_rfl) (fun k hk => by cases hk; kernel_rfl) (by kernel_rfl) (laid_met os))) ?_
  intro W base args ds gs before hval hW _ hcond _ hL _ _
  exact contract H enc W base args ds gs before hval hW (hcond _ rfl) hL
theorem said : Rows.IntervalLimitsUptoSaid :=
  OpenClaim.holds_of_cond 6 Tryd.f6 rfl rfl rfl rfl rfl rfl rfl ⟨rfl, rfl, rfl, rfl, rfl⟩ rfl rfl rfl rfl rfl (by kernel_rfl) Tryd.func6 (by kernel_rfl)
    (of_decide_eq_true (by kernel_rfl)) (by unfold Func.isWrapper; first | (rw [if_pos (by decide +kernel)]; kernel_rfl) | (rw [if_neg (by decide +kernel)]; exact ⟨rfl, rfl⟩))
    (fun os started H enc _ F => by rw [OpenClaim.pre_eq_preRow]; exact lifted os started H enc F)
theorem plain (f : FuncId) (fn : Func) (hf : Tryd.pinned.checked.prog.funcNamed "inequality/inequalitylaw03.IntervalLimits" = some f) (hfn : Tryd.pinned.checked.prog.funcs[f]? = some fn) :
    true = Tryd.pinned.checked.prog.looks [] ∧ ∀ (j : Nat) t, fn.params[j]? = some t → Tryd.pinned.checked.prog.wantsStandIn t = false := by
  obtain rfl : f = 6 := Option.some.inj ((show Tryd.prog.funcNamed "inequality/inequalitylaw03.IntervalLimits" = some 6 by kernel_rfl).symm.trans hf) |>.symm
  obtain rfl : fn = Tryd.f6 := (Option.some.inj (Tryd.func6.symm.trans hfn)).symm
  refine ⟨by kernel_rfl, fun j t ht => ?_⟩
  rw [Tryd.params6] at ht
  have hm : t ∈ [26, 26] := by simpa using Array.mem_of_getElem? ht
  have hall : ∀ t ∈ [26, 26], Tryd.prog.wantsStandIn t = false := by
    intro t ht
    simp only [List.mem_cons, List.not_mem_nil, or_false] at ht
    rcases ht with rfl | rfl <;> kernel_rfl
  exact hall t hm
/-- The statement. -/
theorem card : Rows.IntervalLimitsUptoCardSaid :=
  Claim7.holds_tied_plain_at .later [] _ _ _ _ said (fun _ h => by cases h) (by kernel_rfl) (fun _ h => by cases h) intervalLimitsUpto_row_tie rfl ⟨rfl, rfl⟩ (by kernel_rfl) rfl plain (by kernel_rfl)
#print axioms card
end Go.Proofs.YtfajgibpidlojaaDoor.intervalLimits
end
