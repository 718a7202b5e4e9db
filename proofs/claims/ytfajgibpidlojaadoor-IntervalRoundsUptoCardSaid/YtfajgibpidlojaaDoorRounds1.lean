/-
  The whole proof of a law, the last part. Each part says its own conditions.
-/
import Derived.Test.YtfajgibpidlojaaDoorCards
import Derived.Test.YtfajgibpidlojaaDoorTie
import Derived.Test.YtfajgibpidlojaaDoorBase7
import Derived.Test.YtfajgibpidlojaaDoorBase8

section
/- Contracts of the intervals' closures: Canon$1; what unary and exact come to at each operation. Conditions: the sizes. -/
set_option linter.unusedVariables false
set_option linter.unusedSimpArgs false
set_option maxHeartbeats 4000000
set_option maxRecDepth 8000
namespace Go.Proofs.YtfajgibpidlojaaDoor
namespace Iv
open Go Go.Proofs

noncomputable def envCan : Env := envOf [minusC]
theorem envCan_ok : EnvOK Tryd.prog FF tbX envCan := envOf_ok _
theorem can1_wp (s : Se) (K : Except Int SV → Prop) (hK : ∀ r, SubE r (.ok s.sv) → K r) :
    wpF tbX envCan (wpDraw tbX envCan) Tryd.f109 [s.sv] K := by
  show K _
  exact hK _ ⟨rfl, Sub.refl _⟩
theorem can1_holds (s : Se) (h : True) : Holds Tryd.prog FF 109 [s.sv] (.ok s.sv) :=
  holds_run mixed tbX_ok envCan_ok Tryd.func109 rfl (by kernel_rfl) (args := [s.sv]) (can1_wp s _ fun _ hr => hr) (fun _ _ _ _ _ h => h)
def can1C : Con Tryd.prog FF :=
  mkCon 109 (enters_of Tryd.func109 (by kernel_rfl) rfl) decS (fun s => [s.sv]) (fun _ => True) (fun s => s.sv) decS_sub can1_holds
theorem unS_can (a : Y) : unS a (fun s => .ok s) = spOne a (fun x => x) := unS_ok a (fun s => s) (fun x => x) (fun s hs => ⟨rfl, fun _ => hs.fin⟩)
theorem unS_neg (a : Y) : unS a (fun s => .ok s.minus) = spOne a Ab.neg := unS_ok a Se.minus Ab.neg (fun s hs => ⟨minus_ab s (fun _ => hs.fin), minus_okk s (fun _ => hs.fin)⟩)
end Iv
end Go.Proofs.YtfajgibpidlojaaDoor
end

section
/- What the chains over unary rest on; Canon. Conditions: the sizes of what comes in. -/
set_option linter.unusedVariables false
set_option linter.unusedSimpArgs false
set_option maxHeartbeats 4000000
set_option maxRecDepth 8000
namespace Go.Proofs.YtfajgibpidlojaaDoor
namespace Iv
open Go Go.Proofs

/-- The table with the type of functions of one set. -/
def tblU : List (TypeId × Ti) := (62, fnTi) :: tblX
def tbU : Tb := { ti := tbOf tblU, u := 74, inl := fun _ => false }
theorem tbU_ok : TabOK Tryd.prog tbU := tbChk_spec (l := tblU) (by kernel_rfl)
/-! ### unary$1 at Can -/
noncomputable def envUCan : Env := envOf [sreadC, can1C, sgiveC]
theorem envUCan_ok : EnvOK Tryd.prog FF tbU envUCan := envOf_ok _
def argUCan (q : Y) : List SV := [.ref [.fn 109 []] 0, .ref q.cells 0]
theorem UCan_wp (q : Y) (ha : q.ok) (K : Except Int SV → Prop) (hK : ∀ r, SubE r ((unS q (fun s => .ok ((fun s => s) s))).map Z.sv) → K r) :
    wpF tbU envUCan (wpDraw tbU envUCan) Tryd.f98 (argUCan q) K := by
  unfold unS at hK
  refine And.intro (by kernel_rfl) (Or.inl ?_)
  refine And.intro ha (And.intro (fun h => ?_) (fun h => ?_))
  · have h1 : q.good = false := h
    rw [if_neg (by rw [h1]; decide)] at hK
    show K (.error 1)
    exact hK _ rfl
  have h1 : q.good = true := by
    have : ¬ q.good = false := h
    simpa only [Bool.not_eq_false] using this
  rw [if_pos h1] at hK
  refine And.intro (trivial) ?_
  simp only at hK
  refine And.intro trivial (And.intro (fun h => ?_) (fun h => ?_))
  · have h4 : ((fun s => s) q.set).fits = false := h
    rw [if_neg (by rw [h4]; decide)] at hK
    show K (.error 1)
    exact hK _ rfl
  · have h4 : ((fun s => s) q.set).fits = true := by
      have : ¬ ((fun s => s) q.set).fits = false := h
      simpa only [Bool.not_eq_false] using this
    rw [if_pos h4] at hK
    show K (.ok ((fun s => s) q.set).give.sv)
    exact hK _ ⟨rfl, Sub.refl _⟩
theorem UCan_holds (q : Y) (h : q.ok) : Holds Tryd.prog FF 98 (argUCan q) ((spOne q (fun x => x)).map Z.sv) := by
  rw [← unS_can q]
  exact holds_run mixed tbU_ok envUCan_ok Tryd.func98 rfl (by kernel_rfl) (args := argUCan q) (UCan_wp q h _ fun _ hr => hr) (fun _ _ _ _ _ h => h)
def decUCan : List SV → Option (Y)
  | [.ref [.fn k []] 0, x] => match Nat.beq k 109, decC x with
    | true, some a => some a
    | _, _ => none
  | _ => none
theorem decUCan_sub (xs : List SV) (p : Y) (h : decUCan xs = some p) : SubL xs (argUCan p) := by
  unfold decUCan at h
  split at h
  · split at h
    · rename_i ek ha
      have ek := Nat.eq_of_beq_eq_true ek
      simp only [Option.some.injEq] at h
      subst h
      subst ek
      exact SubL.cons (Sub.refl _) (SubL.cons (decC_sub _ _ ha) SubL.nil)
    · cases h
  · cases h
noncomputable def UCanT : TCon Tryd.prog FF Z Z.sv where
  f := 98
  β := Y
  dec := decUCan
  pre := fun q => q.ok
  res := fun q => spOne q (fun x => x)
  ent := enters_of Tryd.func98 (by kernel_rfl) rfl
  pl := fun xs q h => by
    unfold decUCan at h
    split at h
    · split at h
      · rename_i ek ha
        simp only [SV.plainL, SV.plain, decC_plain ha, Bool.and_self]
      · cases h
    · cases h
  ok := fun xs q hd hp => fun M w vs hM ha => UCan_holds q hp M w vs hM (decUCan_sub xs q hd _ _ _ _ _ ha)
/-! ### VCan -/
noncomputable def envVCan : Env := envOf [TryI.con UCanT]
theorem envVCan_ok : EnvOK Tryd.prog FF tbU envVCan := envOf_ok _
def argVCan (q : Y) : List SV := [q.sv, .fn 109 []]
theorem VCan_wp (q : Y) (h : q.ok) (K : Except Int SV → Prop) (hK : ∀ r, SubE r (.ok (tOut Z.sv z0 (spOne q (fun x => x)))) → K r) :
    wpF tbU envVCan (wpDraw tbU envVCan) Tryd.f41 (argVCan q) K := by
  refine And.intro h (And.intro (fun h => ?_) (fun h => ?_))
  · have h : hasErr (spOne q (fun x => x)) := h
    rw [tOut_err h] at hK
    show K _
    exact hK _ ⟨rfl, Sub.refl _⟩
  · have h : ¬ hasErr (spOne q (fun x => x)) := h
    rw [tOut_ok h] at hK
    show K _
    exact hK _ ⟨rfl, Sub.refl _⟩
theorem VCan_holds (q : Y) (h : q.ok) : Holds Tryd.prog FF 41 (argVCan q) (tRes Z.sv z0 (spOne q (fun x => x))).pick := by
  rw [tRes_pick]
  exact holds_run mixed tbU_ok envVCan_ok Tryd.func41 rfl (by kernel_rfl) (args := argVCan q) (VCan_wp q h _ fun _ hr => hr) (fun _ _ _ _ _ h => h)
def decVCan : List SV → Option (Y)
  | [x, .fn k []] => match Nat.beq k 109, decY1 x with
    | true, some a => some a
    | _, _ => none
  | _ => none
theorem decVCan_sub (xs : List SV) (p : Y) (h : decVCan xs = some p) : SubL xs (argVCan p) := by
  unfold decVCan at h
  split at h
  · split at h
    · rename_i ek ha
      have ek := Nat.eq_of_beq_eq_true ek
      simp only [Option.some.injEq] at h
      subst h
      subst ek
      exact SubL.cons (decY1_sub _ _ ha) (SubL.cons (Sub.refl _) SubL.nil)
    · cases h
  · cases h
def VCanC : Con Tryd.prog FF :=
  mkConR 41 (enters_of Tryd.func41 (by kernel_rfl) rfl) decVCan argVCan (fun q => q.ok) (fun q => tRes Z.sv z0 (spOne q (fun x => x))) decVCan_sub VCan_holds
/-! ### PCan -/
noncomputable def envPCan : Env := envOf [VCanC]
theorem envPCan_ok : EnvOK Tryd.prog FF tbU envPCan := envOf_ok _
def argPCan (q : Y) : List SV := [q.sv]
theorem PCan_wp (q : Y) (h : q.ok) (K : Except Int SV → Prop) (hK : ∀ r, SubE r (.ok (tOut Z.sv z0 (spOne q (fun x => x)))) → K r) :
    wpF tbU envPCan (wpDraw tbU envPCan) Tryd.f52 (argPCan q) K := by
  refine And.intro h (And.intro (fun h => ?_) (fun h => ?_))
  · have h : hasErr (spOne q (fun x => x)) := h
    rw [tOut_err h] at hK
    show K _
    exact hK _ ⟨rfl, Sub.refl _⟩
  · have h : ¬ hasErr (spOne q (fun x => x)) := h
    rw [tOut_ok h] at hK
    show K _
    exact hK _ ⟨rfl, Sub.refl _⟩
theorem PCan_holds (q : Y) (h : q.ok) : Holds Tryd.prog FF 52 (argPCan q) (tRes Z.sv z0 (spOne q (fun x => x))).pick := by
  rw [tRes_pick]
  exact holds_run mixed tbU_ok envPCan_ok Tryd.func52 rfl (by kernel_rfl) (args := argPCan q) (PCan_wp q h _ fun _ hr => hr) (fun _ _ _ _ _ h => h)
def PCanC : Con Tryd.prog FF :=
  mkConR 52 (enters_of Tryd.func52 (by kernel_rfl) rfl) decY argPCan (fun q => q.ok) (fun q => tRes Z.sv z0 (spOne q (fun x => x))) decY_sub PCan_holds
end Iv
end Go.Proofs.YtfajgibpidlojaaDoor
end

section
/- Contracts of the intervals' closures: Round$1. Conditions: the sizes. -/
set_option linter.unusedVariables false
set_option linter.unusedSimpArgs false
set_option maxHeartbeats 4000000
set_option maxRecDepth 8000
namespace Go.Proofs.YtfajgibpidlojaaDoor
namespace Iv
open Go Go.Proofs

def hullE (s : Se) (p : Int) : Except Int Se := if pOk p = true then .ok (s.hull p.toNat) else .error 2
def argRnd (q : Se × Int) : List SV := [q.1.sv, .ref [.int .i64 q.2] 0]
noncomputable def envRn1 : Env := envOf [preciseC, hullC]
theorem envRn1_ok : EnvOK Tryd.prog FF tbX envRn1 := envOf_ok _
theorem rnd1_wp (s : Se) (p : Int) (hs : s.fin) (K : Except Int SV → Prop) (hK : ∀ r, SubE r ((hullE s p).map Se.sv) → K r) :
    wpF tbX envRn1 (wpDraw tbX envRn1) Tryd.f42 (argRnd (s, p)) K := by
  refine And.intro trivial (And.intro (fun h => ?_) (fun h => ?_))
  · have h1 : p < 0 ∨ 128 < p := h
    show K (.error 2)
    refine hK _ ?_
    unfold hullE
    rw [if_neg (by unfold pOk; simp only [Bool.and_eq_true, decide_eq_true_eq]; omega)]
    rfl
  have h1 : 0 ≤ p ∧ p ≤ 128 := by
    have : ¬ (p < 0 ∨ 128 < p) := h
    omega
  unfold hullE at hK
  rw [if_pos (by unfold pOk; simp only [Bool.and_eq_true, decide_eq_true_eq]; exact h1)] at hK
  refine And.intro ⟨fun _ => hs, h1.1, by have := h1.2; (try dsimp only); omega⟩ ?_
  show K _
  exact hK _ ⟨rfl, Sub.refl _⟩
theorem rnd1_holds (q : Se × Int) (h : q.1.fin) : Holds Tryd.prog FF 42 (argRnd q) ((hullE q.1 q.2).map Se.sv) :=
  holds_run mixed tbX_ok envRn1_ok Tryd.func42 rfl (by kernel_rfl) (args := argRnd q) (rnd1_wp q.1 q.2 h _ fun _ hr => hr) (fun _ _ _ _ _ h => h)
def decRn1 : List SV → Option (Se × Int)
  | [x, .ref [.int .i64 p] 0] => match decS1 x with
    | some a => some (a, p)
    | _ => none
  | _ => none
theorem decRn1_sub (xs : List SV) (q : Se × Int) (h : decRn1 xs = some q) : SubL xs (argRnd q) := by
  unfold decRn1 at h
  split at h
  · split at h
    · rename_i ha
      simp only [Option.some.injEq] at h
      subst h
      exact SubL.cons (decS1_sub _ _ ha) (SubR _)
    · cases h
  · cases h
def rnd1C : Con Tryd.prog FF :=
  mkConR 42 (enters_of Tryd.func42 (by kernel_rfl) rfl) decRn1 argRnd (fun q => q.1.fin) (fun q => fRes Se.sv voidS (hullE q.1 q.2)) decRn1_sub (fun q h => by rw [fRes_pick]; exact rnd1_holds q h)
theorem unS_rnd (a : Y) (p : Int) : unS a (fun s => hullE s p) = spOneP a p (fun x => x.hull p.toNat) := by
  unfold unS spOneP hullE
  cases ha : a.good
  · rfl
  · simp only [if_true]
    cases hp : pOk p
    · rfl
    · simp only [if_true]
      have hs := set_sm a ha
      have hp' : p.toNat ≤ 1000 := by
        unfold pOk at hp
        simp only [Bool.and_eq_true, decide_eq_true_eq] at hp
        omega
      have hk : (a.set.hull p.toNat).okk := hull_fin hs.fin p.toNat hp' ⟨fun e => (hs.1 e).bd.mono (by decide), fun e => (hs.2 e).bd.mono (by decide)⟩
      obtain ⟨g1, g2⟩ := out_give _ hk
      rw [hull_ab, set_ab] at g1 g2
      generalize a.set.hull p.toNat = s at *
      cases hs : s.fits
      · rw [g1 hs]; rfl
      · rw [g2 hs]; rfl
end Iv
end Go.Proofs.YtfajgibpidlojaaDoor
end

section
/- The exported function Round. Conditions: the sizes of what comes in. -/
set_option linter.unusedVariables false
set_option linter.unusedSimpArgs false
set_option maxHeartbeats 4000000
set_option maxRecDepth 8000
namespace Go.Proofs.YtfajgibpidlojaaDoor
namespace Iv
open Go Go.Proofs

/-! ### unary$1 at Rnd -/
noncomputable def envURnd : Env := envOf [sreadC, rnd1C, sgiveC]
theorem envURnd_ok : EnvOK Tryd.prog FF tbU envURnd := envOf_ok _
def argURnd (q : Y × Int) : List SV := [.ref [.fn 42 [.ref [.int .i64 q.2] 0]] 0, .ref q.1.cells 0]
theorem URnd_wp (q : Y × Int) (ha : q.1.ok) (K : Except Int SV → Prop) (hK : ∀ r, SubE r ((unS q.1 (fun s => hullE s q.2)).map Z.sv) → K r) :
    wpF tbU envURnd (wpDraw tbU envURnd) Tryd.f98 (argURnd q) K := by
  unfold unS at hK
  refine And.intro (by kernel_rfl) (Or.inl ?_)
  refine And.intro ha (And.intro (fun h => ?_) (fun h => ?_))
  · have h1 : q.1.good = false := h
    rw [if_neg (by rw [h1]; decide)] at hK
    show K (.error 1)
    exact hK _ rfl
  have h1 : q.1.good = true := by
    have : ¬ q.1.good = false := h
    simpa only [Bool.not_eq_false] using this
  rw [if_pos h1] at hK
  refine And.intro ((set_sm _ h1).fin) (And.intro (fun h => ?_) (fun h => ?_))
  · have h3 : hasErr ((fun s => hullE s q.2) q.1.set) := h
    obtain ⟨e, he⟩ := h3
    rw [he] at hK
    show K (.error (errOf ((fun s => hullE s q.2) q.1.set)))
    rw [he]
    exact hK _ rfl
  obtain ⟨s, hs⟩ := not_hasErr h
  have hs : (fun s => hullE s q.2) q.1.set = .ok s := hs
  rw [hs] at hK
  simp only at hK
  have es : okOf voidS ((fun s => hullE s q.2) q.1.set) = s := by rw [hs]; rfl
  refine And.intro trivial (And.intro (fun h => ?_) (fun h => ?_))
  · have h4 : s.fits = false := by
      have : (okOf voidS ((fun s => hullE s q.2) q.1.set)).fits = false := h
      rwa [es] at this
    rw [if_neg (by rw [h4]; decide)] at hK
    show K (.error 1)
    exact hK _ rfl
  · have h4 : s.fits = true := by
      have : ¬ (okOf voidS ((fun s => hullE s q.2) q.1.set)).fits = false := h
      rw [es] at this
      simpa only [Bool.not_eq_false] using this
    rw [if_pos h4] at hK
    show K (.ok (okOf voidS ((fun s => hullE s q.2) q.1.set)).give.sv)
    rw [es]
    exact hK _ ⟨rfl, Sub.refl _⟩
theorem URnd_holds (q : Y × Int) (h : q.1.ok) : Holds Tryd.prog FF 98 (argURnd q) ((spOneP q.1 q.2 (fun x => x.hull q.2.toNat)).map Z.sv) := by
  rw [← unS_rnd q.1 q.2]
  exact holds_run mixed tbU_ok envURnd_ok Tryd.func98 rfl (by kernel_rfl) (args := argURnd q) (URnd_wp q h _ fun _ hr => hr) (fun _ _ _ _ _ h => h)
def decURnd : List SV → Option (Y × Int)
  | [.ref [.fn k [.ref [.int .i64 p] 0]] 0, x] => match Nat.beq k 42, decC x with
    | true, some a => some (a, p)
    | _, _ => none
  | _ => none
theorem decURnd_sub (xs : List SV) (p : Y × Int) (h : decURnd xs = some p) : SubL xs (argURnd p) := by
  unfold decURnd at h
  split at h
  · split at h
    · rename_i ek ha
      have ek := Nat.eq_of_beq_eq_true ek
      simp only [Option.some.injEq] at h
      subst h
      subst ek
      exact SubL.cons (Sub.refl _) (SubL.cons (decC_sub _ _ ha) SubL.nil)
    · cases h
  · cases h
noncomputable def URndT : TCon Tryd.prog FF Z Z.sv where
  f := 98
  β := Y × Int
  dec := decURnd
  pre := fun q => q.1.ok
  res := fun q => spOneP q.1 q.2 (fun x => x.hull q.2.toNat)
  ent := enters_of Tryd.func98 (by kernel_rfl) rfl
  pl := fun xs q h => by
    unfold decURnd at h
    split at h
    · split at h
      · rename_i ek ha
        simp only [SV.plainL, SV.plain, decC_plain ha, Bool.and_self]
      · cases h
    · cases h
  ok := fun xs q hd hp => fun M w vs hM ha => URnd_holds q hp M w vs hM (decURnd_sub xs q hd _ _ _ _ _ ha)
/-! ### VRnd -/
noncomputable def envVRnd : Env := envOf [TryI.con URndT]
theorem envVRnd_ok : EnvOK Tryd.prog FF tbU envVRnd := envOf_ok _
def argVRnd (q : Y × Int) : List SV := [q.1.sv, .fn 42 [.ref [.int .i64 q.2] 0]]
theorem VRnd_wp (q : Y × Int) (h : q.1.ok) (K : Except Int SV → Prop) (hK : ∀ r, SubE r (.ok (tOut Z.sv z0 (spOneP q.1 q.2 (fun x => x.hull q.2.toNat)))) → K r) :
    wpF tbU envVRnd (wpDraw tbU envVRnd) Tryd.f41 (argVRnd q) K := by
  refine And.intro h (And.intro (fun h => ?_) (fun h => ?_))
  · have h : hasErr (spOneP q.1 q.2 (fun x => x.hull q.2.toNat)) := h
    rw [tOut_err h] at hK
    show K _
    exact hK _ ⟨rfl, Sub.refl _⟩
  · have h : ¬ hasErr (spOneP q.1 q.2 (fun x => x.hull q.2.toNat)) := h
    rw [tOut_ok h] at hK
    show K _
    exact hK _ ⟨rfl, Sub.refl _⟩
theorem VRnd_holds (q : Y × Int) (h : q.1.ok) : Holds Tryd.prog FF 41 (argVRnd q) (tRes Z.sv z0 (spOneP q.1 q.2 (fun x => x.hull q.2.toNat))).pick := by
  rw [tRes_pick]
  exact holds_run mixed tbU_ok envVRnd_ok Tryd.func41 rfl (by kernel_rfl) (args := argVRnd q) (VRnd_wp q h _ fun _ hr => hr) (fun _ _ _ _ _ h => h)
def decVRnd : List SV → Option (Y × Int)
  | [x, .fn k [.ref [.int .i64 p] 0]] => match Nat.beq k 42, decY1 x with
    | true, some a => some (a, p)
    | _, _ => none
  | _ => none
theorem decVRnd_sub (xs : List SV) (p : Y × Int) (h : decVRnd xs = some p) : SubL xs (argVRnd p) := by
  unfold decVRnd at h
  split at h
  · split at h
    · rename_i ek ha
      have ek := Nat.eq_of_beq_eq_true ek
      simp only [Option.some.injEq] at h
      subst h
      subst ek
      exact SubL.cons (decY1_sub _ _ ha) (SubL.cons (Sub.refl _) SubL.nil)
    · cases h
  · cases h
def VRndC : Con Tryd.prog FF :=
  mkConR 41 (enters_of Tryd.func41 (by kernel_rfl) rfl) decVRnd argVRnd (fun q => q.1.ok) (fun q => tRes Z.sv z0 (spOneP q.1 q.2 (fun x => x.hull q.2.toNat))) decVRnd_sub VRnd_holds
/-! ### PRnd -/
noncomputable def envPRnd : Env := envOf [VRndC]
theorem envPRnd_ok : EnvOK Tryd.prog FF tbU envPRnd := envOf_ok _
def argPRnd (q : Y × Int) : List SV := [q.1.sv, .int .i64 q.2]
theorem PRnd_wp (q : Y × Int) (h : q.1.ok) (K : Except Int SV → Prop) (hK : ∀ r, SubE r (.ok (tOut Z.sv z0 (spOneP q.1 q.2 (fun x => x.hull q.2.toNat)))) → K r) :
    wpF tbU envPRnd (wpDraw tbU envPRnd) Tryd.f11 (argPRnd q) K := by
  refine And.intro h (And.intro (fun h => ?_) (fun h => ?_))
  · have h : hasErr (spOneP q.1 q.2 (fun x => x.hull q.2.toNat)) := h
    rw [tOut_err h] at hK
    show K _
    exact hK _ ⟨rfl, Sub.refl _⟩
  · have h : ¬ hasErr (spOneP q.1 q.2 (fun x => x.hull q.2.toNat)) := h
    rw [tOut_ok h] at hK
    show K _
    exact hK _ ⟨rfl, Sub.refl _⟩
theorem PRnd_holds (q : Y × Int) (h : q.1.ok) : Holds Tryd.prog FF 11 (argPRnd q) (tRes Z.sv z0 (spOneP q.1 q.2 (fun x => x.hull q.2.toNat))).pick := by
  rw [tRes_pick]
  exact holds_run mixed tbU_ok envPRnd_ok Tryd.func11 rfl (by kernel_rfl) (args := argPRnd q) (PRnd_wp q h _ fun _ hr => hr) (fun _ _ _ _ _ h => h)
def PRndC : Con Tryd.prog FF :=
  mkConR 11 (enters_of Tryd.func11 (by kernel_rfl) rfl) decYi argPRnd (fun q => q.1.ok) (fun q => tRes Z.sv z0 (spOneP q.1 q.2 (fun x => x.hull q.2.toNat))) decYi_sub PRnd_holds
end Iv
end Go.Proofs.YtfajgibpidlojaaDoor
end

section
/- Contracts of the reference's intervals, part R: the layer's Round. Conditions: the sizes of what comes in. -/
set_option linter.unusedVariables false
set_option linter.unusedSimpArgs false
set_option maxHeartbeats 4000000
set_option maxRecDepth 8000
namespace Go.Proofs.YtfajgibpidlojaaDoor
namespace Iv
open Go Go.Proofs

noncomputable def envRo (F : TypeId) : Env := envOf [oneIC F, rndC F, doneC F]
theorem envRo_ok (F : TypeId) : EnvOK Tryd.prog F tbX (envRo F) := envOf_ok _
theorem rndR_fact (a : Y) (p : Int) (ha : a.ok) (hg : a.good = true) (hp : pOk p = true) :
    (a.rset.rnd p.toNat).inv ∧ (a.rset.rnd p.toNat).abq = a.ab.hull p.toNat := by
  have h := rset_smq a ha hg
  have hp' : p.toNat ≤ 1000 := by
    unfold pOk at hp
    simp only [Bool.and_eq_true, decide_eq_true_eq] at hp
    omega
  exact ⟨rnd_inv _ _ h.inv hp' ⟨fun _ => h.lo.mono (by decide), fun _ => h.hi.mono (by decide)⟩, by rw [rnd_ab, rset_ab]⟩
theorem RRnd_wp (F : TypeId) (a : Y) (p : Int) (ha : a.ok) (K : Except Int SV → Prop) (hK : ∀ r, SubE r (.ok (sOut (spOneP a p (fun x => x.hull p.toNat)))) → K r) :
    wpF tbX (envRo F) (wpDraw tbX (envRo F)) Tryd.f12 [a.sv, .int .i64 p] K := by
  unfold spOneP at hK
  refine And.intro ha (And.intro (fun h => ?_) (fun h => And.intro (fun h2 => ?_) (fun h2 => ?_)))
  · have h1 : a.good = false := h
    rw [if_neg (by rw [h1]; decide)] at hK
    show K _
    exact hK _ ⟨rfl, Sub.tup (SubL.cons (Sub.agg (SubN3 (SubN3 (SubR _)))) (SubR _))⟩
  · have h1 : a.good = true := by
      have : ¬ a.good = false := h
      simpa only [Bool.not_eq_false] using this
    have h3 : pOk p = false := h2
    rw [if_pos h1, if_neg (by rw [h3]; decide)] at hK
    show K _
    exact hK _ ⟨rfl, Sub.tup (SubL.cons (Sub.agg (SubN3 (SubN3 (SubR _)))) (SubR _))⟩
  have h1 : a.good = true := by
    have : ¬ a.good = false := h
    simpa only [Bool.not_eq_false] using this
  have h3 : pOk p = true := by
    have : ¬ pOk p = false := h2
    simpa only [Bool.not_eq_false] using this
  rw [if_pos h1, if_pos h3] at hK
  obtain ⟨f1, f2⟩ := rndR_fact a p ha h1 h3
  dsimp only at hK
  rw [← f2] at hK
  have hp : 0 ≤ p ∧ p ≤ 1000 := by
    unfold pOk at h3
    simp only [Bool.and_eq_true, decide_eq_true_eq] at h3
    omega
  have i1 := rset_inv a ha
  show wpRes _ _ (.ok (.tup [a.rset.rv, .int .i64 0]))
  clear h h2
  generalize a.rset = s at *
  refine And.intro ⟨i1, hp.1, hp.2⟩ ?_
  show wpRes _ _ (.ok (s.rnd p.toNat).rv)
  generalize s.rnd p.toNat = v at *
  refine And.intro f1 ?_
  show wpRes _ _ (tRes Z.sv z0 (outA v.abq))
  generalize outA v.abq = r at *
  refine And.intro (fun h => ?_) (fun h => ?_)
  · rw [show sOut r = _ from tOut_err h] at hK
    show K _
    exact hK _ ⟨rfl, Sub.refl _⟩
  · rw [show sOut r = _ from tOut_ok h] at hK
    show K _
    exact hK _ ⟨rfl, Sub.refl _⟩
theorem RRnd_holds (F : TypeId) (q : Y × Int) (h : q.1.ok) : Holds Tryd.prog F 12 [q.1.sv, .int .i64 q.2] (tRes Z.sv z0 (spOneP q.1 q.2 (fun x => x.hull q.2.toNat))).pick := by
  rw [tRes_pick]
  exact holds_run mixed tbX_ok (envRo_ok F) Tryd.func12 rfl (by kernel_rfl) (args := [q.1.sv, .int .i64 q.2]) (RRnd_wp F q.1 q.2 h _ fun _ hr => hr) (fun _ _ _ _ _ h => h)
def RRndC (F : TypeId) : Con Tryd.prog F :=
  mkConR 12 (enters_of Tryd.func12 (by kernel_rfl) rfl) decYi (fun q => [q.1.sv, .int .i64 q.2]) (fun q => q.1.ok) (fun q => tRes Z.sv z0 (spOneP q.1 q.2 (fun x => x.hull q.2.toNat))) decYi_sub (RRnd_holds F)
end Iv
end Go.Proofs.YtfajgibpidlojaaDoor
end

section
/- The law IntervalRounds. Conditions: the sizes of what comes in. -/
set_option linter.unusedVariables false
set_option linter.unusedSimpArgs false
set_option maxHeartbeats 4000000
set_option maxRecDepth 8000
namespace Go.Proofs.YtfajgibpidlojaaDoor
namespace Iv
open Go Go.Proofs

theorem spOneP_okRes (a : Y) (p : Int) (F : Ab → Ab) (hF : ∀ x : Ab, x.wf → (F x).wf) : okRes (spOneP a p F) := by
  unfold spOneP
  split
  · split
    · exact outA_okRes (hF _ (yab_wf a))
    · exact .inl ⟨2, by decide, rfl⟩
  · exact .inl ⟨1, by decide, rfl⟩
noncomputable def envRounds : Env := envOf [PRndC, RRndC FF, isC FF, awakeC]
theorem envRounds_ok : EnvOK Tryd.prog FF tbX envRounds := envOf_ok _
theorem rounds_wp (a : Y) (p : Int) (ha : a.ok) (K : Except Int SV → Prop) (hK : ∀ r, SubE r (.ok (.bool true)) → K r) :
    wpF tbX envRounds (wpDraw tbX envRounds) Tryd.f3 [a.sv, .int .i64 p] K := by
  obtain ⟨z1, e1, c1, k1⟩ := tRes_val (spOneP_okRes a p (fun x => x.hull p.toNat) (fun x hx => hull_wf _ hx))
  refine And.intro ha ?_
  refine k1 _ _ ?_
  refine And.intro ha ?_
  refine k1 _ _ ?_
  refine And.intro ⟨rfl, rfl, c1⟩ ?_
  refine And.intro trivial ?_
  show K _
  exact hK _ ⟨rfl, Sub.refl _⟩
theorem rounds_holds (q : Y × Int) (h : q.1.ok) : Holds Tryd.prog FF 3 [q.1.sv, .int .i64 q.2] (.ok (.bool true)) :=
  holds_run mixed tbX_ok envRounds_ok Tryd.func3 rfl (by kernel_rfl) (args := [q.1.sv, .int .i64 q.2]) (rounds_wp q.1 q.2 h _ fun _ hr => hr) (fun _ _ _ _ _ h => h)
end Iv
end Go.Proofs.YtfajgibpidlojaaDoor
end

section
/-
  The law IntervalRounds answers true and leaves its arguments as they read: for all intervals, numbers and precisions whose reading is together of bulk at most 1048576; the library's table math/bits.deBruijn32tab lies as the program's text lays it (the card ties it).
-/
set_option linter.unusedVariables false
set_option linter.unusedSimpArgs false
set_option maxRecDepth 8000
namespace Go.Proofs.YtfajgibpidlojaaDoor.intervalRounds
open Go Go.Proofs Go.ChangeShapes Go.WideShapes Go.ChangeAt Go.RowKit Go.Proofs.YtfajgibpidlojaaDoor.Iv

theorem own : ownKnob Tryd.prog.godebug = none := by kernel_rfl
theorem contract (H : Type) (enc : TypeId × Value → H) (W : World) (base : Nat) (args : Array Value) (ds gs : List (DataW H)) (before : List MemPlace)
    (hval : ∀ (j : Nat) t v, Tryd.f3.params[j]? = some t → args[j]? = some v → Value.okWide Tryd.prog W .any base t v)
    (hW : DataW.Whole enc Tryd.prog Tryd.f3.params.toList Rows.intervalRoundsSpec.vars false W args.toList ds gs before) (hbulk : Rows.uptoSmall H (ds ++ gs) = true) (hL : laidMetH Tryd.prog Rows.intervalRoundsUptoRow.laid W) :
    Calls Tryd.prog 3 args W fun e W' => ∃ v, e = .returned v ∧ Rows.intervalRoundsSpec.post enc Tryd.prog Tryd.f3 false true false false W args v W' := by
  have hW' := hW
  obtain ⟨p, q, hA0, hV, rfl, _, _⟩ := hW
  have hA : DataW.TrodAll enc Tryd.prog W 0 (fun _ => true) true Tryd.f3.params.toList args.toList ds p := hA0
  rw [Tryd.params3] at hA hval
  obtain ⟨v0, vs0, d0, ds0, p0, q0, hargs, rfl, rfl, h0, r0⟩ := trodAll_cons hA
  obtain ⟨v1, vs1, d1, ds1, p1, q1, rfl, rfl, rfl, h1, r1⟩ := trodAll_cons r0
  obtain ⟨rfl, rfl, rfl⟩ := trodAll_nil r1
  obtain rfl : args = #[v0, v1] := by cases args; simp_all
  obtain ⟨rfl, rfl⟩ := trodVars_none hV
  clear hA0
  simp only [List.append_nil, List.append_assoc] at hW'
  have hb0 : Rows.uptoBulkAll [d0, d1] ≤ 1048576 := by
    have := of_decide_eq_true hbulk
    simpa only [List.append_nil] using this
  obtain ⟨y0, o0, e0⟩ := read_iv (M := fun _ => False) (N := W.heap.size) (bnd := fun _ => none) (fun _ h => h) (hval 0 26 v0 rfl rfl) h0 (Nat.le_trans (bulk_part (by simp)) hb0)
  obtain ⟨n1, e1, _, _, w1⟩ := open_int Tryd.underlying3 (hval 1 3 v1 rfl rfl) h1
  have hlt : ∀ x ∈ p0 ++ p1, x.block < W.heap.size := fun x hx => by simpa using hW'.lt x (by simpa using hx)
  refine (rounds_holds (y0, n1) o0 (fun _ => False) W [v0, v1] (mok_none (gl_of hL rfl)) ⟨v0, _, rfl, e0, v1, _, rfl, e1, rfl⟩).mono ?_
  rintro e W' ⟨hb, v, rfl, _, hr⟩
  have hr : v = .bool true := hr
  subst hr
  have g0 := Below.trod laidOut (by kernel_rfl) (of_decide_eq_true (by kernel_rfl)) h0 hb (fun x hx => hlt x (by simp [hx]))
  have g1 := Below.trod laidOut (by kernel_rfl) (of_decide_eq_true (by kernel_rfl)) h1 hb (fun x hx => hlt x (by simp [hx]))
  have hW2 : DataW.Whole enc Tryd.prog Tryd.f3.params.toList Rows.intervalRoundsSpec.vars false W #[v0, v1].toList [d0, d1] [] (p0 ++ p1) := by simpa only [List.append_nil, List.append_assoc] using hW'
  exact ⟨_, rfl, _, _, _, [], _, [], hW2, trodAll_mk1 (shut_bool Tryd.underlying4 _), trodAll_mk2 g0 g1, rfl, hb.frame _, fun h => by cases h⟩
/-- A world for the witness: the settled one, the table (its block) holding what its initialiser lays. -/
noncomputable def laidWorld (os : Os) : World :=
  { World.holding Tryd.prog os ⟨#[], #[], []⟩ with heap := (World.holding Tryd.prog os ⟨#[], #[], []⟩).heap.modify 0 fun
      | .cells _ t frozen => .cells #[.int .u8 0, .int .u8 1, .int .u8 28, .int .u8 2, .int .u8 29, .int .u8 14, .int .u8 24, .int .u8 3, .int .u8 30, .int .u8 22, .int .u8 20, .int .u8 15, .int .u8 25, .int .u8 17, .int .u8 4, .int .u8 8, .int .u8 31, .int .u8 27, .int .u8 13, .int .u8 23, .int .u8 21, .int .u8 19, .int .u8 16, .int .u8 7, .int .u8 26, .int .u8 12, .int .u8 18, .int .u8 6, .int .u8 11, .int .u8 5, .int .u8 10, .int .u8 9] t frozen
      | o => o }
def wArgs : Array Value := #[.agg #[.bool false, .slice none 0 0, .slice none 0 0, .bool false, .slice none 0 0, .slice none 0 0, .bool false, .bool false], .int .i64 0]
theorem laid_met (os : Os) : laidMet Tryd.prog Rows.intervalRoundsUptoRow.laid ((laidWorld os).forCall (fun _ _ => 0) ⟨#[], wArgs, []⟩).memory :=
  laidMet_of_run' 8 (by kernel_rfl) (by kernel_rfl)
theorem reads (os : Os) {H : Type} (enc : TypeId × Value → H) : ∃ places, DataW.whole enc Tryd.prog ((laidWorld os).forCall (fun _ _ => 0) ⟨#[], wArgs, []⟩).memory Tryd.f3.params.toList Rows.intervalRoundsSpec.vars false wArgs.toList 8 = some ([.agg [.agg [.lit (.bool false), .nil, .nil], .agg [.lit (.bool false), .nil, .nil], .lit (.bool false), .lit (.bool false)], .lit (.int .i64 0)], [], places) :=
  ⟨[], by kernel_rfl⟩
set_option maxRecDepth 100000 in
theorem lifted (os : Os) (started : os.Started) (H : Type) (enc : TypeId × Value → H) (F : Stop.Interp) :
    ReturnsInHanded {} Tryd.checked os 3 .any ((Rows.OpenSpec.upto Rows.intervalRoundsSpec).preRow enc Tryd.prog Tryd.f3 Rows.intervalRoundsUptoRow.domain false Rows.intervalRoundsUptoRow.laid) (((Rows.OpenSpec.upto Rows.intervalRoundsSpec).at F).post enc Tryd.prog Tryd.f3 false true false false) := by
  obtain ⟨places, hx⟩ := reads os enc
  refine returnsInHanded_of_row (C := Tryd.checked) (s := Rows.OpenSpec.upto Rows.intervalRoundsSpec) own started (by kernel_rfl) Tryd.func3
    (witness_row_at (enc := enc) (C := Tryd.checked) false (laidWorld os) wArgs rfl (by kernel_rfl) (by kernel_rfl) (by kernel_rfl)
      (OpenSpec.preRow_of_cond 8 hx (by kernel_rfl) (fun k hk => by cases hk; kernel_rfl) (by kernel_rfl) (laid_met os))) ?_
  intro W base args ds gs before hval hW _ hcond _ hL _ _
  exact contract H enc W base args ds gs before hval hW (hcond _ rfl) hL
theorem said : Rows.IntervalRoundsUptoSaid :=
  OpenClaim.holds_of_cond 3 Tryd.f3 rfl rfl rfl rfl rfl rfl rfl ⟨rfl, rfl, rfl, rfl, rfl⟩ rfl rfl rfl rfl rfl (by kernel_rfl) Tryd.func3 (by kernel_rfl)
    (of_decide_eq_true (by kernel_rfl)) (by unfold Func.isWrapper; first | (rw [if_pos (by decide +kernel)]; kernel_rfl) | (rw [if_neg (by decide +kernel)]; exact ⟨rfl, rfl⟩))
    (fun os started H enc _ F => by rw [OpenClaim.pre_eq_preRow]; exact lifted os started H enc F)
theorem plain (f : FuncId) (fn : Func) (hf : Tryd.pinned.checked.prog.funcNamed "inequality/inequalitylaw03.IntervalRounds" = some f) (hfn : Tryd.pinned.checked.prog.funcs[f]? = some fn) :
    true = Tryd.pinned.checked.prog.looks [] ∧ ∀ (j : Nat) t, fn.params[j]? = some t → Tryd.pinned.checked.prog.wantsStandIn t = false := by
  obtain rfl : f = 3 := Option.some.inj ((show Tryd.prog.funcNamed "inequality/inequalitylaw03.IntervalRounds" = some 3 by kernel_rfl).symm.trans hf) |>.symm
  obtain rfl : fn = Tryd.f3 := (Option.some.inj (Tryd.func3.symm.trans hfn)).symm
  refine ⟨by kernel_rfl, fun j t ht => ?_⟩
  rw [Tryd.params3] at ht
  have hm : t ∈ [26, 3] := by simpa using Array.mem_of_getElem? ht
  have hall : ∀ t ∈ [26, 3], Tryd.prog.wantsStandIn t = false := by
    intro t ht
    simp only [List.mem_cons, List.not_mem_nil, or_false] at ht
    rcases ht with rfl | rfl <;> kernel_rfl
  exact hall t hm
/-- The statement. -/
theorem card : Rows.IntervalRoundsUptoCardSaid :=
  Claim7.holds_tied_plain_at .later [] _ _ _ _ said (fun _ h => by cases h) (by kernel_rfl) (fun _ h => by cases h) intervalRoundsUpto_row_tie rfl ⟨rfl, rfl⟩ (by kernel_rfl) rfl plain (by kernel_rfl)
#print axioms card
end Go.Proofs.YtfajgibpidlojaaDoor.intervalRounds
end
