/-
  Contracts of functions that a law reaches, and what they rest on, part 5. Each part says its own conditions.
-/
import Derived.Test.YtfajgibpidlojaaDoorBaseS1
import Derived.Test.YtfajgibpidlojaaDoorProg
import Derived.KernelRfl
import Derived.Lib.Strings
import Derived.Lib.Slices
import Derived.Lib.Small
import Derived.Lib.Walk
import Derived.Lib.BitFns
import Derived.WalkKit
import Derived.Laws.BitsAllLaws
import Derived.Test.YtfajgibpidlojaaDoorBase3
import Derived.Test.YtfajgibpidlojaaDoorBase4

section
/- Contracts of the reference's functions, part S: NatShl (its answer is a row of its own). Conditions: the lists are no longer than cap30. -/
set_option linter.unusedVariables false
set_option linter.unusedSimpArgs false
set_option maxHeartbeats 2000000
set_option maxRecDepth 4000
namespace Go.Proofs.YtfajgibpidlojaaDoor
namespace Iv
open Go Go.Proofs

/-- The table for functions run in place. -/
def tbI : Tb := { ti := tbOf tbl, u := 74, inl := fun _ => false, app := false }
theorem tbI_ok : TabOK Tryd.prog tbI := tbChk_spec (l := tbl) (by kernel_rfl)
/-- The table for functions that run trim in place. -/
def tbT : Tb := { ti := tbOf tbl, u := 74, inl := fun f => Nat.beq f 153 }
theorem tbT_ok : TabOK Tryd.prog tbT := tbChk_spec (l := tbl) (by kernel_rfl)
theorem env0I_ok (F : TypeId) : EnvOK Tryd.prog F tbI env0 := ⟨fun f xs pre r h => by simp [env0] at h, fun f k h => by simp [env0] at h, fun f xs pre l h => by simp [env0] at h⟩
theorem trim_inl (l : List Nat) (hl : ∀ x ∈ l, x < B16) (h0 : 0 < l.length) (h1 : l.length ≤ cap30) (K : SV → List Ob → Prop) (hK : ∀ k, k ≤ l.length → l.take k = dig16 (val B16 l) → K (.view 0 0 k) [.row l]) :
    wpInl tbI env0 (wpDraw tbI env0) Tryd.f153 [.row 0] [.row l] K := by
  have h30 := c30
  show ∃ n, wpLoop _ n _ _
  refine loop_rule (fun n st => ∃ (i : Int), (n : Int) = i ∧ i ≤ l.length ∧ val B16 (l.take i.toNat) = val B16 l ∧ ∃ x, st = ⟨pat x 0 [some (.row 0), none, some (.nil), some (.int .i64 i), none, none, none, none, none, none, none, none, none, none, none, none, none, none, none, none, none], [.row l]⟩) ?step (n := l.length) ?init
  case init => exact ⟨_, rfl, by (try dsimp only); omega, by (try dsimp only); rw [List.take_of_length_le (by omega)], (fits (.s rfl (.n (.s rfl (.s rfl (.n (.n (.n (.n (.n (.n (.n (.n (.n (.n (.n (.n (.n (.n (.n (.n (.n .nil))))))))))))))))))))))⟩
  case step =>
    rintro n st K' hK1 hK2 ⟨i, hn, hi, hv, x, rfl⟩
    have done : (0 < i → l.getD (i - 1).toNat 0 ≠ 0) → l.take i.toNat = dig16 (val B16 l) := by
      rintro h
      rw [← hv]
      have hb : ∀ x ∈ l.take i.toNat, x < B16 := fun x hx => hl x (List.mem_of_mem_take hx)
      refine (dig16_val hb ?_).symm
      by_cases hi0 : 0 < i
      · refine canon_of_take (x := 0) ?_
        have := h hi0
        have e1 : (i - 1).toNat = i.toNat - 1 := by omega
        have e2 : (l.take i.toNat).length = i.toNat := by simp; omega
        rw [e2]
        rw [e1] at this
        simpa [List.getD_eq_getElem?_getD, List.getElem?_take, show i.toNat - 1 < i.toNat by omega] using this
      · have : i.toNat = 0 := by omega
        rw [this]; trivial
    refine ifB_mk (fun h => ?_) (fun h => ?_)
    · simp only [decide_eq_true_eq] at h
      refine And.intro (by (try dsimp only); omega) ?_
      refine And.intro (by (try dsimp only); omega) ?_
      refine And.intro (by (try dsimp only); omega) ?_
      refine ifB_mk (fun h2 => ?_) (fun h2 => ?_)
      · refine And.intro (by (try dsimp only); omega) ?_
        refine hK1 (n - 1) _ (by omega) ⟨_, ?_, ?_, ?_, (fits (.s rfl (.n (.s rfl (.s rfl (.n (.n (.n (.n (.n (.n (.n (.n (.n (.n (.n (.n (.n (.n (.n (.n (.n .nil))))))))))))))))))))))⟩
        · omega
        · omega
        · rw [← hv]
          have e1 : i.toNat = (i - 1).toNat + 1 := by omega
          rw [e1]
          refine (val_take_zero ?_).symm
          simpa using h2
      · refine hK2 _ _ (by simp) ?_
        refine And.intro (by simp only [true_and]; (try dsimp only); omega) ?_
        exact hK _ (by omega) (done (fun _ => by simpa using h2))
    · simp only [decide_eq_false_iff_not] at h
      refine hK2 _ _ (by simp) ?_
      refine And.intro ⟨trivial, by omega, by omega, by omega, .inl rfl, by omega⟩ ?_
      exact hK _ (by omega) (done (fun h' => absurd h' h))
/-- A function that is run in place. -/
structure InPlace (tab : Tb) (env : Env) (fn : Func) (xs : List SV) (os : List Ob) (K : SV → List Ob → Prop) : Prop where
  run : wpInl tab env (wpDraw tab env) fn xs os K
def inlTrim (f : FuncId) : Option (List SV → List Ob → (SV → List Ob → Prop) → Prop) := match Nat.beq f 153 with
  | true => some (InPlace tbI env0 Tryd.f153)
  | false => none
theorem inlTrim_ok {f : FuncId} {k : List SV → List Ob → (SV → List Ob → Prop) → Prop} (h : inlTrim f = some k) : Enters Tryd.prog f ∧ ∀ xs os K, k xs os K → InlOK Tryd.prog 74 f xs os K := by
  unfold inlTrim at h
  split at h
  · rename_i hb
    have := Nat.eq_of_beq_eq_true hb
    subst this
    simp only [Option.some.injEq] at h
    subst h
    exact ⟨enters_of Tryd.func153 (by kernel_rfl) rfl, fun xs os K hw => inl_ok mixed tbI_ok (env0I_ok 74) rfl Tryd.func153 rfl (by kernel_rfl) hw.run⟩
  · cases h
def envT : Env := { con := fun _ _ => none, inl := inlTrim }
theorem envT_ok (F : TypeId) : EnvOK Tryd.prog F tbT envT where
  con := fun f xs pre r h => by simp [envT] at h
  inl := fun f k h => inlTrim_ok h
  fresh := fun f xs pre l h => by simp [envT] at h

/-! ### NatShl -/
theorem rshl_step {x c e : Nat} (hx : x < 65536) (hc : c < 2 ^ e) (he : e < 16) : IntKind.u32.wrap (((BitVec.ofInt 32 (((x : Nat) : Int) * 2 ^ e % 4294967296) ||| BitVec.ofInt 32 ((c : Nat) : Int)).toNat : Nat) : Int) = ((x * 2 ^ e + c : Nat) : Int) ∧ (x * 2 ^ e + c) / 65536 < 2 ^ e ∧ x * 2 ^ e + c < 4294967296 := by
  have hp : 2 ^ e ≤ 32768 := Nat.pow_le_pow_right (n := 2) (by decide) (show e ≤ 15 by omega)
  have h1 : x * 2 ^ e + 2 ^ e ≤ 65536 * 2 ^ e := by rw [← Nat.succ_mul]; exact Nat.mul_le_mul_right _ (by omega)
  have h2 : (((x : Nat) : Int) * 2 ^ e) = ((x * 2 ^ e : Nat) : Int) := by simp
  refine ⟨?_, by omega, by omega⟩
  rw [h2, BitVec.or_comm]
  have := or32 (x := (c : Nat)) (y := ((x * 2 ^ e : Nat) : Int) % 4294967296) (k := e) (z := (x : Nat)) (by omega) (by
      have : ((2 : Int) ^ e) = ((2 ^ e : Nat) : Int) := by simp
      rw [this]; omega) (by
      have : ((2 : Int) ^ e) = ((2 ^ e : Nat) : Int) := by simp
      rw [this, ← Int.natCast_mul, Nat.mul_comm (2 ^ e) x]; omega) (by omega) (by omega) (by omega)
  rw [this]
  omega
theorem rshl_wp (l : List Nat) (n : Int) (hl : ∀ x ∈ l, x < B16) (cl : canon l) (hn : 0 ≤ n) (h1 : l.length + (n / 16).toNat + 1 ≤ cap30) :
    wpInl tbT envT (wpDraw tbT envT) Tryd.f162 [.words l, .int .i64 n] [] (fun x os => ∃ i, baseOf os x = some (some i, dig16 (val B16 l * 2 ^ n.toNat))) := by
  have h30 := c30
  have copy : l.length = 0 ∨ n ≤ 0 → l = dig16 (val B16 l * 2 ^ n.toNat) := by
    rintro (h | h)
    · have : l = [] := List.eq_nil_of_length_eq_zero h
      subst this
      simp only [val, Nat.zero_mul]; rfl
    · have : n.toNat = 0 := by omega
      rw [this, Nat.pow_zero, Nat.mul_one]
      exact (dig16_val hl cl).symm
  refine ifB_mk (fun h => ?_) (fun h => ?_)
  · have h' : l.length = 0 := by
      have : ((l.length : Nat) : Int) = 0 := by simpa only [beq_iff_eq] using h
      omega
    refine And.intro (by simp only [List.length_nil]; omega) ?_
    exact ⟨0, congrArg (fun z => some (some 0, z)) (copy (.inl h'))⟩
  · refine ifB_mk (fun h2 => ?_) (fun h2 => ?_)
    · simp only [decide_eq_true_eq] at h2
      refine And.intro (by simp only [List.length_nil]; omega) ?_
      exact ⟨0, congrArg (fun z => some (some 0, z)) (copy (.inr h2))⟩
    · simp only [decide_eq_false_iff_not] at h2
      have hq : n.tdiv 16 = n / 16 := Int.tdiv_eq_ediv_of_nonneg hn
      have he : n.tmod 16 = n % 16 := Int.tmod_eq_emod_of_nonneg hn
      refine And.intro ⟨by decide, by omega⟩ ?_
      refine And.intro ⟨by decide, by omega⟩ ?_
      refine And.intro (by (try dsimp only); omega) ?_
      refine And.intro (by (try dsimp only); omega) ?_
      refine And.intro (by (try dsimp only); omega) ?_
      show ∃ n, wpLoop _ n _ _
      refine loop_rule (fun k st => ∃ (i : Int) (c : Nat) (r : List Nat), (k : Int) = l.length - i ∧ 0 ≤ i ∧ i ≤ l.length ∧ c < 2 ^ (n % 16).toNat ∧ (r.length : Int) = n / 16 + i ∧ (∀ x ∈ r, x < B16) ∧ val B16 r + B16 ^ r.length * c = B16 ^ (n / 16).toNat * (val B16 (l.take i.toNat) * 2 ^ (n % 16).toNat) ∧ ∃ x, st = ⟨pat x 0 [some (.words l), some (.int .i64 n), none, none, some (.nil), some (.row 0), some (.int .u32 (c : Nat)), none, none, none, none, none, none, none, none, none, none, none, none, none, none, none, none, none, none, none, none, none, none, some (.words l), some (.int .i64 (List.length l : Nat)), some (.int .i64 i), none, none, none, none, none, none, none, none, none, none, none, none, none, none, none, none, none, none, none, none, none, none, none], [.row r]⟩) ?step (n := l.length) ?init
      case init => exact ⟨0, 0, List.replicate (n.tdiv 16).toNat 0, by omega, by omega, by omega, Nat.two_pow_pos _, by rw [List.length_replicate, hq]; omega, by intro x hx; have := List.eq_of_mem_replicate hx; subst this; decide, by simp [val, val_zeros], (fits (.s rfl (.s rfl (.n (.n (.s rfl (.s rfl (.s rfl (.n (.n (.n (.n (.n (.n (.n (.n (.n (.n (.n (.n (.n (.n (.n (.n (.n (.n (.n (.n (.n (.n (.s rfl (.s rfl (.s rfl (.n (.n (.n (.n (.n (.n (.n (.n (.n (.n (.n (.n (.n (.n (.n (.n (.n (.n (.n (.n (.n (.n (.n .nil))))))))))))))))))))))))))))))))))))))))))))))))))))))))⟩
      case step =>
        rintro k st K' hK1 hK2 ⟨i, c, r, hk, hi, hil, hc, hr, hrb, hv, x, rfl⟩
        have hx : _ < 65536 := getD_lt (B := B16) (by decide) hl i.toNat
        have e1 : (i + 1).toNat = i.toNat + 1 := by omega
        have hmin : min (n.tmod 16 % 18446744073709551616).toNat IntKind.u32.bits = (n % 16).toNat := by
          rw [he, Int.emod_eq_of_lt (by omega) (by omega)]
          exact Nat.min_eq_left (by show _ ≤ 32; omega)
        obtain ⟨s1, s2, s3⟩ := rshl_step (x := l.getD i.toNat 0) (c := c) (e := (n % 16).toNat) hx hc (by omega)
        have s1' : IntKind.u32.wrap (((BitVec.ofInt IntKind.u32.bits (((l.getD i.toNat 0 : Nat) : Int) * 2 ^ min (n.tmod 16 % 18446744073709551616).toNat IntKind.u32.bits % 4294967296) ||| BitVec.ofInt IntKind.u32.bits ((c : Nat) : Int)).toNat : Nat) : Int) = ((l.getD i.toNat 0 * 2 ^ (n % 16).toNat + c : Nat) : Int) := by
          rw [hmin]; exact s1
        generalize hS : l.getD i.toNat 0 * 2 ^ (n % 16).toNat + c = S at *
        refine ifB_mk (fun h3 => ?_) (fun h3 => ?_)
        · simp only [decide_eq_true_eq] at h3
          refine And.intro (by (try dsimp only); omega) ?_
          refine And.intro (by decide) ?_
          refine And.intro (by (try dsimp only); omega) ?_
          refine And.intro (by decide) ?_
          refine And.intro (by rw [s1', Int.tmod_eq_emod_of_nonneg (by omega)]; omega) ?_
          refine And.intro (by simp only [List.length_singleton]; omega) ?_
          refine And.intro (by decide) ?_
          refine And.intro (by (try dsimp only); omega) ?_
          refine hK1 (k - 1) _ (by omega) ⟨i + 1, S / 65536, r ++ [S % 65536], by omega, by omega, by (try dsimp only at h3); omega, s2, by simp; omega, ?_, ?_, ?_⟩
          · intro x hx'
            rcases List.mem_append.1 hx' with hx' | hx'
            · exact hrb x hx'
            · simp only [List.mem_singleton] at hx'; subst hx'; simp only [B16]; omega
          · rw [e1, val_append, List.length_append, List.length_singleton, Nat.pow_succ, val_take_succ, Nat.add_mul, Nat.mul_add, ← hv]
            have h5 : r.length = (n / 16).toNat + i.toNat := by omega
            simp only [val, Nat.mul_zero, Nat.add_zero]
            have h6 : B16 ^ (n / 16).toNat * (B16 ^ i.toNat * l.getD i.toNat 0 * 2 ^ (n % 16).toNat) + B16 ^ r.length * c = B16 ^ r.length * S := by
              rw [← hS, h5, Nat.pow_add, Nat.mul_add]
              grind
            have h7 : B16 ^ r.length * S = B16 ^ r.length * (S % 65536) + B16 ^ r.length * B16 * (S / 65536) := by
              rw [Nat.mul_assoc, ← Nat.mul_add]
              congr 1
              simp only [B16]; omega
            omega
          · have e5 : (Int.tmod ((S : Nat) : Int) 65536).toNat = S % 65536 := by rw [Int.tmod_eq_emod_of_nonneg (by omega)]; omega
            have e6 : Int.tdiv ((S : Nat) : Int) 65536 % 4294967296 = ((S / 65536 : Nat) : Int) := by rw [Int.tdiv_eq_ediv_of_nonneg (by omega)]; omega
            rw [← e5, ← e6, ← s1']
            exact (fits (.s rfl (.s rfl (.n (.n (.s rfl (.s rfl (.s rfl (.n (.n (.n (.n (.n (.n (.n (.n (.n (.n (.n (.n (.n (.n (.n (.n (.n (.n (.n (.n (.n (.n (.s rfl (.s rfl (.s rfl (.n (.n (.n (.n (.n (.n (.n (.n (.n (.n (.n (.n (.n (.n (.n (.n (.n (.n (.n (.n (.n (.n (.n .nil))))))))))))))))))))))))))))))))))))))))))))))))))))))))
        · simp only [decide_eq_false_iff_not] at h3
          have hcB : c < 65536 := by
            have hp : 2 ^ (n % 16).toNat ≤ 32768 := Nat.pow_le_pow_right (n := 2) (by decide) (show (n % 16).toNat ≤ 15 by omega)
            omega
          refine hK2 _ _ (by simp) ?_
          refine And.intro (by omega) ?_
          refine And.intro (by simp only [List.length_singleton]; omega) ?_
          refine InPlace.mk (trim_inl _ ?_ (by simp) (by simp; omega) _ fun k hk hd => ⟨0, ?_⟩)
          · intro x hx'
            rcases List.mem_append.1 hx' with hx' | hx'
            · exact hrb x hx'
            · simp only [List.mem_singleton] at hx'; subst hx'; simp only [B16]; omega
          · have hi' : i.toNat = l.length := by (try dsimp only at h3); omega
            have hfin : val B16 (r ++ [((c : Nat) : Int).toNat]) = val B16 l * 2 ^ n.toNat := by
              rw [val_append]
              simp only [val, Nat.mul_zero, Nat.add_zero, Int.toNat_natCast]
              rw [hv, hi', List.take_of_length_le (Nat.le_refl _)]
              conv => rhs; rw [show n.toNat = 16 * (n / 16).toNat + (n % 16).toNat by omega, Nat.pow_add, Nat.pow_mul]
              rw [show 2 ^ 16 = B16 from rfl, Nat.mul_left_comm]
            rw [hfin] at hd
            show baseOf [Ob.row (r ++ [((c : Nat) : Int).toNat])] (SV.view 0 0 k) = some (some 0, dig16 (val B16 l * 2 ^ n.toNat))
            simp only [baseOf, List.getElem?_cons_zero, if_pos hk, hd]
theorem rshl_fresh (F : TypeId) (p : Nat × Int) (h : 0 ≤ p.2 ∧ L16 p.1 + (p.2 / 16).toNat + 1 ≤ cap30) {ys : List SV} (hy : SubL ys [.words (dig16 p.1), .int .i64 p.2]) : HoldsF Tryd.prog tb.u 162 ys (dig16 (p.1 * 2 ^ p.2.toNat)) := by
  have := fresh_ok mixed tbT_ok (envT_ok F) Tryd.func162 rfl (by kernel_rfl) (rshl_wp (dig16 p.1) p.2 (lt16 _) (can16 _) h.1 h.2)
  rw [val_dig16] at this
  exact fun M w vs hM ha => this M w vs hM (hy _ _ _ _ _ ha)
/-- A row of its own is an answer as any other. -/
theorem HoldsF.holds {P : Program} {F u : TypeId} {f : FuncId} {xs : List SV} {l : List Nat} (h : HoldsF P u f xs l) : Holds P F f xs (.ok (.words l)) := by
  intro M w vs hM ha
  refine (h M w vs hM ha).mono ?_
  rintro e w' ⟨hb, v, rfl, h1, h2, hown⟩
  refine ⟨hb, v, rfl, rfl, ?_⟩
  simp only [Rp]
  refine own_ws h1 h2 hown fun b hb' hm => ?_
  have h3 := hM.lt b hm
  rcases hown.2 with ⟨rfl, _⟩ | ⟨g, cap, cur, rfl, hg, _⟩
  · simp [blk] at hb'
  · simp only [blk, Option.some.injEq] at hb'
    omega
theorem rshl_holds (F : TypeId) (p : Nat × Int) (h : 0 ≤ p.2 ∧ L16 p.1 + (p.2 / 16).toNat + 1 ≤ cap30) : Holds Tryd.prog F 162 [.n16 p.1, .int .i64 p.2] (.ok (.n16 (p.1 * 2 ^ p.2.toNat))) :=
  (HoldsF.holds (rshl_fresh F p h (SubL.cons (Sub.of16 p.1) (SubL.cons (Sub.refl _) SubL.nil)))).sub (fun _ _ _ _ _ h => h) ⟨rfl, Sub.w16 _⟩
def rshlC (F : TypeId) : Con Tryd.prog F :=
  mkCon 162 (enters_of Tryd.func162 (by kernel_rfl) rfl) dec_16_i64 (fun p => [.n16 p.1, .int .i64 p.2]) (fun p => 0 ≤ p.2 ∧ L16 p.1 + (p.2 / 16).toNat + 1 ≤ cap30) (fun p => .n16 (p.1 * 2 ^ p.2.toNat)) dec_16_i64_sub (rshl_holds F)
end Iv
end Go.Proofs.YtfajgibpidlojaaDoor
end

section
/- Plain facts of numbers: the digit of a long division. No condition. -/
set_option linter.unusedVariables false
set_option linter.unusedSimpArgs false
namespace Go.Proofs.YtfajgibpidlojaaDoor
namespace Iv

/-- The greatest digits of a list. -/
theorem val_top2 {B : Nat} {l : List Nat} {n : Nat} (hn : 2 ≤ n) (hl : l.length = n) : val B l = val B (l.take (n - 2)) + B ^ (n - 2) * (l.getD (n - 2) 0 + B * l.getD (n - 1) 0) := by
  rw [val_take_drop B l (n - 2) (by omega)]
  have e1 : l.drop (n - 2) = [l.getD (n - 2) 0, l.getD (n - 1) 0] := by
    rw [List.drop_eq_getElem_cons (by omega), List.drop_eq_getElem_cons (by omega), List.drop_eq_nil_of_le (by omega)]
    simp [List.getD_eq_getElem?_getD, show n - 2 < l.length by omega, show n - 1 < l.length by omega, show n - 2 + 1 = n - 1 by omega]
  rw [e1]
  simp [val]
theorem val_top3 {B : Nat} {l : List Nat} {n : Nat} (hn : 2 ≤ n) (hl : l.length = n + 1) : val B l = val B (l.take (n - 2)) + B ^ (n - 2) * (l.getD (n - 2) 0 + B * (l.getD (n - 1) 0 + B * l.getD n 0)) := by
  rw [val_take_drop B l (n - 2) (by omega)]
  have e1 : l.drop (n - 2) = [l.getD (n - 2) 0, l.getD (n - 1) 0, l.getD n 0] := by
    rw [List.drop_eq_getElem_cons (by omega), List.drop_eq_getElem_cons (by omega), List.drop_eq_getElem_cons (by omega), List.drop_eq_nil_of_le (by omega)]
    simp [List.getD_eq_getElem?_getD, show n - 2 < l.length by omega, show n - 1 < l.length by omega, show n < l.length by omega, show n - 2 + 1 = n - 1 by omega, show n - 1 + 1 = n by omega]
  rw [e1]
  simp [val]
/-- Two digits of the divisor, three of the number: P is the weight of the lesser ones. -/
structure Two (B P v1 v2 D u0 u1 u2 U Q : Nat) : Prop where
  pv1 : 0 < v1
  pv2 : v2 < B
  pu2 : u2 < B
  pu1 : u1 < B
  div : ∃ D0, D0 < P ∧ D = D0 + P * (v2 + B * v1)
  num : ∃ U0, U0 < P ∧ U = U0 + P * (u2 + B * (u1 + B * u0))
  quo : Q = U / D
theorem Two.le {B P v1 v2 D u0 u1 u2 U Q : Nat} (h : Two B P v1 v2 D u0 u1 u2 U Q) : Q * (v2 + B * v1) ≤ u2 + B * (u1 + B * u0) := by
  obtain ⟨D0, h1, h2⟩ := h.div
  obtain ⟨U0, h3, h4⟩ := h.num
  have h5 : Q * D ≤ U := by rw [h.quo]; exact Nat.div_mul_le_self U D
  have h6 : Q * (P * (v2 + B * v1)) ≤ Q * D := Nat.mul_le_mul_left _ (by omega)
  have h7 : P * (Q * (v2 + B * v1)) < P * (u2 + B * (u1 + B * u0) + 1) := by
    rw [Nat.mul_add P _ 1]
    have : P * (Q * (v2 + B * v1)) = Q * (P * (v2 + B * v1)) := by grind
    omega
  have := Nat.lt_of_mul_lt_mul_left h7
  omega
theorem Two.first {B P v1 v2 D u0 u1 u2 U Q : Nat} (h : Two B P v1 v2 D u0 u1 u2 U Q) : Q ≤ (u0 * B + u1) / v1 := by
  have h1 := h.le
  rw [Nat.le_div_iff_mul_le h.pv1]
  have h2 : B * (Q * v1) < B * (u0 * B + u1 + 1) := by
    have h3 : Q * (v2 + B * v1) = Q * v2 + B * (Q * v1) := by grind
    have h4 : B * (u0 * B + u1 + 1) = B * (u1 + B * u0) + B := by grind
    have h5 := h.pu2
    omega
  have := Nat.lt_of_mul_lt_mul_left h2
  omega
/-- While the guess times two digits is too great, it is greater than the quotient. -/
theorem Two.down {B P v1 v2 D u0 u1 u2 U Q g r : Nat} (h : Two B P v1 v2 D u0 u1 u2 U Q) (hg : g * v1 + r = u0 * B + u1) (hc : r * B + u2 < g * v2) : Q < g := by
  have h1 := h.le
  have h2 : Q * (v2 + B * v1) < g * (v2 + B * v1) := by
    have h3 : g * (v2 + B * v1) = g * v2 + B * (g * v1) := by grind
    have h4 : u2 + B * (u1 + B * u0) = u2 + B * (g * v1 + r) := by rw [hg]; grind
    have h5 : B * (g * v1 + r) = B * (g * v1) + r * B := by grind
    omega
  exact Nat.lt_of_mul_lt_mul_right h2
/-- At the end the guess is the quotient or one more. -/
theorem Two.near {B P v1 v2 D u0 u1 u2 U Q g r : Nat} (h : Two B P v1 v2 D u0 u1 u2 U Q) (hg : g * v1 + r = u0 * B + u1) (hb : g < B) (hc : g * v2 ≤ r * B + u2) : g ≤ Q + 1 := by
  obtain ⟨D0, h1, h2⟩ := h.div
  obtain ⟨U0, h3, h4⟩ := h.num
  have hv := h.pv1
  have hP : 0 < P := by omega
  have h5 : g * (v2 + B * v1) ≤ u2 + B * (u1 + B * u0) := by
    have h3 : g * (v2 + B * v1) = g * v2 + B * (g * v1) := by grind
    have h4 : u2 + B * (u1 + B * u0) = u2 + B * (g * v1 + r) := by rw [hg]; grind
    have h5 : B * (g * v1 + r) = B * (g * v1) + r * B := by grind
    omega
  have h6 : P * B ≤ D := by
    have e0 : B * 1 ≤ B * v1 := Nat.mul_le_mul_left _ hv
    have : P * B ≤ P * (v2 + B * v1) := Nat.mul_le_mul_left _ (by omega)
    omega
  have h7 : g * D0 < P * B := by
    have : g * D0 ≤ B * D0 := Nat.mul_le_mul_right _ (by omega)
    have : B * D0 < B * P := Nat.mul_lt_mul_of_pos_left h1 (by omega)
    have : B * P = P * B := Nat.mul_comm _ _
    omega
  have h8 : g * D = g * D0 + P * (g * (v2 + B * v1)) := by rw [h2]; grind
  have h9 : P * (g * (v2 + B * v1)) ≤ P * (u2 + B * (u1 + B * u0)) := Nat.mul_le_mul_left _ h5
  have h10 : g * D < U + D := by omega
  by_cases h0 : g = 0
  · omega
  · have h11 : (g - 1) * D ≤ U := by
      have : (g - 1) * D + D = g * D := by rw [← Nat.succ_mul]; congr 1; omega
      omega
    have h12 : g - 1 ≤ Q := by rw [h.quo, Nat.le_div_iff_mul_le (by omega)]; exact h11
    omega
/-- The great guess. -/
theorem Two.small {B P v1 v2 D u0 u1 u2 U Q g r : Nat} (h : Two B P v1 v2 D u0 u1 u2 U Q) (hU : U < B * D) (hg : g * v1 + r = u0 * B + u1) (hr : B ≤ r) : g < B := by
  obtain ⟨D0, h1, h2⟩ := h.div
  obtain ⟨U0, h3, h4⟩ := h.num
  have hP : 0 < P := by omega
  have h5 : P * (u2 + B * (u1 + B * u0)) < P * (B * (v2 + B * v1) + B) := by
    have e1 : B * D = B * D0 + P * (B * (v2 + B * v1)) := by rw [h2]; grind
    have e2 : P * (B * (v2 + B * v1) + B) = P * (B * (v2 + B * v1)) + B * P := by grind
    have e3 : B * D0 ≤ B * P := Nat.mul_le_mul_left _ (by omega)
    omega
  have h6 := Nat.lt_of_mul_lt_mul_left h5
  have h7 : B * (u1 + B * u0) < B * (v2 + B * v1 + 1) := by
    have : B * (v2 + B * v1 + 1) = B * (v2 + B * v1) + B := by grind
    omega
  have h8 := Nat.lt_of_mul_lt_mul_left h7
  have hv2 := h.pv2
  have h9 : g * v1 < B * v1 := by
    have : u1 + B * u0 = g * v1 + r := by rw [hg]; grind
    omega
  exact Nat.lt_of_mul_lt_mul_right h9
theorem two_of {B : Nat} (hB : 1 < B) {u d : List Nat} {n : Nat} (hn : 2 ≤ n) (hd : d.length = n) (hu : u.length = n + 1) (bd : ∀ x ∈ d, x < B) (bu : ∀ x ∈ u, x < B) (hv : 0 < d.getD (n - 1) 0) :
    Two B (B ^ (n - 2)) (d.getD (n - 1) 0) (d.getD (n - 2) 0) (val B d) (u.getD n 0) (u.getD (n - 1) 0) (u.getD (n - 2) 0) (val B u) (val B u / val B d) := by
  have g : ∀ {l : List Nat} (i : Nat), (∀ x ∈ l, x < B) → l.getD i 0 < B := by
    intro l i h
    by_cases hi : i < l.length
    · rw [List.getD_eq_getElem?_getD, List.getElem?_eq_getElem hi]; exact h _ (List.getElem_mem hi)
    · rw [List.getD_eq_getElem?_getD, List.getElem?_eq_none (by omega)]; simp; omega
  refine ⟨hv, g _ bd, g _ bu, g _ bu, ⟨val B (d.take (n - 2)), ?_, val_top2 hn hd⟩, ⟨val B (u.take (n - 2)), ?_, val_top3 hn hu⟩, rfl⟩
  · have := val_lt hB (l := d.take (n - 2)) fun x hx => bd x (List.mem_of_mem_take hx)
    rwa [List.length_take, Nat.min_eq_left (by omega)] at this
  · have := val_lt hB (l := u.take (n - 2)) fun x hx => bu x (List.mem_of_mem_take hx)
    rwa [List.length_take, Nat.min_eq_left (by omega)] at this
/-- What is left when the guess was right. -/
theorem left_right {U D Q g V : Nat} (hD : 0 < D) (hQ : Q = U / D) (h1 : Q ≤ g) (h : V + g * D = U) : g = Q ∧ V = U % D := by
  have h2 : g ≤ Q := by rw [hQ, Nat.le_div_iff_mul_le hD]; omega
  have h3 : g = Q := by omega
  subst h3
  refine ⟨rfl, ?_⟩
  have := Nat.div_add_mod U D
  rw [← hQ] at this
  have e : D * g = g * D := Nat.mul_comm _ _
  omega
/-- What is left when the guess was one too great, behind the correction. M: the modulus; c: the last carry. -/
theorem left_more {U D Q g V W M c : Nat} (hD : 0 < D) (hQ : Q = U / D) (h1 : g ≤ Q + 1) (hV : V < M) (h : V + g * D = U + M) (hW : W < M) (h2 : W + M * c = V + D) (hDM : D ≤ M) : g = Q + 1 ∧ W = U % D := by
  have h3 : U < g * D := by omega
  have h4 : Q < g := by rw [hQ]; exact (Nat.div_lt_iff_lt_mul hD).2 h3
  have h5 : g = Q + 1 := by omega
  refine ⟨h5, ?_⟩
  have h6 := Nat.div_add_mod U D
  have h7 := Nat.mod_lt U hD
  have e : g * D = D * (U / D) + D := by rw [h5, hQ]; grind
  have h8 : W + M * c = U % D + M := by omega
  have hc : c = 1 := by
    have hc0 : c ≠ 0 := by intro e0; subst e0; omega
    have hc1 : c < 2 := by
      have : M * c < M * 2 := by omega
      exact Nat.lt_of_mul_lt_mul_left this
    omega
  subst hc
  omega
end Iv
end Go.Proofs.YtfajgibpidlojaaDoor
end

section
/- The reference's long division, part A: less; one digit (run in place). Conditions: two digits or more, no digit 0 in front. -/
set_option linter.unusedVariables false
set_option linter.unusedSimpArgs false
set_option maxHeartbeats 4000000
set_option maxRecDepth 4000
namespace Go.Proofs.YtfajgibpidlojaaDoor
namespace Iv
open Go Go.Proofs

noncomputable def envLess (F : TypeId) : Env := envOf [natofC F, rmulC F, trimC F, rcmpC F]
theorem envLess_ok (F : TypeId) : EnvOK Tryd.prog F tb (envLess F) := envOf_ok _
theorem cmpI_lt (a b : Nat) : cmpI a b < 0 ↔ a < b := by unfold cmpI; split <;> (try split) <;> omega
theorem L16_le_nb (a : Nat) : L16 a ≤ nb a := len16_nb a
theorem less_wp (F : TypeId) (l : List Nat) (m : Nat) (g : Int) (hl : ∀ x ∈ l, x < B16) (h1 : l.length ≤ cap30) (h2 : L16 m + 4 ≤ cap30) (hg : 0 ≤ g) (hg2 : g < 65536) (K : Except Int SV → Prop) (hK : ∀ r, SubE r (.ok (.bool (decide (val B16 l < m * g.toNat)))) → K r) :
    wpF tb (envLess F) (wpDraw tb (envLess F)) Tryd.f166 [.words l, .n16 m, .int .u64 g] K := by
  have h30 := c30
  have e1 : L16 g.toNat ≤ 1 := dig_len_le (by decide) (by omega)
  have e2 : L16 (m * g.toNat) ≤ L16 m + 1 := dig_len_le (by decide) (by
    rw [Nat.pow_succ]
    have h3 : m < 65536 ^ L16 m := (dig_len_lt (by decide)).1 (Nat.le_refl _)
    exact Nat.mul_lt_mul'' h3 (by omega))
  have e3 : L16 (val B16 l) ≤ l.length := dig_len_le (by decide) (val_lt (by decide) hl)
  refine And.intro ⟨hg, by omega⟩ ?_
  refine And.intro (by (try dsimp only); omega) ?_
  refine And.intro ⟨hl, h1⟩ ?_
  refine And.intro ⟨by (try dsimp only); omega, by (try dsimp only); omega⟩ ?_
  show K _
  refine hK _ ?_
  have : @decide (cmpI (val B16 l) (m * g.toNat) < 0) (Classical.propDecidable _) = decide (val B16 l < m * g.toNat) := by
    rw [Bool.eq_iff_iff]; simp only [decide_eq_true_eq, cmpI_lt]
  exact ⟨rfl, by rw [← this]; exact Sub.refl _⟩
def dec_less : List SV → Option (List Nat × List Nat × Int)
  | [x, y, .int .u64 g] => match x.list, y.list with
    | some l, some m => some (l, m, g)
    | _, _ => none
  | _ => none
theorem dec_less_sub (xs : List SV) (p : List Nat × List Nat × Int) (h : dec_less xs = some p) : SubL xs [.words p.1, .words p.2.1, .int .u64 p.2.2] := by
  unfold dec_less at h
  split at h
  · split at h
    · rename_i x y g l m ha hb
      simp only [Option.some.injEq] at h
      subst h
      exact SubL.cons (Sub.words ha) (SubL.cons (Sub.words hb) (SubL.cons (Sub.refl _) SubL.nil))
    · cases h
  · cases h
theorem less_holds (F : TypeId) (p : List Nat × List Nat × Int) (h : (∀ x ∈ p.1, x < B16) ∧ p.1.length ≤ cap30 ∧ (∀ x ∈ p.2.1, x < B16) ∧ canon p.2.1 ∧ p.2.1.length + 4 ≤ cap30 ∧ 0 ≤ p.2.2 ∧ p.2.2 < 65536) : Holds Tryd.prog F 166 [.words p.1, .words p.2.1, .int .u64 p.2.2] (.ok (.bool (decide (val B16 p.1 < val B16 p.2.1 * p.2.2.toNat)))) :=
  holds_run mixed tb_ok (envLess_ok F) Tryd.func166 rfl (by kernel_rfl) (args := [.words p.1, .n16 (val B16 p.2.1), .int .u64 p.2.2])
    (less_wp F p.1 (val B16 p.2.1) p.2.2 h.1 h.2.1 (by unfold L16; rw [dig16_val h.2.2.1 h.2.2.2.1]; exact h.2.2.2.2.1) h.2.2.2.2.2.1 h.2.2.2.2.2.2 _ fun _ hr => hr)
    (SubL.cons (Sub.refl _) (SubL.cons (Sub.val16 h.2.2.1 h.2.2.2.1) (SubL.cons (Sub.refl _) SubL.nil)))
def lessC (F : TypeId) : Con Tryd.prog F :=
  mkCon 166 (enters_of Tryd.func166 (by kernel_rfl) rfl) dec_less (fun p => [.words p.1, .words p.2.1, .int .u64 p.2.2]) (fun p => (∀ x ∈ p.1, x < B16) ∧ p.1.length ≤ cap30 ∧ (∀ x ∈ p.2.1, x < B16) ∧ canon p.2.1 ∧ p.2.1.length + 4 ≤ cap30 ∧ 0 ≤ p.2.2 ∧ p.2.2 < 65536) (fun p => .bool (decide (val B16 p.1 < val B16 p.2.1 * p.2.2.toNat))) dec_less_sub (less_holds F)

/-! ### A window of a row -/
/-- The window of u from lo on, of k places. -/
def win (u : List Nat) (lo k : Nat) : List Nat := (u.drop lo).take k
theorem win_len {u : List Nat} {lo k : Nat} (h : lo + k ≤ u.length) : (win u lo k).length = k := by unfold win; simp; omega
theorem win_get {u : List Nat} {lo k i : Nat} (h : i < k) : (win u lo k).getD i 0 = u.getD (lo + i) 0 := by
  unfold win
  simp [List.getD_eq_getElem?_getD, List.getElem?_take, h]
theorem win_take {u : List Nat} {lo k i : Nat} (h : i ≤ k) : (win u lo k).take i = win u lo i := by
  unfold win
  rw [List.take_take, Nat.min_eq_left h]
theorem win_mem {u : List Nat} {lo k : Nat} {B : Nat} (h : ∀ x ∈ u, x < B) : ∀ x ∈ win u lo k, x < B := fun x hx => h x (List.mem_of_mem_drop (List.mem_of_mem_take hx))
theorem win_eq (u : List Nat) (lo k : Nat) : (u.take (lo + k)).drop lo = win u lo k := by
  unfold win
  rw [List.drop_take]
  congr 1
  omega
/-- c is u but for the places from lo to lo + i. -/
structure Part (u c : List Nat) (lo i : Nat) : Prop where
  len : c.length = u.length
  low : c.take lo = u.take lo
  high : c.drop (lo + i) = u.drop (lo + i)
theorem Part.refl (u : List Nat) (lo : Nat) : Part u u lo 0 := ⟨rfl, rfl, rfl⟩
theorem Part.get {u c : List Nat} {lo i j : Nat} (h : Part u c lo i) (hj : lo + i ≤ j) : c.getD j 0 = u.getD j 0 := by
  have := congrArg (fun l : List Nat => l.getD (j - (lo + i)) 0) h.high
  simp only [List.getD_eq_getElem?_getD, List.getElem?_drop] at this
  rw [show lo + i + (j - (lo + i)) = j by omega] at this
  simpa [List.getD_eq_getElem?_getD] using this
theorem Part.set {u c : List Nat} {lo i : Nat} (h : Part u c lo i) (d : Nat) : Part u (c.set (lo + i) d) lo (i + 1) := by
  refine ⟨by simp [h.len], ?_, ?_⟩
  · rw [List.take_set, List.set_eq_of_length_le (by simp; omega)]; exact h.low
  · rw [List.drop_set, if_pos (by omega)]
    have := congrArg (List.drop 1) h.high
    rw [List.drop_drop, List.drop_drop] at this
    exact this
theorem Part.val {B : Nat} {u c : List Nat} {lo i : Nat} (h : Part u c lo i) (hi : lo + i < u.length) (d : Nat) : val B (win (c.set (lo + i) d) lo (i + 1)) = val B (win c lo i) + B ^ i * d := by
  unfold win
  rw [List.drop_set, if_neg (by omega), show lo + i - lo = i by omega]
  exact val_set_succ B (c.drop lo) i d (by rw [List.length_drop, h.len]; omega)
theorem win_succ (B : Nat) (u : List Nat) (lo i : Nat) : val B (win u lo (i + 1)) = val B (win u lo i) + B ^ i * u.getD (lo + i) 0 := by
  unfold win
  rw [val_take_succ]
  congr 2
  simp [List.getD_eq_getElem?_getD]
end Iv
end Go.Proofs.YtfajgibpidlojaaDoor
end

section
/- The verified interpreter, part Q: a state of which some slots are known, for functions with many slots (each unknown slot has its number). No condition. -/
set_option linter.unusedVariables false
namespace Go.Proofs.YtfajgibpidlojaaDoor
namespace Iv
open Go

inductive Sl where
  | k (v : SV)
  | u (i : Nat)
def patQ (x : Nat → SV) : List Sl → List SV
  | [] => []
  | .k v :: ps => v :: patQ x ps
  | .u i :: ps => x i :: patQ x ps
inductive LikeQ : Nat → List Sl → List SV → Prop
  | nil {n : Nat} : LikeQ n [] []
  | s {n : Nat} {x v : SV} {ps : List Sl} {xs : List SV} : x = v → LikeQ (n + 1) ps xs → LikeQ n (.k v :: ps) (x :: xs)
  | n {n i : Nat} {x : SV} {ps : List Sl} {xs : List SV} : i = n → LikeQ (n + 1) ps xs → LikeQ n (.u i :: ps) (x :: xs)
theorem LikeQ.pat_eq : ∀ {n : Nat} {ps : List Sl} {xs : List SV}, LikeQ n ps xs → ∀ (x : Nat → SV), (∀ i, i < xs.length → x (n + i) = xs.getD i .undef) → xs = patQ x ps
  | _, _, _, .nil, x, h => rfl
  | m, _, _, .s (xs := xs) e hl, x, h => by
    subst e
    simp only [patQ]
    congr 1
    exact LikeQ.pat_eq hl x fun i hi => by
      have := h (i + 1) (by simpa using hi)
      rw [show m + 1 + i = m + (i + 1) by omega, this]
      simp
  | m, _, _, .n (i := i0) (xs := xs) e hl, x, h => by
    obtain rfl : m = i0 := e.symm
    simp only [patQ]
    have h0 := h 0 (by simp)
    simp only [Nat.add_zero] at h0
    rw [h0]
    simp only [List.getD_cons_zero]
    congr 1
    exact LikeQ.pat_eq hl x fun i hi => by
      have := h (i + 1) (by simpa using hi)
      rw [show m + 1 + i = m + (i + 1) by omega, this]
      simp
theorem fitsQ {ps : List Sl} {xs : List SV} {os : List Ob} (h : LikeQ 0 ps xs) : ∃ x, (⟨xs, os⟩ : St) = ⟨patQ x ps, os⟩ :=
  ⟨fun i => xs.getD i .undef, by rw [← h.pat_eq _ fun i _ => by simp]⟩
end Iv
end Go.Proofs.YtfajgibpidlojaaDoor
end

section
/- The words' long division, part A: one digit (run in place). Conditions: two words or more, no word 0 in front. -/
set_option linter.unusedVariables false
set_option linter.unusedSimpArgs false
set_option maxHeartbeats 8000000
set_option maxRecDepth 20000
namespace Go.Proofs.YtfajgibpidlojaaDoor
namespace Iv
open Go Go.Proofs

theorem Part.trans {u c d : List Nat} {lo i : Nat} (h : Part u c lo i) (k : Part c d lo i) : Part u d lo i := ⟨k.len.trans h.len, k.low.trans h.low, k.high.trans h.high⟩
/-- One place of the subtraction. -/
theorem sub_place {P cy bw ci s t : Int} (hP0 : 0 ≤ P) (hP : P ≤ 18446744065119617025) (hc0 : 0 ≤ cy) (hc : cy < 4294967296) (hb0 : 0 ≤ bw) (hb : bw ≤ 1) (hi0 : 0 ≤ ci) (hi : ci < 4294967296) (hs : s = P + cy) (ht : t = (ci - s % 4294967296 - bw) % 18446744073709551616) :
    0 ≤ s / 4294967296 ∧ s / 4294967296 < 4294967296 ∧ 0 ≤ t / 9223372036854775808 ∧ t / 9223372036854775808 ≤ 1 ∧ t % 4294967296 + P + cy + bw = ci + 4294967296 * (s / 4294967296 + t / 9223372036854775808) := by
  subst hs
  omega
/-- The code behind the first of two. -/
def tl : Code → Code
  | .seq _ b => b
  | c => c
def codeOf (f : Func) : Code := match f.body with
  | some c => c
  | none => .skip
theorem wdigit_wp (D : Nat) (u q : List Nat) (lo hi n : Nat) (hn : 2 ≤ n) (hv : (dig32 D).length = n) (hhi : hi = lo + n + 1) (hu : hi ≤ u.length) (bu : ∀ x ∈ u, x < B32) (hcap : u.length ≤ cap30)
    (hU : val B32 (win u lo (n + 1)) < B32 * D) (K : SV → List Ob → Prop)
    (hK : ∀ c, Part u c lo (n + 1) → (∀ x ∈ c, x < B32) → val B32 (win c lo (n + 1)) = val B32 (win u lo (n + 1)) % D → K (.int .u32 (val B32 (win u lo (n + 1)) / D : Nat)) [.row c, .row q]) :
    wpInl tbI env0 (wpDraw tbI env0) Tryd.f158 [.view 0 lo hi, .n32 D] [.row u, .row q] K := by
  have h30 := c30
  have bv := lt32 D
  have hlast : 0 < (dig32 D).getD (n - 1) 0 := by
    have := (canon_last (l := dig32 D) (by intro e; rw [e] at hv; simp at hv; omega)).1 (can32 D)
    rw [hv] at this
    omega
  have hvv := val_dig32 D
  have htwo := two_of (B := B32) (by decide) (u := win u lo (n + 1)) (d := dig32 D) hn hv (win_len (by omega)) bv (win_mem bu) hlast
  rw [win_get (by omega), win_get (by omega), win_get (by omega), hvv] at htwo
  have hvp : 0 < D := by
    rcases Nat.eq_zero_or_pos D with e | e
    · subst e; simp [dig32, dig_zero] at hv; omega
    · exact e
  have hQ : val B32 (win u lo (n + 1)) / D < B32 := (Nat.div_lt_iff_lt_mul hvp).2 hU
  have hx0 : _ < 4294967296 := getD_lt (B := B32) (by decide) bu (lo + n)
  have hx1 : _ < 4294967296 := getD_lt (B := B32) (by decide) bu (lo + (n - 1))
  have hx2 : _ < 4294967296 := getD_lt (B := B32) (by decide) bu (lo + (n - 2))
  have hy1 : _ < 4294967296 := getD_lt (B := B32) (by decide) bv (n - 1)
  have hy2 : _ < 4294967296 := getD_lt (B := B32) (by decide) bv (n - 2)
  have hfirst := htwo.first
  subst hv
  refine And.intro (by kernel_rfl) (Or.inl ?_)
  refine And.intro (by (try dsimp only); omega) ?_
  refine And.intro (by (try dsimp only); omega) ?_
  refine And.intro (by decide) ?_
  refine And.intro (by (try dsimp only); omega) ?_
  refine And.intro (by (try dsimp only); omega) ?_
  refine And.intro (by (try dsimp only); omega) ?_
  refine And.intro (by kernel_rfl) (Or.inl ?_)
  refine And.intro (by (try dsimp only); omega) ?_
  refine And.intro (by (try dsimp only); omega) ?_
  have e1 : (((dig32 D).length : Int) - 1).toNat = (dig32 D).length - 1 := by omega
  refine And.intro (by rw [show ((((dig32 D).length : Nat) : Int) - 1).toNat = (dig32 D).length - 1 from e1]; omega) ?_
  refine And.intro (by (try dsimp only); omega) ?_
  refine And.intro (by (try dsimp only); omega) ?_
  refine And.intro (by rw [show ((((dig32 D).length : Nat) : Int) - 1).toNat = (dig32 D).length - 1 from e1]; omega) ?_
  -- the names of the digits
  generalize hd1 : (dig32 D).getD ((dig32 D).length - 1) 0 = v1 at htwo hfirst hlast hy1
  generalize hd2 : (dig32 D).getD ((dig32 D).length - 2) 0 = v2 at htwo hy2
  generalize hu0 : u.getD (lo + (dig32 D).length) 0 = u0 at htwo hfirst hx0
  generalize hu1 : u.getD (lo + ((dig32 D).length - 1)) 0 = u1 at htwo hfirst hx1
  generalize hu2 : u.getD (lo + ((dig32 D).length - 2)) 0 = u2 at htwo hx2
  generalize hQd : val B32 (win u lo ((dig32 D).length + 1)) / D = Q at hQ hfirst htwo hK
  have hE6 : IntKind.u64.wrap (((BitVec.ofInt IntKind.u64.bits (((u.getD (lo + (((dig32 D).length : Nat) : Int).toNat) 0 : Nat) : Int) % 18446744073709551616 * 2 ^ min (Int.toNat 32) IntKind.u64.bits % 18446744073709551616) ||| BitVec.ofInt IntKind.u64.bits (((u.getD (lo + ((((dig32 D).length : Nat) : Int) - 1).toNat) 0 : Nat) : Int) % 18446744073709551616)).toNat : Nat) : Int) = ((u0 * B32 + u1 : Nat) : Int) := by
    rw [e1, Int.toNat_natCast, hu0, hu1]
    refine (or_add (x := ((u0 : Nat) : Int) % 18446744073709551616) (y := (u1 : Nat)) (by omega) (by omega) (by omega) (by omega)).trans ?_
    simp only [B32]; omega
  have hv1 : ((((dig32 D).getD ((((dig32 D).length : Nat) : Int) - 1).toNat 0 : Nat) : Int) % 18446744073709551616) = ((v1 : Nat) : Int) := by
    rw [e1, hd1]; omega
  have hTlt : u0 * B32 + u1 < 18446744073709551616 := by simp only [B32]; omega
  have hG : (((u0 * B32 + u1 : Nat) : Int)).tdiv ((v1 : Nat) : Int) % 18446744073709551616 = (((u0 * B32 + u1) / v1 : Nat) : Int) := by
    rw [Int.tdiv_eq_ediv_of_nonneg (Int.natCast_nonneg _), ← Int.natCast_ediv]
    have := Nat.div_le_self (u0 * B32 + u1) v1
    generalize (u0 * B32 + u1) / v1 = z at *
    omega
  have hR : (((u0 * B32 + u1 : Nat) : Int)).tmod ((v1 : Nat) : Int) = (((u0 * B32 + u1) % v1 : Nat) : Int) := by
    rw [Int.tmod_eq_emod_of_nonneg (Int.natCast_nonneg _), ← Int.natCast_emod]
  have hGR := Nat.div_add_mod (u0 * B32 + u1) v1
  have hRlt := Nat.mod_lt (u0 * B32 + u1) hlast
  -- behind the guess
  have rest : ∀ (gn : Nat) (s : St), Q ≤ gn → gn ≤ Q + 1 → gn < 4294967296 → (∃ (g r : Int) (x : Nat → SV), g = gn ∧ s = ⟨patQ x [.k (.view 0 lo hi), .k (.n32 D), .u 2, .u 3, .k (.int .u32 0), .k (.int .i64 (List.length (dig32 D) : Nat)), .u 6, .k (.int .u64 g), .k (.int .u64 r), .u 9, .u 10, .u 11, .u 12, .u 13, .u 14, .u 15, .u 16, .u 17, .u 18, .u 19, .u 20, .u 21, .u 22, .u 23, .u 24, .u 25, .u 26, .u 27, .u 28, .u 29, .u 30, .u 31, .u 32, .u 33, .u 34, .u 35, .u 36, .u 37, .u 38, .u 39, .u 40, .u 41, .u 42, .u 43, .u 44, .u 45, .u 46, .u 47, .u 48, .u 49, .u 50, .u 51, .u 52, .u 53, .u 54, .u 55, .u 56, .u 57, .u 58, .u 59, .u 60, .u 61, .u 62, .u 63, .u 64, .u 65, .u 66, .u 67, .u 68, .u 69, .u 70, .u 71, .u 72, .u 73, .u 74, .u 75, .u 76, .u 77, .u 78, .u 79, .u 80, .u 81, .u 82, .u 83, .u 84, .u 85, .u 86, .u 87, .u 88, .u 89, .u 90, .u 91, .u 92, .u 93, .u 94, .u 95, .u 96, .u 97, .u 98, .u 99, .u 100, .u 101, .u 102, .u 103, .u 104, .u 105, .u 106, .u 107, .u 108, .u 109, .u 110, .u 111, .u 112, .u 113, .u 114, .u 115, .u 116, .u 117, .u 118, .u 119, .u 120, .u 121, .u 122, .u 123, .u 124, .u 125, .u 126, .u 127, .u 128, .u 129, .u 130, .u 131, .u 132, .u 133, .u 134, .u 135, .u 136, .u 137, .u 138, .u 139, .u 140, .u 141, .u 142, .u 143, .u 144, .u 145, .u 146, .u 147, .u 148, .u 149, .u 150, .u 151, .u 152, .u 153, .u 154, .u 155, .u 156, .u 157, .u 158, .u 159, .u 160, .u 161, .u 162, .u 163, .u 164, .u 165, .u 166, .u 167, .u 168, .u 169, .u 170, .u 171, .u 172, .u 173, .u 174], [.row u, .row q]⟩) →
      wpC tbI env0 (wpDraw tbI env0) (fun _ => False) (tl (tl (tl (tl (tl (codeOf Tryd.f158)))))) s (fun e st => match e with
        | .exit _ => False
        | _ => match resOf tbI st Tryd.f158.results.toList with
          | some x => K x st.os
          | none => False) := by
    rintro gn s hgQ hgQ1 hgB ⟨g, r, x, hg, rfl⟩
    have hfd : ∀ z : Int, z.fdiv (2 ^ min (Int.toNat 32) IntKind.u64.bits) = z / 4294967296 := fun z => Int.fdiv_eq_ediv_of_nonneg z (by decide)
    have hfd63 : ∀ z : Int, z.fdiv (2 ^ min (Int.toNat 63) IntKind.u64.bits) = z / 9223372036854775808 := fun z => Int.fdiv_eq_ediv_of_nonneg z (by decide)
    show ∃ n, wpLoop _ n _ _
    refine loop_rule (fun m st => ∃ (i bw cy : Int) (c : List Nat), (m : Int) = (dig32 D).length - i ∧ 0 ≤ i ∧ i ≤ (dig32 D).length ∧ 0 ≤ bw ∧ bw ≤ 1 ∧ 0 ≤ cy ∧ cy < 4294967296 ∧ Part u c lo i.toNat ∧ (∀ x ∈ c, x < B32) ∧ val B32 (win c lo i.toNat) + gn * val B32 ((dig32 D).take i.toNat) = val B32 (win u lo i.toNat) + B32 ^ i.toNat * (cy.toNat + bw.toNat) ∧ ∃ x, st = ⟨patQ x [.k (.view 0 lo hi), .k (.n32 D), .u 2, .u 3, .k (.int .u32 0), .k (.int .i64 (List.length (dig32 D) : Nat)), .u 6, .k (.int .u64 g), .u 8, .k (.int .u64 bw), .k (.int .u64 cy), .u 11, .u 12, .u 13, .u 14, .u 15, .u 16, .u 17, .u 18, .u 19, .u 20, .u 21, .u 22, .u 23, .u 24, .u 25, .u 26, .u 27, .u 28, .u 29, .u 30, .u 31, .u 32, .u 33, .u 34, .u 35, .u 36, .u 37, .u 38, .u 39, .u 40, .u 41, .u 42, .u 43, .u 44, .u 45, .u 46, .u 47, .u 48, .u 49, .u 50, .u 51, .u 52, .u 53, .u 54, .u 55, .u 56, .u 57, .u 58, .u 59, .u 60, .u 61, .u 62, .u 63, .u 64, .u 65, .u 66, .u 67, .u 68, .u 69, .u 70, .u 71, .u 72, .u 73, .u 74, .u 75, .u 76, .u 77, .u 78, .u 79, .u 80, .u 81, .u 82, .u 83, .u 84, .u 85, .k (.n32 D), .k (.int .i64 (List.length (dig32 D) : Nat)), .k (.int .i64 i), .u 89, .u 90, .u 91, .u 92, .u 93, .u 94, .u 95, .u 96, .u 97, .u 98, .u 99, .u 100, .u 101, .u 102, .u 103, .u 104, .u 105, .u 106, .u 107, .u 108, .u 109, .u 110, .u 111, .u 112, .u 113, .u 114, .u 115, .u 116, .u 117, .u 118, .u 119, .u 120, .u 121, .u 122, .u 123, .u 124, .u 125, .u 126, .u 127, .u 128, .u 129, .u 130, .u 131, .u 132, .u 133, .u 134, .u 135, .u 136, .u 137, .u 138, .u 139, .u 140, .u 141, .u 142, .u 143, .u 144, .u 145, .u 146, .u 147, .u 148, .u 149, .u 150, .u 151, .u 152, .u 153, .u 154, .u 155, .u 156, .u 157, .u 158, .u 159, .u 160, .u 161, .u 162, .u 163, .u 164, .u 165, .u 166, .u 167, .u 168, .u 169, .u 170, .u 171, .u 172, .u 173, .u 174], [.row c, .row q]⟩) ?step (n := (dig32 D).length) ?init
    case init => exact ⟨0, 0, 0, u, by omega, by omega, by omega, by omega, by omega, by omega, by omega, Part.refl u lo, bu, by simp [win, val], (fitsQ (.s rfl (.s rfl (.n rfl (.n rfl (.s rfl (.s rfl (.n rfl (.s rfl (.n rfl (.s rfl (.s rfl (.n rfl (.n rfl (.n rfl (.n rfl (.n rfl (.n rfl (.n rfl (.n rfl (.n rfl (.n rfl (.n rfl (.n rfl (.n rfl (.n rfl (.n rfl (.n rfl (.n rfl (.n rfl (.n rfl (.n rfl (.n rfl (.n rfl (.n rfl (.n rfl (.n rfl (.n rfl (.n rfl (.n rfl (.n rfl (.n rfl (.n rfl (.n rfl (.n rfl (.n rfl (.n rfl (.n rfl (.n rfl (.n rfl (.n rfl (.n rfl (.n rfl (.n rfl (.n rfl (.n rfl (.n rfl (.n rfl (.n rfl (.n rfl (.n rfl (.n rfl (.n rfl (.n rfl (.n rfl (.n rfl (.n rfl (.n rfl (.n rfl (.n rfl (.n rfl (.n rfl (.n rfl (.n rfl (.n rfl (.n rfl (.n rfl (.n rfl (.n rfl (.n rfl (.n rfl (.n rfl (.n rfl (.n rfl (.n rfl (.n rfl (.n rfl (.s rfl (.s rfl (.s rfl (.n rfl (.n rfl (.n rfl (.n rfl (.n rfl (.n rfl (.n rfl (.n rfl (.n rfl (.n rfl (.n rfl (.n rfl (.n rfl (.n rfl (.n rfl (.n rfl (.n rfl (.n rfl (.n rfl (.n rfl (.n rfl (.n rfl (.n rfl (.n rfl (.n rfl (.n rfl (.n rfl (.n rfl (.n rfl (.n rfl (.n rfl (.n rfl (.n rfl (.n rfl (.n rfl (.n rfl (.n rfl (.n rfl (.n rfl (.n rfl (.n rfl (.n rfl (.n rfl (.n rfl (.n rfl (.n rfl (.n rfl (.n rfl (.n rfl (.n rfl (.n rfl (.n rfl (.n rfl (.n rfl (.n rfl (.n rfl (.n rfl (.n rfl (.n rfl (.n rfl (.n rfl (.n rfl (.n rfl (.n rfl (.n rfl (.n rfl (.n rfl (.n rfl (.n rfl (.n rfl (.n rfl (.n rfl (.n rfl (.n rfl (.n rfl (.n rfl (.n rfl (.n rfl (.n rfl (.n rfl (.n rfl (.n rfl (.n rfl (.n rfl (.n rfl (.n rfl .nil))))))))))))))))))))))))))))))))))))))))))))))))))))))))))))))))))))))))))))))))))))))))))))))))))))))))))))))))))))))))))))))))))))))))))))))))))))))))))))))))))))))))))))))))⟩
    case step =>
      rintro m st K' hK1 hK2 ⟨i, bw, cy, c, hm, hi0, hil, hb0, hb1, hc0, hc1, hp, hcb, hval, x, rfl⟩
      have hcl := hp.len
      have hx : _ < 4294967296 := getD_lt (B := B32) (by decide) hcb (lo + i.toNat)
      have hy : _ < 4294967296 := getD_lt (B := B32) (by decide) bv i.toNat
      have e2 : (i + 1).toNat = i.toNat + 1 := by omega
      have hget := hp.get (j := lo + i.toNat) (Nat.le_refl _)
      refine ifB_mk (fun h4 => ?_) (fun h4 => ?_)
      · simp only [decide_eq_true_eq] at h4
        generalize hw : (dig32 D).getD i.toNat 0 = w at hy
        have hP : gn * w ≤ 4294967295 * 4294967295 := Nat.mul_le_mul (by omega) (by omega)
        -- the two words of this place
        have hs : (g * (((w : Nat) : Int) % 18446744073709551616) % 18446744073709551616 + cy) % 18446744073709551616 = ((gn * w : Nat) : Int) + cy := by
          rw [show ((w : Nat) : Int) % 18446744073709551616 = (w : Nat) by omega, hg, ← Int.natCast_mul]
          omega
        obtain ⟨p1, p2, p3, p4, p5⟩ := sub_place (P := ((gn * w : Nat) : Int)) (cy := cy) (bw := bw) (ci := (c.getD (lo + i.toNat) 0 : Nat)) (by omega) (by omega) hc0 hc1 hb0 hb1 (by omega) (by omega) rfl rfl
        rw [← hs] at p1 p2 p3 p4 p5
        have ht : ((((c.getD (lo + i.toNat) 0 : Nat) : Int) % 18446744073709551616 - (g * (((w : Nat) : Int) % 18446744073709551616) % 18446744073709551616 + cy) % 18446744073709551616 % 4294967296 % 18446744073709551616) % 18446744073709551616 - bw) % 18446744073709551616 = (((c.getD (lo + i.toNat) 0 : Nat) : Int) - (g * (((w : Nat) : Int) % 18446744073709551616) % 18446744073709551616 + cy) % 18446744073709551616 % 4294967296 - bw) % 18446744073709551616 := by
          generalize (g * (((w : Nat) : Int) % 18446744073709551616) % 18446744073709551616 + cy) % 18446744073709551616 = z
          omega
        rw [← ht] at p3 p4 p5
        subst hw
        generalize hT : ((((c.getD (lo + i.toNat) 0 : Nat) : Int) % 18446744073709551616 - (g * ((((dig32 D).getD i.toNat 0 : Nat) : Int) % 18446744073709551616) % 18446744073709551616 + cy) % 18446744073709551616 % 4294967296 % 18446744073709551616) % 18446744073709551616 - bw) % 18446744073709551616 = t at p3 p4 p5
        generalize hS : (g * ((((dig32 D).getD i.toNat 0 : Nat) : Int) % 18446744073709551616) % 18446744073709551616 + cy) % 18446744073709551616 = z at p1 p2 p5
        have hval2 : val B32 (win (c.set (lo + i.toNat) (t % 4294967296).toNat) lo (i + 1).toNat) + gn * val B32 ((dig32 D).take (i + 1).toNat) = val B32 (win u lo (i + 1).toNat) + B32 ^ (i + 1).toNat * ((z / 4294967296).toNat + (t / 9223372036854775808).toNat) := by
          rw [e2, hp.val (by omega), win_succ, val_take_succ, Nat.pow_succ, ← hget]
          have h5 : (t % 4294967296).toNat + gn * (dig32 D).getD i.toNat 0 + cy.toNat + bw.toNat = c.getD (lo + i.toNat) 0 + B32 * ((z / 4294967296).toNat + (t / 9223372036854775808).toNat) := by
            simp only [B32]
            generalize gn * (dig32 D).getD i.toNat 0 = P at *
            omega
          have h6 := congrArg (B32 ^ i.toNat * ·) h5
          simp only [Nat.mul_add] at h6 hval ⊢
          grind
        rw [← hT, ← hfd63, ← hS, ← hfd] at hval2
        rw [← hT, ← hfd63] at p3 p4
        rw [← hS, ← hfd] at p1 p2
        refine And.intro (by (try dsimp only); omega) ?_
        refine And.intro (by decide) ?_
        refine And.intro (by (try dsimp only); omega) ?_
        refine And.intro (by (try dsimp only); omega) ?_
        refine And.intro (by (try dsimp only); omega) ?_
        refine And.intro ⟨by (try dsimp only); omega, rfl, by (try dsimp only); omega, by (try dsimp only); omega⟩ ?_
        refine And.intro (by decide) ?_
        refine And.intro (by (try dsimp only); omega) ?_
        exact hK1 (m - 1) _ (by omega) ⟨i + 1, _, _, _, by omega, by omega, by omega, p3, p4, p1, p2, by rw [e2]; exact hp.set _, set_lt hcb (by simp only [B32]; omega), hval2, (fitsQ (.s rfl (.s rfl (.n rfl (.n rfl (.s rfl (.s rfl (.n rfl (.s rfl (.n rfl (.s rfl (.s rfl (.n rfl (.n rfl (.n rfl (.n rfl (.n rfl (.n rfl (.n rfl (.n rfl (.n rfl (.n rfl (.n rfl (.n rfl (.n rfl (.n rfl (.n rfl (.n rfl (.n rfl (.n rfl (.n rfl (.n rfl (.n rfl (.n rfl (.n rfl (.n rfl (.n rfl (.n rfl (.n rfl (.n rfl (.n rfl (.n rfl (.n rfl (.n rfl (.n rfl (.n rfl (.n rfl (.n rfl (.n rfl (.n rfl (.n rfl (.n rfl (.n rfl (.n rfl (.n rfl (.n rfl (.n rfl (.n rfl (.n rfl (.n rfl (.n rfl (.n rfl (.n rfl (.n rfl (.n rfl (.n rfl (.n rfl (.n rfl (.n rfl (.n rfl (.n rfl (.n rfl (.n rfl (.n rfl (.n rfl (.n rfl (.n rfl (.n rfl (.n rfl (.n rfl (.n rfl (.n rfl (.n rfl (.n rfl (.n rfl (.n rfl (.n rfl (.s rfl (.s rfl (.s rfl (.n rfl (.n rfl (.n rfl (.n rfl (.n rfl (.n rfl (.n rfl (.n rfl (.n rfl (.n rfl (.n rfl (.n rfl (.n rfl (.n rfl (.n rfl (.n rfl (.n rfl (.n rfl (.n rfl (.n rfl (.n rfl (.n rfl (.n rfl (.n rfl (.n rfl (.n rfl (.n rfl (.n rfl (.n rfl (.n rfl (.n rfl (.n rfl (.n rfl (.n rfl (.n rfl (.n rfl (.n rfl (.n rfl (.n rfl (.n rfl (.n rfl (.n rfl (.n rfl (.n rfl (.n rfl (.n rfl (.n rfl (.n rfl (.n rfl (.n rfl (.n rfl (.n rfl (.n rfl (.n rfl (.n rfl (.n rfl (.n rfl (.n rfl (.n rfl (.n rfl (.n rfl (.n rfl (.n rfl (.n rfl (.n rfl (.n rfl (.n rfl (.n rfl (.n rfl (.n rfl (.n rfl (.n rfl (.n rfl (.n rfl (.n rfl (.n rfl (.n rfl (.n rfl (.n rfl (.n rfl (.n rfl (.n rfl (.n rfl (.n rfl (.n rfl (.n rfl .nil))))))))))))))))))))))))))))))))))))))))))))))))))))))))))))))))))))))))))))))))))))))))))))))))))))))))))))))))))))))))))))))))))))))))))))))))))))))))))))))))))))))))))))))))⟩
      · simp only [decide_eq_false_iff_not] at h4
        have hi' : i.toNat = (dig32 D).length := by omega
        refine hK2 _ _ (by simp) ?_
        rw [hi', List.take_of_length_le (Nat.le_refl _), hvv] at hval
        rw [hi'] at hp
        have hn0 : _ < 4294967296 := getD_lt (B := B32) (by decide) hcb (lo + (dig32 D).length)
        have hcl := hp.len
        have hget := hp.get (j := lo + (dig32 D).length) (Nat.le_refl _)
        refine And.intro (by (try dsimp only); omega) ?_
        refine And.intro (by (try dsimp only); omega) ?_
        refine And.intro (by (try dsimp only); omega) ?_
        -- the last place
        have e3 : (((dig32 D).length : Nat) : Int).toNat = (dig32 D).length := Int.toNat_natCast _
        have ht0 : ((((c.getD (lo + (((dig32 D).length : Nat) : Int).toNat) 0 : Nat) : Int) % 18446744073709551616 - cy) % 18446744073709551616 - bw) % 18446744073709551616 = (((c.getD (lo + (dig32 D).length) 0 : Nat) : Int) - (cy + bw)) % 18446744073709551616 := by rw [e3]; omega
        refine And.intro ⟨by (try dsimp only); omega, rfl, by (try dsimp only); omega, by (try dsimp only); omega⟩ ?_
        refine And.intro (by decide) ?_
        have hp2 : Part u (c.set (lo + (dig32 D).length) (((((c.getD (lo + (((dig32 D).length : Nat) : Int).toNat) 0 : Nat) : Int) % 18446744073709551616 - cy) % 18446744073709551616 - bw) % 18446744073709551616 % 4294967296).toNat) lo ((dig32 D).length + 1) := hp.set _
        have hb2 : ∀ x ∈ c.set (lo + (dig32 D).length) (((((c.getD (lo + (((dig32 D).length : Nat) : Int).toNat) 0 : Nat) : Int) % 18446744073709551616 - cy) % 18446744073709551616 - bw) % 18446744073709551616 % 4294967296).toNat, x < B32 := set_lt hcb (by simp only [B32]; omega)
        have hw2 : val B32 (win (c.set (lo + (dig32 D).length) (((((c.getD (lo + (((dig32 D).length : Nat) : Int).toNat) 0 : Nat) : Int) % 18446744073709551616 - cy) % 18446744073709551616 - bw) % 18446744073709551616 % 4294967296).toNat) lo ((dig32 D).length + 1)) = val B32 (win c lo (dig32 D).length) + B32 ^ (dig32 D).length * ((((c.getD (lo + (dig32 D).length) 0 : Nat) : Int) - (cy + bw)) % 18446744073709551616 % 4294967296).toNat := by rw [hp.val (by omega), ht0]
        have hus := win_succ B32 u lo (dig32 D).length
        rw [← hget] at hus
        have hPn : 0 < B32 ^ (dig32 D).length := Nat.pow_pos (by decide)
        refine ifB_mk (fun h6 => ?_) (fun h6 => ?_)
        · have h6' : cy + bw ≤ (c.getD (lo + (dig32 D).length) 0 : Nat) := by
            have h1 : ((((((c.getD (lo + (((dig32 D).length : Nat) : Int).toNat) 0 : Nat) : Int) % 18446744073709551616 - cy) % 18446744073709551616 - bw) % 18446744073709551616).fdiv (2 ^ min (Int.toNat 63) IntKind.u64.bits) == 0) = true := h6
            rw [ht0, hfd63] at h1
            simp only [beq_iff_eq] at h1
            omega
          have hV : val B32 (win c lo (dig32 D).length) + B32 ^ (dig32 D).length * ((((c.getD (lo + (dig32 D).length) 0 : Nat) : Int) - (cy + bw)) % 18446744073709551616 % 4294967296).toNat + gn * D = val B32 (win u lo ((dig32 D).length + 1)) := by
            have h7 : ((((c.getD (lo + (dig32 D).length) 0 : Nat) : Int) - (cy + bw)) % 18446744073709551616 % 4294967296).toNat + (cy.toNat + bw.toNat) = c.getD (lo + (dig32 D).length) 0 := by omega
            have h8 := congrArg (B32 ^ (dig32 D).length * ·) h7
            simp only [Nat.mul_add] at h8 hval
            rw [hus]
            omega
          obtain ⟨q1, q2⟩ := left_right hvp hQd.symm hgQ hV
          have hfin := hK _ hp2 hb2 (by rw [hw2]; exact q2)
          have e4 : g % 4294967296 = ((Q : Nat) : Int) := by omega
          rw [← e4] at hfin
          exact hfin
        · have h6' : (c.getD (lo + (dig32 D).length) 0 : Nat) < cy + bw := by
            have h1 : ((((((c.getD (lo + (((dig32 D).length : Nat) : Int).toNat) 0 : Nat) : Int) % 18446744073709551616 - cy) % 18446744073709551616 - bw) % 18446744073709551616).fdiv (2 ^ min (Int.toNat 63) IntKind.u64.bits) == 0) = false := h6
            rw [ht0, hfd63] at h1
            simp only [beq_eq_false_iff_ne, ne_eq] at h1
            omega
          have hV : val B32 (win c lo (dig32 D).length) + B32 ^ (dig32 D).length * ((((c.getD (lo + (dig32 D).length) 0 : Nat) : Int) - (cy + bw)) % 18446744073709551616 % 4294967296).toNat + gn * D = val B32 (win u lo ((dig32 D).length + 1)) + B32 ^ ((dig32 D).length + 1) := by
            have h7 : ((((c.getD (lo + (dig32 D).length) 0 : Nat) : Int) - (cy + bw)) % 18446744073709551616 % 4294967296).toNat + (cy.toNat + bw.toNat) = c.getD (lo + (dig32 D).length) 0 + B32 := by have h9 : B32 = 4294967296 := rfl; omega
            have h8 := congrArg (B32 ^ (dig32 D).length * ·) h7
            simp only [Nat.mul_add] at h8 hval
            rw [hus, Nat.pow_succ]
            omega
          rw [← hw2] at hV
          generalize hc2 : c.set (lo + (dig32 D).length) (((((c.getD (lo + (((dig32 D).length : Nat) : Int).toNat) 0 : Nat) : Int) % 18446744073709551616 - cy) % 18446744073709551616 - bw) % 18446744073709551616 % 4294967296).toNat = c2 at hp2 hb2 hV
          have hcl2 := hp2.len
          show ∃ n, wpLoop _ n _ _
          refine loop_rule (fun m st => ∃ (i cy : Int) (c3 : List Nat), (m : Int) = (dig32 D).length - i ∧ 0 ≤ i ∧ i ≤ (dig32 D).length ∧ 0 ≤ cy ∧ cy ≤ 1 ∧ Part c2 c3 lo i.toNat ∧ (∀ x ∈ c3, x < B32) ∧ val B32 (win c3 lo i.toNat) + B32 ^ i.toNat * cy.toNat = val B32 (win c2 lo i.toNat) + val B32 ((dig32 D).take i.toNat) ∧ ∃ x, st = ⟨patQ x [.k (.view 0 lo hi), .k (.n32 D), .u 2, .u 3, .k (.int .u32 0), .k (.int .i64 (List.length (dig32 D) : Nat)), .u 6, .k (.int .u64 g), .u 8, .u 9, .k (.int .u64 cy), .u 11, .u 12, .u 13, .u 14, .u 15, .u 16, .u 17, .u 18, .u 19, .u 20, .u 21, .u 22, .u 23, .u 24, .u 25, .u 26, .u 27, .u 28, .u 29, .u 30, .u 31, .u 32, .u 33, .u 34, .u 35, .u 36, .u 37, .u 38, .u 39, .u 40, .u 41, .u 42, .u 43, .u 44, .u 45, .u 46, .u 47, .u 48, .u 49, .u 50, .u 51, .u 52, .u 53, .u 54, .u 55, .u 56, .u 57, .u 58, .u 59, .u 60, .u 61, .u 62, .u 63, .u 64, .u 65, .u 66, .u 67, .u 68, .u 69, .u 70, .u 71, .u 72, .u 73, .u 74, .u 75, .u 76, .u 77, .u 78, .u 79, .u 80, .u 81, .u 82, .u 83, .u 84, .u 85, .u 86, .u 87, .u 88, .u 89, .u 90, .u 91, .u 92, .u 93, .u 94, .u 95, .u 96, .u 97, .u 98, .u 99, .u 100, .u 101, .u 102, .u 103, .u 104, .u 105, .u 106, .u 107, .u 108, .u 109, .u 110, .u 111, .u 112, .u 113, .u 114, .u 115, .u 116, .u 117, .u 118, .u 119, .u 120, .u 121, .u 122, .u 123, .u 124, .u 125, .u 126, .u 127, .u 128, .u 129, .u 130, .u 131, .u 132, .u 133, .u 134, .u 135, .u 136, .u 137, .u 138, .k (.n32 D), .k (.int .i64 (List.length (dig32 D) : Nat)), .k (.int .i64 i), .u 142, .u 143, .u 144, .u 145, .u 146, .u 147, .u 148, .u 149, .u 150, .u 151, .u 152, .u 153, .u 154, .u 155, .u 156, .u 157, .u 158, .u 159, .u 160, .u 161, .u 162, .u 163, .u 164, .u 165, .u 166, .u 167, .u 168, .u 169, .u 170, .u 171, .u 172, .u 173, .u 174], [.row c3, .row q]⟩) ?step3 (n := (dig32 D).length) ?init3
          case init3 => exact ⟨0, 0, _, by omega, by omega, by omega, by omega, by omega, by rw [← hc2]; exact Part.refl _ lo, by rw [← hc2] at hb2; exact hb2, by simp [win, val], (fitsQ (.s rfl (.s rfl (.n rfl (.n rfl (.s rfl (.s rfl (.n rfl (.s rfl (.n rfl (.n rfl (.s rfl (.n rfl (.n rfl (.n rfl (.n rfl (.n rfl (.n rfl (.n rfl (.n rfl (.n rfl (.n rfl (.n rfl (.n rfl (.n rfl (.n rfl (.n rfl (.n rfl (.n rfl (.n rfl (.n rfl (.n rfl (.n rfl (.n rfl (.n rfl (.n rfl (.n rfl (.n rfl (.n rfl (.n rfl (.n rfl (.n rfl (.n rfl (.n rfl (.n rfl (.n rfl (.n rfl (.n rfl (.n rfl (.n rfl (.n rfl (.n rfl (.n rfl (.n rfl (.n rfl (.n rfl (.n rfl (.n rfl (.n rfl (.n rfl (.n rfl (.n rfl (.n rfl (.n rfl (.n rfl (.n rfl (.n rfl (.n rfl (.n rfl (.n rfl (.n rfl (.n rfl (.n rfl (.n rfl (.n rfl (.n rfl (.n rfl (.n rfl (.n rfl (.n rfl (.n rfl (.n rfl (.n rfl (.n rfl (.n rfl (.n rfl (.n rfl (.n rfl (.n rfl (.n rfl (.n rfl (.n rfl (.n rfl (.n rfl (.n rfl (.n rfl (.n rfl (.n rfl (.n rfl (.n rfl (.n rfl (.n rfl (.n rfl (.n rfl (.n rfl (.n rfl (.n rfl (.n rfl (.n rfl (.n rfl (.n rfl (.n rfl (.n rfl (.n rfl (.n rfl (.n rfl (.n rfl (.n rfl (.n rfl (.n rfl (.n rfl (.n rfl (.n rfl (.n rfl (.n rfl (.n rfl (.n rfl (.n rfl (.n rfl (.n rfl (.n rfl (.n rfl (.n rfl (.n rfl (.n rfl (.n rfl (.n rfl (.n rfl (.n rfl (.n rfl (.s rfl (.s rfl (.s rfl (.n rfl (.n rfl (.n rfl (.n rfl (.n rfl (.n rfl (.n rfl (.n rfl (.n rfl (.n rfl (.n rfl (.n rfl (.n rfl (.n rfl (.n rfl (.n rfl (.n rfl (.n rfl (.n rfl (.n rfl (.n rfl (.n rfl (.n rfl (.n rfl (.n rfl (.n rfl (.n rfl (.n rfl (.n rfl (.n rfl (.n rfl (.n rfl (.n rfl .nil))))))))))))))))))))))))))))))))))))))))))))))))))))))))))))))))))))))))))))))))))))))))))))))))))))))))))))))))))))))))))))))))))))))))))))))))))))))))))))))))))))))))))))))))⟩
          case step3 =>
            clear hK1 hK2
            rintro m st K' hK1 hK2 ⟨i, cy, c3, hm, hi0, hil, hc0, hc1, hp3, hcb3, hval3, x, rfl⟩
            have hcl3 := hp3.len
            have hx : _ < 4294967296 := getD_lt (B := B32) (by decide) hcb3 (lo + i.toNat)
            have hy : _ < 4294967296 := getD_lt (B := B32) (by decide) bv i.toNat
            have e2 : (i + 1).toNat = i.toNat + 1 := by omega
            have hget3 := hp3.get (j := lo + i.toNat) (Nat.le_refl _)
            refine ifB_mk (fun h7 => ?_) (fun h7 => ?_)
            · simp only [decide_eq_true_eq] at h7
              have hS : ((((c3.getD (lo + i.toNat) 0 : Nat) : Int) % 18446744073709551616 + (((dig32 D).getD i.toNat 0 : Nat) : Int) % 18446744073709551616) % 18446744073709551616 + cy) % 18446744073709551616 = ((c3.getD (lo + i.toNat) 0 : Nat) : Int) + ((dig32 D).getD i.toNat 0 : Nat) + cy := by omega
              refine And.intro (by (try dsimp only); omega) ?_
              refine And.intro (by (try dsimp only); omega) ?_
              refine And.intro (by (try dsimp only); omega) ?_
              refine And.intro (by (try dsimp only); omega) ?_
              refine And.intro ⟨by (try dsimp only); omega, rfl, by (try dsimp only); omega, by (try dsimp only); omega⟩ ?_
              refine And.intro (by decide) ?_
              refine And.intro (by (try dsimp only); omega) ?_
              refine hK1 (m - 1) _ (by omega) ⟨i + 1, _, _, by omega, by omega, by omega, ?_, ?_, by rw [e2]; exact hp3.set _, set_lt hcb3 (by simp only [B32]; omega), ?_, (fitsQ (.s rfl (.s rfl (.n rfl (.n rfl (.s rfl (.s rfl (.n rfl (.s rfl (.n rfl (.n rfl (.s rfl (.n rfl (.n rfl (.n rfl (.n rfl (.n rfl (.n rfl (.n rfl (.n rfl (.n rfl (.n rfl (.n rfl (.n rfl (.n rfl (.n rfl (.n rfl (.n rfl (.n rfl (.n rfl (.n rfl (.n rfl (.n rfl (.n rfl (.n rfl (.n rfl (.n rfl (.n rfl (.n rfl (.n rfl (.n rfl (.n rfl (.n rfl (.n rfl (.n rfl (.n rfl (.n rfl (.n rfl (.n rfl (.n rfl (.n rfl (.n rfl (.n rfl (.n rfl (.n rfl (.n rfl (.n rfl (.n rfl (.n rfl (.n rfl (.n rfl (.n rfl (.n rfl (.n rfl (.n rfl (.n rfl (.n rfl (.n rfl (.n rfl (.n rfl (.n rfl (.n rfl (.n rfl (.n rfl (.n rfl (.n rfl (.n rfl (.n rfl (.n rfl (.n rfl (.n rfl (.n rfl (.n rfl (.n rfl (.n rfl (.n rfl (.n rfl (.n rfl (.n rfl (.n rfl (.n rfl (.n rfl (.n rfl (.n rfl (.n rfl (.n rfl (.n rfl (.n rfl (.n rfl (.n rfl (.n rfl (.n rfl (.n rfl (.n rfl (.n rfl (.n rfl (.n rfl (.n rfl (.n rfl (.n rfl (.n rfl (.n rfl (.n rfl (.n rfl (.n rfl (.n rfl (.n rfl (.n rfl (.n rfl (.n rfl (.n rfl (.n rfl (.n rfl (.n rfl (.n rfl (.n rfl (.n rfl (.n rfl (.n rfl (.n rfl (.n rfl (.n rfl (.n rfl (.n rfl (.n rfl (.n rfl (.n rfl (.n rfl (.n rfl (.n rfl (.s rfl (.s rfl (.s rfl (.n rfl (.n rfl (.n rfl (.n rfl (.n rfl (.n rfl (.n rfl (.n rfl (.n rfl (.n rfl (.n rfl (.n rfl (.n rfl (.n rfl (.n rfl (.n rfl (.n rfl (.n rfl (.n rfl (.n rfl (.n rfl (.n rfl (.n rfl (.n rfl (.n rfl (.n rfl (.n rfl (.n rfl (.n rfl (.n rfl (.n rfl (.n rfl (.n rfl .nil))))))))))))))))))))))))))))))))))))))))))))))))))))))))))))))))))))))))))))))))))))))))))))))))))))))))))))))))))))))))))))))))))))))))))))))))))))))))))))))))))))))))))))))))⟩
              · rw [hfd, hS]; omega
              · rw [hfd, hS]; omega
              · rw [hfd, hS, e2, hp3.val (by omega), win_succ, val_take_succ, Nat.pow_succ, ← hget3]
                have h8 : ((((c3.getD (lo + i.toNat) 0 : Nat) : Int) + ((dig32 D).getD i.toNat 0 : Nat) + cy) % 4294967296).toNat + B32 * ((((c3.getD (lo + i.toNat) 0 : Nat) : Int) + ((dig32 D).getD i.toNat 0 : Nat) + cy) / 4294967296).toNat = c3.getD (lo + i.toNat) 0 + (dig32 D).getD i.toNat 0 + cy.toNat := by simp only [B32]; omega
                have h9 := congrArg (B32 ^ i.toNat * ·) h8
                simp only [Nat.mul_add] at h9 hval3 ⊢
                grind
            · simp only [decide_eq_false_iff_not] at h7
              have hi3 : i.toNat = (dig32 D).length := by omega
              refine hK2 _ _ (by simp) ?_
              rw [hi3, List.take_of_length_le (Nat.le_refl _), hvv] at hval3
              rw [hi3] at hp3
              have hget4 := hp3.get (j := lo + (dig32 D).length) (Nat.le_refl _)
              have hn4 : _ < 4294967296 := getD_lt (B := B32) (by decide) hcb3 (lo + (dig32 D).length)
              refine And.intro (by (try dsimp only); omega) ?_
              refine And.intro (by (try dsimp only); omega) ?_
              refine And.intro (by (try dsimp only); omega) ?_
              refine And.intro ⟨by (try dsimp only); omega, rfl, by (try dsimp only); omega, by (try dsimp only); omega⟩ ?_
              have hp4 := hp3.set ((((c3.getD (lo + (((dig32 D).length : Nat) : Int).toNat) 0 : Nat) : Int) + cy % 4294967296) % 4294967296).toNat
              have hb4 : ∀ x ∈ c3.set (lo + (dig32 D).length) ((((c3.getD (lo + (((dig32 D).length : Nat) : Int).toNat) 0 : Nat) : Int) + cy % 4294967296) % 4294967296).toNat, x < B32 := set_lt hcb3 (by simp only [B32]; omega)
              have hw4 := hp3.val (B := B32) (by omega) ((((c3.getD (lo + (((dig32 D).length : Nat) : Int).toNat) 0 : Nat) : Int) + cy % 4294967296) % 4294967296).toNat
              have hus2 := win_succ B32 c2 lo (dig32 D).length
              rw [← hget4] at hus2
              have hVlt := val_lt (B := B32) (by decide) (win_mem (lo := lo) (k := (dig32 D).length + 1) hb2)
              rw [win_len (by omega)] at hVlt
              have hWlt := val_lt (B := B32) (by decide) (win_mem (lo := lo) (k := (dig32 D).length + 1) hb4)
              rw [win_len (by rw [List.length_set]; omega)] at hWlt
              have hDM : D ≤ B32 ^ ((dig32 D).length + 1) := by
                have h8 : D < B32 ^ (dig32 D).length := (dig_len_lt (B := 4294967296) (by decide)).1 (Nat.le_refl _)
                have h9 : B32 ^ (dig32 D).length ≤ B32 ^ ((dig32 D).length + 1) := Nat.pow_le_pow_right (by decide) (by omega)
                omega
              have h2 : val B32 (win (c3.set (lo + (dig32 D).length) ((((c3.getD (lo + (((dig32 D).length : Nat) : Int).toNat) 0 : Nat) : Int) + cy % 4294967296) % 4294967296).toNat) lo ((dig32 D).length + 1)) + B32 ^ ((dig32 D).length + 1) * ((((c3.getD (lo + (dig32 D).length) 0 : Nat) : Int) + cy) / 4294967296).toNat = val B32 (win c2 lo ((dig32 D).length + 1)) + D := by
                rw [hw4, hus2, e3, Nat.pow_succ]
                have h8 : ((((c3.getD (lo + (dig32 D).length) 0 : Nat) : Int) + cy % 4294967296) % 4294967296).toNat + B32 * ((((c3.getD (lo + (dig32 D).length) 0 : Nat) : Int) + cy) / 4294967296).toNat = c3.getD (lo + (dig32 D).length) 0 + cy.toNat := by simp only [B32]; omega
                clear hVlt hWlt hDM hfd hfd63
                generalize B32 ^ (dig32 D).length = P at *
                generalize ((((c3.getD (lo + (dig32 D).length) 0 : Nat) : Int) + cy % 4294967296) % 4294967296).toNat = d4 at *
                generalize ((((c3.getD (lo + (dig32 D).length) 0 : Nat) : Int) + cy) / 4294967296).toNat = k4 at *
                generalize c3.getD (lo + (dig32 D).length) 0 = z4 at *
                have h9 : P * d4 + P * (B32 * k4) = P * z4 + P * cy.toNat := by rw [← Nat.mul_add, ← Nat.mul_add, h8]
                have h10 : P * B32 * k4 = P * (B32 * k4) := Nat.mul_assoc _ _ _
                omega
              obtain ⟨q1, q2⟩ := left_more hvp hQd.symm hgQ1 hVlt hV hWlt h2 hDM
              have hfin := hK _ (hp2.trans hp4) hb4 q2
              have e4 : (g - 1) % 18446744073709551616 % 4294967296 = ((Q : Nat) : Int) := by omega
              rw [← e4] at hfin
              exact hfin
  show ∃ n, wpLoop _ n _ _
  refine loop_rule (fun m st => ∃ (g r : Int) (gn rn : Nat), g = gn ∧ r = rn ∧ gn ≤ m ∧ gn * v1 + rn = u0 * B32 + u1 ∧ Q ≤ gn ∧ rn < 4294967296 ∧ ∃ x, st = ⟨patQ x [.k (.view 0 lo hi), .k (.n32 D), .u 2, .u 3, .k (.int .u32 0), .k (.int .i64 (List.length (dig32 D) : Nat)), .u 6, .k (.int .u64 g), .k (.int .u64 r), .u 9, .u 10, .u 11, .u 12, .u 13, .u 14, .u 15, .u 16, .u 17, .u 18, .u 19, .u 20, .u 21, .u 22, .u 23, .u 24, .u 25, .u 26, .u 27, .u 28, .u 29, .u 30, .u 31, .u 32, .u 33, .u 34, .u 35, .u 36, .u 37, .u 38, .u 39, .u 40, .u 41, .u 42, .u 43, .u 44, .u 45, .u 46, .u 47, .u 48, .u 49, .u 50, .u 51, .u 52, .u 53, .u 54, .u 55, .u 56, .u 57, .u 58, .u 59, .u 60, .u 61, .u 62, .u 63, .u 64, .u 65, .u 66, .u 67, .u 68, .u 69, .u 70, .u 71, .u 72, .u 73, .u 74, .u 75, .u 76, .u 77, .u 78, .u 79, .u 80, .u 81, .u 82, .u 83, .u 84, .u 85, .u 86, .u 87, .u 88, .u 89, .u 90, .u 91, .u 92, .u 93, .u 94, .u 95, .u 96, .u 97, .u 98, .u 99, .u 100, .u 101, .u 102, .u 103, .u 104, .u 105, .u 106, .u 107, .u 108, .u 109, .u 110, .u 111, .u 112, .u 113, .u 114, .u 115, .u 116, .u 117, .u 118, .u 119, .u 120, .u 121, .u 122, .u 123, .u 124, .u 125, .u 126, .u 127, .u 128, .u 129, .u 130, .u 131, .u 132, .u 133, .u 134, .u 135, .u 136, .u 137, .u 138, .u 139, .u 140, .u 141, .u 142, .u 143, .u 144, .u 145, .u 146, .u 147, .u 148, .u 149, .u 150, .u 151, .u 152, .u 153, .u 154, .u 155, .u 156, .u 157, .u 158, .u 159, .u 160, .u 161, .u 162, .u 163, .u 164, .u 165, .u 166, .u 167, .u 168, .u 169, .u 170, .u 171, .u 172, .u 173, .u 174], [.row u, .row q]⟩) ?step (n := (u0 * B32 + u1) / v1) ?init
  case init =>
    refine ⟨_, _, (u0 * B32 + u1) / v1, (u0 * B32 + u1) % v1, ?_, ?_, Nat.le_refl _, by rw [Nat.mul_comm]; exact hGR, hfirst, by omega, (fitsQ (.s rfl (.s rfl (.n rfl (.n rfl (.s rfl (.s rfl (.n rfl (.s rfl (.s rfl (.n rfl (.n rfl (.n rfl (.n rfl (.n rfl (.n rfl (.n rfl (.n rfl (.n rfl (.n rfl (.n rfl (.n rfl (.n rfl (.n rfl (.n rfl (.n rfl (.n rfl (.n rfl (.n rfl (.n rfl (.n rfl (.n rfl (.n rfl (.n rfl (.n rfl (.n rfl (.n rfl (.n rfl (.n rfl (.n rfl (.n rfl (.n rfl (.n rfl (.n rfl (.n rfl (.n rfl (.n rfl (.n rfl (.n rfl (.n rfl (.n rfl (.n rfl (.n rfl (.n rfl (.n rfl (.n rfl (.n rfl (.n rfl (.n rfl (.n rfl (.n rfl (.n rfl (.n rfl (.n rfl (.n rfl (.n rfl (.n rfl (.n rfl (.n rfl (.n rfl (.n rfl (.n rfl (.n rfl (.n rfl (.n rfl (.n rfl (.n rfl (.n rfl (.n rfl (.n rfl (.n rfl (.n rfl (.n rfl (.n rfl (.n rfl (.n rfl (.n rfl (.n rfl (.n rfl (.n rfl (.n rfl (.n rfl (.n rfl (.n rfl (.n rfl (.n rfl (.n rfl (.n rfl (.n rfl (.n rfl (.n rfl (.n rfl (.n rfl (.n rfl (.n rfl (.n rfl (.n rfl (.n rfl (.n rfl (.n rfl (.n rfl (.n rfl (.n rfl (.n rfl (.n rfl (.n rfl (.n rfl (.n rfl (.n rfl (.n rfl (.n rfl (.n rfl (.n rfl (.n rfl (.n rfl (.n rfl (.n rfl (.n rfl (.n rfl (.n rfl (.n rfl (.n rfl (.n rfl (.n rfl (.n rfl (.n rfl (.n rfl (.n rfl (.n rfl (.n rfl (.n rfl (.n rfl (.n rfl (.n rfl (.n rfl (.n rfl (.n rfl (.n rfl (.n rfl (.n rfl (.n rfl (.n rfl (.n rfl (.n rfl (.n rfl (.n rfl (.n rfl (.n rfl (.n rfl (.n rfl (.n rfl (.n rfl (.n rfl (.n rfl (.n rfl (.n rfl (.n rfl (.n rfl (.n rfl (.n rfl (.n rfl (.n rfl (.n rfl (.n rfl (.n rfl (.n rfl .nil))))))))))))))))))))))))))))))))))))))))))))))))))))))))))))))))))))))))))))))))))))))))))))))))))))))))))))))))))))))))))))))))))))))))))))))))))))))))))))))))))))))))))))))))⟩
    · (try dsimp only); rw [hE6, hv1, hG]
    · (try dsimp only); rw [hE6, hv1, hR]
  case step =>
    rintro m st K' hK1 hK2 ⟨g, r, gn, rn, hg, hr, hgm, hgr, hgQ, hrl, x, rfl⟩
    refine And.intro (by kernel_rfl) (Or.inl ?_)
    refine And.intro (by decide) ?_
    have hfd : ∀ z : Int, z.fdiv (2 ^ min (Int.toNat 32) IntKind.u64.bits) = z / 4294967296 := fun z => Int.fdiv_eq_ediv_of_nonneg z (by decide)
    have e2 : (((dig32 D).length : Int) - 2).toNat = (dig32 D).length - 2 := by omega
    have hgb : gn < 18446744073709551616 := by
      have := Nat.le_mul_of_pos_right gn hlast
      omega
    -- one round more, or the end
    have hstep : Q < gn → (gn - 1) * v1 + (rn + v1) = u0 * B32 + u1 := by
      intro h
      rw [← hgr]
      have : gn * v1 = (gn - 1) * v1 + v1 := by rw [← Nat.succ_mul]; congr 1; omega
      omega
    have hbreak : Q < gn → 4294967296 ≤ rn + v1 → gn - 1 ≤ Q + 1 ∧ gn - 1 < 4294967296 := by
      intro h h'
      have h1 := hstep h
      have h2 : gn - 1 < B32 := htwo.small (g := gn - 1) (r := rn + v1) hU h1 h'
      refine ⟨htwo.near (g := gn - 1) (r := rn + v1) h1 h2 ?_, h2⟩
      have h3 : (gn - 1) * v2 ≤ B32 * B32 := Nat.mul_le_mul (by omega) (by simp only [B32]; omega)
      have h4 : B32 * B32 ≤ (rn + v1) * B32 := Nat.mul_le_mul_right _ h'
      omega
    refine ifB_mk (fun h => ?_) (fun h => ?_)
    · have h' : 4294967296 ≤ g := by
        have h1 : (g.fdiv (2 ^ min (Int.toNat 32) IntKind.u64.bits) != 0) = true := h
        rw [hfd] at h1
        simp only [bne_iff_ne, ne_eq] at h1
        omega
      have hlt : Q < gn := by have : B32 = 4294967296 := rfl; omega
      refine And.intro (by (try dsimp only); omega) ?_
      refine And.intro (by (try dsimp only); omega) ?_
      refine And.intro (by decide) ?_
      have hnext : 4294967296 ≤ rn + v1 ∨ rn + v1 < 4294967296 := by omega
      have hgv : (g - 1) % 18446744073709551616 = ((gn - 1 : Nat) : Int) := by omega
      have hrv : (r + (((dig32 D).getD ((((dig32 D).length : Nat) : Int) - 1).toNat 0 : Nat) : Int) % 18446744073709551616) % 18446744073709551616 = ((rn + v1 : Nat) : Int) := by rw [hv1]; omega
      refine ifB_mk (fun h3 => ?_) (fun h3 => ?_)
      · have h3' : 4294967296 ≤ rn + v1 := by
          have h1 : (((r + (((dig32 D).getD ((((dig32 D).length : Nat) : Int) - 1).toNat 0 : Nat) : Int) % 18446744073709551616) % 18446744073709551616).fdiv (2 ^ min (Int.toNat 32) IntKind.u64.bits) != 0) = true := h3
          rw [hrv, hfd] at h1
          simp only [bne_iff_ne, ne_eq] at h1
          omega
        obtain ⟨b1, b2⟩ := hbreak hlt h3'
        refine hK2 _ _ (by simp) ?_
        exact rest (gn - 1) _ (by omega) b1 b2 (by obtain ⟨y, hy⟩ := (show ∃ x, _ = _ from (fitsQ (.s rfl (.s rfl (.n rfl (.n rfl (.s rfl (.s rfl (.n rfl (.s rfl (.s rfl (.n rfl (.n rfl (.n rfl (.n rfl (.n rfl (.n rfl (.n rfl (.n rfl (.n rfl (.n rfl (.n rfl (.n rfl (.n rfl (.n rfl (.n rfl (.n rfl (.n rfl (.n rfl (.n rfl (.n rfl (.n rfl (.n rfl (.n rfl (.n rfl (.n rfl (.n rfl (.n rfl (.n rfl (.n rfl (.n rfl (.n rfl (.n rfl (.n rfl (.n rfl (.n rfl (.n rfl (.n rfl (.n rfl (.n rfl (.n rfl (.n rfl (.n rfl (.n rfl (.n rfl (.n rfl (.n rfl (.n rfl (.n rfl (.n rfl (.n rfl (.n rfl (.n rfl (.n rfl (.n rfl (.n rfl (.n rfl (.n rfl (.n rfl (.n rfl (.n rfl (.n rfl (.n rfl (.n rfl (.n rfl (.n rfl (.n rfl (.n rfl (.n rfl (.n rfl (.n rfl (.n rfl (.n rfl (.n rfl (.n rfl (.n rfl (.n rfl (.n rfl (.n rfl (.n rfl (.n rfl (.n rfl (.n rfl (.n rfl (.n rfl (.n rfl (.n rfl (.n rfl (.n rfl (.n rfl (.n rfl (.n rfl (.n rfl (.n rfl (.n rfl (.n rfl (.n rfl (.n rfl (.n rfl (.n rfl (.n rfl (.n rfl (.n rfl (.n rfl (.n rfl (.n rfl (.n rfl (.n rfl (.n rfl (.n rfl (.n rfl (.n rfl (.n rfl (.n rfl (.n rfl (.n rfl (.n rfl (.n rfl (.n rfl (.n rfl (.n rfl (.n rfl (.n rfl (.n rfl (.n rfl (.n rfl (.n rfl (.n rfl (.n rfl (.n rfl (.n rfl (.n rfl (.n rfl (.n rfl (.n rfl (.n rfl (.n rfl (.n rfl (.n rfl (.n rfl (.n rfl (.n rfl (.n rfl (.n rfl (.n rfl (.n rfl (.n rfl (.n rfl (.n rfl (.n rfl (.n rfl (.n rfl (.n rfl (.n rfl (.n rfl (.n rfl (.n rfl (.n rfl (.n rfl (.n rfl (.n rfl (.n rfl (.n rfl (.n rfl (.n rfl (.n rfl (.n rfl .nil))))))))))))))))))))))))))))))))))))))))))))))))))))))))))))))))))))))))))))))))))))))))))))))))))))))))))))))))))))))))))))))))))))))))))))))))))))))))))))))))))))))))))))))))); exact ⟨_, _, y, hgv, hy⟩)
      · have h3' : rn + v1 < 4294967296 := by
          have h1 : (((r + (((dig32 D).getD ((((dig32 D).length : Nat) : Int) - 1).toNat 0 : Nat) : Int) % 18446744073709551616) % 18446744073709551616).fdiv (2 ^ min (Int.toNat 32) IntKind.u64.bits) != 0) = false := h3
          rw [hrv, hfd] at h1
          simp only [bne_eq_false_iff_eq] at h1
          omega
        exact hK1 (m - 1) _ (by omega) ⟨_, _, gn - 1, rn + v1, hgv, hrv, by omega, hstep hlt, by omega, h3', (fitsQ (.s rfl (.s rfl (.n rfl (.n rfl (.s rfl (.s rfl (.n rfl (.s rfl (.s rfl (.n rfl (.n rfl (.n rfl (.n rfl (.n rfl (.n rfl (.n rfl (.n rfl (.n rfl (.n rfl (.n rfl (.n rfl (.n rfl (.n rfl (.n rfl (.n rfl (.n rfl (.n rfl (.n rfl (.n rfl (.n rfl (.n rfl (.n rfl (.n rfl (.n rfl (.n rfl (.n rfl (.n rfl (.n rfl (.n rfl (.n rfl (.n rfl (.n rfl (.n rfl (.n rfl (.n rfl (.n rfl (.n rfl (.n rfl (.n rfl (.n rfl (.n rfl (.n rfl (.n rfl (.n rfl (.n rfl (.n rfl (.n rfl (.n rfl (.n rfl (.n rfl (.n rfl (.n rfl (.n rfl (.n rfl (.n rfl (.n rfl (.n rfl (.n rfl (.n rfl (.n rfl (.n rfl (.n rfl (.n rfl (.n rfl (.n rfl (.n rfl (.n rfl (.n rfl (.n rfl (.n rfl (.n rfl (.n rfl (.n rfl (.n rfl (.n rfl (.n rfl (.n rfl (.n rfl (.n rfl (.n rfl (.n rfl (.n rfl (.n rfl (.n rfl (.n rfl (.n rfl (.n rfl (.n rfl (.n rfl (.n rfl (.n rfl (.n rfl (.n rfl (.n rfl (.n rfl (.n rfl (.n rfl (.n rfl (.n rfl (.n rfl (.n rfl (.n rfl (.n rfl (.n rfl (.n rfl (.n rfl (.n rfl (.n rfl (.n rfl (.n rfl (.n rfl (.n rfl (.n rfl (.n rfl (.n rfl (.n rfl (.n rfl (.n rfl (.n rfl (.n rfl (.n rfl (.n rfl (.n rfl (.n rfl (.n rfl (.n rfl (.n rfl (.n rfl (.n rfl (.n rfl (.n rfl (.n rfl (.n rfl (.n rfl (.n rfl (.n rfl (.n rfl (.n rfl (.n rfl (.n rfl (.n rfl (.n rfl (.n rfl (.n rfl (.n rfl (.n rfl (.n rfl (.n rfl (.n rfl (.n rfl (.n rfl (.n rfl (.n rfl (.n rfl (.n rfl (.n rfl (.n rfl (.n rfl (.n rfl (.n rfl (.n rfl (.n rfl (.n rfl (.n rfl (.n rfl .nil))))))))))))))))))))))))))))))))))))))))))))))))))))))))))))))))))))))))))))))))))))))))))))))))))))))))))))))))))))))))))))))))))))))))))))))))))))))))))))))))))))))))))))))))⟩
    · have h' : gn < 4294967296 := by
        have h1 : (g.fdiv (2 ^ min (Int.toNat 32) IntKind.u64.bits) != 0) = false := h
        rw [hfd] at h1
        simp only [bne_eq_false_iff_eq] at h1
        omega
      refine And.intro (by (try dsimp only); omega) ?_
      refine And.intro (by (try dsimp only); omega) ?_
      refine And.intro (by decide) ?_
      refine And.intro (by (try dsimp only); omega) ?_
      refine And.intro (by (try dsimp only); omega) ?_
      refine And.intro (by (try dsimp only); omega) ?_
      have hmul : g * ((((dig32 D).getD ((((dig32 D).length : Nat) : Int) - 2).toNat 0 : Nat) : Int) % 18446744073709551616) % 18446744073709551616 = ((gn * v2 : Nat) : Int) := by
        have h3 : gn * v2 ≤ 4294967295 * 4294967295 := Nat.mul_le_mul (by omega) (by omega)
        rw [e2, hd2, show ((v2 : Nat) : Int) % 18446744073709551616 = (v2 : Nat) by omega, hg, ← Int.natCast_mul]
        omega
      have hor : IntKind.u64.wrap (((BitVec.ofInt IntKind.u64.bits (r * 2 ^ min (Int.toNat 32) IntKind.u64.bits % 18446744073709551616) ||| BitVec.ofInt IntKind.u64.bits (((u.getD (lo + ((((dig32 D).length : Nat) : Int) - 2).toNat) 0 : Nat) : Int) % 18446744073709551616)).toNat : Nat) : Int) = ((rn * B32 + u2 : Nat) : Int) := by
        rw [e2, hu2]
        refine (or_add (x := r) (y := (u2 : Nat)) (by omega) (by omega) (by omega) (by omega)).trans ?_
        simp only [B32]; omega
      refine ifB_mk (fun h2 => ?_) (fun h2 => ?_)
      · have hlt : Q < gn := by
          have h1 : decide (g * ((((dig32 D).getD ((((dig32 D).length : Nat) : Int) - 2).toNat 0 : Nat) : Int) % 18446744073709551616) % 18446744073709551616 > IntKind.u64.wrap (((BitVec.ofInt IntKind.u64.bits (r * 2 ^ min (Int.toNat 32) IntKind.u64.bits % 18446744073709551616) ||| BitVec.ofInt IntKind.u64.bits (((u.getD (lo + ((((dig32 D).length : Nat) : Int) - 2).toNat) 0 : Nat) : Int) % 18446744073709551616)).toNat : Nat) : Int)) = true := h2
          rw [hmul, hor] at h1
          simp only [decide_eq_true_eq] at h1
          exact htwo.down hgr (Int.ofNat_lt.1 h1)
        refine And.intro (by (try dsimp only); omega) ?_
        refine And.intro (by (try dsimp only); omega) ?_
        refine And.intro (by decide) ?_
        have hnext : 4294967296 ≤ rn + v1 ∨ rn + v1 < 4294967296 := by omega
        have hgv : (g - 1) % 18446744073709551616 = ((gn - 1 : Nat) : Int) := by omega
        have hrv : (r + (((dig32 D).getD ((((dig32 D).length : Nat) : Int) - 1).toNat 0 : Nat) : Int) % 18446744073709551616) % 18446744073709551616 = ((rn + v1 : Nat) : Int) := by rw [hv1]; omega
        refine ifB_mk (fun h3 => ?_) (fun h3 => ?_)
        · have h3' : 4294967296 ≤ rn + v1 := by
            have h1 : (((r + (((dig32 D).getD ((((dig32 D).length : Nat) : Int) - 1).toNat 0 : Nat) : Int) % 18446744073709551616) % 18446744073709551616).fdiv (2 ^ min (Int.toNat 32) IntKind.u64.bits) != 0) = true := h3
            rw [hrv, hfd] at h1
            simp only [bne_iff_ne, ne_eq] at h1
            omega
          obtain ⟨b1, b2⟩ := hbreak hlt h3'
          refine hK2 _ _ (by simp) ?_
          exact rest (gn - 1) _ (by omega) b1 b2 (by obtain ⟨y, hy⟩ := (show ∃ x, _ = _ from (fitsQ (.s rfl (.s rfl (.n rfl (.n rfl (.s rfl (.s rfl (.n rfl (.s rfl (.s rfl (.n rfl (.n rfl (.n rfl (.n rfl (.n rfl (.n rfl (.n rfl (.n rfl (.n rfl (.n rfl (.n rfl (.n rfl (.n rfl (.n rfl (.n rfl (.n rfl (.n rfl (.n rfl (.n rfl (.n rfl (.n rfl (.n rfl (.n rfl (.n rfl (.n rfl (.n rfl (.n rfl (.n rfl (.n rfl (.n rfl (.n rfl (.n rfl (.n rfl (.n rfl (.n rfl (.n rfl (.n rfl (.n rfl (.n rfl (.n rfl (.n rfl (.n rfl (.n rfl (.n rfl (.n rfl (.n rfl (.n rfl (.n rfl (.n rfl (.n rfl (.n rfl (.n rfl (.n rfl (.n rfl (.n rfl (.n rfl (.n rfl (.n rfl (.n rfl (.n rfl (.n rfl (.n rfl (.n rfl (.n rfl (.n rfl (.n rfl (.n rfl (.n rfl (.n rfl (.n rfl (.n rfl (.n rfl (.n rfl (.n rfl (.n rfl (.n rfl (.n rfl (.n rfl (.n rfl (.n rfl (.n rfl (.n rfl (.n rfl (.n rfl (.n rfl (.n rfl (.n rfl (.n rfl (.n rfl (.n rfl (.n rfl (.n rfl (.n rfl (.n rfl (.n rfl (.n rfl (.n rfl (.n rfl (.n rfl (.n rfl (.n rfl (.n rfl (.n rfl (.n rfl (.n rfl (.n rfl (.n rfl (.n rfl (.n rfl (.n rfl (.n rfl (.n rfl (.n rfl (.n rfl (.n rfl (.n rfl (.n rfl (.n rfl (.n rfl (.n rfl (.n rfl (.n rfl (.n rfl (.n rfl (.n rfl (.n rfl (.n rfl (.n rfl (.n rfl (.n rfl (.n rfl (.n rfl (.n rfl (.n rfl (.n rfl (.n rfl (.n rfl (.n rfl (.n rfl (.n rfl (.n rfl (.n rfl (.n rfl (.n rfl (.n rfl (.n rfl (.n rfl (.n rfl (.n rfl (.n rfl (.n rfl (.n rfl (.n rfl (.n rfl (.n rfl (.n rfl (.n rfl (.n rfl (.n rfl (.n rfl (.n rfl (.n rfl (.n rfl (.n rfl (.n rfl (.n rfl .nil))))))))))))))))))))))))))))))))))))))))))))))))))))))))))))))))))))))))))))))))))))))))))))))))))))))))))))))))))))))))))))))))))))))))))))))))))))))))))))))))))))))))))))))))); exact ⟨_, _, y, hgv, hy⟩)
        · have h3' : rn + v1 < 4294967296 := by
            have h1 : (((r + (((dig32 D).getD ((((dig32 D).length : Nat) : Int) - 1).toNat 0 : Nat) : Int) % 18446744073709551616) % 18446744073709551616).fdiv (2 ^ min (Int.toNat 32) IntKind.u64.bits) != 0) = false := h3
            rw [hrv, hfd] at h1
            simp only [bne_eq_false_iff_eq] at h1
            omega
          exact hK1 (m - 1) _ (by omega) ⟨_, _, gn - 1, rn + v1, hgv, hrv, by omega, hstep hlt, by omega, h3', (fitsQ (.s rfl (.s rfl (.n rfl (.n rfl (.s rfl (.s rfl (.n rfl (.s rfl (.s rfl (.n rfl (.n rfl (.n rfl (.n rfl (.n rfl (.n rfl (.n rfl (.n rfl (.n rfl (.n rfl (.n rfl (.n rfl (.n rfl (.n rfl (.n rfl (.n rfl (.n rfl (.n rfl (.n rfl (.n rfl (.n rfl (.n rfl (.n rfl (.n rfl (.n rfl (.n rfl (.n rfl (.n rfl (.n rfl (.n rfl (.n rfl (.n rfl (.n rfl (.n rfl (.n rfl (.n rfl (.n rfl (.n rfl (.n rfl (.n rfl (.n rfl (.n rfl (.n rfl (.n rfl (.n rfl (.n rfl (.n rfl (.n rfl (.n rfl (.n rfl (.n rfl (.n rfl (.n rfl (.n rfl (.n rfl (.n rfl (.n rfl (.n rfl (.n rfl (.n rfl (.n rfl (.n rfl (.n rfl (.n rfl (.n rfl (.n rfl (.n rfl (.n rfl (.n rfl (.n rfl (.n rfl (.n rfl (.n rfl (.n rfl (.n rfl (.n rfl (.n rfl (.n rfl (.n rfl (.n rfl (.n rfl (.n rfl (.n rfl (.n rfl (.n rfl (.n rfl (.n rfl (.n rfl (.n rfl (.n rfl (.n rfl (.n rfl (.n rfl (.n rfl (.n rfl (.n rfl (.n rfl (.n rfl (.n rfl (.n rfl (.n rfl (.n rfl (.n rfl (.n rfl (.n rfl (.n rfl (.n rfl (.n rfl (.n rfl (.n rfl (.n rfl (.n rfl (.n rfl (.n rfl (.n rfl (.n rfl (.n rfl (.n rfl (.n rfl (.n rfl (.n rfl (.n rfl (.n rfl (.n rfl (.n rfl (.n rfl (.n rfl (.n rfl (.n rfl (.n rfl (.n rfl (.n rfl (.n rfl (.n rfl (.n rfl (.n rfl (.n rfl (.n rfl (.n rfl (.n rfl (.n rfl (.n rfl (.n rfl (.n rfl (.n rfl (.n rfl (.n rfl (.n rfl (.n rfl (.n rfl (.n rfl (.n rfl (.n rfl (.n rfl (.n rfl (.n rfl (.n rfl (.n rfl (.n rfl (.n rfl (.n rfl (.n rfl (.n rfl (.n rfl (.n rfl (.n rfl .nil))))))))))))))))))))))))))))))))))))))))))))))))))))))))))))))))))))))))))))))))))))))))))))))))))))))))))))))))))))))))))))))))))))))))))))))))))))))))))))))))))))))))))))))))⟩
      · have hle : gn * v2 ≤ rn * B32 + u2 := by
          have h1 : decide (g * ((((dig32 D).getD ((((dig32 D).length : Nat) : Int) - 2).toNat 0 : Nat) : Int) % 18446744073709551616) % 18446744073709551616 > IntKind.u64.wrap (((BitVec.ofInt IntKind.u64.bits (r * 2 ^ min (Int.toNat 32) IntKind.u64.bits % 18446744073709551616) ||| BitVec.ofInt IntKind.u64.bits (((u.getD (lo + ((((dig32 D).length : Nat) : Int) - 2).toNat) 0 : Nat) : Int) % 18446744073709551616)).toNat : Nat) : Int)) = false := h2
          rw [hmul, hor] at h1
          simp only [decide_eq_false_iff_not] at h1
          exact Int.ofNat_le.1 (Int.not_lt.1 h1)
        refine hK2 _ _ (by simp) ?_
        exact rest gn _ hgQ (htwo.near hgr h' hle) h' (by obtain ⟨y, hy⟩ := (show ∃ x, _ = _ from (fitsQ (.s rfl (.s rfl (.n rfl (.n rfl (.s rfl (.s rfl (.n rfl (.s rfl (.s rfl (.n rfl (.n rfl (.n rfl (.n rfl (.n rfl (.n rfl (.n rfl (.n rfl (.n rfl (.n rfl (.n rfl (.n rfl (.n rfl (.n rfl (.n rfl (.n rfl (.n rfl (.n rfl (.n rfl (.n rfl (.n rfl (.n rfl (.n rfl (.n rfl (.n rfl (.n rfl (.n rfl (.n rfl (.n rfl (.n rfl (.n rfl (.n rfl (.n rfl (.n rfl (.n rfl (.n rfl (.n rfl (.n rfl (.n rfl (.n rfl (.n rfl (.n rfl (.n rfl (.n rfl (.n rfl (.n rfl (.n rfl (.n rfl (.n rfl (.n rfl (.n rfl (.n rfl (.n rfl (.n rfl (.n rfl (.n rfl (.n rfl (.n rfl (.n rfl (.n rfl (.n rfl (.n rfl (.n rfl (.n rfl (.n rfl (.n rfl (.n rfl (.n rfl (.n rfl (.n rfl (.n rfl (.n rfl (.n rfl (.n rfl (.n rfl (.n rfl (.n rfl (.n rfl (.n rfl (.n rfl (.n rfl (.n rfl (.n rfl (.n rfl (.n rfl (.n rfl (.n rfl (.n rfl (.n rfl (.n rfl (.n rfl (.n rfl (.n rfl (.n rfl (.n rfl (.n rfl (.n rfl (.n rfl (.n rfl (.n rfl (.n rfl (.n rfl (.n rfl (.n rfl (.n rfl (.n rfl (.n rfl (.n rfl (.n rfl (.n rfl (.n rfl (.n rfl (.n rfl (.n rfl (.n rfl (.n rfl (.n rfl (.n rfl (.n rfl (.n rfl (.n rfl (.n rfl (.n rfl (.n rfl (.n rfl (.n rfl (.n rfl (.n rfl (.n rfl (.n rfl (.n rfl (.n rfl (.n rfl (.n rfl (.n rfl (.n rfl (.n rfl (.n rfl (.n rfl (.n rfl (.n rfl (.n rfl (.n rfl (.n rfl (.n rfl (.n rfl (.n rfl (.n rfl (.n rfl (.n rfl (.n rfl (.n rfl (.n rfl (.n rfl (.n rfl (.n rfl (.n rfl (.n rfl (.n rfl (.n rfl (.n rfl (.n rfl (.n rfl (.n rfl (.n rfl (.n rfl .nil))))))))))))))))))))))))))))))))))))))))))))))))))))))))))))))))))))))))))))))))))))))))))))))))))))))))))))))))))))))))))))))))))))))))))))))))))))))))))))))))))))))))))))))))); exact ⟨_, _, y, hg, hy⟩)
end Iv
end Go.Proofs.YtfajgibpidlojaaDoor
end

section
/- The reference's long division, part B: one digit (run in place). Conditions: two digits or more, no digit 0 in front. -/
set_option linter.unusedVariables false
set_option linter.unusedSimpArgs false
set_option maxHeartbeats 4000000
set_option maxRecDepth 4000
namespace Go.Proofs.YtfajgibpidlojaaDoor
namespace Iv
open Go Go.Proofs

/-- The table of types with int64. -/
def tbl64 : List (TypeId × Ti) := (2, sc .i64) :: tbl
def tbI64 : Tb := { ti := tbOf tbl64, u := 74, inl := fun _ => false, app := false }
theorem tbI64_ok : TabOK Tryd.prog tbI64 := tbChk_spec (l := tbl64) (by kernel_rfl)
noncomputable def envDg (F : TypeId) : Env := envOf [lessC F]
theorem envDg_ok (F : TypeId) : EnvOK Tryd.prog F tbI64 (envDg F) := envOf_ok _
theorem and16 (z : Int) : IntKind.i64.wrap (((BitVec.ofInt 64 z &&& BitVec.ofInt 64 65535).toNat : Nat) : Int) % 4294967296 = z % 65536 := by
  rw [BitVec.toNat_and, show (BitVec.ofInt 64 65535).toNat = 2 ^ 16 - 1 from rfl, Nat.and_two_pow_sub_one_eq_mod, BitVec.toNat_ofInt]
  rw [IntWalk.i64_in _ (by omega)]
  omega
theorem rdigit_wp (F : TypeId) (v u q : List Nat) (lo hi n : Nat) (hn : 2 ≤ n) (hv : v.length = n) (hhi : hi = lo + n + 1) (hu : hi ≤ u.length) (bv : ∀ x ∈ v, x < B16) (bu : ∀ x ∈ u, x < B16) (cv : canon v) (hcap : u.length + 4 ≤ cap30)
    (hU : val B16 (win u lo (n + 1)) < B16 * val B16 v) (K : SV → List Ob → Prop)
    (hK : ∀ c, Part u c lo (n + 1) → (∀ x ∈ c, x < B16) → val B16 (win c lo (n + 1)) = val B16 (win u lo (n + 1)) % val B16 v → K (.int .u32 (val B16 (win u lo (n + 1)) / val B16 v : Nat)) [.row v, .row c, .row q]) :
    wpInl tbI64 (envDg F) (wpDraw tbI64 (envDg F)) Tryd.f164 [.view 1 lo hi, .row 0] [.row v, .row u, .row q] K := by
  have h30 := c30
  have hlast : 0 < v.getD (n - 1) 0 := by
    have := (canon_last (l := v) (by intro e; subst e; simp at hv; omega)).1 cv
    rw [hv] at this
    omega
  have htwo := two_of (B := B16) (by decide) (u := win u lo (n + 1)) (d := v) hn hv (win_len (by omega)) bv (win_mem bu) hlast
  rw [win_get (by omega), win_get (by omega), win_get (by omega)] at htwo
  have hvp : 0 < val B16 v := val_pos (by decide) (by intro e; subst e; simp at hv; omega) cv
  have hQ : val B16 (win u lo (n + 1)) / val B16 v < B16 := (Nat.div_lt_iff_lt_mul hvp).2 hU
  have hx0 : _ < 65536 := getD_lt (B := B16) (by decide) bu (lo + n)
  have hx1 : _ < 65536 := getD_lt (B := B16) (by decide) bu (lo + (n - 1))
  have hy1 : _ < 65536 := getD_lt (B := B16) (by decide) bv (n - 1)
  have hfirst := htwo.first
  subst hv
  refine And.intro (by kernel_rfl) (Or.inl ?_)
  refine And.intro (by (try dsimp only); omega) ?_
  refine And.intro (by (try dsimp only); omega) ?_
  refine And.intro (by (try dsimp only); omega) ?_
  refine And.intro (by (try dsimp only); omega) ?_
  refine And.intro (by (try dsimp only); omega) ?_
  refine And.intro (by (try dsimp only); omega) ?_
  refine And.intro (by (try dsimp only); omega) ?_
  refine And.intro (by (try dsimp only); omega) ?_
  have e1 : ((v.length : Int) - 1).toNat = v.length - 1 := by omega
  refine And.intro (by rw [e1]; omega) ?_
  generalize hG : (u.getD (lo + v.length) 0 * B16 + u.getD (lo + (v.length - 1)) 0) / v.getD (v.length - 1) 0 = G at hfirst
  have hG' : ((((u.getD (lo + ((v.length : Nat) : Int).toNat) 0 : Nat) : Int) % 18446744073709551616 * 65536 % 18446744073709551616 + ((u.getD (lo + ((v.length : Int) - 1).toNat) 0 : Nat) : Int) % 18446744073709551616) % 18446744073709551616).tdiv (((v.getD ((v.length : Int) - 1).toNat 0 : Nat) : Int) % 18446744073709551616) % 18446744073709551616 = ((G : Nat) : Int) := by
    rw [e1, Int.toNat_natCast, ← hG]
    have h1 : ((u.getD (lo + v.length) 0 : Nat) : Int) % 18446744073709551616 * 65536 % 18446744073709551616 + ((u.getD (lo + (v.length - 1)) 0 : Nat) : Int) % 18446744073709551616 = ((u.getD (lo + v.length) 0 * B16 + u.getD (lo + (v.length - 1)) 0 : Nat) : Int) := by simp only [B16]; omega
    have h2 : ((v.getD (v.length - 1) 0 : Nat) : Int) % 18446744073709551616 = ((v.getD (v.length - 1) 0 : Nat) : Int) := by omega
    have h3 : (u.getD (lo + v.length) 0 * B16 + u.getD (lo + (v.length - 1)) 0) / v.getD (v.length - 1) 0 ≤ u.getD (lo + v.length) 0 * B16 + u.getD (lo + (v.length - 1)) 0 := Nat.div_le_self _ _
    have h4 : u.getD (lo + v.length) 0 * B16 + u.getD (lo + (v.length - 1)) 0 < 4294967296 := by simp only [B16]; omega
    rw [h1, h2]
    clear h1 h2 hG hfirst htwo
    generalize u.getD (lo + v.length) 0 * B16 + u.getD (lo + (v.length - 1)) 0 = A at *
    generalize v.getD (v.length - 1) 0 = D at *
    rw [show ((A : Nat) : Int) % 18446744073709551616 = A by omega, Int.tdiv_eq_ediv_of_nonneg (Int.natCast_nonneg _), ← Int.natCast_ediv]
    generalize A / D = q at *
    omega
  generalize hQd : val B16 (win u lo (v.length + 1)) / val B16 v = Q at hQ hfirst htwo hK
  -- a digit that is greater than the quotient, and one that is not
  have more : ∀ g : Nat, val B16 (win u lo (v.length + 1)) < val B16 v * g → Q < g := fun g h => hQd ▸ (Nat.div_lt_iff_lt_mul hvp).2 (by rw [Nat.mul_comm]; exact h)
  have last : ∀ g : Nat, ¬ val B16 (win u lo (v.length + 1)) < val B16 v * g → g ≤ Q := fun g h => hQd ▸ (Nat.le_div_iff_mul_le hvp).2 (by rw [Nat.mul_comm]; omega)
  refine ifB_mk (fun h => ?_) (fun h => ?_)
  · rw [hG'] at h
    show ∃ n, wpLoop _ n _ _
    refine loop_rule (fun m st => ∃ g : Nat, m = g ∧ Q ≤ g ∧ g < 65536 ∧ ∃ x, st = ⟨pat x 0 [some (.view 1 lo hi), some (.row 0), none, none, some (.int .u32 0), some (.int .i64 (List.length v : Nat)), none, some (.int .u64 (g : Nat)), none, none, none, none, none, none, none, none, none, none, none, none, none, none, none, none, none, none, none, none, none, none, none, none, none, none, none, none, none, none, none, none, none, none, none, none, none, none, none, none, none, none, none, none, none, none, none, none, none, none, none, none, none, none, none, none, none, none, none, none, none, none, none, none, none, none, none, none, none, none], [.row v, .row u, .row q]⟩) ?step (n := min G 65535) ?init
    case init => exact ⟨65535, by simp only [decide_eq_true_eq] at h; omega, by have h9 : B16 = 65536 := rfl; omega, by omega, (fits (.s rfl (.s rfl (.n (.n (.s rfl (.s rfl (.n (.s rfl (.n (.n (.n (.n (.n (.n (.n (.n (.n (.n (.n (.n (.n (.n (.n (.n (.n (.n (.n (.n (.n (.n (.n (.n (.n (.n (.n (.n (.n (.n (.n (.n (.n (.n (.n (.n (.n (.n (.n (.n (.n (.n (.n (.n (.n (.n (.n (.n (.n (.n (.n (.n (.n (.n (.n (.n (.n (.n (.n (.n (.n (.n (.n (.n (.n (.n (.n (.n (.n (.n .nil)))))))))))))))))))))))))))))))))))))))))))))))))))))))))))))))))))))))))))))))⟩
    case step =>
      rintro m st K' hK1 hK2 ⟨g, hmg, hg1, hg2, x, rfl⟩
      refine And.intro ⟨by rw [hhi, show lo + v.length + 1 = lo + (v.length + 1) by omega, win_eq]; exact win_mem bu, by simp; omega, bv, cv, by (try dsimp only); omega, by (try dsimp only); omega, by (try dsimp only); omega⟩ ?_
      have hwin : (u.take hi).drop lo = win u lo (v.length + 1) := by rw [hhi, show lo + v.length + 1 = lo + (v.length + 1) by omega, win_eq]
      refine ifB_mk (fun h2 => ?_) (fun h2 => ?_)
      · simp only [decide_eq_true_eq, hwin, Int.toNat_natCast] at h2
        have h3 := more g h2
        refine hK1 (g - 1) _ (by omega) ⟨g - 1, rfl, by omega, by omega, ?_⟩
        have e : (((g : Nat) : Int) - 1) % 18446744073709551616 = ((g - 1 : Nat) : Int) := by omega
        rw [← e]
        exact (fits (.s rfl (.s rfl (.n (.n (.s rfl (.s rfl (.n (.s rfl (.n (.n (.n (.n (.n (.n (.n (.n (.n (.n (.n (.n (.n (.n (.n (.n (.n (.n (.n (.n (.n (.n (.n (.n (.n (.n (.n (.n (.n (.n (.n (.n (.n (.n (.n (.n (.n (.n (.n (.n (.n (.n (.n (.n (.n (.n (.n (.n (.n (.n (.n (.n (.n (.n (.n (.n (.n (.n (.n (.n (.n (.n (.n (.n (.n (.n (.n (.n (.n (.n .nil)))))))))))))))))))))))))))))))))))))))))))))))))))))))))))))))))))))))))))))))
      · simp only [decide_eq_false_iff_not, hwin, Int.toNat_natCast] at h2
        have h3 : g = Q := Nat.le_antisymm (last g h2) hg1
        refine hK2 _ _ (by simp) ?_
        show ∃ n, wpLoop _ n _ _
        refine loop_rule (fun m st => ∃ (i o : Int) (c : List Nat), (m : Int) = v.length + 1 - i ∧ 0 ≤ i ∧ i ≤ v.length + 1 ∧ -65536 ≤ o ∧ o ≤ 0 ∧ Part u c lo i.toNat ∧ (∀ x ∈ c, x < B16) ∧ (val B16 (win c lo i.toNat) : Int) + (B16 ^ i.toNat : Nat) * o = (val B16 (win u lo i.toNat) : Int) - g * (val B16 (v.take i.toNat) : Nat) ∧ ∃ x, st = ⟨pat x 0 [some (.view 1 lo hi), some (.row 0), none, none, some (.int .u32 0), some (.int .i64 (List.length v : Nat)), none, some (.int .u64 (g : Nat)), some (.int .i64 o), none, none, none, none, none, none, none, none, none, none, none, none, none, none, none, none, none, none, none, none, none, none, none, none, none, none, none, none, none, none, none, none, none, none, some (.int .i64 (hi - lo : Nat)), some (.int .i64 i), none, none, none, none, none, none, none, none, none, none, none, none, none, none, none, none, none, none, none, none, none, none, none, none, none, none, none, none, none, none, none, none, none], [.row v, .row c, .row q]⟩) ?step2 (n := v.length + 1) ?init2
        case init2 => exact ⟨0, 0, u, by omega, by omega, by omega, by omega, by omega, Part.refl u lo, bu, by simp [win, val], (fits (.s rfl (.s rfl (.n (.n (.s rfl (.s rfl (.n (.s rfl (.s rfl (.n (.n (.n (.n (.n (.n (.n (.n (.n (.n (.n (.n (.n (.n (.n (.n (.n (.n (.n (.n (.n (.n (.n (.n (.n (.n (.n (.n (.n (.n (.n (.n (.n (.n (.s rfl (.s rfl (.n (.n (.n (.n (.n (.n (.n (.n (.n (.n (.n (.n (.n (.n (.n (.n (.n (.n (.n (.n (.n (.n (.n (.n (.n (.n (.n (.n (.n (.n (.n (.n (.n .nil)))))))))))))))))))))))))))))))))))))))))))))))))))))))))))))))))))))))))))))))⟩
        case step2 =>
          rintro m st K' hK1 hK2 ⟨i, o, c, hm, hi0, hil, ho1, ho2, hp, hcb, hval, x, rfl⟩
          have hcl := hp.len
          have hx : _ < 65536 := getD_lt (B := B16) (by decide) hcb (lo + i.toNat)
          have hy : _ < 65536 := getD_lt (B := B16) (by decide) bv i.toNat
          have e2 : (i + 1).toNat = i.toNat + 1 := by omega
          have hget := hp.get (j := lo + i.toNat) (Nat.le_refl _)
          -- one place
          have step : ∀ s : Int, s = (c.getD (lo + i.toNat) 0 : Nat) + o - g * (v.getD i.toNat 0 : Nat) → i < v.length + 1 → (∀ x ∈ c.set (lo + i.toNat) (s % 65536).toNat, x < B16) ∧ -65536 ≤ s / 65536 ∧ s / 65536 ≤ 0 ∧ (val B16 (win (c.set (lo + i.toNat) (s % 65536).toNat) lo (i + 1).toNat) : Int) + (B16 ^ (i + 1).toNat : Nat) * (s / 65536) = (val B16 (win u lo (i + 1).toNat) : Int) - g * (val B16 (v.take (i + 1).toNat) : Nat) := by
            intro s hs hi
            have hP : (g : Int) * (v.getD i.toNat 0 : Nat) ≤ 65535 * 65535 := by
              have : g * v.getD i.toNat 0 ≤ 65535 * 65535 := Nat.mul_le_mul (by omega) (by omega)
              have e : (g : Int) * (v.getD i.toNat 0 : Nat) = ((g * v.getD i.toNat 0 : Nat) : Int) := by simp
              rw [e]; omega
            have hP0 : 0 ≤ (g : Int) * (v.getD i.toNat 0 : Nat) := Int.mul_nonneg (by omega) (by omega)
            refine ⟨set_lt hcb (by simp only [B16]; omega), by omega, by omega, ?_⟩
            rw [e2, hp.val (by omega), win_succ, val_take_succ, Nat.pow_succ, ← hget]
            have hd : ((s % 65536).toNat : Int) + 65536 * (s / 65536) = s := by omega
            simp only [Int.natCast_add, Int.natCast_mul, B16] at hval ⊢
            generalize ((s % 65536).toNat : Int) = d at *
            generalize s / 65536 = o' at *
            generalize ((65536 ^ i.toNat : Nat) : Int) = P at *
            grind
          have hand : ∀ z : Int, IntKind.i64.wrap (((BitVec.ofInt IntKind.i64.bits z &&& BitVec.ofInt IntKind.i64.bits 65535).toNat : Nat) : Int) % 4294967296 = z % 65536 := and16
          have hshr : ∀ z : Int, z.fdiv (2 ^ min (Int.toNat 16) IntKind.i64.bits) = z / 65536 := fun z => Int.fdiv_eq_ediv_of_nonneg z (by decide)
          have hP0 : 0 ≤ (g : Int) * (v.getD i.toNat 0 : Nat) := Int.mul_nonneg (by omega) (by omega)
          have hP : (g : Int) * (v.getD i.toNat 0 : Nat) ≤ 65535 * 65535 := by
            have : g * v.getD i.toNat 0 ≤ 65535 * 65535 := Nat.mul_le_mul (by omega) (by omega)
            have e : (g : Int) * (v.getD i.toNat 0 : Nat) = ((g * v.getD i.toNat 0 : Nat) : Int) := by simp
            rw [e]; omega
          refine ifB_mk (fun h4 => ?_) (fun h4 => ?_)
          · simp only [decide_eq_true_eq] at h4
            refine And.intro (by (try dsimp only); omega) ?_
            refine And.intro (by (try dsimp only); omega) ?_
            refine And.intro (by (try dsimp only); omega) ?_
            refine And.intro (by (try dsimp only); omega) ?_
            refine ifB_mk (fun h5 => ?_) (fun h5 => ?_)
            · simp only [decide_eq_true_eq] at h5
              refine And.intro (by (try dsimp only); omega) ?_
              refine And.intro (by (try dsimp only); omega) ?_
              refine And.intro (by (try dsimp only); omega) ?_
              refine And.intro (by (try dsimp only); omega) ?_
              refine And.intro (by (try dsimp only); omega) ?_
              refine And.intro (by (try dsimp only); omega) ?_
              refine And.intro (by (try dsimp only); omega) ?_
              have st := step (((c.getD (lo + i.toNat) 0 : Nat) : Int) + o - g * (v.getD i.toNat 0 : Nat)) rfl (by omega)
              rw [← hand (((c.getD (lo + i.toNat) 0 : Nat) : Int) + o - g * (v.getD i.toNat 0 : Nat)), ← hshr] at st
              refine And.intro ⟨by omega, rfl, by rw [hand]; omega, by rw [hand]; omega⟩ ?_
              refine And.intro (by decide) ?_
              refine And.intro (by (try dsimp only); omega) ?_
              exact hK1 (m - 1) _ (by omega) ⟨i + 1, _, _, by omega, by omega, by omega, st.2.1, st.2.2.1, by rw [e2]; exact hp.set _, st.1, st.2.2.2, (fits (.s rfl (.s rfl (.n (.n (.s rfl (.s rfl (.n (.s rfl (.s rfl (.n (.n (.n (.n (.n (.n (.n (.n (.n (.n (.n (.n (.n (.n (.n (.n (.n (.n (.n (.n (.n (.n (.n (.n (.n (.n (.n (.n (.n (.n (.n (.n (.n (.n (.s rfl (.s rfl (.n (.n (.n (.n (.n (.n (.n (.n (.n (.n (.n (.n (.n (.n (.n (.n (.n (.n (.n (.n (.n (.n (.n (.n (.n (.n (.n (.n (.n (.n (.n (.n (.n .nil)))))))))))))))))))))))))))))))))))))))))))))))))))))))))))))))))))))))))))))))⟩
            · simp only [decide_eq_false_iff_not] at h5
              have hz : v.getD i.toNat 0 = 0 := getD_out (by omega)
              refine And.intro (by (try dsimp only); omega) ?_
              have st := step (((c.getD (lo + i.toNat) 0 : Nat) : Int) + o) (by rw [hz]; simp) (by omega)
              rw [← hand (((c.getD (lo + i.toNat) 0 : Nat) : Int) + o), ← hshr] at st
              refine And.intro ⟨by omega, rfl, by rw [hand]; omega, by rw [hand]; omega⟩ ?_
              refine And.intro (by decide) ?_
              refine And.intro (by (try dsimp only); omega) ?_
              exact hK1 (m - 1) _ (by omega) ⟨i + 1, _, _, by omega, by omega, by omega, st.2.1, st.2.2.1, by rw [e2]; exact hp.set _, st.1, st.2.2.2, (fits (.s rfl (.s rfl (.n (.n (.s rfl (.s rfl (.n (.s rfl (.s rfl (.n (.n (.n (.n (.n (.n (.n (.n (.n (.n (.n (.n (.n (.n (.n (.n (.n (.n (.n (.n (.n (.n (.n (.n (.n (.n (.n (.n (.n (.n (.n (.n (.n (.n (.s rfl (.s rfl (.n (.n (.n (.n (.n (.n (.n (.n (.n (.n (.n (.n (.n (.n (.n (.n (.n (.n (.n (.n (.n (.n (.n (.n (.n (.n (.n (.n (.n (.n (.n (.n (.n .nil)))))))))))))))))))))))))))))))))))))))))))))))))))))))))))))))))))))))))))))))⟩
          · simp only [decide_eq_false_iff_not] at h4
            have hi' : i = v.length + 1 := by omega
            have e3 : i.toNat = v.length + 1 := by omega
            refine hK2 _ _ (by simp) ?_
            rw [e3, List.take_of_length_le (by omega)] at hval
            rw [e3] at hp
            have hdiv := Nat.div_add_mod (val B16 (win u lo (v.length + 1))) (val B16 v)
            have hmod := Nat.mod_lt (val B16 (win u lo (v.length + 1))) hvp
            rw [hQd, ← h3] at hdiv
            have hrest : (val B16 (win u lo (v.length + 1)) : Int) - g * (val B16 v : Nat) = (val B16 (win u lo (v.length + 1)) % val B16 v : Nat) := by
              have : (g : Int) * (val B16 v : Nat) = ((val B16 v * g : Nat) : Int) := by simp [Int.mul_comm]
              rw [this]
              omega
            rw [hrest] at hval
            have hw := val_lt (B := B16) (by decide) (win_mem (lo := lo) (k := v.length + 1) hcb)
            rw [win_len (by omega)] at hw
            have ho : o = 0 := by
              rcases Int.lt_or_le o 0 with h | h
              · have h7 : ((B16 ^ (v.length + 1) : Nat) : Int) * o ≤ ((B16 ^ (v.length + 1) : Nat) : Int) * (-1) := Int.mul_le_mul_of_nonneg_left (by omega) (by omega)
                omega
              · omega
            subst ho
            have hfin := hK c hp hcb (by omega)
            have e4 : ((g : Nat) : Int) % 4294967296 = ((Q : Nat) : Int) := by omega
            rw [← e4] at hfin
            exact hfin
  · rw [hG'] at h
    show ∃ n, wpLoop _ n _ _
    refine loop_rule (fun m st => ∃ g : Nat, m = g ∧ Q ≤ g ∧ g < 65536 ∧ ∃ x, st = ⟨pat x 0 [some (.view 1 lo hi), some (.row 0), none, none, some (.int .u32 0), some (.int .i64 (List.length v : Nat)), none, some (.int .u64 (g : Nat)), none, none, none, none, none, none, none, none, none, none, none, none, none, none, none, none, none, none, none, none, none, none, none, none, none, none, none, none, none, none, none, none, none, none, none, none, none, none, none, none, none, none, none, none, none, none, none, none, none, none, none, none, none, none, none, none, none, none, none, none, none, none, none, none, none, none, none, none, none, none], [.row v, .row u, .row q]⟩) ?step (n := min G 65535) ?init
    case init => (rw [hG']; exact ⟨G, by simp only [decide_eq_false_iff_not] at h; omega, hfirst, by simp only [decide_eq_false_iff_not] at h; omega, (fits (.s rfl (.s rfl (.n (.n (.s rfl (.s rfl (.n (.s rfl (.n (.n (.n (.n (.n (.n (.n (.n (.n (.n (.n (.n (.n (.n (.n (.n (.n (.n (.n (.n (.n (.n (.n (.n (.n (.n (.n (.n (.n (.n (.n (.n (.n (.n (.n (.n (.n (.n (.n (.n (.n (.n (.n (.n (.n (.n (.n (.n (.n (.n (.n (.n (.n (.n (.n (.n (.n (.n (.n (.n (.n (.n (.n (.n (.n (.n (.n (.n (.n (.n .nil)))))))))))))))))))))))))))))))))))))))))))))))))))))))))))))))))))))))))))))))⟩)
    case step =>
      rintro m st K' hK1 hK2 ⟨g, hmg, hg1, hg2, x, rfl⟩
      refine And.intro ⟨by rw [hhi, show lo + v.length + 1 = lo + (v.length + 1) by omega, win_eq]; exact win_mem bu, by simp; omega, bv, cv, by (try dsimp only); omega, by (try dsimp only); omega, by (try dsimp only); omega⟩ ?_
      have hwin : (u.take hi).drop lo = win u lo (v.length + 1) := by rw [hhi, show lo + v.length + 1 = lo + (v.length + 1) by omega, win_eq]
      refine ifB_mk (fun h2 => ?_) (fun h2 => ?_)
      · simp only [decide_eq_true_eq, hwin, Int.toNat_natCast] at h2
        have h3 := more g h2
        refine hK1 (g - 1) _ (by omega) ⟨g - 1, rfl, by omega, by omega, ?_⟩
        have e : (((g : Nat) : Int) - 1) % 18446744073709551616 = ((g - 1 : Nat) : Int) := by omega
        rw [← e]
        exact (fits (.s rfl (.s rfl (.n (.n (.s rfl (.s rfl (.n (.s rfl (.n (.n (.n (.n (.n (.n (.n (.n (.n (.n (.n (.n (.n (.n (.n (.n (.n (.n (.n (.n (.n (.n (.n (.n (.n (.n (.n (.n (.n (.n (.n (.n (.n (.n (.n (.n (.n (.n (.n (.n (.n (.n (.n (.n (.n (.n (.n (.n (.n (.n (.n (.n (.n (.n (.n (.n (.n (.n (.n (.n (.n (.n (.n (.n (.n (.n (.n (.n (.n (.n .nil)))))))))))))))))))))))))))))))))))))))))))))))))))))))))))))))))))))))))))))))
      · simp only [decide_eq_false_iff_not, hwin, Int.toNat_natCast] at h2
        have h3 : g = Q := Nat.le_antisymm (last g h2) hg1
        refine hK2 _ _ (by simp) ?_
        show ∃ n, wpLoop _ n _ _
        refine loop_rule (fun m st => ∃ (i o : Int) (c : List Nat), (m : Int) = v.length + 1 - i ∧ 0 ≤ i ∧ i ≤ v.length + 1 ∧ -65536 ≤ o ∧ o ≤ 0 ∧ Part u c lo i.toNat ∧ (∀ x ∈ c, x < B16) ∧ (val B16 (win c lo i.toNat) : Int) + (B16 ^ i.toNat : Nat) * o = (val B16 (win u lo i.toNat) : Int) - g * (val B16 (v.take i.toNat) : Nat) ∧ ∃ x, st = ⟨pat x 0 [some (.view 1 lo hi), some (.row 0), none, none, some (.int .u32 0), some (.int .i64 (List.length v : Nat)), none, some (.int .u64 (g : Nat)), some (.int .i64 o), none, none, none, none, none, none, none, none, none, none, none, none, none, none, none, none, none, none, none, none, none, none, none, none, none, none, none, none, none, none, none, none, none, none, some (.int .i64 (hi - lo : Nat)), some (.int .i64 i), none, none, none, none, none, none, none, none, none, none, none, none, none, none, none, none, none, none, none, none, none, none, none, none, none, none, none, none, none, none, none, none, none], [.row v, .row c, .row q]⟩) ?step2 (n := v.length + 1) ?init2
        case init2 => exact ⟨0, 0, u, by omega, by omega, by omega, by omega, by omega, Part.refl u lo, bu, by simp [win, val], (fits (.s rfl (.s rfl (.n (.n (.s rfl (.s rfl (.n (.s rfl (.s rfl (.n (.n (.n (.n (.n (.n (.n (.n (.n (.n (.n (.n (.n (.n (.n (.n (.n (.n (.n (.n (.n (.n (.n (.n (.n (.n (.n (.n (.n (.n (.n (.n (.n (.n (.s rfl (.s rfl (.n (.n (.n (.n (.n (.n (.n (.n (.n (.n (.n (.n (.n (.n (.n (.n (.n (.n (.n (.n (.n (.n (.n (.n (.n (.n (.n (.n (.n (.n (.n (.n (.n .nil)))))))))))))))))))))))))))))))))))))))))))))))))))))))))))))))))))))))))))))))⟩
        case step2 =>
          rintro m st K' hK1 hK2 ⟨i, o, c, hm, hi0, hil, ho1, ho2, hp, hcb, hval, x, rfl⟩
          have hcl := hp.len
          have hx : _ < 65536 := getD_lt (B := B16) (by decide) hcb (lo + i.toNat)
          have hy : _ < 65536 := getD_lt (B := B16) (by decide) bv i.toNat
          have e2 : (i + 1).toNat = i.toNat + 1 := by omega
          have hget := hp.get (j := lo + i.toNat) (Nat.le_refl _)
          -- one place
          have step : ∀ s : Int, s = (c.getD (lo + i.toNat) 0 : Nat) + o - g * (v.getD i.toNat 0 : Nat) → i < v.length + 1 → (∀ x ∈ c.set (lo + i.toNat) (s % 65536).toNat, x < B16) ∧ -65536 ≤ s / 65536 ∧ s / 65536 ≤ 0 ∧ (val B16 (win (c.set (lo + i.toNat) (s % 65536).toNat) lo (i + 1).toNat) : Int) + (B16 ^ (i + 1).toNat : Nat) * (s / 65536) = (val B16 (win u lo (i + 1).toNat) : Int) - g * (val B16 (v.take (i + 1).toNat) : Nat) := by
            intro s hs hi
            have hP : (g : Int) * (v.getD i.toNat 0 : Nat) ≤ 65535 * 65535 := by
              have : g * v.getD i.toNat 0 ≤ 65535 * 65535 := Nat.mul_le_mul (by omega) (by omega)
              have e : (g : Int) * (v.getD i.toNat 0 : Nat) = ((g * v.getD i.toNat 0 : Nat) : Int) := by simp
              rw [e]; omega
            have hP0 : 0 ≤ (g : Int) * (v.getD i.toNat 0 : Nat) := Int.mul_nonneg (by omega) (by omega)
            refine ⟨set_lt hcb (by simp only [B16]; omega), by omega, by omega, ?_⟩
            rw [e2, hp.val (by omega), win_succ, val_take_succ, Nat.pow_succ, ← hget]
            have hd : ((s % 65536).toNat : Int) + 65536 * (s / 65536) = s := by omega
            simp only [Int.natCast_add, Int.natCast_mul, B16] at hval ⊢
            generalize ((s % 65536).toNat : Int) = d at *
            generalize s / 65536 = o' at *
            generalize ((65536 ^ i.toNat : Nat) : Int) = P at *
            grind
          have hand : ∀ z : Int, IntKind.i64.wrap (((BitVec.ofInt IntKind.i64.bits z &&& BitVec.ofInt IntKind.i64.bits 65535).toNat : Nat) : Int) % 4294967296 = z % 65536 := and16
          have hshr : ∀ z : Int, z.fdiv (2 ^ min (Int.toNat 16) IntKind.i64.bits) = z / 65536 := fun z => Int.fdiv_eq_ediv_of_nonneg z (by decide)
          have hP0 : 0 ≤ (g : Int) * (v.getD i.toNat 0 : Nat) := Int.mul_nonneg (by omega) (by omega)
          have hP : (g : Int) * (v.getD i.toNat 0 : Nat) ≤ 65535 * 65535 := by
            have : g * v.getD i.toNat 0 ≤ 65535 * 65535 := Nat.mul_le_mul (by omega) (by omega)
            have e : (g : Int) * (v.getD i.toNat 0 : Nat) = ((g * v.getD i.toNat 0 : Nat) : Int) := by simp
            rw [e]; omega
          refine ifB_mk (fun h4 => ?_) (fun h4 => ?_)
          · simp only [decide_eq_true_eq] at h4
            refine And.intro (by (try dsimp only); omega) ?_
            refine And.intro (by (try dsimp only); omega) ?_
            refine And.intro (by (try dsimp only); omega) ?_
            refine And.intro (by (try dsimp only); omega) ?_
            refine ifB_mk (fun h5 => ?_) (fun h5 => ?_)
            · simp only [decide_eq_true_eq] at h5
              refine And.intro (by (try dsimp only); omega) ?_
              refine And.intro (by (try dsimp only); omega) ?_
              refine And.intro (by (try dsimp only); omega) ?_
              refine And.intro (by (try dsimp only); omega) ?_
              refine And.intro (by (try dsimp only); omega) ?_
              refine And.intro (by (try dsimp only); omega) ?_
              refine And.intro (by (try dsimp only); omega) ?_
              have st := step (((c.getD (lo + i.toNat) 0 : Nat) : Int) + o - g * (v.getD i.toNat 0 : Nat)) rfl (by omega)
              rw [← hand (((c.getD (lo + i.toNat) 0 : Nat) : Int) + o - g * (v.getD i.toNat 0 : Nat)), ← hshr] at st
              refine And.intro ⟨by omega, rfl, by rw [hand]; omega, by rw [hand]; omega⟩ ?_
              refine And.intro (by decide) ?_
              refine And.intro (by (try dsimp only); omega) ?_
              exact hK1 (m - 1) _ (by omega) ⟨i + 1, _, _, by omega, by omega, by omega, st.2.1, st.2.2.1, by rw [e2]; exact hp.set _, st.1, st.2.2.2, (fits (.s rfl (.s rfl (.n (.n (.s rfl (.s rfl (.n (.s rfl (.s rfl (.n (.n (.n (.n (.n (.n (.n (.n (.n (.n (.n (.n (.n (.n (.n (.n (.n (.n (.n (.n (.n (.n (.n (.n (.n (.n (.n (.n (.n (.n (.n (.n (.n (.n (.s rfl (.s rfl (.n (.n (.n (.n (.n (.n (.n (.n (.n (.n (.n (.n (.n (.n (.n (.n (.n (.n (.n (.n (.n (.n (.n (.n (.n (.n (.n (.n (.n (.n (.n (.n (.n .nil)))))))))))))))))))))))))))))))))))))))))))))))))))))))))))))))))))))))))))))))⟩
            · simp only [decide_eq_false_iff_not] at h5
              have hz : v.getD i.toNat 0 = 0 := getD_out (by omega)
              refine And.intro (by (try dsimp only); omega) ?_
              have st := step (((c.getD (lo + i.toNat) 0 : Nat) : Int) + o) (by rw [hz]; simp) (by omega)
              rw [← hand (((c.getD (lo + i.toNat) 0 : Nat) : Int) + o), ← hshr] at st
              refine And.intro ⟨by omega, rfl, by rw [hand]; omega, by rw [hand]; omega⟩ ?_
              refine And.intro (by decide) ?_
              refine And.intro (by (try dsimp only); omega) ?_
              exact hK1 (m - 1) _ (by omega) ⟨i + 1, _, _, by omega, by omega, by omega, st.2.1, st.2.2.1, by rw [e2]; exact hp.set _, st.1, st.2.2.2, (fits (.s rfl (.s rfl (.n (.n (.s rfl (.s rfl (.n (.s rfl (.s rfl (.n (.n (.n (.n (.n (.n (.n (.n (.n (.n (.n (.n (.n (.n (.n (.n (.n (.n (.n (.n (.n (.n (.n (.n (.n (.n (.n (.n (.n (.n (.n (.n (.n (.n (.s rfl (.s rfl (.n (.n (.n (.n (.n (.n (.n (.n (.n (.n (.n (.n (.n (.n (.n (.n (.n (.n (.n (.n (.n (.n (.n (.n (.n (.n (.n (.n (.n (.n (.n (.n (.n .nil)))))))))))))))))))))))))))))))))))))))))))))))))))))))))))))))))))))))))))))))⟩
          · simp only [decide_eq_false_iff_not] at h4
            have hi' : i = v.length + 1 := by omega
            have e3 : i.toNat = v.length + 1 := by omega
            refine hK2 _ _ (by simp) ?_
            rw [e3, List.take_of_length_le (by omega)] at hval
            rw [e3] at hp
            have hdiv := Nat.div_add_mod (val B16 (win u lo (v.length + 1))) (val B16 v)
            have hmod := Nat.mod_lt (val B16 (win u lo (v.length + 1))) hvp
            rw [hQd, ← h3] at hdiv
            have hrest : (val B16 (win u lo (v.length + 1)) : Int) - g * (val B16 v : Nat) = (val B16 (win u lo (v.length + 1)) % val B16 v : Nat) := by
              have : (g : Int) * (val B16 v : Nat) = ((val B16 v * g : Nat) : Int) := by simp [Int.mul_comm]
              rw [this]
              omega
            rw [hrest] at hval
            have hw := val_lt (B := B16) (by decide) (win_mem (lo := lo) (k := v.length + 1) hcb)
            rw [win_len (by omega)] at hw
            have ho : o = 0 := by
              rcases Int.lt_or_le o 0 with h | h
              · have h7 : ((B16 ^ (v.length + 1) : Nat) : Int) * o ≤ ((B16 ^ (v.length + 1) : Nat) : Int) * (-1) := Int.mul_le_mul_of_nonneg_left (by omega) (by omega)
                omega
              · omega
            subst ho
            have hfin := hK c hp hcb (by omega)
            have e4 : ((g : Nat) : Int) % 4294967296 = ((Q : Nat) : Int) := by omega
            rw [← e4] at hfin
            exact hfin
end Iv
end Go.Proofs.YtfajgibpidlojaaDoor
end

section
/- The library's functions on bits: Len32, LeadingZeros32, TrailingZeros32 (its table: Gl). No condition beside the kinds. -/
set_option linter.unusedVariables false
set_option linter.unusedSimpArgs false
namespace Go.Proofs.YtfajgibpidlojaaDoor
/-- The table's places. -/
theorem tab32_at : ∀ t : Fin 32, Iv.tab32.getD ((((2 ^ t.val : Nat) : Int) * 125613361 % 4294967296 / 134217728).toNat) 0 = t.val ∧ (((2 ^ t.val : Nat) : Int) * 125613361 % 4294967296 / 134217728).toNat < 32 := by decide +kernel
namespace Iv
open Go Go.RowKit Go.Proofs

theorem and_neg {n : Nat} (h0 : 0 < n) (h1 : n < 4294967296) : n &&& (4294967296 - n) = 2 ^ tz n := by
  obtain ⟨m, hm, ho⟩ := tz_spec h0
  generalize tz n = t at hm ⊢
  have hp := Nat.two_pow_pos t
  refine Nat.eq_of_testBit_eq fun i => ?_
  rw [Nat.testBit_and, Nat.testBit_two_pow, show 4294967296 - n = 2 ^ 32 - (n - 1 + 1) by rw [Nat.sub_add_cancel h0], Nat.testBit_two_pow_sub_succ (by omega)]
  rw [Nat.testBit_eq_decide_div_mod_eq, Nat.testBit_eq_decide_div_mod_eq]
  have hlt : t < 32 := by
    have : 2 ^ t ≤ n := by rw [hm]; exact Nat.le_mul_of_pos_right _ (by omega)
    exact (Nat.pow_lt_pow_iff_right (a := 2) (by decide)).1 (Nat.lt_of_le_of_lt this h1)
  obtain ⟨k, rfl⟩ : ∃ k, m = 2 * k + 1 := ⟨m / 2, by omega⟩
  rcases Nat.lt_trichotomy i t with hi | hi | hi
  · have e : n / 2 ^ i % 2 = 0 := by
      have : 2 ^ t = 2 ^ i * (2 * 2 ^ (t - i - 1)) := by rw [← Nat.pow_succ', ← Nat.pow_add]; congr 1; omega
      rw [hm, this, Nat.mul_assoc, Nat.mul_div_cancel_left _ (Nat.two_pow_pos i), Nat.mul_assoc]
      omega
    have : ¬ t = i := by omega
    simp [e, this]
  · subst hi
    have e1 : n / 2 ^ i % 2 = 1 := by rw [hm, Nat.mul_div_cancel_left _ hp]; omega
    have e2 : (n - 1) / 2 ^ i % 2 = 0 := by
      have : n - 1 = (2 ^ i - 1) + 2 ^ i * (2 * k) := by rw [hm, Nat.mul_add]; omega
      rw [this, Nat.add_mul_div_left _ _ hp, Nat.div_eq_of_lt (by omega)]
      omega
    simp [e1, e2, hlt]
  · have e : n / 2 ^ i = (n - 1) / 2 ^ i := by
      have h2 : 2 ^ i = 2 ^ (t + 1) * 2 ^ (i - t - 1) := by rw [← Nat.pow_add]; congr 1; omega
      rw [h2, ← Nat.div_div_eq_div_mul, ← Nat.div_div_eq_div_mul]
      congr 1
      have hq : 0 < 2 ^ (t + 1) := Nat.two_pow_pos _
      have a1 : n = 2 ^ t + 2 ^ (t + 1) * k := by rw [hm, Nat.pow_succ]; grind
      have a2 : n - 1 = (2 ^ t - 1) + 2 ^ (t + 1) * k := by omega
      have hs : 2 ^ (t + 1) = 2 * 2 ^ t := Nat.pow_succ'
      rw [a2]
      conv => lhs; rw [a1]
      rw [Nat.add_mul_div_left _ _ hq, Nat.add_mul_div_left _ _ hq, Nat.div_eq_of_lt (by omega), Nat.div_eq_of_lt (by omega)]
    have : ¬ t = i := by omega
    rw [e]
    cases decide ((n - 1) / 2 ^ i % 2 = 1) <;> simp [this]
theorem tz32_walk (x : Int) (w : World) (hg : Gl w) (h0 : 0 ≤ x) (h1 : x ≤ 4294967295) (hx : x ≠ 0) :
    Calls Tryd.prog 154 #[.int .u32 x] w fun e w' => e = .returned (.int .i64 (tz x.toNat : Nat)) ∧ w' = w := by
  have e1 : bits .and .u32 x (-x % 4294967296) = ((2 ^ tz x.toNat : Nat) : Int) := by
    rw [u32_and x _ h0 (by omega) (by omega) (by omega)]
    have : (-x % 4294967296).toNat = 4294967296 - x.toNat := by omega
    rw [this, and_neg (by omega) (by omega)]
  have hlt : tz x.toNat < 32 := by
    have h2 := tz_lt_nb (n := x.toNat) (by omega)
    have h3 : nb x.toNat ≤ 32 := nb_le.2 (by omega)
    omega
  obtain ⟨e2, e3⟩ := tab32_at ⟨tz x.toNat, hlt⟩
  have hc := hg _ e3
  rw [e2] at hc
  simp only at hc e3
  have hb : bits .and .u32 x (-x % 4294967296) * 125613361 % 4294967296 / 134217728 < 32 := by rw [e1]; omega
  have hc' : w.cell? ⟨0, (bits .and .u32 x (-x % 4294967296) * 125613361 % 4294967296 / 134217728).toNat, none⟩ = some (.int .u8 (tz x.toNat : Nat)) := by rw [e1]; exact hc
  have hx' : (x == 0) = false := by simpa using hx
  clear hc e1 e2 e3
  go_enter Tryd.func154, Tryd.ntmps154
  go_wp2
  go_ret
  exact ⟨rfl, rfl⟩

theorem bitLenAux_nb : ∀ (f n : Nat), n < 2 ^ f → Lib.bitLenAux f n = nb n
  | 0, n, h => by
    have : n = 0 := by simpa using h
    subst this
    rfl
  | f + 1, n, h => by
    unfold Lib.bitLenAux
    split
    · rename_i h0; subst h0; rfl
    · rename_i h0
      rw [bitLenAux_nb f (n / 2) (by rw [Nat.pow_succ] at h; omega)]
      unfold nb
      rw [if_neg h0]
      by_cases h2 : n / 2 = 0
      · have : n = 1 := by omega
        subst this
        decide
      · rw [if_neg h2]
        have : n.log2 = (n / 2).log2 + 1 := by
          conv => lhs; rw [Nat.log2_def]
          rw [if_pos (by omega)]
        omega
theorem bitLen_nb {n : Nat} (h : n < 4294967296) : Lib.bitLen n = nb n := bitLenAux_nb 64 n (by omega)
theorem lz32_walk (x : Int) (w : World) (h0 : 0 ≤ x) (h1 : x ≤ 4294967295) :
    Calls Tryd.prog 157 #[.int .u32 x] w fun e w' => e = .returned (.int .i64 (32 - (Lib.bitLen x.toNat : Int))) ∧ w' = w := by
  have l : Lib.bitLen x.toNat ≤ 32 := Lib.bitLen_le x.toNat 32 (by omega) (by omega)
  have e8 : (32 - (Lib.bitLen x.toNat : Int) + 9223372036854775808) % 18446744073709551616 - 9223372036854775808 = 32 - (Lib.bitLen x.toNat : Int) := by omega
  go_enter Tryd.func157, Tryd.ntmps157
  go_wp2_with (go_at_call 155; refine (len32_walk x _ h0 h1).mono ?_; rintro e w' ⟨rfl, rfl⟩)
  go_ret
  refine ⟨?_, rfl⟩
  rw [← e8]
  rfl
/-! ### As contracts -/
theorem holds_quiet {F : TypeId} {f : FuncId} {x y : Int} {k k' : IntKind} (h : ∀ w, Gl w → Calls Tryd.prog f #[.int k x] w fun e w' => e = .returned (.int k' y) ∧ w' = w) : Holds Tryd.prog F f [.int k x] (.ok (.int k' y)) := by
  intro M w vs hM ha
  obtain ⟨v, vs', rfl, h1, h2⟩ := ha
  simp only [RpL] at h2
  subst h2
  simp only [Rp] at h1
  subst h1
  refine (h w hM.gl).mono ?_
  rintro e w' ⟨rfl, rfl⟩
  exact ⟨Below.refl _ _, _, rfl, rfl, by simp [Rp]⟩
def u32Spec (g : Nat → Int) (p : Int → Prop) : List SV → Option (Prop × Res)
  | [.int .u32 x] => some (0 ≤ x ∧ x ≤ 4294967295 ∧ p x, .ok (.int .i64 (g x.toNat)))
  | _ => none
def u32Con (F : TypeId) (f : FuncId) (g : Nat → Int) (p : Int → Prop) (ent : Enters Tryd.prog f) (h : ∀ x : Int, 0 ≤ x → x ≤ 4294967295 → p x → ∀ w, Gl w → Calls Tryd.prog f #[.int .u32 x] w fun e w' => e = .returned (.int .i64 (g x.toNat)) ∧ w' = w) : Con Tryd.prog F where
  f := f
  spec := u32Spec g p
  ent := ent
  ok := fun xs pre r hs hp => by
    unfold u32Spec at hs
    split at hs
    · rename_i x
      simp only [Option.some.injEq, Prod.mk.injEq] at hs
      obtain ⟨rfl, rfl⟩ := hs
      exact holds_quiet (h x hp.1 hp.2.1 hp.2.2)
    · cases hs
def tz32C (F : TypeId) : Con Tryd.prog F :=
  u32Con F 154 (fun n => (tz n : Nat)) (fun x => x ≠ 0) (enters_of Tryd.func154 (by kernel_rfl) rfl) fun x h0 h1 hx w hg => tz32_walk x w hg h0 h1 hx
def len32C (F : TypeId) : Con Tryd.prog F :=
  u32Con F 155 (fun n => (nb n : Nat)) (fun _ => True) (enters_of Tryd.func155 (by kernel_rfl) rfl) fun x h0 h1 _ w _ => by
    rw [← bitLen_nb (by omega)]
    exact len32_walk x w h0 h1
def lz32C (F : TypeId) : Con Tryd.prog F :=
  u32Con F 157 (fun n => 32 - (nb n : Nat)) (fun _ => True) (enters_of Tryd.func157 (by kernel_rfl) rfl) fun x h0 h1 _ w _ => by
    rw [← bitLen_nb (by omega)]
    exact lz32_walk x w h0 h1
end Iv
end Go.Proofs.YtfajgibpidlojaaDoor
end

section
/- Contracts of the words' functions, part N: Zero, One, Bits, Twos. Conditions: the lists are no longer than cap30. -/
set_option linter.unusedVariables false
set_option linter.unusedSimpArgs false
set_option maxHeartbeats 1000000
set_option maxRecDepth 4000
namespace Go.Proofs.YtfajgibpidlojaaDoor
namespace Iv
open Go Go.Proofs

theorem L32_zero {a : Nat} : L32 a = 0 ↔ a = 0 := by
  unfold L32
  rw [List.length_eq_zero_iff]
  exact dig_nil (by decide)
theorem L32_le_nb (a : Nat) : L32 a ≤ nb a := len32_nb a
def dec_32 : List SV → Option Nat
  | [x] => asN32 x
  | _ => none
theorem dec_32_sub (xs : List SV) (a : Nat) (h : dec_32 xs = some a) : SubL xs [.n32 a] := by
  unfold dec_32 at h
  split at h
  · exact SubL.cons (asN32_sub h) SubL.nil
  · cases h
theorem zero_wp (a : Nat) (K : Except Int SV → Prop) (hK : ∀ r, SubE r (.ok (.bool (decide (a = 0)))) → K r) : wpF tb env0 (wpDraw tb env0) Tryd.f128 [.n32 a] K := by
  show K _
  refine hK _ ?_
  rw [show decide (a = 0) = (((dig32 a).length : Int) == 0) by
    have := L32_zero (a := a)
    unfold L32 at this
    rw [Bool.eq_iff_iff]
    simp only [decide_eq_true_eq, beq_iff_eq]
    omega]
  exact ⟨rfl, Sub.refl _⟩
theorem zero_holds (F : TypeId) (a : Nat) (h : True) : Holds Tryd.prog F 128 [.n32 a] (.ok (.bool (decide (a = 0)))) :=
  holds_run mixed tb_ok (env0_ok F) Tryd.func128 rfl (by kernel_rfl) (args := [.n32 a]) (zero_wp a _ fun _ hr => hr) (fun _ _ _ _ _ h => h)
def zeroC (F : TypeId) : Con Tryd.prog F :=
  mkCon 128 (enters_of Tryd.func128 (by kernel_rfl) rfl) dec_32 (fun a => [.n32 a]) (fun _ => True) (fun a => .bool (decide (a = 0))) dec_32_sub (zero_holds F)
theorem dig_one {a : Nat} : a = 1 ↔ (dig32 a).length = 1 ∧ (dig32 a).getD 0 0 = 1 := by
  constructor
  · rintro rfl; decide
  · rintro ⟨h1, h2⟩
    have := val_dig32 a
    match hd : dig32 a, h1 with
    | [x], _ =>
      rw [hd] at this h2
      simp at h2
      subst h2
      simpa [val] using this.symm
theorem one_wp (a : Nat) (K : Except Int SV → Prop) (hK : ∀ r, SubE r (.ok (.bool (decide (a = 1)))) → K r) : wpF tb env0 (wpDraw tb env0) Tryd.f133 [.n32 a] K := by
  have key := dig_one (a := a)
  refine ifB_mk (fun h => ?_) (fun h => ?_)
  · have h1 : (dig32 a).length = 1 := by simp at h; omega
    refine And.intro (by omega) ?_
    show K _
    refine hK _ ?_
    refine ⟨rfl, ?_⟩
    have e : decide (a = 1) = ((((dig32 a).getD (0 : Int).toNat 0 : Nat) : Int) == 1) := by
      rw [Bool.eq_iff_iff]
      simp only [decide_eq_true_eq, beq_iff_eq, Int.toNat_zero]
      rw [key]
      omega
    rw [e]
    exact Sub.refl _
  · have h1 : ¬ (dig32 a).length = 1 := by simp at h; omega
    show K _
    refine hK _ ?_
    rw [show decide (a = 1) = false by simp; intro e; exact h1 (key.1 e).1]
    exact ⟨rfl, Sub.refl _⟩
theorem one_holds (F : TypeId) (a : Nat) (h : True) : Holds Tryd.prog F 133 [.n32 a] (.ok (.bool (decide (a = 1)))) :=
  holds_run mixed tb_ok (env0_ok F) Tryd.func133 rfl (by kernel_rfl) (args := [.n32 a]) (one_wp a _ fun _ hr => hr) (fun _ _ _ _ _ h => h)
def oneC (F : TypeId) : Con Tryd.prog F :=
  mkCon 133 (enters_of Tryd.func133 (by kernel_rfl) rfl) dec_32 (fun a => [.n32 a]) (fun _ => True) (fun a => .bool (decide (a = 1))) dec_32_sub (one_holds F)
/-! ### Bits -/
theorem val_last {B : Nat} {l : List Nat} (h : 0 < l.length) : val B l = val B (l.take (l.length - 1)) + B ^ (l.length - 1) * l.getD (l.length - 1) 0 := by
  rw [val_take_drop B l (l.length - 1) (by omega)]
  have : l.drop (l.length - 1) = [l.getD (l.length - 1) 0] := by
    rw [List.drop_eq_getElem_cons (by omega), List.drop_eq_nil_of_le (by omega)]
    simp [List.getD_eq_getElem?_getD, List.getElem?_eq_getElem (show l.length - 1 < l.length by omega)]
  rw [this]
  simp [val]
theorem last_pos {B : Nat} (hB : 1 < B) {n : Nat} (h : 0 < (dig B n).length) : 0 < (dig B n).getD ((dig B n).length - 1) 0 := by
  have := (canon_last (l := dig B n) (by intro e; rw [e] at h; simp at h)).1 (dig_canon hB n)
  omega
theorem bits_eq {a : Nat} (h : 0 < (dig32 a).length) : nb a = 32 * ((dig32 a).length - 1) + nb ((dig32 a).getD ((dig32 a).length - 1) 0) := by
  have h1 := val_last (B := B32) h
  rw [val_dig32] at h1
  have h2 := val_lt (B := B32) (by decide) (l := (dig32 a).take ((dig32 a).length - 1)) fun x hx => lt32 a x (List.mem_of_mem_take hx)
  rw [List.length_take, Nat.min_eq_left (by omega)] at h2
  have h3 : 0 < (dig32 a).getD ((dig32 a).length - 1) 0 := last_pos (B := B32) (by decide) h
  generalize (dig32 a).getD ((dig32 a).length - 1) 0 = x at *
  generalize val B32 ((dig32 a).take ((dig32 a).length - 1)) = v at *
  have e : B32 ^ ((dig32 a).length - 1) = 2 ^ (32 * ((dig32 a).length - 1)) := by rw [show B32 = 2 ^ 32 from rfl, ← Nat.pow_mul]
  rw [e] at h1 h2
  generalize 32 * ((dig32 a).length - 1) = k at *
  have h4 := nb_pos h3
  have h5 := nb_lt x
  have h6 : 0 < nb x := by
    unfold nb; rw [if_neg (by omega)]; omega
  have := nb_eq (n := a) (k := k + nb x - 1) ?_ ?_
  · omega
  · rw [show k + nb x - 1 = k + (nb x - 1) by omega, Nat.pow_add, h1]
    have := Nat.mul_le_mul_left (2 ^ k) h4
    omega
  · rw [show k + nb x - 1 + 1 = k + nb x by omega, Nat.pow_add, h1]
    have := Nat.mul_le_mul_left (2 ^ k) (show x + 1 ≤ 2 ^ nb x by omega)
    rw [Nat.mul_add] at this
    omega
noncomputable def envBits (F : TypeId) : Env := envOf [len32C F, tz32C F]
theorem envBits_ok (F : TypeId) : EnvOK Tryd.prog F tb (envBits F) := envOf_ok _
theorem bits_wp (F : TypeId) (a : Nat) (hl : L32 a ≤ cap30) (K : Except Int SV → Prop) (hK : ∀ r, SubE r (.ok (.int .i64 (nb a : Nat))) → K r) : wpF tb (envBits F) (wpDraw tb (envBits F)) Tryd.f131 [.n32 a] K := by
  have h30 := c30
  unfold L32 at hl
  have h0 := L32_zero (a := a)
  unfold L32 at h0
  refine ifB_mk (fun h => ?_) (fun h => ?_)
  · have h1 : a = 0 := by
      have h' : ((dig32 a).length : Int) = 0 := by simpa only [beq_iff_eq] using h
      exact h0.1 (by omega)
    show K _
    refine hK _ ?_
    subst h1
    exact ⟨rfl, Sub.refl _⟩
  · have h1 : 0 < (dig32 a).length := by
      have h' : ¬ ((dig32 a).length : Int) = 0 := by simpa only [beq_eq_false_iff_ne, ne_eq] using h
      omega
    have hb := bits_eq h1
    have hx : _ < 4294967296 := getD_lt (B := B32) (by decide) (lt32 a) ((dig32 a).length - 1)
    have e1 : (((dig32 a).length : Int) - 1).toNat = (dig32 a).length - 1 := by omega
    have hn : nb ((dig32 a).getD ((dig32 a).length - 1) 0) ≤ 32 := nb_le.2 hx
    refine And.intro (by (try dsimp only); omega) ?_
    refine And.intro (by (try dsimp only); omega) ?_
    refine And.intro (by (try dsimp only); omega) ?_
    refine And.intro (by (try dsimp only); omega) ?_
    refine And.intro ⟨by (try dsimp only); omega, by (try dsimp only); rw [e1]; omega, trivial⟩ ?_
    refine And.intro (by simp only [Int.toNat_natCast, e1]; omega) ?_
    show K _
    refine hK _ ?_
    simp only [Int.toNat_natCast, e1]
    rw [show (32 * (((dig32 a).length : Int) - 1) + (nb ((dig32 a).getD ((dig32 a).length - 1) 0) : Nat)) = (nb a : Nat) by omega]
    exact ⟨rfl, Sub.refl _⟩
theorem bits_holds (F : TypeId) (a : Nat) (h : L32 a ≤ cap30) : Holds Tryd.prog F 131 [.n32 a] (.ok (.int .i64 (nb a : Nat))) :=
  holds_run mixed tb_ok (envBits_ok F) Tryd.func131 rfl (by kernel_rfl) (args := [.n32 a]) (bits_wp F a h _ fun _ hr => hr) (fun _ _ _ _ _ h => h)
def bitsC (F : TypeId) : Con Tryd.prog F :=
  mkCon 131 (enters_of Tryd.func131 (by kernel_rfl) rfl) dec_32 (fun a => [.n32 a]) (fun a => L32 a ≤ cap30) (fun a => .int .i64 (nb a : Nat)) dec_32_sub (bits_holds F)
/-! ### Twos -/
theorem val_skip {B : Nat} {l : List Nat} {i : Nat} (h : i ≤ l.length) (hz : ∀ j, j < i → l.getD j 0 = 0) : val B l = B ^ i * val B (l.drop i) := by
  rw [val_take_drop B l i h]
  have : l.take i = List.replicate i 0 := by
    refine List.ext_getElem (by simp; omega) fun j h1 h2 => ?_
    have := hz j (by simp at h1; omega)
    simp [List.getD_eq_getElem?_getD, show j < l.length by simp at h1; omega] at this
    simpa using this
  rw [this, val_zeros]
  omega
theorem twos_wp (F : TypeId) (a : Nat) (hl : L32 a ≤ cap30) (K : Except Int SV → Prop) (hK : ∀ r, SubE r (.ok (.int .i64 (tz a : Nat))) → K r) : wpF tb (envBits F) (wpDraw tb (envBits F)) Tryd.f129 [.n32 a] K := by
  have h30 := c30
  unfold L32 at hl
  show ∃ n, wpLoop _ n _ _
  refine loop_rule (fun n st => ∃ (i : Int), (n : Int) = (dig32 a).length - i ∧ 0 ≤ i ∧ i ≤ (dig32 a).length ∧ (∀ j, j < i.toNat → (dig32 a).getD j 0 = 0) ∧ ∃ x, st = ⟨pat x 0 [some (.n32 a), none, none, none, none, some (.n32 a), some (.int .i64 (List.length (dig32 a) : Nat)), some (.int .i64 i), none, none, none, none, none, none, none, none, none, none, none, none], []⟩) ?step (n := (dig32 a).length) ?init
  case init => exact ⟨0, by omega, by omega, by omega, fun j hj => by simp at hj, (fits (.s rfl (.n (.n (.n (.n (.s rfl (.s rfl (.s rfl (.n (.n (.n (.n (.n (.n (.n (.n (.n (.n (.n (.n .nil)))))))))))))))))))))⟩
  case step =>
    rintro n st K' hK1 hK2 ⟨i, hn, hi, hil, hz, x, rfl⟩
    have hx : _ < 4294967296 := getD_lt (B := B32) (by decide) (lt32 a) i.toNat
    refine ifB_mk (fun h => ?_) (fun h => ?_)
    · simp only [decide_eq_true_eq] at h
      refine And.intro (by (try dsimp only); omega) ?_
      refine ifB_mk (fun h2 => ?_) (fun h2 => ?_)
      · have h3 : (dig32 a).getD i.toNat 0 ≠ 0 := by intro e; simp only [e] at h2; simp at h2
        -- the twos of the whole
        have e1 := val_skip (B := B32) (l := dig32 a) (i := i.toNat) (by omega) hz
        rw [val_dig32] at e1
        have e2 : (dig32 a).drop i.toNat = (dig32 a).getD i.toNat 0 :: (dig32 a).drop (i.toNat + 1) := by
          rw [List.drop_eq_getElem_cons (by omega)]; simp [List.getD_eq_getElem?_getD, show i.toNat < (dig32 a).length by omega]
        rw [e2, val] at e1
        obtain ⟨m, hm, ho⟩ := tz_spec (n := (dig32 a).getD i.toNat 0) (by omega)
        have hlt : tz ((dig32 a).getD i.toNat 0) < 32 := by
          have h4 := tz_lt_nb (n := (dig32 a).getD i.toNat 0) (by omega)
          have h5 : nb ((dig32 a).getD i.toNat 0) ≤ 32 := nb_le.2 hx
          omega
        have e3 : tz a = 32 * i.toNat + tz ((dig32 a).getD i.toNat 0) := by
          generalize (dig32 a).getD i.toNat 0 = y at *
          generalize val B32 ((dig32 a).drop (i.toNat + 1)) = v at *
          have e4 : B32 = 2 ^ tz y * (2 * 2 ^ (31 - tz y)) := by rw [← Nat.pow_succ', ← Nat.pow_add, show tz y + (31 - tz y).succ = 32 by omega]
          refine tz_eq (m := m + 2 * (2 ^ (31 - tz y) * v)) ?_ (by omega)
          rw [Nat.pow_add, Nat.pow_mul, show 2 ^ 32 = B32 from rfl, Nat.mul_assoc, Nat.mul_add, ← hm, e1]
          congr 2
          conv => lhs; rw [e4]
          grind
        refine And.intro (by (try dsimp only); omega) ?_
        refine And.intro ⟨by omega, by omega, by omega⟩ ?_
        refine And.intro (by simp only [Int.toNat_natCast]; omega) ?_
        refine hK2 _ _ (by simp) ?_
        show K _
        refine hK _ ?_
        simp only [Int.toNat_natCast]
        rw [show (32 * i + (tz ((dig32 a).getD i.toNat 0) : Nat) : Int) = (tz a : Nat) by omega]
        exact ⟨rfl, Sub.refl _⟩
      · have h3 : (dig32 a).getD i.toNat 0 = 0 := by simpa using h2
        refine And.intro (by (try dsimp only); omega) ?_
        refine hK1 (n - 1) _ (by omega) ⟨i + 1, by omega, by omega, by omega, fun j hj => ?_, (fits (.s rfl (.n (.n (.n (.n (.s rfl (.s rfl (.s rfl (.n (.n (.n (.n (.n (.n (.n (.n (.n (.n (.n (.n .nil)))))))))))))))))))))⟩
        by_cases e : j = i.toNat
        · subst e; exact h3
        · exact hz j (by omega)
    · simp only [decide_eq_false_iff_not] at h
      refine hK2 _ _ (by simp) ?_
      show K _
      refine hK _ ?_
      have e1 := val_skip (B := B32) (l := dig32 a) (i := i.toNat) (by omega) hz
      rw [val_dig32, List.drop_eq_nil_of_le (by omega)] at e1
      simp [val] at e1
      subst e1
      exact ⟨rfl, Sub.refl _⟩
theorem twos_holds (F : TypeId) (a : Nat) (h : L32 a ≤ cap30) : Holds Tryd.prog F 129 [.n32 a] (.ok (.int .i64 (tz a : Nat))) :=
  holds_run mixed tb_ok (envBits_ok F) Tryd.func129 rfl (by kernel_rfl) (args := [.n32 a]) (twos_wp F a h _ fun _ hr => hr) (fun _ _ _ _ _ h => h)
def twosC (F : TypeId) : Con Tryd.prog F :=
  mkCon 129 (enters_of Tryd.func129 (by kernel_rfl) rfl) dec_32 (fun a => [.n32 a]) (fun a => L32 a ≤ cap30) (fun a => .int .i64 (tz a : Nat)) dec_32_sub (twos_holds F)
end Iv
end Go.Proofs.YtfajgibpidlojaaDoor
end
