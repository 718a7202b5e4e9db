/-
  Contracts of functions that a law reaches, and what they rest on, part 6. Each part says its own conditions.
-/
import Derived.Test.YtfajgibpidlojaaDoorBase4
import Derived.Test.YtfajgibpidlojaaDoorBase5

section
/- The reference's long division, part C: NatDiv. Conditions: the divisor is not 0; the sizes. -/
set_option linter.unusedVariables false
set_option linter.unusedSimpArgs false
set_option maxHeartbeats 4000000
set_option maxRecDepth 4000
namespace Go.Proofs.YtfajgibpidlojaaDoor
namespace Iv
open Go Go.Proofs

theorem SubL.trans {xs ys zs : List SV} (h : SubL xs ys) (k : SubL ys zs) : SubL xs zs := fun M N bnd w vs r => k M N bnd w vs (h M N bnd w vs r)
def tbD : Tb := { ti := tbOf tbl, u := 74, inl := fun f => Nat.beq f 164 }
theorem tbD_ok : TabOK Tryd.prog tbD := tbChk_spec (l := tbl) (by kernel_rfl)
noncomputable def inlDg (F : TypeId) (f : FuncId) : Option (List SV → List Ob → (SV → List Ob → Prop) → Prop) := match Nat.beq f 164 with
  | true => some (InPlace tbI64 (envDg F) Tryd.f164)
  | false => none
theorem inlDg_ok {F : TypeId} {f : FuncId} {k : List SV → List Ob → (SV → List Ob → Prop) → Prop} (h : inlDg F f = some k) : Enters Tryd.prog f ∧ ∀ xs os K, k xs os K → InlOK Tryd.prog 74 f xs os K := by
  unfold inlDg at h
  split at h
  · rename_i hb
    have := Nat.eq_of_beq_eq_true hb
    subst this
    simp only [Option.some.injEq] at h
    subst h
    exact ⟨enters_of Tryd.func164 (by kernel_rfl) rfl, fun xs os K hw => inl_ok mixed tbI64_ok (envDg_ok F) rfl Tryd.func164 rfl (by kernel_rfl) hw.run⟩
  · cases h
def freshShl (f : FuncId) (xs : List SV) : Option (Prop × List Nat) := match Nat.beq f 162 with
  | true => match dec_16_i64 xs with
    | some p => some (0 ≤ p.2 ∧ L16 p.1 + (p.2 / 16).toNat + 1 ≤ cap30, dig16 (p.1 * 2 ^ p.2.toNat))
    | none => none
  | false => none
noncomputable def envDiv (F : TypeId) : Env := { con := conOf [rcmpC F, small16C F, natofC F, trimC F, rshrC F], inl := inlDg F, fresh := freshShl }
theorem envDiv_ok (F : TypeId) : EnvOK Tryd.prog F tbD (envDiv F) where
  con := fun f xs pre r h => conOf_ok _ f xs pre r h
  inl := fun f k h => inlDg_ok h
  fresh := fun f xs pre l h => by
    simp only [envDiv, freshShl] at h
    split at h
    · rename_i hb
      have := Nat.eq_of_beq_eq_true hb
      subst this
      split at h
      · rename_i p hp
        simp only [Option.some.injEq, Prod.mk.injEq] at h
        obtain ⟨rfl, rfl⟩ := h
        exact ⟨enters_of Tryd.func162 (by kernel_rfl) rfl, fun hpre => rshl_fresh F p hpre (SubL.trans (dec_16_i64_sub xs p hp) (SubL.cons (Sub.of16 p.1) (SubL.cons (Sub.refl _) SubL.nil)))⟩
      · cases h
    · cases h
theorem dig_single {B : Nat} (hB : 1 < B) {n : Nat} (h : (dig B n).length = 1) : (dig B n).getD 0 0 = n := by
  have := val_dig hB n
  match hd : dig B n, h with
  | [x], _ =>
    rw [hd] at this
    simpa [val] using this
/-- What a window holds, if the places beyond it hold nothing. -/
theorem win_full {B : Nat} (hB : 1 < B) {c : List Nat} {lo n D : Nat} (hc : ∀ x ∈ c, x < B) (hlen : lo + n + 1 ≤ c.length) (hD : D < B ^ n) (hlow : val B (c.drop (lo + 1)) < D) :
    val B (win c lo (n + 1)) = val B (c.drop lo) ∧ val B (win c lo (n + 1)) < B * D ∧ val B (c.drop (lo + (n + 1))) = 0 := by
  have h1 := val_take_drop B (c.drop (lo + 1)) n (by rw [List.length_drop]; omega)
  rw [List.drop_drop] at h1
  have h0 : val B (c.drop (lo + 1 + n)) = 0 := by
    rcases Nat.eq_zero_or_pos (val B (c.drop (lo + 1 + n))) with h | h
    · exact h
    · have : B ^ n * 1 ≤ B ^ n * val B (c.drop (lo + 1 + n)) := Nat.mul_le_mul_left _ h
      omega
  have h2 := val_take_drop B (c.drop lo) (n + 1) (by rw [List.length_drop]; omega)
  rw [List.drop_drop, show lo + (n + 1) = lo + 1 + n by omega, h0, Nat.mul_zero, Nat.add_zero] at h2
  have h3 : val B (win c lo (n + 1)) = val B (c.drop lo) := h2.symm
  refine ⟨h3, ?_, by rw [show lo + (n + 1) = lo + 1 + n by omega]; exact h0⟩
  rw [h3, val_drop']
  have h4 := getD_lt (B := B) (by omega) hc lo
  have h5 : B * (val B (c.drop (lo + 1)) + 1) ≤ B * D := Nat.mul_le_mul_left _ hlow
  rw [Nat.mul_add] at h5
  omega
theorem win_after {B : Nat} {c c' : List Nat} {lo n R : Nat} (hlen : lo + n + 1 ≤ c.length) (hp : Part c c' lo (n + 1)) (hR : val B (win c' lo (n + 1)) = R) (h0 : val B (c.drop (lo + (n + 1))) = 0) :
    val B (c'.drop lo) = R ∧ val B c' = val B (c.take lo) + B ^ lo * R := by
  have h1 := val_take_drop B (c'.drop lo) (n + 1) (by rw [List.length_drop, hp.len]; omega)
  rw [List.drop_drop, hp.high, h0, Nat.mul_zero, Nat.add_zero] at h1
  have h2 : val B (c'.drop lo) = R := by rw [h1]; exact hR
  refine ⟨h2, ?_⟩
  rw [val_take_drop B c' lo (by rw [hp.len]; omega), hp.low, h2]
theorem rdiv_wp (F : TypeId) (a b : Nat) (hb : 0 < b) (h1 : nb a ≤ 268435456) (h2 : nb b ≤ 268435456) (K : Except Int SV → Prop) (hK : ∀ r, SubE r (.ok (.tup [.n16 (a / b), .n16 (a % b)])) → K r) :
    wpF tbD (envDiv F) (wpDraw tbD (envDiv F)) Tryd.f151 [.n16 a, .n16 b] K := by
  have h30 := c30
  have la : (dig16 a).length ≤ nb a := len16_nb a
  have lb : (dig16 b).length ≤ nb b := len16_nb b
  have hbl : 0 < (dig16 b).length := by
    rcases Nat.eq_zero_or_pos (dig16 b).length with h | h
    · have := (dig_nil (B := 65536) (by decide)).1 (List.eq_nil_of_length_eq_zero h)
      omega
    · exact h
  refine ifB_mk (fun h => ?_) (fun h => ?_)
  · have : ((dig16 b).length : Int) = 0 := by simpa only [beq_iff_eq] using h
    omega
  · refine And.intro ⟨by unfold L16; (try dsimp only); omega, by unfold L16; (try dsimp only); omega⟩ ?_
    refine ifB_mk (fun h3 => ?_) (fun h3 => ?_)
    · simp only [decide_eq_true_eq, cmpI_lt] at h3
      refine And.intro (by simp only [List.length_nil]; omega) ?_
      show K _
      refine hK _ ?_
      rw [Nat.div_eq_of_lt h3, Nat.mod_eq_of_lt h3]
      exact ⟨rfl, Sub.tup (SubL.cons Sub.nil16 (SubL.cons (Sub.w16 a) SubL.nil))⟩
    · simp only [decide_eq_false_iff_not, cmpI_lt] at h3
      refine ifB_mk (fun h4 => ?_) (fun h4 => ?_)
      · have h4' : (dig16 b).length = 1 := by
          have : ((dig16 b).length : Int) = 1 := by simpa only [beq_iff_eq] using h4
          omega
        have e0 : (dig16 b).getD (0 : Int).toNat 0 = b := dig_single (by decide) h4'
        have hlt : b < 65536 := by
          have := (dig_len_lt (B := 65536) (n := b) (k := 1) (by decide)).1 (Nat.le_of_eq h4')
          omega
        refine And.intro (by (try dsimp only); omega) ?_
        refine And.intro ⟨by unfold L16; (try dsimp only); omega, by rw [e0]; (try dsimp only); omega, by rw [e0]; (try dsimp only); omega⟩ ?_
        simp only [e0]
        have hr : (a % b : Nat) < b := Nat.mod_lt _ hb
        refine And.intro ⟨by (try dsimp only); omega, by (try dsimp only); omega⟩ ?_
        show K (.ok (.tup [.n16 (a / ((b : Nat) : Int).toNat), .n16 (((a % ((b : Nat) : Int).toNat : Nat) : Int) % 18446744073709551616).toNat]))
        have e1 : (((a % b : Nat) : Int) % 18446744073709551616).toNat = a % b := by omega
        rw [Int.toNat_natCast, e1]
        exact hK _ ⟨rfl, Sub.refl _⟩
      · have h4' : 2 ≤ (dig16 b).length := by
          have : ¬ ((dig16 b).length : Int) = 1 := by simpa only [beq_eq_false_iff_ne, ne_eq] using h4
          omega
        have htop : 0 < (dig16 b).getD ((dig16 b).length - 1) 0 := last_pos (B := B16) (by decide) hbl
        have htop2 : _ < 65536 := getD_lt (B := B16) (by decide) (lt16 b) ((dig16 b).length - 1)
        have e1 : (((dig16 b).length : Int) - 1).toNat = (dig16 b).length - 1 := by omega
        show ∃ n, wpLoop _ n _ _
        refine loop_rule (fun m st => ∃ s : Int, (m : Int) = 16 - s ∧ 0 ≤ s ∧ s ≤ 15 ∧ (dig16 b).getD ((dig16 b).length - 1) 0 * 2 ^ s.toNat < 65536 ∧ ∃ x, st = ⟨pat x 0 [some (.n16 a), some (.n16 b), none, none, some (.nil), some (.nil), none, none, some (.int .i64 s), none, none, none, none, none, none, none, none, none, none, none, none, none, none, none, none, none, none, none, none, none, none, none, none, none, none, none, none, none, none, none, none, none, none, none, none, none, none, none, none, none, none, none, none, none, none, none, none, none, none, none, none, none, none, none, none, none, none, none, none, none, none, none, none, none, none, none, none, none, none, none, none, none, none, none, none, none, none, none, none, none, none, none, none, none, none], []⟩) ?step (n := 16) ?init
        case init => exact ⟨0, by omega, by omega, by omega, by simpa using htop2, (fits (.s rfl (.s rfl (.n (.n (.s rfl (.s rfl (.n (.n (.s rfl (.n (.n (.n (.n (.n (.n (.n (.n (.n (.n (.n (.n (.n (.n (.n (.n (.n (.n (.n (.n (.n (.n (.n (.n (.n (.n (.n (.n (.n (.n (.n (.n (.n (.n (.n (.n (.n (.n (.n (.n (.n (.n (.n (.n (.n (.n (.n (.n (.n (.n (.n (.n (.n (.n (.n (.n (.n (.n (.n (.n (.n (.n (.n (.n (.n (.n (.n (.n (.n (.n (.n (.n (.n (.n (.n (.n (.n (.n (.n (.n (.n (.n (.n (.n (.n (.n .nil))))))))))))))))))))))))))))))))))))))))))))))))))))))))))))))))))))))))))))))))))))))))))))))))⟩
        case step =>
          rintro m st K' hK1 hK2 ⟨s, hm, hs0, hs1, hts, x, rfl⟩
          have hp1 : 0 < 2 ^ s.toNat := Nat.two_pow_pos _
          have hmin : min (s % 18446744073709551616).toNat IntKind.u32.bits = s.toNat := by
            rw [Int.emod_eq_of_lt (by omega) (by omega)]
            exact Nat.min_eq_left (by show _ ≤ 32; omega)
          have hsh : (((dig16 b).getD (((dig16 b).length : Int) - 1).toNat 0 : Nat) : Int) * 2 ^ min (s % 18446744073709551616).toNat IntKind.u32.bits % 4294967296 = (((dig16 b).getD ((dig16 b).length - 1) 0 * 2 ^ s.toNat : Nat) : Int) := by
            rw [hmin, e1]
            have : ((dig16 b).getD ((dig16 b).length - 1) 0 : Int) * 2 ^ s.toNat = (((dig16 b).getD ((dig16 b).length - 1) 0 * 2 ^ s.toNat : Nat) : Int) := by simp
            rw [this]
            omega
          refine And.intro (by (try dsimp only); omega) ?_
          refine And.intro (by (try dsimp only); omega) ?_
          refine And.intro (by (try dsimp only); omega) ?_
          rw [hsh]
          generalize hz : (dig16 b).getD ((dig16 b).length - 1) 0 * 2 ^ s.toNat = z at *
          refine ifB_mk (fun h5 => ?_) (fun h5 => ?_)
          · simp only [decide_eq_true_eq] at h5
            have h6 : s ≤ 14 := by
              rcases Int.lt_or_le s 15 with h | h
              · omega
              · have h7 : s.toNat = 15 := by omega
                have h8 : 1 * 2 ^ 15 ≤ z := by rw [← hz, h7]; exact Nat.mul_le_mul_right _ htop
                have : (2 : Nat) ^ 15 = 32768 := rfl
                omega
            refine And.intro (by (try dsimp only); omega) ?_
            refine hK1 (m - 1) _ (by omega) ⟨s + 1, by omega, by omega, by omega, ?_, (fits (.s rfl (.s rfl (.n (.n (.s rfl (.s rfl (.n (.n (.s rfl (.n (.n (.n (.n (.n (.n (.n (.n (.n (.n (.n (.n (.n (.n (.n (.n (.n (.n (.n (.n (.n (.n (.n (.n (.n (.n (.n (.n (.n (.n (.n (.n (.n (.n (.n (.n (.n (.n (.n (.n (.n (.n (.n (.n (.n (.n (.n (.n (.n (.n (.n (.n (.n (.n (.n (.n (.n (.n (.n (.n (.n (.n (.n (.n (.n (.n (.n (.n (.n (.n (.n (.n (.n (.n (.n (.n (.n (.n (.n (.n (.n (.n (.n (.n (.n (.n .nil))))))))))))))))))))))))))))))))))))))))))))))))))))))))))))))))))))))))))))))))))))))))))))))))⟩
            rw [show (s + 1).toNat = s.toNat + 1 by omega, Nat.pow_succ, ← Nat.mul_assoc, hz]
            omega
          · refine hK2 _ _ (by simp) ?_
            -- the numbers, shifted
            have hD : 0 < b * 2 ^ s.toNat := Nat.mul_pos hb hp1
            have hAD : b * 2 ^ s.toNat ≤ a * 2 ^ s.toNat := Nat.mul_le_mul_right _ (by omega)
            have hlenD : L16 (b * 2 ^ s.toNat) ≤ L16 b + 1 := by
              refine dig_len_le (by decide) ?_
              rw [Nat.pow_succ]
              refine Nat.mul_lt_mul'' ((dig_len_lt (by decide)).1 (Nat.le_refl _)) ?_
              exact Nat.lt_of_le_of_lt (Nat.pow_le_pow_right (n := 2) (by decide) (show s.toNat ≤ 15 by omega)) (by decide)
            have hlenA : L16 (a * 2 ^ s.toNat) ≤ L16 a + 1 := by
              refine dig_len_le (by decide) ?_
              rw [Nat.pow_succ]
              refine Nat.mul_lt_mul'' ((dig_len_lt (by decide)).1 (Nat.le_refl _)) ?_
              exact Nat.lt_of_le_of_lt (Nat.pow_le_pow_right (n := 2) (by decide) (show s.toNat ≤ 15 by omega)) (by decide)
            have hlenDA : L16 (b * 2 ^ s.toNat) ≤ L16 (a * 2 ^ s.toNat) := L16_mono hAD
            have hlenb : L16 b ≤ L16 (b * 2 ^ s.toNat) := L16_mono (Nat.le_mul_of_pos_right _ hp1)
            unfold L16 at hlenD hlenA hlenDA hlenb
            refine And.intro ⟨hs0, by unfold L16; (try dsimp only); omega⟩ ?_
            refine And.intro ⟨hs0, by unfold L16; (try dsimp only); omega⟩ ?_
            refine And.intro (by (try dsimp only); omega) ?_
            refine And.intro (by simp only [List.length_singleton]; (try dsimp only); omega) ?_
            refine And.intro (by simp only [List.length_append, List.length_singleton]; (try dsimp only); omega) ?_
            refine And.intro (by simp only [List.length_append, List.length_singleton]; (try dsimp only); omega) ?_
            refine And.intro (by simp only [List.length_append, List.length_singleton]; (try dsimp only); omega) ?_
            refine And.intro (by simp only [List.length_append, List.length_singleton]; (try dsimp only); omega) ?_
            -- the loop over the digits of the quotient
            have hnD : (dig16 (b * 2 ^ s.toNat)).length = L16 (b * 2 ^ s.toNat) := rfl
            generalize hv : dig16 (b * 2 ^ s.toNat) = v at *
            have hvb : ∀ x ∈ v, x < B16 := by rw [← hv]; exact lt16 _
            have hvc : canon v := by rw [← hv]; exact can16 _
            have hvv : val B16 v = b * 2 ^ s.toNat := by rw [← hv]; exact val_dig16 _
            have hub : ∀ x ∈ dig16 (a * 2 ^ s.toNat) ++ [(0 : Int).toNat], x < B16 := by
              intro x hx
              rcases List.mem_append.1 hx with hx | hx
              · exact lt16 _ x hx
              · simp only [List.mem_singleton] at hx; subst hx; decide
            have huv : val B16 (dig16 (a * 2 ^ s.toNat) ++ [(0 : Int).toNat]) = a * 2 ^ s.toNat := by
              rw [val_append, show val B16 (dig16 (a * 2 ^ s.toNat)) = a * 2 ^ s.toNat from val_dig16 _]; simp [val]
            have hul : (dig16 (a * 2 ^ s.toNat) ++ [(0 : Int).toNat]).length = (dig16 (a * 2 ^ s.toNat)).length + 1 := by simp
            generalize hu0 : dig16 (a * 2 ^ s.toNat) ++ [(0 : Int).toNat] = u at *
            generalize hLA : (dig16 (a * 2 ^ s.toNat)).length = LA at *
            have hDpos : 0 < val B16 v := by rw [hvv]; exact hD
            have hDlt : val B16 v < B16 ^ v.length := val_lt (by decide) hvb
            have hDge : B16 ^ (v.length - 1) ≤ val B16 v := val_ge (by decide) (by intro e; rw [e] at hDpos; simp [val] at hDpos) hvc
            have hAlt : a * 2 ^ s.toNat < B16 ^ LA := by
              rw [← hLA]
              exact (dig_len_lt (B := 65536) (by decide)).1 (Nat.le_refl _)
            have hvl : v.length ≤ LA := hlenDA
            show ∃ n, wpLoop _ n _ _
            refine loop_rule (fun m st => ∃ (j : Int) (c q : List Nat), (m : Int) = j + 1 ∧ -1 ≤ j ∧ j ≤ (LA : Int) - v.length ∧ c.length = LA + 1 ∧ (q.length : Int) = LA + 1 - v.length ∧ (∀ x ∈ c, x < B16) ∧ (∀ x ∈ q, x < B16) ∧ val B16 (c.drop (j + 1).toNat) < val B16 v ∧ val B16 c + B16 ^ (j + 1).toNat * (val B16 v * val B16 (q.drop (j + 1).toNat)) = a * 2 ^ s.toNat ∧ ∃ x, st = ⟨pat x 0 [some (.n16 a), some (.n16 b), none, none, some (.nil), some (.nil), none, none, some (.int .i64 s), some (.row 0), some (.row 1), some (.int .i64 (List.length v : Nat)), some (.row 2), some (.int .i64 j), none, none, none, none, none, none, none, none, none, none, none, none, none, none, none, none, none, none, none, none, none, none, none, none, none, none, none, none, none, none, none, none, none, none, none, none, none, none, none, none, none, none, none, none, none, none, none, none, none, none, none, none, none, none, none, none, none, none, none, none, none, none, none, none, none, none, none, none, none, none, none, none, none, none, none, none, none, none, none, none, none], [.row v, .row c, .row q]⟩) ?step2 (n := LA + 1 - v.length) ?init2
            case init2 =>
              refine ⟨_, u, _, ?_, ?_, ?_, hul, ?_, hub, ?_, ?_, ?_, (fits (.s rfl (.s rfl (.n (.n (.s rfl (.s rfl (.n (.n (.s rfl (.s rfl (.s rfl (.s rfl (.s rfl (.s rfl (.n (.n (.n (.n (.n (.n (.n (.n (.n (.n (.n (.n (.n (.n (.n (.n (.n (.n (.n (.n (.n (.n (.n (.n (.n (.n (.n (.n (.n (.n (.n (.n (.n (.n (.n (.n (.n (.n (.n (.n (.n (.n (.n (.n (.n (.n (.n (.n (.n (.n (.n (.n (.n (.n (.n (.n (.n (.n (.n (.n (.n (.n (.n (.n (.n (.n (.n (.n (.n (.n (.n (.n (.n (.n (.n (.n (.n (.n (.n (.n (.n .nil))))))))))))))))))))))))))))))))))))))))))))))))))))))))))))))))))))))))))))))))))))))))))))))))⟩
              · (try dsimp only); omega
              · (try dsimp only); omega
              · (try dsimp only); omega
              · simp only [List.length_replicate]; omega
              · intro x hx; have := List.eq_of_mem_replicate hx; subst this; decide
              · rw [← val_div_pow (B := B16) (by decide) hub, huv]
                refine Nat.lt_of_lt_of_le ?_ hDge
                rw [Nat.div_lt_iff_lt_mul (Nat.pow_pos (by decide)), ← Nat.pow_add]
                refine Nat.lt_of_lt_of_le hAlt (Nat.pow_le_pow_right (by decide) ?_)
                (try dsimp only); omega
              · rw [huv, List.drop_eq_nil_of_le (by simp only [List.length_replicate]; omega)]
                simp [val]
            case step2 =>
              rintro m st K' hK1 hK2 ⟨j, c, q, hm, hj0, hj1, hcl, hql, hcb, hqb, hlow, hsum, x, rfl⟩
              refine ifB_mk (fun h6 => ?_) (fun h6 => ?_)
              · simp only [decide_eq_true_eq] at h6
                have e2 : (j + 1).toNat = j.toNat + 1 := by omega
                rw [e2] at hlow hsum
                obtain ⟨w1, w2, w3⟩ := win_full (B := B16) (by decide) (lo := j.toNat) (n := v.length) hcb (by omega) hDlt hlow
                refine And.intro (by (try dsimp only); omega) ?_
                refine And.intro (by (try dsimp only); omega) ?_
                refine And.intro ⟨by omega, by (try dsimp only); omega, by (try dsimp only); omega, by (try dsimp only); omega, by (try dsimp only); omega, by omega⟩ ?_
                refine InPlace.mk (rdigit_wp F v c q j.toNat (j + v.length + 1).toNat v.length (by omega) rfl (by omega) (by omega) hvb hcb hvc (by omega) w2 _ fun c' hp hcb' hval' => ?_)
                refine And.intro (by (try dsimp only); omega) ?_
                have hQ : val B16 (win c j.toNat (v.length + 1)) / val B16 v < 65536 := (Nat.div_lt_iff_lt_mul hDpos).2 w2
                have hdm := Nat.div_add_mod (val B16 (win c j.toNat (v.length + 1))) (val B16 v)
                have hmod := Nat.mod_lt (val B16 (win c j.toNat (v.length + 1))) hDpos
                obtain ⟨a1, a2⟩ := win_after (by omega) hp hval' w3
                have hc0 := val_take_drop B16 c j.toNat (by omega)
                rw [← w1] at hc0
                generalize val B16 (win c j.toNat (v.length + 1)) / val B16 v = Q at *
                generalize val B16 (win c j.toNat (v.length + 1)) % val B16 v = R at *
                refine And.intro ⟨by (try dsimp only); omega, rfl, by omega, by omega⟩ ?_
                refine And.intro (by (try dsimp only); omega) ?_
                have e3 : (j - 1 + 1).toNat = j.toNat := by omega
                refine hK1 (m - 1) _ (by omega) ⟨j - 1, c', _, by omega, by omega, by omega, by rw [hp.len]; exact hcl, by simp only [List.length_set]; exact hql, hcb', set_lt hqb (by simp only [Int.toNat_natCast, B16]; omega), by rw [e3, a1]; exact hmod, ?_, (fits (.s rfl (.s rfl (.n (.n (.s rfl (.s rfl (.n (.n (.s rfl (.s rfl (.s rfl (.s rfl (.s rfl (.s rfl (.n (.n (.n (.n (.n (.n (.n (.n (.n (.n (.n (.n (.n (.n (.n (.n (.n (.n (.n (.n (.n (.n (.n (.n (.n (.n (.n (.n (.n (.n (.n (.n (.n (.n (.n (.n (.n (.n (.n (.n (.n (.n (.n (.n (.n (.n (.n (.n (.n (.n (.n (.n (.n (.n (.n (.n (.n (.n (.n (.n (.n (.n (.n (.n (.n (.n (.n (.n (.n (.n (.n (.n (.n (.n (.n (.n (.n (.n (.n (.n (.n .nil))))))))))))))))))))))))))))))))))))))))))))))))))))))))))))))))))))))))))))))))))))))))))))))))⟩
                rw [e3, a2, Int.toNat_natCast]
                have e4 : val B16 ((q.set j.toNat Q).drop j.toNat) = Q + B16 * val B16 (q.drop (j.toNat + 1)) := by
                  have e5 : q.drop j.toNat = q.getD j.toNat 0 :: q.drop (j.toNat + 1) := by
                    rw [List.drop_eq_getElem_cons (by omega)]; simp [List.getD_eq_getElem?_getD, show j.toNat < q.length by omega]
                  rw [List.drop_set, if_neg (by omega), Nat.sub_self, e5]
                  simp [val]
                rw [e4, ← hsum, hc0, ← hdm, Nat.pow_succ]
                grind
              · simp only [decide_eq_false_iff_not] at h6
                have hj : j = -1 := by omega
                subst hj
                refine hK2 _ _ (by simp) ?_
                simp only [show ((-1 : Int) + 1).toNat = 0 from rfl, List.drop_zero, Nat.pow_zero, Nat.one_mul] at hlow hsum
                have hq : val B16 q = a / b := by
                  have h7 : (a * 2 ^ s.toNat) / (b * 2 ^ s.toNat) = a / b := Nat.mul_div_mul_right _ _ hp1
                  rw [← h7, ← hsum, hvv, Nat.add_mul_div_left _ _ hD, Nat.div_eq_of_lt (by rw [← hvv]; exact hlow), Nat.zero_add]
                have hc : val B16 c = a % b * 2 ^ s.toNat := by
                  have h7 : (a * 2 ^ s.toNat) % (b * 2 ^ s.toNat) = a % b * 2 ^ s.toNat := Nat.mul_mod_mul_right _ _ _
                  rw [← h7, ← hsum, hvv, Nat.add_mul_mod_self_left, Nat.mod_eq_of_lt (by rw [← hvv]; exact hlow)]
                have hct : val B16 (c.take v.length) = val B16 c := by
                  have h7 := val_take_drop B16 c v.length (by omega)
                  rcases Nat.eq_zero_or_pos (val B16 (c.drop v.length)) with h | h
                  · rw [h] at h7; omega
                  · have : B16 ^ v.length * 1 ≤ B16 ^ v.length * val B16 (c.drop v.length) := Nat.mul_le_mul_left _ h
                    omega
                refine And.intro (by kernel_rfl) (Or.inr ?_)
                generalize hst : freeze _ = st'
                obtain ⟨y, rfl⟩ : ∃ x, st' = ⟨pat x 0 [none, none, none, none, some (.nil), some (.nil), none, none, some (.int .i64 s), none, some (.words c), some (.int .i64 (List.length v : Nat)), some (.words q), none, none, none, none, none, none, none, none, none, none, none, none, none, none, none, none, none, none, none, none, none, none, none, none, none, none, none, none, none, none, none, none, none, none, none, none, none, none, none, none, none, none, none, none, none, none, none, none, none, none, none, none, none, none, none, none, none, none, none, none, none, none, none, none, none, none, none, none, none, none, none, none, none, none, none, none, none, none, none, none, none, none], [.dead, .dead, .dead]⟩ := hst ▸ (fits (.n (.n (.n (.n (.s rfl (.s rfl (.n (.n (.s rfl (.n (.s rfl (.s rfl (.s rfl (.n (.n (.n (.n (.n (.n (.n (.n (.n (.n (.n (.n (.n (.n (.n (.n (.n (.n (.n (.n (.n (.n (.n (.n (.n (.n (.n (.n (.n (.n (.n (.n (.n (.n (.n (.n (.n (.n (.n (.n (.n (.n (.n (.n (.n (.n (.n (.n (.n (.n (.n (.n (.n (.n (.n (.n (.n (.n (.n (.n (.n (.n (.n (.n (.n (.n (.n (.n (.n (.n (.n (.n (.n (.n (.n (.n (.n (.n (.n (.n (.n (.n .nil))))))))))))))))))))))))))))))))))))))))))))))))))))))))))))))))))))))))))))))))))))))))))))))))
                clear hst
                refine And.intro ⟨hqb, by omega⟩ ?_
                refine And.intro ⟨trivial, by omega, by omega, by (try dsimp only); omega⟩ ?_
                refine And.intro ⟨fun x hx => hcb x (List.mem_of_mem_take (List.mem_of_mem_drop hx)), by simp only [List.length_drop, List.length_take]; omega⟩ ?_
                have hct' : val B16 ((c.take ((v.length : Nat) : Int).toNat).drop 0) = a % b * 2 ^ s.toNat := by
                  rw [List.drop_zero, Int.toNat_natCast, hct, hc]
                have hL : L16 (a % b * 2 ^ s.toNat) ≤ cap30 := by
                  have : L16 (a % b * 2 ^ s.toNat) ≤ c.length := dig_len_le (by decide) (by rw [← hc]; exact val_lt (by decide) hcb)
                  omega
                refine And.intro ⟨hs0, by (try dsimp only); omega, by (try dsimp only); rw [hct']; exact hL⟩ ?_
                show K (.ok (.tup [.n16 (val B16 q), .n16 (val B16 ((c.take ((v.length : Nat) : Int).toNat).drop 0) / 2 ^ s.toNat)]))
                rw [hct', hq, Nat.mul_div_cancel _ hp1]
                exact hK _ ⟨rfl, Sub.refl _⟩
theorem rdiv_holds (F : TypeId) (p : Nat × Nat) (h : 0 < p.2 ∧ nb p.1 ≤ 268435456 ∧ nb p.2 ≤ 268435456) : Holds Tryd.prog F 151 [.n16 p.1, .n16 p.2] (.ok (.tup [.n16 (p.1 / p.2), .n16 (p.1 % p.2)])) :=
  holds_run mixed tbD_ok (envDiv_ok F) Tryd.func151 rfl (by kernel_rfl) (args := [.n16 p.1, .n16 p.2]) (rdiv_wp F p.1 p.2 h.1 h.2.1 h.2.2 _ fun _ hr => hr) (fun _ _ _ _ _ h => h)
def rdivC (F : TypeId) : Con Tryd.prog F :=
  mkCon 151 (enters_of Tryd.func151 (by kernel_rfl) rfl) dec2_16 (fun p => [.n16 p.1, .n16 p.2]) (fun p => 0 < p.2 ∧ nb p.1 ≤ 268435456 ∧ nb p.2 ≤ 268435456) (fun p => .tup [.n16 (p.1 / p.2), .n16 (p.1 % p.2)]) dec2_16_sub (rdiv_holds F)
/-! ### NatGcd -/
noncomputable def envGcd (F : TypeId) : Env := envOf [rdivC F]
theorem envGcd_ok (F : TypeId) : EnvOK Tryd.prog F tb (envGcd F) := envOf_ok _
theorem L16_pos {a : Nat} : 0 < L16 a ↔ 0 < a := by
  unfold L16
  have := dig_nil (B := 65536) (n := a) (by decide)
  constructor
  · intro h
    rcases Nat.eq_zero_or_pos a with e | e
    · subst e; simp [dig16, dig_zero] at h
    · exact e
  · intro h
    rcases Nat.eq_zero_or_pos (dig16 a).length with e | e
    · have := this.1 (List.eq_nil_of_length_eq_zero e); omega
    · exact e
theorem rgcd_wp (F : TypeId) (a b : Nat) (h1 : nb a ≤ 268435456) (h2 : nb b ≤ 268435456) (K : Except Int SV → Prop) (hK : ∀ r, SubE r (.ok (.n16 (Nat.gcd a b))) → K r) :
    wpF tb (envGcd F) (wpDraw tb (envGcd F)) Tryd.f150 [.n16 a, .n16 b] K := by
  show ∃ n, wpLoop _ n _ _
  refine loop_rule (fun m st => ∃ (x0 y0 : Nat), y0 ≤ m ∧ nb x0 ≤ 268435456 ∧ nb y0 ≤ 268435456 ∧ Nat.gcd x0 y0 = Nat.gcd a b ∧ ∃ x, st = ⟨pat x 0 [some (.n16 x0), some (.n16 y0), none, none, some (.nil), none, none, none, none, none, none, none, none, none, none, none, none, none, none], []⟩) ?step (n := b) ?init
  case init => exact ⟨a, b, Nat.le_refl _, h1, h2, rfl, (fits (.s rfl (.s rfl (.n (.n (.s rfl (.n (.n (.n (.n (.n (.n (.n (.n (.n (.n (.n (.n (.n (.n .nil))))))))))))))))))))⟩
  case step =>
    rintro m st K' hK1 hK2 ⟨x0, y0, hm, hx, hy, hg, x, rfl⟩
    have hpos := L16_pos (a := y0)
    unfold L16 at hpos
    refine ifB_mk (fun h => ?_) (fun h => ?_)
    · simp only [decide_eq_true_eq] at h
      have hy0 : 0 < y0 := hpos.1 (by (try dsimp only at h); omega)
      refine And.intro ⟨hy0, hx, hy⟩ ?_
      have hlt := Nat.mod_lt x0 hy0
      exact hK1 (m - 1) _ (by omega) ⟨y0, x0 % y0, by omega, hy, Nat.le_trans (nb_mod _ _) hx, by rw [← hg]; exact (gcd_step x0 y0).symm, (fits (.s rfl (.s rfl (.n (.n (.s rfl (.n (.n (.n (.n (.n (.n (.n (.n (.n (.n (.n (.n (.n (.n .nil))))))))))))))))))))⟩
    · simp only [decide_eq_false_iff_not] at h
      refine hK2 _ _ (by simp) ?_
      show K _
      refine hK _ ?_
      have : y0 = 0 := by
        rcases Nat.eq_zero_or_pos y0 with e | e
        · exact e
        · have := hpos.2 e; (try dsimp only at h); omega
      subst this
      rw [← hg, Nat.gcd_zero_right]
      exact ⟨rfl, Sub.refl _⟩
theorem rgcd_holds (F : TypeId) (p : Nat × Nat) (h : nb p.1 ≤ 268435456 ∧ nb p.2 ≤ 268435456) : Holds Tryd.prog F 150 [.n16 p.1, .n16 p.2] (.ok (.n16 (Nat.gcd p.1 p.2))) :=
  holds_run mixed tb_ok (envGcd_ok F) Tryd.func150 rfl (by kernel_rfl) (args := [.n16 p.1, .n16 p.2]) (rgcd_wp F p.1 p.2 h.1 h.2 _ fun _ hr => hr) (fun _ _ _ _ _ h => h)
def rgcdC (F : TypeId) : Con Tryd.prog F :=
  mkCon 150 (enters_of Tryd.func150 (by kernel_rfl) rfl) dec2_16 (fun p => [.n16 p.1, .n16 p.2]) (fun p => nb p.1 ≤ 268435456 ∧ nb p.2 ≤ 268435456) (fun p => .n16 (Nat.gcd p.1 p.2)) dec2_16_sub (rgcd_holds F)
end Iv
end Go.Proofs.YtfajgibpidlojaaDoor
end

section
/- The words' long division, part B: Div, GCD. Conditions: the divisor is not 0; the sizes. -/
set_option linter.unusedVariables false
set_option linter.unusedSimpArgs false
set_option maxHeartbeats 4000000
set_option maxRecDepth 8000
namespace Go.Proofs.YtfajgibpidlojaaDoor
namespace Iv
open Go Go.Proofs

def tbW : Tb := { ti := tbOf tbl, u := 74, inl := fun f => Nat.beq f 158 }
theorem tbW_ok : TabOK Tryd.prog tbW := tbChk_spec (l := tbl) (by kernel_rfl)
noncomputable def inlDw (f : FuncId) : Option (List SV → List Ob → (SV → List Ob → Prop) → Prop) := match Nat.beq f 158 with
  | true => some (InPlace tbI env0 Tryd.f158)
  | false => none
theorem inlDw_ok {f : FuncId} {k : List SV → List Ob → (SV → List Ob → Prop) → Prop} (h : inlDw f = some k) : Enters Tryd.prog f ∧ ∀ xs os K, k xs os K → InlOK Tryd.prog 74 f xs os K := by
  unfold inlDw at h
  split at h
  · rename_i hb
    have := Nat.eq_of_beq_eq_true hb
    subst this
    simp only [Option.some.injEq] at h
    subst h
    exact ⟨enters_of Tryd.func158 (by kernel_rfl) rfl, fun xs os K hw => inl_ok mixed tbI_ok (env0I_ok 74) rfl Tryd.func158 rfl (by kernel_rfl) hw.run⟩
  · cases h
noncomputable def envDivW (F : TypeId) : Env := { con := conOf [wcmpC F, divsmallC F, smallC F, lz32C F, wshlC F, ofC F, wshrC F], inl := inlDw }
theorem envDivW_ok (F : TypeId) : EnvOK Tryd.prog F tbW (envDivW F) where
  con := fun f xs pre r h => conOf_ok _ f xs pre r h
  inl := fun f k h => inlDw_ok h
  fresh := fun f xs pre l h => by simp [envDivW] at h
theorem over_self {l : List Nat} {k : Nat} (h : l.length ≤ k) : overwrite (List.replicate k 0) l = l ++ List.replicate (k - l.length) 0 := by
  unfold overwrite
  rw [List.take_of_length_le (by simpa using h)]
  congr 1
  simp
theorem wdiv_wp (F : TypeId) (a b : Nat) (hb : 0 < b) (h1 : nb a ≤ 268435456) (h2 : nb b ≤ 268435456) (K : Except Int SV → Prop) (hK : ∀ r, SubE r (.ok (.tup [.n32 (a / b), .n32 (a % b)])) → K r) :
    wpF tbW (envDivW F) (wpDraw tbW (envDivW F)) Tryd.f134 [.n32 a, .n32 b] K := by
  have h30 := c30
  have la : (dig32 a).length ≤ nb a := len32_nb a
  have lb : (dig32 b).length ≤ nb b := len32_nb b
  have hbl : 0 < (dig32 b).length := by
    rcases Nat.eq_zero_or_pos (dig32 b).length with h | h
    · have := (dig_nil (B := 4294967296) (by decide)).1 (List.eq_nil_of_length_eq_zero h)
      omega
    · exact h
  refine And.intro ⟨by unfold L32; (try dsimp only); omega, by unfold L32; (try dsimp only); omega⟩ ?_
  refine ifB_mk (fun h3 => ?_) (fun h3 => ?_)
  · simp only [decide_eq_true_eq, cmpI_lt] at h3
    show K _
    refine hK _ ?_
    rw [Nat.div_eq_of_lt h3, Nat.mod_eq_of_lt h3]
    exact ⟨rfl, Sub.tup (SubL.cons Sub.nil32 (SubL.cons (Sub.refl _) SubL.nil))⟩
  · simp only [decide_eq_false_iff_not, cmpI_lt] at h3
    refine ifB_mk (fun h4 => ?_) (fun h4 => ?_)
    · have h4' : (dig32 b).length = 1 := by
        have : ((dig32 b).length : Int) = 1 := by simpa only [beq_iff_eq] using h4
        omega
      have e0 : (dig32 b).getD (0 : Int).toNat 0 = b := dig_single (by decide) h4'
      have hlt : b < 4294967296 := by
        have := (dig_len_lt (B := 4294967296) (n := b) (k := 1) (by decide)).1 (Nat.le_of_eq h4')
        omega
      refine And.intro (by (try dsimp only); omega) ?_
      refine And.intro ⟨by unfold L32; (try dsimp only); omega, by rw [e0]; (try dsimp only); omega, by rw [e0]; (try dsimp only); omega⟩ ?_
      simp only [e0]
      have hr : (a % b : Nat) < b := Nat.mod_lt _ hb
      refine And.intro ⟨by (try dsimp only); omega, by (try dsimp only); omega⟩ ?_
      show K (.ok (.tup [.n32 (a / ((b : Nat) : Int).toNat), .n32 (((a % ((b : Nat) : Int).toNat : Nat) : Int) % 18446744073709551616).toNat]))
      have e1 : (((a % b : Nat) : Int) % 18446744073709551616).toNat = a % b := by omega
      rw [Int.toNat_natCast, e1]
      exact hK _ ⟨rfl, Sub.refl _⟩
    · have h4' : 2 ≤ (dig32 b).length := by
        have : ¬ ((dig32 b).length : Int) = 1 := by simpa only [beq_eq_false_iff_ne, ne_eq] using h4
        omega
      have htop : 0 < (dig32 b).getD ((dig32 b).length - 1) 0 := last_pos (B := B32) (by decide) hbl
      have htop2 : _ < 4294967296 := getD_lt (B := B32) (by decide) (lt32 b) ((dig32 b).length - 1)
      have e1 : (((dig32 b).length : Int) - 1).toNat = (dig32 b).length - 1 := by omega
      have hnb : nb ((dig32 b).getD ((dig32 b).length - 1) 0) ≤ 32 := nb_le.2 htop2
      have hnb1 : 1 ≤ nb ((dig32 b).getD ((dig32 b).length - 1) 0) := by
        unfold nb; rw [if_neg (by omega)]; omega
      refine And.intro (by (try dsimp only); omega) ?_
      refine And.intro (by (try dsimp only); omega) ?_
      refine And.intro ⟨by (try dsimp only); omega, by (try dsimp only); rw [e1]; omega, trivial⟩ ?_
      dsimp only
      generalize hsd : ((32 : Int) - ((nb (((dig32 b).getD (((dig32 b).length : Int) - 1).toNat 0 : Nat) : Int).toNat : Nat) : Int)) = s
      rw [e1, Int.toNat_natCast] at hsd
      have hs0 : 0 ≤ s := by omega
      have hs1 : s ≤ 31 := by omega
      have hp1 : 0 < 2 ^ s.toNat := Nat.two_pow_pos _
      have hD : 0 < b * 2 ^ s.toNat := Nat.mul_pos hb hp1
      have hlenb : (dig32 (b * 2 ^ s.toNat)).length = (dig32 b).length := by
        refine Nat.le_antisymm ?_ (L32_mono (Nat.le_mul_of_pos_right _ hp1))
        refine dig_len_le (by decide) ?_
        have hv := val_last (B := B32) hbl
        rw [val_dig32] at hv
        have hlow := val_lt (B := B32) (by decide) (l := (dig32 b).take ((dig32 b).length - 1)) fun x hx => lt32 b x (List.mem_of_mem_take hx)
        rw [List.length_take, Nat.min_eq_left (by omega)] at hlow
        have hx := nb_lt ((dig32 b).getD ((dig32 b).length - 1) 0)
        have hpow : 2 ^ nb ((dig32 b).getD ((dig32 b).length - 1) 0) * 2 ^ s.toNat = 4294967296 := by
          rw [← Nat.pow_add, show nb ((dig32 b).getD ((dig32 b).length - 1) 0) + s.toNat = 32 by omega]
        generalize (dig32 b).getD ((dig32 b).length - 1) 0 = x at *
        have h5 : b < B32 ^ ((dig32 b).length - 1) * 2 ^ nb x := by
          have := Nat.mul_le_mul_left (B32 ^ ((dig32 b).length - 1)) (show x + 1 ≤ 2 ^ nb x by omega)
          rw [Nat.mul_add] at this
          omega
        have h6 := Nat.mul_lt_mul_of_pos_right h5 hp1
        rw [Nat.mul_assoc, hpow] at h6
        have h7 : (4294967296 : Nat) ^ (dig32 b).length = B32 ^ ((dig32 b).length - 1) * 4294967296 := by
          rw [← Nat.pow_succ]; congr 1; omega
        rw [h7]
        exact h6
      have hlenA : (dig32 (a * 2 ^ s.toNat)).length ≤ (dig32 a).length + 1 := by
        refine dig_len_le (by decide) ?_
        rw [Nat.pow_succ]
        refine Nat.mul_lt_mul'' ((dig_len_lt (by decide)).1 (Nat.le_refl _)) ?_
        exact Nat.lt_of_le_of_lt (Nat.pow_le_pow_right (n := 2) (by decide) (show s.toNat ≤ 31 by omega)) (by decide)
      have hlenab : (dig32 b).length ≤ (dig32 a).length := L32_mono (by omega)
      refine And.intro ⟨hs0, by omega, by unfold L32; (try dsimp only); omega⟩ ?_
      refine And.intro (by (try dsimp only); omega) ?_
      refine And.intro (by (try dsimp only); omega) ?_
      refine And.intro ⟨hs0, by omega, by unfold L32; (try dsimp only); omega⟩ ?_
      refine And.intro (by simp only [List.length_replicate]; omega) ?_
      refine And.intro (by (try dsimp only); omega) ?_
      refine And.intro (by (try dsimp only); omega) ?_
      refine And.intro (by (try dsimp only); omega) ?_
      refine And.intro (by simp only [List.length_replicate]; omega) ?_
      -- the row that is divided
      have hut : (((dig32 a).length : Int) + 1).toNat = (dig32 a).length + 1 := by omega
      have hu1 := over_self (l := dig32 (a * 2 ^ s.toNat)) (k := (((dig32 a).length : Int) + 1).toNat) (by rw [hut]; exact hlenA)
      have hul : (overwrite (List.replicate (((dig32 a).length : Int) + 1).toNat 0) (dig32 (a * 2 ^ s.toNat))).length = (dig32 a).length + 1 := by rw [hu1, List.length_append, List.length_replicate, hut]; omega
      have huv : val B32 (overwrite (List.replicate (((dig32 a).length : Int) + 1).toNat 0) (dig32 (a * 2 ^ s.toNat))) = a * 2 ^ s.toNat := by rw [hu1, val_append, val_zeros, val_dig32]; omega
      have hub : ∀ x ∈ overwrite (List.replicate (((dig32 a).length : Int) + 1).toNat 0) (dig32 (a * 2 ^ s.toNat)), x < B32 := by
        rw [hu1]
        intro x hx
        rcases List.mem_append.1 hx with hx | hx
        · exact lt32 _ x hx
        · have := List.eq_of_mem_replicate hx; subst this; decide
      have hinit : val B32 ((overwrite (List.replicate (((dig32 a).length : Int) + 1).toNat 0) (dig32 (a * 2 ^ s.toNat))).drop ((dig32 a).length - (dig32 b).length + 1)) < b * 2 ^ s.toNat := by
        rw [← val_div_pow (B := B32) (by decide) hub, huv, Nat.div_lt_iff_lt_mul (Nat.pow_pos (by decide))]
        have h5 : a < B32 ^ (dig32 a).length := (dig_len_lt (B := 4294967296) (by decide)).1 (Nat.le_refl _)
        have h6 : B32 ^ ((dig32 b).length - 1) ≤ b := by
          have := val_ge (B := B32) (by decide) (l := dig32 b) (by intro e; rw [e] at hbl; simp at hbl) (can32 b)
          rwa [val_dig32] at this
        have h7 : B32 ^ (dig32 a).length = B32 ^ ((dig32 b).length - 1) * B32 ^ ((dig32 a).length - (dig32 b).length + 1) := by rw [← Nat.pow_add]; congr 1; omega
        have h8 := Nat.mul_lt_mul_of_pos_right h5 hp1
        rw [h7] at h8
        have h9 : B32 ^ ((dig32 b).length - 1) * B32 ^ ((dig32 a).length - (dig32 b).length + 1) * 2 ^ s.toNat ≤ b * 2 ^ s.toNat * B32 ^ ((dig32 a).length - (dig32 b).length + 1) := by
          rw [Nat.mul_right_comm]
          exact Nat.mul_le_mul_right _ (Nat.mul_le_mul_right _ h6)
        omega
      generalize hu : overwrite (List.replicate (((dig32 a).length : Int) + 1).toNat 0) (dig32 (a * 2 ^ s.toNat)) = u at hul huv hub hinit
      generalize hDd : b * 2 ^ s.toNat = D at hD hlenb hinit
      have hDlt : D < B32 ^ (dig32 b).length := by rw [← hlenb]; exact (dig_len_lt (B := 4294967296) (by decide)).1 (Nat.le_refl _)
      show ∃ n, wpLoop _ n _ _
      refine loop_rule (fun m st => ∃ (j : Int) (c q : List Nat), (m : Int) = j + 1 ∧ -1 ≤ j ∧ j ≤ ((dig32 a).length : Int) - (dig32 b).length ∧ c.length = (dig32 a).length + 1 ∧ (q.length : Int) = (dig32 a).length + 1 - (dig32 b).length ∧ (∀ x ∈ c, x < B32) ∧ (∀ x ∈ q, x < B32) ∧ val B32 (c.drop (j + 1).toNat) < D ∧ val B32 c + B32 ^ (j + 1).toNat * (D * val B32 (q.drop (j + 1).toNat)) = a * 2 ^ s.toNat ∧ ∃ x, st = ⟨pat x 0 [some (.n32 a), some (.n32 b), none, none, some (.nil), some (.nil), none, none, some (.int .i64 s), some (.n32 D), some (.row 0), some (.row 1), some (.int .i64 j), none, none, none, none, none, none, none, none, none, none, none, none, none, none, none, none, none, none, none, none, none, none, none, none, none, none, none, none, none, none, none, none, none, none, none, none, none, none, none, none, none, none, none, none, none, none, none, none, none, none, none, none, none, none, none, none, none, none, none, none, none, none, none, none, none, none, none, none, none, none, none, none], [.row c, .row q]⟩) ?step2 (n := (dig32 a).length + 1 - (dig32 b).length) ?init2
      case init2 =>
        refine ⟨_, u, _, ?_, ?_, ?_, hul, ?_, hub, ?_, ?_, ?_, by rw [← hu, ← hDd]; exact (fits (.s rfl (.s rfl (.n (.n (.s rfl (.s rfl (.n (.n (.s rfl (.s rfl (.s rfl (.s rfl (.s rfl (.n (.n (.n (.n (.n (.n (.n (.n (.n (.n (.n (.n (.n (.n (.n (.n (.n (.n (.n (.n (.n (.n (.n (.n (.n (.n (.n (.n (.n (.n (.n (.n (.n (.n (.n (.n (.n (.n (.n (.n (.n (.n (.n (.n (.n (.n (.n (.n (.n (.n (.n (.n (.n (.n (.n (.n (.n (.n (.n (.n (.n (.n (.n (.n (.n (.n (.n (.n (.n (.n (.n (.n .nil))))))))))))))))))))))))))))))))))))))))))))))))))))))))))))))))))))))))))))))))))))))⟩
        · simp only [List.length_replicate]; omega
        · simp only [List.length_replicate]; omega
        · simp only [List.length_replicate]; omega
        · simp only [List.length_replicate]; omega
        · intro x hx; have := List.eq_of_mem_replicate hx; subst this; decide
        · simp only [List.length_replicate]
          rw [show ((((((dig32 a).length : Int) - (dig32 b).length + 1).toNat : Nat) : Int) - 1 + 1).toNat = (dig32 a).length - (dig32 b).length + 1 by omega]
          exact hinit
        · rw [huv, List.drop_eq_nil_of_le (by simp only [List.length_replicate]; omega)]
          simp [val]
      case step2 =>
        rintro m st K' hK1 hK2 ⟨j, c, q, hm, hj0, hj1, hcl, hql, hcb, hqb, hlow, hsum, x, rfl⟩
        refine ifB_mk (fun h6 => ?_) (fun h6 => ?_)
        · simp only [decide_eq_true_eq] at h6
          have e2 : (j + 1).toNat = j.toNat + 1 := by omega
          rw [e2] at hlow hsum
          obtain ⟨w1, w2, w3⟩ := win_full (B := B32) (by decide) (lo := j.toNat) (n := (dig32 b).length) hcb (by omega) hDlt hlow
          refine And.intro (by (try dsimp only); omega) ?_
          refine And.intro (by (try dsimp only); omega) ?_
          refine And.intro ⟨by omega, by (try dsimp only); omega, by (try dsimp only); omega, by (try dsimp only); omega, by (try dsimp only); omega, by omega⟩ ?_
          refine InPlace.mk (wdigit_wp D c q j.toNat (j + ((dig32 D).length : Nat) + 1).toNat (dig32 b).length (by omega) hlenb (by omega) (by omega) hcb (by omega) w2 _ fun c' hp hcb' hval' => ?_)
          refine And.intro (by (try dsimp only); omega) ?_
          have hQ : val B32 (win c j.toNat ((dig32 b).length + 1)) / D < 4294967296 := (Nat.div_lt_iff_lt_mul hD).2 w2
          have hdm := Nat.div_add_mod (val B32 (win c j.toNat ((dig32 b).length + 1))) D
          have hmod := Nat.mod_lt (val B32 (win c j.toNat ((dig32 b).length + 1))) hD
          obtain ⟨a1, a2⟩ := win_after (by omega) hp hval' w3
          have hc0 := val_take_drop B32 c j.toNat (by omega)
          rw [← w1] at hc0
          generalize val B32 (win c j.toNat ((dig32 b).length + 1)) / D = Q at *
          generalize val B32 (win c j.toNat ((dig32 b).length + 1)) % D = R at *
          refine And.intro ⟨by (try dsimp only); omega, rfl, by omega, by omega⟩ ?_
          refine And.intro (by (try dsimp only); omega) ?_
          have e3 : (j - 1 + 1).toNat = j.toNat := by omega
          refine hK1 (m - 1) _ (by omega) ⟨j - 1, c', _, by omega, by omega, by omega, by rw [hp.len]; exact hcl, by simp only [List.length_set]; exact hql, hcb', set_lt hqb (by simp only [Int.toNat_natCast, B32]; omega), by rw [e3, a1]; exact hmod, ?_, (fits (.s rfl (.s rfl (.n (.n (.s rfl (.s rfl (.n (.n (.s rfl (.s rfl (.s rfl (.s rfl (.s rfl (.n (.n (.n (.n (.n (.n (.n (.n (.n (.n (.n (.n (.n (.n (.n (.n (.n (.n (.n (.n (.n (.n (.n (.n (.n (.n (.n (.n (.n (.n (.n (.n (.n (.n (.n (.n (.n (.n (.n (.n (.n (.n (.n (.n (.n (.n (.n (.n (.n (.n (.n (.n (.n (.n (.n (.n (.n (.n (.n (.n (.n (.n (.n (.n (.n (.n (.n (.n (.n (.n (.n (.n .nil))))))))))))))))))))))))))))))))))))))))))))))))))))))))))))))))))))))))))))))))))))))⟩
          rw [e3, a2, Int.toNat_natCast]
          have e4 : val B32 ((q.set j.toNat Q).drop j.toNat) = Q + B32 * val B32 (q.drop (j.toNat + 1)) := by
            have e5 : q.drop j.toNat = q.getD j.toNat 0 :: q.drop (j.toNat + 1) := by
              rw [List.drop_eq_getElem_cons (by omega)]; simp [List.getD_eq_getElem?_getD, show j.toNat < q.length by omega]
            rw [List.drop_set, if_neg (by omega), Nat.sub_self, e5]
            simp [val]
          rw [e4, ← hsum, hc0, ← hdm, Nat.pow_succ]
          clear hDlt hlow
          generalize B32 ^ j.toNat = P
          generalize val B32 (q.drop (j.toNat + 1)) = X
          generalize val B32 (c.take j.toNat) = Y
          simp only [Nat.mul_add, Nat.mul_assoc, Nat.add_assoc]
          rw [Nat.mul_left_comm B32 D X]
          omega
        · simp only [decide_eq_false_iff_not] at h6
          have hj : j = -1 := by omega
          subst hj
          refine hK2 _ _ (by simp) ?_
          simp only [show ((-1 : Int) + 1).toNat = 0 from rfl, List.drop_zero, Nat.pow_zero, Nat.one_mul] at hlow hsum
          have hq : val B32 q = a / b := by
            have h7 : (a * 2 ^ s.toNat) / (b * 2 ^ s.toNat) = a / b := Nat.mul_div_mul_right _ _ hp1
            rw [← h7, hDd, ← hsum, Nat.add_mul_div_left _ _ hD, Nat.div_eq_of_lt hlow, Nat.zero_add]
          have hc : val B32 c = a % b * 2 ^ s.toNat := by
            have h7 : (a * 2 ^ s.toNat) % (b * 2 ^ s.toNat) = a % b * 2 ^ s.toNat := Nat.mul_mod_mul_right _ _ _
            rw [← h7, hDd, ← hsum, Nat.add_mul_mod_self_left, Nat.mod_eq_of_lt hlow]
          have hL : L32 (val B32 c) ≤ c.length := dig_len_le (by decide) (val_lt (by decide) hcb)
          refine And.intro ⟨hqb, by omega⟩ ?_
          refine And.intro ⟨hcb, by omega⟩ ?_
          refine And.intro ⟨hs0, by omega, by (try dsimp only); omega⟩ ?_
          show K (.ok (.tup [.n32 (val B32 q), .n32 (val B32 c / 2 ^ s.toNat)]))
          rw [hq, hc, Nat.mul_div_cancel _ hp1]
          exact hK _ ⟨rfl, Sub.refl _⟩
theorem wdiv_holds (F : TypeId) (p : Nat × Nat) (h : 0 < p.2 ∧ nb p.1 ≤ 268435456 ∧ nb p.2 ≤ 268435456) : Holds Tryd.prog F 134 [.n32 p.1, .n32 p.2] (.ok (.tup [.n32 (p.1 / p.2), .n32 (p.1 % p.2)])) :=
  holds_run mixed tbW_ok (envDivW_ok F) Tryd.func134 rfl (by kernel_rfl) (args := [.n32 p.1, .n32 p.2]) (wdiv_wp F p.1 p.2 h.1 h.2.1 h.2.2 _ fun _ hr => hr) (fun _ _ _ _ _ h => h)
def wdivC (F : TypeId) : Con Tryd.prog F :=
  mkCon 134 (enters_of Tryd.func134 (by kernel_rfl) rfl) dec2_32 (fun p => [.n32 p.1, .n32 p.2]) (fun p => 0 < p.2 ∧ nb p.1 ≤ 268435456 ∧ nb p.2 ≤ 268435456) (fun p => .tup [.n32 (p.1 / p.2), .n32 (p.1 % p.2)]) dec2_32_sub (wdiv_holds F)
/-! ### GCD -/
noncomputable def envGcdW (F : TypeId) : Env := envOf [wdivC F]
theorem envGcdW_ok (F : TypeId) : EnvOK Tryd.prog F tb (envGcdW F) := envOf_ok _
theorem wgcd_wp (F : TypeId) (a b : Nat) (h1 : nb a ≤ 268435456) (h2 : nb b ≤ 268435456) (K : Except Int SV → Prop) (hK : ∀ r, SubE r (.ok (.n32 (Nat.gcd a b))) → K r) :
    wpF tb (envGcdW F) (wpDraw tb (envGcdW F)) Tryd.f132 [.n32 a, .n32 b] K := by
  show ∃ n, wpLoop _ n _ _
  refine loop_rule (fun m st => ∃ (x0 y0 : Nat), y0 ≤ m ∧ nb x0 ≤ 268435456 ∧ nb y0 ≤ 268435456 ∧ Nat.gcd x0 y0 = Nat.gcd a b ∧ ∃ x, st = ⟨pat x 0 [some (.n32 x0), some (.n32 y0), none, none, some (.nil), none, none, none, none, none, none, none, none, none, none, none, none, none, none], []⟩) ?step (n := b) ?init
  case init => exact ⟨a, b, Nat.le_refl _, h1, h2, rfl, (fits (.s rfl (.s rfl (.n (.n (.s rfl (.n (.n (.n (.n (.n (.n (.n (.n (.n (.n (.n (.n (.n (.n .nil))))))))))))))))))))⟩
  case step =>
    rintro m st K' hK1 hK2 ⟨x0, y0, hm, hx, hy, hg, x, rfl⟩
    have hz := L32_zero (a := y0)
    unfold L32 at hz
    refine ifB_mk (fun h => ?_) (fun h => ?_)
    · simp only [decide_eq_true_eq] at h
      have hy0 : 0 < y0 := by
        rcases Nat.eq_zero_or_pos y0 with e | e
        · have := hz.2 e; (try dsimp only at h); omega
        · exact e
      refine And.intro ⟨hy0, hx, hy⟩ ?_
      have hlt := Nat.mod_lt x0 hy0
      exact hK1 (m - 1) _ (by omega) ⟨y0, x0 % y0, by omega, hy, Nat.le_trans (nb_mod _ _) hx, by rw [← hg]; exact (gcd_step x0 y0).symm, (fits (.s rfl (.s rfl (.n (.n (.s rfl (.n (.n (.n (.n (.n (.n (.n (.n (.n (.n (.n (.n (.n (.n .nil))))))))))))))))))))⟩
    · simp only [decide_eq_false_iff_not] at h
      refine hK2 _ _ (by simp) ?_
      show K _
      refine hK _ ?_
      have : y0 = 0 := hz.1 (by (try dsimp only at h); omega)
      subst this
      rw [← hg, Nat.gcd_zero_right]
      exact ⟨rfl, Sub.refl _⟩
theorem wgcd_holds (F : TypeId) (p : Nat × Nat) (h : nb p.1 ≤ 268435456 ∧ nb p.2 ≤ 268435456) : Holds Tryd.prog F 132 [.n32 p.1, .n32 p.2] (.ok (.n32 (Nat.gcd p.1 p.2))) :=
  holds_run mixed tb_ok (envGcdW_ok F) Tryd.func132 rfl (by kernel_rfl) (args := [.n32 p.1, .n32 p.2]) (wgcd_wp F p.1 p.2 h.1 h.2 _ fun _ hr => hr) (fun _ _ _ _ _ h => h)
def wgcdC (F : TypeId) : Con Tryd.prog F :=
  mkCon 132 (enters_of Tryd.func132 (by kernel_rfl) rfl) dec2_32 (fun p => [.n32 p.1, .n32 p.2]) (fun p => nb p.1 ≤ 268435456 ∧ nb p.2 ≤ 268435456) (fun p => .n32 (Nat.gcd p.1 p.2)) dec2_32_sub (wgcd_holds F)
end Iv
end Go.Proofs.YtfajgibpidlojaaDoor
end

section
/- Plain facts of rational numbers as sign, numerator and denominator: sums, order, grids, sizes. No condition. -/
set_option linter.unusedVariables false
set_option linter.unusedSimpArgs false
namespace Go.Proofs.YtfajgibpidlojaaDoor
namespace Iv

theorem num_split (q : Rat) : q.num = if nB q = true then -(nN q : Int) else (nN q : Int) := by
  unfold nB nN
  split <;> rename_i h <;> simp only [decide_eq_true_eq] at h <;> omega
theorem nB_true {q : Rat} (h : nB q = true) : q.num = -(nN q : Int) := by rw [num_split, if_pos h]
theorem nB_false {q : Rat} (h : nB q = false) : q.num = (nN q : Int) := by rw [num_split, if_neg (by simp [h])]
theorem nN_zero {q : Rat} : nN q = 0 ↔ q = 0 := by unfold nN; rw [Int.natAbs_eq_zero]; exact Rat.num_eq_zero
theorem nB_zero {q : Rat} (h : nN q = 0) : nB q = false := (can_self q).sgn h
theorem rv_true (n d : Nat) : rv true n d = mkRat (-(n : Int)) d := rfl
theorem rv_false (n d : Nat) : rv false n d = mkRat (n : Int) d := rfl
theorem rv_eq {b : Bool} {n d : Nat} {m : Int} (h : (if b = true then -(n : Int) else (n : Int)) = m) : rv b n d = mkRat m d := by unfold rv; rw [h]
/-- Sums. -/
theorem add_same {f g : Rat} (h : nB f = nB g) : rv (nB f) (nN f * g.den + nN g * f.den) (f.den * g.den) = f + g := by
  rw [Rat.add_def']
  refine rv_eq ?_
  cases hf : nB f
  · rw [nB_false hf, nB_false (h ▸ hf)]; simp
  · rw [nB_true hf, nB_true (h ▸ hf)]; simp; grind
theorem add_ge {f g : Rat} (h : nB f ≠ nB g) (hc : nN g * f.den ≤ nN f * g.den) : rv (nB f) (nN f * g.den - nN g * f.den) (f.den * g.den) = f + g := by
  rw [Rat.add_def']
  refine rv_eq ?_
  rw [Int.ofNat_sub hc]
  cases hf : nB f <;> cases hg : nB g
  · rw [hf, hg] at h; exact absurd rfl h
  · rw [nB_false hf, nB_true hg]; simp; grind
  · rw [nB_true hf, nB_false hg]; simp; grind
  · rw [hf, hg] at h; exact absurd rfl h
theorem add_lt {f g : Rat} (h : nB f ≠ nB g) (hc : nN f * g.den ≤ nN g * f.den) : rv (nB g) (nN g * f.den - nN f * g.den) (f.den * g.den) = f + g := by
  rw [Rat.add_def']
  refine rv_eq ?_
  rw [Int.ofNat_sub hc]
  cases hf : nB f <;> cases hg : nB g
  · rw [hf, hg] at h; exact absurd rfl h
  · rw [nB_false hf, nB_true hg]; simp; grind
  · rw [nB_true hf, nB_false hg]; simp; grind
  · rw [hf, hg] at h; exact absurd rfl h
theorem rv_mul (f g : Rat) : rv (nB f != nB g) (nN f * nN g) (f.den * g.den) = f * g := by
  rw [Rat.mul_def']
  refine rv_eq ?_
  cases hf : nB f <;> cases hg : nB g
  · rw [nB_false hf, nB_false hg]; simp
  · rw [nB_false hf, nB_true hg]; simp; grind
  · rw [nB_true hf, nB_false hg]; simp; grind
  · rw [nB_true hf, nB_true hg]; simp; grind
theorem neg_parts (q : Rat) : nB (-q) = (!nB q && !decide (nN q = 0)) ∧ nN (-q) = nN q ∧ (-q).den = q.den := by
  unfold nB nN
  refine ⟨?_, ?_, rfl⟩
  · rw [Rat.neg_num]
    by_cases h1 : q.num < 0
    · have h2 : ¬ -q.num < 0 := by omega
      simp only [h1, h2, decide_true, decide_false, Bool.not_true, Bool.false_and]
    · by_cases h2 : q.num.natAbs = 0
      · have h3 : ¬ -q.num < 0 := by omega
        simp only [h1, h2, h3, decide_true, decide_false, Bool.not_true, Bool.and_false]
      · have h3 : -q.num < 0 := by omega
        simp only [h1, h2, h3, decide_true, decide_false, Bool.not_false, Bool.and_self]
  · rw [Rat.neg_num]; omega
/-- The order. -/
def cmpR (f g : Rat) : Int := if f < g then -1 else if g < f then 1 else 0
def sgR (q : Rat) : Int := if nN q = 0 then 0 else if nB q = true then -1 else 1
theorem cmpI_neg (a b : Nat) : -cmpI a b = cmpI b a := by unfold cmpI; split <;> split <;> omega
theorem cmpI_int (a b : Nat) : cmpI a b = if (a : Int) < b then -1 else if (b : Int) < a then 1 else 0 := by unfold cmpI; simp only [Int.ofNat_lt]
theorem cmpR_num (f g : Rat) : cmpR f g = if f.num * g.den < g.num * f.den then -1 else if g.num * f.den < f.num * g.den then 1 else 0 := by
  unfold cmpR
  simp only [Rat.lt_iff]
theorem cmp_pos {f g : Rat} (hf : nB f = false) (hg : nB g = false) : cmpI (nN f * g.den) (nN g * f.den) = cmpR f g := by
  rw [cmpR_num, nB_false hf, nB_false hg, cmpI_int, Int.natCast_mul, Int.natCast_mul]
theorem cmp_neg {f g : Rat} (hf : nB f = true) (hg : nB g = true) : -cmpI (nN f * g.den) (nN g * f.den) = cmpR f g := by
  rw [cmpR_num, nB_true hf, nB_true hg, cmpI_neg, cmpI_int, Int.natCast_mul, Int.natCast_mul]
  simp only [Int.neg_mul]
  split <;> split <;> (try omega) <;> split <;> (try omega) <;> split <;> omega
theorem sgR_num (q : Rat) : sgR q = if q.num = 0 then 0 else if q.num < 0 then -1 else 1 := by
  unfold sgR nN nB
  simp only [Int.natAbs_eq_zero, decide_eq_true_eq]
theorem sg_lt {f g : Rat} (h : sgR f < sgR g) : cmpR f g = -1 := by
  rw [cmpR_num, if_pos]
  have h1 : (0 : Int) < f.den := by have := f.den_pos; omega
  have h2 : (0 : Int) < g.den := by have := g.den_pos; omega
  rw [sgR_num, sgR_num] at h
  have key : f.num ≤ 0 ∧ 0 ≤ g.num ∧ (f.num < 0 ∨ 0 < g.num) := by
    split at h <;> split at h <;> (try split at h) <;> (try split at h) <;> omega
  obtain ⟨k1, k2, k3⟩ := key
  rcases k3 with k3 | k3
  · have a1 : f.num * g.den < 0 := Int.mul_neg_of_neg_of_pos k3 h2
    have a2 : 0 ≤ g.num * f.den := Int.mul_nonneg k2 (by omega)
    omega
  · have a1 : f.num * g.den ≤ 0 := Int.mul_nonpos_of_nonpos_of_nonneg k1 (by omega)
    have a2 : 0 < g.num * f.den := Int.mul_pos k3 h1
    omega
theorem cmpR_swap (f g : Rat) : cmpR f g = -cmpR g f := by
  unfold cmpR
  by_cases h1 : f < g
  · have h2 : ¬ g < f := fun h => (Rat.lt_iff_le_and_not_ge.1 h1).2 (Rat.le_of_lt h)
    simp [h1, h2]
  · by_cases h2 : g < f <;> simp [h1, h2]
theorem sg_gt {f g : Rat} (h : sgR g < sgR f) : cmpR f g = 1 := by rw [cmpR_swap, sg_lt h]; rfl
theorem sg_same {f g : Rat} (h : sgR f = sgR g) : nB f = nB g ∨ (nN f = 0 ∧ nN g = 0) := by
  unfold sgR at h
  by_cases a : nN f = 0 <;> by_cases b : nN g = 0 <;> cases c : nB f <;> cases d : nB g <;> simp [a, b, c, d] at h ⊢
theorem sg_nB {f g : Rat} (h : sgR f = sgR g) : nB f = nB g := by
  rcases sg_same h with h | ⟨a, b⟩
  · exact h
  · rw [nB_zero a, nB_zero b]
/-! ### Grids -/
theorem floor_mkRat (n : Int) {d : Nat} (hd : 0 < d) : (mkRat n d).floor = n / d := by
  rw [Rat.floor_def, Rat.num_mkRat, Rat.den_mkRat, if_neg (by omega), if_neg (by omega)]
  have hg : 0 < Nat.gcd d n.natAbs := Nat.gcd_pos_of_pos_left _ hd
  have e1 : n = (n / (Nat.gcd d n.natAbs : Nat)) * (Nat.gcd d n.natAbs : Nat) := by
    refine (Int.ediv_mul_cancel ?_).symm
    exact Int.ofNat_dvd_left.2 (Nat.gcd_dvd_right d n.natAbs)
  have e2 : d = d / Nat.gcd d n.natAbs * Nat.gcd d n.natAbs := (Nat.div_mul_cancel (Nat.gcd_dvd_left d n.natAbs)).symm
  conv => rhs; rw [e1]
  conv => rhs; rhs; rw [e2]
  rw [Int.natCast_mul, Int.mul_ediv_mul_of_pos_left _ _ (by omega)]
/-- The grid's numbers. -/
def gridR (up : Bool) (p : Nat) (q : Rat) : Rat := mkRat (if up = true then -((-(q.num * 2 ^ p)) / q.den) else q.num * 2 ^ p / q.den) (2 ^ p)
theorem grid_parts (up : Bool) (p : Nat) (q : Rat) :
    rv (nB q) (if (up != nB q) = true ∧ nN q * 2 ^ p % q.den ≠ 0 then nN q * 2 ^ p / q.den + 1 else nN q * 2 ^ p / q.den) (2 ^ p) = gridR up p q := by
  have hd := q.den_pos
  unfold gridR
  refine rv_eq ?_
  have e1 : (nN q * 2 ^ p : Nat) = (nN q : Int) * 2 ^ p := by simp
  have h1 := Nat.div_add_mod (nN q * 2 ^ p) q.den
  have h2 := Nat.mod_lt (nN q * 2 ^ p) hd
  -- the quotient of the opposite
  have neg : (-((nN q : Int) * 2 ^ p)) / (q.den : Int) = -((if nN q * 2 ^ p % q.den ≠ 0 then nN q * 2 ^ p / q.den + 1 else nN q * 2 ^ p / q.den : Nat) : Int) := by
    rw [← e1]
    generalize hA : nN q * 2 ^ p = A at *
    generalize hQ : A / q.den = Q at *
    generalize hR : A % q.den = R at *
    have hA' : (A : Int) = q.den * Q + R := by rw [← h1]; simp
    split
    · have : (-(A : Int)) = (-((Q + 1 : Nat) : Int)) * q.den + ((q.den : Int) - R) := by rw [hA']; simp; grind
      rw [this, Int.mul_comm, Int.mul_add_ediv_left _ _ (by omega), Int.ediv_eq_zero_of_lt (by omega) (by omega)]
      simp
    · have hR0 : R = 0 := by omega
      have : (-(A : Int)) = (-(Q : Int)) * q.den := by rw [hA', hR0]; simp; grind
      rw [this, Int.mul_ediv_cancel _ (by omega)]
  have pos : ((nN q : Int) * 2 ^ p) / (q.den : Int) = ((nN q * 2 ^ p / q.den : Nat) : Int) := by rw [← e1]; simp
  cases hb : nB q
  · rw [nB_false hb]
    cases up
    · simp only [Bool.false_eq_true, if_false, bne_self_eq_false, false_and]
      rw [pos]
    · simp only [Bool.false_eq_true, if_false, if_true]
      rw [neg]
      simp
  · rw [nB_true hb]
    cases up
    · simp only [Bool.false_eq_true, if_false, if_true, Int.neg_mul]
      rw [neg]
      simp
    · simp only [if_true, bne_self_eq_false, Bool.false_eq_true, false_and, if_false, Int.neg_mul, Int.neg_neg]
      rw [pos]
/-! ### Sizes -/
structure Bd (k : Nat) (q : Rat) : Prop where
  num : nb (nN q) ≤ k
  den : nb q.den ≤ k
theorem Bd.mono {k l : Nat} {q : Rat} (h : Bd k q) (hl : k ≤ l) : Bd l q := ⟨Nat.le_trans h.num hl, Nat.le_trans h.den hl⟩
theorem bd_rv {b : Bool} {n d k : Nat} (hd : 0 < d) (h1 : nb n ≤ k) (h2 : nb d ≤ k) : Bd k (rv b n d) := by
  obtain ⟨e1, e2⟩ := rv_num (b := b) (n := n) hd
  refine ⟨Nat.le_trans (nb_mono ?_) h1, Nat.le_trans (nb_mono ?_) h2⟩
  · unfold nN
    rw [e1, Int.natAbs_ediv_of_dvd]
    · have : (if b = true then -(n : Int) else (n : Int)).natAbs = n := by split <;> omega
      rw [this]
      exact Nat.div_le_self _ _
    · have h := Nat.gcd_dvd_left n d
      split
      · exact Int.dvd_neg.2 (Int.ofNat_dvd.2 h)
      · exact Int.ofNat_dvd.2 h
  · rw [e2]; exact Nat.div_le_self _ _
theorem Bd.neg {k : Nat} {q : Rat} (h : Bd k q) : Bd k (-q) := ⟨by rw [(neg_parts q).2.1]; exact h.num, by rw [(neg_parts q).2.2]; exact h.den⟩
theorem Bd.add {k l : Nat} {f g : Rat} (h : Bd k f) (h' : Bd l g) : Bd (k + l + 1) (f + g) := by
  have hd : 0 < f.den * g.den := Nat.mul_pos f.den_pos g.den_pos
  have n1 : nb (f.den * g.den) ≤ k + l := Nat.le_trans (nb_mul _ _) (Nat.add_le_add h.den h'.den)
  have n2 : nb (nN f * g.den) ≤ k + l := Nat.le_trans (nb_mul _ _) (Nat.add_le_add h.num h'.den)
  have n3 : nb (nN g * f.den) ≤ k + l := Nat.le_trans (nb_mul _ _) (by have := h.den; have := h'.num; omega)
  by_cases e : nB f = nB g
  · rw [← add_same e]
    exact bd_rv hd (nb_add_le n2 n3) (by omega)
  · rcases Nat.le_total (nN g * f.den) (nN f * g.den) with hc | hc
    · rw [← add_ge e hc]
      exact bd_rv hd (by have := nb_sub (nN f * g.den) (nN g * f.den); omega) (by omega)
    · rw [← add_lt e hc]
      exact bd_rv hd (by have := nb_sub (nN g * f.den) (nN f * g.den); omega) (by omega)
theorem Bd.mul {k l : Nat} {f g : Rat} (h : Bd k f) (h' : Bd l g) : Bd (k + l) (f * g) := by
  rw [← rv_mul]
  exact bd_rv (Nat.mul_pos f.den_pos g.den_pos) (Nat.le_trans (nb_mul _ _) (Nat.add_le_add h.num h'.num)) (Nat.le_trans (nb_mul _ _) (Nat.add_le_add h.den h'.den))
theorem Bd.grid {k : Nat} {q : Rat} (h : Bd k q) (up : Bool) (p : Nat) : Bd (k + p + 1) (gridR up p q) := by
  rw [← grid_parts]
  have h1 : nb (nN q * 2 ^ p / q.den) ≤ k + p := Nat.le_trans (nb_div _ _) (Nat.le_trans (nb_shl _ _) (by have := h.num; omega))
  refine bd_rv (Nat.two_pow_pos p) ?_ (Nat.le_trans (nb_pow2 p) (by omega))
  split
  · exact nb_add_le h1 (by rw [nb_one]; have := nb_pos (Nat.two_pow_pos p); have h3 := h.den; have h4 : 1 ≤ nb q.den := by
                             have := q.den_pos
                             unfold nb; rw [if_neg (by omega)]; omega
                           omega)
  · omega
end Iv
end Go.Proofs.YtfajgibpidlojaaDoor
end

section
/- Contracts, part T: slices.Clone. Conditions: the list is no longer than cap30. -/
set_option linter.unusedVariables false
set_option linter.unusedSimpArgs false
set_option maxHeartbeats 2000000
set_option maxRecDepth 4000
namespace Go.Proofs.YtfajgibpidlojaaDoor
namespace Iv
open Go Go.Proofs

theorem clone_wp (l : List Nat) (h1 : l.length ≤ cap30) (K : Except Int SV → Prop) (hK : ∀ r, SubE r (.ok (.words l)) → K r) :
    wpF tb env0 (wpDraw tb env0) Tryd.f137 [.words l] K := by
  cases l with
  | nil =>
    refine And.intro ?_ ?_
    · show K _
      refine hK _ ?_
      exact ⟨rfl, Sub.nil_words⟩
    · refine And.intro (by decide) ?_
      show K _
      refine hK _ ?_
      exact ⟨rfl, Sub.refl _⟩
  | cons x xs =>
    refine And.intro (by simpa using h1) ?_
    show K _
    refine hK _ ?_
    exact ⟨rfl, Sub.refl _⟩
theorem clone_holds (F : TypeId) (a : Nat) (h : L32 a ≤ cap30) : Holds Tryd.prog F 137 [.n32 a] (.ok (.n32 a)) :=
  holds_run mixed tb_ok (env0_ok F) Tryd.func137 rfl (by kernel_rfl) (args := [.words (dig32 a)]) (clone_wp _ h _ fun _ hr => by
    cases ‹Except Int SV› with
    | ok x => exact ⟨rfl, hr.2.trans (Sub.w32 a)⟩
    | error e => exact hr.elim) (SubL.cons (Sub.of32 a) SubL.nil)
def cloneC (F : TypeId) : Con Tryd.prog F :=
  mkCon 137 (enters_of Tryd.func137 (by kernel_rfl) rfl) dec_32 (fun a => [.n32 a]) (fun a => L32 a ≤ cap30) (fun a => .n32 a) dec_32_sub (clone_holds F)
end Iv
end Go.Proofs.YtfajgibpidlojaaDoor
end

section
/- Contracts of the words' fractions, part A: the table of types; Reduce. Conditions: the denominator is not 0; the sizes. -/
set_option linter.unusedVariables false
set_option linter.unusedSimpArgs false
set_option maxHeartbeats 4000000
set_option maxRecDepth 8000
namespace Go.Proofs.YtfajgibpidlojaaDoor
namespace Iv
open Go Go.Proofs

def frTi : Ti := { row := true, zero := [.bool false, .nil, .nil], offs := [(0, 1, false), (1, 1, false), (2, 1, false)], ik := none }
def ivTi : Ti := { row := true, zero := [.bool false, .nil, .nil, .bool false, .nil, .nil, .bool false, .bool false], offs := [(0, 3, true), (3, 3, true), (6, 1, false), (7, 1, false)], ik := none }
def seTi : Ti := { row := true, zero := [.bool false, .nil, .nil, .bool false, .nil, .nil, .bool false, .bool false, .bool false], offs := [(0, 3, true), (3, 3, true), (6, 1, false), (7, 1, false), (8, 1, false)], ik := none }
def tblX : List (TypeId × Ti) := (57, frTi) :: (24, frTi) :: (65, frTi) :: (26, ivTi) :: (59, seTi) :: (67, seTi) :: (27, sc .i64) :: tbl
def tbX : Tb := { ti := tbOf tblX, u := 74, inl := fun _ => false }
theorem tbX_ok : TabOK Tryd.prog tbX := tbChk_spec (l := tblX) (by kernel_rfl)
theorem env0X_ok (F : TypeId) : EnvOK Tryd.prog F tbX env0 := ⟨fun f xs pre r h => by simp [env0] at h, fun f k h => by simp [env0] at h, fun f xs pre l h => by simp [env0] at h⟩
/-- How far sizes go. -/
def cb : Nat := 268435456
theorem cb_eq : cb = 268435456 := rfl
/-- A fraction's value. -/
def sF (q : Rat) : SV := .agg [.bool (nB q), .n32 (nN q), .n32 q.den]
theorem sF_of {b : Bool} {x y : Nat} {q : Rat} (h : Can b x y) (e : rv b x y = q) : sF q = .agg [.bool b, .n32 x, .n32 y] := by
  subst e
  obtain ⟨e1, e2, e3⟩ := rv_parts h
  simp only [sF, e1, e2, e3]
theorem sF_zero : sF 0 = .agg [.bool false, .n32 0, .n32 1] := sF_of (b := false) (x := 0) (y := 1) ⟨by decide, by decide, fun _ => rfl⟩ (rv_zero _ _)
theorem capL32 {n : Nat} (h : nb n ≤ cb) : L32 n ≤ cap30 := by
  have := L32_le_nb n
  have h1 := c30
  have h2 := cb_eq
  omega
noncomputable def envRed (F : TypeId) : Env := envOf [zeroC F, smallC F, twosC F, wshrC F, bitsC F, wgcdC F, oneC F, wdivC F]
theorem envRed_ok (F : TypeId) : EnvOK Tryd.prog F tbX (envRed F) := envOf_ok _
theorem reduce_wp (F : TypeId) (b : Bool) (n d : Nat) (hd : 0 < d) (h1 : nb n ≤ cb) (h2' : nb d ≤ cb) (K : Except Int SV → Prop) (hK : ∀ r, SubE r (.ok (sF (rv b n d))) → K r) :
    wpF tbX (envRed F) (wpDraw tbX (envRed F)) Tryd.f80 [.bool b, .n32 n, .n32 d] K := by
  have h30 := c30
  have hcb := cb_eq
  -- an end
  have fin : ∀ x y : Nat, Can b x y → rv b x y = rv b n d → K (.ok (.agg [.bool b, .n32 x, .n32 y])) := by
    intro x y hc he
    refine hK _ ?_
    rw [sF_of hc he]
    exact ⟨rfl, Sub.refl _⟩
  have rest : ∀ (n' d' : Nat) (s : St), 0 < n' → 0 < d' → nb n' ≤ cb → nb d' ≤ cb → (tz n' = 0 ∨ tz d' = 0) → rv b n' d' = rv b n d → (∃ x, s = ⟨patQ x [.k (.bool b), .k (.n32 n'), .k (.n32 d'), .u 3, .u 4, .u 5, .k (.ptr 0 0), .u 7, .u 8, .u 9, .u 10, .u 11, .u 12, .u 13, .u 14, .u 15, .u 16, .u 17, .u 18, .u 19, .u 20, .u 21, .u 22, .u 23, .u 24, .u 25, .u 26, .u 27, .u 28, .u 29, .u 30, .u 31, .u 32, .u 33, .u 34, .u 35, .u 36, .u 37, .u 38, .u 39, .u 40, .u 41, .u 42, .u 43, .u 44, .u 45, .u 46, .u 47, .u 48, .u 49, .u 50, .u 51, .u 52, .u 53], [.var 57 [.bool false, .nil, .nil]]⟩) →
      wpC tbX (envRed F) (wpDraw tbX (envRed F)) (fun e => K (.error e)) (tl (tl (tl (codeOf Tryd.f80)))) s (fun e st => match e with
        | .exit _ => False
        | _ => match resOf tbX st Tryd.f80.results.toList with
          | some x => match outOf st.os x with
            | some y => K (.ok y)
            | none => False
          | none => False) := by
    rintro n' d' s hn hd' hn1 hd1 ht hv ⟨x, rfl⟩
    refine And.intro (capL32 hd1) ?_
    refine And.intro (capL32 hd1) ?_
    refine And.intro (by (try dsimp only); omega) ?_
    have hnbp : 0 < nb d' := by unfold nb; rw [if_neg (by omega)]; omega
    refine ifB_mk (fun h => ?_) (fun h => ?_)
    · refine And.intro ⟨by (try dsimp only); omega, by (try dsimp only); omega⟩ ?_
      have hg : 0 < Nat.gcd n' d' := Nat.gcd_pos_of_pos_left _ hn
      have hgl : nb (Nat.gcd n' d') ≤ cb := Nat.le_trans (nb_mono (Nat.gcd_le_left _ hn)) hn1
      refine And.intro trivial ?_
      refine ifB_mk (fun h3 => ?_) (fun h3 => ?_)
      · refine And.intro ⟨hg, by (try dsimp only); omega, by (try dsimp only); omega⟩ ?_
        refine And.intro ⟨hg, by (try dsimp only); omega, by (try dsimp only); omega⟩ ?_
        obtain ⟨c1, c2⟩ := rv_gcd (b := b) hn hd'
        exact fin _ _ c1 (c2.trans hv)
      · have h3' : Nat.gcd n' d' = 1 := by simpa using h3
        exact fin n' d' ⟨hd', h3', fun e => by omega⟩ hv
    · have h' : tz d' = nb d' - 1 := by
        have h0 : ((tz d' : Nat) : Int) = (nb d' : Nat) - 1 := by simpa only [bne_eq_false_iff_eq] using h
        omega
      have hp := pow2_iff hd' h'
      refine fin n' d' ⟨hd', ?_, fun e => by omega⟩ hv
      rcases ht with ht | ht
      · rw [hp]; exact odd_coprime_pow2 (tz_zero_odd hn ht)
      · rw [hp, ht, Nat.pow_zero, Nat.gcd_one_right]
  refine And.intro trivial ?_
  refine ifB_mk (fun h => ?_) (fun h => ?_)
  · have h0 : n = 0 := by simpa using h
    refine And.intro ⟨by decide, by decide⟩ ?_
    show K _
    refine hK _ ?_
    subst h0
    rw [rv_zero, sF_zero]
    exact ⟨rfl, Sub.agg (SubL.cons (Sub.refl _) (SubL.cons Sub.nil32 (SubL.cons (Sub.refl _) SubL.nil)))⟩
  · have h0 : 0 < n := by
      have : ¬ n = 0 := by simpa using h
      omega
    refine And.intro (capL32 h1) ?_
    refine And.intro (capL32 h2') ?_
    have t1 := tz_lt_nb h0
    have t2 := tz_lt_nb hd
    obtain ⟨k, hk⟩ : ∃ k, (if ((tz d : Nat) : Int) < ((tz n : Nat) : Int) then ((tz d : Nat) : Int) else ((tz n : Nat) : Int)) = k := ⟨_, rfl⟩
    have hk1 : k.toNat ≤ tz n ∧ k.toNat ≤ tz d ∧ 0 ≤ k ∧ k < 1099511627776 ∧ (k.toNat = tz n ∨ k.toNat = tz d) := by
      split at hk <;> omega
    have hz : k ≤ 0 → tz n = 0 ∨ tz d = 0 := by intro h; omega
    have hsc : rv b (n / 2 ^ k.toNat) (d / 2 ^ k.toNat) = rv b n d ∧ 0 < n / 2 ^ k.toNat ∧ 0 < d / 2 ^ k.toNat ∧ (tz (n / 2 ^ k.toNat) = 0 ∨ tz (d / 2 ^ k.toNat) = 0) := by
      obtain ⟨n1, n2, n3⟩ := tz_div h0 hk1.1
      obtain ⟨d1, d2, d3⟩ := tz_div hd hk1.2.1
      refine ⟨?_, n3, d3, by omega⟩
      have h5 := rv_scale (b := b) (n := n / 2 ^ k.toNat) (d := d / 2 ^ k.toNat) (Nat.two_pow_pos k.toNat)
      rw [← n1, ← d1] at h5
      exact h5.symm
    subst hk
    refine ifB_mk (fun h2 => ?_) (fun h2 => ?_)
    · refine And.intro ⟨hk1.2.2.1, hk1.2.2.2.1, capL32 h1⟩ ?_
      refine And.intro ⟨hk1.2.2.1, hk1.2.2.2.1, capL32 h2'⟩ ?_
      show wpC _ _ _ _ _ _ _
      refine rest _ _ _ hsc.2.1 hsc.2.2.1 (Nat.le_trans (nb_div _ _) h1) (Nat.le_trans (nb_div _ _) h2') hsc.2.2.2 hsc.1 ?_
      exact (fitsQ (.s rfl (.s rfl (.s rfl (.n rfl (.n rfl (.n rfl (.s rfl (.n rfl (.n rfl (.n rfl (.n rfl (.n rfl (.n rfl (.n rfl (.n rfl (.n rfl (.n rfl (.n rfl (.n rfl (.n rfl (.n rfl (.n rfl (.n rfl (.n rfl (.n rfl (.n rfl (.n rfl (.n rfl (.n rfl (.n rfl (.n rfl (.n rfl (.n rfl (.n rfl (.n rfl (.n rfl (.n rfl (.n rfl (.n rfl (.n rfl (.n rfl (.n rfl (.n rfl (.n rfl (.n rfl (.n rfl (.n rfl (.n rfl (.n rfl (.n rfl (.n rfl (.n rfl (.n rfl (.n rfl .nil)))))))))))))))))))))))))))))))))))))))))))))))))))))))
    · simp only [decide_eq_false_iff_not] at h2
      refine rest n d _ h0 hd h1 h2' (hz (Int.not_lt.1 h2)) rfl ?_
      exact (fitsQ (.s rfl (.s rfl (.s rfl (.n rfl (.n rfl (.n rfl (.s rfl (.n rfl (.n rfl (.n rfl (.n rfl (.n rfl (.n rfl (.n rfl (.n rfl (.n rfl (.n rfl (.n rfl (.n rfl (.n rfl (.n rfl (.n rfl (.n rfl (.n rfl (.n rfl (.n rfl (.n rfl (.n rfl (.n rfl (.n rfl (.n rfl (.n rfl (.n rfl (.n rfl (.n rfl (.n rfl (.n rfl (.n rfl (.n rfl (.n rfl (.n rfl (.n rfl (.n rfl (.n rfl (.n rfl (.n rfl (.n rfl (.n rfl (.n rfl (.n rfl (.n rfl (.n rfl (.n rfl (.n rfl .nil)))))))))))))))))))))))))))))))))))))))))))))))))))))))
def dec_red : List SV → Option (Bool × Nat × Nat)
  | [.bool b, x, y] => match asN32 x, asN32 y with
    | some n, some d => some (b, n, d)
    | _, _ => none
  | _ => none
theorem dec_red_sub (xs : List SV) (p : Bool × Nat × Nat) (h : dec_red xs = some p) : SubL xs [.bool p.1, .n32 p.2.1, .n32 p.2.2] := by
  unfold dec_red at h
  split at h
  · split at h
    · rename_i b x y n d hn hd
      simp only [Option.some.injEq] at h
      subst h
      exact SubL.cons (Sub.refl _) (SubL.cons (asN32_sub hn) (SubL.cons (asN32_sub hd) SubL.nil))
    · cases h
  · cases h
theorem reduce_holds (F : TypeId) (p : Bool × Nat × Nat) (h : 0 < p.2.2 ∧ nb p.2.1 ≤ cb ∧ nb p.2.2 ≤ cb) : Holds Tryd.prog F 80 [.bool p.1, .n32 p.2.1, .n32 p.2.2] (.ok (sF (rv p.1 p.2.1 p.2.2))) :=
  holds_run mixed tbX_ok (envRed_ok F) Tryd.func80 rfl (by kernel_rfl) (args := [.bool p.1, .n32 p.2.1, .n32 p.2.2]) (reduce_wp F p.1 p.2.1 p.2.2 h.1 h.2.1 h.2.2 _ fun _ hr => hr) (fun _ _ _ _ _ h => h)
def reduceC (F : TypeId) : Con Tryd.prog F :=
  mkCon 80 (enters_of Tryd.func80 (by kernel_rfl) rfl) dec_red (fun p => [.bool p.1, .n32 p.2.1, .n32 p.2.2]) (fun p => 0 < p.2.2 ∧ nb p.2.1 ≤ cb ∧ nb p.2.2 ≤ cb) (fun p => sF (rv p.1 p.2.1 p.2.2)) dec_red_sub (reduce_holds F)
end Iv
end Go.Proofs.YtfajgibpidlojaaDoor
end

section
/- Contracts of the words' fractions, part B: Opposite, Sign, Fits, Give, Int. Conditions: the sizes. -/
set_option linter.unusedVariables false
set_option linter.unusedSimpArgs false
set_option maxHeartbeats 4000000
set_option maxRecDepth 8000
namespace Go.Proofs.YtfajgibpidlojaaDoor
namespace Iv
open Go Go.Proofs

def decF : List SV → Option (Bool × Nat × Nat)
  | [.agg [.bool b, x, y]] => match asN32 x, asN32 y with
    | some n, some d => some (b, n, d)
    | _, _ => none
  | _ => none
theorem decF_sub (xs : List SV) (p : Bool × Nat × Nat) (h : decF xs = some p) : SubL xs [.agg [.bool p.1, .n32 p.2.1, .n32 p.2.2]] := by
  unfold decF at h
  split at h
  · split at h
    · rename_i b x y n d hn hd
      simp only [Option.some.injEq] at h
      subst h
      exact SubL.cons (Sub.agg (SubL.cons (Sub.refl _) (SubL.cons (asN32_sub hn) (SubL.cons (asN32_sub hd) SubL.nil)))) SubL.nil
    · cases h
  · cases h
noncomputable def envZ (F : TypeId) : Env := envOf [zeroC F]
theorem envZ_ok (F : TypeId) : EnvOK Tryd.prog F tbX (envZ F) := envOf_ok _
theorem opp_wp (F : TypeId) (b : Bool) (n d : Nat) (K : Except Int SV → Prop) (hK : ∀ r, SubE r (.ok (.agg [.bool (!b && !decide (n = 0)), .n32 n, .n32 d])) → K r) :
    wpF tbX (envZ F) (wpDraw tbX (envZ F)) Tryd.f117 [.agg [.bool b, .n32 n, .n32 d]] K := by
  cases b
  · refine And.intro trivial ?_
    show K (.ok (.agg [.bool (!decide (n = 0)), .n32 n, .n32 d]))
    exact hK _ ⟨rfl, Sub.refl _⟩
  · show K (.ok (.agg [.bool false, .n32 n, .n32 d]))
    exact hK _ ⟨rfl, Sub.refl _⟩
theorem opp_holds (F : TypeId) (p : Bool × Nat × Nat) (h : True) : Holds Tryd.prog F 117 [.agg [.bool p.1, .n32 p.2.1, .n32 p.2.2]] (.ok (.agg [.bool (!p.1 && !decide (p.2.1 = 0)), .n32 p.2.1, .n32 p.2.2])) :=
  holds_run mixed tbX_ok (envZ_ok F) Tryd.func117 rfl (by kernel_rfl) (args := [.agg [.bool p.1, .n32 p.2.1, .n32 p.2.2]]) (opp_wp F p.1 p.2.1 p.2.2 _ fun _ hr => hr) (fun _ _ _ _ _ h => h)
def oppC (F : TypeId) : Con Tryd.prog F :=
  mkCon 117 (enters_of Tryd.func117 (by kernel_rfl) rfl) decF (fun p => [.agg [.bool p.1, .n32 p.2.1, .n32 p.2.2]]) (fun _ => True) (fun p => .agg [.bool (!p.1 && !decide (p.2.1 = 0)), .n32 p.2.1, .n32 p.2.2]) decF_sub (opp_holds F)
/-! ### Sign -/
def sgZ (b : Bool) (n : Nat) : Int := if n = 0 then 0 else if b = true then -1 else 1
theorem sign_wp (F : TypeId) (b : Bool) (n d : Nat) (K : Except Int SV → Prop) (hK : ∀ r, SubE r (.ok (.int .i64 (sgZ b n))) → K r) :
    wpF tbX (envZ F) (wpDraw tbX (envZ F)) Tryd.f96 [.agg [.bool b, .n32 n, .n32 d]] K := by
  refine And.intro trivial ?_
  refine ifB_mk (fun h => ?_) (fun h => ?_)
  · have h0 : n = 0 := by simpa using h
    show K _
    refine hK _ ?_
    subst h0
    exact ⟨rfl, Sub.refl _⟩
  · have h0 : ¬ n = 0 := by simpa using h
    have e : sgZ b n = if b = true then -1 else 1 := by unfold sgZ; rw [if_neg h0]
    rw [e] at hK
    cases b
    · show K (.ok (.int .i64 1))
      exact hK _ ⟨rfl, Sub.refl _⟩
    · show K (.ok (.int .i64 (-1)))
      exact hK _ ⟨rfl, Sub.refl _⟩
theorem sign_holds (F : TypeId) (p : Bool × Nat × Nat) (h : True) : Holds Tryd.prog F 96 [.agg [.bool p.1, .n32 p.2.1, .n32 p.2.2]] (.ok (.int .i64 (sgZ p.1 p.2.1))) :=
  holds_run mixed tbX_ok (envZ_ok F) Tryd.func96 rfl (by kernel_rfl) (args := [.agg [.bool p.1, .n32 p.2.1, .n32 p.2.2]]) (sign_wp F p.1 p.2.1 p.2.2 _ fun _ hr => hr) (fun _ _ _ _ _ h => h)
def signC (F : TypeId) : Con Tryd.prog F :=
  mkCon 96 (enters_of Tryd.func96 (by kernel_rfl) rfl) decF (fun p => [.agg [.bool p.1, .n32 p.2.1, .n32 p.2.2]]) (fun _ => True) (fun p => .int .i64 (sgZ p.1 p.2.1)) decF_sub (sign_holds F)
/-! ### Fits -/
def fit (n d : Nat) : Bool := decide (nb n ≤ 2048 ∧ nb d ≤ 2048)
theorem fits_wp (b : Bool) (n d : Nat) (K : Except Int SV → Prop) (hK : ∀ r, SubE r (.ok (.bool (fit n d))) → K r) :
    wpF tbX env0 (wpDraw tbX env0) Tryd.f136 [.agg [.bool b, .n32 n, .n32 d]] K := by
  have e1 := len32_iff n 64
  have e2 := len32_iff d 64
  refine ifB_mk (fun h => ?_) (fun h => ?_)
  · have h1 : (dig32 n).length ≤ 64 := by
      simp only [decide_eq_true_eq] at h
      (try dsimp only at h); omega
    show K (.ok (.bool (decide (((dig32 d).length : Int) ≤ 64))))
    refine hK _ ⟨rfl, ?_⟩
    rw [show decide (((dig32 d).length : Int) ≤ 64) = fit n d by
      unfold fit
      rw [Bool.eq_iff_iff]
      simp only [decide_eq_true_eq]
      omega]
    exact Sub.refl _
  · have h1 : ¬ (dig32 n).length ≤ 64 := by
      simp only [decide_eq_false_iff_not] at h
      (try dsimp only at h); omega
    show K (.ok (.bool false))
    refine hK _ ⟨rfl, ?_⟩
    rw [show fit n d = false by
      unfold fit
      simp only [decide_eq_false_iff_not]
      omega]
    exact Sub.refl _
theorem fits_holds (F : TypeId) (p : Bool × Nat × Nat) (h : True) : Holds Tryd.prog F 136 [.agg [.bool p.1, .n32 p.2.1, .n32 p.2.2]] (.ok (.bool (fit p.2.1 p.2.2))) :=
  holds_run mixed tbX_ok (env0X_ok F) Tryd.func136 rfl (by kernel_rfl) (args := [.agg [.bool p.1, .n32 p.2.1, .n32 p.2.2]]) (fits_wp p.1 p.2.1 p.2.2 _ fun _ hr => hr) (fun _ _ _ _ _ h => h)
def fitsC (F : TypeId) : Con Tryd.prog F :=
  mkCon 136 (enters_of Tryd.func136 (by kernel_rfl) rfl) decF (fun p => [.agg [.bool p.1, .n32 p.2.1, .n32 p.2.2]]) (fun _ => True) (fun p => .bool (fit p.2.1 p.2.2)) decF_sub (fits_holds F)
/-! ### Give -/
noncomputable def envGive (F : TypeId) : Env := envOf [fitsC F, cloneC F, oneC F]
theorem envGive_ok (F : TypeId) : EnvOK Tryd.prog F tbX (envGive F) := envOf_ok _
/-- What Give answers: the sign, the numerator, the denominator (none for 1), the error. -/
def gvB (b : Bool) (n d : Nat) : Bool := fit n d && b
def gvN (n d : Nat) : Nat := if fit n d = true then n else 0
def gvD (n d : Nat) : Nat := if fit n d = true ∧ d ≠ 1 then d else 0
def gvE (n d : Nat) : Int := if fit n d = true then 0 else 1
def sGive (b : Bool) (n d : Nat) : SV := .tup [.agg [.bool (gvB b n d), .n32 (gvN n d), .n32 (gvD n d)], .int .i64 (gvE n d)]
theorem give_wp (F : TypeId) (b : Bool) (n d : Nat) (K : Except Int SV → Prop) (hK : ∀ r, SubE r (.ok (sGive b n d)) → K r) :
    wpF tbX (envGive F) (wpDraw tbX (envGive F)) Tryd.f83 [.agg [.bool b, .n32 n, .n32 d]] K := by
  refine And.intro trivial ?_
  refine ifB_mk (fun h => ?_) (fun h => ?_)
  · have h0 : fit n d = false := by simpa using h
    show K (.ok (.tup [.agg [.bool false, .nil, .nil], .int .i64 1]))
    refine hK _ ⟨rfl, ?_⟩
    rw [show sGive b n d = .tup [.agg [.bool false, .n32 0, .n32 0], .int .i64 1] by simp [sGive, gvB, gvN, gvD, gvE, h0]]
    exact Sub.tup (SubL.cons (Sub.agg (SubL.cons (Sub.refl _) (SubL.cons Sub.nil32 (SubL.cons Sub.nil32 SubL.nil)))) (SubL.cons (Sub.refl _) SubL.nil))
  · have h0 : fit n d = true := by simpa using h
    have hc : nb n ≤ 2048 ∧ nb d ≤ 2048 := by simpa [fit] using h0
    have hcb := cb_eq
    refine And.intro (by kernel_rfl) (Or.inl ?_)
    refine And.intro (capL32 (by omega)) ?_
    refine And.intro trivial ?_
    refine ifB_mk (fun h2 => ?_) (fun h2 => ?_)
    · have h1 : ¬ d = 1 := by simpa using h2
      refine And.intro (capL32 (by omega)) ?_
      show K (.ok (.tup [.agg [.bool b, .n32 n, .n32 d], .int .i64 0]))
      refine hK _ ⟨rfl, ?_⟩
      rw [show sGive b n d = .tup [.agg [.bool b, .n32 n, .n32 d], .int .i64 0] by simp [sGive, gvB, gvN, gvD, gvE, h0, h1]]
      exact Sub.refl _
    · have h1 : d = 1 := by simpa using h2
      show K (.ok (.tup [.agg [.bool b, .n32 n, .nil], .int .i64 0]))
      refine hK _ ⟨rfl, ?_⟩
      subst h1
      rw [show sGive b n 1 = .tup [.agg [.bool b, .n32 n, .n32 0], .int .i64 0] by simp [sGive, gvB, gvN, gvD, gvE, h0]]
      exact Sub.tup (SubL.cons (Sub.agg (SubL.cons (Sub.refl _) (SubL.cons (Sub.refl _) (SubL.cons Sub.nil32 SubL.nil)))) (SubL.cons (Sub.refl _) SubL.nil))
theorem give_holds (F : TypeId) (p : Bool × Nat × Nat) (h : True) : Holds Tryd.prog F 83 [.agg [.bool p.1, .n32 p.2.1, .n32 p.2.2]] (.ok (sGive p.1 p.2.1 p.2.2)) :=
  holds_run mixed tbX_ok (envGive_ok F) Tryd.func83 rfl (by kernel_rfl) (args := [.agg [.bool p.1, .n32 p.2.1, .n32 p.2.2]]) (give_wp F p.1 p.2.1 p.2.2 _ fun _ hr => hr) (fun _ _ _ _ _ h => h)
def giveC (F : TypeId) : Con Tryd.prog F :=
  mkCon 83 (enters_of Tryd.func83 (by kernel_rfl) rfl) decF (fun p => [.agg [.bool p.1, .n32 p.2.1, .n32 p.2.2]]) (fun _ => True) (fun p => sGive p.1 p.2.1 p.2.2) decF_sub (give_holds F)
/-! ### Int -/
noncomputable def envSm (F : TypeId) : Env := envOf [smallC F]
theorem envSm_ok (F : TypeId) : EnvOK Tryd.prog F tbX (envSm F) := envOf_ok _
theorem int_wp (F : TypeId) (n : Int) (hn : -9223372036854775808 ≤ n) (hn2 : n < 9223372036854775808) (K : Except Int SV → Prop) (hK : ∀ r, SubE r (.ok (.agg [.bool (decide (n < 0)), .n32 n.natAbs, .n32 1])) → K r) :
    wpF tbX (envSm F) (wpDraw tbX (envSm F)) Tryd.f78 [.int .i64 n] K := by
  have hc : @decide (n < 0) (Classical.propDecidable _) = decide (n < 0) := by rw [Bool.eq_iff_iff]; simp only [decide_eq_true_eq]
  refine ifB_mk (fun h => ?_) (fun h => ?_)
  · simp only [decide_eq_true_eq] at h
    refine And.intro ⟨by omega, by omega⟩ ?_
    refine And.intro ⟨by decide, by decide⟩ ?_
    show K (.ok (.agg [.bool (@decide (n < 0) (Classical.propDecidable _)), .n32 ((0 - n % 18446744073709551616) % 18446744073709551616).toNat, .n32 1]))
    rw [hc, show ((0 - n % 18446744073709551616) % 18446744073709551616).toNat = n.natAbs by omega]
    exact hK _ ⟨rfl, Sub.refl _⟩
  · simp only [decide_eq_false_iff_not] at h
    refine And.intro ⟨by omega, by omega⟩ ?_
    refine And.intro ⟨by decide, by decide⟩ ?_
    show K (.ok (.agg [.bool (@decide (n < 0) (Classical.propDecidable _)), .n32 (n % 18446744073709551616).toNat, .n32 1]))
    rw [hc, show (n % 18446744073709551616).toNat = n.natAbs by omega]
    exact hK _ ⟨rfl, Sub.refl _⟩
def dec_i64 : List SV → Option Int
  | [.int .i64 n] => some n
  | _ => none
theorem dec_i64_sub (xs : List SV) (p : Int) (h : dec_i64 xs = some p) : SubL xs [.int .i64 p] := by
  unfold dec_i64 at h
  split at h
  · simp only [Option.some.injEq] at h
    subst h
    exact SubL.cons (Sub.refl _) SubL.nil
  · cases h
theorem int_holds (F : TypeId) (p : Int) (h : -9223372036854775808 ≤ p ∧ p < 9223372036854775808) : Holds Tryd.prog F 78 [.int .i64 p] (.ok (.agg [.bool (decide (p < 0)), .n32 p.natAbs, .n32 1])) :=
  holds_run mixed tbX_ok (envSm_ok F) Tryd.func78 rfl (by kernel_rfl) (args := [.int .i64 p]) (int_wp F p h.1 h.2 _ fun _ hr => hr) (fun _ _ _ _ _ h => h)
def intC (F : TypeId) : Con Tryd.prog F :=
  mkCon 78 (enters_of Tryd.func78 (by kernel_rfl) rfl) dec_i64 (fun p => [.int .i64 p]) (fun p => -9223372036854775808 ≤ p ∧ p < 9223372036854775808) (fun p => .agg [.bool (decide (p < 0)), .n32 p.natAbs, .n32 1]) dec_i64_sub (int_holds F)
end Iv
end Go.Proofs.YtfajgibpidlojaaDoor
end

section
/- Contracts of the words' fractions, part C: Cmp, Add, Grid, Read. Conditions: lowest terms; the sizes. -/
set_option linter.unusedVariables false
set_option linter.unusedSimpArgs false
set_option maxHeartbeats 4000000
set_option maxRecDepth 8000
namespace Go.Proofs.YtfajgibpidlojaaDoor
namespace Iv
open Go Go.Proofs

/-- How far the sizes of fractions go. -/
def fb : Nat := 100000000
theorem fb_eq : fb = 100000000 := rfl
theorem mulL32 {a b : Nat} (ha : nb a ≤ fb) (hb : nb b ≤ fb) : L32 a + L32 b ≤ cap30 := by
  have h1 := L32_le_nb a
  have h2 := L32_le_nb b
  have h3 := c30
  have h4 := fb_eq
  omega
theorem mulCb {a b : Nat} (ha : nb a ≤ fb) (hb : nb b ≤ fb) : nb (a * b) + 1 ≤ cb ∧ L32 (a * b) + 1 ≤ cap30 := by
  have h1 := L32_le_nb (a * b)
  have h2 := nb_mul a b
  have h3 := c30
  have h4 := fb_eq
  have h5 := cb_eq
  omega
def decFF : List SV → Option ((Bool × Nat × Nat) × (Bool × Nat × Nat))
  | [x, y] => match decF [x], decF [y] with
    | some p, some q => some (p, q)
    | _, _ => none
  | _ => none
theorem decFF_sub (xs : List SV) (p : (Bool × Nat × Nat) × (Bool × Nat × Nat)) (h : decFF xs = some p) : SubL xs [.agg [.bool p.1.1, .n32 p.1.2.1, .n32 p.1.2.2], .agg [.bool p.2.1, .n32 p.2.2.1, .n32 p.2.2.2]] := by
  unfold decFF at h
  split at h
  · split at h
    · rename_i x y p1 q1 hp hq
      simp only [Option.some.injEq] at h
      subst h
      have h1 := decF_sub _ _ hp
      have h2 := decF_sub _ _ hq
      refine SubL.cons (fun M N bnd w v hv => ?_) (fun M N bnd w vs hv => ?_)
      · obtain ⟨v', vs', e, hv', _⟩ := h1 M N bnd w [v] ⟨v, [], rfl, hv, rfl⟩
        simp only [List.cons.injEq] at e
        exact e.1 ▸ hv'
      · exact h2 M N bnd w vs hv
    · cases h
  · cases h
/-- In lowest terms and of a bounded size. -/
def Ok (p : Bool × Nat × Nat) : Prop := Can p.1 p.2.1 p.2.2 ∧ nb p.2.1 ≤ fb ∧ nb p.2.2 ≤ fb
/-- Its number. -/
def vF (p : Bool × Nat × Nat) : Rat := rv p.1 p.2.1 p.2.2
theorem vF_parts {p : Bool × Nat × Nat} (h : Ok p) : nB (vF p) = p.1 ∧ nN (vF p) = p.2.1 ∧ (vF p).den = p.2.2 := rv_parts h.1
theorem sgZ_vF {p : Bool × Nat × Nat} (h : Ok p) : sgZ p.1 p.2.1 = sgR (vF p) := by
  obtain ⟨e1, e2, e3⟩ := vF_parts h
  unfold sgZ sgR
  rw [e1, e2]
noncomputable def envCmp (F : TypeId) : Env := envOf [signC F, wmulC F, wcmpC F]
theorem envCmp_ok (F : TypeId) : EnvOK Tryd.prog F tbX (envCmp F) := envOf_ok _
theorem fcmp_wp (F : TypeId) (p q : Bool × Nat × Nat) (hp : Ok p) (hq : Ok q) (K : Except Int SV → Prop) (hK : ∀ r, SubE r (.ok (.int .i64 (cmpR (vF p) (vF q)))) → K r) :
    wpF tbX (envCmp F) (wpDraw tbX (envCmp F)) Tryd.f111 [.agg [.bool p.1, .n32 p.2.1, .n32 p.2.2], .agg [.bool q.1, .n32 q.2.1, .n32 q.2.2]] K := by
  obtain ⟨a1, a2, a3⟩ := vF_parts hp
  obtain ⟨b1, b2, b3⟩ := vF_parts hq
  have sp := sgZ_vF hp
  have sq := sgZ_vF hq
  refine And.intro (by kernel_rfl) (Or.inl ?_)
  refine And.intro trivial ?_
  refine And.intro trivial ?_
  refine ifB_mk (fun h => ?_) (fun h => ?_)
  · have hne : sgZ p.1 p.2.1 ≠ sgZ q.1 q.2.1 := by
      have : (sgZ p.1 p.2.1 != sgZ q.1 q.2.1) = true := h
      simpa only [bne_iff_ne, ne_eq] using this
    refine And.intro (by kernel_rfl) (Or.inl ?_)
    refine And.intro trivial ?_
    refine And.intro trivial ?_
    refine ifB_mk (fun h2 => ?_) (fun h2 => ?_)
    · have h3 : sgZ p.1 p.2.1 < sgZ q.1 q.2.1 := by simpa only [decide_eq_true_eq] using h2
      rw [sp, sq] at h3
      show K _
      refine hK _ ?_
      rw [sg_lt h3]
      exact ⟨rfl, Sub.refl _⟩
    · have h3 : ¬ sgZ p.1 p.2.1 < sgZ q.1 q.2.1 := by simpa only [decide_eq_false_iff_not] using h2
      have h4 : sgR (vF q) < sgR (vF p) := by rw [← sp, ← sq]; omega
      show K _
      refine hK _ ?_
      rw [sg_gt h4]
      exact ⟨rfl, Sub.refl _⟩
  · have heq : sgR (vF p) = sgR (vF q) := by
      have : (sgZ p.1 p.2.1 != sgZ q.1 q.2.1) = false := h
      rw [← sp, ← sq]
      simpa only [bne_eq_false_iff_eq] using this
    have hb := sg_nB heq
    rw [a1, b1] at hb
    refine And.intro (by kernel_rfl) (Or.inl ?_)
    refine And.intro (mulL32 hp.2.1 hq.2.2) ?_
    refine And.intro (mulL32 hq.2.1 hp.2.2) ?_
    have m1 := mulCb hp.2.1 hq.2.2
    have m2 := mulCb hq.2.1 hp.2.2
    refine And.intro ⟨by (try dsimp only); omega, by (try dsimp only); omega⟩ ?_
    have hci : -1 ≤ cmpI (p.2.1 * q.2.2) (q.2.1 * p.2.2) ∧ cmpI (p.2.1 * q.2.2) (q.2.1 * p.2.2) ≤ 1 := by unfold cmpI; split <;> (try split) <;> omega
    cases hpb : p.1
    · show K _
      refine hK _ ?_
      have := cmp_pos (f := vF p) (g := vF q) (by rw [a1, hpb]) (by rw [b1, ← hb, hpb])
      rw [a2, a3, b2, b3] at this
      rw [← this]
      exact ⟨rfl, Sub.refl _⟩
    · refine And.intro (by (try dsimp only); omega) ?_
      show K (.ok (.int .i64 (0 - cmpI (p.2.1 * q.2.2) (q.2.1 * p.2.2))))
      have := cmp_neg (f := vF p) (g := vF q) (by rw [a1, hpb]) (by rw [b1, ← hb, hpb])
      rw [a2, a3, b2, b3] at this
      rw [show 0 - cmpI (p.2.1 * q.2.2) (q.2.1 * p.2.2) = -cmpI (p.2.1 * q.2.2) (q.2.1 * p.2.2) by omega, this]
      exact hK _ ⟨rfl, Sub.refl _⟩
theorem fcmp_holds (F : TypeId) (p : (Bool × Nat × Nat) × (Bool × Nat × Nat)) (h : Ok p.1 ∧ Ok p.2) : Holds Tryd.prog F 111 [.agg [.bool p.1.1, .n32 p.1.2.1, .n32 p.1.2.2], .agg [.bool p.2.1, .n32 p.2.2.1, .n32 p.2.2.2]] (.ok (.int .i64 (cmpR (vF p.1) (vF p.2)))) :=
  holds_run mixed tbX_ok (envCmp_ok F) Tryd.func111 rfl (by kernel_rfl) (args := [.agg [.bool p.1.1, .n32 p.1.2.1, .n32 p.1.2.2], .agg [.bool p.2.1, .n32 p.2.2.1, .n32 p.2.2.2]]) (fcmp_wp F p.1 p.2 h.1 h.2 _ fun _ hr => hr) (fun _ _ _ _ _ h => h)
def fcmpC (F : TypeId) : Con Tryd.prog F :=
  mkCon 111 (enters_of Tryd.func111 (by kernel_rfl) rfl) decFF (fun p => [.agg [.bool p.1.1, .n32 p.1.2.1, .n32 p.1.2.2], .agg [.bool p.2.1, .n32 p.2.2.1, .n32 p.2.2.2]]) (fun p => Ok p.1 ∧ Ok p.2) (fun p => .int .i64 (cmpR (vF p.1) (vF p.2))) decFF_sub (fcmp_holds F)
/-! ### Add -/
noncomputable def envAdd (F : TypeId) : Env := envOf [wmulC F, waddC F, wsubC F, wcmpC F, reduceC F]
theorem envAdd_ok (F : TypeId) : EnvOK Tryd.prog F tbX (envAdd F) := envOf_ok _
theorem fadd_wp (F : TypeId) (p q : Bool × Nat × Nat) (hp : Ok p) (hq : Ok q) (K : Except Int SV → Prop) (hK : ∀ r, SubE r (.ok (sF (vF p + vF q))) → K r) :
    wpF tbX (envAdd F) (wpDraw tbX (envAdd F)) Tryd.f79 [.agg [.bool p.1, .n32 p.2.1, .n32 p.2.2], .agg [.bool q.1, .n32 q.2.1, .n32 q.2.2]] K := by
  obtain ⟨a1, a2, a3⟩ := vF_parts hp
  obtain ⟨b1, b2, b3⟩ := vF_parts hq
  have hd : 0 < p.2.2 * q.2.2 := Nat.mul_pos hp.1.pos hq.1.pos
  have m1 := mulCb hp.2.1 hq.2.2
  have m2 := mulCb hq.2.1 hp.2.2
  have m3 := mulCb hp.2.2 hq.2.2
  have e0 : ∀ r : Rat, sF r = .agg [.bool (nB r), .n32 (nN r), .n32 r.den] := fun _ => rfl
  refine And.intro (by kernel_rfl) (Or.inl ?_)
  refine And.intro (mulL32 hp.2.1 hq.2.2) ?_
  refine And.intro (mulL32 hq.2.1 hp.2.2) ?_
  refine And.intro (mulL32 hp.2.2 hq.2.2) ?_
  refine ifB_mk (fun h => ?_) (fun h => ?_)
  · have hs : p.1 = q.1 := by
      have : (p.1 == q.1) = true := h
      simpa only [beq_iff_eq] using this
    refine And.intro (by kernel_rfl) (Or.inl ?_)
    refine And.intro ⟨by (try dsimp only); omega, by (try dsimp only); omega⟩ ?_
    have m4 : nb (p.2.1 * q.2.2 + q.2.1 * p.2.2) ≤ cb := Nat.le_trans (nb_add_le (k := cb - 1) (by omega) (by omega)) (by have := cb_eq; omega)
    refine And.intro ⟨hd, m4, by (try dsimp only); omega⟩ ?_
    show K (.ok (sF (rv p.1 (p.2.1 * q.2.2 + q.2.1 * p.2.2) (p.2.2 * q.2.2))))
    have := add_same (f := vF p) (g := vF q) (by rw [a1, b1, hs])
    rw [a1, a2, a3, b2, b3] at this
    rw [this]
    exact hK _ ⟨rfl, Sub.refl _⟩
  · have hs : p.1 ≠ q.1 := by
      have : (p.1 == q.1) = false := h
      simpa only [beq_eq_false_iff_ne, ne_eq] using this
    refine And.intro ⟨by (try dsimp only); omega, by (try dsimp only); omega⟩ ?_
    refine ifB_mk (fun h2 => ?_) (fun h2 => ?_)
    · have h3 : q.2.1 * p.2.2 ≤ p.2.1 * q.2.2 := by
        have h4 : cmpI (p.2.1 * q.2.2) (q.2.1 * p.2.2) ≥ 0 := by simpa only [decide_eq_true_eq] using h2
        unfold cmpI at h4
        split at h4 <;> omega
      refine And.intro (by kernel_rfl) (Or.inl ?_)
      refine And.intro ⟨h3, by (try dsimp only); omega⟩ ?_
      refine And.intro ⟨hd, Nat.le_trans (nb_sub _ _) (by (try dsimp only); omega), by (try dsimp only); omega⟩ ?_
      show K (.ok (sF (rv p.1 (p.2.1 * q.2.2 - q.2.1 * p.2.2) (p.2.2 * q.2.2))))
      have := add_ge (f := vF p) (g := vF q) (by rw [a1, b1]; exact hs) (by rw [a2, a3, b2, b3]; exact h3)
      rw [a1, a2, a3, b2, b3] at this
      rw [this]
      exact hK _ ⟨rfl, Sub.refl _⟩
    · have h3 : p.2.1 * q.2.2 ≤ q.2.1 * p.2.2 := by
        have h4 : ¬ cmpI (p.2.1 * q.2.2) (q.2.1 * p.2.2) ≥ 0 := by simpa only [decide_eq_false_iff_not] using h2
        unfold cmpI at h4
        split at h4 <;> (try split at h4) <;> omega
      refine And.intro (by kernel_rfl) (Or.inl ?_)
      refine And.intro ⟨h3, by (try dsimp only); omega⟩ ?_
      refine And.intro ⟨hd, Nat.le_trans (nb_sub _ _) (by (try dsimp only); omega), by (try dsimp only); omega⟩ ?_
      show K (.ok (sF (rv q.1 (q.2.1 * p.2.2 - p.2.1 * q.2.2) (p.2.2 * q.2.2))))
      have := add_lt (f := vF p) (g := vF q) (by rw [a1, b1]; exact hs) (by rw [a2, a3, b2, b3]; exact h3)
      rw [b1, a2, a3, b2, b3] at this
      rw [this]
      exact hK _ ⟨rfl, Sub.refl _⟩
theorem fadd_holds (F : TypeId) (p : (Bool × Nat × Nat) × (Bool × Nat × Nat)) (h : Ok p.1 ∧ Ok p.2) : Holds Tryd.prog F 79 [.agg [.bool p.1.1, .n32 p.1.2.1, .n32 p.1.2.2], .agg [.bool p.2.1, .n32 p.2.2.1, .n32 p.2.2.2]] (.ok (sF (vF p.1 + vF p.2))) :=
  holds_run mixed tbX_ok (envAdd_ok F) Tryd.func79 rfl (by kernel_rfl) (args := [.agg [.bool p.1.1, .n32 p.1.2.1, .n32 p.1.2.2], .agg [.bool p.2.1, .n32 p.2.2.1, .n32 p.2.2.2]]) (fadd_wp F p.1 p.2 h.1 h.2 _ fun _ hr => hr) (fun _ _ _ _ _ h => h)
def faddC (F : TypeId) : Con Tryd.prog F :=
  mkCon 79 (enters_of Tryd.func79 (by kernel_rfl) rfl) decFF (fun p => [.agg [.bool p.1.1, .n32 p.1.2.1, .n32 p.1.2.2], .agg [.bool p.2.1, .n32 p.2.2.1, .n32 p.2.2.2]]) (fun p => Ok p.1 ∧ Ok p.2) (fun p => sF (vF p.1 + vF p.2)) decFF_sub (fadd_holds F)
/-! ### Grid -/
noncomputable def envGrid (F : TypeId) : Env := envOf [wshlC F, wdivC F, zeroC F, smallC F, waddC F, reduceC F]
theorem envGrid_ok (F : TypeId) : EnvOK Tryd.prog F tbX (envGrid F) := envOf_ok _
theorem grid_wp (F : TypeId) (p : Bool × Nat × Nat) (k : Int) (up : Bool) (hp : Ok p) (hk : 0 ≤ k) (hk2 : k ≤ 1000) (K : Except Int SV → Prop) (hK : ∀ r, SubE r (.ok (sF (gridR up k.toNat (vF p)))) → K r) :
    wpF tbX (envGrid F) (wpDraw tbX (envGrid F)) Tryd.f100 [.agg [.bool p.1, .n32 p.2.1, .n32 p.2.2], .int .i64 k, .bool up] K := by
  obtain ⟨a1, a2, a3⟩ := vF_parts hp
  have h30 := c30
  have hcb := cb_eq
  have hfb := fb_eq
  have hd := hp.1.pos
  have l1 := L32_le_nb p.2.1
  have n1 := hp.2.1
  have n2 := hp.2.2
  have n3 : nb (p.2.1 * 2 ^ k.toNat) ≤ fb + 1000 := Nat.le_trans (nb_shl _ _) (by omega)
  have n4 : nb (p.2.1 * 2 ^ k.toNat / p.2.2) ≤ fb + 1000 := Nat.le_trans (nb_div _ _) n3
  have l4 := L32_le_nb (p.2.1 * 2 ^ k.toNat / p.2.2)
  have n5 : nb (p.2.1 * 2 ^ k.toNat / p.2.2 + 1) ≤ fb + 1001 := nb_add_le n4 (by rw [nb_one]; omega)
  have n6 : nb (1 * 2 ^ k.toNat) ≤ 1001 := by rw [Nat.one_mul]; exact Nat.le_trans (nb_pow2 _) (by omega)
  have hL1 : L32 1 = 1 := by decide
  have hpow : 0 < 1 * 2 ^ k.toNat := by rw [Nat.one_mul]; exact Nat.two_pow_pos _
  have hgr := grid_parts up k.toNat (vF p)
  rw [a1, a2, a3] at hgr
  refine And.intro (by kernel_rfl) (Or.inl ?_)
  refine And.intro ⟨hk, by omega, by (try dsimp only); omega⟩ ?_
  refine And.intro ⟨hd, by (try dsimp only); omega, by (try dsimp only); omega⟩ ?_
  have fin : ∀ x : Nat, nb x ≤ cb → x = (if (up != p.1) = true ∧ p.2.1 * 2 ^ k.toNat % p.2.2 ≠ 0 then p.2.1 * 2 ^ k.toNat / p.2.2 + 1 else p.2.1 * 2 ^ k.toNat / p.2.2) → K (.ok (sF (rv p.1 x (1 * 2 ^ k.toNat)))) := by
    intro x _ hx
    rw [hx, Nat.one_mul, hgr]
    exact hK _ ⟨rfl, Sub.refl _⟩
  refine ifB_mk (fun h => ?_) (fun h => ?_)
  · have hne : (up != p.1) = true := h
    refine And.intro trivial ?_
    refine ifB_mk (fun h2 => ?_) (fun h2 => ?_)
    · have h3 : p.2.1 * 2 ^ k.toNat % p.2.2 ≠ 0 := by
        have : (!decide (p.2.1 * 2 ^ k.toNat % p.2.2 = 0)) = true := h2
        simpa using this
      refine And.intro ⟨by decide, by decide⟩ ?_
      refine And.intro ⟨by (try dsimp only); omega, by (try dsimp only); rw [show L32 (1 : Int).toNat = 1 from hL1]; omega⟩ ?_
      refine And.intro (by kernel_rfl) (Or.inl ?_)
      refine And.intro ⟨by decide, by decide⟩ ?_
      refine And.intro ⟨hk, by omega, by (try dsimp only); rw [show L32 (1 : Int).toNat = 1 from hL1]; omega⟩ ?_
      refine And.intro ⟨hpow, Nat.le_trans n5 (by omega), Nat.le_trans n6 (by omega)⟩ ?_
      exact fin (p.2.1 * 2 ^ k.toNat / p.2.2 + 1) (Nat.le_trans n5 (by omega)) (by rw [if_pos ⟨hne, h3⟩])
    · have h3 : p.2.1 * 2 ^ k.toNat % p.2.2 = 0 := by
        have : (!decide (p.2.1 * 2 ^ k.toNat % p.2.2 = 0)) = false := h2
        simpa using this
      refine And.intro (by kernel_rfl) (Or.inl ?_)
      refine And.intro ⟨by decide, by decide⟩ ?_
      refine And.intro ⟨hk, by omega, by (try dsimp only); rw [show L32 (1 : Int).toNat = 1 from hL1]; omega⟩ ?_
      refine And.intro ⟨hpow, Nat.le_trans n4 (by omega), Nat.le_trans n6 (by omega)⟩ ?_
      exact fin (p.2.1 * 2 ^ k.toNat / p.2.2) (Nat.le_trans n4 (by omega)) (by rw [if_neg (fun c => c.2 h3)])
  · have hne : ¬ (up != p.1) = true := by rw [show (up != p.1) = false from h]; decide
    refine And.intro (by kernel_rfl) (Or.inl ?_)
    refine And.intro ⟨by decide, by decide⟩ ?_
    refine And.intro ⟨hk, by omega, by (try dsimp only); rw [show L32 (1 : Int).toNat = 1 from hL1]; omega⟩ ?_
    refine And.intro ⟨hpow, Nat.le_trans n4 (by omega), Nat.le_trans n6 (by omega)⟩ ?_
    exact fin (p.2.1 * 2 ^ k.toNat / p.2.2) (Nat.le_trans n4 (by omega)) (by rw [if_neg (fun c => hne c.1)])
def decFib : List SV → Option ((Bool × Nat × Nat) × Int × Bool)
  | [x, .int .i64 k, .bool up] => match decF [x] with
    | some p => some (p, k, up)
    | _ => none
  | _ => none
theorem decFib_sub (xs : List SV) (p : (Bool × Nat × Nat) × Int × Bool) (h : decFib xs = some p) : SubL xs [.agg [.bool p.1.1, .n32 p.1.2.1, .n32 p.1.2.2], .int .i64 p.2.1, .bool p.2.2] := by
  unfold decFib at h
  split at h
  · split at h
    · rename_i x k up p1 hp
      simp only [Option.some.injEq] at h
      subst h
      have h1 := decF_sub _ _ hp
      refine SubL.cons (fun M N bnd w v hv => ?_) (SubL.cons (Sub.refl _) (SubL.cons (Sub.refl _) SubL.nil))
      obtain ⟨v', vs', e, hv', _⟩ := h1 M N bnd w [v] ⟨v, [], rfl, hv, rfl⟩
      simp only [List.cons.injEq] at e
      exact e.1 ▸ hv'
    · cases h
  · cases h
theorem grid_holds (F : TypeId) (p : (Bool × Nat × Nat) × Int × Bool) (h : Ok p.1 ∧ 0 ≤ p.2.1 ∧ p.2.1 ≤ 1000) : Holds Tryd.prog F 100 [.agg [.bool p.1.1, .n32 p.1.2.1, .n32 p.1.2.2], .int .i64 p.2.1, .bool p.2.2] (.ok (sF (gridR p.2.2 p.2.1.toNat (vF p.1)))) :=
  holds_run mixed tbX_ok (envGrid_ok F) Tryd.func100 rfl (by kernel_rfl) (args := [.agg [.bool p.1.1, .n32 p.1.2.1, .n32 p.1.2.2], .int .i64 p.2.1, .bool p.2.2]) (grid_wp F p.1 p.2.1 p.2.2 h.1 h.2.1 h.2.2 _ fun _ hr => hr) (fun _ _ _ _ _ h => h)
def gridC (F : TypeId) : Con Tryd.prog F :=
  mkCon 100 (enters_of Tryd.func100 (by kernel_rfl) rfl) decFib (fun p => [.agg [.bool p.1.1, .n32 p.1.2.1, .n32 p.1.2.2], .int .i64 p.2.1, .bool p.2.2]) (fun p => Ok p.1 ∧ 0 ≤ p.2.1 ∧ p.2.1 ≤ 1000) (fun p => sF (gridR p.2.2 p.2.1.toNat (vF p.1))) decFib_sub (grid_holds F)
end Iv
end Go.Proofs.YtfajgibpidlojaaDoor
end

section
/- Fractions as triples of memory: sign, numerator, denominator. No condition. -/
set_option linter.unusedVariables false
namespace Go.Proofs.YtfajgibpidlojaaDoor
namespace Iv
open Go Go.Proofs

abbrev Tr := Bool × Nat × Nat
def sT (p : Tr) : SV := .agg [.bool p.1, .n32 p.2.1, .n32 p.2.2]
def tF (q : Rat) : Tr := (nB q, nN q, q.den)
theorem tF_of {b : Bool} {x y : Nat} {q : Rat} (h : Can b x y) (e : rv b x y = q) : tF q = (b, x, y) := by
  subst e
  obtain ⟨e1, e2, e3⟩ := rv_parts h
  simp only [tF, e1, e2, e3]
theorem tF_zero : tF 0 = (false, 0, 1) := tF_of (b := false) (x := 0) (y := 1) ⟨by decide, by decide, fun _ => rfl⟩ (rv_zero _ _)
theorem sT_tF (q : Rat) : sT (tF q) = sF q := rfl
theorem ok_tF {q : Rat} (h1 : nb (nN q) ≤ fb) (h2 : nb q.den ≤ fb) : Ok (tF q) := ⟨can_self q, h1, h2⟩
theorem vF_tF (q : Rat) : vF (tF q) = q := by
  have h := can_self q
  unfold vF tF
  exact rv_self q
/-- The zero fraction of memory. -/
def t0 : Tr := (false, 0, 0)
/-- An interval's value in memory. -/
structure Z where
  lo : Tr
  hi : Tr
  li : Bool
  hf : Bool
def Z.sv (s : Z) : SV := .agg [.bool s.lo.1, .n32 s.lo.2.1, .n32 s.lo.2.2, .bool s.hi.1, .n32 s.hi.2.1, .n32 s.hi.2.2, .bool s.li, .bool s.hf]
def z0 : Z := ⟨t0, t0, false, false⟩
theorem SubN3 {b : Bool} {xs : List SV} {ys : List SV} (h : SubL xs ys) : SubL (.bool b :: .nil :: .nil :: xs) (.bool b :: .n32 0 :: .n32 0 :: ys) :=
  SubL.cons (Sub.refl _) (SubL.cons Sub.nil32 (SubL.cons Sub.nil32 h))
theorem SubT3 {b : Bool} {n d : Nat} {xs : List SV} {ys : List SV} (h : SubL xs ys) : SubL (.bool b :: .n32 n :: .n32 d :: xs) (.bool b :: .n32 n :: .n32 d :: ys) :=
  SubL.cons (Sub.refl _) (SubL.cons (Sub.refl _) (SubL.cons (Sub.refl _) h))
theorem SubR (xs : List SV) : SubL xs xs := fun _ _ _ _ _ h => h
end Iv
end Go.Proofs.YtfajgibpidlojaaDoor
end

section
/- Contracts of the reference's rational numbers, part A: Make, den, whole. Conditions: the denominator is not 0; the sizes. -/
set_option linter.unusedVariables false
set_option linter.unusedSimpArgs false
set_option maxHeartbeats 4000000
set_option maxRecDepth 8000
namespace Go.Proofs.YtfajgibpidlojaaDoor
namespace Iv
open Go Go.Proofs

/-- A rational number of the reference. -/
def sR (p : Tr) : SV := .agg [.bool p.1, .n16 p.2.1, .n16 p.2.2]
theorem L16_zero {a : Nat} : L16 a = 0 ↔ a = 0 := by
  unfold L16
  rw [List.length_eq_zero_iff]
  exact dig_nil (by decide)
theorem dig16_one {a : Nat} : a = 1 ↔ (dig16 a).length = 1 ∧ (dig16 a).getD 0 0 = 1 := by
  constructor
  · rintro rfl; decide
  · rintro ⟨h1, h2⟩
    have := val_dig16 a
    match hd : dig16 a, h1 with
    | [x], _ =>
      rw [hd] at this h2
      simp at h2
      subst h2
      simpa [val] using this.symm
noncomputable def envMake (F : TypeId) : Env := envOf [natofC F, rgcdC F, rdivC F]
theorem envMake_ok (F : TypeId) : EnvOK Tryd.prog F tbX (envMake F) := envOf_ok _
theorem make_wp (F : TypeId) (b : Bool) (n d : Nat) (hd : 0 < d) (h1 : nb n ≤ 268435456) (h2 : nb d ≤ 268435456) (K : Except Int SV → Prop) (hK : ∀ r, SubE r (.ok (sR (tF (rv b n d)))) → K r) :
    wpF tbX (envMake F) (wpDraw tbX (envMake F)) Tryd.f107 [.bool b, .n16 n, .n16 d] K := by
  have z1 := L16_zero (a := n)
  have z2 := L16_zero (a := d)
  have l1 := L16_le_nb n
  have h30 := c30
  unfold L16 at z1 z2 l1
  refine ifB_mk (fun h => ?_) (fun h => ?_)
  · have h0 : n = 0 := by
      have : (((dig16 n).length : Int) == 0) = true := h
      rw [beq_iff_eq] at this
      omega
    refine And.intro ⟨by decide, by decide⟩ ?_
    show K _
    refine hK _ ?_
    subst h0
    rw [rv_zero, tF_zero]
    exact ⟨rfl, Sub.agg (SubL.cons (Sub.refl _) (SubL.cons Sub.nil16 (SubL.cons (Sub.refl _) SubL.nil)))⟩
  · have h0 : ¬ n = 0 := by
      have : (((dig16 n).length : Int) == 0) = false := h
      rw [beq_eq_false_iff_ne] at this
      omega
    refine ifB_mk (fun h => ?_) (fun h => ?_)
    · exfalso
      have : (((dig16 d).length : Int) == 0) = true := h
      rw [beq_iff_eq] at this
      omega
    have rest : ¬ d = 1 → K (.ok (.agg [.bool b, .n16 (n / Nat.gcd n d), .n16 (d / Nat.gcd n d)])) := by
      intro _
      obtain ⟨c1, c2⟩ := rv_gcd (b := b) (Nat.pos_of_ne_zero h0) hd
      refine hK _ ?_
      rw [tF_of c1 c2]
      exact ⟨rfl, Sub.refl _⟩
    have hg : 0 < Nat.gcd n d := Nat.gcd_pos_of_pos_right _ hd
    have hgl : nb (Nat.gcd n d) ≤ 268435456 := Nat.le_trans (nb_mono (Nat.gcd_le_right _ hd)) h2
    refine ifB_mk (fun h3 => ?_) (fun h3 => ?_)
    · have h4 : (dig16 d).length = 1 := by
        have : (((dig16 d).length : Int) == 1) = true := h3
        rw [beq_iff_eq] at this
        omega
      refine And.intro (by omega) ?_
      refine ifB_mk (fun h5 => ?_) (fun h5 => ?_)
      · have h6 : d = 1 := by
          have : ((((dig16 d).getD (0 : Int).toNat 0 : Nat) : Int) == 1) = true := h5
          rw [beq_iff_eq] at this
          refine dig16_one.2 ⟨h4, ?_⟩
          rw [Int.toNat_zero] at this
          omega
        refine And.intro (by show 0 + (dig16 n).length ≤ cap30; omega) ?_
        refine And.intro ⟨by decide, by decide⟩ ?_
        show K (.ok (.agg [.bool b, .words ([] ++ dig16 n), .n16 1]))
        refine hK _ ?_
        subst h6
        rw [tF_of (b := b) (x := n) (y := 1) ⟨by decide, by rw [Nat.gcd_one_right], fun e => absurd e h0⟩ rfl]
        exact ⟨rfl, Sub.agg (SubL.cons (Sub.refl _) (SubL.cons (Sub.w16 n) (SubL.cons (Sub.refl _) SubL.nil)))⟩
      · have h6 : ¬ d = 1 := by
          have : ((((dig16 d).getD (0 : Int).toNat 0 : Nat) : Int) == 1) = false := h5
          rw [beq_eq_false_iff_ne] at this
          intro e
          have := (dig16_one.1 e).2
          rw [Int.toNat_zero] at *
          omega
        refine And.intro ⟨h1, h2⟩ ?_
        refine And.intro ⟨hg, h1, hgl⟩ ?_
        refine And.intro ⟨hg, h2, hgl⟩ ?_
        exact rest h6
    · have h6 : ¬ d = 1 := by
        have : (((dig16 d).length : Int) == 1) = false := h3
        rw [beq_eq_false_iff_ne] at this
        intro e
        have := (dig16_one.1 e).1
        omega
      refine And.intro ⟨h1, h2⟩ ?_
      refine And.intro ⟨hg, h1, hgl⟩ ?_
      refine And.intro ⟨hg, h2, hgl⟩ ?_
      exact rest h6
def dec_mk : List SV → Option (Bool × Nat × Nat)
  | [.bool b, x, y] => match asN16 x, asN16 y with
    | some n, some d => some (b, n, d)
    | _, _ => none
  | _ => none
theorem dec_mk_sub (xs : List SV) (p : Bool × Nat × Nat) (h : dec_mk xs = some p) : SubL xs [.bool p.1, .n16 p.2.1, .n16 p.2.2] := by
  unfold dec_mk at h
  split at h
  · split at h
    · rename_i hn hd
      simp only [Option.some.injEq] at h
      subst h
      exact SubL.cons (Sub.refl _) (SubL.cons (asN16_sub hn) (SubL.cons (asN16_sub hd) SubL.nil))
    · cases h
  · cases h
theorem make_holds (F : TypeId) (p : Tr) (h : 0 < p.2.2 ∧ nb p.2.1 ≤ 268435456 ∧ nb p.2.2 ≤ 268435456) : Holds Tryd.prog F 107 [.bool p.1, .n16 p.2.1, .n16 p.2.2] (.ok (sR (tF (rv p.1 p.2.1 p.2.2)))) :=
  holds_run mixed tbX_ok (envMake_ok F) Tryd.func107 rfl (by kernel_rfl) (args := [.bool p.1, .n16 p.2.1, .n16 p.2.2]) (make_wp F p.1 p.2.1 p.2.2 h.1 h.2.1 h.2.2 _ fun _ hr => hr) (fun _ _ _ _ _ h => h)
def makeC (F : TypeId) : Con Tryd.prog F :=
  mkCon 107 (enters_of Tryd.func107 (by kernel_rfl) rfl) dec_mk (fun p => [.bool p.1, .n16 p.2.1, .n16 p.2.2]) (fun p => 0 < p.2.2 ∧ nb p.2.1 ≤ 268435456 ∧ nb p.2.2 ≤ 268435456) (fun p => sR (tF (rv p.1 p.2.1 p.2.2))) dec_mk_sub (make_holds F)
end Iv
end Go.Proofs.YtfajgibpidlojaaDoor
end

section
/- Contracts of the reference's rational numbers, part B: den, whole, Sgn, Opp, Over, Int. No condition but the range of an int. -/
set_option linter.unusedVariables false
set_option linter.unusedSimpArgs false
set_option maxHeartbeats 4000000
set_option maxRecDepth 8000
namespace Go.Proofs.YtfajgibpidlojaaDoor
namespace Iv
open Go Go.Proofs

def decR1 : SV → Option Tr
  | .agg [.bool b, x, y] => match asN16 x, asN16 y with
    | some n, some d => some (b, n, d)
    | _, _ => none
  | _ => none
theorem decR1_sub (x : SV) (p : Tr) (h : decR1 x = some p) : Sub x (sR p) := by
  unfold decR1 at h
  split at h
  · split at h
    · rename_i hn hd
      simp only [Option.some.injEq] at h
      subst h
      exact Sub.agg (SubL.cons (Sub.refl _) (SubL.cons (asN16_sub hn) (SubL.cons (asN16_sub hd) SubL.nil)))
    · cases h
  · cases h
def decR : List SV → Option Tr
  | [x] => decR1 x
  | _ => none
theorem decR_sub (xs : List SV) (p : Tr) (h : decR xs = some p) : SubL xs [sR p] := by
  unfold decR at h
  split at h
  · exact SubL.cons (decR1_sub _ _ h) SubL.nil
  · cases h
def decRR : List SV → Option (Tr × Tr)
  | [x, y] => match decR1 x, decR1 y with
    | some a, some b => some (a, b)
    | _, _ => none
  | _ => none
theorem decRR_sub (xs : List SV) (p : Tr × Tr) (h : decRR xs = some p) : SubL xs [sR p.1, sR p.2] := by
  unfold decRR at h
  split at h
  · split at h
    · rename_i ha hb
      simp only [Option.some.injEq] at h
      subst h
      exact SubL.cons (decR1_sub _ _ ha) (SubL.cons (decR1_sub _ _ hb) SubL.nil)
    · cases h
  · cases h
/-- The denominator: an empty one stands for 1. -/
def dn (p : Tr) : Nat := if p.2.2 = 0 then 1 else p.2.2
noncomputable def envNo (F : TypeId) : Env := envOf [natofC F]
theorem envNo_ok (F : TypeId) : EnvOK Tryd.prog F tbX (envNo F) := envOf_ok _
theorem den_wp (F : TypeId) (p : Tr) (K : Except Int SV → Prop) (hK : ∀ r, SubE r (.ok (.n16 (dn p))) → K r) :
    wpF tbX (envNo F) (wpDraw tbX (envNo F)) Tryd.f141 [sR p] K := by
  have z := L16_zero (a := p.2.2)
  unfold L16 at z
  refine ifB_mk (fun h => ?_) (fun h => ?_)
  · have h0 : p.2.2 = 0 := by
      have : (((dig16 p.2.2).length : Int) == 0) = true := h
      rw [beq_iff_eq] at this
      omega
    refine And.intro ⟨by decide, by decide⟩ ?_
    show K (.ok (.n16 1))
    refine hK _ ?_
    unfold dn
    rw [if_pos h0]
    exact ⟨rfl, Sub.refl _⟩
  · have h0 : ¬ p.2.2 = 0 := by
      have : (((dig16 p.2.2).length : Int) == 0) = false := h
      rw [beq_eq_false_iff_ne] at this
      omega
    show K (.ok (.n16 p.2.2))
    refine hK _ ?_
    unfold dn
    rw [if_neg h0]
    exact ⟨rfl, Sub.refl _⟩
theorem den_holds (F : TypeId) (p : Tr) (h : True) : Holds Tryd.prog F 141 [sR p] (.ok (.n16 (dn p))) :=
  holds_run mixed tbX_ok (envNo_ok F) Tryd.func141 rfl (by kernel_rfl) (args := [sR p]) (den_wp F p _ fun _ hr => hr) (fun _ _ _ _ _ h => h)
def denC (F : TypeId) : Con Tryd.prog F :=
  mkCon 141 (enters_of Tryd.func141 (by kernel_rfl) rfl) decR (fun p => [sR p]) (fun _ => True) (fun p => .n16 (dn p)) decR_sub (den_holds F)
/-! ### Sgn -/
theorem sgn_wp (p : Tr) (K : Except Int SV → Prop) (hK : ∀ r, SubE r (.ok (.int .i64 (sgZ p.1 p.2.1))) → K r) :
    wpF tbX env0 (wpDraw tbX env0) Tryd.f144 [sR p] K := by
  have z := L16_zero (a := p.2.1)
  unfold L16 at z
  refine ifB_mk (fun h => ?_) (fun h => ?_)
  · have h0 : p.2.1 = 0 := by
      have : (((dig16 p.2.1).length : Int) == 0) = true := h
      rw [beq_iff_eq] at this
      omega
    show K (.ok (.int .i64 0))
    refine hK _ ?_
    unfold sgZ
    rw [if_pos h0]
    exact ⟨rfl, Sub.refl _⟩
  · have h0 : ¬ p.2.1 = 0 := by
      have : (((dig16 p.2.1).length : Int) == 0) = false := h
      rw [beq_eq_false_iff_ne] at this
      omega
    have e : sgZ p.1 p.2.1 = if p.1 = true then -1 else 1 := by unfold sgZ; rw [if_neg h0]
    rw [e] at hK
    obtain ⟨b, n, d⟩ := p
    cases b
    · show K (.ok (.int .i64 1))
      exact hK _ ⟨rfl, Sub.refl _⟩
    · show K (.ok (.int .i64 (-1)))
      exact hK _ ⟨rfl, Sub.refl _⟩
theorem sgn_holds (F : TypeId) (p : Tr) (h : True) : Holds Tryd.prog F 144 [sR p] (.ok (.int .i64 (sgZ p.1 p.2.1))) :=
  holds_run mixed tbX_ok (env0X_ok F) Tryd.func144 rfl (by kernel_rfl) (args := [sR p]) (sgn_wp p _ fun _ hr => hr) (fun _ _ _ _ _ h => h)
def sgnC (F : TypeId) : Con Tryd.prog F :=
  mkCon 144 (enters_of Tryd.func144 (by kernel_rfl) rfl) decR (fun p => [sR p]) (fun _ => True) (fun p => .int .i64 (sgZ p.1 p.2.1)) decR_sub (sgn_holds F)
/-! ### Opp -/
def opQ (p : Tr) : Tr := (!p.1 && !decide (p.2.1 = 0), p.2.1, p.2.2)
theorem ropp_wp (p : Tr) (K : Except Int SV → Prop) (hK : ∀ r, SubE r (.ok (sR (opQ p))) → K r) :
    wpF tbX env0 (wpDraw tbX env0) Tryd.f152 [sR p] K := by
  have z := L16_zero (a := p.2.1)
  unfold L16 at z
  obtain ⟨b, n, d⟩ := p
  cases b
  · show K (.ok (.agg [.bool (decide (((dig16 n).length : Int) > 0)), .n16 n, .n16 d]))
    refine hK _ ?_
    have e : (decide (((dig16 n).length : Int) > 0)) = (!false && !decide (n = 0)) := by
      rw [Bool.eq_iff_iff]
      simp only [Bool.not_false, Bool.true_and, Bool.not_eq_true', decide_eq_false_iff_not, decide_eq_true_eq]
      dsimp only at z
      omega
    rw [e]
    exact ⟨rfl, Sub.refl _⟩
  · show K (.ok (.agg [.bool false, .n16 n, .n16 d]))
    exact hK _ ⟨rfl, Sub.refl _⟩
theorem ropp_holds (F : TypeId) (p : Tr) (h : True) : Holds Tryd.prog F 152 [sR p] (.ok (sR (opQ p))) :=
  holds_run mixed tbX_ok (env0X_ok F) Tryd.func152 rfl (by kernel_rfl) (args := [sR p]) (ropp_wp p _ fun _ hr => hr) (fun _ _ _ _ _ h => h)
def roppC (F : TypeId) : Con Tryd.prog F :=
  mkCon 152 (enters_of Tryd.func152 (by kernel_rfl) rfl) decR (fun p => [sR p]) (fun _ => True) (fun p => sR (opQ p)) decR_sub (ropp_holds F)
/-! ### Over -/
def over (p : Tr) : Bool := decide (128 < L16 p.2.1) || decide (128 < L16 p.2.2)
theorem over_wp (p : Tr) (K : Except Int SV → Prop) (hK : ∀ r, SubE r (.ok (.bool (over p))) → K r) :
    wpF tbX env0 (wpDraw tbX env0) Tryd.f101 [sR p] K := by
  refine ifB_mk (fun h => ?_) (fun h => ?_)
  · have h1 : 128 < L16 p.2.1 := by
      have : ((dig16 p.2.1).length : Int) > 128 := of_decide_eq_true h
      unfold L16
      omega
    show K (.ok (.bool true))
    refine hK _ ?_
    unfold over
    rw [decide_eq_true h1, Bool.true_or]
    exact ⟨rfl, Sub.refl _⟩
  · have h1 : ¬ 128 < L16 p.2.1 := by
      have : ¬ ((dig16 p.2.1).length : Int) > 128 := of_decide_eq_false h
      unfold L16
      omega
    show K (.ok (.bool (decide (((dig16 p.2.2).length : Int) > 128))))
    refine hK _ ?_
    unfold over
    rw [decide_eq_false h1, Bool.false_or]
    have e : decide (((dig16 p.2.2).length : Int) > 128) = decide (128 < L16 p.2.2) := by
      rw [Bool.eq_iff_iff]
      simp only [decide_eq_true_eq]
      unfold L16
      omega
    rw [e]
    exact ⟨rfl, Sub.refl _⟩
theorem over_holds (F : TypeId) (p : Tr) (h : True) : Holds Tryd.prog F 101 [sR p] (.ok (.bool (over p))) :=
  holds_run mixed tbX_ok (env0X_ok F) Tryd.func101 rfl (by kernel_rfl) (args := [sR p]) (over_wp p _ fun _ hr => hr) (fun _ _ _ _ _ h => h)
def overC (F : TypeId) : Con Tryd.prog F :=
  mkCon 101 (enters_of Tryd.func101 (by kernel_rfl) rfl) decR (fun p => [sR p]) (fun _ => True) (fun p => .bool (over p)) decR_sub (over_holds F)
end Iv
end Go.Proofs.YtfajgibpidlojaaDoor
end

section
/- Contracts of the reference's rational numbers, part C: Sum, Diff, Cmp. Conditions: lowest terms; the sizes. -/
set_option linter.unusedVariables false
set_option linter.unusedSimpArgs false
set_option maxHeartbeats 4000000
set_option maxRecDepth 8000
namespace Go.Proofs.YtfajgibpidlojaaDoor
namespace Iv
open Go Go.Proofs

/-- In lowest terms and of a bounded size. -/
def OkQ (p : Tr) : Prop := Can p.1 p.2.1 (dn p) ∧ nb p.2.1 ≤ fb ∧ nb (dn p) ≤ fb
def vQ (p : Tr) : Rat := rv p.1 p.2.1 (dn p)
theorem vQ_parts {p : Tr} (h : OkQ p) : nB (vQ p) = p.1 ∧ nN (vQ p) = p.2.1 ∧ (vQ p).den = dn p := rv_parts h.1
theorem mulL16 {a b : Nat} (ha : nb a ≤ fb) (hb : nb b ≤ fb) : L16 a + L16 b ≤ cap30 := by
  have h1 := L16_le_nb a
  have h2 := L16_le_nb b
  have h3 := c30
  have h4 := fb_eq
  omega
theorem mulC16 {a b : Nat} (ha : nb a ≤ fb) (hb : nb b ≤ fb) : nb (a * b) + 1 ≤ 268435456 ∧ L16 (a * b) + 1 ≤ cap30 := by
  have h1 := L16_le_nb (a * b)
  have h2 := nb_mul a b
  have h3 := c30
  have h4 := fb_eq
  omega
noncomputable def envRsum (F : TypeId) : Env := envOf [denC F, rmulC F, raddC F, rsubC F, rcmpC F, makeC F]
theorem envRsum_ok (F : TypeId) : EnvOK Tryd.prog F tbX (envRsum F) := envOf_ok _
theorem rsum_wp (F : TypeId) (p q : Tr) (hp : OkQ p) (hq : OkQ q) (K : Except Int SV → Prop) (hK : ∀ r, SubE r (.ok (sR (tF (vQ p + vQ q)))) → K r) :
    wpF tbX (envRsum F) (wpDraw tbX (envRsum F)) Tryd.f138 [sR p, sR q] K := by
  obtain ⟨a1, a2, a3⟩ := vQ_parts hp
  obtain ⟨b1, b2, b3⟩ := vQ_parts hq
  have hd : 0 < dn p * dn q := Nat.mul_pos hp.1.pos hq.1.pos
  have m1 := mulC16 hp.2.1 hq.2.2
  have m2 := mulC16 hq.2.1 hp.2.2
  have m3 := mulC16 hp.2.2 hq.2.2
  have k1 := Nat.le_trans (Nat.le_succ _) m1.2
  have k2 := Nat.le_trans (Nat.le_succ _) m2.2
  have k3 := Nat.le_trans (Nat.le_succ _) m3.1
  have k4 := Nat.le_trans (Nat.le_succ _) m1.1
  have k5 := Nat.le_trans (Nat.le_succ _) m2.1
  refine And.intro (by kernel_rfl) (Or.inl ?_)
  refine And.intro trivial ?_
  refine And.intro (mulL16 hp.2.1 hq.2.2) ?_
  refine And.intro trivial ?_
  refine And.intro (mulL16 hq.2.1 hp.2.2) ?_
  refine And.intro (by kernel_rfl) (Or.inl ?_)
  refine And.intro trivial ?_
  refine And.intro trivial ?_
  refine And.intro (mulL16 hp.2.2 hq.2.2) ?_
  refine ifB_mk (fun h => ?_) (fun h => ?_)
  · have hs : p.1 = q.1 := by
      have : (p.1 == q.1) = true := h
      simpa only [beq_iff_eq] using this
    refine And.intro (by kernel_rfl) (Or.inl ?_)
    refine And.intro ⟨m1.2, m2.2⟩ ?_
    have m4 : nb (p.2.1 * dn q + q.2.1 * dn p) ≤ 268435456 := Nat.le_trans (nb_add_le (k := 268435456 - 1) (by omega) (by omega)) (by omega)
    refine And.intro ⟨hd, m4, k3⟩ ?_
    show K (.ok (sR (tF (rv p.1 (p.2.1 * dn q + q.2.1 * dn p) (dn p * dn q)))))
    have := add_same (f := vQ p) (g := vQ q) (by rw [a1, b1, hs])
    rw [a1, a2, a3, b2, b3] at this
    rw [this]
    exact hK _ ⟨rfl, Sub.refl _⟩
  · have hs : p.1 ≠ q.1 := by
      have : (p.1 == q.1) = false := h
      simpa only [beq_eq_false_iff_ne, ne_eq] using this
    refine And.intro ⟨k1, k2⟩ ?_
    refine ifB_mk (fun h2 => ?_) (fun h2 => ?_)
    · have h3 : q.2.1 * dn p ≤ p.2.1 * dn q := by
        have h4 : cmpI (p.2.1 * dn q) (q.2.1 * dn p) ≥ 0 := by simpa only [decide_eq_true_eq] using h2
        unfold cmpI at h4
        split at h4 <;> omega
      refine And.intro (by kernel_rfl) (Or.inl ?_)
      refine And.intro ⟨h3, k1⟩ ?_
      refine And.intro ⟨hd, Nat.le_trans (nb_sub _ _) k4, k3⟩ ?_
      show K (.ok (sR (tF (rv p.1 (p.2.1 * dn q - q.2.1 * dn p) (dn p * dn q)))))
      have := add_ge (f := vQ p) (g := vQ q) (by rw [a1, b1]; exact hs) (by rw [a2, a3, b2, b3]; exact h3)
      rw [a1, a2, a3, b2, b3] at this
      rw [this]
      exact hK _ ⟨rfl, Sub.refl _⟩
    · have h3 : p.2.1 * dn q ≤ q.2.1 * dn p := by
        have h4 : ¬ cmpI (p.2.1 * dn q) (q.2.1 * dn p) ≥ 0 := by simpa only [decide_eq_false_iff_not] using h2
        unfold cmpI at h4
        split at h4 <;> (try split at h4) <;> omega
      refine And.intro (by kernel_rfl) (Or.inl ?_)
      refine And.intro ⟨h3, k2⟩ ?_
      refine And.intro ⟨hd, Nat.le_trans (nb_sub _ _) k5, k3⟩ ?_
      show K (.ok (sR (tF (rv q.1 (q.2.1 * dn p - p.2.1 * dn q) (dn p * dn q)))))
      have := add_lt (f := vQ p) (g := vQ q) (by rw [a1, b1]; exact hs) (by rw [a2, a3, b2, b3]; exact h3)
      rw [b1, a2, a3, b2, b3] at this
      rw [this]
      exact hK _ ⟨rfl, Sub.refl _⟩
theorem rsum_holds (F : TypeId) (p : Tr × Tr) (h : OkQ p.1 ∧ OkQ p.2) : Holds Tryd.prog F 138 [sR p.1, sR p.2] (.ok (sR (tF (vQ p.1 + vQ p.2)))) :=
  holds_run mixed tbX_ok (envRsum_ok F) Tryd.func138 rfl (by kernel_rfl) (args := [sR p.1, sR p.2]) (rsum_wp F p.1 p.2 h.1 h.2 _ fun _ hr => hr) (fun _ _ _ _ _ h => h)
def rsumC (F : TypeId) : Con Tryd.prog F :=
  mkCon 138 (enters_of Tryd.func138 (by kernel_rfl) rfl) decRR (fun p => [sR p.1, sR p.2]) (fun p => OkQ p.1 ∧ OkQ p.2) (fun p => sR (tF (vQ p.1 + vQ p.2))) decRR_sub (rsum_holds F)
end Iv
end Go.Proofs.YtfajgibpidlojaaDoor
end

section
/- Contracts of the reference's rational numbers, part D: Diff. Conditions: lowest terms; the sizes. -/
set_option linter.unusedVariables false
set_option linter.unusedSimpArgs false
set_option maxHeartbeats 4000000
set_option maxRecDepth 8000
namespace Go.Proofs.YtfajgibpidlojaaDoor
namespace Iv
open Go Go.Proofs

theorem opQ_parts {p : Tr} (h : OkQ p) : OkQ (opQ p) ∧ vQ (opQ p) = - vQ p := by
  obtain ⟨e1, e2, e3⟩ := vQ_parts h
  obtain ⟨n1, n2, n3⟩ := neg_parts (vQ p)
  rw [e1, e2] at n1
  rw [e2] at n2
  rw [e3] at n3
  have hc := can_self (-(vQ p))
  rw [n1, n2, n3] at hc
  refine ⟨⟨hc, h.2.1, h.2.2⟩, ?_⟩
  have := rv_self (-(vQ p))
  rw [n1, n2, n3] at this
  exact this
noncomputable def envDiff (F : TypeId) : Env := envOf [roppC F, rsumC F]
theorem envDiff_ok (F : TypeId) : EnvOK Tryd.prog F tbX (envDiff F) := envOf_ok _
theorem rdiff_wp (F : TypeId) (p q : Tr) (hp : OkQ p) (hq : OkQ q) (K : Except Int SV → Prop) (hK : ∀ r, SubE r (.ok (sR (tF (vQ p - vQ q)))) → K r) :
    wpF tbX (envDiff F) (wpDraw tbX (envDiff F)) Tryd.f139 [sR p, sR q] K := by
  obtain ⟨h1, h2⟩ := opQ_parts hq
  refine And.intro (by kernel_rfl) (Or.inl ?_)
  refine And.intro trivial ?_
  refine And.intro ⟨hp, h1⟩ ?_
  show K (.ok (sR (tF (vQ p + vQ (opQ q)))))
  rw [h2, ← Rat.sub_eq_add_neg]
  exact hK _ ⟨rfl, Sub.refl _⟩
theorem rdiff_holds (F : TypeId) (p : Tr × Tr) (h : OkQ p.1 ∧ OkQ p.2) : Holds Tryd.prog F 139 [sR p.1, sR p.2] (.ok (sR (tF (vQ p.1 - vQ p.2)))) :=
  holds_run mixed tbX_ok (envDiff_ok F) Tryd.func139 rfl (by kernel_rfl) (args := [sR p.1, sR p.2]) (rdiff_wp F p.1 p.2 h.1 h.2 _ fun _ hr => hr) (fun _ _ _ _ _ h => h)
def rdiffC (F : TypeId) : Con Tryd.prog F :=
  mkCon 139 (enters_of Tryd.func139 (by kernel_rfl) rfl) decRR (fun p => [sR p.1, sR p.2]) (fun p => OkQ p.1 ∧ OkQ p.2) (fun p => sR (tF (vQ p.1 - vQ p.2))) decRR_sub (rdiff_holds F)
end Iv
end Go.Proofs.YtfajgibpidlojaaDoor
end

section
/- Plain facts of rational numbers, part E: the reference's comparison and grids; sets as pairs of ends. No condition. -/
set_option linter.unusedVariables false
set_option linter.unusedSimpArgs false
namespace Go.Proofs.YtfajgibpidlojaaDoor
namespace Iv

theorem cmpR_pos {f g : Rat} : cmpR f g > 0 ↔ g < f := by
  unfold cmpR
  split
  · rename_i h
    refine ⟨fun h => absurd h (by decide), fun h2 => ?_⟩
    exact absurd h2 fun h3 => (Rat.lt_iff_le_and_not_ge.1 h).2 (Rat.le_of_lt h3)
  · split
    · rename_i h; exact ⟨fun _ => h, fun _ => by decide⟩
    · rename_i h; exact ⟨fun h => absurd h (by decide), fun h2 => absurd h2 h⟩
theorem cmpR_lt {f g : Rat} : cmpR f g < 0 ↔ f < g := by
  rw [cmpR_swap, ← cmpR_pos (f := g) (g := f)]
  omega
theorem cmpR_eq {f g : Rat} : cmpR f g = 0 ↔ f = g := by
  constructor
  · intro h
    have h1 : ¬ f < g := fun h2 => by have := cmpR_lt.2 h2; omega
    have h2 : ¬ g < f := fun h2 => by have := cmpR_pos.2 h2; omega
    exact Rat.le_antisymm (Rat.not_lt.1 h2) (Rat.not_lt.1 h1)
  · rintro rfl
    unfold cmpR
    rw [if_neg (Rat.lt_irrefl), if_neg (Rat.lt_irrefl)]
theorem sgR_sub (f g : Rat) : sgR (f - g) = cmpR f g := by
  rw [sgR_num]
  have h0 : (f - g).num = 0 ↔ f = g := by rw [Rat.num_eq_zero]; exact ⟨fun h => by grind, fun h => by grind⟩
  have h1 : (f - g).num < 0 ↔ f < g := by
    have h2 := @Rat.num_nonneg (f - g)
    constructor
    · intro h
      have h3 : ¬ 0 ≤ f - g := fun c => by have := h2.2 c; omega
      grind
    · intro h
      have h3 : ¬ 0 ≤ f - g := by grind
      have h4 : ¬ 0 ≤ (f - g).num := fun c => h3 (h2.1 c)
      omega
  split
  · rename_i h; rw [cmpR_eq.2 (h0.1 h)]
  · rename_i h
    split
    · rename_i h2
      unfold cmpR
      rw [if_pos (h1.1 h2)]
    · rename_i h2
      unfold cmpR
      rw [if_neg (fun c => h2 (h1.2 c)), if_pos]
      have a1 : ¬ f = g := fun c => h (h0.2 c)
      have a2 : ¬ f < g := fun c => h2 (h1.2 c)
      grind
/-! ### Grids, step by step -/
def scR (p : Nat) (q : Rat) : Rat := mkRat (q.num * 2 ^ p) q.den
def dsR (p : Nat) (q : Rat) : Rat := mkRat q.num (q.den * 2 ^ p)
def botR (q : Rat) : Rat := mkRat (q.num / q.den) 1
theorem rv_num_self {q : Rat} {k : Nat} : (if nB q = true then -((nN q * k : Nat) : Int) else ((nN q * k : Nat) : Int)) = q.num * k := by
  cases h : nB q
  · rw [nB_false h]; simp
  · rw [nB_true h]; simp [Int.neg_mul]
theorem rv_scR (p : Nat) (q : Rat) : rv (nB q) (nN q * 2 ^ p) q.den = scR p q := by
  refine rv_eq ?_
  rw [rv_num_self]
  simp
theorem rv_dsR (p : Nat) (q : Rat) : rv (nB q) (nN q) (q.den * 2 ^ p) = dsR p q := by
  refine rv_eq ?_
  have := rv_num_self (q := q) (k := 1)
  simpa using this
theorem rv_botR (q : Rat) : rv (nB q) (if nB q = true ∧ nN q % q.den ≠ 0 then nN q / q.den + 1 else nN q / q.den) 1 = botR q := by
  have := grid_parts false 0 q
  simp only [Nat.pow_zero, Nat.mul_one, Bool.false_bne] at this
  rw [this]
  unfold gridR botR
  simp
theorem mkRat_one_num (m : Int) : (mkRat m 1).num = m ∧ (mkRat m 1).den = 1 := by
  have : mkRat m 1 = (m : Rat) := by rw [Rat.mkRat_one]
  rw [this]
  exact ⟨Rat.num_intCast m, Rat.den_intCast m⟩
theorem botR_mkRat (n : Int) {d : Nat} (hd : 0 < d) : botR (mkRat n d) = mkRat (n / d) 1 := by
  unfold botR
  rw [← floor_mkRat n hd, Rat.floor_def]
theorem grid_down (p : Nat) (q : Rat) : dsR p (botR (scR p q)) = gridR false p q := by
  unfold scR
  rw [botR_mkRat _ q.den_pos]
  unfold dsR gridR
  obtain ⟨e1, e2⟩ := mkRat_one_num (q.num * 2 ^ p / (q.den : Int))
  rw [e1, e2, Nat.one_mul]
  rfl
theorem grid_up (p : Nat) (q : Rat) : dsR p (-(botR (-(scR p q)))) = gridR true p q := by
  unfold scR
  rw [Rat.neg_mkRat, botR_mkRat _ q.den_pos, Rat.neg_mkRat]
  unfold dsR gridR
  obtain ⟨e1, e2⟩ := mkRat_one_num (-(-(q.num * 2 ^ p) / (q.den : Int)))
  rw [e1, e2, Nat.one_mul]
  rfl
end Iv
end Go.Proofs.YtfajgibpidlojaaDoor
end

section
/- Contracts of the reference's rational numbers, part E: Cmp, Least, Most. Conditions: lowest terms; the sizes. -/
set_option linter.unusedVariables false
set_option linter.unusedSimpArgs false
set_option maxHeartbeats 4000000
set_option maxRecDepth 8000
namespace Go.Proofs.YtfajgibpidlojaaDoor
namespace Iv
open Go Go.Proofs

noncomputable def envRc (F : TypeId) : Env := envOf [rdiffC F, sgnC F]
theorem envRc_ok (F : TypeId) : EnvOK Tryd.prog F tbX (envRc F) := envOf_ok _
theorem qcmp_wp (F : TypeId) (p q : Tr) (hp : OkQ p) (hq : OkQ q) (K : Except Int SV → Prop) (hK : ∀ r, SubE r (.ok (.int .i64 (cmpR (vQ p) (vQ q)))) → K r) :
    wpF tbX (envRc F) (wpDraw tbX (envRc F)) Tryd.f91 [sR p, sR q] K := by
  refine And.intro ⟨hp, hq⟩ ?_
  refine And.intro trivial ?_
  show K (.ok (.int .i64 (sgZ (nB (vQ p - vQ q)) (nN (vQ p - vQ q)))))
  rw [show sgZ (nB (vQ p - vQ q)) (nN (vQ p - vQ q)) = cmpR (vQ p) (vQ q) from sgR_sub _ _]
  exact hK _ ⟨rfl, Sub.refl _⟩
theorem qcmp_holds (F : TypeId) (p : Tr × Tr) (h : OkQ p.1 ∧ OkQ p.2) : Holds Tryd.prog F 91 [sR p.1, sR p.2] (.ok (.int .i64 (cmpR (vQ p.1) (vQ p.2)))) :=
  holds_run mixed tbX_ok (envRc_ok F) Tryd.func91 rfl (by kernel_rfl) (args := [sR p.1, sR p.2]) (qcmp_wp F p.1 p.2 h.1 h.2 _ fun _ hr => hr) (fun _ _ _ _ _ h => h)
def qcmpC (F : TypeId) : Con Tryd.prog F :=
  mkCon 91 (enters_of Tryd.func91 (by kernel_rfl) rfl) decRR (fun p => [sR p.1, sR p.2]) (fun p => OkQ p.1 ∧ OkQ p.2) (fun p => .int .i64 (cmpR (vQ p.1) (vQ p.2))) decRR_sub (qcmp_holds F)
/-! ### Least, Most -/
def leQ (p q : Tr) : Tr := if cmpR (vQ q) (vQ p) < 0 then q else p
def grQ (p q : Tr) : Tr := if cmpR (vQ q) (vQ p) > 0 then q else p
noncomputable def envQc (F : TypeId) : Env := envOf [qcmpC F]
theorem envQc_ok (F : TypeId) : EnvOK Tryd.prog F tbX (envQc F) := envOf_ok _
theorem qleast_wp (F : TypeId) (p q : Tr) (hp : OkQ p) (hq : OkQ q) (K : Except Int SV → Prop) (hK : ∀ r, SubE r (.ok (sR (leQ p q))) → K r) :
    wpF tbX (envQc F) (wpDraw tbX (envQc F)) Tryd.f116 [sR p, sR q] K := by
  refine And.intro ⟨hq, hp⟩ ?_
  refine ifB_mk (fun h => ?_) (fun h => ?_)
  · have h1 : cmpR (vQ q) (vQ p) < 0 := @of_decide_eq_true _ (Classical.propDecidable _) h
    have e : leQ p q = q := if_pos h1
    rw [e] at hK
    show K (.ok (sR q))
    exact hK _ ⟨rfl, Sub.refl _⟩
  · have h1 : ¬ cmpR (vQ q) (vQ p) < 0 := @of_decide_eq_false _ (Classical.propDecidable _) h
    have e : leQ p q = p := if_neg h1
    rw [e] at hK
    show K (.ok (sR p))
    exact hK _ ⟨rfl, Sub.refl _⟩
theorem qleast_holds (F : TypeId) (p : Tr × Tr) (h : OkQ p.1 ∧ OkQ p.2) : Holds Tryd.prog F 116 [sR p.1, sR p.2] (.ok (sR (leQ p.1 p.2))) :=
  holds_run mixed tbX_ok (envQc_ok F) Tryd.func116 rfl (by kernel_rfl) (args := [sR p.1, sR p.2]) (qleast_wp F p.1 p.2 h.1 h.2 _ fun _ hr => hr) (fun _ _ _ _ _ h => h)
def qleastC (F : TypeId) : Con Tryd.prog F :=
  mkCon 116 (enters_of Tryd.func116 (by kernel_rfl) rfl) decRR (fun p => [sR p.1, sR p.2]) (fun p => OkQ p.1 ∧ OkQ p.2) (fun p => sR (leQ p.1 p.2)) decRR_sub (qleast_holds F)
end Iv
end Go.Proofs.YtfajgibpidlojaaDoor
end

section
/- Contracts of the reference's rational numbers, part H: Scaled, Bottom, Top, GridDown, GridUp. Conditions: lowest terms; the sizes. -/
set_option linter.unusedVariables false
set_option linter.unusedSimpArgs false
set_option maxHeartbeats 4000000
set_option maxRecDepth 8000
namespace Go.Proofs.YtfajgibpidlojaaDoor
namespace Iv
open Go Go.Proofs

/-- In lowest terms and of a size that leaves room. -/
def OkW (p : Tr) : Prop := Can p.1 p.2.1 (dn p) ∧ nb p.2.1 ≤ 200000000 ∧ nb (dn p) ≤ 200000000
theorem vQ_partsW {p : Tr} (h : OkW p) : nB (vQ p) = p.1 ∧ nN (vQ p) = p.2.1 ∧ (vQ p).den = dn p := rv_parts h.1
theorem OkQ.w {p : Tr} (h : OkQ p) : OkW p := ⟨h.1, Nat.le_trans h.2.1 (by rw [fb_eq]; decide), Nat.le_trans h.2.2 (by rw [fb_eq]; decide)⟩
theorem dn_tF (q : Rat) : dn (tF q) = q.den := if_neg (show ¬ q.den = 0 from Nat.pos_iff_ne_zero.1 q.den_pos)
theorem vQ_tF (q : Rat) : vQ (tF q) = q := by unfold vQ; rw [dn_tF]; exact rv_self q
theorem okW_tF {q : Rat} (h1 : nb (nN q) ≤ 200000000) (h2 : nb q.den ≤ 200000000) : OkW (tF q) := by
  unfold OkW
  rw [dn_tF]
  exact ⟨can_self q, h1, h2⟩
theorem okQ_tF {q : Rat} (h1 : nb (nN q) ≤ fb) (h2 : nb q.den ≤ fb) : OkQ (tF q) := by
  unfold OkQ
  rw [dn_tF]
  exact ⟨can_self q, h1, h2⟩
theorem OkQ.bd {p : Tr} (h : OkQ p) : Bd fb (vQ p) := by
  obtain ⟨e1, e2, e3⟩ := vQ_parts h
  exact ⟨by rw [e2]; exact h.2.1, by rw [e3]; exact h.2.2⟩
/-! ### Scaled -/
def sclR (k : Int) (q : Rat) : Rat := if k < 0 then dsR (-k).toNat q else scR k.toNat q
noncomputable def envScl (F : TypeId) : Env := envOf [denC F, rshlC F, makeC F]
theorem envScl_ok (F : TypeId) : EnvOK Tryd.prog F tbX (envScl F) := envOf_ok _
theorem scaled_wp (F : TypeId) (p : Tr) (k : Int) (hp : OkW p) (hk : -1000 ≤ k) (hk2 : k ≤ 1000) (K : Except Int SV → Prop) (hK : ∀ r, SubE r (.ok (sR (tF (sclR k (vQ p))))) → K r) :
    wpF tbX (envScl F) (wpDraw tbX (envScl F)) Tryd.f147 [sR p, .int .i64 k] K := by
  obtain ⟨b, n, d⟩ := p
  obtain ⟨a1, a2, a3⟩ := vQ_partsW hp
  dsimp only at a1 a2
  have hd : 0 < dn (b, n, d) := hp.1.pos
  have n1 : nb n ≤ 200000000 := hp.2.1
  have n2 : nb (dn (b, n, d)) ≤ 200000000 := hp.2.2
  have h30 := c30
  have l1 := L16_le_nb n
  have l2 := L16_le_nb (dn (b, n, d))
  refine ifB_mk (fun h => ?_) (fun h => ?_)
  · have h1 : k < 0 := @of_decide_eq_true _ (Classical.propDecidable _) h
    have e : sclR k (vQ (b, n, d)) = rv b n (dn (b, n, d) * 2 ^ (0 - k).toNat) := by
      unfold sclR
      rw [if_pos h1, ← rv_dsR, a1, a2, a3, show (-k).toNat = (0 - k).toNat by omega]
    have m1 : nb (dn (b, n, d) * 2 ^ (0 - k).toNat) ≤ 200001000 := Nat.le_trans (nb_shl _ _) (by omega)
    refine And.intro (by kernel_rfl) (Or.inl ?_)
    refine And.intro trivial ?_
    refine And.intro (by (try dsimp only); omega) ?_
    refine And.intro ⟨by (try dsimp only); omega, by (try dsimp only); omega⟩ ?_
    refine And.intro ⟨Nat.mul_pos hd (Nat.two_pow_pos _), by (try dsimp only); omega, by (try dsimp only); omega⟩ ?_
    show K (.ok (sR (tF (rv b n (dn (b, n, d) * 2 ^ (0 - k).toNat)))))
    rw [← e]
    exact hK _ ⟨rfl, Sub.refl _⟩
  · have h1 : ¬ k < 0 := @of_decide_eq_false _ (Classical.propDecidable _) h
    have e : sclR k (vQ (b, n, d)) = rv b (n * 2 ^ k.toNat) (dn (b, n, d)) := by
      unfold sclR
      rw [if_neg h1, ← rv_scR, a1, a2, a3]
    have m1 : nb (n * 2 ^ k.toNat) ≤ 200001000 := Nat.le_trans (nb_shl _ _) (by omega)
    refine And.intro (by kernel_rfl) (Or.inl ?_)
    refine And.intro ⟨by (try dsimp only); omega, by (try dsimp only); omega⟩ ?_
    refine And.intro trivial ?_
    refine And.intro ⟨hd, by (try dsimp only); omega, by (try dsimp only); omega⟩ ?_
    show K (.ok (sR (tF (rv b (n * 2 ^ k.toNat) (dn (b, n, d))))))
    rw [← e]
    exact hK _ ⟨rfl, Sub.refl _⟩
def decRi : List SV → Option (Tr × Int)
  | [x, .int .i64 k] => match decR1 x with
    | some p => some (p, k)
    | _ => none
  | _ => none
theorem decRi_sub (xs : List SV) (p : Tr × Int) (h : decRi xs = some p) : SubL xs [sR p.1, .int .i64 p.2] := by
  unfold decRi at h
  split at h
  · split at h
    · rename_i hp
      simp only [Option.some.injEq] at h
      subst h
      exact SubL.cons (decR1_sub _ _ hp) (SubL.cons (Sub.refl _) SubL.nil)
    · cases h
  · cases h
theorem scaled_holds (F : TypeId) (p : Tr × Int) (h : OkW p.1 ∧ -1000 ≤ p.2 ∧ p.2 ≤ 1000) : Holds Tryd.prog F 147 [sR p.1, .int .i64 p.2] (.ok (sR (tF (sclR p.2 (vQ p.1))))) :=
  holds_run mixed tbX_ok (envScl_ok F) Tryd.func147 rfl (by kernel_rfl) (args := [sR p.1, .int .i64 p.2]) (scaled_wp F p.1 p.2 h.1 h.2.1 h.2.2 _ fun _ hr => hr) (fun _ _ _ _ _ h => h)
def scaledC (F : TypeId) : Con Tryd.prog F :=
  mkCon 147 (enters_of Tryd.func147 (by kernel_rfl) rfl) decRi (fun p => [sR p.1, .int .i64 p.2]) (fun p => OkW p.1 ∧ -1000 ≤ p.2 ∧ p.2 ≤ 1000) (fun p => sR (tF (sclR p.2 (vQ p.1)))) decRi_sub (scaled_holds F)
/-! ### Bottom -/
noncomputable def envBot (F : TypeId) : Env := envOf [denC F, rdivC F, natofC F, raddC F, makeC F]
theorem envBot_ok (F : TypeId) : EnvOK Tryd.prog F tbX (envBot F) := envOf_ok _
theorem bottom_wp (F : TypeId) (p : Tr) (hp : OkW p) (K : Except Int SV → Prop) (hK : ∀ r, SubE r (.ok (sR (tF (botR (vQ p))))) → K r) :
    wpF tbX (envBot F) (wpDraw tbX (envBot F)) Tryd.f148 [sR p] K := by
  obtain ⟨b, n, d⟩ := p
  obtain ⟨a1, a2, a3⟩ := vQ_partsW hp
  dsimp only at a1 a2
  have hd : 0 < dn (b, n, d) := hp.1.pos
  have n1 : nb n ≤ 200000000 := hp.2.1
  have n2 : nb (dn (b, n, d)) ≤ 200000000 := hp.2.2
  have h30 := c30
  have e := rv_botR (vQ (b, n, d))
  rw [a1, a2, a3] at e
  rw [← e] at hK
  have m1 : nb (n / dn (b, n, d)) ≤ 200000000 := Nat.le_trans (nb_div _ _) n1
  have m2 : nb (n / dn (b, n, d) + 1) ≤ 200000001 := nb_add_le m1 (by rw [nb_one]; decide)
  have l1 := L16_le_nb (n / dn (b, n, d))
  have hL1 : L16 1 = 1 := by decide
  have hz : ∀ n : Nat, (((dig16 n).length : Int) > 0) ↔ n ≠ 0 := by
    intro n
    have z := L16_zero (a := n)
    unfold L16 at z
    omega
  refine And.intro (by kernel_rfl) (Or.inl ?_)
  refine And.intro trivial ?_
  refine And.intro ⟨hd, by (try dsimp only); omega, by (try dsimp only); omega⟩ ?_
  generalize hD : dn (b, n, d) = D at *
  dsimp only at *
  cases b
  · refine And.intro (by kernel_rfl) (Or.inl ?_)
    refine And.intro ⟨by decide, by decide⟩ ?_
    refine And.intro ⟨by show 0 < (1 : Int).toNat; decide, by (try dsimp only); omega, by show nb 1 ≤ _; rw [nb_one]; decide⟩ ?_
    show K (.ok (sR (tF (rv false (n / D) 1))))
    rw [if_neg (by simp)] at hK
    exact hK _ ⟨rfl, Sub.refl _⟩
  · refine ifB_mk (fun h2 => ?_) (fun h2 => ?_)
    · have h3 : n % D ≠ 0 := (hz _).1 (of_decide_eq_true h2)
      refine And.intro ⟨by decide, by decide⟩ ?_
      refine And.intro ⟨by (try dsimp only); omega, by show L16 1 + 1 ≤ _; rw [hL1, h30]; decide⟩ ?_
      refine And.intro (by kernel_rfl) (Or.inl ?_)
      refine And.intro ⟨by decide, by decide⟩ ?_
      refine And.intro ⟨by show 0 < (1 : Int).toNat; decide, by show nb (n / D + 1) ≤ _; omega, by show nb 1 ≤ _; rw [nb_one]; decide⟩ ?_
      show K (.ok (sR (tF (rv true (n / D + 1) 1))))
      rw [if_pos ⟨rfl, h3⟩] at hK
      exact hK _ ⟨rfl, Sub.refl _⟩
    · have h3 : ¬ n % D ≠ 0 := fun c => (of_decide_eq_false h2) ((hz _).2 c)
      refine And.intro (by kernel_rfl) (Or.inl ?_)
      refine And.intro ⟨by decide, by decide⟩ ?_
      refine And.intro ⟨by show 0 < (1 : Int).toNat; decide, by (try dsimp only); omega, by show nb 1 ≤ _; rw [nb_one]; decide⟩ ?_
      show K (.ok (sR (tF (rv true (n / D) 1))))
      rw [if_neg (fun c => h3 c.2)] at hK
      exact hK _ ⟨rfl, Sub.refl _⟩
theorem bottom_holds (F : TypeId) (p : Tr) (h : OkW p) : Holds Tryd.prog F 148 [sR p] (.ok (sR (tF (botR (vQ p))))) :=
  holds_run mixed tbX_ok (envBot_ok F) Tryd.func148 rfl (by kernel_rfl) (args := [sR p]) (bottom_wp F p h _ fun _ hr => hr) (fun _ _ _ _ _ h => h)
def bottomC (F : TypeId) : Con Tryd.prog F :=
  mkCon 148 (enters_of Tryd.func148 (by kernel_rfl) rfl) decR (fun p => [sR p]) OkW (fun p => sR (tF (botR (vQ p)))) decR_sub (bottom_holds F)
/-! ### Top -/
theorem opQ_partsW {p : Tr} (h : OkW p) : OkW (opQ p) ∧ vQ (opQ p) = - vQ p := by
  obtain ⟨e1, e2, e3⟩ := vQ_partsW h
  obtain ⟨n1, n2, n3⟩ := neg_parts (vQ p)
  rw [e1, e2] at n1
  rw [e2] at n2
  rw [e3] at n3
  have hc := can_self (-(vQ p))
  rw [n1, n2, n3] at hc
  refine ⟨⟨hc, h.2.1, h.2.2⟩, ?_⟩
  have := rv_self (-(vQ p))
  rw [n1, n2, n3] at this
  exact this
theorem opQ_tF (q : Rat) : opQ (tF q) = tF (-q) := by
  obtain ⟨n1, n2, n3⟩ := neg_parts q
  unfold opQ tF
  rw [n1, n2, n3]
noncomputable def envTop (F : TypeId) : Env := envOf [roppC F, bottomC F]
theorem envTop_ok (F : TypeId) : EnvOK Tryd.prog F tbX (envTop F) := envOf_ok _
theorem top_wp (F : TypeId) (p : Tr) (hp : OkW p) (K : Except Int SV → Prop) (hK : ∀ r, SubE r (.ok (sR (tF (-(botR (-(vQ p))))))) → K r) :
    wpF tbX (envTop F) (wpDraw tbX (envTop F)) Tryd.f149 [sR p] K := by
  obtain ⟨h1, h2⟩ := opQ_partsW hp
  refine And.intro trivial ?_
  refine And.intro h1 ?_
  refine And.intro trivial ?_
  show K (.ok (sR (opQ (tF (botR (vQ (opQ p)))))))
  rw [h2, opQ_tF]
  exact hK _ ⟨rfl, Sub.refl _⟩
theorem top_holds (F : TypeId) (p : Tr) (h : OkW p) : Holds Tryd.prog F 149 [sR p] (.ok (sR (tF (-(botR (-(vQ p))))))) :=
  holds_run mixed tbX_ok (envTop_ok F) Tryd.func149 rfl (by kernel_rfl) (args := [sR p]) (top_wp F p h _ fun _ hr => hr) (fun _ _ _ _ _ h => h)
def topC (F : TypeId) : Con Tryd.prog F :=
  mkCon 149 (enters_of Tryd.func149 (by kernel_rfl) rfl) decR (fun p => [sR p]) OkW (fun p => sR (tF (-(botR (-(vQ p)))))) decR_sub (top_holds F)
/-! ### GridDown, GridUp -/
theorem bd_scR {k : Nat} {q : Rat} (h : Bd k q) (p : Nat) : Bd (k + p) (scR p q) := by
  rw [← rv_scR]
  exact bd_rv q.den_pos (Nat.le_trans (nb_shl _ _) (by have := h.num; omega)) (by have := h.den; omega)
theorem bd_botR {k : Nat} {q : Rat} (h : Bd k q) : Bd (k + 1) (botR q) := by
  have := Bd.grid h false 0
  unfold gridR at this
  unfold botR
  simpa using this
theorem scl_neg (k : Int) (hk : 0 ≤ k) (q : Rat) : sclR (0 - k) q = dsR k.toNat q := by
  unfold sclR
  split
  · rw [show (-(0 - k)).toNat = k.toNat by omega]
  · have : k = 0 := by omega
    subst this
    unfold scR dsR
    simp
theorem scl_pos (k : Int) (hk : 0 ≤ k) (q : Rat) : sclR k q = scR k.toNat q := by unfold sclR; rw [if_neg (by omega)]
noncomputable def envGd (F : TypeId) : Env := envOf [scaledC F, bottomC F, topC F]
theorem envGd_ok (F : TypeId) : EnvOK Tryd.prog F tbX (envGd F) := envOf_ok _
theorem gdown_wp (F : TypeId) (p : Tr) (k : Int) (hp : OkQ p) (hk : 0 ≤ k) (hk2 : k ≤ 1000) (K : Except Int SV → Prop) (hK : ∀ r, SubE r (.ok (sR (tF (gridR false k.toNat (vQ p))))) → K r) :
    wpF tbX (envGd F) (wpDraw tbX (envGd F)) Tryd.f102 [sR p, .int .i64 k] K := by
  have hfb := fb_eq
  have b1 := bd_scR hp.bd k.toNat
  have b2 := bd_botR b1
  refine And.intro ⟨hp.w, by (try dsimp only); omega, by (try dsimp only); omega⟩ ?_
  have c1 : OkW (tF (sclR k (vQ p))) := by
    rw [scl_pos k hk]
    exact okW_tF (Nat.le_trans b1.num (by omega)) (Nat.le_trans b1.den (by omega))
  have c2 : OkW (tF (botR (vQ (tF (sclR k (vQ p)))))) := by
    rw [scl_pos k hk, vQ_tF]
    exact okW_tF (Nat.le_trans b2.num (by omega)) (Nat.le_trans b2.den (by omega))
  refine And.intro c1 ?_
  refine And.intro (by (try dsimp only); omega) ?_
  refine And.intro ⟨c2, by (try dsimp only); omega, by (try dsimp only); omega⟩ ?_
  show K (.ok (sR (tF (sclR (0 - k) (vQ (tF (botR (vQ (tF (sclR k (vQ p)))))))))))
  rw [scl_neg k hk, scl_pos k hk, vQ_tF, vQ_tF, grid_down]
  exact hK _ ⟨rfl, Sub.refl _⟩
theorem gup_wp (F : TypeId) (p : Tr) (k : Int) (hp : OkQ p) (hk : 0 ≤ k) (hk2 : k ≤ 1000) (K : Except Int SV → Prop) (hK : ∀ r, SubE r (.ok (sR (tF (gridR true k.toNat (vQ p))))) → K r) :
    wpF tbX (envGd F) (wpDraw tbX (envGd F)) Tryd.f103 [sR p, .int .i64 k] K := by
  have hfb := fb_eq
  have b1 := bd_scR hp.bd k.toNat
  have b2 := (bd_botR b1.neg).neg
  refine And.intro ⟨hp.w, by (try dsimp only); omega, by (try dsimp only); omega⟩ ?_
  have c1 : OkW (tF (sclR k (vQ p))) := by
    rw [scl_pos k hk]
    exact okW_tF (Nat.le_trans b1.num (by omega)) (Nat.le_trans b1.den (by omega))
  have c2 : OkW (tF (-(botR (-(vQ (tF (sclR k (vQ p)))))))) := by
    rw [scl_pos k hk, vQ_tF]
    exact okW_tF (Nat.le_trans b2.num (by omega)) (Nat.le_trans b2.den (by omega))
  refine And.intro c1 ?_
  refine And.intro (by (try dsimp only); omega) ?_
  refine And.intro ⟨c2, by (try dsimp only); omega, by (try dsimp only); omega⟩ ?_
  show K (.ok (sR (tF (sclR (0 - k) (vQ (tF (-(botR (-(vQ (tF (sclR k (vQ p)))))))))))))
  rw [scl_neg k hk, scl_pos k hk, vQ_tF, vQ_tF, grid_up]
  exact hK _ ⟨rfl, Sub.refl _⟩
theorem gdown_holds (F : TypeId) (p : Tr × Int) (h : OkQ p.1 ∧ 0 ≤ p.2 ∧ p.2 ≤ 1000) : Holds Tryd.prog F 102 [sR p.1, .int .i64 p.2] (.ok (sR (tF (gridR false p.2.toNat (vQ p.1))))) :=
  holds_run mixed tbX_ok (envGd_ok F) Tryd.func102 rfl (by kernel_rfl) (args := [sR p.1, .int .i64 p.2]) (gdown_wp F p.1 p.2 h.1 h.2.1 h.2.2 _ fun _ hr => hr) (fun _ _ _ _ _ h => h)
theorem gup_holds (F : TypeId) (p : Tr × Int) (h : OkQ p.1 ∧ 0 ≤ p.2 ∧ p.2 ≤ 1000) : Holds Tryd.prog F 103 [sR p.1, .int .i64 p.2] (.ok (sR (tF (gridR true p.2.toNat (vQ p.1))))) :=
  holds_run mixed tbX_ok (envGd_ok F) Tryd.func103 rfl (by kernel_rfl) (args := [sR p.1, .int .i64 p.2]) (gup_wp F p.1 p.2 h.1 h.2.1 h.2.2 _ fun _ hr => hr) (fun _ _ _ _ _ h => h)
def gdownC (F : TypeId) : Con Tryd.prog F :=
  mkCon 102 (enters_of Tryd.func102 (by kernel_rfl) rfl) decRi (fun p => [sR p.1, .int .i64 p.2]) (fun p => OkQ p.1 ∧ 0 ≤ p.2 ∧ p.2 ≤ 1000) (fun p => sR (tF (gridR false p.2.toNat (vQ p.1)))) decRi_sub (gdown_holds F)
def gupC (F : TypeId) : Con Tryd.prog F :=
  mkCon 103 (enters_of Tryd.func103 (by kernel_rfl) rfl) decRi (fun p => [sR p.1, .int .i64 p.2]) (fun p => OkQ p.1 ∧ 0 ≤ p.2 ∧ p.2 ≤ 1000) (fun p => sR (tF (gridR true p.2.toNat (vQ p.1)))) decRi_sub (gup_holds F)
end Iv
end Go.Proofs.YtfajgibpidlojaaDoor
end

section
/- Contracts of the words' fractions, part D: Read. Conditions: the sizes of the lists. -/
set_option linter.unusedVariables false
set_option linter.unusedSimpArgs false
set_option maxHeartbeats 4000000
set_option maxRecDepth 8000
namespace Go.Proofs.YtfajgibpidlojaaDoor
namespace Iv
open Go Go.Proofs

/-- A number as it comes in: sign and lists of words. -/
structure X where
  neg : Bool
  num : List Nat
  den : List Nat
def X.n (x : X) : Nat := val B32 x.num
def X.d (x : X) : Nat := if val B32 x.den = 0 then 1 else val B32 x.den
theorem X.d_pos (x : X) : 0 < x.d := by unfold X.d; split <;> omega
/-- The number that it denotes. -/
def X.q (x : X) : Rat := rv x.neg x.n x.d
/-- Is it large? -/
def X.big (x : X) : Bool := decide (8192 < nb x.n ∨ 8192 < nb x.d) || !fit (nN x.q) x.q.den
structure X.ok (x : X) : Prop where
  num : ∀ y ∈ x.num, y < B32
  den : ∀ y ∈ x.den, y < B32
  nl : x.num.length ≤ 2097152
  dl : x.den.length ≤ 2097152
def decX : List SV → Option X
  | [.agg [.bool b, x, y]] => match x.list, y.list with
    | some l, some m => some ⟨b, l, m⟩
    | _, _ => none
  | _ => none
def X.sv (x : X) : SV := .agg [.bool x.neg, .words x.num, .words x.den]
theorem decX_sub (xs : List SV) (p : X) (h : decX xs = some p) : SubL xs [p.sv] := by
  unfold decX at h
  split at h
  · split at h
    · rename_i b x y l m hl hm
      simp only [Option.some.injEq] at h
      subst h
      exact SubL.cons (Sub.agg (SubL.cons (Sub.refl _) (SubL.cons (Sub.words hl) (SubL.cons (Sub.words hm) SubL.nil)))) SubL.nil
    · cases h
  · cases h
noncomputable def envRead (F : TypeId) : Env := envOf [ofC F, zeroC F, smallC F, reduceC F, fitsC F]
theorem envRead_ok (F : TypeId) : EnvOK Tryd.prog F tbX (envRead F) := envOf_ok _
/-- What Read answers: the fraction (zero, if the lists are long), and whether it fits. -/
def long (x : X) : Bool := decide (256 < L32 x.n ∨ 256 < L32 (val B32 x.den))
def sRead (x : X) : SV := .tup [.agg [.bool (!long x && nB x.q), .n32 (if long x = true then 0 else nN x.q), .n32 (if long x = true then 0 else x.q.den)], .bool (!long x && fit (nN x.q) x.q.den)]
theorem read_wp (F : TypeId) (x : X) (hx : x.ok) (K : Except Int SV → Prop) (hK : ∀ r, SubE r (.ok (sRead x)) → K r) :
    wpF tbX (envRead F) (wpDraw tbX (envRead F)) Tryd.f95 [x.sv] K := by
  have h30 := c30
  have hcb := cb_eq
  refine And.intro (by kernel_rfl) (Or.inl ?_)
  refine And.intro ⟨hx.num, by have := hx.nl; omega⟩ ?_
  refine And.intro ⟨hx.den, by have := hx.dl; omega⟩ ?_
  have tooLong : long x = true → K (.ok (.tup [.agg [.bool false, .nil, .nil], .bool false])) := by
    intro h
    refine hK _ ⟨rfl, ?_⟩
    simp only [sRead, h, Bool.not_true, Bool.false_and, if_true]
    exact Sub.tup (SubL.cons (Sub.agg (SubL.cons (Sub.refl _) (SubL.cons Sub.nil32 (SubL.cons Sub.nil32 SubL.nil)))) (SubL.cons (Sub.refl _) SubL.nil))
  have e0 : ∀ r : Rat, sF r = .agg [.bool (nB r), .n32 (nN r), .n32 r.den] := fun _ => rfl
  -- not long
  have short : long x = false → nb x.n ≤ 8192 ∧ nb (val B32 x.den) ≤ 8192 := by
    intro h
    simp only [long, decide_eq_false_iff_not] at h
    have h1 := len32_iff x.n 256
    have h2 := len32_iff (val B32 x.den) 256
    unfold L32 at h
    omega
  have done : long x = false → K (.ok (.tup [sF x.q, .bool (fit (nN x.q) x.q.den)])) := by
    intro h
    refine hK _ ⟨rfl, ?_⟩
    simp only [sRead, h, Bool.not_false, Bool.true_and, Bool.false_eq_true, if_false]
    exact Sub.refl _
  refine ifB_mk (fun h => ?_) (fun h => ?_)
  · have h1 : 256 < L32 x.n := by
      have : ((L32 x.n : Nat) : Int) > 256 := of_decide_eq_true h
      omega
    exact tooLong (by simp [long, h1])
  · have h1 : ¬ 256 < L32 x.n := by
      have : ¬ ((L32 x.n : Nat) : Int) > 256 := of_decide_eq_false h
      omega
    refine ifB_mk (fun h2 => ?_) (fun h2 => ?_)
    · have h3 : 256 < L32 (val B32 x.den) := by
        have : ((L32 (val B32 x.den) : Nat) : Int) > 256 := of_decide_eq_true h2
        omega
      exact tooLong (by simp [long, h3])
    · have h3 : ¬ 256 < L32 (val B32 x.den) := by
        have : ¬ ((L32 (val B32 x.den) : Nat) : Int) > 256 := of_decide_eq_false h2
        omega
      have hs : long x = false := by simp [long, h1, h3]
      obtain ⟨s1, s2⟩ := short hs
      refine And.intro trivial ?_
      refine ifB_mk (fun h4 => ?_) (fun h4 => ?_)
      · have h5 : val B32 x.den = 0 := by simpa using h4
        refine And.intro ⟨by decide, by decide⟩ ?_
        have hxd : x.d = 1 := by unfold X.d; rw [if_pos h5]
        refine And.intro ⟨by show 0 < (1 : Int).toNat; decide, by show nb x.n ≤ cb; omega, by show nb 1 ≤ cb; rw [nb_one]; omega⟩ ?_
        have hq : rv x.neg x.n 1 = x.q := by unfold X.q; rw [hxd]
        refine And.intro (by kernel_rfl) (Or.inl ?_)
        refine And.intro trivial ?_
        have := done hs
        rw [← hq] at this
        exact this
      · have h5 : ¬ val B32 x.den = 0 := by simpa using h4
        have hxd : x.d = val B32 x.den := by unfold X.d; rw [if_neg h5]
        refine And.intro ⟨by show 0 < val B32 x.den; omega, by show nb x.n ≤ cb; omega, by show nb (val B32 x.den) ≤ cb; omega⟩ ?_
        have hq : rv x.neg x.n (val B32 x.den) = x.q := by unfold X.q; rw [hxd]
        refine And.intro (by kernel_rfl) (Or.inl ?_)
        refine And.intro trivial ?_
        have := done hs
        rw [← hq] at this
        exact this
theorem read_holds (F : TypeId) (x : X) (h : x.ok) : Holds Tryd.prog F 95 [x.sv] (.ok (sRead x)) :=
  holds_run mixed tbX_ok (envRead_ok F) Tryd.func95 rfl (by kernel_rfl) (args := [x.sv]) (read_wp F x h _ fun _ hr => hr) (fun _ _ _ _ _ h => h)
def readC (F : TypeId) : Con Tryd.prog F :=
  mkCon 95 (enters_of Tryd.func95 (by kernel_rfl) rfl) decX (fun x => [x.sv]) X.ok sRead decX_sub (read_holds F)
end Iv
end Go.Proofs.YtfajgibpidlojaaDoor
end
