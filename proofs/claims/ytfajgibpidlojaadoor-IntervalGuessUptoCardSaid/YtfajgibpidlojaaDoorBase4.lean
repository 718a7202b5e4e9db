/-
  Contracts of functions that a law reaches, and what they rest on, part 4. Each part says its own conditions.
-/
import Derived.Test.YtfajgibpidlojaaDoorBase3

section
/- Contracts of the reference's functions, part M: NatAdd. Conditions: the digits are below 2^16, no last digit 0, the lists are shorter than cap30. -/
set_option linter.unusedVariables false
set_option linter.unusedSimpArgs false
set_option maxHeartbeats 2000000
set_option maxRecDepth 4000
namespace Go.Proofs.YtfajgibpidlojaaDoor
namespace Iv
open Go Go.Proofs

theorem canon_of_ge {B : Nat} (hB : 1 < B) {l : List Nat} (hl : ∀ x ∈ l, x < B) (h : B ^ (l.length - 1) ≤ val B l) : canon l := by
  by_cases hne : l = []
  · subst hne; trivial
  · rw [canon_last hne]
    intro h0
    have hpos : 0 < l.length := List.length_pos_iff.2 hne
    have h1 := val_snoc_zero (B := B) hpos h0
    have h2 := val_lt hB (l := l.take (l.length - 1)) fun x hx => hl x (List.mem_of_mem_take hx)
    rw [List.length_take, Nat.min_eq_left (by omega)] at h2
    omega
theorem radd_wp (l m : List Nat) (hl : ∀ x ∈ l, x < B16) (hm : ∀ x ∈ m, x < B16) (cl : canon l) (cm : canon m) (h1 : l.length + 1 ≤ cap30) (h2 : m.length + 1 ≤ cap30) (K : Except Int SV → Prop) (hK : ∀ r, SubE r (.ok (.n16 (val B16 l + val B16 m))) → K r) :
    wpF tb env0 (wpDraw tb env0) Tryd.f159 [.words l, .words m] K := by
  have h30 := c30
  refine ifB_mk (fun h => ?_) (fun h => ?_)
  · have hlm : l.length < m.length := by simp at h; omega
    refine And.intro (by (try dsimp only); omega) ?_
    refine And.intro (by (try dsimp only); omega) ?_
    show ∃ n, wpLoop _ n _ _
    refine loop_rule (fun n st => ∃ (i c : Int) (r : List Nat), (n : Int) = m.length - i ∧ 0 ≤ i ∧ 0 ≤ c ∧ c ≤ 1 ∧ (r.length : Int) = i ∧ i ≤ m.length ∧ (∀ x ∈ r, x < B16) ∧ val B16 r + B16 ^ i.toNat * c.toNat = val B16 (m.take i.toNat) + val B16 (l.take i.toNat) ∧ ∃ x, st = ⟨pat x 0 [some (.words m), some (.words l), none, none, some (.nil), some (.row 0), some (.int .u32 c), none, none, none, none, none, none, none, none, none, none, none, none, none, none, some (.int .i64 (List.length m : Nat)), some (.int .i64 i), none, none, none, none, none, none, none, none, none, none, none, none, none, none, none, none, none, none, none, none, none, none, none, none, none, none, none, none, none, none, none, none, none], [.row r]⟩) ?step (n := m.length) ?init
    case init => exact ⟨0, 0, [], by (try dsimp only); omega, by omega, by omega, by omega, rfl, by omega, by simp, by simp [val], (fits (.s rfl (.s rfl (.n (.n (.s rfl (.s rfl (.s rfl (.n (.n (.n (.n (.n (.n (.n (.n (.n (.n (.n (.n (.n (.n (.s rfl (.s rfl (.n (.n (.n (.n (.n (.n (.n (.n (.n (.n (.n (.n (.n (.n (.n (.n (.n (.n (.n (.n (.n (.n (.n (.n (.n (.n (.n (.n (.n (.n (.n (.n (.n .nil)))))))))))))))))))))))))))))))))))))))))))))))))))))))))⟩
    case step =>
      rintro n st K' hK1 hK2 ⟨i, c, r, hn, hi, hc0, hc1, hr, hil, hrb, hv, x, rfl⟩
      have hl1 : _ < 65536 := getD_lt (B := B16) (by decide) hm i.toNat
      have hm1 : _ < 65536 := getD_lt (B := B16) (by decide) hl i.toNat
      have e1 : (i + 1).toNat = i.toNat + 1 := by omega
      have e0 : r.length = i.toNat := by omega
      -- one digit
      have step : ∀ d c' : Int, 0 ≤ d → 0 ≤ c' → d + 65536 * c' = (m.getD i.toNat 0 : Nat) + c + (l.getD i.toNat 0 : Nat) → val B16 (r ++ [d.toNat]) + B16 ^ (i + 1).toNat * c'.toNat = val B16 (m.take (i + 1).toNat) + val B16 (l.take (i + 1).toNat) := by
        intro d c' hd0 hc0' hd
        rw [e1, val_append, e0, val_take_succ, val_take_succ, Nat.pow_succ, Nat.mul_assoc]
        simp only [val, Nat.mul_zero, Nat.add_zero]
        have h5 : d.toNat + B16 * c'.toNat = m.getD i.toNat 0 + c.toNat + l.getD i.toNat 0 := by
          simp only [B16]; omega
        have h6 := congrArg (B16 ^ i.toNat * ·) h5
        simp only [Nat.mul_add] at h6
        omega
      have add1 : ∀ d : Int, 0 ≤ d → d < 65536 → ∀ x ∈ r ++ [d.toNat], x < B16 := by
        intro d h0 h1 x hx
        rcases List.mem_append.1 hx with hx | hx
        · exact hrb x hx
        · simp only [List.mem_singleton] at hx; subst hx; simp only [B16]; omega
      refine ifB_mk (fun h => ?_) (fun h => ?_)
      · simp only [decide_eq_true_eq] at h
        refine And.intro (by (try dsimp only); omega) ?_
        refine ifB_mk (fun h3 => ?_) (fun h3 => ?_)
        · simp only [decide_eq_true_eq] at h3
          refine And.intro (by (try dsimp only); omega) ?_
          refine And.intro (by decide) ?_
          refine And.intro (by rw [Int.tmod_eq_emod_of_nonneg (by omega)]; omega) ?_
          refine And.intro (by simp only [List.length_singleton]; omega) ?_
          refine And.intro (by decide) ?_
          refine And.intro (by (try dsimp only); omega) ?_
          refine hK1 (n - 1) _ (by omega) ⟨_, _, _, ?_, ?_, ?_, ?_, ?_, ?_, ?_, ?_, (fits (.s rfl (.s rfl (.n (.n (.s rfl (.s rfl (.s rfl (.n (.n (.n (.n (.n (.n (.n (.n (.n (.n (.n (.n (.n (.n (.s rfl (.s rfl (.n (.n (.n (.n (.n (.n (.n (.n (.n (.n (.n (.n (.n (.n (.n (.n (.n (.n (.n (.n (.n (.n (.n (.n (.n (.n (.n (.n (.n (.n (.n (.n (.n .nil)))))))))))))))))))))))))))))))))))))))))))))))))))))))))⟩
          all_goals try rw [Int.tmod_eq_emod_of_nonneg (by omega)]
          all_goals try rw [Int.tdiv_eq_ediv_of_nonneg (by omega)]
          · omega
          · omega
          · omega
          · omega
          · simp; omega
          · omega
          · exact add1 _ (by omega) (by omega)
          · refine step _ _ (by omega) (by omega) ?_
            omega
        · simp only [decide_eq_false_iff_not] at h3
          have hm0 : l.getD i.toNat 0 = 0 := by
            simp [List.getD_eq_getElem?_getD, show l.length ≤ i.toNat by (try dsimp only at h3); omega]
          refine And.intro (by decide) ?_
          refine And.intro (by rw [Int.tmod_eq_emod_of_nonneg (by omega)]; omega) ?_
          refine And.intro (by simp only [List.length_singleton]; omega) ?_
          refine And.intro (by decide) ?_
          refine And.intro (by (try dsimp only); omega) ?_
          refine hK1 (n - 1) _ (by omega) ⟨_, _, _, ?_, ?_, ?_, ?_, ?_, ?_, ?_, ?_, (fits (.s rfl (.s rfl (.n (.n (.s rfl (.s rfl (.s rfl (.n (.n (.n (.n (.n (.n (.n (.n (.n (.n (.n (.n (.n (.n (.s rfl (.s rfl (.n (.n (.n (.n (.n (.n (.n (.n (.n (.n (.n (.n (.n (.n (.n (.n (.n (.n (.n (.n (.n (.n (.n (.n (.n (.n (.n (.n (.n (.n (.n (.n (.n .nil)))))))))))))))))))))))))))))))))))))))))))))))))))))))))⟩
          all_goals try rw [Int.tmod_eq_emod_of_nonneg (by omega)]
          all_goals try rw [Int.tdiv_eq_ediv_of_nonneg (by omega)]
          · omega
          · omega
          · omega
          · omega
          · simp; omega
          · omega
          · exact add1 _ (by omega) (by omega)
          · refine step _ _ (by omega) (by omega) ?_
            rw [hm0]
            omega
      · simp only [decide_eq_false_iff_not] at h
        have hil' : i.toNat = m.length := by (try dsimp only at h); omega
        refine hK2 _ _ (by simp) ?_
        rw [hil', List.take_of_length_le (Nat.le_refl _), List.take_of_length_le (show l.length ≤ m.length by omega)] at hv
        have hge : m ≠ [] → B16 ^ (m.length - 1) ≤ val B16 m := fun hne => val_ge (by decide) hne cm
        refine ifB_mk (fun h4 => ?_) (fun h4 => ?_)
        · have hc : c = 1 := by simp at h4; omega
          subst hc
          refine And.intro (by omega) ?_
          refine And.intro (by simp only [List.length_singleton]; omega) ?_
          show K _
          refine hK _ ?_
          have hfin : val B16 (r ++ [(1 : Int).toNat]) = val B16 m + val B16 l := by
            rw [val_append, e0, hil']
            simpa [val] using hv
          have hcan : canon (r ++ [(1 : Int).toNat]) := by
            refine canon_of_take (x := 0) ?_
            simp [List.getD_eq_getElem?_getD]
          have := Sub.val16 (add1 1 (by decide) (by decide)) hcan
          rw [hfin] at this
          refine ⟨rfl, ?_⟩
          rw [Nat.add_comm]; exact this
        · have hc : c = 0 := by simp at h4; omega
          subst hc
          show K _
          refine hK _ ?_
          have hfin : val B16 r = val B16 m + val B16 l := by simpa using hv
          have hcan : canon r := by
            by_cases hne : m = []
            · have : r = [] := List.eq_nil_of_length_eq_zero (by rw [e0, hil', hne]; rfl)
              rw [this]; trivial
            · refine canon_of_ge (by decide) hrb ?_
              rw [hfin, e0, hil']
              have := hge hne
              omega
          have := Sub.val16 hrb hcan
          rw [hfin] at this
          refine ⟨rfl, ?_⟩
          rw [Nat.add_comm]; exact this
  · have hlm : m.length ≤ l.length := by simp at h; omega
    refine And.intro (by (try dsimp only); omega) ?_
    refine And.intro (by (try dsimp only); omega) ?_
    show ∃ n, wpLoop _ n _ _
    refine loop_rule (fun n st => ∃ (i c : Int) (r : List Nat), (n : Int) = l.length - i ∧ 0 ≤ i ∧ 0 ≤ c ∧ c ≤ 1 ∧ (r.length : Int) = i ∧ i ≤ l.length ∧ (∀ x ∈ r, x < B16) ∧ val B16 r + B16 ^ i.toNat * c.toNat = val B16 (l.take i.toNat) + val B16 (m.take i.toNat) ∧ ∃ x, st = ⟨pat x 0 [some (.words l), some (.words m), none, none, some (.nil), some (.row 0), some (.int .u32 c), none, none, none, none, none, none, none, none, none, none, none, none, none, none, some (.int .i64 (List.length l : Nat)), some (.int .i64 i), none, none, none, none, none, none, none, none, none, none, none, none, none, none, none, none, none, none, none, none, none, none, none, none, none, none, none, none, none, none, none, none, none], [.row r]⟩) ?step (n := l.length) ?init
    case init => exact ⟨0, 0, [], by (try dsimp only); omega, by omega, by omega, by omega, rfl, by omega, by simp, by simp [val], (fits (.s rfl (.s rfl (.n (.n (.s rfl (.s rfl (.s rfl (.n (.n (.n (.n (.n (.n (.n (.n (.n (.n (.n (.n (.n (.n (.s rfl (.s rfl (.n (.n (.n (.n (.n (.n (.n (.n (.n (.n (.n (.n (.n (.n (.n (.n (.n (.n (.n (.n (.n (.n (.n (.n (.n (.n (.n (.n (.n (.n (.n (.n (.n .nil)))))))))))))))))))))))))))))))))))))))))))))))))))))))))⟩
    case step =>
      rintro n st K' hK1 hK2 ⟨i, c, r, hn, hi, hc0, hc1, hr, hil, hrb, hv, x, rfl⟩
      have hl1 : _ < 65536 := getD_lt (B := B16) (by decide) hl i.toNat
      have hm1 : _ < 65536 := getD_lt (B := B16) (by decide) hm i.toNat
      have e1 : (i + 1).toNat = i.toNat + 1 := by omega
      have e0 : r.length = i.toNat := by omega
      -- one digit
      have step : ∀ d c' : Int, 0 ≤ d → 0 ≤ c' → d + 65536 * c' = (l.getD i.toNat 0 : Nat) + c + (m.getD i.toNat 0 : Nat) → val B16 (r ++ [d.toNat]) + B16 ^ (i + 1).toNat * c'.toNat = val B16 (l.take (i + 1).toNat) + val B16 (m.take (i + 1).toNat) := by
        intro d c' hd0 hc0' hd
        rw [e1, val_append, e0, val_take_succ, val_take_succ, Nat.pow_succ, Nat.mul_assoc]
        simp only [val, Nat.mul_zero, Nat.add_zero]
        have h5 : d.toNat + B16 * c'.toNat = l.getD i.toNat 0 + c.toNat + m.getD i.toNat 0 := by
          simp only [B16]; omega
        have h6 := congrArg (B16 ^ i.toNat * ·) h5
        simp only [Nat.mul_add] at h6
        omega
      have add1 : ∀ d : Int, 0 ≤ d → d < 65536 → ∀ x ∈ r ++ [d.toNat], x < B16 := by
        intro d h0 h1 x hx
        rcases List.mem_append.1 hx with hx | hx
        · exact hrb x hx
        · simp only [List.mem_singleton] at hx; subst hx; simp only [B16]; omega
      refine ifB_mk (fun h => ?_) (fun h => ?_)
      · simp only [decide_eq_true_eq] at h
        refine And.intro (by (try dsimp only); omega) ?_
        refine ifB_mk (fun h3 => ?_) (fun h3 => ?_)
        · simp only [decide_eq_true_eq] at h3
          refine And.intro (by (try dsimp only); omega) ?_
          refine And.intro (by decide) ?_
          refine And.intro (by rw [Int.tmod_eq_emod_of_nonneg (by omega)]; omega) ?_
          refine And.intro (by simp only [List.length_singleton]; omega) ?_
          refine And.intro (by decide) ?_
          refine And.intro (by (try dsimp only); omega) ?_
          refine hK1 (n - 1) _ (by omega) ⟨_, _, _, ?_, ?_, ?_, ?_, ?_, ?_, ?_, ?_, (fits (.s rfl (.s rfl (.n (.n (.s rfl (.s rfl (.s rfl (.n (.n (.n (.n (.n (.n (.n (.n (.n (.n (.n (.n (.n (.n (.s rfl (.s rfl (.n (.n (.n (.n (.n (.n (.n (.n (.n (.n (.n (.n (.n (.n (.n (.n (.n (.n (.n (.n (.n (.n (.n (.n (.n (.n (.n (.n (.n (.n (.n (.n (.n .nil)))))))))))))))))))))))))))))))))))))))))))))))))))))))))⟩
          all_goals try rw [Int.tmod_eq_emod_of_nonneg (by omega)]
          all_goals try rw [Int.tdiv_eq_ediv_of_nonneg (by omega)]
          · omega
          · omega
          · omega
          · omega
          · simp; omega
          · omega
          · exact add1 _ (by omega) (by omega)
          · refine step _ _ (by omega) (by omega) ?_
            omega
        · simp only [decide_eq_false_iff_not] at h3
          have hm0 : m.getD i.toNat 0 = 0 := by
            simp [List.getD_eq_getElem?_getD, show m.length ≤ i.toNat by (try dsimp only at h3); omega]
          refine And.intro (by decide) ?_
          refine And.intro (by rw [Int.tmod_eq_emod_of_nonneg (by omega)]; omega) ?_
          refine And.intro (by simp only [List.length_singleton]; omega) ?_
          refine And.intro (by decide) ?_
          refine And.intro (by (try dsimp only); omega) ?_
          refine hK1 (n - 1) _ (by omega) ⟨_, _, _, ?_, ?_, ?_, ?_, ?_, ?_, ?_, ?_, (fits (.s rfl (.s rfl (.n (.n (.s rfl (.s rfl (.s rfl (.n (.n (.n (.n (.n (.n (.n (.n (.n (.n (.n (.n (.n (.n (.s rfl (.s rfl (.n (.n (.n (.n (.n (.n (.n (.n (.n (.n (.n (.n (.n (.n (.n (.n (.n (.n (.n (.n (.n (.n (.n (.n (.n (.n (.n (.n (.n (.n (.n (.n (.n .nil)))))))))))))))))))))))))))))))))))))))))))))))))))))))))⟩
          all_goals try rw [Int.tmod_eq_emod_of_nonneg (by omega)]
          all_goals try rw [Int.tdiv_eq_ediv_of_nonneg (by omega)]
          · omega
          · omega
          · omega
          · omega
          · simp; omega
          · omega
          · exact add1 _ (by omega) (by omega)
          · refine step _ _ (by omega) (by omega) ?_
            rw [hm0]
            omega
      · simp only [decide_eq_false_iff_not] at h
        have hil' : i.toNat = l.length := by (try dsimp only at h); omega
        refine hK2 _ _ (by simp) ?_
        rw [hil', List.take_of_length_le (Nat.le_refl _), List.take_of_length_le (show m.length ≤ l.length by omega)] at hv
        have hge : l ≠ [] → B16 ^ (l.length - 1) ≤ val B16 l := fun hne => val_ge (by decide) hne cl
        refine ifB_mk (fun h4 => ?_) (fun h4 => ?_)
        · have hc : c = 1 := by simp at h4; omega
          subst hc
          refine And.intro (by omega) ?_
          refine And.intro (by simp only [List.length_singleton]; omega) ?_
          show K _
          refine hK _ ?_
          have hfin : val B16 (r ++ [(1 : Int).toNat]) = val B16 l + val B16 m := by
            rw [val_append, e0, hil']
            simpa [val] using hv
          have hcan : canon (r ++ [(1 : Int).toNat]) := by
            refine canon_of_take (x := 0) ?_
            simp [List.getD_eq_getElem?_getD]
          have := Sub.val16 (add1 1 (by decide) (by decide)) hcan
          rw [hfin] at this
          refine ⟨rfl, ?_⟩
          exact this
        · have hc : c = 0 := by simp at h4; omega
          subst hc
          show K _
          refine hK _ ?_
          have hfin : val B16 r = val B16 l + val B16 m := by simpa using hv
          have hcan : canon r := by
            by_cases hne : l = []
            · have : r = [] := List.eq_nil_of_length_eq_zero (by rw [e0, hil', hne]; rfl)
              rw [this]; trivial
            · refine canon_of_ge (by decide) hrb ?_
              rw [hfin, e0, hil']
              have := hge hne
              omega
          have := Sub.val16 hrb hcan
          rw [hfin] at this
          refine ⟨rfl, ?_⟩
          exact this
end Iv
end Go.Proofs.YtfajgibpidlojaaDoor
end

section
/- Contracts of the words' functions, part D: Sub. Conditions: the lists are no longer than cap30; the second number is not greater. -/
set_option linter.unusedVariables false
set_option linter.unusedSimpArgs false
set_option maxHeartbeats 1000000
set_option maxRecDepth 4000
namespace Go.Proofs.YtfajgibpidlojaaDoor
namespace Iv
open Go Go.Proofs

theorem wsub_wp (F : TypeId) (l m : List Nat) (hl : ∀ x ∈ l, x < B32) (hm : ∀ x ∈ m, x < B32) (h1 : l.length ≤ cap30) (hlm : m.length ≤ l.length) (hle : val B32 m ≤ val B32 l) (K : Except Int SV → Prop) (hK : ∀ r, SubE r (.ok (.n32 (val B32 l - val B32 m))) → K r) :
    wpF tb (envOfC F) (wpDraw tb (envOfC F)) Tryd.f127 [.words l, .words m] K := by
  have h30 := c30
  refine And.intro (by (try dsimp only); omega) ?_
  show ∃ n, wpLoop _ n _ _
  refine loop_rule (fun n st => ∃ (i c : Int) (r : List Nat), (n : Int) = l.length - i ∧ 0 ≤ i ∧ 0 ≤ c ∧ c ≤ 1 ∧ r.length = l.length ∧ (∀ x ∈ r, x < B32) ∧ val B32 (r.take i.toNat) + val B32 (m.take i.toNat) = val B32 (l.take i.toNat) + B32 ^ i.toNat * c.toNat ∧ ∃ x, st = ⟨pat x 0 [some (.words l), some (.words m), none, none, some (.nil), some (.row 0), some (.int .u64 c), none, none, none, none, none, none, some (.words l), some (.int .i64 (List.length l : Nat)), some (.int .i64 i), none, none, none, none, none, none, none, none, none, none, none, none, none, none, none, none, none, none, none, none, none, none, none, none, none, none, none, none, none], [.row r]⟩) ?step (n := l.length) ?init
  case init => exact ⟨_, _, _, by (try dsimp only); omega, by omega, by omega, by omega, by simp, by simp, by simp [val], (fits (.s rfl (.s rfl (.n (.n (.s rfl (.s rfl (.s rfl (.n (.n (.n (.n (.n (.n (.s rfl (.s rfl (.s rfl (.n (.n (.n (.n (.n (.n (.n (.n (.n (.n (.n (.n (.n (.n (.n (.n (.n (.n (.n (.n (.n (.n (.n (.n (.n (.n (.n (.n (.n .nil))))))))))))))))))))))))))))))))))))))))))))))⟩
  case step =>
      rintro n st K' hK1 hK2 ⟨i, c, r, hn, hi, hc0, hc1, hr, hrb, hv, x, rfl⟩
      have hl1 : _ < 4294967296 := getD_lt (B := B32) (by decide) hl i.toNat
      have hm1 : _ < 4294967296 := getD_lt (B := B32) (by decide) hm i.toNat
      have e1 : (i + 1).toNat = i.toNat + 1 := by omega
      -- one digit
      have step : ∀ d c' : Int, i < l.length → 0 ≤ d → 0 ≤ c' → d + (m.getD i.toNat 0 : Nat) - 4294967296 * c' = (l.getD i.toNat 0 : Nat) - c → val B32 ((r.set i.toNat d.toNat).take (i + 1).toNat) + val B32 (m.take (i + 1).toNat) = val B32 (l.take (i + 1).toNat) + B32 ^ (i + 1).toNat * c'.toNat := by
        intro d c' hil hd0 hc0' hd
        rw [e1, val_set_succ _ _ _ _ (by omega), val_take_succ, val_take_succ, Nat.pow_succ, Nat.mul_assoc]
        have h5 : d.toNat + m.getD i.toNat 0 + c.toNat = l.getD i.toNat 0 + B32 * c'.toNat := by
          simp only [B32]; omega
        have h6 := congrArg (B32 ^ i.toNat * ·) h5
        simp only [Nat.mul_add] at h6
        omega
      refine ifB_mk (fun h => ?_) (fun h => ?_)
      · simp only [decide_eq_true_eq] at h
        refine And.intro (by (try dsimp only); omega) ?_
        refine ifB_mk (fun h3 => ?_) (fun h3 => ?_)
        · simp only [decide_eq_true_eq] at h3
          refine And.intro (by (try dsimp only); omega) ?_
          refine And.intro (by (try dsimp only); omega) ?_
          refine And.intro ⟨by omega, rfl, by omega, by omega⟩ ?_
          refine And.intro (by omega) ?_
          refine And.intro (by (try dsimp only); omega) ?_
          refine hK1 (n - 1) _ (by omega) ⟨_, _, _, ?_, ?_, ?_, ?_, ?_, ?_, ?_, (fits (.s rfl (.s rfl (.n (.n (.s rfl (.s rfl (.s rfl (.n (.n (.n (.n (.n (.n (.s rfl (.s rfl (.s rfl (.n (.n (.n (.n (.n (.n (.n (.n (.n (.n (.n (.n (.n (.n (.n (.n (.n (.n (.n (.n (.n (.n (.n (.n (.n (.n (.n (.n (.n .nil))))))))))))))))))))))))))))))))))))))))))))))⟩
          · omega
          · omega
          · exact Int.fdiv_nonneg (by omega) (by decide)
          · rw [Int.fdiv_eq_ediv_of_nonneg _ (by decide)]; show _ / (9223372036854775808 : Int) ≤ 1; omega
          · simpa using hr
          · exact set_lt hrb (by simp only [B32]; omega)
          · refine step _ _ (by omega) (by omega) (Int.fdiv_nonneg (by omega) (by decide)) ?_
            rw [Int.fdiv_eq_ediv_of_nonneg _ (by decide)]
            show _ + _ - 4294967296 * (_ / (9223372036854775808 : Int)) = _
            omega
        · simp only [decide_eq_false_iff_not] at h3
          have hm0 : m.getD i.toNat 0 = 0 := by
            simp [List.getD_eq_getElem?_getD, show m.length ≤ i.toNat by (try dsimp only at h3); omega]
          refine And.intro (by (try dsimp only); omega) ?_
          refine And.intro ⟨by omega, rfl, by omega, by omega⟩ ?_
          refine And.intro (by omega) ?_
          refine And.intro (by (try dsimp only); omega) ?_
          refine hK1 (n - 1) _ (by omega) ⟨_, _, _, ?_, ?_, ?_, ?_, ?_, ?_, ?_, (fits (.s rfl (.s rfl (.n (.n (.s rfl (.s rfl (.s rfl (.n (.n (.n (.n (.n (.n (.s rfl (.s rfl (.s rfl (.n (.n (.n (.n (.n (.n (.n (.n (.n (.n (.n (.n (.n (.n (.n (.n (.n (.n (.n (.n (.n (.n (.n (.n (.n (.n (.n (.n (.n .nil))))))))))))))))))))))))))))))))))))))))))))))⟩
          · omega
          · omega
          · exact Int.fdiv_nonneg (by omega) (by decide)
          · rw [Int.fdiv_eq_ediv_of_nonneg _ (by decide)]; show _ / (9223372036854775808 : Int) ≤ 1; omega
          · simpa using hr
          · exact set_lt hrb (by simp only [B32]; omega)
          · refine step _ _ (by omega) (by omega) (Int.fdiv_nonneg (by omega) (by decide)) ?_
            rw [Int.fdiv_eq_ediv_of_nonneg _ (by decide), hm0]
            show _ + _ - 4294967296 * (_ / (9223372036854775808 : Int)) = _
            omega
      · simp only [decide_eq_false_iff_not] at h
        have hil : i.toNat = l.length := by (try dsimp only at h); omega
        refine hK2 _ _ (by simp) ?_
        refine And.intro ⟨hrb, by omega⟩ ?_
        show K _
        refine hK _ ⟨rfl, ?_⟩
        have hlt := val_lt (B := B32) (by decide) hrb
        rw [hil, List.take_of_length_le (by omega), List.take_of_length_le (by omega), List.take_of_length_le (by omega)] at hv
        rw [hr] at hlt
        have hc : c.toNat = 0 := by
          rcases Nat.eq_zero_or_pos c.toNat with h0 | h0
          · exact h0
          · have : B32 ^ l.length * 1 ≤ B32 ^ l.length * c.toNat := Nat.mul_le_mul_left _ h0
            omega
        have hgoal : Sub (.n32 (val B32 r)) (.n32 (val B32 l - val B32 m)) := by
          rw [show val B32 r = val B32 l - val B32 m by rw [hc] at hv; omega]; exact Sub.refl _
        exact hgoal
end Iv
end Go.Proofs.YtfajgibpidlojaaDoor
end

section
/- Contracts of the words' functions, part F: Mul. Conditions: the lists together are no longer than cap30. -/
set_option linter.unusedVariables false
set_option linter.unusedSimpArgs false
set_option maxHeartbeats 2000000
set_option maxRecDepth 4000
namespace Go.Proofs.YtfajgibpidlojaaDoor
namespace Iv
open Go Go.Proofs

theorem val_set (B : Nat) : ∀ (l : List Nat) (k d : Nat), k < l.length → val B (l.set k d) + B ^ k * l.getD k 0 = val B l + B ^ k * d
  | [], k, d, h => by simp at h
  | x :: l, 0, d, h => by simp [val]; omega
  | x :: l, k + 1, d, h => by
    have ih := val_set B l k d (by simpa using h)
    simp only [List.set_cons_succ, val, Nat.pow_succ]
    rw [show (x :: l).getD (k + 1) 0 = l.getD k 0 by simp, Nat.mul_comm (B ^ k) B, Nat.mul_assoc, Nat.mul_assoc]
    have h2 := congrArg (B * ·) ih
    simp only [Nat.mul_add] at h2
    omega
/-- One digit of a row of a product. -/
theorem mul_step {B : Nat} {r m : List Nat} {i j n c c' d w V : Nat} (hn : i + j < n) (hr : n ≤ r.length) (h : val B (r.take n) + B ^ (i + j) * c = V + B ^ i * (w * val B (m.take j)))
    (hd : d + B * c' = w * m.getD j 0 + r.getD (i + j) 0 + c) : val B ((r.set (i + j) d).take n) + B ^ (i + j + 1) * c' = V + B ^ i * (w * val B (m.take (j + 1))) := by
  have h1 := val_set B (r.take n) (i + j) d (by simp; omega)
  rw [← List.take_set] at h1
  have h2 : (r.take n).getD (i + j) 0 = r.getD (i + j) 0 := by simp [List.getD_eq_getElem?_getD, List.getElem?_take, hn]
  rw [h2] at h1
  rw [val_take_succ, Nat.mul_add, Nat.mul_add, Nat.pow_succ, Nat.mul_assoc]
  have h3 := congrArg (B ^ (i + j) * ·) hd
  simp only [Nat.mul_add] at h3
  have h4 : B ^ i * (w * (B ^ j * m.getD j 0)) = B ^ (i + j) * (w * m.getD j 0) := by
    rw [Nat.pow_add, Nat.mul_left_comm w, Nat.mul_assoc]
  rw [h4]
  omega
theorem mul_bound {a b c d : Int} (ha : 0 ≤ a) (ha1 : a < 4294967296) (hb : 0 ≤ b) (hb1 : b < 4294967296) (hc : 0 ≤ c) (hc1 : c < 4294967296) (hd : 0 ≤ d) (hd1 : d < 4294967296) :
    0 ≤ a * b + c + d ∧ a * b + c + d < 18446744073709551616 := by
  have h0 : 0 ≤ a * b := Int.mul_nonneg ha hb
  have h1 : a * b ≤ 4294967295 * 4294967295 := Int.mul_le_mul (by omega) (by omega) hb (by decide)
  omega

theorem wmul_wp (F : TypeId) (l m : List Nat) (hl : ∀ x ∈ l, x < B32) (hm : ∀ x ∈ m, x < B32) (h1 : l.length + m.length ≤ cap30) (K : Except Int SV → Prop) (hK : ∀ r, SubE r (.ok (.n32 (val B32 l * val B32 m))) → K r) :
    wpF tb (envOfC F) (wpDraw tb (envOfC F)) Tryd.f124 [.words l, .words m] K := by
  have h30 := c30
  have zero : (l.length = 0 ∨ m.length = 0) → K (.ok .nil) := by
    intro h
    refine hK _ ⟨rfl, ?_⟩
    have : val B32 l * val B32 m = 0 := by
      rcases h with h | h
      · rw [List.eq_nil_of_length_eq_zero h]; simp [val]
      · rw [List.eq_nil_of_length_eq_zero h]; simp [val]
    rw [this]
    exact Sub.nil32
  refine ifB_mk (fun h => ?_) (fun h => ?_)
  · exact zero (.inl (by simp at h; simp [h]))
  · refine ifB_mk (fun h2 => ?_) (fun h2 => ?_)
    · exact zero (.inr (by simp at h2; simp [h2]))
    refine And.intro (by (try dsimp only); omega) ?_
    refine And.intro (by (try dsimp only); omega) ?_
    show ∃ n, wpLoop _ n _ _
    refine loop_rule (fun n st => ∃ (i : Int) (r : List Nat), (n : Int) = l.length - i ∧ 0 ≤ i ∧ r.length = l.length + m.length ∧ (∀ x ∈ r, x < B32) ∧ val B32 (r.take (i.toNat + m.length)) = val B32 (l.take i.toNat) * val B32 m ∧ ∃ x, st = ⟨pat x 0 [some (.words l), some (.words m), none, none, some (.nil), some (.row 0), none, none, none, none, none, none, none, none, none, none, none, none, none, none, none, none, none, none, none, none, some (.words l), some (.int .i64 (List.length l : Nat)), some (.int .i64 i), none, none, none, none, none, none, none, none, none, none, none, none, none, none, none, none, none, none, none, none, none, none, none, none, none, none, none, none, none, none, none, none, none, none, none, none, none, none, none, none, none, none, none, none, none, none, none], [.row r]⟩) ?step (n := l.length) ?init
    case init => exact ⟨_, _, by (try dsimp only); omega, by omega, by simp; omega, by simp, by simp [val, List.take_replicate, val_zeros], (fits (.s rfl (.s rfl (.n (.n (.s rfl (.s rfl (.n (.n (.n (.n (.n (.n (.n (.n (.n (.n (.n (.n (.n (.n (.n (.n (.n (.n (.n (.n (.s rfl (.s rfl (.s rfl (.n (.n (.n (.n (.n (.n (.n (.n (.n (.n (.n (.n (.n (.n (.n (.n (.n (.n (.n (.n (.n (.n (.n (.n (.n (.n (.n (.n (.n (.n (.n (.n (.n (.n (.n (.n (.n (.n (.n (.n (.n (.n (.n (.n (.n (.n (.n .nil)))))))))))))))))))))))))))))))))))))))))))))))))))))))))))))))))))))))))))))⟩
    case step =>
      rintro n st K' hK1 hK2 ⟨i, r, hn, hi, hr, hrb, hv, x, rfl⟩
      have hl1 : _ < 4294967296 := getD_lt (B := B32) (by decide) hl i.toNat
      refine ifB_mk (fun h => ?_) (fun h => ?_)
      · simp only [decide_eq_true_eq] at h
        refine And.intro (by (try dsimp only); omega) ?_
        show ∃ n, wpLoop _ n _ _
        refine loop_rule (fun n2 st => ∃ (j c : Int) (r : List Nat), (n2 : Int) = m.length - j ∧ 0 ≤ j ∧ 0 ≤ c ∧ c < 4294967296 ∧ r.length = l.length + m.length ∧ (∀ x ∈ r, x < B32) ∧ val B32 (r.take (i.toNat + m.length)) + B32 ^ (i.toNat + j.toNat) * c.toNat = val B32 (l.take i.toNat) * val B32 m + B32 ^ i.toNat * (List.getD l i.toNat 0 * val B32 (m.take j.toNat)) ∧ ∃ x, st = ⟨pat x 0 [some (.words l), some (.words m), none, none, some (.nil), some (.row 0), some (.int .i64 i), some (.int .u32 (List.getD l i.toNat 0 : Nat)), some (.int .u64 c), none, none, none, none, none, none, none, none, none, none, none, none, none, none, none, none, none, some (.words l), some (.int .i64 (List.length l : Nat)), some (.int .i64 i), none, none, none, none, some (.words m), some (.int .i64 (List.length m : Nat)), some (.int .i64 j), none, none, none, none, none, none, none, none, none, none, none, none, none, none, none, none, none, none, none, none, none, none, none, none, none, none, none, none, none, none, none, none, none, none, none, none, none, none, none, none], [.row r]⟩) ?step2 (n := m.length) ?init2
        case init2 => exact ⟨_, _, _, by (try dsimp only); omega, by omega, by omega, by omega, hr, hrb, by simpa [val] using hv, (fits (.s rfl (.s rfl (.n (.n (.s rfl (.s rfl (.s rfl (.s rfl (.s rfl (.n (.n (.n (.n (.n (.n (.n (.n (.n (.n (.n (.n (.n (.n (.n (.n (.n (.s rfl (.s rfl (.s rfl (.n (.n (.n (.n (.s rfl (.s rfl (.s rfl (.n (.n (.n (.n (.n (.n (.n (.n (.n (.n (.n (.n (.n (.n (.n (.n (.n (.n (.n (.n (.n (.n (.n (.n (.n (.n (.n (.n (.n (.n (.n (.n (.n (.n (.n (.n (.n (.n (.n (.n .nil)))))))))))))))))))))))))))))))))))))))))))))))))))))))))))))))))))))))))))))⟩
        case step2 =>
          rintro n2 st K2 hK3 hK4 ⟨j, c, r, hn2, hj, hc0, hc1, hr, hrb, hv, x, rfl⟩
          have hm1 : _ < 4294967296 := getD_lt (B := B32) (by decide) hm j.toNat
          have hr1 : _ < 4294967296 := getD_lt (B := B32) (by decide) hrb (i + j).toNat
          refine ifB_mk (fun h => ?_) (fun h => ?_)
          · simp only [decide_eq_true_eq] at h
            obtain ⟨hb0, hb1⟩ := mul_bound (a := (List.getD l i.toNat 0 : Nat)) (b := (m.getD j.toNat 0 : Nat)) (c := (r.getD (i + j).toNat 0 : Nat)) (d := c) (by omega) (by omega) (by omega) (by omega) (by omega) (by omega) hc0 hc1
            have hp0 : (0 : Int) ≤ (List.getD l i.toNat 0 : Nat) * (m.getD j.toNat 0 : Nat) := Int.mul_nonneg (by omega) (by omega)
            refine And.intro (by (try dsimp only); omega) ?_
            refine And.intro (by (try dsimp only); omega) ?_
            refine And.intro (by (try dsimp only); omega) ?_
            refine And.intro (by (try dsimp only); omega) ?_
            refine And.intro (by (try dsimp only); omega) ?_
            refine And.intro (by (try dsimp only); omega) ?_
            refine And.intro ⟨by omega, rfl, by omega, by omega⟩ ?_
            refine And.intro (by omega) ?_
            refine And.intro (by (try dsimp only); omega) ?_
            refine hK3 (n2 - 1) _ (by omega) ⟨_, _, _, ?_, ?_, ?_, ?_, ?_, ?_, ?_, (fits (.s rfl (.s rfl (.n (.n (.s rfl (.s rfl (.s rfl (.s rfl (.s rfl (.n (.n (.n (.n (.n (.n (.n (.n (.n (.n (.n (.n (.n (.n (.n (.n (.n (.s rfl (.s rfl (.s rfl (.n (.n (.n (.n (.s rfl (.s rfl (.s rfl (.n (.n (.n (.n (.n (.n (.n (.n (.n (.n (.n (.n (.n (.n (.n (.n (.n (.n (.n (.n (.n (.n (.n (.n (.n (.n (.n (.n (.n (.n (.n (.n (.n (.n (.n (.n (.n (.n (.n (.n .nil)))))))))))))))))))))))))))))))))))))))))))))))))))))))))))))))))))))))))))))⟩
            all_goals have q1 : ((List.getD l i.toNat 0 : Nat) : Int) % 18446744073709551616 = (List.getD l i.toNat 0 : Nat) := by omega
            all_goals have q2 : ((m.getD j.toNat 0 : Nat) : Int) % 18446744073709551616 = (m.getD j.toNat 0 : Nat) := by omega
            all_goals try simp only [q1, q2]
            all_goals try rw [Int.fdiv_eq_ediv_of_nonneg _ (by decide)]
            · omega
            · omega
            · show 0 ≤ _ / (4294967296 : Int); omega
            · show _ / (4294967296 : Int) < _; omega
            · simpa using hr
            · exact set_lt hrb (by simp only [B32]; omega)
            · have e2 : (i + j).toNat = i.toNat + j.toNat := by omega
              have e3 : (j + 1).toNat = j.toNat + 1 := by omega
              rw [e3]
              have := mul_step (B := B32) (r := r) (m := m) (i := i.toNat) (j := j.toNat) (n := i.toNat + m.length) (c := c.toNat) (w := List.getD l i.toNat 0) (V := val B32 (l.take i.toNat) * val B32 m)
                (d := (((((List.getD l i.toNat 0 : Nat) : Int) * (m.getD j.toNat 0 : Nat) % 18446744073709551616 + (r.getD (i + j).toNat 0 : Nat) % 18446744073709551616) % 18446744073709551616 + c) % 18446744073709551616 % 4294967296).toNat)
                (c' := (((((List.getD l i.toNat 0 : Nat) : Int) * (m.getD j.toNat 0 : Nat) % 18446744073709551616 + (r.getD (i + j).toNat 0 : Nat) % 18446744073709551616) % 18446744073709551616 + c) % 18446744073709551616 / 4294967296).toNat)
                (by omega) (by omega) hv ?_
              · rw [e2] at this ⊢
                exact this
              · rw [e2] at hb0 hb1 ⊢
                have h9 : ((List.getD l i.toNat 0 * m.getD j.toNat 0 : Nat) : Int) = (List.getD l i.toNat 0 : Nat) * (m.getD j.toNat 0 : Nat) := Int.natCast_mul _ _
                simp only [B32]
                omega
          · simp only [decide_eq_false_iff_not] at h
            have hjl : j = m.length := by (try dsimp only at h); omega
            refine hK4 _ _ (by simp) ?_
            refine And.intro (by (try dsimp only); omega) ?_
            refine And.intro (by (try dsimp only); omega) ?_
            refine And.intro ⟨by (try dsimp only); omega, rfl, by omega, by omega⟩ ?_
            refine And.intro (by (try dsimp only); omega) ?_
            refine hK1 (n - 1) _ (by omega) ⟨_, _, ?_, ?_, ?_, ?_, ?_, (fits (.s rfl (.s rfl (.n (.n (.s rfl (.s rfl (.n (.n (.n (.n (.n (.n (.n (.n (.n (.n (.n (.n (.n (.n (.n (.n (.n (.n (.n (.n (.s rfl (.s rfl (.s rfl (.n (.n (.n (.n (.n (.n (.n (.n (.n (.n (.n (.n (.n (.n (.n (.n (.n (.n (.n (.n (.n (.n (.n (.n (.n (.n (.n (.n (.n (.n (.n (.n (.n (.n (.n (.n (.n (.n (.n (.n (.n (.n (.n (.n (.n (.n (.n .nil)))))))))))))))))))))))))))))))))))))))))))))))))))))))))))))))))))))))))))))⟩
            · omega
            · omega
            · simpa using hr
            · exact set_lt hrb (by simp only [B32]; omega)
            · have e4 : (i + ((List.length m : Nat) : Int)).toNat = i.toNat + m.length := by omega
              have e5 : (i + 1).toNat + m.length = i.toNat + m.length + 1 := by omega
              have e6 : (c % 4294967296).toNat = c.toNat := by omega
              have e7 : (i + 1).toNat = i.toNat + 1 := by omega
              have e8 : j.toNat = m.length := by omega
              rw [e8, List.take_of_length_le (Nat.le_refl _)] at hv
              rw [e4, e5, e6, e7, val_set_succ _ _ _ _ (by omega), hv, val_take_succ, Nat.add_mul, Nat.mul_assoc]
      · simp only [decide_eq_false_iff_not] at h
        have hil : i.toNat = l.length := by (try dsimp only at h); omega
        refine hK2 _ _ (by simp) ?_
        refine And.intro ⟨hrb, by omega⟩ ?_
        show K _
        refine hK _ ⟨rfl, ?_⟩
        rw [hil, List.take_of_length_le (by omega), List.take_of_length_le (by omega)] at hv
        have hgoal : Sub (.n32 (val B32 r)) (.n32 (val B32 l * val B32 m)) := by rw [hv]; exact Sub.refl _
        exact hgoal
end Iv
end Go.Proofs.YtfajgibpidlojaaDoor
end

section
/- Contracts of the words' functions, part G: Shl. Conditions: the result is no longer than cap30. -/
set_option linter.unusedVariables false
set_option linter.unusedSimpArgs false
set_option maxHeartbeats 2000000
set_option maxRecDepth 4000
namespace Go.Proofs.YtfajgibpidlojaaDoor
namespace Iv
open Go Go.Proofs

theorem zeros_get (n k : Nat) : (List.replicate n 0).getD k 0 = 0 := by
  simp only [List.getD_eq_getElem?_getD, List.getElem?_replicate]
  split <;> rfl
/-- One digit, shifted. -/
theorem shl_digit {w e : Nat} (hw : w < 4294967296) (he : e < 32) : ∃ z hi, w * 2 ^ e = 2 ^ e * z + 4294967296 * hi ∧ 2 ^ e * z + 2 ^ e ≤ 4294967296 ∧ hi < 2 ^ e ∧ w * 2 ^ e < 18446744073709551616 ∧ 2 ^ e ≤ 2147483648 := by
  have hPQ : 2 ^ e * 2 ^ (32 - e) = 4294967296 := by rw [← Nat.pow_add, show e + (32 - e) = 32 by omega]
  have hP : 0 < 2 ^ e := Nat.pow_pos (by decide)
  have hQ : 0 < 2 ^ (32 - e) := Nat.pow_pos (by decide)
  have hP2 : 2 ^ e ≤ 2 ^ 31 := Nat.pow_le_pow_right (by decide) (by omega)
  refine ⟨w % 2 ^ (32 - e), w / 2 ^ (32 - e), ?_, ?_, ?_, ?_, hP2⟩
  · have := Nat.div_add_mod w (2 ^ (32 - e))
    rw [← hPQ, Nat.mul_assoc, ← Nat.mul_add, Nat.add_comm (w % _), this, Nat.mul_comm]
  · have h1 : w % 2 ^ (32 - e) + 1 ≤ 2 ^ (32 - e) := Nat.mod_lt _ hQ
    have := Nat.mul_le_mul_left (2 ^ e) h1
    rw [hPQ, Nat.mul_add] at this
    omega
  · refine Nat.div_lt_of_lt_mul ?_
    rw [Nat.mul_comm, hPQ]
    exact hw
  · have h1 : w * 2 ^ e ≤ w * 2 ^ 31 := Nat.mul_le_mul_left _ hP2
    have : (2 : Nat) ^ 31 = 2147483648 := rfl
    omega
theorem shl_step {B : Nat} {r l : List Nat} {k i q P lo hi x : Nat} (hk : k = q + i) (hr : k + 1 < r.length) (h : val B (r.take (k + 1)) = B ^ q * (val B (l.take i) * P)) (hx : x = r.getD k 0 + lo) (hs : lo + B * hi = l.getD i 0 * P) :
    val B (((r.set k x).set (k + 1) hi).take (k + 1 + 1)) = B ^ q * (val B (l.take (i + 1)) * P) := by
  rw [val_set_succ _ _ _ _ (by simpa using hr), val_set_succ _ _ _ _ (by omega), val_take_succ B l i, Nat.add_mul, Nat.mul_add, ← h, val_take_succ B r k, hx]
  have h1 : B ^ q * (B ^ i * l.getD i 0 * P) = B ^ k * (lo + B * hi) := by
    rw [hs, hk, Nat.pow_add, Nat.mul_assoc, Nat.mul_assoc]
  rw [h1, Nat.pow_succ, Nat.mul_add, Nat.mul_add, Nat.mul_assoc]
  omega
theorem or32 {x y : Int} {k : Nat} {z : Int} (hx : 0 ≤ x) (hx2 : x < 2 ^ k) (hy : y = 2 ^ k * z) (hz : 0 ≤ z) (hy2 : y < 4294967296) (hx3 : x < 4294967296) :
    IntKind.u32.wrap (((BitVec.ofInt 32 x ||| BitVec.ofInt 32 y).toNat : Nat) : Int) = (x + y) % 4294967296 := by
  obtain ⟨a, rfl⟩ := Int.eq_ofNat_of_zero_le hx
  obtain ⟨c, rfl⟩ := Int.eq_ofNat_of_zero_le hz
  have hyn : y = ((2 ^ k * c : Nat) : Int) := by rw [hy]; simp
  rw [hyn] at hy2 ⊢
  have ha : a < 2 ^ k := by
    have : ((a : Nat) : Int) < ((2 ^ k : Nat) : Int) := by simpa using hx2
    omega
  rw [BitVec.toNat_or, BitVec.ofInt_natCast, BitVec.ofInt_natCast, BitVec.toNat_ofNat, BitVec.toNat_ofNat, Nat.mod_eq_of_lt (by omega), Nat.mod_eq_of_lt (by omega)]
  have h3 : a ||| 2 ^ k * c = 2 ^ k * c + a := by
    rw [Nat.or_comm]
    exact (Nat.two_pow_add_eq_or_of_lt ha c).symm
  rw [h3, IntKind.wrap_u32]
  congr 1
  omega

theorem wshl_wp (F : TypeId) (l : List Nat) (n : Int) (hl : ∀ x ∈ l, x < B32) (hn : 0 ≤ n) (hn2 : n < 1073741824) (h1 : l.length + (n / 32).toNat + 1 ≤ cap30) (K : Except Int SV → Prop) (hK : ∀ r, SubE r (.ok (.n32 (val B32 l * 2 ^ n.toNat))) → K r) :
    wpF tb (envOfC F) (wpDraw tb (envOfC F)) Tryd.f81 [.words l, .int .i64 n] K := by
  have h30 := c30
  refine ifB_mk (fun h => ?_) (fun h => ?_)
  · show K _
    refine hK _ ⟨rfl, ?_⟩
    have : l = [] := by simpa using h
    subst this
    have hgoal : Sub .nil (.n32 (val B32 [] * 2 ^ n.toNat)) := by simp only [val, Nat.zero_mul]; exact Sub.nil32
    exact hgoal
  · have hq : n.tdiv 32 = n / 32 := Int.tdiv_eq_ediv_of_nonneg hn
    have he : n.tmod 32 = n % 32 := Int.tmod_eq_emod_of_nonneg hn
    refine And.intro ⟨by decide, by omega⟩ ?_
    refine And.intro (by decide) ?_
    refine And.intro (by (try dsimp only); omega) ?_
    refine And.intro (by (try dsimp only); omega) ?_
    refine And.intro (by (try dsimp only); omega) ?_
    show ∃ n, wpLoop _ n _ _
    refine loop_rule (fun n2 st => ∃ (i q e : Int) (r : List Nat), (n2 : Int) = l.length - i ∧ 0 ≤ i ∧ q = n / 32 ∧ e = n % 32 ∧ r.length = l.length + q.toNat + 1 ∧ (∀ x ∈ r, x < B32) ∧ r.getD (q.toNat + i.toNat) 0 < 2 ^ e.toNat ∧ val B32 (r.take (q.toNat + i.toNat + 1)) = B32 ^ q.toNat * (val B32 (l.take i.toNat) * 2 ^ e.toNat) ∧ ∃ x, st = ⟨pat x 0 [some (.words l), some (.int .i64 n), none, none, some (.nil), some (.int .i64 q), some (.int .u64 e), some (.row 0), none, none, none, none, none, none, none, none, none, none, none, none, none, none, none, none, none, some (.words l), some (.int .i64 (List.length l : Nat)), some (.int .i64 i), none, none, none, none, none, none, none, none, none, none, none, none, none, none, none, none, none, none, none, none, none, none, none, none, none, none, none, none, none, none], [.row r]⟩) ?step (n := l.length) ?init
    case init => exact ⟨_, _, _, _, by (try dsimp only); omega, by omega, hq, by rw [he]; omega, by simp only [List.length_replicate]; rw [hq]; omega, by simp, by rw [zeros_get]; exact Nat.pow_pos (by decide), by simp [val, List.take_replicate, val_zeros], (fits (.s rfl (.s rfl (.n (.n (.s rfl (.s rfl (.s rfl (.s rfl (.n (.n (.n (.n (.n (.n (.n (.n (.n (.n (.n (.n (.n (.n (.n (.n (.n (.s rfl (.s rfl (.s rfl (.n (.n (.n (.n (.n (.n (.n (.n (.n (.n (.n (.n (.n (.n (.n (.n (.n (.n (.n (.n (.n (.n (.n (.n (.n (.n (.n (.n (.n (.n .nil)))))))))))))))))))))))))))))))))))))))))))))))))))))))))))⟩
    case step =>
      rintro n2 st K' hK1 hK2 ⟨i, q, e, r, hn2', hi, hqq, hee, hr, hrb, hlow, hv, x, rfl⟩
      have hl1 : _ < 4294967296 := getD_lt (B := B32) (by decide) hl i.toNat
      have hmin : min e.toNat IntKind.u64.bits = e.toNat := Nat.min_eq_left (by show _ ≤ 64; omega)
      refine ifB_mk (fun h => ?_) (fun h => ?_)
      · simp only [decide_eq_true_eq] at h
        have e1 : (q + i).toNat = q.toNat + i.toNat := by omega
        have e2 : (q + i + 1).toNat = q.toNat + i.toNat + 1 := by omega
        obtain ⟨z, hi', hw1, hw2, hw3, hw4, hw5⟩ := shl_digit (w := l.getD i.toNat 0) (e := e.toNat) hl1 (by omega)
        have hr1 : r.getD (q + i).toNat 0 < 2 ^ e.toNat := by rw [e1]; exact hlow
        have hS : ((l.getD i.toNat 0 : Nat) : Int) % 18446744073709551616 * 2 ^ min e.toNat IntKind.u64.bits % 18446744073709551616 = ((2 ^ e.toNat * z + 4294967296 * hi' : Nat) : Int) := by
          rw [hmin, ← hw1, Int.natCast_mul, Int.natCast_pow, show ((l.getD i.toNat 0 : Nat) : Int) % 18446744073709551616 = (l.getD i.toNat 0 : Nat) by omega]
          refine Int.emod_eq_of_lt ?_ ?_
          · exact Int.mul_nonneg (by omega) (Int.pow_nonneg (by decide))
          · have : (((l.getD i.toNat 0) * 2 ^ e.toNat : Nat) : Int) < 18446744073709551616 := by omega
            simpa using this
        have hW : IntKind.u32.wrap (((BitVec.ofInt IntKind.u32.bits ((r.getD (q + i).toNat 0 : Nat) : Int) ||| BitVec.ofInt IntKind.u32.bits (((l.getD i.toNat 0 : Nat) : Int) % 18446744073709551616 * 2 ^ min e.toNat IntKind.u64.bits % 18446744073709551616 % 4294967296)).toNat : Nat) : Int) = ((r.getD (q + i).toNat 0 + 2 ^ e.toNat * z : Nat) : Int) := by
          rw [hS]
          generalize hPg : 2 ^ e.toNat = P at *
          generalize hPz : P * z = Pz at *
          have := or32 (x := (r.getD (q + i).toNat 0 : Nat)) (y := ((Pz + 4294967296 * hi' : Nat) : Int) % 4294967296) (k := e.toNat) (z := z) (by omega) (by
              have : ((2 : Int) ^ e.toNat) = ((2 ^ e.toNat : Nat) : Int) := by simp
              rw [this, hPg]; omega) (by
              have : ((2 : Int) ^ e.toNat) = ((2 ^ e.toNat : Nat) : Int) := by simp
              rw [this, hPg, ← Int.natCast_mul, hPz]; omega) (by omega) (by omega) (by omega)
          refine (show _ = _ from this).trans ?_
          omega
        have hPn : 2 ^ e.toNat * z < 4294967296 := by have : 0 < 2 ^ e.toNat := Nat.pow_pos (by decide); omega
        refine And.intro (by (try dsimp only); omega) ?_
        refine And.intro (by (try dsimp only); omega) ?_
        refine And.intro (by (try dsimp only); omega) ?_
        refine And.intro (by (try dsimp only); omega) ?_
        refine And.intro (by (try dsimp only); omega) ?_
        refine And.intro (by (try dsimp only); omega) ?_
        refine And.intro ⟨by omega, rfl, by rw [hW]; omega, by rw [hW]; omega⟩ ?_
        refine And.intro (by (try dsimp only); omega) ?_
        refine And.intro (by (try dsimp only); omega) ?_
        refine And.intro (by omega) ?_
        refine And.intro (by simp only [List.length_set]; omega) ?_
        refine And.intro ⟨by simp only [List.length_set]; omega, rfl, by omega, by omega⟩ ?_
        refine And.intro (by (try dsimp only); omega) ?_
        have e3 : q.toNat + (i + 1).toNat = q.toNat + i.toNat + 1 := by omega
        have e4 : (i + 1).toNat = i.toNat + 1 := by omega
        have e5 : (((2 ^ e.toNat * z + 4294967296 * hi' : Nat) : Int) / (2 ^ min (Int.toNat 32) IntKind.u64.bits) % 4294967296).toNat = hi' := by
          have e7 : (2 : Int) ^ min (Int.toNat 32) IntKind.u64.bits = 4294967296 := rfl
          rw [e7]
          generalize 2 ^ e.toNat * z = Pz at *
          omega
        have e6 : ∀ a b : Nat, (((a + b : Nat) : Int)).toNat = a + b := fun a b => rfl
        refine hK1 (n2 - 1) _ (by omega) ⟨_, _, _, _, ?_, ?_, hqq, hee, ?_, ?_, ?_, ?_, (fits (.s rfl (.s rfl (.n (.n (.s rfl (.s rfl (.s rfl (.s rfl (.n (.n (.n (.n (.n (.n (.n (.n (.n (.n (.n (.n (.n (.n (.n (.n (.n (.s rfl (.s rfl (.s rfl (.n (.n (.n (.n (.n (.n (.n (.n (.n (.n (.n (.n (.n (.n (.n (.n (.n (.n (.n (.n (.n (.n (.n (.n (.n (.n (.n (.n (.n (.n .nil)))))))))))))))))))))))))))))))))))))))))))))))))))))))))))⟩
        all_goals try rw [hW]
        all_goals try rw [hS]
        all_goals try rw [Int.fdiv_eq_ediv_of_nonneg _ (by decide)]
        all_goals try rw [e1]
        all_goals try rw [e2]
        all_goals rw [e1] at hr1
        · omega
        · omega
        · simpa using hr
        · rw [e5, e6]
          exact set_lt (set_lt hrb (by simp only [B32]; omega)) (by simp only [B32]; omega)
        · rw [e5, e6, e3]
          simp only [List.getD_eq_getElem?_getD]
          rw [List.getElem?_set_self (by simp only [List.length_set]; omega)]
          exact hw3
        · rw [e5, e6, e3, e4]
          exact shl_step (k := q.toNat + i.toNat) (i := i.toNat) (q := q.toNat) (lo := 2 ^ e.toNat * z) (hi := hi') rfl (by omega) hv rfl hw1.symm
      · simp only [decide_eq_false_iff_not] at h
        have hil : i.toNat = l.length := by (try dsimp only at h); omega
        refine hK2 _ _ (by simp) ?_
        refine And.intro ⟨hrb, by omega⟩ ?_
        show K _
        refine hK _ ⟨rfl, ?_⟩
        rw [hil, List.take_of_length_le (by omega), List.take_of_length_le (by omega)] at hv
        have hgoal : Sub (.n32 (val B32 r)) (.n32 (val B32 l * 2 ^ n.toNat)) := by
          rw [hv, show n.toNat = 32 * q.toNat + e.toNat by omega, Nat.pow_add, Nat.pow_mul, Nat.mul_left_comm]
          exact Sub.refl _
        exact hgoal
end Iv
end Go.Proofs.YtfajgibpidlojaaDoor
end

section
/- Contracts of the words' functions, part H: Shr. Conditions: the list is no longer than cap30. -/
set_option linter.unusedVariables false
set_option linter.unusedSimpArgs false
set_option maxHeartbeats 2000000
set_option maxRecDepth 4000
namespace Go.Proofs.YtfajgibpidlojaaDoor
namespace Iv
open Go Go.Proofs

theorem shr_step {B V i d : Nat} {r : List Nat} (hi : i < r.length) (h : val B (r.take i) = V % B ^ i) (hd : d = V / B ^ i % B) : val B ((r.set i d).take (i + 1)) = V % B ^ (i + 1) := by
  rw [val_set_succ _ _ _ _ hi, h, hd, Nat.pow_succ, Nat.mod_mul]
theorem val_div_pow {B : Nat} (hB : 1 < B) {l : List Nat} (hl : ∀ x ∈ l, x < B) (k : Nat) : val B l / B ^ k = val B (l.drop k) := by
  by_cases hk : k ≤ l.length
  · have h1 := val_lt hB (l := l.take k) fun x hx => hl x (List.mem_of_mem_take hx)
    rw [List.length_take, Nat.min_eq_left hk] at h1
    rw [val_take_drop B l k hk, Nat.add_mul_div_left _ _ (Nat.pow_pos (by omega)), Nat.div_eq_of_lt h1, Nat.zero_add]
  · have h1 := val_lt hB hl
    have h2 : B ^ l.length ≤ B ^ k := Nat.pow_le_pow_right (by omega) (by omega)
    rw [Nat.div_eq_of_lt (by omega), List.drop_eq_nil_of_le (by omega)]
    rfl
/-- A digit of a number that is shifted to the right. -/
theorem shr_digit {l : List Nat} (hl : ∀ x ∈ l, x < B32) {e k : Nat} (he : e < 32) : val B32 (l.drop k) / 2 ^ e % B32 = (l.getD k 0 + B32 * l.getD (k + 1) 0) / 2 ^ e % B32 := by
  have hPQ : 2 ^ e * 2 ^ (32 - e) = B32 := by rw [← Nat.pow_add, show e + (32 - e) = 32 by omega]
  have hP : 0 < 2 ^ e := Nat.pow_pos (by decide)
  have hv : ∃ Y, val B32 (l.drop k) = l.getD k 0 + B32 * l.getD (k + 1) 0 + B32 * (B32 * Y) := by
    by_cases hk : k < l.length
    · rw [val_drop _ _ _ hk]
      by_cases hk2 : k + 1 < l.length
      · rw [val_drop _ _ _ hk2]
        exact ⟨val B32 (l.drop (k + 1 + 1)), by rw [Nat.mul_add]; omega⟩
      · rw [List.drop_eq_nil_of_le (by omega)]
        exact ⟨0, by simp [val, List.getD_eq_getElem?_getD, show l.length ≤ k + 1 by omega]⟩
    · rw [List.drop_eq_nil_of_le (by omega)]
      exact ⟨0, by simp [val, List.getD_eq_getElem?_getD, show l.length ≤ k by omega, show l.length ≤ k + 1 by omega]⟩
  obtain ⟨Y, hY⟩ := hv
  rw [hY]
  have : B32 * (B32 * Y) = 2 ^ e * (B32 * (2 ^ (32 - e) * Y)) := by
    conv => lhs; rw [← hPQ]
    rw [Nat.mul_assoc, hPQ, Nat.mul_left_comm (2 ^ (32 - e))]
  rw [this, Nat.add_mul_div_left _ _ hP, Nat.add_mul_mod_self_left]
theorem or_add' {x y : Int} (hx : 0 ≤ x) (hx2 : x < 4294967296) (hy : 0 ≤ y) (hy2 : y < 4294967296) :
    IntKind.u64.wrap (((BitVec.ofInt 64 (y % 18446744073709551616) ||| BitVec.ofInt 64 (x % 18446744073709551616 * 4294967296 % 18446744073709551616)).toNat : Nat) : Int) = x * 4294967296 + y := by
  rw [BitVec.or_comm, show x % 18446744073709551616 = x by omega]
  exact or_add hx hx2 hy hy2

theorem wshr_wp (F : TypeId) (l : List Nat) (n : Int) (hl : ∀ x ∈ l, x < B32) (hn : 0 ≤ n) (hn2 : n < 1099511627776) (h1 : l.length ≤ cap30) (K : Except Int SV → Prop) (hK : ∀ r, SubE r (.ok (.n32 (val B32 l / 2 ^ n.toNat))) → K r) :
    wpF tb (envOfC F) (wpDraw tb (envOfC F)) Tryd.f130 [.words l, .int .i64 n] K := by
  have h30 := c30
  have hq : n.tdiv 32 = n / 32 := Int.tdiv_eq_ediv_of_nonneg hn
  have he : n.tmod 32 = n % 32 := Int.tmod_eq_emod_of_nonneg hn
  have hpow : 2 ^ n.toNat = B32 ^ (n / 32).toNat * 2 ^ (n % 32).toNat := by
    rw [show n.toNat = 32 * (n / 32).toNat + (n % 32).toNat by omega, Nat.pow_add, Nat.pow_mul]
  have hval : val B32 l / 2 ^ n.toNat = val B32 (l.drop (n / 32).toNat) / 2 ^ (n % 32).toNat := by
    rw [hpow, ← Nat.div_div_eq_div_mul, val_div_pow (by decide) hl]
  refine And.intro ⟨by decide, by omega⟩ ?_
  refine And.intro (by decide) ?_
  refine ifB_mk (fun h => ?_) (fun h => ?_)
  · show K _
    refine hK _ ⟨rfl, ?_⟩
    simp only [decide_eq_true_eq] at h
    have hgoal : Sub .nil (.n32 (val B32 l / 2 ^ n.toNat)) := by
      rw [hval, List.drop_eq_nil_of_le (by (try dsimp only at h); omega)]
      simp only [val, Nat.zero_div]
      exact Sub.nil32
    exact hgoal
  · simp only [decide_eq_false_iff_not] at h
    refine And.intro (by (try dsimp only); omega) ?_
    refine And.intro (by (try dsimp only); omega) ?_
    show ∃ n, wpLoop _ n _ _
    refine loop_rule (fun n2 st => ∃ (i q e : Int) (r : List Nat) (t : Nat), t = r.length ∧ (n2 : Int) = l.length - q - i ∧ 0 ≤ i ∧ q = n / 32 ∧ e = n % 32 ∧ r.length = l.length - q.toNat ∧ (∀ x ∈ r, x < B32) ∧ val B32 (r.take i.toNat) = (val B32 (l.drop q.toNat) / 2 ^ e.toNat) % B32 ^ i.toNat ∧ ∃ x, st = ⟨pat x 0 [some (.words l), some (.int .i64 n), none, none, some (.nil), some (.int .i64 q), some (.int .u64 e), some (.row 0), none, none, none, none, none, none, none, none, none, none, none, none, none, none, none, none, some (.row 0), some (.int .i64 (t : Nat)), some (.int .i64 i), none, none, none, none, none, none, none, none, none, none, none, none, none, none, none, none, none, none, none, none, none, none, none, none, none, none, none, none, none, none, none, none, none, none, none, none, none], [.row r]⟩) ?step (n := l.length - (n / 32).toNat) ?init
    case init => exact ⟨0, n.tdiv 32, n.tmod 32 % 18446744073709551616, _, _, rfl, by (try dsimp only at h ⊢); omega, by omega, hq, by rw [he]; omega, by simp only [List.length_replicate]; rw [hq]; (try dsimp only); omega, by simp, by simp [val, Nat.mod_one], (fits (.s rfl (.s rfl (.n (.n (.s rfl (.s rfl (.s rfl (.s rfl (.n (.n (.n (.n (.n (.n (.n (.n (.n (.n (.n (.n (.n (.n (.n (.n (.s rfl (.s rfl (.s rfl (.n (.n (.n (.n (.n (.n (.n (.n (.n (.n (.n (.n (.n (.n (.n (.n (.n (.n (.n (.n (.n (.n (.n (.n (.n (.n (.n (.n (.n (.n (.n (.n (.n (.n (.n (.n (.n .nil)))))))))))))))))))))))))))))))))))))))))))))))))))))))))))))))))⟩
    case step =>
      rintro n2 st K' hK1 hK2 ⟨i, q, e, r, t, rfl, hn2', hi, hqq, hee, hr, hrb, hv, x, rfl⟩
      have hmin : min e.toNat IntKind.u64.bits = e.toNat := Nat.min_eq_left (by show _ ≤ 64; omega)
      have e1 : (q + i).toNat = q.toNat + i.toNat := by omega
      have e2 : (q + i + 1).toNat = q.toNat + i.toNat + 1 := by omega
      have e4 : (i + 1).toNat = i.toNat + 1 := by omega
      have hx0 : _ < 4294967296 := getD_lt (B := B32) (by decide) hl (q + i).toNat
      have hx1 : _ < 4294967296 := getD_lt (B := B32) (by decide) hl (q + i + 1).toNat
      have hdig : ∀ W : Int, W = (l.getD (q + i + 1).toNat 0 : Nat) * 4294967296 + (l.getD (q + i).toNat 0 : Nat) → (W.fdiv (2 ^ min e.toNat IntKind.u64.bits) % 4294967296).toNat = val B32 (l.drop q.toNat) / 2 ^ e.toNat / B32 ^ i.toNat % B32 := by
        intro W hW
        have h2 : (2 : Int) ^ e.toNat = ((2 ^ e.toNat : Nat) : Int) := by simp
        have h3 : W = ((l.getD (q.toNat + i.toNat) 0 + B32 * l.getD (q.toNat + i.toNat + 1) 0 : Nat) : Int) := by
          rw [hW, e1, e2]; simp only [B32]; omega
        rw [hmin, Int.fdiv_eq_ediv_of_nonneg _ (Int.pow_nonneg (by decide)), h2, h3, ← Int.natCast_ediv]
        have h4 : ∀ a : Nat, ((a : Int) % 4294967296).toNat = a % B32 := fun a => by simp only [B32]; omega
        rw [h4, ← shr_digit hl (by omega), Nat.div_div_eq_div_mul, Nat.mul_comm (2 ^ e.toNat), ← Nat.div_div_eq_div_mul, val_div_pow (by decide) fun x hx => hl x (List.mem_of_mem_drop hx), List.drop_drop]
      refine ifB_mk (fun h => ?_) (fun h => ?_)
      · simp only [decide_eq_true_eq] at h
        refine And.intro (by (try dsimp only); omega) ?_
        refine And.intro (by (try dsimp only); omega) ?_
        refine And.intro (by (try dsimp only); omega) ?_
        refine And.intro (by (try dsimp only); omega) ?_
        refine ifB_mk (fun h3 => ?_) (fun h3 => ?_)
        · refine And.intro (by (try dsimp only); omega) ?_
          refine And.intro (by (try dsimp only); omega) ?_
          simp only [decide_eq_true_eq] at h3
          refine And.intro (by (try dsimp only); omega) ?_
          refine And.intro (by omega) ?_
          refine And.intro (by omega) ?_
          refine And.intro (by (try dsimp only); omega) ?_
          refine And.intro ⟨by omega, rfl, by omega, by omega⟩ ?_
          refine And.intro (by (try dsimp only); omega) ?_
          refine hK1 (n2 - 1) _ (by omega) ⟨_, _, _, _, _, ?_, ?_, ?_, hqq, hee, ?_, ?_, ?_, (fits (.s rfl (.s rfl (.n (.n (.s rfl (.s rfl (.s rfl (.s rfl (.n (.n (.n (.n (.n (.n (.n (.n (.n (.n (.n (.n (.n (.n (.n (.n (.s rfl (.s rfl (.s rfl (.n (.n (.n (.n (.n (.n (.n (.n (.n (.n (.n (.n (.n (.n (.n (.n (.n (.n (.n (.n (.n (.n (.n (.n (.n (.n (.n (.n (.n (.n (.n (.n (.n (.n (.n (.n (.n .nil)))))))))))))))))))))))))))))))))))))))))))))))))))))))))))))))))⟩
          · simp
          · omega
          · omega
          · simpa using hr
          · exact set_lt hrb (by simp only [B32]; omega)
          · rw [e4]
            exact shr_step (by omega) hv (hdig _ (or_add' (x := (l.getD (q + i + 1).toNat 0 : Nat)) (y := (l.getD (q + i).toNat 0 : Nat)) (by omega) (by omega) (by omega) (by omega)))
        · simp only [decide_eq_false_iff_not] at h3
          have hz : l.getD (q + i + 1).toNat 0 = 0 := by
            simp [List.getD_eq_getElem?_getD, show l.length ≤ (q + i + 1).toNat by (try dsimp only at h3); omega]
          refine And.intro (by omega) ?_
          refine And.intro (by (try dsimp only); omega) ?_
          refine And.intro ⟨by omega, rfl, by omega, by omega⟩ ?_
          refine And.intro (by (try dsimp only); omega) ?_
          refine hK1 (n2 - 1) _ (by omega) ⟨_, _, _, _, _, ?_, ?_, ?_, hqq, hee, ?_, ?_, ?_, (fits (.s rfl (.s rfl (.n (.n (.s rfl (.s rfl (.s rfl (.s rfl (.n (.n (.n (.n (.n (.n (.n (.n (.n (.n (.n (.n (.n (.n (.n (.n (.s rfl (.s rfl (.s rfl (.n (.n (.n (.n (.n (.n (.n (.n (.n (.n (.n (.n (.n (.n (.n (.n (.n (.n (.n (.n (.n (.n (.n (.n (.n (.n (.n (.n (.n (.n (.n (.n (.n (.n (.n (.n (.n .nil)))))))))))))))))))))))))))))))))))))))))))))))))))))))))))))))))⟩
          · simp
          · omega
          · omega
          · simpa using hr
          · exact set_lt hrb (by simp only [B32]; omega)
          · rw [e4]
            exact shr_step (by omega) hv (hdig _ (by rw [hz]; omega))
      · simp only [decide_eq_false_iff_not] at h
        have hil : i.toNat = r.length := by (try dsimp only at h); omega
        refine hK2 _ _ (by simp) ?_
        refine And.intro ⟨hrb, by omega⟩ ?_
        show K _
        refine hK _ ⟨rfl, ?_⟩
        rw [hil, List.take_of_length_le (Nat.le_refl _)] at hv
        have hlt := val_lt (B := B32) (by decide) (l := l.drop q.toNat) fun x hx => hl x (List.mem_of_mem_drop hx)
        rw [List.length_drop, ← hr] at hlt
        have hlt2 : val B32 (l.drop q.toNat) / 2 ^ e.toNat < B32 ^ r.length := Nat.lt_of_le_of_lt (Nat.div_le_self _ _) hlt
        rw [Nat.mod_eq_of_lt hlt2] at hv
        have hgoal : Sub (.n32 (val B32 r)) (.n32 (val B32 l / 2 ^ n.toNat)) := by
          rw [hval, hv, hqq, hee]
          exact Sub.refl _
        exact hgoal
end Iv
end Go.Proofs.YtfajgibpidlojaaDoor
end

section
/- Contracts of the reference's functions, part J: small. Conditions: the digits are below 2^16, the divisor is a digit and not 0. -/
set_option linter.unusedVariables false
set_option linter.unusedSimpArgs false
set_option maxHeartbeats 2000000
set_option maxRecDepth 4000
namespace Go.Proofs.YtfajgibpidlojaaDoor
namespace Iv
open Go Go.Proofs

theorem small16_wp (F : TypeId) (l : List Nat) (d : Int) (hl : ∀ x ∈ l, x < B16) (h1 : l.length ≤ cap30) (hd0 : 0 < d) (hd1 : d < 65536) (K : Except Int SV → Prop) (hK : ∀ r, SubE r (.ok (.tup [.n16 (val B16 l / d.toNat), .int .u32 (val B16 l % d.toNat : Nat)])) → K r) :
    wpF tb (envTrim F) (wpDraw tb (envTrim F)) Tryd.f163 [.words l, .int .u32 d] K := by
  have h30 := c30
  refine And.intro (by (try dsimp only); omega) ?_
  refine And.intro (by (try dsimp only); omega) ?_
  show ∃ n, wpLoop _ n _ _
  refine loop_rule (fun n st => ∃ (i c : Int) (r : List Nat), (n : Int) = i + 1 ∧ i < l.length ∧ 0 ≤ c ∧ c < d ∧ r.length = l.length ∧ (∀ x ∈ r, x < B16) ∧ val B16 (l.drop (i + 1).toNat) = d.toNat * val B16 (r.drop (i + 1).toNat) + c.toNat ∧ ∃ x, st = ⟨pat x 0 [some (.words l), some (.int .u32 d), none, none, some (.nil), some (.int .u32 0), some (.row 0), some (.int .u32 c), some (.int .i64 i), none, none, none, none, none, none, none, none, none, none, none, none, none, none, none, none, none, none, none, none, none, none, none, none, none, none, none, none, none, none], [.row r]⟩) ?step (n := l.length) ?init
  case init => exact ⟨_, _, _, by (try dsimp only); omega, by (try dsimp only); omega, by omega, by omega, by simp, by simp, by (try dsimp only); rw [List.drop_eq_nil_of_le (by omega), List.drop_eq_nil_of_le (by simp)]; simp [val], (fits (.s rfl (.s rfl (.n (.n (.s rfl (.s rfl (.s rfl (.s rfl (.s rfl (.n (.n (.n (.n (.n (.n (.n (.n (.n (.n (.n (.n (.n (.n (.n (.n (.n (.n (.n (.n (.n (.n (.n (.n (.n (.n (.n (.n (.n (.n .nil))))))))))))))))))))))))))))))))))))))))⟩
  case step =>
      rintro n st K' hK1 hK2 ⟨i, c, r, hn, hi, hc0, hc1, hr, hrb, hv, x, rfl⟩
      have hl1 : _ < 65536 := getD_lt (B := B16) (by decide) hl i.toNat
      refine ifB_mk (fun h => ?_) (fun h => ?_)
      · have h0 : 0 ≤ i := by simpa using h
        have e1 : (i + 1).toNat = i.toNat + 1 := by omega
        have hq0 : 0 ≤ (c * 65536 + (l.getD i.toNat 0 : Nat)) := by omega
        have hs : (c * 65536 % 4294967296 + (l.getD i.toNat 0 : Nat)) % 4294967296 = c * 65536 + (l.getD i.toNat 0 : Nat) := by omega
        have hq1 : (c * 65536 + (l.getD i.toNat 0 : Nat)) / d < 65536 := by
          refine Int.ediv_lt_of_lt_mul hd0 ?_
          have : (c + 1) * 65536 ≤ d * 65536 := Int.mul_le_mul_of_nonneg_right (by omega) (by decide)
          have : 65536 * d = d * 65536 := Int.mul_comm _ _
          omega
        have hq2 : 0 ≤ (c * 65536 + (l.getD i.toNat 0 : Nat)) / d := Int.ediv_nonneg hq0 (by omega)
        have hm0 : 0 ≤ (c * 65536 + (l.getD i.toNat 0 : Nat)) % d := Int.emod_nonneg _ (by omega)
        have hm1 : (c * 65536 + (l.getD i.toNat 0 : Nat)) % d < d := Int.emod_lt_of_pos _ hd0
        have hqm : d * ((c * 65536 + (l.getD i.toNat 0 : Nat)) / d) + (c * 65536 + (l.getD i.toNat 0 : Nat)) % d = c * 65536 + (l.getD i.toNat 0 : Nat) := Int.mul_ediv_add_emod _ _
        refine And.intro (by (try dsimp only); omega) ?_
        refine And.intro (by omega) ?_
        refine And.intro (by (try dsimp only); omega) ?_
        refine And.intro ⟨by omega, rfl, by omega, by omega⟩ ?_
        refine And.intro (by omega) ?_
        refine And.intro (by (try dsimp only); omega) ?_
        refine hK1 (n - 1) _ (by omega) ⟨_, _, _, ?_, ?_, ?_, ?_, ?_, ?_, ?_, (fits (.s rfl (.s rfl (.n (.n (.s rfl (.s rfl (.s rfl (.s rfl (.s rfl (.n (.n (.n (.n (.n (.n (.n (.n (.n (.n (.n (.n (.n (.n (.n (.n (.n (.n (.n (.n (.n (.n (.n (.n (.n (.n (.n (.n (.n (.n .nil))))))))))))))))))))))))))))))))))))))))⟩
        all_goals try simp only [hs, Int.tdiv_eq_ediv_of_nonneg hq0, Int.tmod_eq_emod_of_nonneg hq0]
        all_goals generalize hS : c * 65536 + (l.getD i.toNat 0 : Nat) = S at *
        · omega
        · omega
        · exact hm0
        · exact hm1
        · simpa using hr
        · exact set_lt hrb (by simp only [B16]; omega)
        · have hqq : S / d % 4294967296 = S / d := by omega
          rw [show (i - 1 + 1).toNat = i.toNat by omega, hqq, val_drop _ _ _ (by omega), drop_set _ _ _ (by omega), val, ← e1, hv]
          have hqn : d.toNat * (S / d).toNat + (S % d).toNat = B16 * c.toNat + l.getD i.toNat 0 := by
            have h7 : ((d.toNat * (S / d).toNat + (S % d).toNat : Nat) : Int) = ((B16 * c.toNat + l.getD i.toNat 0 : Nat) : Int) := by
              rw [Int.natCast_add, Int.natCast_mul, Int.toNat_of_nonneg (by omega), Int.toNat_of_nonneg hq2, Int.toNat_of_nonneg hm0, hqm]
              simp only [B16]
              omega
            omega
          simp only [Nat.mul_add]
          rw [Nat.mul_left_comm d.toNat B16]
          omega
      · have h0 : i + 1 = 0 := by simp at h; omega
        refine hK2 _ _ (by simp) ?_
        refine And.intro ⟨hrb, by omega⟩ ?_
        show K _
        refine hK _ ⟨rfl, ?_⟩
        rw [h0] at hv
        simp only [Int.toNat_zero, List.drop_zero] at hv
        have hlt : c.toNat < d.toNat := by omega
        have hgoal : Sub (.tup [.n16 (val B16 r), .int .u32 c]) (.tup [.n16 (val B16 l / d.toNat), .int .u32 (val B16 l % d.toNat : Nat)]) := by
          have h1 : val B16 l / d.toNat = val B16 r := by
            rw [hv, Nat.mul_add_div (by omega), Nat.div_eq_of_lt hlt]; omega
          have h2 : val B16 l % d.toNat = c.toNat := by
            rw [hv, Nat.mul_add_mod, Nat.mod_eq_of_lt hlt]
          rw [h1, h2, show c = (c.toNat : Int) by omega]
          exact Sub.refl _
        exact hgoal
end Iv
end Go.Proofs.YtfajgibpidlojaaDoor
end

section
/- Contracts of the reference's functions, part K: NatMul. Conditions: the digits are below 2^16, the lists together are no longer than cap30. -/
set_option linter.unusedVariables false
set_option linter.unusedSimpArgs false
set_option maxHeartbeats 2000000
set_option maxRecDepth 4000
namespace Go.Proofs.YtfajgibpidlojaaDoor
namespace Iv
open Go Go.Proofs

theorem mul_bound16 {a b c d : Int} (ha : 0 ≤ a) (ha1 : a < 65536) (hb : 0 ≤ b) (hb1 : b < 65536) (hc : 0 ≤ c) (hc1 : c < 65536) (hd : 0 ≤ d) (hd1 : d < 65536) :
    0 ≤ a * b + c + d ∧ a * b + c + d < 4294967296 := by
  have h0 : 0 ≤ a * b := Int.mul_nonneg ha hb
  have h1 : a * b ≤ 65535 * 65535 := Int.mul_le_mul (by omega) (by omega) hb (by decide)
  omega
theorem rmul_wp (F : TypeId) (l m : List Nat) (hl : ∀ x ∈ l, x < B16) (hm : ∀ x ∈ m, x < B16) (h1 : l.length + m.length ≤ cap30) (K : Except Int SV → Prop) (hK : ∀ r, SubE r (.ok (.n16 (val B16 l * val B16 m))) → K r) :
    wpF tb (envTrim F) (wpDraw tb (envTrim F)) Tryd.f143 [.words l, .words m] K := by
  have h30 := c30
  have zero : (l.length = 0 ∨ m.length = 0) → K (.ok .nil) := by
    intro h
    refine hK _ ⟨rfl, ?_⟩
    have : val B16 l * val B16 m = 0 := by
      rcases h with h | h
      · rw [List.eq_nil_of_length_eq_zero h]; simp [val]
      · rw [List.eq_nil_of_length_eq_zero h]; simp [val]
    rw [this]
    exact Sub.nil16
  refine ifB_mk (fun h => ?_) (fun h => ?_)
  · exact zero (.inl (by simp at h; simp [h]))
  · refine ifB_mk (fun h2 => ?_) (fun h2 => ?_)
    · exact zero (.inr (by simp at h2; simp [h2]))
    refine And.intro (by (try dsimp only); omega) ?_
    refine And.intro (by (try dsimp only); omega) ?_
    show ∃ n, wpLoop _ n _ _
    refine loop_rule (fun n st => ∃ (i : Int) (r : List Nat), (n : Int) = l.length - i ∧ 0 ≤ i ∧ r.length = l.length + m.length ∧ (∀ x ∈ r, x < B16) ∧ val B16 (r.take (i.toNat + m.length)) = val B16 (l.take i.toNat) * val B16 m ∧ ∃ x, st = ⟨pat x 0 [some (.words l), some (.words m), none, none, some (.nil), some (.row 0), none, none, none, none, none, none, none, none, none, none, none, none, none, none, none, none, none, none, none, none, some (.words l), some (.int .i64 (List.length l : Nat)), some (.int .i64 i), none, none, none, none, none, none, none, none, none, none, none, none, none, none, none, none, none, none, none, none, none, none, none, none, none, none, none, none, none, none, none, none, none, none, none, none, none, none, none, none, none, none, none, none, none, none, none, none], [.row r]⟩) ?step (n := l.length) ?init
    case init => exact ⟨_, _, by (try dsimp only); omega, by omega, by simp; omega, by simp, by simp [val, List.take_replicate, val_zeros], (fits (.s rfl (.s rfl (.n (.n (.s rfl (.s rfl (.n (.n (.n (.n (.n (.n (.n (.n (.n (.n (.n (.n (.n (.n (.n (.n (.n (.n (.n (.n (.s rfl (.s rfl (.s rfl (.n (.n (.n (.n (.n (.n (.n (.n (.n (.n (.n (.n (.n (.n (.n (.n (.n (.n (.n (.n (.n (.n (.n (.n (.n (.n (.n (.n (.n (.n (.n (.n (.n (.n (.n (.n (.n (.n (.n (.n (.n (.n (.n (.n (.n (.n (.n (.n .nil))))))))))))))))))))))))))))))))))))))))))))))))))))))))))))))))))))))))))))))⟩
    case step =>
      rintro n st K' hK1 hK2 ⟨i, r, hn, hi, hr, hrb, hv, x, rfl⟩
      have hl1 : _ < 65536 := getD_lt (B := B16) (by decide) hl i.toNat
      refine ifB_mk (fun h => ?_) (fun h => ?_)
      · simp only [decide_eq_true_eq] at h
        refine And.intro (by (try dsimp only); omega) ?_
        show ∃ n, wpLoop _ n _ _
        refine loop_rule (fun n2 st => ∃ (j c : Int) (r : List Nat), (n2 : Int) = m.length - j ∧ 0 ≤ j ∧ 0 ≤ c ∧ c < 65536 ∧ r.length = l.length + m.length ∧ (∀ x ∈ r, x < B16) ∧ val B16 (r.take (i.toNat + m.length)) + B16 ^ (i.toNat + j.toNat) * c.toNat = val B16 (l.take i.toNat) * val B16 m + B16 ^ i.toNat * (List.getD l i.toNat 0 * val B16 (m.take j.toNat)) ∧ ∃ x, st = ⟨pat x 0 [some (.words l), some (.words m), none, none, some (.nil), some (.row 0), some (.int .i64 i), some (.int .u32 (List.getD l i.toNat 0 : Nat)), some (.int .u64 c), none, none, none, none, none, none, none, none, none, none, none, none, none, none, none, none, none, some (.words l), some (.int .i64 (List.length l : Nat)), some (.int .i64 i), none, none, none, none, some (.words m), some (.int .i64 (List.length m : Nat)), some (.int .i64 j), none, none, none, none, none, none, none, none, none, none, none, none, none, none, none, none, none, none, none, none, none, none, none, none, none, none, none, none, none, none, none, none, none, none, none, none, none, none, none, none, none], [.row r]⟩) ?step2 (n := m.length) ?init2
        case init2 => exact ⟨_, _, _, by (try dsimp only); omega, by omega, by omega, by omega, hr, hrb, by simpa [val] using hv, (fits (.s rfl (.s rfl (.n (.n (.s rfl (.s rfl (.s rfl (.s rfl (.s rfl (.n (.n (.n (.n (.n (.n (.n (.n (.n (.n (.n (.n (.n (.n (.n (.n (.n (.s rfl (.s rfl (.s rfl (.n (.n (.n (.n (.s rfl (.s rfl (.s rfl (.n (.n (.n (.n (.n (.n (.n (.n (.n (.n (.n (.n (.n (.n (.n (.n (.n (.n (.n (.n (.n (.n (.n (.n (.n (.n (.n (.n (.n (.n (.n (.n (.n (.n (.n (.n (.n (.n (.n (.n (.n .nil))))))))))))))))))))))))))))))))))))))))))))))))))))))))))))))))))))))))))))))⟩
        case step2 =>
          rintro n2 st K2 hK3 hK4 ⟨j, c, r, hn2, hj, hc0, hc1, hr, hrb, hv, x, rfl⟩
          have hm1 : _ < 65536 := getD_lt (B := B16) (by decide) hm j.toNat
          have hr1 : _ < 65536 := getD_lt (B := B16) (by decide) hrb (i + j).toNat
          refine ifB_mk (fun h => ?_) (fun h => ?_)
          · simp only [decide_eq_true_eq] at h
            obtain ⟨hb0, hb1⟩ := mul_bound16 (a := (List.getD l i.toNat 0 : Nat)) (b := (m.getD j.toNat 0 : Nat)) (c := (r.getD (i + j).toNat 0 : Nat)) (d := c) (by omega) (by omega) (by omega) (by omega) (by omega) (by omega) hc0 hc1
            have hp0 : (0 : Int) ≤ (List.getD l i.toNat 0 : Nat) * (m.getD j.toNat 0 : Nat) := Int.mul_nonneg (by omega) (by omega)
            have q1 : ((List.getD l i.toNat 0 : Nat) : Int) % 18446744073709551616 = (List.getD l i.toNat 0 : Nat) := by omega
            have q2 : ((m.getD j.toNat 0 : Nat) : Int) % 18446744073709551616 = (m.getD j.toNat 0 : Nat) := by omega
            have hS : (((r.getD (i + j).toNat 0 : Nat) : Int) % 18446744073709551616 + ((List.getD l i.toNat 0 : Nat) : Int) % 18446744073709551616 * (((m.getD j.toNat 0 : Nat) : Int) % 18446744073709551616) % 18446744073709551616) % 18446744073709551616 + c = ((List.getD l i.toNat 0 : Nat) : Int) * (m.getD j.toNat 0 : Nat) + (r.getD (i + j).toNat 0 : Nat) + c := by
              rw [q1, q2]
              generalize ((List.getD l i.toNat 0 : Nat) : Int) * (m.getD j.toNat 0 : Nat) = p at *
              omega
            refine And.intro (by (try dsimp only); omega) ?_
            refine And.intro (by (try dsimp only); omega) ?_
            refine And.intro (by (try dsimp only); omega) ?_
            refine And.intro (by (try dsimp only); omega) ?_
            refine And.intro (by (try dsimp only); omega) ?_
            refine And.intro (by decide) ?_
            refine And.intro (by (try dsimp only); omega) ?_
            refine And.intro ⟨by omega, rfl, by omega, by omega⟩ ?_
            refine And.intro (by decide) ?_
            refine And.intro (by (try dsimp only); omega) ?_
            refine hK3 (n2 - 1) _ (by omega) ⟨_, _, _, ?_, ?_, ?_, ?_, ?_, ?_, ?_, (fits (.s rfl (.s rfl (.n (.n (.s rfl (.s rfl (.s rfl (.s rfl (.s rfl (.n (.n (.n (.n (.n (.n (.n (.n (.n (.n (.n (.n (.n (.n (.n (.n (.n (.s rfl (.s rfl (.s rfl (.n (.n (.n (.n (.s rfl (.s rfl (.s rfl (.n (.n (.n (.n (.n (.n (.n (.n (.n (.n (.n (.n (.n (.n (.n (.n (.n (.n (.n (.n (.n (.n (.n (.n (.n (.n (.n (.n (.n (.n (.n (.n (.n (.n (.n (.n (.n (.n (.n (.n (.n .nil))))))))))))))))))))))))))))))))))))))))))))))))))))))))))))))))))))))))))))))⟩
            all_goals try simp only [hS]
            all_goals generalize hp : ((List.getD l i.toNat 0 : Nat) : Int) * (m.getD j.toNat 0 : Nat) + (r.getD (i + j).toNat 0 : Nat) + c = S at *
            all_goals have hSS : S % 18446744073709551616 = S := by omega
            all_goals try simp only [hSS, Int.tdiv_eq_ediv_of_nonneg hb0, Int.tmod_eq_emod_of_nonneg hb0]
            · omega
            · omega
            · omega
            · omega
            · simpa using hr
            · exact set_lt hrb (by simp only [B16]; omega)
            · have e2 : (i + j).toNat = i.toNat + j.toNat := by omega
              have e3 : (j + 1).toNat = j.toNat + 1 := by omega
              rw [e2] at hp ⊢
              rw [e3]
              refine mul_step (by omega) (by omega) hv ?_
              have h9 : ((List.getD l i.toNat 0 * m.getD j.toNat 0 : Nat) : Int) = (List.getD l i.toNat 0 : Nat) * (m.getD j.toNat 0 : Nat) := Int.natCast_mul _ _
              simp only [B16]
              omega
          · simp only [decide_eq_false_iff_not] at h
            have hjl : j = m.length := by (try dsimp only at h); omega
            refine hK4 _ _ (by simp) ?_
            refine And.intro (by (try dsimp only); omega) ?_
            refine And.intro (by (try dsimp only); omega) ?_
            refine And.intro ⟨by (try dsimp only); omega, rfl, by omega, by omega⟩ ?_
            refine And.intro (by (try dsimp only); omega) ?_
            refine hK1 (n - 1) _ (by omega) ⟨_, _, ?_, ?_, ?_, ?_, ?_, (fits (.s rfl (.s rfl (.n (.n (.s rfl (.s rfl (.n (.n (.n (.n (.n (.n (.n (.n (.n (.n (.n (.n (.n (.n (.n (.n (.n (.n (.n (.n (.s rfl (.s rfl (.s rfl (.n (.n (.n (.n (.n (.n (.n (.n (.n (.n (.n (.n (.n (.n (.n (.n (.n (.n (.n (.n (.n (.n (.n (.n (.n (.n (.n (.n (.n (.n (.n (.n (.n (.n (.n (.n (.n (.n (.n (.n (.n (.n (.n (.n (.n (.n (.n (.n .nil))))))))))))))))))))))))))))))))))))))))))))))))))))))))))))))))))))))))))))))⟩
            · omega
            · omega
            · simpa using hr
            · exact set_lt hrb (by simp only [B16]; omega)
            · have e4 : (i + ((List.length m : Nat) : Int)).toNat = i.toNat + m.length := by omega
              have e5 : (i + 1).toNat + m.length = i.toNat + m.length + 1 := by omega
              have e6 : (c % 4294967296).toNat = c.toNat := by omega
              have e7 : (i + 1).toNat = i.toNat + 1 := by omega
              have e8 : j.toNat = m.length := by omega
              rw [e8, List.take_of_length_le (Nat.le_refl _)] at hv
              rw [e4, e5, e6, e7, val_set_succ _ _ _ _ (by omega), hv, val_take_succ, Nat.add_mul, Nat.mul_assoc]
      · simp only [decide_eq_false_iff_not] at h
        have hil : i.toNat = l.length := by (try dsimp only at h); omega
        refine hK2 _ _ (by simp) ?_
        refine And.intro ⟨hrb, by omega⟩ ?_
        show K _
        refine hK _ ⟨rfl, ?_⟩
        rw [hil, List.take_of_length_le (by omega), List.take_of_length_le (by omega)] at hv
        have hgoal : Sub (.n16 (val B16 r)) (.n16 (val B16 l * val B16 m)) := by rw [hv]; exact Sub.refl _
        exact hgoal
end Iv
end Go.Proofs.YtfajgibpidlojaaDoor
end

section
/- Contracts of the words' functions, part L: put as contracts that a caller uses. Conditions: those of parts B to H. -/
set_option linter.unusedVariables false
set_option linter.unusedSimpArgs false
namespace Go.Proofs.YtfajgibpidlojaaDoor
namespace Iv
open Go Go.Proofs

section
variable {P : Program} {F : TypeId}
def specOf {α : Type} (dec : List SV → Option α) (pre : α → Prop) (res : α → SV) (xs : List SV) : Option (Prop × Res) :=
  match dec xs with
  | some a => some (pre a, .ok (res a))
  | none => none
def mkCon {α : Type} (f : FuncId) (ent : Enters P f) (dec : List SV → Option α) (args : α → List SV) (pre : α → Prop) (res : α → SV) (hd : ∀ xs a, dec xs = some a → SubL xs (args a))
    (h : ∀ a, pre a → Holds P F f (args a) (.ok (res a))) : Con P F where
  f := f
  spec := specOf dec pre res
  ent := ent
  ok := fun xs p r hs hp => by
    unfold specOf at hs
    split at hs
    · rename_i a ha
      simp only [Option.some.injEq, Prod.mk.injEq] at hs
      obtain ⟨rfl, rfl⟩ := hs
      have hh := h a hp
      have hsub := hd xs a ha
      show Holds P F f xs (.ok (res a))
      exact fun M w vs hM hargs => hh M w vs hM (hsub _ _ _ _ _ hargs)
    · cases hs
end
def dec2_32 : List SV → Option (Nat × Nat)
  | [x, y] => match asN32 x, asN32 y with
    | some a, some b => some (a, b)
    | _, _ => none
  | _ => none
theorem dec2_32_sub (xs : List SV) (p : Nat × Nat) (h : dec2_32 xs = some p) : SubL xs [.n32 p.1, .n32 p.2] := by
  unfold dec2_32 at h
  split at h
  · split at h
    · rename_i x y a b ha hb
      simp only [Option.some.injEq] at h
      subst h
      exact SubL.cons (asN32_sub ha) (SubL.cons (asN32_sub hb) SubL.nil)
    · cases h
  · cases h
def dec2_16 : List SV → Option (Nat × Nat)
  | [x, y] => match asN16 x, asN16 y with
    | some a, some b => some (a, b)
    | _, _ => none
  | _ => none
theorem dec2_16_sub (xs : List SV) (p : Nat × Nat) (h : dec2_16 xs = some p) : SubL xs [.n16 p.1, .n16 p.2] := by
  unfold dec2_16 at h
  split at h
  · split at h
    · rename_i x y a b ha hb
      simp only [Option.some.injEq] at h
      subst h
      exact SubL.cons (asN16_sub ha) (SubL.cons (asN16_sub hb) SubL.nil)
    · cases h
  · cases h
/-- How many words, how many digits. -/
def L32 (n : Nat) : Nat := (dig32 n).length
def L16 (n : Nat) : Nat := (dig16 n).length
theorem lt32 (n : Nat) : ∀ x ∈ dig32 n, x < B32 := dig_lt (by decide) n
theorem lt16 (n : Nat) : ∀ x ∈ dig16 n, x < B16 := dig_lt (by decide) n
theorem can32 (n : Nat) : canon (dig32 n) := dig_canon (by decide) n
theorem can16 (n : Nat) : canon (dig16 n) := dig_canon (by decide) n
theorem of2_32 (a b : Nat) : SubL [.n32 a, .n32 b] [.words (dig32 a), .words (dig32 b)] := SubL.cons (Sub.of32 a) (SubL.cons (Sub.of32 b) SubL.nil)
theorem of2_16 (a b : Nat) : SubL [.n16 a, .n16 b] [.words (dig16 a), .words (dig16 b)] := SubL.cons (Sub.of16 a) (SubL.cons (Sub.of16 b) SubL.nil)
theorem L32_mono {a b : Nat} (h : a ≤ b) : L32 a ≤ L32 b := by
  have : b < B32 ^ L32 b := (dig_len_lt (by decide)).1 (Nat.le_refl _)
  exact dig_len_le (by decide) (Nat.lt_of_le_of_lt h this)
theorem wcmp_holds (F : TypeId) (p : Nat × Nat) (h : L32 p.1 ≤ cap30 ∧ L32 p.2 ≤ cap30) : Holds Tryd.prog F 126 [.n32 p.1, .n32 p.2] (.ok (.int .i64 (cmpI p.1 p.2))) :=
  holds_run mixed tb_ok (env0_ok F) Tryd.func126 rfl (by kernel_rfl) (args := [.words (dig32 p.1), .words (dig32 p.2)]) (wcmp_wp (by decide) _ _ (lt32 _) (lt32 _) (can32 _) (can32 _) h.1 h.2 _ fun _ hr => by rw [val_dig32, val_dig32] at hr; exact hr) (of2_32 p.1 p.2)
def wcmpC (F : TypeId) : Con Tryd.prog F :=
  mkCon 126 (enters_of Tryd.func126 (by kernel_rfl) rfl) dec2_32 (fun p => [.n32 p.1, .n32 p.2]) (fun p => L32 p.1 ≤ cap30 ∧ L32 p.2 ≤ cap30) (fun p => (.int .i64 (cmpI p.1 p.2))) dec2_32_sub (wcmp_holds F)
theorem wadd_holds (F : TypeId) (p : Nat × Nat) (h : L32 p.1 + 1 ≤ cap30 ∧ L32 p.2 + 1 ≤ cap30) : Holds Tryd.prog F 125 [.n32 p.1, .n32 p.2] (.ok (.n32 (p.1 + p.2))) :=
  holds_run mixed tb_ok (envOfC_ok F) Tryd.func125 rfl (by kernel_rfl) (args := [.words (dig32 p.1), .words (dig32 p.2)]) (wadd_wp F _ _ (lt32 _) (lt32 _) h.1 h.2 _ fun _ hr => by rw [val_dig32, val_dig32] at hr; exact hr) (of2_32 p.1 p.2)
def waddC (F : TypeId) : Con Tryd.prog F :=
  mkCon 125 (enters_of Tryd.func125 (by kernel_rfl) rfl) dec2_32 (fun p => [.n32 p.1, .n32 p.2]) (fun p => L32 p.1 + 1 ≤ cap30 ∧ L32 p.2 + 1 ≤ cap30) (fun p => (.n32 (p.1 + p.2))) dec2_32_sub (wadd_holds F)
theorem wsub_holds (F : TypeId) (p : Nat × Nat) (h : p.2 ≤ p.1 ∧ L32 p.1 ≤ cap30) : Holds Tryd.prog F 127 [.n32 p.1, .n32 p.2] (.ok (.n32 (p.1 - p.2))) :=
  holds_run mixed tb_ok (envOfC_ok F) Tryd.func127 rfl (by kernel_rfl) (args := [.words (dig32 p.1), .words (dig32 p.2)]) (wsub_wp F _ _ (lt32 _) (lt32 _) h.2 (L32_mono h.1) (by rw [val_dig32, val_dig32]; exact h.1) _ fun _ hr => by rw [val_dig32, val_dig32] at hr; exact hr) (of2_32 p.1 p.2)
def wsubC (F : TypeId) : Con Tryd.prog F :=
  mkCon 127 (enters_of Tryd.func127 (by kernel_rfl) rfl) dec2_32 (fun p => [.n32 p.1, .n32 p.2]) (fun p => p.2 ≤ p.1 ∧ L32 p.1 ≤ cap30) (fun p => (.n32 (p.1 - p.2))) dec2_32_sub (wsub_holds F)
theorem wmul_holds (F : TypeId) (p : Nat × Nat) (h : L32 p.1 + L32 p.2 ≤ cap30) : Holds Tryd.prog F 124 [.n32 p.1, .n32 p.2] (.ok (.n32 (p.1 * p.2))) :=
  holds_run mixed tb_ok (envOfC_ok F) Tryd.func124 rfl (by kernel_rfl) (args := [.words (dig32 p.1), .words (dig32 p.2)]) (wmul_wp F _ _ (lt32 _) (lt32 _) h _ fun _ hr => by rw [val_dig32, val_dig32] at hr; exact hr) (of2_32 p.1 p.2)
def wmulC (F : TypeId) : Con Tryd.prog F :=
  mkCon 124 (enters_of Tryd.func124 (by kernel_rfl) rfl) dec2_32 (fun p => [.n32 p.1, .n32 p.2]) (fun p => L32 p.1 + L32 p.2 ≤ cap30) (fun p => (.n32 (p.1 * p.2))) dec2_32_sub (wmul_holds F)
theorem rcmp_holds (F : TypeId) (p : Nat × Nat) (h : L16 p.1 ≤ cap30 ∧ L16 p.2 ≤ cap30) : Holds Tryd.prog F 142 [.n16 p.1, .n16 p.2] (.ok (.int .i64 (cmpI p.1 p.2))) :=
  holds_run mixed tb_ok (env0_ok F) Tryd.func142 rfl (by kernel_rfl) (args := [.words (dig16 p.1), .words (dig16 p.2)]) (rcmp_wp (by decide) _ _ (lt16 _) (lt16 _) (can16 _) (can16 _) h.1 h.2 _ fun _ hr => by rw [val_dig16, val_dig16] at hr; exact hr) (of2_16 p.1 p.2)
def rcmpC (F : TypeId) : Con Tryd.prog F :=
  mkCon 142 (enters_of Tryd.func142 (by kernel_rfl) rfl) dec2_16 (fun p => [.n16 p.1, .n16 p.2]) (fun p => L16 p.1 ≤ cap30 ∧ L16 p.2 ≤ cap30) (fun p => (.int .i64 (cmpI p.1 p.2))) dec2_16_sub (rcmp_holds F)
theorem rmul_holds (F : TypeId) (p : Nat × Nat) (h : L16 p.1 + L16 p.2 ≤ cap30) : Holds Tryd.prog F 143 [.n16 p.1, .n16 p.2] (.ok (.n16 (p.1 * p.2))) :=
  holds_run mixed tb_ok (envTrim_ok F) Tryd.func143 rfl (by kernel_rfl) (args := [.words (dig16 p.1), .words (dig16 p.2)]) (rmul_wp F _ _ (lt16 _) (lt16 _) h _ fun _ hr => by rw [val_dig16, val_dig16] at hr; exact hr) (of2_16 p.1 p.2)
def rmulC (F : TypeId) : Con Tryd.prog F :=
  mkCon 143 (enters_of Tryd.func143 (by kernel_rfl) rfl) dec2_16 (fun p => [.n16 p.1, .n16 p.2]) (fun p => L16 p.1 + L16 p.2 ≤ cap30) (fun p => (.n16 (p.1 * p.2))) dec2_16_sub (rmul_holds F)
def dec_32_i64 : List SV → Option (Nat × Int)
  | [x, .int .i64 n] => match asN32 x with
    | some a => some (a, n)
    | none => none
  | _ => none
theorem dec_32_i64_sub (xs : List SV) (p : Nat × Int) (h : dec_32_i64 xs = some p) : SubL xs [.n32 p.1, .int .i64 p.2] := by
  unfold dec_32_i64 at h
  split at h
  · split at h
    · rename_i x n a ha
      simp only [Option.some.injEq] at h
      subst h
      exact SubL.cons (asN32_sub ha) (SubL.cons (Sub.refl _) SubL.nil)
    · cases h
  · cases h
def dec_32_u32 : List SV → Option (Nat × Int)
  | [x, .int .u32 n] => match asN32 x with
    | some a => some (a, n)
    | none => none
  | _ => none
theorem dec_32_u32_sub (xs : List SV) (p : Nat × Int) (h : dec_32_u32 xs = some p) : SubL xs [.n32 p.1, .int .u32 p.2] := by
  unfold dec_32_u32 at h
  split at h
  · split at h
    · rename_i x n a ha
      simp only [Option.some.injEq] at h
      subst h
      exact SubL.cons (asN32_sub ha) (SubL.cons (Sub.refl _) SubL.nil)
    · cases h
  · cases h
def dec_16_u32 : List SV → Option (Nat × Int)
  | [x, .int .u32 n] => match asN16 x with
    | some a => some (a, n)
    | none => none
  | _ => none
theorem dec_16_u32_sub (xs : List SV) (p : Nat × Int) (h : dec_16_u32 xs = some p) : SubL xs [.n16 p.1, .int .u32 p.2] := by
  unfold dec_16_u32 at h
  split at h
  · split at h
    · rename_i x n a ha
      simp only [Option.some.injEq] at h
      subst h
      exact SubL.cons (asN16_sub ha) (SubL.cons (Sub.refl _) SubL.nil)
    · cases h
  · cases h
def dec_u64 : List SV → Option Int
  | [.int .u64 n] => some n
  | _ => none
theorem dec_u64_sub (xs : List SV) (p : Int) (h : dec_u64 xs = some p) : SubL xs [.int .u64 p] := by
  unfold dec_u64 at h
  split at h
  · simp only [Option.some.injEq] at h
    subst h
    exact SubL.cons (Sub.refl _) SubL.nil
  · cases h
theorem small_holds (F : TypeId) (p : Int) (h : 0 ≤ p ∧ p < 18446744073709551616) : Holds Tryd.prog F 123 [.int .u64 p] (.ok (.n32 p.toNat)) :=
  holds_run mixed tb_ok (envOfC_ok F) Tryd.func123 rfl (by kernel_rfl) (args := [.int .u64 p]) (small_wp F p h.1 h.2 _ fun _ hr => hr) (SubL.cons (Sub.refl _) SubL.nil)
def smallC (F : TypeId) : Con Tryd.prog F :=
  mkCon 123 (enters_of Tryd.func123 (by kernel_rfl) rfl) dec_u64 (fun p => [.int .u64 p]) (fun p => 0 ≤ p ∧ p < 18446744073709551616) (fun p => (.n32 p.toNat)) dec_u64_sub (small_holds F)
theorem divsmall_holds (F : TypeId) (p : Nat × Int) (h : L32 p.1 ≤ cap30 ∧ 0 < p.2 ∧ p.2 < 4294967296) : Holds Tryd.prog F 156 [.n32 p.1, .int .u32 p.2] (.ok (.tup [.n32 (p.1 / p.2.toNat), .int .u32 (p.1 % p.2.toNat : Nat)])) :=
  holds_run mixed tb_ok (envOfC_ok F) Tryd.func156 rfl (by kernel_rfl) (args := [.words (dig32 p.1), .int .u32 p.2]) (divsmall_wp F _ p.2 (lt32 _) h.1 h.2.1 h.2.2 _ fun _ hr => by rw [val_dig32] at hr; exact hr) (SubL.cons (Sub.of32 p.1) (SubL.cons (Sub.refl _) SubL.nil))
def divsmallC (F : TypeId) : Con Tryd.prog F :=
  mkCon 156 (enters_of Tryd.func156 (by kernel_rfl) rfl) dec_32_u32 (fun p => [.n32 p.1, .int .u32 p.2]) (fun p => L32 p.1 ≤ cap30 ∧ 0 < p.2 ∧ p.2 < 4294967296) (fun p => (.tup [.n32 (p.1 / p.2.toNat), .int .u32 (p.1 % p.2.toNat : Nat)])) dec_32_u32_sub (divsmall_holds F)
theorem wshl_holds (F : TypeId) (p : Nat × Int) (h : 0 ≤ p.2 ∧ p.2 < 1073741824 ∧ L32 p.1 + (p.2 / 32).toNat + 1 ≤ cap30) : Holds Tryd.prog F 81 [.n32 p.1, .int .i64 p.2] (.ok (.n32 (p.1 * 2 ^ p.2.toNat))) :=
  holds_run mixed tb_ok (envOfC_ok F) Tryd.func81 rfl (by kernel_rfl) (args := [.words (dig32 p.1), .int .i64 p.2]) (wshl_wp F _ p.2 (lt32 _) h.1 h.2.1 h.2.2 _ fun _ hr => by rw [val_dig32] at hr; exact hr) (SubL.cons (Sub.of32 p.1) (SubL.cons (Sub.refl _) SubL.nil))
def wshlC (F : TypeId) : Con Tryd.prog F :=
  mkCon 81 (enters_of Tryd.func81 (by kernel_rfl) rfl) dec_32_i64 (fun p => [.n32 p.1, .int .i64 p.2]) (fun p => 0 ≤ p.2 ∧ p.2 < 1073741824 ∧ L32 p.1 + (p.2 / 32).toNat + 1 ≤ cap30) (fun p => (.n32 (p.1 * 2 ^ p.2.toNat))) dec_32_i64_sub (wshl_holds F)
theorem wshr_holds (F : TypeId) (p : Nat × Int) (h : 0 ≤ p.2 ∧ p.2 < 1099511627776 ∧ L32 p.1 ≤ cap30) : Holds Tryd.prog F 130 [.n32 p.1, .int .i64 p.2] (.ok (.n32 (p.1 / 2 ^ p.2.toNat))) :=
  holds_run mixed tb_ok (envOfC_ok F) Tryd.func130 rfl (by kernel_rfl) (args := [.words (dig32 p.1), .int .i64 p.2]) (wshr_wp F _ p.2 (lt32 _) h.1 h.2.1 h.2.2 _ fun _ hr => by rw [val_dig32] at hr; exact hr) (SubL.cons (Sub.of32 p.1) (SubL.cons (Sub.refl _) SubL.nil))
def wshrC (F : TypeId) : Con Tryd.prog F :=
  mkCon 130 (enters_of Tryd.func130 (by kernel_rfl) rfl) dec_32_i64 (fun p => [.n32 p.1, .int .i64 p.2]) (fun p => 0 ≤ p.2 ∧ p.2 < 1099511627776 ∧ L32 p.1 ≤ cap30) (fun p => (.n32 (p.1 / 2 ^ p.2.toNat))) dec_32_i64_sub (wshr_holds F)
theorem small16_holds (F : TypeId) (p : Nat × Int) (h : L16 p.1 ≤ cap30 ∧ 0 < p.2 ∧ p.2 < 65536) : Holds Tryd.prog F 163 [.n16 p.1, .int .u32 p.2] (.ok (.tup [.n16 (p.1 / p.2.toNat), .int .u32 (p.1 % p.2.toNat : Nat)])) :=
  holds_run mixed tb_ok (envTrim_ok F) Tryd.func163 rfl (by kernel_rfl) (args := [.words (dig16 p.1), .int .u32 p.2]) (small16_wp F _ p.2 (lt16 _) h.1 h.2.1 h.2.2 _ fun _ hr => by rw [val_dig16] at hr; exact hr) (SubL.cons (Sub.of16 p.1) (SubL.cons (Sub.refl _) SubL.nil))
def small16C (F : TypeId) : Con Tryd.prog F :=
  mkCon 163 (enters_of Tryd.func163 (by kernel_rfl) rfl) dec_16_u32 (fun p => [.n16 p.1, .int .u32 p.2]) (fun p => L16 p.1 ≤ cap30 ∧ 0 < p.2 ∧ p.2 < 65536) (fun p => (.tup [.n16 (p.1 / p.2.toNat), .int .u32 (p.1 % p.2.toNat : Nat)])) dec_16_u32_sub (small16_holds F)
end Iv
end Go.Proofs.YtfajgibpidlojaaDoor
end

section
/- Contracts of the reference's functions, part O: NatOf, words, list. Conditions: the lists are no longer than a quarter of cap30. -/
set_option linter.unusedVariables false
set_option linter.unusedSimpArgs false
set_option maxHeartbeats 2000000
set_option maxRecDepth 4000
namespace Go.Proofs.YtfajgibpidlojaaDoor
namespace Iv
open Go Go.Proofs

theorem natof_wp (N : Nat) (hN : N < 18446744073709551616) (K : Except Int SV → Prop) (hK : ∀ r, SubE r (.ok (.n16 N)) → K r) :
    wpF tb env0 (wpDraw tb env0) Tryd.f108 [.int .u64 (N : Nat)] K := by
  have h30 := c30
  have hlen : (dig16 N).length ≤ 4 := dig_len_le (by decide) (by simpa using hN)
  show ∃ n, wpLoop _ n _ _
  refine loop_rule (fun m st => ∃ (n : Nat) (r : List Nat), m = (dig16 n).length ∧ n < 18446744073709551616 ∧ r ++ dig16 n = dig16 N ∧ ((r = [] ∧ ∃ x, st = ⟨pat x 0 [some (.int .u64 (n : Nat)), none, some (.nil), some (.nil), none, none, none, none, none, none, none, none, none, none, none], []⟩) ∨ ∃ x, st = ⟨pat x 0 [some (.int .u64 (n : Nat)), none, some (.nil), some (.row 0), none, none, none, none, none, none, none, none, none, none, none], [.row r]⟩)) ?step (n := (dig16 N).length) ?init
  case init => exact ⟨N, [], rfl, hN, rfl, .inl ⟨rfl, (fits (.s rfl (.n (.s rfl (.s rfl (.n (.n (.n (.n (.n (.n (.n (.n (.n (.n (.n .nil))))))))))))))))⟩⟩
  case step =>
    rintro m st K' hK1 hK2 ⟨n, r, hm, hn, hr, hst⟩
    have hrl := congrArg List.length hr
    rw [List.length_append] at hrl
    have next : n ≠ 0 → dig16 n = n % 65536 :: dig16 (n / 65536) := fun h => dig_step (by decide) h
    have e1 : ∀ n : Nat, ((Int.tmod (n : Int) 65536) % 4294967296).toNat = n % 65536 := fun n => by rw [Int.tmod_eq_emod_of_nonneg (by omega)]; omega
    have e2 : ∀ n : Nat, Int.tdiv (n : Int) 65536 % 18446744073709551616 = ((n / 65536 % 18446744073709551616 : Nat) : Int) := fun n => by rw [Int.tdiv_eq_ediv_of_nonneg (by omega)]; omega
    rcases hst with ⟨rfl, x, rfl⟩ | ⟨x, rfl⟩
    · refine ifB_mk (fun h => ?_) (fun h => ?_)
      · simp only [decide_eq_true_eq] at h
        have hn0 : n ≠ 0 := by omega
        rw [next hn0] at hm hr hrl
        simp only [List.length_cons] at hm hrl
        refine And.intro (by decide) ?_
        refine And.intro (by rw [Int.tmod_eq_emod_of_nonneg (by omega)]; omega) ?_
        refine And.intro (by simp only [List.length_singleton, List.length_nil]; omega) ?_
        refine And.intro (by decide) ?_
        refine hK1 (m - 1) _ (by omega) ⟨n / 65536, [n % 65536], by omega, by omega, hr, .inr ?_⟩
        have e3 := e2 n
        rw [Nat.mod_eq_of_lt (by omega)] at e3
        rw [← e3, ← e1 n]
        exact (fits (.s rfl (.n (.s rfl (.s rfl (.n (.n (.n (.n (.n (.n (.n (.n (.n (.n (.n .nil))))))))))))))))
      · simp only [decide_eq_false_iff_not] at h
        have hn0 : n = 0 := by omega
        refine hK2 _ _ (by simp) ?_
        show K _
        refine hK _ ?_
        subst hn0
        have : dig16 N = [] := by rw [← hr]; rfl
        have := (dig_nil (by decide)).1 this
        subst this
        exact ⟨rfl, Sub.nil16⟩
    · refine ifB_mk (fun h => ?_) (fun h => ?_)
      · simp only [decide_eq_true_eq] at h
        have hn0 : n ≠ 0 := by omega
        rw [next hn0] at hm hr hrl
        simp only [List.length_cons] at hm hrl
        refine And.intro (by decide) ?_
        refine And.intro (by rw [Int.tmod_eq_emod_of_nonneg (by omega)]; omega) ?_
        refine And.intro (by simp only [List.length_singleton]; omega) ?_
        refine And.intro (by decide) ?_
        refine hK1 (m - 1) _ (by omega) ⟨n / 65536, r ++ [n % 65536], by omega, by omega, by rw [List.append_assoc]; exact hr, .inr ?_⟩
        have e3 := e2 n
        rw [Nat.mod_eq_of_lt (by omega)] at e3
        rw [← e3, ← e1 n]
        exact (fits (.s rfl (.n (.s rfl (.s rfl (.n (.n (.n (.n (.n (.n (.n (.n (.n (.n (.n .nil))))))))))))))))
      · simp only [decide_eq_false_iff_not] at h
        have hn0 : n = 0 := by omega
        refine hK2 _ _ (by simp) ?_
        show K _
        refine hK _ ?_
        subst hn0
        have : dig16 N = r := by rw [← hr, show dig16 0 = [] from rfl, List.append_nil]
        rw [← this]
        exact ⟨rfl, Sub.w16 N⟩
theorem natof_holds (F : TypeId) (p : Int) (h : 0 ≤ p ∧ p < 18446744073709551616) : Holds Tryd.prog F 108 [.int .u64 p] (.ok (.n16 p.toNat)) := by
  obtain ⟨n, rfl⟩ := Int.eq_ofNat_of_zero_le h.1
  exact holds_run mixed tb_ok (env0_ok F) Tryd.func108 rfl (by kernel_rfl) (args := [.int .u64 (n : Nat)]) (natof_wp n (by omega) _ fun _ hr => hr) (SubL.cons (Sub.refl _) SubL.nil)
def natofC (F : TypeId) : Con Tryd.prog F :=
  mkCon 108 (enters_of Tryd.func108 (by kernel_rfl) rfl) dec_u64 (fun p => [.int .u64 p]) (fun p => 0 ≤ p ∧ p < 18446744073709551616) (fun p => .n16 p.toNat) dec_u64_sub (natof_holds F)

/-! ### words -/
/-- The half words. -/
def halves : List Nat → List Nat
  | [] => []
  | x :: xs => x % 65536 :: x / 65536 :: halves xs
theorem halves_append : ∀ (l : List Nat) (x : Nat), halves (l ++ [x]) = halves l ++ [x % 65536, x / 65536]
  | [], x => rfl
  | y :: l, x => by simp only [List.cons_append, halves, halves_append l x]
theorem val_halves : ∀ (l : List Nat), val B16 (halves l) = val B32 l
  | [] => rfl
  | x :: l => by
    simp only [halves, val, val_halves l, B16, B32]
    omega
theorem halves_lt : ∀ {l : List Nat}, (∀ x ∈ l, x < B32) → ∀ y ∈ halves l, y < B16
  | [], _, y, hy => by simp [halves] at hy
  | x :: l, h, y, hy => by
    simp only [halves, List.mem_cons] at hy
    have hx := h x (by simp)
    simp only [B32, B16] at hx ⊢
    rcases hy with rfl | rfl | hy
    · omega
    · omega
    · exact halves_lt (fun z hz => h z (by simp [hz])) y hy
theorem halves_len : ∀ (l : List Nat), (halves l).length = 2 * l.length
  | [] => rfl
  | x :: l => by simp only [halves, List.length_cons, halves_len l]; omega
theorem take_snoc {l : List Nat} {i : Nat} (h : i < l.length) : l.take (i + 1) = l.take i ++ [l.getD i 0] := by
  rw [List.take_add_one]
  simp [List.getD_eq_getElem?_getD, h]
theorem words_wp (F : TypeId) (l : List Nat) (hl : ∀ x ∈ l, x < B32) (h1 : 2 * l.length ≤ cap30) (K : Except Int SV → Prop) (hK : ∀ r, SubE r (.ok (.n16 (val B32 l))) → K r) :
    wpF tb (envTrim F) (wpDraw tb (envTrim F)) Tryd.f121 [.words l] K := by
  have h30 := c30
  show ∃ n, wpLoop _ n _ _
  refine loop_rule (fun m st => ∃ (i : Int), (m : Int) = l.length - i ∧ 0 ≤ i ∧ i ≤ l.length ∧ ((i = 0 ∧ ∃ x, st = ⟨pat x 0 [some (.words l), none, some (.nil), some (.nil), none, none, some (.words l), some (.int .i64 (List.length l : Nat)), some (.int .i64 i), none, none, none, none, none, none, none, none, none, none, none, none, none], []⟩) ∨ ∃ x, st = ⟨pat x 0 [some (.words l), none, some (.nil), some (.row 0), none, none, some (.words l), some (.int .i64 (List.length l : Nat)), some (.int .i64 i), none, none, none, none, none, none, none, none, none, none, none, none, none], [.row (halves (l.take i.toNat))]⟩)) ?step (n := l.length) ?init
  case init => exact ⟨0, by omega, by omega, by omega, .inl ⟨rfl, (fits (.s rfl (.n (.s rfl (.s rfl (.n (.n (.s rfl (.s rfl (.s rfl (.n (.n (.n (.n (.n (.n (.n (.n (.n (.n (.n (.n (.n .nil)))))))))))))))))))))))⟩⟩
  case step =>
    rintro m st K' hK1 hK2 ⟨i, hm, hi, hil, hst⟩
    have hx : _ < 4294967296 := getD_lt (B := B32) (by decide) hl i.toNat
    have e1 : (i + 1).toNat = i.toNat + 1 := by omega
    have hh := halves_len (l.take i.toNat)
    rw [List.length_take, Nat.min_eq_left (by omega)] at hh
    have e2 : ∀ x : Nat, (Int.tmod (x : Int) 65536).toNat = x % 65536 := fun n => by rw [Int.tmod_eq_emod_of_nonneg (by omega)]; omega
    have e3 : ∀ x : Nat, x < 4294967296 → (Int.tdiv (x : Int) 65536 % 4294967296).toNat = x / 65536 := fun n hn => by rw [Int.tdiv_eq_ediv_of_nonneg (by omega)]; omega
    have e4 : i < l.length → halves (l.take (i + 1).toNat) = halves (l.take i.toNat) ++ [(Int.tmod ((l.getD i.toNat 0 : Nat) : Int) 65536).toNat, (Int.tdiv ((l.getD i.toNat 0 : Nat) : Int) 65536 % 4294967296).toNat] := by
      intro h
      rw [e1, take_snoc (by omega), halves_append, e2, e3 _ hx]
    rcases hst with ⟨rfl, x, rfl⟩ | ⟨x, rfl⟩
    · refine ifB_mk (fun h => ?_) (fun h => ?_)
      · simp only [decide_eq_true_eq] at h
        refine And.intro (by (try dsimp only); omega) ?_
        refine And.intro (by decide) ?_
        refine And.intro (by decide) ?_
        refine And.intro (by rw [Int.tmod_eq_emod_of_nonneg (by omega), Int.tdiv_eq_ediv_of_nonneg (by omega)]; omega) ?_
        refine And.intro (by simp only [List.length_cons, List.length_nil]; omega) ?_
        refine And.intro (by (try dsimp only); omega) ?_
        refine hK1 (m - 1) _ (by omega) ⟨0 + 1, by omega, by omega, by (try dsimp only at h); omega, .inr ?_⟩
        rw [e4 h]
        exact (fits (.s rfl (.n (.s rfl (.s rfl (.n (.n (.s rfl (.s rfl (.s rfl (.n (.n (.n (.n (.n (.n (.n (.n (.n (.n (.n (.n (.n .nil)))))))))))))))))))))))
      · simp only [decide_eq_false_iff_not] at h
        refine hK2 _ _ (by simp) ?_
        refine And.intro ⟨by simp, by simp⟩ ?_
        show K _
        refine hK _ ?_
        have : l = [] := List.eq_nil_of_length_eq_zero (by (try dsimp only at h); omega)
        subst this
        exact ⟨rfl, Sub.refl _⟩
    · refine ifB_mk (fun h => ?_) (fun h => ?_)
      · simp only [decide_eq_true_eq] at h
        refine And.intro (by (try dsimp only); omega) ?_
        refine And.intro (by decide) ?_
        refine And.intro (by decide) ?_
        refine And.intro (by rw [Int.tmod_eq_emod_of_nonneg (by omega), Int.tdiv_eq_ediv_of_nonneg (by omega)]; omega) ?_
        refine And.intro (by simp only [List.length_cons, List.length_nil]; (try dsimp only at h); omega) ?_
        refine And.intro (by (try dsimp only); omega) ?_
        refine hK1 (m - 1) _ (by omega) ⟨i + 1, by omega, by omega, by (try dsimp only at h); omega, .inr ?_⟩
        rw [e4 h]
        exact (fits (.s rfl (.n (.s rfl (.s rfl (.n (.n (.s rfl (.s rfl (.s rfl (.n (.n (.n (.n (.n (.n (.n (.n (.n (.n (.n (.n (.n .nil)))))))))))))))))))))))
      · simp only [decide_eq_false_iff_not] at h
        refine hK2 _ _ (by simp) ?_
        refine And.intro ⟨halves_lt fun x hx => hl x (List.mem_of_mem_take hx), by omega⟩ ?_
        show K _
        refine hK _ ?_
        have hi' : i.toNat = l.length := by (try dsimp only at h); omega
        rw [hi', List.take_of_length_le (Nat.le_refl _), val_halves]
        exact ⟨rfl, Sub.refl _⟩
theorem words_holds (F : TypeId) (l : List Nat) (h : (∀ x ∈ l, x < B32) ∧ 2 * l.length ≤ cap30) : Holds Tryd.prog F 121 [.words l] (.ok (.n16 (val B32 l))) :=
  holds_run mixed tb_ok (envTrim_ok F) Tryd.func121 rfl (by kernel_rfl) (args := [.words l]) (words_wp F l h.1 h.2 _ fun _ hr => hr) (SubL.cons (Sub.refl _) SubL.nil)
def dec_words : List SV → Option (List Nat)
  | [x] => x.list
  | _ => none
theorem dec_words_sub (xs : List SV) (l : List Nat) (h : dec_words xs = some l) : SubL xs [.words l] := by
  unfold dec_words at h
  split at h
  · exact SubL.cons (Sub.words h) SubL.nil
  · cases h
def wordsC (F : TypeId) : Con Tryd.prog F :=
  mkCon 121 (enters_of Tryd.func121 (by kernel_rfl) rfl) dec_words (fun l => [.words l]) (fun l => (∀ x ∈ l, x < B32) ∧ 2 * l.length ≤ cap30) (fun l => .n16 (val B32 l)) dec_words_sub (words_holds F)
end Iv
end Go.Proofs.YtfajgibpidlojaaDoor
end

section
/- Contracts of the reference's functions, part Q: list, NatSub, NatShr. Conditions: the lists are no longer than cap30. -/
set_option linter.unusedVariables false
set_option linter.unusedSimpArgs false
set_option maxHeartbeats 2000000
set_option maxRecDepth 4000
namespace Go.Proofs.YtfajgibpidlojaaDoor
namespace Iv
open Go Go.Proofs

theorem val_drop' (B : Nat) (l : List Nat) (k : Nat) : val B (l.drop k) = l.getD k 0 + B * val B (l.drop (k + 1)) := by
  by_cases h : k < l.length
  · exact val_drop _ _ _ h
  · rw [List.drop_eq_nil_of_le (by omega), List.drop_eq_nil_of_le (by omega)]
    simp [val, List.getD_eq_getElem?_getD, show l.length ≤ k by omega]
theorem getD_out {l : List Nat} {k : Nat} (h : l.length ≤ k) : l.getD k 0 = 0 := by simp [List.getD_eq_getElem?_getD, h]
theorem L16_mono {a b : Nat} (h : a ≤ b) : L16 a ≤ L16 b := by
  have : b < B16 ^ L16 b := (dig_len_lt (by decide)).1 (Nat.le_refl _)
  exact dig_len_le (by decide) (Nat.lt_of_le_of_lt h this)
def dec_16 : List SV → Option Nat
  | [x] => asN16 x
  | _ => none
theorem dec_16_sub (xs : List SV) (a : Nat) (h : dec_16 xs = some a) : SubL xs [.n16 a] := by
  unfold dec_16 at h
  split at h
  · exact SubL.cons (asN16_sub h) SubL.nil
  · cases h
/-! ### list -/
theorem list_wp (l : List Nat) (hl : ∀ x ∈ l, x < B16) (cl : canon l) (h1 : l.length ≤ cap30) (K : Except Int SV → Prop) (hK : ∀ r, SubE r (.ok (.n32 (val B16 l))) → K r) :
    wpF tb env0 (wpDraw tb env0) Tryd.f105 [.words l] K := by
  have h30 := c30
  show ∃ n, wpLoop _ n _ _
  refine loop_rule (fun m st => ∃ (i : Int) (r : List Nat), (m : Int) = l.length + 1 - r.length ∧ 0 ≤ i ∧ i ≤ l.length + 1 ∧ (2 * r.length : Int) = i ∧ (∀ x ∈ r, x < B32) ∧ val B32 r + B32 ^ r.length * val B16 (l.drop i.toNat) = val B16 l ∧ ((i = 0 ∧ ∃ x, st = ⟨pat x 0 [some (.words l), none, some (.nil), some (.nil), some (.int .i64 0), none, none, none, none, none, none, none, none, none, none, none, none, none, none, none, none, none, none, none, none, none, none, none, none, none, none, none, none, none], []⟩) ∨ ∃ x, st = ⟨pat x 0 [some (.words l), none, some (.nil), some (.row 0), some (.int .i64 i), none, none, none, none, none, none, none, none, none, none, none, none, none, none, none, none, none, none, none, none, none, none, none, none, none, none, none, none, none], [.row r]⟩)) ?step (n := l.length + 1) ?init
  case init => exact ⟨0, [], by simp, by omega, by omega, rfl, by simp, by simp [val], .inl ⟨rfl, (fits (.s rfl (.n (.s rfl (.s rfl (.s rfl (.n (.n (.n (.n (.n (.n (.n (.n (.n (.n (.n (.n (.n (.n (.n (.n (.n (.n (.n (.n (.n (.n (.n (.n (.n (.n (.n (.n (.n .nil)))))))))))))))))))))))))))))))))))⟩⟩
  case step =>
    rintro m st K' hK1 hK2 ⟨i, r, hm, hi, hil, hr, hrb, hv, hst⟩
    have hx : _ < 65536 := getD_lt (B := B16) (by decide) hl i.toNat
    have hy : _ < 65536 := getD_lt (B := B16) (by decide) hl (i + 1).toNat
    have e1 : (i + 1).toNat = i.toNat + 1 := by omega
    have e2 : (i + 2).toNat = i.toNat + 1 + 1 := by omega
    -- one word
    have step : ∀ d : Int, d = (l.getD i.toNat 0 : Nat) + 65536 * (l.getD (i + 1).toNat 0 : Nat) → (∀ x ∈ r ++ [d.toNat], x < B32) ∧ val B32 (r ++ [d.toNat]) + B32 ^ (r ++ [d.toNat]).length * val B16 (l.drop (i + 2).toNat) = val B16 l := by
      intro d hd
      constructor
      · intro x hx'
        rcases List.mem_append.1 hx' with hx' | hx'
        · exact hrb x hx'
        · simp only [List.mem_singleton] at hx'; subst hx'; simp only [B32]; omega
      · rw [val_drop', val_drop', ← e1] at hv
        rw [val_append, List.length_append, List.length_singleton, Nat.pow_succ, e2, ← hv]
        have hd' : d.toNat = l.getD i.toNat 0 + 65536 * l.getD (i + 1).toNat 0 := by omega
        rw [hd']
        simp only [val, Nat.mul_zero, Nat.add_zero]
        rw [show (i + 1).toNat + 1 = i.toNat + 1 + 1 by omega]
        generalize val B16 (List.drop (i.toNat + 1 + 1) l) = v
        generalize l.getD i.toNat 0 = p
        generalize l.getD (i + 1).toNat 0 = q
        rw [Nat.mul_assoc]
        generalize B32 ^ r.length = P
        simp only [B32, B16]
        rw [Nat.add_assoc, ← Nat.mul_add]
        congr 2
        omega
    have fin : l.length ≤ i.toNat → ∀ x : SV, Sub x (.words r) → x.clean = true → SubE (.ok x) (.ok (.n32 (val B16 l))) := by
      intro hle x hs hc
      rw [List.drop_eq_nil_of_le hle] at hv
      simp only [val, Nat.mul_zero, Nat.add_zero] at hv
      refine ⟨rfl, hs.trans ?_⟩
      rw [← hv]
      refine Sub.val32 hrb ?_
      by_cases he : l = []
      · have : r = [] := List.eq_nil_of_length_eq_zero (by subst he; simp at hil; omega)
        rw [this]; trivial
      · refine canon_of_ge (by decide) hrb ?_
        rw [hv]
        refine Nat.le_trans ?_ (val_ge (by decide) he cl)
        have hlp := List.length_pos_iff.2 he
        rw [show B32 = B16 ^ 2 from rfl, ← Nat.pow_mul]
        exact Nat.pow_le_pow_right (by decide) (by omega)
    rcases hst with ⟨rfl, x, rfl⟩ | ⟨x, rfl⟩
    · have hr0 : r = [] := List.eq_nil_of_length_eq_zero (by omega)
      subst hr0
      refine ifB_mk (fun h => ?_) (fun h => ?_)
      · simp only [decide_eq_true_eq] at h
        refine And.intro (by (try dsimp only); omega) ?_
        refine And.intro (by (try dsimp only); omega) ?_
        refine ifB_mk (fun h2 => ?_) (fun h2 => ?_)
        · simp only [decide_eq_true_eq] at h2
          refine And.intro (by (try dsimp only); omega) ?_
          refine And.intro (by (try dsimp only); omega) ?_
          refine And.intro (by (try dsimp only); omega) ?_
          refine And.intro (by simp only [List.length_singleton, List.length_nil]; omega) ?_
          refine And.intro (by (try dsimp only); omega) ?_
          obtain ⟨s1, s2⟩ := step (((l.getD (Int.toNat 0) 0 : Nat) + (l.getD (0 + 1 : Int).toNat 0 : Nat) * 65536 % 4294967296) % 4294967296) (by omega)
          exact hK1 (m - 1) _ (by omega) ⟨0 + 2, _, by simp; omega, by omega, by omega, by simp, s1, s2, .inr (fits (.s rfl (.n (.s rfl (.s rfl (.s rfl (.n (.n (.n (.n (.n (.n (.n (.n (.n (.n (.n (.n (.n (.n (.n (.n (.n (.n (.n (.n (.n (.n (.n (.n (.n (.n (.n (.n (.n .nil)))))))))))))))))))))))))))))))))))⟩
        · simp only [decide_eq_false_iff_not] at h2
          have hz : l.getD (0 + 1 : Int).toNat 0 = 0 := getD_out (by (try dsimp only at h2); omega)
          refine And.intro (by (try dsimp only); omega) ?_
          refine And.intro (by simp only [List.length_singleton, List.length_nil]; omega) ?_
          refine And.intro (by (try dsimp only); omega) ?_
          obtain ⟨s1, s2⟩ := step (l.getD (Int.toNat 0) 0 : Nat) (by omega)
          exact hK1 (m - 1) _ (by omega) ⟨0 + 2, _, by simp; omega, by omega, by (try dsimp only at h2 h); omega, by simp, s1, s2, .inr (fits (.s rfl (.n (.s rfl (.s rfl (.s rfl (.n (.n (.n (.n (.n (.n (.n (.n (.n (.n (.n (.n (.n (.n (.n (.n (.n (.n (.n (.n (.n (.n (.n (.n (.n (.n (.n (.n (.n .nil)))))))))))))))))))))))))))))))))))⟩
      · simp only [decide_eq_false_iff_not] at h
        refine hK2 _ _ (by simp) ?_
        show K _
        refine hK _ ?_
        exact fin (by (try dsimp only at h); omega) _ Sub.nil_words rfl
    · refine ifB_mk (fun h => ?_) (fun h => ?_)
      · simp only [decide_eq_true_eq] at h
        refine And.intro (by (try dsimp only); omega) ?_
        refine And.intro (by (try dsimp only); omega) ?_
        refine ifB_mk (fun h2 => ?_) (fun h2 => ?_)
        · simp only [decide_eq_true_eq] at h2
          refine And.intro (by (try dsimp only); omega) ?_
          refine And.intro (by (try dsimp only); omega) ?_
          refine And.intro (by (try dsimp only); omega) ?_
          refine And.intro (by simp only [List.length_singleton]; (try dsimp only at h); omega) ?_
          refine And.intro (by (try dsimp only); omega) ?_
          obtain ⟨s1, s2⟩ := step (((l.getD i.toNat 0 : Nat) + (l.getD (i + 1).toNat 0 : Nat) * 65536 % 4294967296) % 4294967296) (by omega)
          exact hK1 (m - 1) _ (by (try dsimp only at h); omega) ⟨i + 2, _, by simp; (try dsimp only at h); omega, by omega, by (try dsimp only at h2); omega, by simp; omega, s1, s2, .inr (fits (.s rfl (.n (.s rfl (.s rfl (.s rfl (.n (.n (.n (.n (.n (.n (.n (.n (.n (.n (.n (.n (.n (.n (.n (.n (.n (.n (.n (.n (.n (.n (.n (.n (.n (.n (.n (.n (.n .nil)))))))))))))))))))))))))))))))))))⟩
        · simp only [decide_eq_false_iff_not] at h2
          have hz : l.getD (i + 1).toNat 0 = 0 := getD_out (by (try dsimp only at h2); omega)
          refine And.intro (by (try dsimp only); omega) ?_
          refine And.intro (by simp only [List.length_singleton]; (try dsimp only at h); omega) ?_
          refine And.intro (by (try dsimp only); omega) ?_
          obtain ⟨s1, s2⟩ := step (l.getD i.toNat 0 : Nat) (by omega)
          exact hK1 (m - 1) _ (by (try dsimp only at h); omega) ⟨i + 2, _, by simp; (try dsimp only at h); omega, by omega, by (try dsimp only at h2 h); omega, by simp; omega, s1, s2, .inr (fits (.s rfl (.n (.s rfl (.s rfl (.s rfl (.n (.n (.n (.n (.n (.n (.n (.n (.n (.n (.n (.n (.n (.n (.n (.n (.n (.n (.n (.n (.n (.n (.n (.n (.n (.n (.n (.n (.n .nil)))))))))))))))))))))))))))))))))))⟩
      · simp only [decide_eq_false_iff_not] at h
        refine hK2 _ _ (by simp) ?_
        show K _
        refine hK _ ?_
        exact fin (by (try dsimp only at h); omega) _ (Sub.refl _) rfl
theorem list_holds (F : TypeId) (a : Nat) (h : L16 a ≤ cap30) : Holds Tryd.prog F 105 [.n16 a] (.ok (.n32 a)) :=
  holds_run mixed tb_ok (env0_ok F) Tryd.func105 rfl (by kernel_rfl) (args := [.words (dig16 a)]) (list_wp _ (lt16 a) (can16 a) h _ fun _ hr => by rw [val_dig16] at hr; exact hr) (SubL.cons (Sub.of16 a) SubL.nil)
def listC (F : TypeId) : Con Tryd.prog F :=
  mkCon 105 (enters_of Tryd.func105 (by kernel_rfl) rfl) dec_16 (fun a => [.n16 a]) (fun a => L16 a ≤ cap30) (fun a => .n32 a) dec_16_sub (list_holds F)
/-! ### NatSub -/
theorem rsub_wp (F : TypeId) (l m : List Nat) (hl : ∀ x ∈ l, x < B16) (hm : ∀ x ∈ m, x < B16) (h1 : l.length ≤ cap30) (h2 : m.length ≤ l.length) (hge : val B16 m ≤ val B16 l) (K : Except Int SV → Prop) (hK : ∀ r, SubE r (.ok (.n16 (val B16 l - val B16 m))) → K r) :
    wpF tb (envTrim F) (wpDraw tb (envTrim F)) Tryd.f160 [.words l, .words m] K := by
  have h30 := c30
  refine And.intro (by (try dsimp only); omega) ?_
  show ∃ n, wpLoop _ n _ _
  refine loop_rule (fun k st => ∃ (i c : Int) (r : List Nat), (k : Int) = l.length - i ∧ 0 ≤ i ∧ i ≤ l.length ∧ 0 ≤ c ∧ c ≤ 1 ∧ (r.length : Int) = i ∧ (∀ x ∈ r, x < B16) ∧ val B16 r + val B16 (m.take i.toNat) = val B16 (l.take i.toNat) + B16 ^ i.toNat * c.toNat ∧ ∃ x, st = ⟨pat x 0 [some (.words l), some (.words m), none, none, some (.nil), some (.row 0), some (.int .u32 c), none, none, none, none, none, none, some (.words l), some (.int .i64 (List.length l : Nat)), some (.int .i64 i), none, none, none, none, none, none, none, none, none, none, none, none, none, none, none, none, none, none, none, none, none, none, none, none, none, none, none, none, none, none, none], [.row r]⟩) ?step (n := l.length) ?init
  case init => exact ⟨0, 0, [], by omega, by omega, by omega, by omega, by omega, rfl, by simp, by simp [val], (fits (.s rfl (.s rfl (.n (.n (.s rfl (.s rfl (.s rfl (.n (.n (.n (.n (.n (.n (.s rfl (.s rfl (.s rfl (.n (.n (.n (.n (.n (.n (.n (.n (.n (.n (.n (.n (.n (.n (.n (.n (.n (.n (.n (.n (.n (.n (.n (.n (.n (.n (.n (.n (.n (.n (.n .nil))))))))))))))))))))))))))))))))))))))))))))))))⟩
  case step =>
    rintro k st K' hK1 hK2 ⟨i, c, r, hk, hi, hil, hc0, hc1, hr, hrb, hv, x, rfl⟩
    have hx : _ < 65536 := getD_lt (B := B16) (by decide) hl i.toNat
    have hy : _ < 65536 := getD_lt (B := B16) (by decide) hm i.toNat
    have e1 : (i + 1).toNat = i.toNat + 1 := by omega
    have e0 : r.length = i.toNat := by omega
    -- one digit
    have step : ∀ d c' : Int, 0 ≤ d → d < 65536 → 0 ≤ c' → d + (m.getD i.toNat 0 : Nat) + c = (l.getD i.toNat 0 : Nat) + 65536 * c' → (∀ x ∈ r ++ [d.toNat], x < B16) ∧ val B16 (r ++ [d.toNat]) + val B16 (m.take (i + 1).toNat) = val B16 (l.take (i + 1).toNat) + B16 ^ (i + 1).toNat * c'.toNat := by
      intro d c' hd0 hd1 hc' hd
      constructor
      · intro x hx'
        rcases List.mem_append.1 hx' with hx' | hx'
        · exact hrb x hx'
        · simp only [List.mem_singleton] at hx'; subst hx'; simp only [B16]; omega
      · rw [e1, val_append, e0, val_take_succ, val_take_succ, Nat.pow_succ, Nat.mul_assoc]
        simp only [val, Nat.mul_zero, Nat.add_zero]
        have h5 : d.toNat + m.getD i.toNat 0 + c.toNat = l.getD i.toNat 0 + B16 * c'.toNat := by
          simp only [B16]; omega
        have h6 := congrArg (B16 ^ i.toNat * ·) h5
        simp only [Nat.mul_add] at h6
        omega
    refine ifB_mk (fun h => ?_) (fun h => ?_)
    · simp only [decide_eq_true_eq] at h
      refine ifB_mk (fun h3 => ?_) (fun h3 => ?_)
      · simp only [decide_eq_true_eq] at h3
        refine And.intro (by (try dsimp only); omega) ?_
        refine And.intro (by (try dsimp only); omega) ?_
        refine ifB_mk (fun h4 => ?_) (fun h4 => ?_)
        · simp only [decide_eq_true_eq] at h4
          refine And.intro (by (try dsimp only); omega) ?_
          refine And.intro (by simp only [List.length_singleton]; omega) ?_
          refine And.intro (by (try dsimp only); omega) ?_
          obtain ⟨s1, s2⟩ := step ((((l.getD i.toNat 0 : Nat) + 65536) % 4294967296 - (c + (m.getD i.toNat 0 : Nat)) % 4294967296) % 4294967296) 1 (by omega) (by omega) (by omega) (by omega)
          exact hK1 (k - 1) _ (by omega) ⟨i + 1, 1, _, by omega, by omega, by (try dsimp only at h); omega, by omega, by omega, by simp; omega, s1, s2, (fits (.s rfl (.s rfl (.n (.n (.s rfl (.s rfl (.s rfl (.n (.n (.n (.n (.n (.n (.s rfl (.s rfl (.s rfl (.n (.n (.n (.n (.n (.n (.n (.n (.n (.n (.n (.n (.n (.n (.n (.n (.n (.n (.n (.n (.n (.n (.n (.n (.n (.n (.n (.n (.n (.n (.n .nil))))))))))))))))))))))))))))))))))))))))))))))))⟩
        · simp only [decide_eq_false_iff_not] at h4
          refine And.intro (by (try dsimp only); omega) ?_
          refine And.intro (by simp only [List.length_singleton]; omega) ?_
          refine And.intro (by (try dsimp only); omega) ?_
          obtain ⟨s1, s2⟩ := step (((l.getD i.toNat 0 : Nat) - (c + (m.getD i.toNat 0 : Nat)) % 4294967296) % 4294967296) 0 (by omega) (by omega) (by omega) (by omega)
          exact hK1 (k - 1) _ (by omega) ⟨i + 1, 0, _, by omega, by omega, by (try dsimp only at h); omega, by omega, by omega, by simp; omega, s1, s2, (fits (.s rfl (.s rfl (.n (.n (.s rfl (.s rfl (.s rfl (.n (.n (.n (.n (.n (.n (.s rfl (.s rfl (.s rfl (.n (.n (.n (.n (.n (.n (.n (.n (.n (.n (.n (.n (.n (.n (.n (.n (.n (.n (.n (.n (.n (.n (.n (.n (.n (.n (.n (.n (.n (.n (.n .nil))))))))))))))))))))))))))))))))))))))))))))))))⟩
      · simp only [decide_eq_false_iff_not] at h3
        have hz : m.getD i.toNat 0 = 0 := getD_out (by (try dsimp only at h3); omega)
        refine And.intro (by (try dsimp only); omega) ?_
        refine ifB_mk (fun h4 => ?_) (fun h4 => ?_)
        · simp only [decide_eq_true_eq] at h4
          refine And.intro (by (try dsimp only); omega) ?_
          refine And.intro (by simp only [List.length_singleton]; omega) ?_
          refine And.intro (by (try dsimp only); omega) ?_
          obtain ⟨s1, s2⟩ := step ((((l.getD i.toNat 0 : Nat) + 65536) % 4294967296 - c) % 4294967296) 1 (by omega) (by omega) (by omega) (by omega)
          exact hK1 (k - 1) _ (by omega) ⟨i + 1, 1, _, by omega, by omega, by (try dsimp only at h); omega, by omega, by omega, by simp; omega, s1, s2, (fits (.s rfl (.s rfl (.n (.n (.s rfl (.s rfl (.s rfl (.n (.n (.n (.n (.n (.n (.s rfl (.s rfl (.s rfl (.n (.n (.n (.n (.n (.n (.n (.n (.n (.n (.n (.n (.n (.n (.n (.n (.n (.n (.n (.n (.n (.n (.n (.n (.n (.n (.n (.n (.n (.n (.n .nil))))))))))))))))))))))))))))))))))))))))))))))))⟩
        · simp only [decide_eq_false_iff_not] at h4
          refine And.intro (by (try dsimp only); omega) ?_
          refine And.intro (by simp only [List.length_singleton]; omega) ?_
          refine And.intro (by (try dsimp only); omega) ?_
          obtain ⟨s1, s2⟩ := step (((l.getD i.toNat 0 : Nat) - c) % 4294967296) 0 (by omega) (by omega) (by omega) (by omega)
          exact hK1 (k - 1) _ (by omega) ⟨i + 1, 0, _, by omega, by omega, by (try dsimp only at h); omega, by omega, by omega, by simp; omega, s1, s2, (fits (.s rfl (.s rfl (.n (.n (.s rfl (.s rfl (.s rfl (.n (.n (.n (.n (.n (.n (.s rfl (.s rfl (.s rfl (.n (.n (.n (.n (.n (.n (.n (.n (.n (.n (.n (.n (.n (.n (.n (.n (.n (.n (.n (.n (.n (.n (.n (.n (.n (.n (.n (.n (.n (.n (.n .nil))))))))))))))))))))))))))))))))))))))))))))))))⟩
    · simp only [decide_eq_false_iff_not] at h
      refine hK2 _ _ (by simp) ?_
      refine And.intro ⟨hrb, by omega⟩ ?_
      show K _
      refine hK _ ?_
      have hi' : i.toNat = l.length := by (try dsimp only at h); omega
      rw [hi', List.take_of_length_le (Nat.le_refl _), List.take_of_length_le h2] at hv
      have hlt := val_lt (B := B16) (by decide) hrb
      rw [e0, hi'] at hlt
      have hc : c = 0 := by
        rcases Int.lt_or_le c 1 with h | h
        · omega
        · have : c = 1 := by omega
          subst this
          simp at hv
          omega
      subst hc
      simp at hv
      rw [show val B16 r = val B16 l - val B16 m by omega]
      exact ⟨rfl, Sub.refl _⟩
theorem rsub_holds (F : TypeId) (p : Nat × Nat) (h : p.2 ≤ p.1 ∧ L16 p.1 ≤ cap30) : Holds Tryd.prog F 160 [.n16 p.1, .n16 p.2] (.ok (.n16 (p.1 - p.2))) :=
  holds_run mixed tb_ok (envTrim_ok F) Tryd.func160 rfl (by kernel_rfl) (args := [.words (dig16 p.1), .words (dig16 p.2)]) (rsub_wp F _ _ (lt16 _) (lt16 _) h.2 (L16_mono h.1) (by rw [val_dig16, val_dig16]; exact h.1) _ fun _ hr => by rw [val_dig16, val_dig16] at hr; exact hr) (of2_16 p.1 p.2)
def rsubC (F : TypeId) : Con Tryd.prog F :=
  mkCon 160 (enters_of Tryd.func160 (by kernel_rfl) rfl) dec2_16 (fun p => [.n16 p.1, .n16 p.2]) (fun p => p.2 ≤ p.1 ∧ L16 p.1 ≤ cap30) (fun p => .n16 (p.1 - p.2)) dec2_16_sub (rsub_holds F)
theorem radd_holds (F : TypeId) (p : Nat × Nat) (h : L16 p.1 + 1 ≤ cap30 ∧ L16 p.2 + 1 ≤ cap30) : Holds Tryd.prog F 159 [.n16 p.1, .n16 p.2] (.ok (.n16 (p.1 + p.2))) :=
  holds_run mixed tb_ok (env0_ok F) Tryd.func159 rfl (by kernel_rfl) (args := [.words (dig16 p.1), .words (dig16 p.2)]) (radd_wp _ _ (lt16 _) (lt16 _) (can16 _) (can16 _) h.1 h.2 _ fun _ hr => by rw [val_dig16, val_dig16] at hr; exact hr) (of2_16 p.1 p.2)
def raddC (F : TypeId) : Con Tryd.prog F :=
  mkCon 159 (enters_of Tryd.func159 (by kernel_rfl) rfl) dec2_16 (fun p => [.n16 p.1, .n16 p.2]) (fun p => L16 p.1 + 1 ≤ cap30 ∧ L16 p.2 + 1 ≤ cap30) (fun p => .n16 (p.1 + p.2)) dec2_16_sub (radd_holds F)
end Iv
end Go.Proofs.YtfajgibpidlojaaDoor
end

section
/- Plain facts of numbers: bits, twos, rational numbers as sign, numerator and denominator. No condition. -/
set_option linter.unusedVariables false
set_option linter.unusedSimpArgs false
namespace Go.Proofs.YtfajgibpidlojaaDoor
namespace Iv

/-- The number of binary digits. -/
def nb (n : Nat) : Nat := if n = 0 then 0 else n.log2 + 1
theorem nb_zero : nb 0 = 0 := rfl
theorem nb_le {n k : Nat} : nb n ≤ k ↔ n < 2 ^ k := by
  unfold nb
  split
  · rename_i h; subst h; simp [Nat.two_pow_pos]
  · rename_i h; rw [← Nat.log2_lt h]; omega
theorem nb_lt (n : Nat) : n < 2 ^ nb n := nb_le.1 (Nat.le_refl _)
theorem nb_mono {a b : Nat} (h : a ≤ b) : nb a ≤ nb b := nb_le.2 (Nat.lt_of_le_of_lt h (nb_lt b))
theorem nb_mul (a b : Nat) : nb (a * b) ≤ nb a + nb b := by
  rw [nb_le, Nat.pow_add]
  exact Nat.mul_lt_mul'' (nb_lt a) (nb_lt b)
theorem nb_add (a b : Nat) : nb (a + b) ≤ max (nb a) (nb b) + 1 := by
  rw [nb_le, Nat.pow_succ]
  have h1 := Nat.lt_of_lt_of_le (nb_lt a) (Nat.pow_le_pow_right (n := 2) (by decide) (Nat.le_max_left (nb a) (nb b)))
  have h2 := Nat.lt_of_lt_of_le (nb_lt b) (Nat.pow_le_pow_right (n := 2) (by decide) (Nat.le_max_right (nb a) (nb b)))
  omega
theorem nb_add_le {a b k : Nat} (ha : nb a ≤ k) (hb : nb b ≤ k) : nb (a + b) ≤ k + 1 := by
  have := nb_add a b
  omega
theorem nb_shl (a p : Nat) : nb (a * 2 ^ p) ≤ nb a + p := by
  rw [nb_le, Nat.pow_add]
  exact Nat.mul_lt_mul_of_pos_right (nb_lt a) (Nat.two_pow_pos p)
theorem nb_div (a b : Nat) : nb (a / b) ≤ nb a := nb_mono (Nat.div_le_self a b)
theorem nb_sub (a b : Nat) : nb (a - b) ≤ nb a := nb_mono (Nat.sub_le a b)
theorem nb_mod (a b : Nat) : nb (a % b) ≤ nb a := nb_mono (Nat.mod_le a b)
theorem nb_pow2 (p : Nat) : nb (2 ^ p) ≤ p + 1 := nb_le.2 (Nat.pow_lt_pow_right (by decide) (by omega))
theorem nb_one : nb 1 = 1 := by decide
theorem nb_pos {n : Nat} (h : 0 < n) : 2 ^ (nb n - 1) ≤ n := by
  unfold nb
  rw [if_neg (by omega)]
  simpa using Nat.log2_self_le (show n ≠ 0 by omega)
theorem nb_eq {n k : Nat} (h1 : 2 ^ k ≤ n) (h2 : n < 2 ^ (k + 1)) : nb n = k + 1 := by
  have h3 := nb_le.2 h2
  have h4 : ¬ nb n ≤ k := fun h => by have := nb_le.1 h; omega
  omega
/-- A number's words and its binary digits. -/
theorem dig_len_nb {B e n : Nat} (hB : B = 2 ^ e) (he : 0 < e) : (dig B n).length ≤ nb n := by
  refine dig_len_le (by subst hB; exact Nat.one_lt_two_pow (by omega)) ?_
  refine Nat.lt_of_lt_of_le (nb_lt n) ?_
  subst hB
  rw [← Nat.pow_mul]
  refine Nat.pow_le_pow_right (by decide) ?_
  exact Nat.le_mul_of_pos_left _ he
theorem len32_nb (n : Nat) : (dig32 n).length ≤ nb n := dig_len_nb (e := 32) (by decide) (by decide)
theorem len16_nb (n : Nat) : (dig16 n).length ≤ nb n := dig_len_nb (e := 16) (by decide) (by decide)
theorem len32_iff (n k : Nat) : (dig32 n).length ≤ k ↔ nb n ≤ 32 * k := by
  rw [nb_le, Nat.pow_mul]
  exact dig_len_lt (by decide)
theorem len16_iff (n k : Nat) : (dig16 n).length ≤ k ↔ nb n ≤ 16 * k := by
  rw [nb_le, Nat.pow_mul]
  exact dig_len_lt (by decide)

/-! ### The exponent of 2 -/
def tzF : Nat → Nat → Nat
  | 0, _ => 0
  | f + 1, n => if n % 2 = 1 then 0 else tzF f (n / 2) + 1
def tz (n : Nat) : Nat := if n = 0 then 0 else tzF n n
theorem tzF_spec : ∀ (f n : Nat), 0 < n → n ≤ f → ∃ m, n = 2 ^ tzF f n * m ∧ m % 2 = 1
  | 0, n, h, k => by omega
  | f + 1, n, h, k => by
    unfold tzF
    split
    · rename_i h1; exact ⟨n, by simp, h1⟩
    · rename_i h1
      obtain ⟨m, hm, ho⟩ := tzF_spec f (n / 2) (by omega) (by omega)
      refine ⟨m, ?_, ho⟩
      rw [Nat.pow_succ]
      have : n = 2 * (n / 2) := by omega
      rw [this, Nat.mul_comm (2 ^ _) 2, Nat.mul_assoc]
      congr 1
      rw [show 2 * (n / 2) / 2 = n / 2 by omega]
      exact hm
theorem tz_spec {n : Nat} (h : 0 < n) : ∃ m, n = 2 ^ tz n * m ∧ m % 2 = 1 := by
  unfold tz
  rw [if_neg (by omega)]
  exact tzF_spec n n h (Nat.le_refl _)
theorem odd_pow_unique {a b m k : Nat} (hm : m % 2 = 1) (hk : k % 2 = 1) (h : 2 ^ a * m = 2 ^ b * k) : a = b ∧ m = k := by
  induction a generalizing b with
  | zero =>
    cases b with
    | zero => simpa using h
    | succ b => rw [Nat.pow_succ] at h; simp at h; have : m = 2 * (2 ^ b * k) := by rw [h]; grind
                omega
  | succ a ih =>
    cases b with
    | zero => rw [Nat.pow_succ] at h; simp at h; have : k = 2 * (2 ^ a * m) := by rw [← h]; grind
              omega
    | succ b =>
      have h' : 2 ^ a * m = 2 ^ b * k := by
        rw [Nat.pow_succ, Nat.pow_succ] at h
        have : 2 * (2 ^ a * m) = 2 * (2 ^ b * k) := by grind
        omega
      obtain ⟨e, e'⟩ := ih h'
      exact ⟨by omega, e'⟩
theorem tz_eq {n t m : Nat} (h : n = 2 ^ t * m) (hm : m % 2 = 1) : tz n = t := by
  have hn : 0 < n := by subst h; exact Nat.mul_pos (Nat.two_pow_pos t) (by omega)
  obtain ⟨k, hk, ho⟩ := tz_spec hn
  exact (odd_pow_unique ho hm (by rw [← hk]; exact h)).1
theorem tz_lt_nb {n : Nat} (h : 0 < n) : tz n < nb n := by
  obtain ⟨m, hm, ho⟩ := tz_spec h
  have h1 : 2 ^ tz n ≤ n := by
    conv => rhs; rw [hm]
    exact Nat.le_mul_of_pos_right _ (by omega)
  have h2 := nb_lt n
  exact (Nat.pow_lt_pow_iff_right (a := 2) (by decide)).1 (Nat.lt_of_le_of_lt h1 h2)
/-- A number is a power of 2 just if it has one bit less than twos. -/
theorem pow2_iff {n : Nat} (h : 0 < n) (he : tz n = nb n - 1) : n = 2 ^ tz n := by
  obtain ⟨m, hm, ho⟩ := tz_spec h
  have h2 := nb_lt n
  have h3 : nb n = tz n + 1 := by have := tz_lt_nb h; omega
  rw [h3, Nat.pow_succ] at h2
  have : m < 2 := by
    have h4 : 2 ^ tz n * m < 2 ^ tz n * 2 := by rw [← hm]; exact h2
    exact Nat.lt_of_mul_lt_mul_left h4
  have : m = 1 := by omega
  rw [this, Nat.mul_one] at hm
  exact hm
theorem tz_div {n k : Nat} (h : 0 < n) (hk : k ≤ tz n) : n = n / 2 ^ k * 2 ^ k ∧ tz (n / 2 ^ k) = tz n - k ∧ 0 < n / 2 ^ k := by
  obtain ⟨m, hm, ho⟩ := tz_spec h
  have e : 2 ^ tz n = 2 ^ k * 2 ^ (tz n - k) := by rw [← Nat.pow_add]; congr 1; omega
  have e2 : n / 2 ^ k = 2 ^ (tz n - k) * m := by
    conv => lhs; rw [hm, e, Nat.mul_assoc]
    exact Nat.mul_div_cancel_left _ (Nat.two_pow_pos k)
  refine ⟨?_, tz_eq e2 ho, ?_⟩
  · rw [e2, Nat.mul_comm _ (2 ^ k), ← Nat.mul_assoc, ← e]; exact hm
  · rw [e2]; exact Nat.mul_pos (Nat.two_pow_pos _) (by omega)
theorem odd_coprime_pow2 {n t : Nat} (h : n % 2 = 1) : Nat.gcd n (2 ^ t) = 1 := by
  have : Nat.Coprime n 2 := by
    rw [Nat.coprime_iff_gcd_eq_one, Nat.gcd_comm, Nat.gcd_rec, h]
    rfl
  exact Nat.Coprime.pow_right t this
theorem tz_zero_odd {n : Nat} (h : 0 < n) (h0 : tz n = 0) : n % 2 = 1 := by
  obtain ⟨m, hm, ho⟩ := tz_spec h
  rw [h0] at hm
  simp at hm
  omega

/-! ### Rational numbers -/
/-- (-1)^b n / d. -/
def rv (b : Bool) (n d : Nat) : Rat := mkRat (if b then -(n : Int) else n) d
def nB (q : Rat) : Bool := decide (q.num < 0)
def nN (q : Rat) : Nat := q.num.natAbs
structure Can (b : Bool) (n d : Nat) : Prop where
  pos : 0 < d
  cop : Nat.gcd n d = 1
  sgn : n = 0 → b = false
theorem can_self (q : Rat) : Can (nB q) (nN q) q.den := by
  refine ⟨q.den_pos, q.reduced, fun h => ?_⟩
  unfold nN at h
  unfold nB
  simp only [decide_eq_false_iff_not]
  omega
theorem rv_self (q : Rat) : rv (nB q) (nN q) q.den = q := by
  unfold rv nB nN
  have : (if decide (q.num < 0) = true then -(q.num.natAbs : Int) else (q.num.natAbs : Int)) = q.num := by
    split <;> rename_i h <;> simp only [decide_eq_true_eq] at h <;> omega
  rw [this]
  exact Rat.mkRat_self q
theorem rv_num {b : Bool} {n d : Nat} (hd : 0 < d) : (rv b n d).num = (if b then -(n : Int) else n) / (Nat.gcd n d : Nat) ∧ (rv b n d).den = d / Nat.gcd n d := by
  unfold rv
  have e : (if b = true then -(n : Int) else (n : Int)).natAbs = n := by split <;> omega
  have h0 : ¬ d = 0 := by omega
  constructor
  · rw [Rat.num_mkRat]; simp only [h0, if_false]; rw [e, Nat.gcd_comm d n]
  · rw [Rat.den_mkRat]; simp only [h0, if_false]; rw [e, Nat.gcd_comm d n]
theorem rv_parts {b : Bool} {n d : Nat} (h : Can b n d) : nB (rv b n d) = b ∧ nN (rv b n d) = n ∧ (rv b n d).den = d := by
  obtain ⟨h1, h2⟩ := rv_num (b := b) (n := n) h.pos
  rw [h.cop] at h1 h2
  simp at h1 h2
  refine ⟨?_, ?_, h2⟩
  · unfold nB; rw [h1]
    cases b
    · simp
    · have : n ≠ 0 := fun e => by have := h.sgn e; cases this
      simp; omega
  · unfold nN; rw [h1]; split <;> omega
theorem rv_zero (b : Bool) (d : Nat) : rv b 0 d = 0 := by unfold rv; cases b <;> simp
theorem rv_scale {b : Bool} {n d k : Nat} (hk : 0 < k) : rv b (n * k) (d * k) = rv b n d := by
  unfold rv
  have : (if b = true then -((n * k : Nat) : Int) else ((n * k : Nat) : Int)) = (if b = true then -(n : Int) else (n : Int)) * (k : Int) := by
    split
    · rw [Int.natCast_mul, Int.neg_mul]
    · rw [Int.natCast_mul]
  rw [this]
  exact Rat.mkRat_mul_right (by omega)
theorem rv_gcd {b : Bool} {n d : Nat} (hn : 0 < n) (hd : 0 < d) : Can b (n / Nat.gcd n d) (d / Nat.gcd n d) ∧ rv b (n / Nat.gcd n d) (d / Nat.gcd n d) = rv b n d := by
  have hg : 0 < Nat.gcd n d := Nat.gcd_pos_of_pos_left _ hn
  have hn' : 0 < n / Nat.gcd n d := Nat.div_pos (Nat.gcd_le_left _ hn) hg
  refine ⟨⟨Nat.div_pos (Nat.gcd_le_right _ hd) hg, Nat.coprime_div_gcd_div_gcd hg, fun h => by omega⟩, ?_⟩
  have h1 := rv_scale (b := b) (n := n / Nat.gcd n d) (d := d / Nat.gcd n d) hg
  rw [Nat.div_mul_cancel (Nat.gcd_dvd_left n d), Nat.div_mul_cancel (Nat.gcd_dvd_right n d)] at h1
  exact h1.symm
/-- The greatest common divisor by Euclid. -/
theorem gcd_step (a b : Nat) : Nat.gcd a b = Nat.gcd b (a % b) := by rw [Nat.gcd_comm, Nat.gcd_rec, Nat.gcd_comm]
end Iv
end Go.Proofs.YtfajgibpidlojaaDoor
end

section
/- Contracts of the reference's functions, part R: NatShr, NatShl. Conditions: the lists are no longer than cap30. -/
set_option linter.unusedVariables false
set_option linter.unusedSimpArgs false
set_option maxHeartbeats 2000000
set_option maxRecDepth 4000
namespace Go.Proofs.YtfajgibpidlojaaDoor
namespace Iv
open Go Go.Proofs

theorem shr_digit16 {l : List Nat} (e : Nat) (he : e ≤ 16) : val B16 l / 2 ^ e % B16 = (l.getD 0 0 + B16 * l.getD 1 0) / 2 ^ e % B16 := by
  have hPQ : 2 ^ e * 2 ^ (16 - e) = B16 := by rw [← Nat.pow_add, show e + (16 - e) = 16 by omega]
  have hP : 0 < 2 ^ e := Nat.pow_pos (by decide)
  have h1 := val_drop' B16 l 0
  have h2 := val_drop' B16 l 1
  rw [List.drop_zero] at h1
  rw [h1, h2]
  generalize val B16 (l.drop (1 + 1)) = Y
  have : l.getD 0 0 + B16 * (l.getD 1 0 + B16 * Y) = l.getD 0 0 + B16 * l.getD 1 0 + 2 ^ e * (B16 * (2 ^ (16 - e) * Y)) := by
    have : B16 * (B16 * Y) = 2 ^ e * (B16 * (2 ^ (16 - e) * Y)) := by
      conv => lhs; rw [← hPQ]
      rw [Nat.mul_assoc, hPQ, Nat.mul_left_comm (2 ^ (16 - e))]
    rw [Nat.mul_add, this]; omega
  rw [this, Nat.add_mul_div_left _ _ hP, Nat.add_mul_mod_self_left]
theorem shr_digit16' {l : List Nat} (hl : ∀ x ∈ l, x < B16) (e i : Nat) (he : e ≤ 16) : val B16 l / 2 ^ e / B16 ^ i % B16 = (l.getD i 0 + B16 * l.getD (i + 1) 0) / 2 ^ e % B16 := by
  rw [Nat.div_div_eq_div_mul, Nat.mul_comm, ← Nat.div_div_eq_div_mul, val_div_pow (by decide) hl, shr_digit16 e he]
  simp [List.getD_eq_getElem?_getD]
theorem rshr_wp (F : TypeId) (l : List Nat) (n : Int) (hl : ∀ x ∈ l, x < B16) (h1 : l.length ≤ cap30) (hn : 0 ≤ n) (hn2 : n ≤ 1099511627776) (K : Except Int SV → Prop) (hK : ∀ r, SubE r (.ok (.n16 (val B16 l / 2 ^ n.toNat))) → K r) :
    wpF tb (envTrim F) (wpDraw tb (envTrim F)) Tryd.f165 [.words l, .int .i64 n] K := by
  have h30 := c30
  have hq : n.tdiv 16 = n / 16 := Int.tdiv_eq_ediv_of_nonneg hn
  have he : n.tmod 16 = n % 16 := Int.tmod_eq_emod_of_nonneg hn
  have hval : val B16 l / 2 ^ n.toNat = val B16 (l.drop (n / 16).toNat) / 2 ^ (n % 16).toNat := by
    rw [show n.toNat = 16 * (n / 16).toNat + (n % 16).toNat by omega, Nat.pow_add, Nat.pow_mul, ← Nat.div_div_eq_div_mul, show 2 ^ 16 = B16 from rfl, val_div_pow (by decide) hl]
  refine ifB_mk (fun h => ?_) (fun h => ?_)
  · simp only [decide_eq_true_eq] at h; omega
  · refine And.intro ⟨by decide, by omega⟩ ?_
    refine ifB_mk (fun h2 => ?_) (fun h2 => ?_)
    · simp only [decide_eq_true_eq] at h2
      show K _
      refine hK _ ?_
      rw [hval, List.drop_eq_nil_of_le (by (try dsimp only at h2); omega)]
      simp only [val, Nat.zero_div]
      exact ⟨rfl, Sub.nil16⟩
    · simp only [decide_eq_false_iff_not] at h2
      refine And.intro ⟨by decide, by omega⟩ ?_
      refine And.intro ⟨by omega, trivial, by (try dsimp only at h2); omega, by omega⟩ ?_
      refine And.intro (by simp only [List.length_drop, List.length_take]; omega) ?_
      show ∃ n, wpLoop _ n _ _
      refine loop_rule (fun k st => ∃ (i : Int) (r L : List Nat), L = l.drop (n / 16).toNat ∧ (k : Int) = L.length - i ∧ 0 ≤ i ∧ i ≤ L.length ∧ (r.length : Int) = i ∧ (∀ x ∈ r, x < B16) ∧ val B16 r = (val B16 L / 2 ^ (n % 16).toNat) % B16 ^ i.toNat ∧ ∃ x, st = ⟨pat x 0 [some (.words L), some (.int .i64 n), none, none, some (.nil), some (.row 0), none, none, none, none, none, none, none, none, none, none, none, none, none, none, none, none, none, none, some (.words L), some (.int .i64 (List.length L : Nat)), some (.int .i64 i), none, none, none, none, none, none, none, none, none, none, none, none, none, none, none, none, none, none, none, none, none, none, none, none, none, none, none, none, none, none, none], [.row r]⟩) ?step (n := (l.drop (n / 16).toNat).length) ?init
      case init => exact ⟨0, [], _, by rw [List.take_of_length_le (Nat.le_refl _), hq], by rw [List.take_of_length_le (Nat.le_refl _), hq]; omega, by omega, by omega, rfl, by simp, by simp [val, Nat.mod_one], (fits (.s rfl (.s rfl (.n (.n (.s rfl (.s rfl (.n (.n (.n (.n (.n (.n (.n (.n (.n (.n (.n (.n (.n (.n (.n (.n (.n (.n (.s rfl (.s rfl (.s rfl (.n (.n (.n (.n (.n (.n (.n (.n (.n (.n (.n (.n (.n (.n (.n (.n (.n (.n (.n (.n (.n (.n (.n (.n (.n (.n (.n (.n (.n (.n (.n .nil)))))))))))))))))))))))))))))))))))))))))))))))))))))))))))⟩
      case step =>
        rintro k st K' hK1 hK2 ⟨i, r, L, hL, hk, hi, hil, hr, hrb, hv, x, rfl⟩
        have hLb : ∀ x ∈ L, x < B16 := fun x hx => hl x (List.mem_of_mem_drop (hL ▸ hx))
        have hLl : L.length ≤ l.length := by rw [hL, List.length_drop]; omega
        have hx : _ < 65536 := getD_lt (B := B16) (by decide) hLb i.toNat
        have hy : _ < 65536 := getD_lt (B := B16) (by decide) hLb (i + 1).toNat
        have e1 : (i + 1).toNat = i.toNat + 1 := by omega
        have hmin : min ((n % 16) % 18446744073709551616).toNat IntKind.u32.bits = (n % 16).toNat := by
          rw [Int.emod_eq_of_lt (by omega) (by omega)]
          exact Nat.min_eq_left (by show _ ≤ 32; omega)
        have step : ∀ W : Int, W = (L.getD i.toNat 0 : Nat) + 65536 * (L.getD (i + 1).toNat 0 : Nat) → (∀ x ∈ r ++ [((W.fdiv (2 ^ min (n.tmod 16 % 18446744073709551616).toNat IntKind.u32.bits)).tmod 65536).toNat], x < B16) ∧ val B16 (r ++ [((W.fdiv (2 ^ min (n.tmod 16 % 18446744073709551616).toNat IntKind.u32.bits)).tmod 65536).toNat]) = (val B16 L / 2 ^ (n % 16).toNat) % B16 ^ (i + 1).toNat ∧ 0 ≤ (W.fdiv (2 ^ min (n.tmod 16 % 18446744073709551616).toNat IntKind.u32.bits)).tmod 65536 ∧ (W.fdiv (2 ^ min (n.tmod 16 % 18446744073709551616).toNat IntKind.u32.bits)).tmod 65536 < 65536 := by
          intro W hW
          have h2 : (2 : Int) ^ (n % 16).toNat = ((2 ^ (n % 16).toNat : Nat) : Int) := by simp
          have h3 : W = ((L.getD i.toNat 0 + B16 * L.getD (i.toNat + 1) 0 : Nat) : Int) := by rw [hW, e1]; simp only [B16]; omega
          have hd : (W.fdiv (2 ^ min (n.tmod 16 % 18446744073709551616).toNat IntKind.u32.bits)).tmod 65536 = ((val B16 L / 2 ^ (n % 16).toNat / B16 ^ i.toNat % B16 : Nat) : Int) := by
            rw [he, hmin, Int.fdiv_eq_ediv_of_nonneg _ (Int.pow_nonneg (by decide)), h2, h3, ← Int.natCast_ediv, Int.tmod_eq_emod_of_nonneg (Int.natCast_nonneg _), shr_digit16' hLb _ _ (by omega)]
            generalize (L.getD i.toNat 0 + B16 * L.getD (i.toNat + 1) 0) / 2 ^ (n % 16).toNat = q
            simp only [B16]; omega
          have hlt : val B16 L / 2 ^ (n % 16).toNat / B16 ^ i.toNat % B16 < 65536 := Nat.mod_lt _ (by decide)
          rw [hd]
          refine ⟨?_, ?_, by omega, by omega⟩
          · intro x hx'
            rcases List.mem_append.1 hx' with hx' | hx'
            · exact hrb x hx'
            · simp only [List.mem_singleton] at hx'; subst hx'; simp only [B16, Int.toNat_natCast]; exact hlt
          · rw [val_append, hv, e1, show r.length = i.toNat by omega, Nat.pow_succ, Nat.mod_mul]
            simp only [val, Int.toNat_natCast, Nat.mul_zero, Nat.add_zero]
        refine ifB_mk (fun h3 => ?_) (fun h3 => ?_)
        · simp only [decide_eq_true_eq] at h3
          refine And.intro (by (try dsimp only); omega) ?_
          refine And.intro (by (try dsimp only); omega) ?_
          refine ifB_mk (fun h4 => ?_) (fun h4 => ?_)
          · simp only [decide_eq_true_eq] at h4
            obtain ⟨s1, s2, s3, s4⟩ := step (((L.getD i.toNat 0 : Nat) + (L.getD (i + 1).toNat 0 : Nat) * 65536 % 4294967296) % 4294967296) (by omega)
            refine And.intro (by (try dsimp only); omega) ?_
            refine And.intro (by (try dsimp only); omega) ?_
            refine And.intro (by decide) ?_
            refine And.intro (by (try dsimp only); omega) ?_
            refine And.intro (by decide) ?_
            refine And.intro ⟨s3, Int.lt_of_lt_of_le s4 (by decide)⟩ ?_
            refine And.intro (by simp only [List.length_singleton]; omega) ?_
            refine And.intro (by (try dsimp only); omega) ?_
            exact hK1 (k - 1) _ (by omega) ⟨i + 1, _, L, hL, by omega, by omega, by (try dsimp only at h3); omega, by simp; omega, s1, s2, (fits (.s rfl (.s rfl (.n (.n (.s rfl (.s rfl (.n (.n (.n (.n (.n (.n (.n (.n (.n (.n (.n (.n (.n (.n (.n (.n (.n (.n (.s rfl (.s rfl (.s rfl (.n (.n (.n (.n (.n (.n (.n (.n (.n (.n (.n (.n (.n (.n (.n (.n (.n (.n (.n (.n (.n (.n (.n (.n (.n (.n (.n (.n (.n (.n (.n .nil)))))))))))))))))))))))))))))))))))))))))))))))))))))))))))⟩
          · simp only [decide_eq_false_iff_not] at h4
            have hz : L.getD (i + 1).toNat 0 = 0 := getD_out (by (try dsimp only at h4); omega)
            obtain ⟨s1, s2, s3, s4⟩ := step (L.getD i.toNat 0 : Nat) (by omega)
            refine And.intro (by decide) ?_
            refine And.intro (by (try dsimp only); omega) ?_
            refine And.intro (by decide) ?_
            refine And.intro ⟨s3, Int.lt_of_lt_of_le s4 (by decide)⟩ ?_
            refine And.intro (by simp only [List.length_singleton]; omega) ?_
            refine And.intro (by (try dsimp only); omega) ?_
            exact hK1 (k - 1) _ (by omega) ⟨i + 1, _, L, hL, by omega, by omega, by (try dsimp only at h3); omega, by simp; omega, s1, s2, (fits (.s rfl (.s rfl (.n (.n (.s rfl (.s rfl (.n (.n (.n (.n (.n (.n (.n (.n (.n (.n (.n (.n (.n (.n (.n (.n (.n (.n (.s rfl (.s rfl (.s rfl (.n (.n (.n (.n (.n (.n (.n (.n (.n (.n (.n (.n (.n (.n (.n (.n (.n (.n (.n (.n (.n (.n (.n (.n (.n (.n (.n (.n (.n (.n (.n .nil)))))))))))))))))))))))))))))))))))))))))))))))))))))))))))⟩
        · simp only [decide_eq_false_iff_not] at h3
          refine hK2 _ _ (by simp) ?_
          refine And.intro ⟨hrb, by omega⟩ ?_
          show K _
          refine hK _ ?_
          have hi' : i.toNat = L.length := by (try dsimp only at h3); omega
          have hlt := val_lt (B := B16) (by decide) hLb
          rw [hi', Nat.mod_eq_of_lt (Nat.lt_of_le_of_lt (Nat.div_le_self _ _) hlt)] at hv
          rw [hv, hval, hL]
          exact ⟨rfl, Sub.refl _⟩
theorem rshr_holds (F : TypeId) (p : Nat × Int) (h : 0 ≤ p.2 ∧ p.2 ≤ 1099511627776 ∧ L16 p.1 ≤ cap30) : Holds Tryd.prog F 165 [.n16 p.1, .int .i64 p.2] (.ok (.n16 (p.1 / 2 ^ p.2.toNat))) :=
  holds_run mixed tb_ok (envTrim_ok F) Tryd.func165 rfl (by kernel_rfl) (args := [.words (dig16 p.1), .int .i64 p.2]) (rshr_wp F _ p.2 (lt16 _) h.2.2 h.1 h.2.1 _ fun _ hr => by rw [val_dig16] at hr; exact hr) (SubL.cons (Sub.of16 p.1) (SubL.cons (Sub.refl _) SubL.nil))
def dec_16_i64 : List SV → Option (Nat × Int)
  | [x, .int .i64 n] => match asN16 x with
    | some a => some (a, n)
    | none => none
  | _ => none
theorem dec_16_i64_sub (xs : List SV) (p : Nat × Int) (h : dec_16_i64 xs = some p) : SubL xs [.n16 p.1, .int .i64 p.2] := by
  unfold dec_16_i64 at h
  split at h
  · split at h
    · rename_i x n a ha
      simp only [Option.some.injEq] at h
      subst h
      exact SubL.cons (asN16_sub ha) (SubL.cons (Sub.refl _) SubL.nil)
    · cases h
  · cases h
def rshrC (F : TypeId) : Con Tryd.prog F :=
  mkCon 165 (enters_of Tryd.func165 (by kernel_rfl) rfl) dec_16_i64 (fun p => [.n16 p.1, .int .i64 p.2]) (fun p => 0 ≤ p.2 ∧ p.2 ≤ 1099511627776 ∧ L16 p.1 ≤ cap30) (fun p => .n16 (p.1 / 2 ^ p.2.toNat)) dec_16_i64_sub (rshr_holds F)
end Iv
end Go.Proofs.YtfajgibpidlojaaDoor
end
