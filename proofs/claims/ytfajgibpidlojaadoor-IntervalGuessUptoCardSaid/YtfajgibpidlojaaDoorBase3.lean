/-
  Contracts of functions that a law reaches, and what they rest on, part 3. Each part says its own conditions.
-/
import Derived.Test.YtfajgibpidlojaaDoorProg
import Derived.KernelRfl
import Derived.Test.YtfajgibpidlojaaDoorBase2

section
/- The verified interpreter, part J: whatever order a region draws, it comes to what it comes to in the text's order. Conditions: as in part I. -/
set_option linter.unusedVariables false
set_option linter.unusedSimpArgs false
namespace Go.Proofs.YtfajgibpidlojaaDoor
namespace Iv
noncomputable section
open Go Go.RowKit

section
variable {P : Program} {tab : Tb} {env : Env} {U : Ctx tab.u tab.app} {F : TypeId} {Mc : Nat → Prop} {w0 : World}

/-! ### What an operation comes to hangs on what it looks at -/
theorem parts_congr {ev ev' : Operand → SV} : ∀ (ps : List (Nat × Operand)), (∀ p ∈ ps, ev' p.2 = ev p.2) → partsSem ev' ps = partsSem ev ps
  | [], _ => rfl
  | (i, x) :: ps, h => by
    simp only [partsSem, h (i, x) (by simp), parts_congr ps fun p hp => h p (by simp [hp])]
theorem expo_congr {os os' : List Ob} {x : SV} (h : ∀ k ∈ objOf x, os'[k]? = os[k]?) : expo os' x = expo os x := by
  have go : ∀ cs, (∀ k ∈ objOf.go cs, os'[k]? = os[k]?) → expo.go os' cs = expo.go os cs := by
    intro cs
    induction cs with
    | nil => intro _; rfl
    | cons c cs ih =>
      intro h
      simp only [objOf.go, List.mem_append] at h
      have h' := ih fun k hk => h k (.inr hk)
      by_cases hp : ∃ i off, c = .ptr i off
      · obtain ⟨i, off, rfl⟩ := hp
        simp only [expo.go, h i (.inl (by simp [objOf.ptrOf])), h']
      · cases c <;> first | (exact absurd ⟨_, _, rfl⟩ hp) | simp only [expo.go, h']
  cases x <;> simp only [expo]
  case ptr i off => rw [h i (by simp [objOf])]
  case row i => rw [h i (by simp [objOf])]
  case view i lo hi => rw [h i (by simp [objOf])]
  case fn f caps => rw [go caps (by simpa [objOf] using h)]
theorem expoL_congr {os os' : List Ob} : ∀ (xs : List SV), (∀ x ∈ xs, ∀ k ∈ objOf x, os'[k]? = os[k]?) → expoL os' xs = expoL os xs
  | [], _ => rfl
  | x :: xs, h => by simp only [expoL, expo_congr (h x (by simp)), expoL_congr xs fun y hy => h y (by simp [hy])]
theorem objOf_caps {caps : List SV} {f : FuncId} : ∀ x ∈ caps, ∀ k ∈ objOf x, (∀ g cs, x ≠ .fn g cs) → (∀ i, x ≠ .row i) → (∀ i j, x ≠ .rptr i j) → (∀ i lo hi, x ≠ .view i lo hi) → k ∈ objOf (.fn f caps) := by
  intro x hx k hk h1 h2 h3 h4
  simp only [objOf]
  induction caps with
  | nil => cases hx
  | cons c cs ih =>
    simp only [objOf.go, List.mem_append]
    rcases List.mem_cons.1 hx with rfl | hx
    · left
      cases x <;> simp [objOf] at hk
      · subst hk; simp [objOf.ptrOf]
      · exact absurd rfl (h2 _)
      · exact absurd rfl (h3 _ _)
      · exact absurd rfl (h1 _ _)
      · exact absurd rfl (h4 _ _ _)
    · exact .inr (ih hx)
theorem lenOf_congr {os os' : List Ob} {x : SV} (h : ∀ k ∈ objOf x, os'[k]? = os[k]?) : lenOf os' x = lenOf os x := by
  cases x <;> simp only [lenOf]
  case row i => rw [h i (by simp [objOf])]
theorem listOf_congr {os os' : List Ob} {x : SV} (h : ∀ k ∈ objOf x, os'[k]? = os[k]?) : listOf os' x = listOf os x := by
  cases x <;> simp only [listOf]
  case row i => rw [h i (by simp [objOf])]
  case view i lo hi => rw [h i (by simp [objOf])]
theorem baseOf_congr {os os' : List Ob} {x : SV} (h : ∀ k ∈ objOf x, os'[k]? = os[k]?) : baseOf os' x = baseOf os x := by
  cases x <;> try (simp only [baseOf]; done)
  case row i => simp only [baseOf]; rw [h i (by simp [objOf])]
  case view i lo hi => cases lo <;> simp only [baseOf]; rw [h i (by simp [objOf])]
theorem opSem_congr {os os' : List Ob} {ev ev' : Operand → SV} (o : Op) (he : ∀ y ∈ o.operands, ev' y = ev y) (ho : ∀ k ∈ accObj ev o, os'[k]? = os[k]?)
    (hcp : callCh ev o = true) : opSem tab os' ev' o = opSem tab os ev o := by
  cases o <;> try (simp only [opSem]; done)
  case move y => simp only [opSem, he y (by simp [Op.operands])]
  case assign y => simp only [opSem, he y (by simp [Op.operands])]
  case pick c a b => simp only [opSem, he c (by simp [Op.operands]), he a (by simp [Op.operands]), he b (by simp [Op.operands])]
  case box T y => simp only [opSem, he y (by simp [Op.operands])]
  case build T ps => simp only [opSem, parts_congr (ev := ev) (ev' := ev') ps.toList fun p hp => he p.2 (by simp [Op.operands]; exact ⟨p.1, by simpa using hp⟩)]
  case load T a =>
    simp only [accObj] at ho
    have ha := he a (by simp [Op.operands])
    have hc : cellsAt os' (ev a) = cellsAt os (ev a) := by
      cases hx : ev a <;> simp only [cellsAt]
      rw [ho _ (by rw [hx]; simp [objOf])]
    simp only [opSem, ha]
    cases hT : tab T with
    | none => cases hx : ev a <;> rfl
    | some ti =>
      cases hx : ev a
      case rptr i j =>
        have := ho i (by rw [hx]; simp [objOf])
        dsimp only
        rw [this]
      case ptr i off => rw [hx] at hc; dsimp only; rw [hc]
      all_goals rfl
  case store T a y =>
    simp only [accObj] at ho
    simp only [opSem, he a (by simp [Op.operands]), he y (by simp [Op.operands])]
    cases hT : tab T with
    | none => cases hx : ev a <;> rfl
    | some ti =>
      cases hx : ev a
      case rptr i j =>
        have := ho i (by rw [hx]; simp [objOf])
        dsimp only
        rw [this]
      case ptr i off =>
        have := ho i (by rw [hx]; simp [objOf])
        dsimp only
        rw [this]
      all_goals rfl
  case binOp op T y z yT => simp only [opSem, he y (by simp [Op.operands]), he z (by simp [Op.operands])]
  case unOp op T y => simp only [opSem, he y (by simp [Op.operands])]
  case convert S T y => simp only [opSem, he y (by simp [Op.operands])]
  case makeFunc fn first caps =>
    cases fn <;> simp only [opSem]
    have : caps.toList.map ev' = caps.toList.map ev := List.map_congr_left fun y hy => he y (by simp [Op.operands]; exact .inr (by simpa using hy))
    rw [this]
  case fieldAddr T a i => simp only [opSem, he a (by simp [Op.operands])]
  case field T a i => simp only [opSem, he a (by simp [Op.operands])]
  case index T a i => simp only [opSem, he a (by simp [Op.operands]), he i (by simp [Op.operands])]
  case indexAddr T a i =>
    simp only [accObj] at ho
    simp only [opSem, he a (by simp [Op.operands]), he i (by simp [Op.operands])]
    cases hi : asInt? (ev i) with
    | none => cases hx : ev a <;> rfl
    | some n =>
      cases hx : ev a
      case row k =>
        have := ho k (by rw [hx]; simp [objOf])
        dsimp only
        rw [this]
      case view k lo hi =>
        have := ho k (by rw [hx]; simp [objOf])
        dsimp only
        rw [this]
      all_goals rfl
  case makeSlice T n c => simp only [opSem, he n (by simp [Op.operands]), he c (by simp [Op.operands])]
  case buildSlice T n ps =>
    have hps : ∀ p ∈ ps.toList, ev' p.2 = ev p.2 := fun p hp => he p.2 (by simp [Op.operands]; exact ⟨p.1, by simpa using hp⟩)
    simp only [opSem]
    split
    · rename_i h; rfl
    · rename_i x h; rw [hps (0, x) (by rw [h]; simp)]
    · rename_i x y h; rw [hps (0, x) (by rw [h]; simp), hps (1, y) (by rw [h]; simp)]
    · rfl
  case slice T x lo hi mx =>
    simp only [accObj] at ho
    have hx := he x (by simp [Op.operands])
    have hb : ∀ d, bound ev' d lo = bound ev d lo := fun d => by
      cases lo with
      | none => rfl
      | some y => simp only [bound, he y (by simp [Op.operands])]
    have hb' : ∀ d, bound ev' d hi = bound ev d hi := fun d => by
      cases hi with
      | none => rfl
      | some y => simp only [bound, he y (by simp [Op.operands])]
    cases mx with
    | some _ => rfl
    | none =>
      simp only [opSem, hx, hb, hb']
      cases hx' : ev x
      case row k =>
        have := ho k (by rw [hx']; simp [objOf])
        dsimp only
        rw [this]
      all_goals rfl
  case extract t i => simp only [opSem, he t (by simp [Op.operands])]
  case call c =>
    obtain ⟨callee, args, argTypes⟩ := c
    have hargs : args.toList.map ev' = args.toList.map ev := List.map_congr_left fun y hy => he y (by simp [Op.operands, Call.operands]; exact .inr (by simpa using hy))
    cases callee with
    | value g =>
      have hg := he g (by simp [Op.operands, Call.operands])
      have hcg : capsPlain (ev g) = true := hcp
      simp only [accObj] at ho
      simp only [opSem, hg, hargs]
      cases hx : ev g <;> try rfl
      rename_i f caps
      dsimp only
      cases tab.inl f <;> try rfl
      dsimp only
      rw [expoL_congr]
      intro x hx' k hk
      rcases List.mem_append.1 hx' with h1 | h1
      · obtain ⟨y, hy, rfl⟩ := List.mem_map.1 h1
        exact ho k (List.mem_append_right _ (List.mem_flatMap.2 ⟨y, hy, hk⟩))
      · refine ho k (List.mem_append_left _ ?_)
        rw [hx] at hcg ⊢
        simp only [capsPlain, List.all_eq_true] at hcg
        have := hcg x h1
        refine objOf_caps x h1 k hk (fun g cs e => ?_) (fun i e => ?_) (fun i j e => ?_) (fun i lo hi e => ?_) <;> (subst e; simp at this)
    | invoke r m => simp only [opSem]
    | builtin b =>
      have hm : ∀ x ∈ args.toList, ev' x = ev x ∧ ∀ k ∈ objOf (ev x), os'[k]? = os[k]? := fun x hx =>
        ⟨he x (by simp [Op.operands, Call.operands]; simpa using hx), fun k hk => ho k (by simp only [accObj, List.nil_append]; exact List.mem_flatMap.2 ⟨x, hx, hk⟩)⟩
      cases b <;> simp only [opSem]
      case append =>
        split
        · rename_i x y hx
          obtain ⟨e1, k1⟩ := hm x (by rw [hx]; simp)
          obtain ⟨e2, k2⟩ := hm y (by rw [hx]; simp)
          rw [e1, e2, baseOf_congr k1, listOf_congr k2]
        · rfl
      case copy =>
        split
        · rename_i x y hx
          obtain ⟨e1, k1⟩ := hm x (by rw [hx]; simp)
          obtain ⟨e2, k2⟩ := hm y (by rw [hx]; simp)
          rw [e1, e2]
          cases hsrc : (ev y).list with
          | none => cases ev x <;> rfl
          | some src =>
            cases hx' : ev x
            case row i =>
              have := k1 i (by rw [hx']; simp [objOf])
              dsimp only
              rw [this]
            all_goals rfl
        · rfl
      case min =>
        split
        · rename_i x y hx
          rw [(hm x (by rw [hx]; simp)).1, (hm y (by rw [hx]; simp)).1]
        · rfl
      have hl : ∀ x, args.toList = [x] → ev' x = ev x ∧ lenOf os' (ev x) = lenOf os (ev x) := fun x hx =>
        ⟨he x (by simp [Op.operands, Call.operands]; have : x ∈ args.toList := by simp [hx]
                  simpa using this), lenOf_congr fun k hk => ho k (by simp only [accObj, List.nil_append]; exact List.mem_flatMap.2 ⟨x, by simp [hx], hk⟩)⟩
      split
      · rename_i x hx; rw [(hl x hx).1, (hl x hx).2]
      · rfl
theorem wpRes_of {Q : SV → Prop} {E : Int → Prop} : ∀ {r : Res}, (match r.pick with | .ok x => Q x | .error e => E e) → wpRes Q E r
  | .ok _, h => h
  | .err _, h => h
  | .ite c a b, h => by
    refine ⟨fun hc => wpRes_of (r := a) ?_, fun hc => wpRes_of (r := b) ?_⟩
    · simpa only [Res.pick, hc, if_true] using h
    · simpa only [Res.pick, hc, if_false] using h

/-! ### Whatever has been listed: the state as it stands then -/
variable {ops : Array Oper} {Q : St → Prop} {E : Int → Prop} {S : Nat → St} {R : Nat → Option (Except Int St)}
def creates (S : Nat → St) (j k : Nat) : Prop := (S (j + 1)).os.length = (S j).os.length + 1 ∧ k = (S j).os.length
def touches (tab : Tb) (ops : Array Oper) (S : Nat → St) (R : Nat → Option (Except Int St)) (j k : Nat) : Prop := (Ran ops S R j ∧ k ∈ Wj tab ops S j) ∨ creates S j k
def curN (ops : Array Oper) (S : Nat → St) (L : Nat → Bool) : Nat → Nat → SV
  | 0, t => (S 0).slots.getD t .undef
  | i + 1, t => if L i = true ∧ (OJ ops i).dst = some t then (S (i + 1)).slots.getD t .undef else curN ops S L i t
open Classical in
noncomputable def curO (tab : Tb) (ops : Array Oper) (S : Nat → St) (R : Nat → Option (Except Int St)) (L : Nat → Bool) : Nat → Nat → Option Ob
  | 0, k => (S 0).os[k]?
  | i + 1, k => if L i = true ∧ touches tab ops S R i k then (S (i + 1)).os[k]? else curO tab ops S R L i k

theorem curN_agree {L L' : Nat → Bool} {t : Nat} : ∀ i, (∀ j, j < i → (OJ ops j).dst = some t → L j = L' j) → curN ops S L i t = curN ops S L' i t
  | 0, _ => rfl
  | i + 1, h => by
    simp only [curN, curN_agree i fun j hj => h j (by omega)]
    by_cases hd : (OJ ops i).dst = some t
    · rw [h i (by omega) hd]
    · simp [hd]
theorem curO_agree {L L' : Nat → Bool} {k : Nat} : ∀ i, (∀ j, j < i → touches tab ops S R j k → L j = L' j) → curO tab ops S R L i k = curO tab ops S R L' i k
  | 0, _ => rfl
  | i + 1, h => by
    simp only [curO, curO_agree i fun j hj => h j (by omega)]
    by_cases hd : touches tab ops S R i k
    · rw [h i (by omega) hd]
    · simp [hd]
theorem curN_later {L : Nat → Bool} {t i : Nat} : ∀ d, (∀ j, i ≤ j → j < i + d → (OJ ops j).dst = some t → L j = false) → curN ops S L (i + d) t = curN ops S L i t
  | 0, _ => rfl
  | d + 1, h => by
    rw [show i + (d + 1) = (i + d) + 1 from rfl, curN, if_neg ?_]
    · exact curN_later d fun j a b => h j a (by omega)
    · rintro ⟨h1, h2⟩
      rw [h (i + d) (by omega) (by omega) h2] at h1
      cases h1
theorem curO_later {L : Nat → Bool} {k i : Nat} : ∀ d, (∀ j, i ≤ j → j < i + d → touches tab ops S R j k → L j = false) → curO tab ops S R L (i + d) k = curO tab ops S R L i k
  | 0, _ => rfl
  | d + 1, h => by
    rw [show i + (d + 1) = (i + d) + 1 from rfl, curO, if_neg ?_]
    · exact curO_later d fun j a b => h j a (by omega)
    · rintro ⟨h1, h2⟩
      rw [h (i + d) (by omega) (by omega) h2] at h1
      cases h1

/-- One step of the text: what it leaves alone, what it writes. -/
theorem put_slots (st : St) (dst : Option Tmp) (x : SV) (t : Nat) (h : dst ≠ some t) : (st.put dst x).slots.getD t .undef = st.slots.getD t .undef := by
  cases dst with
  | none => rfl
  | some d =>
    have : d ≠ t := fun e => h (by rw [e])
    simp [St.put, List.getD_eq_getElem?_getD, List.getElem?_set_ne this]
theorem put_len (st : St) (dst : Option Tmp) (x : SV) : (st.put dst x).slots.length = st.slots.length := by cases dst <;> simp [St.put]
theorem put_os (st : St) (dst : Option Tmp) (x : SV) : (st.put dst x).os = st.os := by cases dst <;> rfl
theorem outTo_slots {st : St} {dst : Option Tmp} {out : Out} {s' : St} (h : outTo env st dst out (.ok s')) : ∃ x, s'.slots = (st.put dst x).slots ∧
    (s'.os = st.os ∧ wrObj out = [] ∨ (∃ ob, s'.os = st.os ++ [ob] ∧ wrObj out = []) ∨ ∃ i ob, wrObj out = [i] ∧ s'.os = st.os.set i ob ∧ ob.live = true ∧ ∃ ob', st.os[i]? = some ob' ∧ ob'.live = true) := by
  cases out with
  | val x => simp only [outTo, Except.ok.injEq] at h; subst h; exact ⟨x, rfl, .inl ⟨put_os _ _ _, rfl⟩⟩
  | pick t x y => simp only [outTo, Except.ok.injEq] at h; subst h; exact ⟨_, rfl, .inl ⟨put_os _ _ _, rfl⟩⟩
  | new ob x => simp only [outTo, Except.ok.injEq] at h; subst h; exact ⟨x st.os.length, by cases dst <;> rfl, .inr (.inl ⟨ob, put_os _ _ _, rfl⟩)⟩
  | put i off cs => obtain ⟨T, ds, hos, h⟩ := h; simp only [Except.ok.injEq] at h; subst h; exact ⟨.undef, by cases dst <;> rfl, .inr (.inr ⟨i, _, rfl, put_os _ _ _, rfl, _, hos, rfl⟩)⟩
  | rput i l' => obtain ⟨l, hos, h⟩ := h; simp only [Except.ok.injEq] at h; subst h; exact ⟨.undef, by cases dst <;> rfl, .inr (.inr ⟨i, _, rfl, put_os _ _ _, rfl, _, hos, rfl⟩)⟩
  | app i l => exact h.elim
  | lit l => simp only [outTo, Except.ok.injEq] at h; subst h; exact ⟨_, rfl, .inl ⟨put_os _ _ _, rfl⟩⟩
  | inl f xs => exact h.elim
  | call f xs fz =>
    obtain ⟨pre, q, _, _, h⟩ := h
    cases hq : q.pick with
    | ok x => rw [hq] at h; simp only [Except.ok.injEq] at h; subst h; exact ⟨x, rfl, .inl ⟨put_os _ _ _, rfl⟩⟩
    | error e => rw [hq] at h; cases h
  | none => exact h.elim
/-- The step of operation j, whatever it is. -/
theorem step_facts (T : TrOK tab env ops Q E S R 0 ops.size [] [] [] none) {j : Nat} (hj : j < ops.size) :
    (∀ t, (OJ ops j).dst ≠ some t → (S (j + 1)).slots.getD t .undef = (S j).slots.getD t .undef) ∧ (S (j + 1)).slots.length = (S j).slots.length ∧
    (S j).os.length ≤ (S (j + 1)).os.length ∧ (S (j + 1)).os.length ≤ (S j).os.length + 1 ∧
    (∀ k, ¬ touches tab ops S R j k → (S (j + 1)).os[k]? = (S j).os[k]?) := by
  have hn := T.next j (by omega) hj
  have same : S (j + 1) = S j → _ := fun (e : S (j + 1) = S j) => (⟨fun t _ => by rw [e], by rw [e], by rw [e]; exact Nat.le_refl _, by rw [e]; omega, fun k _ => by rw [e]⟩ :
    (∀ t, (OJ ops j).dst ≠ some t → (S (j + 1)).slots.getD t .undef = (S j).slots.getD t .undef) ∧ (S (j + 1)).slots.length = (S j).slots.length ∧
    (S j).os.length ≤ (S (j + 1)).os.length ∧ (S (j + 1)).os.length ≤ (S j).os.length + 1 ∧
    (∀ k, ¬ touches tab ops S R j k → (S (j + 1)).os[k]? = (S j).os[k]?))
  cases hR : R j with
  | none => exact same (by rw [hn, hR]; rfl)
  | some r =>
    cases r with
    | error e => exact same (by rw [hn, hR]; rfl)
    | ok s' =>
      have hs : S (j + 1) = s' := by rw [hn, hR]; rfl
      rcases T.go j (by omega) hj _ hR with ⟨hw, h⟩ | ⟨hw, h, _⟩
      · simp only [Except.ok.injEq] at h
        rw [hs, h]
        exact ⟨fun t ht => put_slots _ _ _ t ht, put_len _ _ _, by rw [put_os]; exact Nat.le_refl _, by rw [put_os]; omega, fun k _ => by rw [put_os]⟩
      · obtain ⟨x, h1, h2⟩ := outTo_slots h
        rw [hs]
        refine ⟨fun t ht => by rw [h1]; exact put_slots _ _ _ t ht, by rw [h1]; exact put_len _ _ _, ?_⟩
        rcases h2 with ⟨h2, _⟩ | ⟨ob, h2, _⟩ | ⟨i, ob, h2, h3, _⟩
        · rw [h2]; exact ⟨Nat.le_refl _, by omega, fun _ _ => rfl⟩
        · rw [h2]
          refine ⟨by simp, by simp, fun k hk => ?_⟩
          by_cases e : k < (S j).os.length
          · rw [List.getElem?_append_left e]
          · by_cases e' : k = (S j).os.length
            · exact absurd (.inr ⟨by rw [hs, h2]; simp, e'⟩) hk
            · rw [List.getElem?_eq_none (by simp; omega), List.getElem?_eq_none (by omega)]
        · rw [h3]
          refine ⟨by simp, by simp, fun k hk => ?_⟩
          rw [List.getElem?_set_ne]
          rintro rfl
          exact hk (.inl ⟨⟨by rw [hR]; simp, hw⟩, by simp only [Wj]; rw [h2]; simp⟩)
theorem text_N (T : TrOK tab env ops Q E S R 0 ops.size [] [] [] none) (t : Nat) : ∀ i, i ≤ ops.size → curN ops S (fun _ => true) i t = (S i).slots.getD t .undef
  | 0, _ => rfl
  | i + 1, hi => by
    simp only [curN, true_and, text_N T t i (by omega)]
    split
    · rfl
    · rename_i h; exact ((step_facts T (j := i) (by omega)).1 t h).symm
theorem text_O (T : TrOK tab env ops Q E S R 0 ops.size [] [] [] none) (k : Nat) : ∀ i, i ≤ ops.size → curO tab ops S R (fun _ => true) i k = (S i).os[k]?
  | 0, _ => rfl
  | i + 1, hi => by
    simp only [curO, true_and, text_O T k i (by omega)]
    split
    · rfl
    · rename_i h; exact ((step_facts T (j := i) (by omega)).2.2.2.2 k fun ht => h ⟨rfl, ht⟩).symm
theorem len_mono (T : TrOK tab env ops Q E S R 0 ops.size [] [] [] none) {i : Nat} : ∀ d, i + d ≤ ops.size → (S i).os.length ≤ (S (i + d)).os.length
  | 0, _ => Nat.le_refl _
  | d + 1, h => Nat.le_trans (len_mono T d (by omega)) (step_facts T (j := i + d) (by omega)).2.2.1
theorem len_slots (T : TrOK tab env ops Q E S R 0 ops.size [] [] [] none) : ∀ i, i ≤ ops.size → (S i).slots.length = (S 0).slots.length
  | 0, _ => rfl
  | i + 1, h => by rw [(step_facts T (j := i) (by omega)).2.1, len_slots T i (by omega)]
theorem creates_lt (T : TrOK tab env ops Q E S R 0 ops.size [] [] [] none) {i j k : Nat} (hi : i ≤ ops.size) (hj : j < ops.size) (hc : creates S j k) (hk : k < (S i).os.length) : j < i := by
  refine Nat.lt_of_not_le fun h => ?_
  have := len_mono T (i := i) (j - i) (by omega)
  rw [show i + (j - i) = j by omega] at this
  have := hc.2
  omega
theorem creates_ge (T : TrOK tab env ops Q E S R 0 ops.size [] [] [] none) {i j k : Nat} (hi : i ≤ j) (hj : j < ops.size) (hc : creates S j k) : (S i).os.length ≤ k := by
  have := len_mono T (i := i) (j - i) (by omega)
  rw [show i + (j - i) = j by omega] at this
  have := hc.2
  omega
theorem creates_one (T : TrOK tab env ops Q E S R 0 ops.size [] [] [] none) {i j k : Nat} (hi : i < ops.size) (hj : j < ops.size) (h1 : creates S i k) (h2 : creates S j k) : i = j := by
  have key : ∀ a b, a < b → b < ops.size → creates S a k → creates S b k → False := by
    intro a b hab hb ha hb'
    have := len_mono T (i := a + 1) (b - (a + 1)) (by omega)
    rw [show a + 1 + (b - (a + 1)) = b by omega] at this
    have := ha.1; have := ha.2; have := hb'.2
    omega
  rcases Nat.lt_trichotomy i j with h | h | h
  · exact (key i j h hj h1 h2).elim
  · exact h
  · exact (key j i h hi h2 h1).elim
end
end
end Iv
end Go.Proofs.YtfajgibpidlojaaDoor
end

section
/- The verified interpreter, part K: the theorem on a region that draws its order. Conditions: as in part I. -/
set_option linter.unusedVariables false
set_option linter.unusedSimpArgs false
set_option linter.unusedSectionVars false
namespace Go.Proofs.YtfajgibpidlojaaDoor
namespace Iv
noncomputable section
open Go Go.RowKit

section
variable {P : Program} {tab : Tb} {env : Env} {U : Ctx tab.u tab.app} {F : TypeId} {Mc : Nat → Prop} {w0 : World}
variable {ops : Array Oper} {Q : St → Prop} {E : Int → Prop} {S : Nat → St} {R : Nat → Option (Except Int St)}

/-- The state when L has been run. -/
noncomputable def stL (tab : Tb) (ops : Array Oper) (S : Nat → St) (R : Nat → Option (Except Int St)) (L : Nat → Bool) : St :=
  { slots := (List.range (S 0).slots.length).map (curN ops S L ops.size)
    os := (List.range (S ops.size).os.length).map fun k => (curO tab ops S R L ops.size k).getD .dead }
theorem stL_slot (L : Nat → Bool) (t : Nat) (h : t < (S 0).slots.length) : (stL tab ops S R L).slots.getD t .undef = curN ops S L ops.size t := by
  simp [stL, List.getD_eq_getElem?_getD, h]
theorem stL_slot' (L : Nat → Bool) (t : Nat) (h : ¬ t < (S 0).slots.length) : (stL tab ops S R L).slots.getD t .undef = .undef := by
  simp [stL, List.getD_eq_getElem?_getD, h]
theorem stL_ob (L : Nat → Bool) (k : Nat) (h : k < (S ops.size).os.length) : (stL tab ops S R L).os[k]? = some ((curO tab ops S R L ops.size k).getD .dead) := by
  simp [stL, h]

theorem drawChk_edges (h : drawChk ops = true) {i : Nat} (hi : i < ops.size) : ∀ e ∈ (OJ ops i).after, Region.binds .any e = true → e.on < i := by
  simp only [drawChk, List.all_eq_true, List.mem_range] at h
  have := h i hi
  have ho : ops[i]? = some ops[i] := Array.getElem?_eq_getElem hi
  rw [ho] at this
  simp only [Bool.and_eq_true] at this
  intro e he hb
  have hO : OJ ops i = ops[i] := by simp [OJ, ho]
  rw [hO] at he
  have h1 := this.1
  rw [Array.all_eq_true_iff_forall_mem] at h1
  have := h1 e he
  simpa [hb] using this
theorem drawChk_slots (h : drawChk ops = true) {i j : Nat} (hi : i < ops.size) (hj : j < ops.size) {d : Tmp} (hd : (OJ ops j).dst = some d) (hs : d ∈ slotsOf ops (OJ ops i)) (hne : j ≠ i) :
    (if j < i then edge (OJ ops i) j else edge (OJ ops j) i) = true := by
  simp only [drawChk, List.all_eq_true, List.mem_range] at h
  have := h i hi
  have ho : ops[i]? = some ops[i] := Array.getElem?_eq_getElem hi
  have ho' : ops[j]? = some ops[j] := Array.getElem?_eq_getElem hj
  rw [ho] at this
  simp only [Bool.and_eq_true, List.all_eq_true, List.mem_range] at this
  have := this.2 j hj
  rw [ho'] at this
  have hO : OJ ops i = ops[i] := by simp [OJ, ho]
  have hO' : OJ ops j = ops[j] := by simp [OJ, ho']
  rw [hO'] at hd
  rw [hO] at hs
  rw [hO, hO']
  simp only [hd] at this
  simpa [hs, hne] using this

/-- What holds when L has been run. -/
structure DI (P : Program) (tab : Tb) (U : Ctx tab.u tab.app) (Mc : Nat → Prop) (w0 : World) (ops : Array Oper) (S : Nat → St) (R : Nat → Option (Except Int St)) (L : Nat → Bool) (bnd : Nat → Option Value) (a : Act) (w : World) : Prop where
  inv : Inv U Mc w0 bnd (stL tab ops S R L) a w
  made : ∀ k v, bnd k = some v → k < (S 0).os.length ∨ ∃ q, q < ops.size ∧ L q = true ∧ creates S q k
  ok : ∀ j, j < ops.size → L j = true → ∃ s, R j = some (.ok s)
  down : ∀ j, j < ops.size → L j = true → ∀ q, edge (OJ ops j) q = true → q < ops.size → L q = true
  acc : ∀ j, j < ops.size → L j = true → Ran ops S R j → ∀ k ∈ Aj ops S j, k < (S 0).os.length ∨ ∃ q, q < ops.size ∧ L q = true ∧ creates S q k

theorem edge_lt (hc : drawChk ops = true) {i j : Nat} (hi : i < ops.size) (h : edge (OJ ops i) j = true) : j < i := by
  simp only [edge, List.any_eq_true] at h
  obtain ⟨e, he, h⟩ := h
  simp only [Bool.and_eq_true, beq_iff_eq] at h
  have := drawChk_edges hc hi e (by simpa using he) h.1
  omega
theorem range_get {α : Type} (f g : Nat → α) (n t : Nat) (h : f t = g t) : ((List.range n).map f)[t]? = ((List.range n).map g)[t]? := by
  by_cases hl : t < n
  · simp [hl, h]
  · simp [hl]

section
variable (hc : drawChk ops = true) (T : TrOK tab env ops Q E S R 0 ops.size [] [] [] none) {L : Nat → Bool} {bnd : Nat → Option Value} {a : Act} {w : World} (D : DI P tab U Mc w0 ops S R L bnd a w) {i : Nat} (hi : i < ops.size) (hL : L i = false) (hdep : ∀ q, edge (OJ ops i) q = true → L q = true)
include hc T D hi hL hdep

theorem cur_slot {t : Tmp} (ht : t ∈ slotsOf ops (OJ ops i)) : curN ops S L ops.size t = (S i).slots.getD t .undef := by
  have h1 := curN_later (ops := ops) (S := S) (L := L) (t := t) (i := i) (ops.size - i) (fun j a b hd => by
    by_cases e : j = i
    · subst e; exact hL
    · have hj : j < ops.size := by omega
      have := drawChk_slots hc hi hj hd ht e
      rw [if_neg (by omega)] at this
      cases hLj : L j with
      | false => rfl
      | true => rw [D.down j hj hLj i this hi] at hL; cases hL)
  rw [show i + (ops.size - i) = ops.size by omega] at h1
  rw [h1, ← text_N T t i (by omega)]
  refine curN_agree i fun j hj hd => ?_
  have := drawChk_slots hc hi (show j < ops.size by omega) hd ht (by omega)
  rw [if_pos hj] at this
  exact hdep j this
theorem st_slot {t : Tmp} (ht : t ∈ slotsOf ops (OJ ops i)) : (stL tab ops S R L).slots.getD t .undef = (S i).slots.getD t .undef := by
  by_cases h : t < (S 0).slots.length
  · rw [stL_slot L t h, cur_slot hc T D hi hL hdep ht]
  · rw [stL_slot' L t h]
    have h1 := len_slots T i (by omega)
    have h2 : (S i).slots.length ≤ t := by rw [h1]; exact Nat.le_of_not_lt h
    simp [List.getD_eq_getElem?_getD, List.getElem?_eq_none h2]
theorem st_ev : ∀ y ∈ (OJ ops i).op.operands, (stL tab ops S R L).ev y = (S i).ev y := by
  intro y hy
  cases y with
  | tmp t =>
    simp only [St.ev]
    refine st_slot hc T D hi hL hdep ?_
    simp only [slotsOf, List.mem_append]
    exact .inl (.inr (List.mem_filterMap.2 ⟨.tmp t, by simpa using hy, rfl⟩))
  | const v => rfl
  | func f => rfl
  | global g => rfl
theorem st_wanted : wantedSem ops (stL tab ops S R L) (OJ ops i) = wantedSem ops (S i) (OJ ops i) := by
  unfold wantedSem
  cases hg : (OJ ops i).guard with
  | none => rfl
  | some jw =>
    obtain ⟨j, want⟩ := jw
    simp only
    cases hd : (ops[j]?).bind (·.dst) with
    | none => rfl
    | some d =>
      simp only
      rw [st_slot hc T D hi hL hdep (t := d) (by simp only [slotsOf, hg, hd, List.mem_append]; exact .inr (by simp))]
theorem obj_bnd (hw : wantedSem ops (S i) (OJ ops i) = some true) : ∀ k ∈ Aj ops S i, ∃ v, bnd k = some v := by
  have he := st_ev hc T D hi hL hdep
  have rp := fun y => ev_sound D.inv y
  have key : ∀ y ∈ (OJ ops i).op.operands, ∀ k ∈ objOf ((S i).ev y), ∃ v, bnd k = some v := by
    intro y hy k hk
    have hr := rp y
    rw [he y hy] at hr
    cases hx : (S i).ev y <;> rw [hx] at hk hr <;> simp [objOf] at hk
    · subst hk; simp only [Rp] at hr; obtain ⟨b, hb, _⟩ := hr; exact ⟨_, hb⟩
    · subst hk; simp only [Rp] at hr; exact ⟨_, hr.1⟩
    · subst hk; simp only [Rp] at hr; obtain ⟨b, n, c, hb, _⟩ := hr; exact ⟨_, hb⟩
    · rename_i f caps
      simp only [Rp] at hr
      obtain ⟨vs, hvv, hl⟩ := hr
      clear hx hvv
      induction caps generalizing vs with
      | nil => simp [objOf.go] at hk
      | cons c cs ih =>
        obtain ⟨v, vs', rfl, hv, hl'⟩ := hl
        simp only [objOf.go, List.mem_append] at hk
        rcases hk with hk | hk
        · cases c <;> simp [objOf.ptrOf] at hk
          subst hk
          simp only [Rp] at hv; obtain ⟨b, hb, _⟩ := hv; exact ⟨_, hb⟩
        · exact ih hk vs' hl'
    · subst hk; simp only [Rp] at hr; obtain ⟨b, n, c, hb, _⟩ := hr; exact ⟨_, hb⟩
  intro k hk
  simp only [Aj] at hk
  cases ho : (OJ ops i).op <;> rw [ho] at hk key <;> simp only [accObj] at hk <;> try (cases hk; done)
  case load T' b => exact key b (by simp [Op.operands]) k hk
  case store T' b y => exact key b (by simp [Op.operands]) k hk
  case indexAddr T' b y => exact key b (by simp [Op.operands]) k hk
  case slice T' b lo hi mx => exact key b (by simp [Op.operands]) k hk
  case call c =>
    rcases List.mem_append.1 hk with hk | hk
    · obtain ⟨callee, args, ats⟩ := c
      cases callee <;> simp only at hk
      · exact key _ (by simp [Op.operands, Call.operands]) k hk
      · cases hk
      · cases hk
    · obtain ⟨y, hy, hk⟩ := List.mem_flatMap.1 hk
      exact key y (by simp [Op.operands, Call.operands]; exact .inr (by simpa using hy)) k hk
theorem ran_of {r : Except Int St} (hR : R i = some r) (hw : wantedSem ops (S i) (OJ ops i) = some true) : Ran ops S R i := ⟨by rw [hR]; simp, hw⟩
theorem st_obj (hran : Ran ops S R i) (hA : ∀ k ∈ Aj ops S i, k < (S i).os.length) : ∀ k ∈ Aj ops S i, (stL tab ops S R L).os[k]? = (S i).os[k]? := by
  intro k hk
  have hkl := hA k hk
  have hmono := len_mono T (i := i) (ops.size - i) (by omega)
  rw [show i + (ops.size - i) = ops.size by omega] at hmono
  rw [stL_ob L k (by omega)]
  have h1 := curO_later (tab := tab) (ops := ops) (S := S) (R := R) (L := L) (k := k) (i := i) (ops.size - i) (fun j a b ht => by
    by_cases e : j = i
    · subst e; exact hL
    · have hj : j < ops.size := by omega
      cases hLj : L j with
      | false => rfl
      | true =>
        rcases ht with ⟨hr, hw⟩ | hcr
        · have := T.ac2 j i (by omega) (by omega) hj hr hran k hk hw
          rw [D.down j hj hLj i this hi] at hL; cases hL
        · have := creates_ge T (i := i) (by omega) hj hcr
          omega)
  rw [show i + (ops.size - i) = ops.size by omega] at h1
  have h2 : curO tab ops S R L i k = (S i).os[k]? := by
    rw [← text_O T k i (by omega)]
    refine curO_agree i fun j hj ht => ?_
    rcases ht with ⟨hr, hw⟩ | hcr
    · exact hdep j (T.wr2 i j (by omega) hj hi hran hr k hw hk)
    · obtain ⟨v, hv⟩ := obj_bnd hc T D hi hL hdep hran.2 k hk
      rcases D.made k v hv with h | ⟨q, hq, hLq, hcq⟩
      · have := creates_ge T (i := 0) (by omega) (show j < ops.size by omega) hcr
        omega
      · rw [creates_one T (by omega) hq hcr hcq]; exact hLq
  rw [h1, h2, List.getElem?_eq_getElem hkl]
  rfl
theorem st_op (hran : Ran ops S R i) (hA : ∀ k ∈ Aj ops S i, k < (S i).os.length) (hcc : callCh (S i).ev (OJ ops i).op = true) :
    opSem tab (stL tab ops S R L).os (stL tab ops S R L).ev (OJ ops i).op = opSem tab (S i).os (S i).ev (OJ ops i).op :=
  opSem_congr _ (st_ev hc T D hi hL hdep) (st_obj hc T D hi hL hdep hran hA) hcc

/-- The slots behind the step. -/
theorem step_slots : (stL tab ops S R (fun j => L j || j == i)).slots = match (OJ ops i).dst with | some d => (stL tab ops S R L).slots.set d ((S (i + 1)).slots.getD d .undef) | none => (stL tab ops S R L).slots := by
  have other : ∀ t, (OJ ops i).dst ≠ some t → curN ops S (fun j => L j || j == i) ops.size t = curN ops S L ops.size t := by
    intro t ht
    refine curN_agree _ fun j _ hd => ?_
    have : j ≠ i := by rintro rfl; exact ht hd
    simp [this]
  have self : ∀ d, (OJ ops i).dst = some d → curN ops S (fun j => L j || j == i) ops.size d = (S (i + 1)).slots.getD d .undef := by
    intro d hd
    have h1 := curN_later (ops := ops) (S := S) (L := fun j => L j || j == i) (t := d) (i := i + 1) (ops.size - (i + 1)) (fun j a b hdj => by
      have hj : j < ops.size := by omega
      have hne : j ≠ i := by omega
      have := drawChk_slots hc hi hj hdj (by simp [slotsOf, hd]) hne
      rw [if_neg (by omega)] at this
      simp only [Bool.or_eq_false_iff, beq_eq_false_iff_ne]
      refine ⟨?_, hne⟩
      cases hLj : L j with
      | false => rfl
      | true => rw [D.down j hj hLj i this hi] at hL; cases hL)
    rw [show i + 1 + (ops.size - (i + 1)) = ops.size by omega] at h1
    rw [h1, curN, if_pos ⟨by simp, hd⟩]
  apply List.ext_getElem?
  intro t
  cases hd : (OJ ops i).dst with
  | none =>
    exact range_get _ _ _ _ (other t (by rw [hd]; simp))
  | some d =>
    simp only
    by_cases e : t = d
    · subst e
      rw [List.getElem?_set]
      simp only [stL, List.getElem?_map, List.length_map, List.length_range, if_true]
      by_cases hlt : t < (S 0).slots.length
      · simp [hlt, self t hd]
      · simp [hlt]
    · rw [List.getElem?_set_ne (Ne.symm e)]
      exact range_get _ _ _ _ (other t (by rw [hd]; simpa using fun h => e h.symm))
theorem step_obs_same (ht : ∀ k, ¬ touches tab ops S R i k) : (stL tab ops S R (fun j => L j || j == i)).os = (stL tab ops S R L).os := by
  simp only [stL]
  refine List.map_congr_left fun k _ => ?_
  rw [curO_agree (L' := L)]
  intro j _ hj
  have : j ≠ i := by rintro rfl; exact ht k hj
  simp [this]
theorem step_obs_one {k0 : Nat} (ht : ∀ k, touches tab ops S R i k ↔ k = k0) (hk0 : k0 < (S (i + 1)).os.length) (hlate : ∀ j, i < j → j < ops.size → touches tab ops S R j k0 → L j = false) :
    (stL tab ops S R (fun j => L j || j == i)).os = (stL tab ops S R L).os.set k0 (((S (i + 1)).os[k0]?).getD .dead) := by
  have hmono := len_mono T (i := i + 1) (ops.size - (i + 1)) (by omega)
  rw [show i + 1 + (ops.size - (i + 1)) = ops.size by omega] at hmono
  have other : ∀ k, k ≠ k0 → curO tab ops S R (fun j => L j || j == i) ops.size k = curO tab ops S R L ops.size k := by
    intro k hk
    refine curO_agree _ fun j _ hj => ?_
    have : j ≠ i := by rintro rfl; exact hk ((ht k).1 hj)
    simp [this]
  have self : curO tab ops S R (fun j => L j || j == i) ops.size k0 = (S (i + 1)).os[k0]? := by
    have h1 := curO_later (tab := tab) (ops := ops) (S := S) (R := R) (L := fun j => L j || j == i) (k := k0) (i := i + 1) (ops.size - (i + 1)) (fun j a b hdj => by
      have hne : j ≠ i := by omega
      simp only [Bool.or_eq_false_iff, beq_eq_false_iff_ne]
      exact ⟨hlate j (by omega) (by omega) hdj, hne⟩)
    rw [show i + 1 + (ops.size - (i + 1)) = ops.size by omega] at h1
    rw [h1, curO, if_pos ⟨by simp, (ht k0).2 rfl⟩]
  apply List.ext_getElem?
  intro k
  by_cases e : k = k0
  · subst e
    rw [List.getElem?_set]
    simp only [stL, List.getElem?_map, List.length_map, List.length_range, if_true]
    have : k < (S ops.size).os.length := by omega
    simp [this, self]
  · rw [List.getElem?_set_ne (Ne.symm e)]
    exact range_get _ _ _ _ (by rw [other k e])
end
end
end
end Iv
end Go.Proofs.YtfajgibpidlojaaDoor
end

section
/- The verified interpreter, part L: the theorem on a region that draws its order, and a whole function with such regions. Conditions: as in part I; the program follows mixed orders. -/
set_option linter.unusedVariables false
set_option linter.unusedSimpArgs false
set_option linter.unusedSectionVars false
namespace Go.Proofs.YtfajgibpidlojaaDoor
namespace Iv
noncomputable section
open Go Go.RowKit

section
variable {P : Program} {tab : Tb} {env : Env} {U : Ctx tab.u tab.app} {F : TypeId} {Mc : Nat → Prop} {w0 : World}

/-- An object takes a place that was kept for it. -/
theorem Inv.fill {bnd : Nat → Option Value} {st : St} {a : Act} {w w' : World} (h : Inv U Mc w0 bnd st a w) {k : Nat} {o : Ob} {v : Value} (hk : st.os[k]? = some .dead) (hnone : bnd k = none) (hg : Below w.heap.size w w')
    (hblk : ∀ b, blk v = some b → w.heap.size ≤ b)
    (ho : ∀ bnd', Sees (Mut Mc bnd st.os) (Mut Mc bnd' (st.os.set k o)) w0.heap.size w0.heap.size bnd bnd' w w' → ObR tab.u (Mut Mc bnd' (st.os.set k o)) w0.heap.size bnd' w' (some o) v) :
    ∃ bnd', bnd' k = some v ∧ (∀ i u, bnd i = some u → bnd' i = some u) ∧ (∀ i u, bnd' i = some u → i = k ∨ bnd i = some u) ∧ Inv U Mc w0 bnd' { st with os := st.os.set k o } a w' := by
  have hkl : k < st.os.length := (List.getElem?_eq_some_iff.1 hk).1
  have hold : ∀ i u, bnd i = some u → (if i = k then some v else bnd i) = some u := by
    intro i u hu
    split
    · rename_i e; subst e; rw [hnone] at hu; cases hu
    · exact hu
  have halive : ∀ i, i ≠ k → alive (st.os.set k o) i → alive st.os i := by
    intro i hne hi
    obtain ⟨x, hx, hl⟩ := hi
    rw [List.getElem?_set_ne (Ne.symm hne)] at hx
    exact ⟨x, hx, hl⟩
  have s : Sees (Mut Mc bnd st.os) (Mut Mc (fun i => if i = k then some v else bnd i) (st.os.set k o)) w0.heap.size w0.heap.size bnd (fun i => if i = k then some v else bnd i) w w' := by
    refine ⟨fun b hb => ?_, Nat.le_refl _, hold, fun b x hx _ => by rw [below_heap hg (heap_lt hx)]; exact hx⟩
    rcases hb with hb | ⟨i, u, hu, hi, hb⟩
    · exact .inl (.inl hb)
    · by_cases e : i = k
      · simp only [e, if_true, Option.some.injEq] at hu
        subst hu
        exact .inr fun x hx => by have := heap_lt hx; have := hblk b hb; omega
      · simp only [e, if_false] at hu
        exact .inl (.inr ⟨i, u, hu, halive i e hi, hb⟩)
  have hlt : ∀ i u b, bnd i = some u → alive st.os i → blk u = some b → b < w.heap.size := fun i u b hu hi hb => by
    obtain ⟨_, x, hx⟩ := obR_block (h.obs i u hu) hi hb
    exact heap_lt hx
  refine ⟨fun i => if i = k then some v else bnd i, by simp, hold, fun i u hu => by by_cases e : i = k <;> simp_all, ?_⟩
  refine ⟨RpL.sees s h.slots, h.defs, h.below.trans (hg.mono h.below.size), fun i u hu => ?_, fun i j v' u b hi hj ai aj bi bj => ?_, h.mc, RpL.sees s h.keep⟩
  · by_cases e : i = k
    · subst e
      simp only [if_true, Option.some.injEq] at hu
      subst hu
      simp only [List.getElem?_set_self hkl]
      exact ho _ s
    · simp only [e, if_false] at hu
      simp only [List.getElem?_set_ne (Ne.symm e)]
      refine (h.obs i u hu).sees s fun hl b hb => ?_
      obtain ⟨_, x, hx⟩ := obR_block (h.obs i u hu) hl hb
      exact below_heap hg (heap_lt hx)
  · by_cases ei : i = k <;> by_cases ej : j = k
    · omega
    · simp only [ei, ej, if_true, if_false, Option.some.injEq] at hi hj
      subst hi
      have := hlt j u b hj (halive j ej aj) bj; have := hblk b bi; omega
    · simp only [ei, ej, if_true, if_false, Option.some.injEq] at hi hj
      subst hj
      have := hlt i v' b hi (halive i ei ai) bi; have := hblk b bj; omega
    · simp only [ei, ej, if_false] at hi hj
      exact h.dist i j v' u b hi hj (halive i ei ai) (halive j ej aj) bi bj
/-- Places are kept. -/
theorem Inv.pad {bnd : Nat → Option Value} {st : St} {a : Act} {w : World} (h : Inv U Mc w0 bnd st a w) (os' : List Ob) (hos : ∀ k, k < st.os.length → os'[k]? = st.os[k]?) (hd : ∀ k, st.os.length ≤ k → os'[k]? = none ∨ os'[k]? = some .dead) :
    Inv U Mc w0 bnd { st with os := os' } a w := by
  have hal : ∀ k, alive os' k → alive st.os k := by
    intro k hk
    by_cases e : k < st.os.length
    · obtain ⟨x, hx, hl⟩ := hk
      rw [hos k e] at hx
      exact ⟨x, hx, hl⟩
    · obtain ⟨x, hx, hl⟩ := hk
      rcases hd k (by omega) with h' | h' <;> rw [h'] at hx
      · cases hx
      · cases hx; simp [Ob.live] at hl
  have s : Sees (Mut Mc bnd st.os) (Mut Mc bnd os') w0.heap.size w0.heap.size bnd bnd w w := by
    refine ⟨fun b hb => .inl ?_, Nat.le_refl _, fun _ _ h => h, fun b x hx _ => hx⟩
    rcases hb with hb | ⟨i, u, hu, hi, hb⟩
    · exact .inl hb
    · exact .inr ⟨i, u, hu, hal i hi, hb⟩
  refine ⟨RpL.sees s h.slots, h.defs, h.below, fun i u hu => ?_, fun i j v' u b hi hj ai aj bi bj => h.dist i j v' u b hi hj (hal i ai) (hal j aj) bi bj, h.mc, RpL.sees s h.keep⟩
  have hob := h.obs i u hu
  have hil : i < st.os.length := by
    cases hx : st.os[i]? with
    | none => rw [hx] at hob; exact hob.elim
    | some _ => exact (List.getElem?_eq_some_iff.1 hx).1
  simp only [hos i hil]
  exact hob.sees s fun _ _ _ => rfl

variable {ops : Array Oper} {Q : St → Prop} {E : Int → Prop} {S : Nat → St} {R : Nat → Option (Except Int St)}
theorem DI.more {L : Nat → Bool} {bnd bnd' : Nat → Option Value} {a a' : Act} {w w' : World} (T : TrOK tab env ops Q E S R 0 ops.size [] [] [] none) (D : DI P tab U Mc w0 ops S R L bnd a w) {i : Nat} (hi : i < ops.size)
    (hinv : Inv U Mc w0 bnd' (stL tab ops S R (fun j => L j || j == i)) a' w') (hmade : ∀ k v, bnd' k = some v → k < (S 0).os.length ∨ ∃ q, q < ops.size ∧ (L q || q == i) = true ∧ creates S q k)
    (hok : ∃ s, R i = some (.ok s)) (hdep : ∀ q, edge (OJ ops i) q = true → L q = true) (hacc : Ran ops S R i → ∀ k ∈ Aj ops S i, ∃ v, bnd k = some v) :
    DI P tab U Mc w0 ops S R (fun j => L j || j == i) bnd' a' w' := by
  refine ⟨hinv, hmade, fun j hj hLj => ?_, fun j hj hLj q he hq => ?_, fun j hj hLj hr k hk => ?_⟩
  · rcases Bool.or_eq_true_iff.1 hLj with h | h
    · exact D.ok j hj h
    · rw [beq_iff_eq] at h; subst h; exact hok
  · rcases Bool.or_eq_true_iff.1 hLj with h | h
    · simp [D.down j hj h q he hq]
    · rw [beq_iff_eq] at h; subst h; simp [hdep q he]
  · rcases Bool.or_eq_true_iff.1 hLj with h | h
    · rcases D.acc j hj h hr k hk with h' | ⟨q, h1, h2, h3⟩
      · exact .inl h'
      · exact .inr ⟨q, h1, by simp [h2], h3⟩
    · rw [beq_iff_eq] at h; subst h
      obtain ⟨v, hv⟩ := hacc hr k hk
      rcases D.made k v hv with h' | ⟨q, h1, h2, h3⟩
      · exact .inl h'
      · exact .inr ⟨q, h1, by simp [h2], h3⟩
theorem outTo_wp {st st' s' : St} {dst : Option Tmp} {out : Out} {Q : St → Prop} {E : Int → Prop} (hfz : noFz out = true) (h : outTo env st dst out (.ok s')) (hsl : st'.slots.length = st.slots.length) (hx : ∀ x, s'.slots = (st.put dst x).slots → wrObj out = [] → s'.os = st.os → Q (st'.put dst x))
    (hput : ∀ i off cs T ds, out = .put i off cs → st.os[i]? = some (.var T ds) → st'.os[i]? = some (.var T ds) ∧ Q ({ st' with os := st'.os.set i (.var T (setMany ds off cs)) }.put dst .undef))
    (hrput : ∀ i l' l, out = .rput i l' → st.os[i]? = some (.row l) → st'.os[i]? = some (.row l) ∧ Q ({ st' with os := st'.os.set i (.row l') }.put dst .undef))
    (hnew : ∀ ob x, out ≠ .new ob x) : wpOut env st' dst Q E out := by
  cases out with
  | val x => simp only [outTo, Except.ok.injEq] at h; exact hx x (by rw [h]) rfl (by rw [h, put_os])
  | pick t x y => simp only [outTo, Except.ok.injEq] at h; have := hx _ (by rw [h]) rfl (by rw [h, put_os]); cases t <;> exact this
  | new ob x => exact absurd rfl (hnew ob x)
  | put i off cs =>
    obtain ⟨T, ds, hos, h⟩ := h
    obtain ⟨h1, h2⟩ := hput i off cs T ds rfl hos
    simp only [wpOut, h1]
    exact h2
  | rput i l' =>
    obtain ⟨l, hos, h⟩ := h
    obtain ⟨h1, h2⟩ := hrput i l' l rfl hos
    simp only [wpOut, h1]
    exact h2
  | app i l => exact h.elim
  | lit l => simp only [outTo, Except.ok.injEq] at h; exact hx _ (by rw [h]) rfl (by rw [h, put_os])
  | inl f xs => exact h.elim
  | call f xs fz =>
    obtain ⟨pre, q, he, hp, h⟩ := h
    simp only [noFz, List.isEmpty_iff] at hfz
    subst hfz
    simp only [wpOut, he]
    refine ⟨hp, wpRes_of ?_⟩
    cases hq : q.pick with
    | ok x => rw [hq] at h; simp only [Except.ok.injEq] at h; simpa using hx x (by rw [h]) rfl (by rw [h, put_os])
    | error e => rw [hq] at h; cases h
  | none => exact h.elim
theorem outTo_err {st st' : St} {dst : Option Tmp} {out : Out} {Q : St → Prop} {E : Int → Prop} {e : Int} (hfz : noFz out = true) (h : outTo env st dst out (.error e)) (hE : E e) : wpOut env st' dst Q E out := by
  cases out with
  | val x => simp [outTo] at h
  | pick t x y => simp [outTo] at h
  | new ob x => simp [outTo] at h
  | put i off cs => obtain ⟨_, _, _, h⟩ := h; cases h
  | rput i l' => obtain ⟨_, _, h⟩ := h; cases h
  | app i l => exact h.elim
  | lit l => simp [outTo] at h
  | inl f xs => exact h.elim
  | call f xs fz =>
    obtain ⟨pre, q, he, hp, h⟩ := h
    simp only [wpOut, he]
    refine ⟨hp, wpRes_of ?_⟩
    cases hq : q.pick with
    | ok x => rw [hq] at h; cases h
    | error e' => rw [hq] at h; simp only [Except.error.injEq] at h; subst h; exact hE
  | none => exact h.elim

theorem set_get (l : List SV) (d : Nat) (x : SV) (h : d < l.length) : (l.set d x).getD d .undef = x := by simp [List.getD_eq_getElem?_getD, h]

/-- ONE OPERATION, WHENEVER ITS TURN COMES. -/
theorem step_any (ht : TabOK P tab) (he : EnvOK P F tab env) (hchk : ∀ o ∈ ops.toList, opChk P tab o.op = true) (hc : drawChk ops = true) (T : TrOK tab env ops Q E S R 0 ops.size [] [] [] none) {L : Nat → Bool} {bnd : Nat → Option Value} {a : Act} {w : World}
    (D : DI P tab U Mc w0 ops S R L bnd a w) {i : Nat} (hi : i < ops.size) (hL : L i = false) (hdep : ∀ q, edge (OJ ops i) q = true → L q = true) {K : Act → World → Prop} {Qm : Exit → Act → World → Prop}
    (hK : ∀ bnd' a' w', DI P tab U Mc w0 ops S R (fun j => L j || j == i) bnd' a' w' → K a' w')
    (hE : ∀ e a' w', E e → a'.defers = U.ds → Below w0.heap.size w0 w' → Qm (.panic [{ v := failV F e, recovered := false }]) a' w') : wpOp P ops Qm i K a w := by
  have ho : ops[i]? = some (OJ ops i) := by simp [OJ, Array.getElem?_eq_getElem hi]
  have hmem : OJ ops i ∈ ops.toList := by
    have : OJ ops i = ops[i] := by simp [OJ, Array.getElem?_eq_getElem hi]
    rw [this]; simp
  unfold wpOp
  simp only [ho]
  have hwl := st_wanted hc T D hi hL hdep
  have hS := T.next i (by omega) hi
  cases hR : R i with
  | none =>
    obtain ⟨k, hk, hek⟩ := T.off i (by omega) hi hR
    rcases hk with hk | ⟨_, hk, herr⟩
    · cases hk
    · obtain ⟨s, hs⟩ := D.ok k (by omega) (hdep k hek)
      rw [hs] at herr
      exact herr.elim
  | some r =>
    rcases T.go i (by omega) hi r hR with ⟨hw, hr⟩ | ⟨hw, hr, hA, hfz, hcc⟩
    · rw [wanted_sound D.inv (hwl.trans hw)]
      simp only [Bool.false_eq_true, if_false]
      have hs : S (i + 1) = (S i).put (OJ ops i).dst .undef := by rw [hS, hR, hr]; rfl
      refine hK bnd _ _ (D.more T hi ?_ (fun k v hv => ?_) ⟨_, by rw [hR, hr]⟩ hdep (fun hran => by rw [hran.2] at hw; cases hw))
      · have hinv := D.inv.put (OJ ops i).dst (x := .undef) (v := undef) (by simp [Rp])
        have : stL tab ops S R (fun j => L j || j == i) = (stL tab ops S R L).put (OJ ops i).dst .undef := by
          have h1 := step_slots hc T D hi hL hdep
          have h2 := step_obs_same hc T D hi hL hdep (fun k => by
            rintro (⟨hran, _⟩ | hcr)
            · rw [hran.2] at hw; cases hw
            · have := hcr.1; rw [hs, put_os] at this; omega)
          have hlen : (stL tab ops S R L).slots.length = (S i).slots.length := by
            rw [len_slots T i (by omega)]; simp [stL]
          cases hd : (OJ ops i).dst with
          | none =>
            rw [hd] at h1
            simp only [St.put]
            cases hst : stL tab ops S R (fun j => L j || j == i) with
            | mk sl os => rw [hst] at h1 h2; simp only at h1 h2; rw [h1, h2]
          | some d =>
            rw [hd] at h1
            simp only [St.put]
            have hval : (S (i + 1)).slots.getD d .undef = .undef := by
              rw [hs, hd]
              simp only [St.put]
              by_cases hlt : d < (S i).slots.length
              · exact set_get _ _ _ hlt
              · simp [List.getD_eq_getElem?_getD, hlt]
            cases hst : stL tab ops S R (fun j => L j || j == i) with
            | mk sl os => rw [hst] at h1 h2; simp only at h1 h2; rw [h1, h2, hval]
        rw [this]
        exact hinv
      · rcases D.made k v hv with h | ⟨q, h1, h2, h3⟩
        · exact .inl h
        · exact .inr ⟨q, h1, by simp [h2], h3⟩
    · rw [wanted_sound D.inv (hwl.trans hw)]
      simp only [if_true]
      left
      have hran : Ran ops S R i := ⟨by rw [hR]; simp, hw⟩
      have hop := st_op hc T D hi hL hdep hran hA hcc
      have hobj := st_obj hc T D hi hL hdep hran hA
      have hbnd := obj_bnd hc T D hi hL hdep hw
      have hmade : ∀ k v, bnd k = some v → k < (S 0).os.length ∨ ∃ q, q < ops.size ∧ (L q || q == i) = true ∧ creates S q k := fun k v hv => by
        rcases D.made k v hv with h | ⟨q, h1, h2, h3⟩
        · exact .inl h
        · exact .inr ⟨q, h1, by simp [h2], h3⟩
      cases r with
      | error e =>
        exact out_sound ht he D.inv _ (hchk _ hmem) (Q := fun _ => False) (E := E) (by rw [hop]; exact outTo_err hfz hr (T.err i (by omega) hi e hR)) (fun _ _ _ _ _ _ h => h.elim) hE
      | ok s' =>
        have hs : S (i + 1) = s' := by rw [hS, hR]; rfl
        obtain ⟨x0, hsl, hcase⟩ := outTo_slots hr
        have hlen : (stL tab ops S R L).slots.length = (S i).slots.length := by
          rw [len_slots T i (by omega)]; simp [stL]
        -- the slots behind the step, for whatever was written
        have slots_eq : ∀ x, s'.slots = ((S i).put (OJ ops i).dst x).slots → (stL tab ops S R (fun j => L j || j == i)).slots = ((stL tab ops S R L).put (OJ ops i).dst x).slots := by
          intro x hx
          have h1 := step_slots hc T D hi hL hdep
          rw [h1]
          cases hd : (OJ ops i).dst with
          | none => rfl
          | some d =>
            simp only [St.put]
            have : (S (i + 1)).slots.getD d .undef = if d < (S i).slots.length then x else .undef := by
              rw [hs, hx, hd]
              simp only [St.put]
              split
              · rename_i hlt; exact set_get _ _ _ hlt
              · rename_i hlt; simp [List.getD_eq_getElem?_getD, hlt]
            rw [this]
            split
            · rfl
            · rename_i hlt
              rw [List.set_eq_of_length_le (by rw [hlen]; exact Nat.le_of_not_lt hlt), List.set_eq_of_length_le (by rw [hlen]; exact Nat.le_of_not_lt hlt)]
        have Wi : Wj tab ops S i = wrObj (opSem tab (S i).os (S i).ev (OJ ops i).op) := rfl
        have fin : ∀ st', st' = stL tab ops S R (fun j => L j || j == i) → ∀ bnd' a' w', (∀ k v, bnd' k = some v → k < (S 0).os.length ∨ ∃ q, q < ops.size ∧ (L q || q == i) = true ∧ creates S q k) → Inv U Mc w0 bnd' st' a' w' → K a' w' := by
          intro st' hst bnd' a' w' hm hinv
          subst hst
          exact hK bnd' a' w' (D.more T hi hinv hm ⟨s', hR⟩ hdep fun _ => hbnd)
        by_cases hnew : ∃ ob x, opSem tab (S i).os (S i).ev (OJ ops i).op = .new ob x
        · obtain ⟨ob, xf, hn⟩ := hnew
          rw [hn] at hr
          simp only [outTo, Except.ok.injEq] at hr
          have hcr : creates S i (S i).os.length := by
            refine ⟨?_, rfl⟩
            rw [hs, hr, put_os]
            simp
          have htouch : ∀ k, touches tab ops S R i k ↔ k = (S i).os.length := by
            intro k
            constructor
            · rintro (⟨_, h⟩ | h)
              · rw [Wi, hn] at h; cases h
              · exact h.2
            · rintro rfl
              exact .inr hcr
          have hobs := step_obs_one hc T D hi hL hdep htouch (by rw [hcr.1]; omega) (fun j hij hj ht => by
            cases hLj : L j with
            | false => rfl
            | true =>
              rcases ht with ⟨hr', hw'⟩ | hcr'
              · rcases D.acc j hj hLj hr' _ (Wj_sub_Aj _ _ _ hw') with h | ⟨q, hq, hLq, hcq⟩
                · have := len_mono T (i := 0) i (by omega); simp at this; omega
                · rw [creates_one T hq hi hcq hcr] at hLq; rw [hLq] at hL; cases hL
              · have := creates_one T hi hj hcr hcr'; omega)
          have hdead : (stL tab ops S R L).os[(S i).os.length]? = some .dead := by
            have hmono := len_mono T (i := i + 1) (ops.size - (i + 1)) (by omega)
            rw [show i + 1 + (ops.size - (i + 1)) = ops.size by omega] at hmono
            have := hcr.1
            rw [stL_ob L _ (by omega)]
            have h0 : curO tab ops S R L ops.size (S i).os.length = none := by
              have h1 := curO_agree (tab := tab) (ops := ops) (S := S) (R := R) (L := L) (L' := fun _ => false) (k := (S i).os.length) ops.size (fun j hj ht => by
                cases hLj : L j with
                | false => rfl
                | true =>
                  rcases ht with ⟨hr', hw'⟩ | hcr'
                  · rcases D.acc j hj hLj hr' _ (Wj_sub_Aj _ _ _ hw') with h | ⟨q, hq, hLq, hcq⟩
                    · have := len_mono T (i := 0) i (by omega); simp at this; omega
                    · rw [creates_one T hq hi hcq hcr] at hLq; rw [hLq] at hL; cases hL
                  · have := creates_one T hi hj hcr hcr'; subst this; rw [hLj] at hL; cases hL)
              rw [h1]
              have h2 : ∀ n, curO tab ops S R (fun _ => false) n (S i).os.length = (S 0).os[(S i).os.length]? := by
                intro n
                induction n with
                | zero => rfl
                | succ n ih => simp [curO, ih]
              rw [h2]
              have := len_mono T (i := 0) i (by omega)
              simp at this
              rw [List.getElem?_eq_none (by omega)]
            rw [h0]; rfl
          have hbn : bnd (S i).os.length = none := by
            cases hb : bnd (S i).os.length with
            | none => rfl
            | some v =>
              rcases D.made _ v hb with h | ⟨q, hq, hLq, hcq⟩
              · have := len_mono T (i := 0) i (by omega); simp at this; omega
              · rw [creates_one T hq hi hcq hcr] at hLq; rw [hLq] at hL; cases hL
          have hev : ∀ y ∈ (OJ ops i).op.operands, Rp (Mut Mc bnd (stL tab ops S R L).os) w0.heap.size bnd w ((stL tab ops S R L).ev y) (a.eval y) := fun y _ => ev_sound D.inv y
          obtain ⟨T', cs, vs, hob, hxf, hrun, hl⟩ := new_sound (ρ := a.eval) ht _ (hop.trans hn) hev
          subst hob; subst hxf
          unfold Oper.wp
          rw [hrun]
          have hg := alloc_below w (.cells vs.toArray T')
          obtain ⟨bnd', hb', hold, hnew', hinv⟩ := D.inv.fill (o := .var T' cs) (v := .pointer (some ⟨w.heap.size, 0, none⟩)) hdead hbn hg (fun b hb => by simp [blk] at hb; omega)
            (fun bnd' s => ⟨w.heap.size, vs, rfl, D.inv.below.size, alloc_get w _, RpL.sees s hl⟩)
          have hinv' := hinv.put (OJ ops i).dst (x := .ptr (S i).os.length 0) (v := .pointer (some ⟨w.heap.size, 0, none⟩)) (by simp only [Rp]; exact ⟨_, hb', rfl⟩)
          refine fin _ ?_ bnd' _ _ (fun k v hv => ?_) hinv'
          · have h1 := slots_eq (.ptr (S i).os.length 0) (by rw [hr]; cases (OJ ops i).dst <;> rfl)
            have h2 : (S (i + 1)).os[(S i).os.length]? = some (.var T' cs) := by rw [hs, hr, put_os]; simp
            rw [h2] at hobs
            cases hst : stL tab ops S R (fun j => L j || j == i) with
            | mk sl os =>
              rw [hst] at h1 hobs
              simp only at h1 hobs
              rw [h1, hobs]
              cases (OJ ops i).dst <;> rfl
          · rcases hnew' k v hv with rfl | h
            · exact .inr ⟨i, hi, by simp, hcr⟩
            · exact hmade k v h
        · have hsame : s'.os = (S i).os → wrObj (opSem tab (S i).os (S i).ev (OJ ops i).op) = [] → (stL tab ops S R (fun j => L j || j == i)).os = (stL tab ops S R L).os := by
            intro h1 h2
            refine step_obs_same hc T D hi hL hdep fun k => ?_
            rintro (⟨_, h⟩ | h)
            · rw [Wi, h2] at h; cases h
            · have := h.1; rw [hs, h1] at this; omega
          have hone : ∀ k0 ob ob', wrObj (opSem tab (S i).os (S i).ev (OJ ops i).op) = [k0] → s'.os = (S i).os.set k0 ob → (S i).os[k0]? = some ob' → (stL tab ops S R (fun j => L j || j == i)).os = (stL tab ops S R L).os.set k0 ob := by
            intro k0 ob ob' h1 h2 h3
            have hk0 : k0 < (S i).os.length := (List.getElem?_eq_some_iff.1 h3).1
            have htouch : ∀ k, touches tab ops S R i k ↔ k = k0 := by
              intro k
              constructor
              · rintro (⟨_, h⟩ | h)
                · rw [Wi, h1] at h; simpa using h
                · have := h.1; rw [hs, h2] at this; simp at this
              · rintro rfl
                exact .inl ⟨hran, by rw [Wi, h1]; simp⟩
            have := step_obs_one hc T D hi hL hdep htouch (by rw [hs, h2]; simpa using hk0) (fun j hij hj htj => by
              cases hLj : L j with
              | false => rfl
              | true =>
                rcases htj with ⟨hr', hw'⟩ | hcr'
                · have := T.wr2 j i (by omega) hij hj hr' hran k0 (by rw [Wi, h1]; simp) (Wj_sub_Aj _ _ _ hw')
                  rw [D.down j hj hLj i this hi] at hL; cases hL
                · have := creates_ge T (i := i) (by omega) hj hcr'; omega)
            rw [this]
            congr 1
            rw [hs, h2]
            simp [hk0]
          refine out_sound ht he D.inv _ (hchk _ hmem) (Q := fun st' => st' = stL tab ops S R (fun j => L j || j == i)) (E := E) ?_ (fun bnd' st' a' w' hinv hbb hq => ?_) hE
          · rw [hop]
            have acc1 : ∀ k, k ∈ wrObj (opSem tab (S i).os (S i).ev (OJ ops i).op) → (stL tab ops S R L).os[k]? = (S i).os[k]? := fun k hk => hobj k (Wj_sub_Aj _ _ _ hk)
            refine outTo_wp hfz hr hlen (fun x hx hwr hos => ?_) (fun k off cs T' ds hput hos => ?_) (fun k l' l hput hos => ?_) (fun ob x hn => hnew ⟨ob, x, hn⟩)
            · have h1 := slots_eq x hx
              have h2 := hsame hos hwr
              cases hst : stL tab ops S R (fun j => L j || j == i) with
              | mk sl os =>
                rw [hst] at h1 h2
                simp only at h1 h2
                rw [h1, h2]
                cases (OJ ops i).dst <;> rfl
            · have hw1 : wrObj (opSem tab (S i).os (S i).ev (OJ ops i).op) = [k] := by rw [hput]; rfl
              refine ⟨by rw [acc1 k (by rw [hw1]; simp), hos], ?_⟩
              rw [hput] at hr
              obtain ⟨T'', ds', hos', hr'⟩ := hr
              rw [hos] at hos'
              cases hos'
              simp only [Except.ok.injEq] at hr'
              have h1 := slots_eq .undef (by rw [hr']; cases (OJ ops i).dst <;> rfl)
              have h2 := hone k _ _ hw1 (by rw [hr', put_os]) hos
              cases hst : stL tab ops S R (fun j => L j || j == i) with
              | mk sl os =>
                rw [hst] at h1 h2
                simp only at h1 h2
                rw [h1, h2]
                cases (OJ ops i).dst <;> rfl
            · have hw1 : wrObj (opSem tab (S i).os (S i).ev (OJ ops i).op) = [k] := by rw [hput]; rfl
              refine ⟨by rw [acc1 k (by rw [hw1]; simp), hos], ?_⟩
              rw [hput] at hr
              obtain ⟨l', hos', hr'⟩ := hr
              rw [hos] at hos'
              cases hos'
              simp only [Except.ok.injEq] at hr'
              have h1 := slots_eq .undef (by rw [hr']; cases (OJ ops i).dst <;> rfl)
              have h2 := hone k _ _ hw1 (by rw [hr', put_os]) hos
              cases hst : stL tab ops S R (fun j => L j || j == i) with
              | mk sl os =>
                rw [hst] at h1 h2
                simp only at h1 h2
                rw [h1, h2]
                cases (OJ ops i).dst <;> rfl
          · have hbb' := hbb (by
              rw [hop]
              have hnf : noFz (opSem tab (S i).os (S i).ev (OJ ops i).op) = true := hfz
              cases ho2 : opSem tab (S i).os (S i).ev (OJ ops i).op <;> rw [ho2] at hnf <;> first | rfl | (cases hnf; done) | (rw [ho2] at hr; obtain ⟨_, _, he', _⟩ := hr; simp only [Out.keeps]; rw [show env.con _ _ = _ from he']; rfl) | exact absurd ⟨_, _, ho2⟩ hnew)
            subst hbb'
            exact fin _ hq _ _ _ hmade hinv
end
end
end Iv
end Go.Proofs.YtfajgibpidlojaaDoor
end

section
/- The verified interpreter, part M: a region that draws its order is sound; a whole function with such regions. Conditions: the program follows mixed orders. -/
set_option linter.unusedVariables false
set_option linter.unusedSimpArgs false
set_option linter.unusedSectionVars false
namespace Go.Proofs.YtfajgibpidlojaaDoor
namespace Iv
noncomputable section
open Go Go.RowKit

section
variable {P : Program} {tab : Tb} {env : Env} {U : Ctx tab.u tab.app} {F : TypeId} {Mc : Nat → Prop} {w0 : World}
variable {ops : Array Oper} {Q : St → Prop} {E : Int → Prop} {S : Nat → St} {R : Nat → Option (Except Int St)}

theorem range_getD (l : List SV) : (List.range l.length).map (fun t => l.getD t .undef) = l := by
  refine List.ext_getElem (by simp) fun i h1 h2 => ?_
  simp at h1
  simp [h1]
theorem stL_all (T : TrOK tab env ops Q E S R 0 ops.size [] [] [] none) {L : Nat → Bool} (hL : ∀ j, j < ops.size → L j = true) : stL tab ops S R L = S ops.size := by
  have h1 : ∀ t, curN ops S L ops.size t = (S ops.size).slots.getD t .undef := fun t => by
    rw [← text_N T t ops.size (Nat.le_refl _)]
    exact curN_agree _ fun j hj _ => hL j hj
  have h2 : ∀ k, curO tab ops S R L ops.size k = (S ops.size).os[k]? := fun k => by
    rw [← text_O T k ops.size (Nat.le_refl _)]
    exact curO_agree _ fun j hj _ => hL j hj
  unfold stL
  cases hS : S ops.size with
  | mk sl os =>
    congr 1
    · rw [show (List.range (S 0).slots.length).map (curN ops S L ops.size) = (List.range (S 0).slots.length).map (fun t => (S ops.size).slots.getD t .undef) from List.map_congr_left fun t _ => h1 t]
      rw [← len_slots T ops.size (Nat.le_refl _)]
      rw [range_getD, hS]
    · refine List.ext_getElem (by simp) fun i hi1 hi2 => ?_
      simp [h2, hS, hi2]
theorem curN_none : ∀ n t, curN ops S (fun _ => false) n t = (S 0).slots.getD t .undef
  | 0, _ => rfl
  | n + 1, t => by simp [curN, curN_none n t]
theorem curO_none : ∀ n k, curO tab ops S R (fun _ => false) n k = (S 0).os[k]?
  | 0, _ => rfl
  | n + 1, k => by simp [curO, curO_none n k]
theorem DI.start (T : TrOK tab env ops Q E S R 0 ops.size [] [] [] none) {bnd : Nat → Option Value} {a : Act} {w : World} (h : Inv U Mc w0 bnd (S 0) a w) {L : Nat → Bool} (hL : ∀ j, j < ops.size → L j = false) :
    DI P tab U Mc w0 ops S R L bnd a w := by
  have hst : stL tab ops S R L = stL tab ops S R (fun _ => false) := by
    unfold stL
    congr 1
    · exact List.map_congr_left fun t _ => curN_agree _ fun j hj _ => hL j hj
    · exact List.map_congr_left fun k _ => by rw [curO_agree (L' := fun _ => false) _ fun j hj _ => hL j hj]
  refine ⟨?_, fun k v hv => .inl ?_, fun j hj h' => ?_, fun j hj h' => ?_, fun j hj h' => ?_⟩
  · rw [hst]
    have hsl : (stL tab ops S R (fun _ => false)).slots = (S 0).slots := by
      unfold stL
      simp only
      rw [show (List.range (S 0).slots.length).map (curN ops S (fun _ => false) ops.size) = (List.range (S 0).slots.length).map (fun t => (S 0).slots.getD t .undef) from List.map_congr_left fun t _ => curN_none _ t]
      exact range_getD _
    have hp := h.pad (stL tab ops S R (fun _ => false)).os (fun k hk => ?_) (fun k hk => ?_)
    · have : stL tab ops S R (fun _ => false) = { S 0 with os := (stL tab ops S R (fun _ => false)).os } := by
        cases hx : stL tab ops S R (fun _ => false) with
        | mk sl os => rw [hx] at hsl; simp only at hsl ⊢; rw [hsl]
      rw [this]
      exact hp
    · have := len_mono T (i := 0) ops.size (by omega)
      simp only [Nat.zero_add] at this
      rw [stL_ob _ _ (by omega), curO_none]
      simp [hk]
    · by_cases hk' : k < (S ops.size).os.length
      · right
        rw [stL_ob _ _ hk', curO_none]
        simp [hk]
      · left
        simp [stL]
        omega
  · have := h.obs k v hv
    cases hx : (S 0).os[k]? with
    | none => rw [hx] at this; exact this.elim
    | some _ => exact (List.getElem?_eq_some_iff.1 hx).1
  · rw [hL j hj] at h'; cases h'
  · rw [hL j hj] at h'; cases h'
  · rw [hL j hj] at h'; cases h'

def Lof (listed : Array Bool) (j : Nat) : Bool := listed.getD j false
theorem Lof_set (listed : Array Bool) {i : Nat} (hi : i < listed.size) : Lof (listed.setIfInBounds i true) = fun j => Lof listed j || j == i := by
  funext j
  by_cases e : j = i
  · subst e; simp [Lof, Array.getD_eq_getD_getElem?, hi]
  · have e' : i ≠ j := fun h => e h.symm
    simp [Lof, Array.getD_eq_getD_getElem?, Array.getElem?_setIfInBounds_ne e', e]
theorem ready_mem {listed : Array Bool} (hs : listed.size = ops.size) {i : Nat} : i ∈ Region.ready .any ops listed ↔ i < ops.size ∧ Lof listed i = false ∧ ∀ q, edge (OJ ops i) q = true → Lof listed q = true := by
  unfold Region.ready
  simp only [List.mem_filter, List.mem_range, Bool.and_eq_true, Bool.not_eq_true']
  constructor
  · rintro ⟨h1, h2, h3⟩
    refine ⟨h1, ?_, fun q hq => ?_⟩
    · simp only [Lof]
      rw [Array.getD_eq_getD_getElem?] at h2 ⊢
      rw [Array.getElem?_eq_getElem (by omega)] at h2 ⊢
      exact h2
    · have ho : ops[i]? = some (OJ ops i) := by simp [OJ, Array.getElem?_eq_getElem h1]
      rw [ho] at h3
      simp only [Option.map_some, Option.getD_some, Array.all_eq_true_iff_forall_mem, Bool.or_eq_true, Bool.not_eq_true'] at h3
      simp only [edge, List.any_eq_true, Array.mem_toList_iff, Bool.and_eq_true, beq_iff_eq] at hq
      obtain ⟨e, he, hb, rfl⟩ := hq
      rcases h3 e he with h | h
      · rw [hb] at h; cases h
      · exact h
  · rintro ⟨h1, h2, h3⟩
    refine ⟨h1, ?_, ?_⟩
    · simp only [Lof] at h2
      rw [Array.getD_eq_getD_getElem?] at h2 ⊢
      rw [Array.getElem?_eq_getElem (by omega)] at h2 ⊢
      exact h2
    · have ho : ops[i]? = some (OJ ops i) := by simp [OJ, Array.getElem?_eq_getElem h1]
      rw [ho]
      simp only [Option.map_some, Option.getD_some, Array.all_eq_true_iff_forall_mem, Bool.or_eq_true, Bool.not_eq_true']
      intro e he
      cases hb : Region.binds .any e with
      | false => exact .inl rfl
      | true => exact .inr (h3 e.on (by simp only [edge, List.any_eq_true, Array.mem_toList_iff, Bool.and_eq_true, beq_iff_eq]; exact ⟨e, he, hb, rfl⟩))
theorem ready_nil (hc : drawChk ops = true) {listed : Array Bool} (hs : listed.size = ops.size) (h : Region.ready .any ops listed = []) : ∀ j, j < ops.size → Lof listed j = true := by
  intro j
  induction j using Nat.strongRecOn with
  | ind j ih =>
    intro hj
    cases hL : Lof listed j with
    | true => rfl
    | false =>
      have : j ∈ Region.ready .any ops listed := (ready_mem hs).2 ⟨hj, hL, fun q hq => ih q (edge_lt hc hj hq) (Nat.lt_trans (edge_lt hc hj hq) hj)⟩
      rw [h] at this
      cases this
def todo (n : Nat) (L : Nat → Bool) : Nat := (List.range n).countP fun j => !L j
theorem todo_set {n : Nat} {L : Nat → Bool} {i : Nat} (hi : i < n) (hL : L i = false) : todo n (fun j => L j || j == i) < todo n L := by
  unfold todo
  induction n with
  | zero => omega
  | succ n ih =>
    rw [List.range_succ, List.countP_append, List.countP_append]
    by_cases e : i = n
    · subst e
      have h1 : (List.range i).countP (fun j => !(L j || j == i)) ≤ (List.range i).countP fun j => !L j := by
        refine List.countP_mono_left fun x _ hx => ?_
        simp only [Bool.not_eq_true', Bool.or_eq_false_iff] at hx ⊢
        exact hx.1
      simp [hL] at h1 ⊢
      omega
    · have := ih (by omega)
      have h2 : [n].countP (fun j => !(L j || j == i)) ≤ [n].countP fun j => !L j := by
        refine List.countP_mono_left fun x _ hx => ?_
        simp only [Bool.not_eq_true', Bool.or_eq_false_iff] at hx ⊢
        exact hx.1
      simp only at h2 this ⊢
      omega
theorem todo_zero {n : Nat} {L : Nat → Bool} (h : todo n L = 0) : ∀ j, j < n → L j = true := by
  intro j hj
  unfold todo at h
  rw [List.countP_eq_zero] at h
  simpa using h j (List.mem_range.2 hj)

theorem any_sound (ht : TabOK P tab) (he : EnvOK P F tab env) (hchk : ∀ o ∈ ops.toList, opChk P tab o.op = true) (hc : drawChk ops = true) (T : TrOK tab env ops Q E S R 0 ops.size [] [] [] none) {Qm : Exit → Act → World → Prop}
    (hQ : ∀ bnd' st' a' w', Inv U Mc w0 bnd' st' a' w' → Q st' → Qm .normal a' w')
    (hE : ∀ e a' w', E e → a'.defers = U.ds → Below w0.heap.size w0 w' → Qm (.panic [{ v := failV F e, recovered := false }]) a' w') :
    ∀ (fuel : Nat) (listed : Array Bool) (bnd : Nat → Option Value) (a : Act) (w : World), listed.size = ops.size → todo ops.size (Lof listed) ≤ fuel →
      DI P tab U Mc w0 ops S R (Lof listed) bnd a w → wpAny P .any ops Qm fuel listed a w := by
  have last : ∀ (listed : Array Bool) (bnd : Nat → Option Value) (a : Act) (w : World), (∀ j, j < ops.size → Lof listed j = true) → DI P tab U Mc w0 ops S R (Lof listed) bnd a w → Qm .normal a w := by
    intro listed bnd a w hall D
    have hinv := D.inv
    rw [stL_all T hall] at hinv
    refine hQ _ _ _ _ hinv (T.fin rfl fun j _ hj => ?_)
    obtain ⟨s, hs⟩ := D.ok j hj (hall j hj)
    rw [hs]
    exact id
  intro fuel
  induction fuel with
  | zero =>
    intro listed bnd a w hs hf D
    have hall := todo_zero (Nat.le_zero.1 hf)
    refine ⟨?_, last _ _ _ _ hall D⟩
    refine List.eq_nil_iff_forall_not_mem.2 fun i hi => ?_
    obtain ⟨h1, h2, _⟩ := (ready_mem hs).1 hi
    rw [hall i h1] at h2
    cases h2
  | succ fuel ih =>
    intro listed bnd a w hs hf D
    refine ⟨fun hr => last _ _ _ _ (ready_nil hc hs hr) D, fun i hi => ?_⟩
    obtain ⟨h1, h2, h3⟩ := (ready_mem hs).1 hi
    refine step_any ht he hchk hc T D h1 h2 h3 (fun bnd' a' w' D' => ih _ bnd' a' w' (by simpa using hs) ?_ ?_) hE
    · rw [Lof_set _ (by omega)]
      have := todo_set h1 h2
      omega
    · rw [Lof_set _ (by omega)]
      exact D'

theorem EnvOK.dry (he : EnvOK P F tab env) : EnvOK P F tab env.dry := ⟨he.con, he.inl, fun f xs pre l h => by simp [Env.dry] at h⟩
/-- A REGION THAT DRAWS ITS ORDER IS SOUND. -/
theorem draw_ok (hm : P.follows .mixedOrders = true) (ht : TabOK P tab) (he : EnvOK P F tab env) : DrawOK P tab env F (wpDraw tab env) := by
  intro U Mc w0 id ops Q E Qm bnd st0 a w hchk hQ hE hi0 h0
  obtain ⟨hc, h0⟩ := h0
  have key : ∃ st, Inv U Mc w0 bnd st a w ∧ wpD tab env.dry ops Q E ops.toList 0 st [] [] [] none := by
    rcases h0 with h | h
    · exact ⟨_, hi0, h⟩
    · exact ⟨_, hi0.freeze, h⟩
  obtain ⟨st, hi, h⟩ := key
  obtain ⟨S, R, hS, T⟩ := trace (env := env.dry) (fun _ _ => rfl) ops.toList 0 st [] [] [] none rfl (Nat.zero_le _) h
  refine wp_region_any hm ?_
  have hi' : Inv U Mc w0 bnd st a { w with drawn := w.drawn + 1 } := hi.grow ⟨rfl, rfl, rfl, Nat.le_refl _, fun _ _ => rfl⟩
  rw [← hS] at hi'
  refine any_sound ht he.dry hchk hc T hQ hE ops.size _ bnd a _ (by simp) ?_ (DI.start T hi' fun j hj => ?_)
  · unfold todo
    exact Nat.le_trans List.countP_le_length (by simp)
  · simp [Lof, Array.getD_eq_getD_getElem?, hj]
/-- A WHOLE FUNCTION. -/
theorem fun_ok (hm : P.follows .mixedOrders = true) (ht : TabOK P tab) (he : EnvOK P F tab env) {f : FuncId} {fn : Func} {c : Code} (hf : P.funcs[f]? = some fn) (hb : fn.body = some c) (hc : codeChk P tab c = true)
    {args : List SV} {r : Except Int SV} (h : wpF tab env (wpDraw tab env) fn args (fun r' => r' = r)) : Holds P F f args r :=
  fun_holds ht he (draw_ok hm ht he) hf hb hc h
theorem inl_ok (hm : P.follows .mixedOrders = true) (ht : TabOK P tab) (he : EnvOK P F tab env) (ha : tab.app = false) {f : FuncId} {fn : Func} {c : Code} (hf : P.funcs[f]? = some fn) (hb : fn.body = some c) (hc : codeChk P tab c = true)
    {xs : List SV} {os : List Ob} {K : SV → List Ob → Prop} (h : wpInl tab env (wpDraw tab env) fn xs os K) : InlOK P tab.u f xs os K :=
  inl_fun ht he (draw_ok hm ht he) ha hf hb hc h
theorem fresh_ok (hm : P.follows .mixedOrders = true) (ht : TabOK P tab) (he : EnvOK P F tab env) {f : FuncId} {fn : Func} {c : Code} (hf : P.funcs[f]? = some fn) (hb : fn.body = some c) (hc : codeChk P tab c = true)
    {xs : List SV} {l : List Nat} (h : wpInl tab env (wpDraw tab env) fn xs [] (fun x os => ∃ i, baseOf os x = some (some i, l))) : HoldsF P tab.u f xs l :=
  fresh_fun ht he (draw_ok hm ht he) hf hb hc h
end
end
end Iv
end Go.Proofs.YtfajgibpidlojaaDoor
end

section
/- The verified interpreter, part N: a table of types checked by computation; rounds of a loop. No condition. -/
set_option linter.unusedVariables false
set_option linter.unusedSimpArgs false
set_option linter.unusedSectionVars false
namespace Go.Proofs.YtfajgibpidlojaaDoor
namespace Iv
open Go Go.RowKit

def eqV : SV → Value → Bool
  | .bool b, .bool c => b == c
  | .int k n, .int k' m => decide (k = k') && decide (n = m)
  | .nil, .slice none 0 0 => true
  | _, _ => false
def eqVL : List SV → List Value → Bool
  | [], [] => true
  | x :: xs, v :: vs => eqV x v && eqVL xs vs
  | _, _ => false
theorem eqV_spec {x : SV} {v : Value} (h : eqV x v = true) : v = toV x := by
  unfold eqV at h
  split at h
  · simp at h; subst h; rfl
  · simp at h; obtain ⟨rfl, rfl⟩ := h; rfl
  · rfl
  · cases h
theorem eqVL_spec : ∀ {xs : List SV} {vs : List Value}, eqVL xs vs = true → vs = xs.map toV
  | [], [], _ => rfl
  | x :: xs, v :: vs, h => by
    simp only [eqVL, Bool.and_eq_true] at h
    rw [List.map_cons, ← eqV_spec h.1, ← eqVL_spec h.2]
  | [], _ :: _, h => by simp [eqVL] at h
  | _ :: _, [], h => by simp [eqVL] at h
def sizeIs (P : Program) (T : TypeId) (s : Nat) : Bool := match P.info? T with | some i => i.size == s | Option.none => false
def rowIs (P : Program) (T : TypeId) (r : Bool) : Bool := match P.underlying T with | some e => e.isRow == r | Option.none => false
theorem sizeIs_spec {P : Program} {T : TypeId} {s : Nat} (h : sizeIs P T s = true) : (P.info? T).map (·.size) = some s := by
  unfold sizeIs at h
  split at h
  · rename_i i hi; rw [hi]; simpa using h
  · cases h
theorem rowIs_spec {P : Program} {T : TypeId} {r : Bool} (h : rowIs P T r = true) : ∃ e, P.underlying T = some e ∧ e.isRow = r := by
  unfold rowIs at h
  split at h
  · rename_i e he; exact ⟨e, he, by simpa using h⟩
  · cases h
def fieldsChk (P : Program) : List Field → List (Nat × Nat × Bool) → Bool
  | [], [] => true
  | f :: fs, (o, s, r) :: l => f.offset == o && sizeIs P f.type s && rowIs P f.type r && fieldsChk P fs l
  | _, _ => false
theorem fieldsChk_spec {P : Program} : ∀ {fs : List Field} {l : List (Nat × Nat × Bool)}, fieldsChk P fs l = true → FieldsOK P fs l
  | [], [], _ => rfl
  | f :: fs, (o, s, r) :: l, h => by
    simp only [fieldsChk, Bool.and_eq_true, beq_iff_eq] at h
    obtain ⟨e, he, hr⟩ := rowIs_spec h.1.2
    exact ⟨o, s, r, l, e, rfl, h.1.1.1, sizeIs_spec h.1.1.2, he, hr, fieldsChk_spec h.2⟩
  | [], _ :: _, h => by simp [fieldsChk] at h
  | _ :: _, [], h => by simp [fieldsChk] at h
def arrOffs (s : Nat) (r : Bool) : Nat → List (Nat × Nat × Bool) → Bool
  | _, [] => true
  | j, (o, s', r') :: l => o == j * s && s' == s && r' == r && arrOffs s r (j + 1) l
theorem arrOffs_spec {s : Nat} {r : Bool} : ∀ {l : List (Nat × Nat × Bool)} {j0 : Nat}, arrOffs s r j0 l = true → ∀ j o s' r', l[j]? = some (o, s', r') → o = (j0 + j) * s ∧ s' = s ∧ r = r'
  | [], j0, _, j, o, s', r', h => by simp at h
  | (o1, s1, r1) :: l, j0, h, j, o, s', r', hj => by
    simp only [arrOffs, Bool.and_eq_true, beq_iff_eq] at h
    cases j with
    | zero => simp at hj; obtain ⟨rfl, rfl, rfl⟩ := hj; exact ⟨h.1.1.1, h.1.1.2, h.1.2.symm⟩
    | succ j =>
      have := arrOffs_spec h.2 j o s' r' (by simpa using hj)
      rw [show j0 + (j + 1) = j0 + 1 + j by omega]
      exact this
def descChk (P : Program) (ti : Ti) : TypeDesc → Bool
  | .struct fs => fieldsChk P fs.toList ti.offs && !ti.arr
  | .array n u => ti.arr && ti.offs.length == n && (match P.info? u, P.underlying u with | some i, some e => arrOffs i.size e.isRow 0 ti.offs | _, _ => false)
  | _ => ti.offs.isEmpty && !ti.arr
def ikChk (ti : Ti) (d : TypeDesc) : Bool :=
  (match ti.ik with
  | some k => (match d with | .int k' => decide (k' = k) | _ => false)
  | Option.none => true) && (!ti.bl || (match d with | .bool => true | _ => false))
def tiChk (P : Program) (T : TypeId) (ti : Ti) : Bool :=
  match P.underlying T, P.info? T with
  | some d, some i => d.isRow == ti.row && ikChk ti d && descChk P ti d && i.size == ti.zero.length && (match i.zero with | some z => ti.fn || eqVL ti.zero z.cells.toList | Option.none => false) && (ti.fn || ti.zero.all fun x => x.dry && x.leaf) && (!ti.fn || !ti.row)
  | _, _ => false
theorem tiChk_spec {P : Program} {T : TypeId} {ti : Ti} (h : tiChk P T ti = true) : TiOK P T ti := by
  unfold tiChk at h
  split at h
  · rename_i d i hd hi
    simp only [Bool.and_eq_true, beq_iff_eq] at h
    obtain ⟨⟨⟨⟨⟨⟨h1, h2⟩, h3⟩, h4⟩, h5⟩, h6⟩, h7⟩ := h
    simp only [ikChk, Bool.and_eq_true] at h2
    refine ⟨⟨d, hd, h1, fun k hk => ?_, fun hb => ?_, ?_, ?_⟩, ?_, fun hf x hx => ?_, fun hf => ?_⟩
    · have := h2.1
      rw [hk] at this
      simp only at this
      split at this
      · simp at this; rw [this]
      · cases this
    · have := h2.2
      rw [hb] at this
      simp only [Bool.not_true, Bool.false_or] at this
      split at this
      · rfl
      · cases this
    · unfold descChk at h3
      split at h3
      · simp only [Bool.and_eq_true, Bool.not_eq_true'] at h3
        simp [h3.2]
      · simp only [Bool.and_eq_true] at h3
        simp [h3.1.1]
      · rename_i hs ha
        simp only [Bool.and_eq_true, Bool.not_eq_true'] at h3
        constructor
        · intro e; rw [h3.2] at e; cases e
        · rintro ⟨n, e, rfl⟩; exact absurd rfl (ha n e)
    · unfold descChk at h3
      split at h3
      · simp only [Bool.and_eq_true] at h3
        exact fieldsChk_spec h3.1
      · rename_i n u
        simp only [Bool.and_eq_true, beq_iff_eq] at h3
        refine ⟨h3.1.2, ?_⟩
        have := h3.2
        split at this
        · rename_i iu eu hiu heu
          refine ⟨iu.size, eu, by simp [hiu], heu, fun j o s' r hj => ?_⟩
          have := arrOffs_spec this j o s' r hj
          simpa using this
        · cases this
      · rename_i hs ha
        simp only [Bool.and_eq_true, List.isEmpty_iff] at h3
        cases d <;> first | exact h3.1 | exact absurd rfl (hs _) | exact absurd rfl (ha _ _)
    · split at h5
      · rename_i z hz
        exact ⟨i, z, hi, hz, h4, fun hf => eqVL_spec (by simpa [hf] using h5)⟩
      · cases h5
    · rw [hf] at h6
      simp only [Bool.false_or, List.all_eq_true, Bool.and_eq_true] at h6
      exact h6 x hx
    · rw [hf] at h7
      simpa using h7
  · cases h
/-- A table out of a list. -/
def tbOf (l : List (TypeId × Ti)) (T : TypeId) : Option Ti := match l with
  | [] => Option.none
  | (T', ti) :: l => if T = T' then some ti else tbOf l T
def tbChk (P : Program) : List (TypeId × Ti) → Bool
  | [] => true
  | (T, ti) :: l => tiChk P T ti && tbChk P l
theorem tbChk_spec {P : Program} : ∀ {l : List (TypeId × Ti)}, tbChk P l = true → ∀ T ti, tbOf l T = some ti → TiOK P T ti
  | [], _, T, ti, h => by simp [tbOf] at h
  | (T', ti') :: l, hc, T, ti, h => by
    simp only [tbChk, Bool.and_eq_true] at hc
    simp only [tbOf] at h
    split at h
    · rename_i e
      subst e
      simp only [Option.some.injEq] at h
      subst h
      exact tiChk_spec hc.1
    · exact tbChk_spec hc.2 T ti h

/-- ROUNDS OF A LOOP: I n holds of a state that is left after at most n rounds. -/
theorem loop_rule {body : St → (Ex → St → Prop) → Prop} {Q : Ex → St → Prop} (I : Nat → St → Prop)
    (step : ∀ n st (K : Ex → St → Prop), (∀ m s, n = m + 1 → I m s → K .normal s) → (∀ e s, e ≠ .normal → Q e s → K e s) → I n st → body st K) {n : Nat} {st : St} (h : I n st) : ∃ k, wpLoop body k st Q := by
  refine ⟨n + 1, ?_⟩
  induction n generalizing st with
  | zero =>
    refine step 0 st _ (fun m s e => by omega) (fun e s hne hq => ?_) h
    cases e <;> first | exact absurd rfl hne | exact hq
  | succ n ih =>
    refine step (n + 1) st _ (fun m s e hi => ?_) (fun e s hne hq => ?_) h
    · have : m = n := by omega
      subst this
      exact ih hi
    · cases e <;> first | exact absurd rfl hne | exact hq

/-! ### A state of which some slots are known -/
def pat (x : Nat → SV) : Nat → List (Option SV) → List SV
  | _, [] => []
  | k, some v :: ps => v :: pat x (k + 1) ps
  | k, none :: ps => x k :: pat x (k + 1) ps
inductive Like : List (Option SV) → List SV → Prop
  | nil : Like [] []
  | s {x v : SV} {ps : List (Option SV)} {xs : List SV} : x = v → Like ps xs → Like (some v :: ps) (x :: xs)
  | n {x : SV} {ps : List (Option SV)} {xs : List SV} : Like ps xs → Like (none :: ps) (x :: xs)
theorem Like.pat_eq : ∀ {ps : List (Option SV)} {xs : List SV}, Like ps xs → ∀ (x : Nat → SV) (k : Nat), (∀ i, i < xs.length → x (k + i) = xs.getD i .undef) → xs = pat x k ps
  | [], [], _, x, k, h => rfl
  | some v :: ps, y :: xs, .s e hl, x, k, h => by
    subst e
    simp only [pat]
    congr 1
    exact Like.pat_eq hl x (k + 1) fun i hi => by
      have := h (i + 1) (by simpa using hi)
      rw [show k + 1 + i = k + (i + 1) by omega, this]
      simp
  | none :: ps, y :: xs, .n hl, x, k, h => by
    simp only [pat]
    have h0 := h 0 (by simp)
    simp only [Nat.add_zero] at h0
    rw [h0]
    simp only [List.getD_cons_zero]
    congr 1
    exact Like.pat_eq hl x (k + 1) fun i hi => by
      have := h (i + 1) (by simpa using hi)
      rw [show k + 1 + i = k + (i + 1) by omega, this]
      simp
theorem fits {ps : List (Option SV)} {xs : List SV} {os : List Ob} (h : Like ps xs) : ∃ x, (⟨xs, os⟩ : St) = ⟨pat x 0 ps, os⟩ :=
  ⟨fun i => xs.getD i .undef, by rw [← h.pat_eq _ 0 fun i _ => by simp]⟩

/-! ### Contracts, said of words -/
theorem Holds.conv {P : Program} {F : TypeId} {f : FuncId} {xs ys : List SV} {r r' : Except Int SV} (h : Holds P F f xs r)
    (hx : ∀ M N bnd w vs, RpL M N bnd w ys vs → RpL M N bnd w xs vs) (hr : ∀ M w e w', Fin F M w r e w' → Fin F M w r' e w') : Holds P F f ys r' :=
  fun M w vs hM ha => (h M w vs hM (hx _ _ _ _ _ ha)).mono fun e w' hf => hr _ _ _ _ hf
end Iv
end Go.Proofs.YtfajgibpidlojaaDoor
end

section
/- Numbers and their lists of digits: plain facts. No condition. -/
set_option linter.unusedVariables false
set_option linter.unusedSimpArgs false
namespace Go.Proofs.YtfajgibpidlojaaDoor
namespace Iv
open Go

theorem digF_fuel (B : Nat) (hB : 1 < B) : ∀ (f g n : Nat), n ≤ f → n ≤ g → digF B f n = digF B g n
  | 0, g, n, hf, hg => by
    have : n = 0 := by omega
    subst this
    cases g <;> simp [digF]
  | f + 1, 0, n, hf, hg => by
    have : n = 0 := by omega
    subst this
    simp [digF]
  | f + 1, g + 1, n, hf, hg => by
    simp only [digF]
    by_cases hn : n = 0
    · simp [hn]
    · simp only [hn, if_false]
      have hlt : n / B < n := Nat.div_lt_self (by omega) hB
      rw [digF_fuel B hB f g (n / B) (by omega) (by omega)]
theorem dig_zero (B : Nat) : dig B 0 = [] := rfl
theorem dig_step {B n : Nat} (hB : 1 < B) (hn : n ≠ 0) : dig B n = n % B :: dig B (n / B) := by
  unfold dig
  cases n with
  | zero => exact absurd rfl hn
  | succ n =>
    simp only [digF, hn, if_false]
    have hlt : (n + 1) / B < n + 1 := Nat.div_lt_self (by omega) hB
    rw [digF_fuel B hB n ((n + 1) / B) ((n + 1) / B) (by omega) (Nat.le_refl _)]
/-- The number of a list of digits. -/
def val (B : Nat) : List Nat → Nat
  | [] => 0
  | x :: xs => x + B * val B xs
theorem val_dig {B : Nat} (hB : 1 < B) (n : Nat) : val B (dig B n) = n := by
  induction n using Nat.strongRecOn with
  | ind n ih =>
    by_cases hn : n = 0
    · subst hn; rfl
    · rw [dig_step hB hn, val, ih _ (Nat.div_lt_self (by omega) hB)]
      exact Nat.mod_add_div n B
theorem dig_lt {B : Nat} (hB : 1 < B) (n : Nat) : ∀ x ∈ dig B n, x < B := by
  induction n using Nat.strongRecOn with
  | ind n ih =>
    by_cases hn : n = 0
    · subst hn; simp [dig_zero]
    · rw [dig_step hB hn]
      intro x hx
      rcases List.mem_cons.1 hx with rfl | hx
      · exact Nat.mod_lt _ (by omega)
      · exact ih _ (Nat.div_lt_self (by omega) hB) x hx
/-- The last digit is not 0. -/
def canon : List Nat → Prop
  | [] => True
  | [x] => x ≠ 0
  | _ :: y :: ys => canon (y :: ys)
theorem canon_last : ∀ {l : List Nat}, l ≠ [] → (canon l ↔ l.getD (l.length - 1) 0 ≠ 0)
  | [], h => absurd rfl h
  | [x], _ => by simp [canon]
  | x :: y :: ys, _ => by
    simp only [canon]
    rw [canon_last (by simp)]
    simp
theorem val_pos {B : Nat} (hB : 1 < B) : ∀ {l : List Nat}, l ≠ [] → canon l → 0 < val B l
  | [], h, _ => absurd rfl h
  | [x], _, h => by simp [canon] at h; simp [val]; omega
  | x :: y :: ys, _, h => by
    have := val_pos hB (l := y :: ys) (by simp) h
    simp only [val] at this ⊢
    have : 0 < B * (y + B * val B ys) := Nat.mul_pos (by omega) this
    omega
theorem dig_val {B : Nat} (hB : 1 < B) : ∀ {l : List Nat}, (∀ x ∈ l, x < B) → canon l → dig B (val B l) = l
  | [], _, _ => rfl
  | [x], h, hc => by
    simp only [canon] at hc
    have hx := h x (by simp)
    simp only [val, Nat.mul_zero, Nat.add_zero]
    rw [dig_step hB hc, Nat.mod_eq_of_lt hx, Nat.div_eq_of_lt hx, dig_zero]
  | x :: y :: ys, h, hc => by
    have ih := dig_val hB (l := y :: ys) (fun z hz => h z (by simp at hz ⊢; right; exact hz)) hc
    have hx := h x (by simp)
    have hp := val_pos hB (l := y :: ys) (by simp) hc
    rw [val, dig_step hB (by have : 0 < B * val B (y :: ys) := Nat.mul_pos (by omega) hp; omega)]
    have e1 : (x + B * val B (y :: ys)) % B = x := by rw [Nat.add_mul_mod_self_left]; exact Nat.mod_eq_of_lt hx
    have e2 : (x + B * val B (y :: ys)) / B = val B (y :: ys) := by
      rw [Nat.add_mul_div_left _ _ (by omega), Nat.div_eq_of_lt hx]; omega
    rw [e1, e2, ih]
theorem dig_canon {B : Nat} (hB : 1 < B) (n : Nat) : canon (dig B n) := by
  induction n using Nat.strongRecOn with
  | ind n ih =>
    by_cases hn : n = 0
    · subst hn; trivial
    · rw [dig_step hB hn]
      have := ih _ (Nat.div_lt_self (by omega) hB)
      cases hd : dig B (n / B) with
      | nil =>
        simp only [canon]
        have h0 : n / B = 0 := by have := val_dig hB (n / B); rw [hd] at this; simpa [val] using this.symm
        have := Nat.mod_add_div n B
        rw [h0] at this
        omega
      | cons y ys => rw [hd] at this; exact this
theorem val_append (B : Nat) : ∀ (l m : List Nat), val B (l ++ m) = val B l + B ^ l.length * val B m
  | [], m => by simp [val]
  | x :: l, m => by
    simp only [List.cons_append, val, val_append B l m, List.length_cons, Nat.pow_succ, Nat.mul_add]
    rw [Nat.mul_comm (B ^ l.length) B, Nat.mul_assoc, Nat.add_assoc]
theorem val_lt {B : Nat} (hB : 1 < B) : ∀ {l : List Nat}, (∀ x ∈ l, x < B) → val B l < B ^ l.length
  | [], _ => by simp [val]
  | x :: l, h => by
    have h1 := val_lt hB (l := l) fun z hz => h z (by simp [hz])
    have hx := h x (by simp)
    simp only [val, List.length_cons, Nat.pow_succ]
    have h2 : B * (val B l + 1) ≤ B * B ^ l.length := Nat.mul_le_mul_left _ h1
    rw [Nat.mul_comm (B ^ l.length) B]
    rw [Nat.mul_add] at h2
    omega
theorem val_ge {B : Nat} (hB : 1 < B) : ∀ {l : List Nat}, l ≠ [] → canon l → B ^ (l.length - 1) ≤ val B l
  | [], h, _ => absurd rfl h
  | [x], _, h => by simp [canon] at h; simp [val]; omega
  | x :: y :: ys, _, h => by
    have := val_ge hB (l := y :: ys) (by simp) h
    simp only [List.length_cons, Nat.add_sub_cancel] at this ⊢
    rw [val, Nat.pow_succ, Nat.mul_comm]
    have := Nat.mul_le_mul_left B this
    omega
theorem dig_len_le {B n k : Nat} (hB : 1 < B) (h : n < B ^ k) : (dig B n).length ≤ k := by
  by_cases hn : dig B n = []
  · simp [hn]
  · have h1 := val_ge hB hn (dig_canon hB n)
    rw [val_dig hB] at h1
    have h2 : B ^ ((dig B n).length - 1) < B ^ k := Nat.lt_of_le_of_lt h1 h
    have := (Nat.pow_lt_pow_iff_right hB).1 h2
    omega
theorem dig_len_lt {B n k : Nat} (hB : 1 < B) : (dig B n).length ≤ k ↔ n < B ^ k := by
  constructor
  · intro h
    have h1 := val_lt hB (dig_lt hB n)
    rw [val_dig hB] at h1
    exact Nat.lt_of_lt_of_le h1 (Nat.pow_le_pow_right (by omega) h)
  · exact dig_len_le hB
theorem dig_nil {B n : Nat} (hB : 1 < B) : dig B n = [] ↔ n = 0 := by
  constructor
  · intro h; have := val_dig hB n; rw [h] at this; simpa [val] using this.symm
  · rintro rfl; rfl
theorem val_take_drop (B : Nat) (l : List Nat) (k : Nat) (hk : k ≤ l.length) : val B l = val B (l.take k) + B ^ k * val B (l.drop k) := by
  conv => lhs; rw [← List.take_append_drop k l]
  rw [val_append, List.length_take, Nat.min_eq_left hk]
theorem val_zeros (B : Nat) : ∀ n, val B (List.replicate n 0) = 0
  | 0 => rfl
  | n + 1 => by simp [List.replicate, val, val_zeros B n]
/-- A list with its last digit 0 taken off. -/
theorem val_snoc_zero {B : Nat} {l : List Nat} (hl : 0 < l.length) (h0 : l.getD (l.length - 1) 0 = 0) : val B (l.take (l.length - 1)) = val B l := by
  rw [val_take_drop B l (l.length - 1) (by omega)]
  have : l.drop (l.length - 1) = [l.getD (l.length - 1) 0] := by
    rw [List.drop_eq_getElem_cons (by omega), List.drop_eq_nil_of_le (by omega)]
    simp [List.getD_eq_getElem?_getD, List.getElem?_eq_getElem (show l.length - 1 < l.length by omega)]
  rw [this, h0]
  simp [val]
def cmpI (a b : Nat) : Int := if a < b then -1 else if b < a then 1 else 0
abbrev B32 : Nat := 4294967296
abbrev B16 : Nat := 65536
theorem dig32_val {l : List Nat} (h : ∀ x ∈ l, x < B32) (hc : canon l) : dig32 (val B32 l) = l := dig_val (by decide) h hc
theorem dig16_val {l : List Nat} (h : ∀ x ∈ l, x < B16) (hc : canon l) : dig16 (val B16 l) = l := dig_val (by decide) h hc
theorem val_dig32 (n : Nat) : val B32 (dig32 n) = n := val_dig (by decide) n
theorem val_dig16 (n : Nat) : val B16 (dig16 n) = n := val_dig (by decide) n
theorem rp_words32 {M : Nat → Prop} {N : Nat} {bnd : Nat → Option Value} {w : World} {n : Nat} {v : Value} : Rp M N bnd w (.n32 n) v ↔ Rp M N bnd w (.words (dig32 n)) v := by simp only [Rp]
theorem rp_words16 {M : Nat → Prop} {N : Nat} {bnd : Nat → Option Value} {w : World} {n : Nat} {v : Value} : Rp M N bnd w (.n16 n) v ↔ Rp M N bnd w (.words (dig16 n)) v := by simp only [Rp]
end Iv
end Go.Proofs.YtfajgibpidlojaaDoor
end

section
/- The verified interpreter, part O: contracts put together; what one semantic value says of another. No condition. -/
set_option linter.unusedVariables false
set_option linter.unusedSimpArgs false
set_option linter.unusedSectionVars false
namespace Go.Proofs.YtfajgibpidlojaaDoor
namespace Iv
open Go

/-- What has the meaning x has the meaning y. -/
def Sub (x y : SV) : Prop := ∀ M N bnd w v, Rp M N bnd w x v → Rp M N bnd w y v
def SubL (xs ys : List SV) : Prop := ∀ M N bnd w vs, RpL M N bnd w xs vs → RpL M N bnd w ys vs
theorem Sub.refl (x : SV) : Sub x x := fun _ _ _ _ _ h => h
theorem Sub.trans {x y z : SV} (h : Sub x y) (k : Sub y z) : Sub x z := fun M N bnd w v r => k M N bnd w v (h M N bnd w v r)
theorem SubL.nil : SubL [] [] := fun _ _ _ _ _ h => h
theorem SubL.cons {x y : SV} {xs ys : List SV} (h : Sub x y) (k : SubL xs ys) : SubL (x :: xs) (y :: ys) := by
  rintro M N bnd w vs ⟨v, vs', rfl, h1, h2⟩
  exact ⟨v, vs', rfl, h M N bnd w v h1, k M N bnd w vs' h2⟩
theorem Sub.agg {xs ys : List SV} (h : SubL xs ys) : Sub (.agg xs) (.agg ys) := by
  intro M N bnd w v hr
  simp only [Rp] at hr ⊢
  obtain ⟨vs, e, hl⟩ := hr
  exact ⟨vs, e, h _ _ _ _ _ hl⟩
theorem Sub.tup {xs ys : List SV} (h : SubL xs ys) : Sub (.tup xs) (.tup ys) := by
  intro M N bnd w v hr
  simp only [Rp] at hr ⊢
  obtain ⟨vs, e, hl⟩ := hr
  exact ⟨vs, e, h _ _ _ _ _ hl⟩
theorem Sub.nil_words : Sub .nil (.words []) := by
  intro M N bnd w v hr
  simp only [Rp] at hr ⊢
  subst hr
  exact ⟨by simp, by simp, none, 0, rfl, by simp, fun h => by simp at h⟩
theorem Sub.w32 (n : Nat) : Sub (.words (dig32 n)) (.n32 n) := fun M N bnd w v hr => rp_words32.2 hr
theorem Sub.w16 (n : Nat) : Sub (.words (dig16 n)) (.n16 n) := fun M N bnd w v hr => rp_words16.2 hr
theorem Sub.of32 (n : Nat) : Sub (.n32 n) (.words (dig32 n)) := fun M N bnd w v hr => rp_words32.1 hr
theorem Sub.of16 (n : Nat) : Sub (.n16 n) (.words (dig16 n)) := fun M N bnd w v hr => rp_words16.1 hr
theorem Sub.nil32 : Sub .nil (.n32 0) := Sub.nil_words.trans (Sub.w32 0)
theorem Sub.nil16 : Sub .nil (.n16 0) := Sub.nil_words.trans (Sub.w16 0)
theorem Sub.words {x : SV} {l : List Nat} (h : x.list = some l) : Sub x (.words l) := fun M N bnd w v hr => by
  simp only [Rp]; exact hr.list h
theorem Sub.val32 {l : List Nat} (h : ∀ x ∈ l, x < B32) (hc : canon l) : Sub (.words l) (.n32 (val B32 l)) := by
  have := Sub.w32 (val B32 l)
  rwa [dig32_val h hc] at this
theorem Sub.val16 {l : List Nat} (h : ∀ x ∈ l, x < B16) (hc : canon l) : Sub (.words l) (.n16 (val B16 l)) := by
  have := Sub.w16 (val B16 l)
  rwa [dig16_val h hc] at this
/-- An answer for another. -/
def SubE : Except Int SV → Except Int SV → Prop
  | .ok x, .ok y => y.clean = true ∧ Sub x y
  | .error e, .error e' => e = e'
  | _, _ => False
theorem Fin.sub {F : TypeId} {M : Nat → Prop} {w : World} {r r' : Except Int SV} {e : Ending} {w' : World} (h : Fin F M w r e w') (hs : SubE r r') : Fin F M w r' e w' := by
  cases r with
  | ok x =>
    cases r' with
    | ok y =>
      obtain ⟨hb, v, he, _, hr⟩ := h
      exact ⟨hb, v, he, hs.1, hs.2 _ _ _ _ _ hr⟩
    | error e => exact hs.elim
  | error e1 =>
    cases r' with
    | ok y => exact hs.elim
    | error e2 =>
      have : e1 = e2 := hs
      subst this
      exact h
theorem Holds.sub {P : Program} {F : TypeId} {f : FuncId} {xs ys : List SV} {r r' : Except Int SV} (h : Holds P F f xs r) (hx : SubL ys xs) (hr : SubE r r') : Holds P F f ys r' :=
  fun M w vs hM ha => (h M w vs hM (hx _ _ _ _ _ ha)).mono fun e w' hf => hf.sub hr

section
variable {P : Program} {F : TypeId} {tab : Tb} {env : Env}
theorem enters_of {f : FuncId} {fn : Func} {c : Code} (hf : P.funcs[f]? = some fn) (hn : (fn.name == "runtime.NumGoroutine") = false) (hb : fn.body = some c) : Enters P f := by
  intro args w
  have hn' : ¬ fn.name = "runtime.NumGoroutine" := by simpa using hn
  simp [callFunc, Sem.run_bind, hf, hn', hb]
/-- A contract that is used. -/
structure Con (P : Program) (F : TypeId) where
  f : FuncId
  spec : List SV → Option (Prop × Res)
  ent : Enters P f
  ok : ∀ xs pre r, spec xs = some (pre, r) → pre → Holds P F f xs r.pick
def conOf : List (Con P F) → FuncId → List SV → Option (Prop × Res)
  | [], _, _ => none
  | c :: cs, f, xs => match Nat.beq f c.f with
    | true => c.spec xs
    | false => conOf cs f xs
def envOf (l : List (Con P F)) : Env := { con := conOf l }
theorem conOf_ok : ∀ (l : List (Con P F)) (f : FuncId) (xs : List SV) (pre : Prop) (r : Res), conOf l f xs = some (pre, r) → Enters P f ∧ (pre → Holds P F f xs r.pick)
  | [], f, xs, pre, r, h => by simp [conOf] at h
  | c :: cs, f, xs, pre, r, h => by
    simp only [conOf] at h
    split at h
    · rename_i hb
      have : f = c.f := Nat.eq_of_beq_eq_true hb
      subst this
      exact ⟨c.ent, c.ok xs pre r h⟩
    · exact conOf_ok cs f xs pre r h
theorem envOf_ok (l : List (Con P F)) : EnvOK P F tab (envOf l) := ⟨fun f xs pre r h => conOf_ok l f xs pre r h, fun f k h => by simp [envOf] at h, fun f xs pre l h => by simp [envOf] at h⟩
/-- A function's contract out of its run. -/
theorem holds_run (hm : P.follows .mixedOrders = true) (ht : TabOK P tab) (he : EnvOK P F tab env) {f : FuncId} {fn : Func} {c : Code} (hf : P.funcs[f]? = some fn) (hb : fn.body = some c) (hc : codeChk P tab c = true)
    {args args' : List SV} {r : Except Int SV} (h : wpF tab env (wpDraw tab env) fn args (fun r' => SubE r' r)) (hx : SubL args' args) : Holds P F f args' r :=
  fun M w vs hM ha => (fun_sound ht he (draw_ok hm ht he) hf hb hc h hM (hx _ _ _ _ _ ha)).mono fun e w' ⟨r', hr, hfin⟩ => hfin.sub hr
/-- A number to base 2^32, 2^16. -/
def asN32 : SV → Option Nat
  | .n32 a => some a
  | .nil => some 0
  | _ => none
def asN16 : SV → Option Nat
  | .n16 a => some a
  | .nil => some 0
  | _ => none
theorem asN32_sub {x : SV} {a : Nat} (h : asN32 x = some a) : Sub x (.n32 a) := by
  cases x <;> simp [asN32] at h
  · subst h; exact Sub.nil32
  · subst h; exact Sub.refl _
theorem asN16_sub {x : SV} {a : Nat} (h : asN16 x = some a) : Sub x (.n16 a) := by
  cases x <;> simp [asN16] at h
  · subst h; exact Sub.nil16
  · subst h; exact Sub.refl _
end
end Iv
end Go.Proofs.YtfajgibpidlojaaDoor
end

section
/- Contracts of the words' functions, part B: the table of types; Of, Cmp. Conditions: the lists are no longer than cap30. -/
set_option linter.unusedVariables false
set_option linter.unusedSimpArgs false
set_option maxHeartbeats 1000000
namespace Go.Proofs.YtfajgibpidlojaaDoor
namespace Iv
open Go Go.Proofs

def sc (k : IntKind) : Ti := { row := false, zero := [.int k 0], offs := [], ik := some k }
def sl : Ti := { row := false, zero := [.nil], offs := [], ik := none }
def tbl : List (TypeId × Ti) := [(3, sc .i64), (4, { row := false, zero := [.bool false], offs := [], ik := none, bl := true }), (22, sl), (63, sl), (55, sl), (74, sc .u32), (119, sc .u64), (133, sc .u64)]
def tb : Tb := { ti := tbOf tbl, u := 74, inl := fun _ => false }
theorem tb_ok : TabOK Tryd.prog tb := tbChk_spec (l := tbl) (by kernel_rfl)
theorem mixed : Tryd.prog.follows .mixedOrders = true := by kernel_rfl
def env0 : Env := { con := fun _ _ => none }
theorem env0_ok (F : TypeId) : EnvOK Tryd.prog F tb env0 := ⟨fun f xs pre r h => by simp [env0] at h, fun f k h => by simp [env0] at h, fun f xs pre l h => by simp [env0] at h⟩
theorem c30 : cap30 = 1073741824 := rfl

theorem canon_of_take {l : List Nat} {x : Nat} (h : l.getD (l.length - 1) 0 ≠ 0) : canon l := by
  by_cases e : l = []
  · subst e; trivial
  · exact (canon_last e).2 h
theorem of_wp (l : List Nat) (hb : ∀ x ∈ l, x < B32) (hl : l.length ≤ cap30) (K : Except Int SV → Prop) (hK : ∀ r, SubE r (.ok (.n32 (val B32 l))) → K r) : wpF tb env0 (wpDraw tb env0) Tryd.f135 [.words l] K := by
  have h30 := c30
  show ∃ n, wpLoop _ n _ _
  refine loop_rule (fun n st => ∃ (cur : List Nat), n = cur.length ∧ (∀ x ∈ cur, x < B32) ∧ cur.length ≤ cap30 ∧ val B32 cur = val B32 l ∧ ∃ x, st = ⟨pat x 0 [some (.words cur), none, some (.nil), none, none, none, none, none, none, none, none, none, none, none, none, none, none, none, none, none, none], []⟩) ?step (n := l.length) ?init
  case init => exact ⟨l, rfl, hb, hl, rfl, (fits (.s rfl (.n (.s rfl (.n (.n (.n (.n (.n (.n (.n (.n (.n (.n (.n (.n (.n (.n (.n (.n (.n (.n .nil))))))))))))))))))))))⟩
  case step =>
    rintro n st K' hK1 hK2 ⟨cur, rfl, hcb, hc, hs, x, rfl⟩
    refine ifB_mk (fun h => ?_) (fun h => ?_)
    · simp only [decide_eq_true_eq] at h
      refine And.intro (by (try dsimp only); omega) ?_
      refine And.intro (by (try dsimp only); omega) ?_
      have e1 : ((cur.length : Int) - 1).toNat = cur.length - 1 := by omega
      refine ifB_mk (fun h2 => ?_) (fun h2 => ?_)
      · refine And.intro (by (try dsimp only); omega) ?_
        refine And.intro (by simp only [true_and]; omega) ?_
        refine hK1 (cur.length - 1) _ (by omega) ⟨_, ?_, ?_, ?_, ?_, (fits (.s rfl (.n (.s rfl (.n (.n (.n (.n (.n (.n (.n (.n (.n (.n (.n (.n (.n (.n (.n (.n (.n (.n .nil))))))))))))))))))))))⟩ <;> simp only [e1, List.drop_zero]
        · simp
        · exact fun x hx => hcb x (List.mem_of_mem_take hx)
        · simp; omega
        · rw [← hs]
          refine val_snoc_zero (by omega) ?_
          simpa [e1] using h2
      · refine hK2 _ _ (by simp) ?_
        show K _
        refine hK _ ?_
        rw [← hs]
        refine ⟨rfl, Sub.val32 hcb (canon_of_take (x := 0) ?_)⟩
        simpa [e1] using h2
    · refine hK2 _ _ (by simp) ?_
      show K _
      refine hK _ ?_
      have : cur = [] := by
        simp only [decide_eq_false_iff_not] at h
        exact List.eq_nil_of_length_eq_zero (by omega)
      subst this
      rw [← hs]
      exact ⟨rfl, Sub.val32 hcb trivial⟩
theorem of_holds (F : TypeId) (l : List Nat) (hb : ∀ x ∈ l, x < B32) (hl : l.length ≤ cap30) {ys : List SV} (hy : SubL ys [.words l]) : Holds Tryd.prog F 135 ys (.ok (.n32 (val B32 l))) :=
  holds_run mixed tb_ok (env0_ok F) Tryd.func135 rfl (by kernel_rfl) (args := [.words l])
    (of_wp l hb hl _ fun _ h => h) hy
def ofSpec : List SV → Option (Prop × Res)
  | [x] => match x.list with
    | some l => some ((∀ y ∈ l, y < B32) ∧ l.length ≤ cap30, .ok (.n32 (val B32 l)))
    | none => none
  | _ => none
def ofC (F : TypeId) : Con Tryd.prog F where
  f := 135
  spec := ofSpec
  ent := enters_of Tryd.func135 (by kernel_rfl) rfl
  ok := fun xs pre r h hp => by
    match xs, h with
    | [x], h =>
      simp only [ofSpec] at h
      split at h
      · rename_i l hl
        simp only [Option.some.injEq, Prod.mk.injEq] at h
        obtain ⟨rfl, rfl⟩ := h
        exact of_holds F l hp.1 hp.2 (SubL.cons (Sub.words hl) SubL.nil)
      · cases h

/-! ### Cmp -/
theorem val_lt_of_len {B : Nat} (hB : 1 < B) {l m : List Nat} (hl : ∀ x ∈ l, x < B) (hm : canon m) (h : l.length < m.length) : val B l < val B m := by
  have h1 := val_lt hB hl
  have h2 := val_ge hB (l := m) (by intro e; subst e; simp at h) hm
  have h3 : B ^ l.length ≤ B ^ (m.length - 1) := Nat.pow_le_pow_right (by omega) (by omega)
  omega
theorem val_lt_of_digit {B : Nat} (hB : 1 < B) {l m : List Nat} (hl : ∀ x ∈ l, x < B) (hlen : l.length = m.length) {j : Nat} (hj : j < l.length) (hd : l.drop (j + 1) = m.drop (j + 1)) (h : l.getD j 0 < m.getD j 0) : val B l < val B m := by
  rw [val_take_drop B l j (by omega), val_take_drop B m j (by omega)]
  have e1 : l.drop j = l.getD j 0 :: l.drop (j + 1) := by
    rw [List.drop_eq_getElem_cons (by omega)]; simp [List.getD_eq_getElem?_getD, hj]
  have e2 : m.drop j = m.getD j 0 :: m.drop (j + 1) := by
    rw [List.drop_eq_getElem_cons (by omega)]; simp [List.getD_eq_getElem?_getD, show j < m.length by omega]
  rw [e1, e2, val, val, ← hd]
  have h1 := val_lt hB (l := l.take j) fun x hx => hl x (List.mem_of_mem_take hx)
  rw [List.length_take, Nat.min_eq_left (by omega)] at h1
  have h2 : B ^ j * (l.getD j 0 + B * val B (l.drop (j + 1)) + 1) ≤ B ^ j * (m.getD j 0 + B * val B (l.drop (j + 1))) := Nat.mul_le_mul_left _ (by omega)
  rw [Nat.mul_add (B ^ j) _ 1] at h2
  omega
theorem wcmp_wp {B : Nat} (hB : 1 < B) (l m : List Nat) (hl : ∀ x ∈ l, x < B) (hm : ∀ x ∈ m, x < B) (hcl : canon l) (hcm : canon m) (h1 : l.length ≤ cap30) (h2 : m.length ≤ cap30) (K : Except Int SV → Prop) (hK : ∀ r, SubE r (.ok (.int .i64 (cmpI (val B l) (val B m)))) → K r) : wpF tb env0 (wpDraw tb env0) Tryd.f126 [.words l, .words m] K := by
  have h30 := c30
  refine ifB_mk (fun h => ?_) (fun h => ?_)
  · have hne : l.length ≠ m.length := by intro e; simp [e] at h
    refine ifB_mk (fun h3 => ?_) (fun h3 => ?_)
    · have : l.length < m.length := by simpa using h3
      have := val_lt_of_len hB hl hcm this
      show K _
      refine hK _ ?_
      rw [show cmpI (val B l) (val B m) = -1 by simp [cmpI, this]]
      exact ⟨rfl, Sub.refl _⟩
    · have : m.length < l.length := by simp at h3; omega
      have := val_lt_of_len hB hm hcl this
      show K _
      refine hK _ ?_
      rw [show cmpI (val B l) (val B m) = 1 by simp [cmpI, this, Nat.lt_asymm this]]
      exact ⟨rfl, Sub.refl _⟩
  · have hlen : l.length = m.length := by simp at h; omega
    refine And.intro (by (try dsimp only); omega) ?_
    show ∃ n, wpLoop _ n _ _
    refine loop_rule (fun n st => ∃ (i : Int), (n : Int) = i + 1 ∧ i < l.length ∧ l.drop (i + 1).toNat = m.drop (i + 1).toNat ∧ ∃ x, st = ⟨pat x 0 [some (.words l), some (.words m), none, none, some (.int .i64 0), some (.int .i64 i), none, none, none, none, none, none, none, none, none, none, none, none, none, none, none, none, none, none, none, none, none, none, none, none, none, none, none, none, none, none, none, none, none, none, none], []⟩) ?step (n := l.length) ?init
    case init => exact ⟨_, by (try dsimp only); omega, by (try dsimp only); omega, by dsimp only; rw [List.drop_eq_nil_of_le (by omega), List.drop_eq_nil_of_le (by omega)], (fits (.s rfl (.s rfl (.n (.n (.s rfl (.s rfl (.n (.n (.n (.n (.n (.n (.n (.n (.n (.n (.n (.n (.n (.n (.n (.n (.n (.n (.n (.n (.n (.n (.n (.n (.n (.n (.n (.n (.n (.n (.n (.n (.n (.n (.n .nil))))))))))))))))))))))))))))))))))))))))))⟩
    case step =>
      rintro n st K' hK1 hK2 ⟨i, hn, hi, hd, x, rfl⟩
      refine ifB_mk (fun h => ?_) (fun h => ?_)
      · have hi0 : 0 ≤ i := by simpa using h
        have e1 : (i + 1).toNat = i.toNat + 1 := by omega
        rw [e1] at hd
        refine And.intro (by kernel_rfl) (Or.inl ?_)
        refine And.intro (by (try dsimp only); omega) ?_
        refine And.intro (by (try dsimp only); omega) ?_
        refine ifB_mk (fun h3 => ?_) (fun h3 => ?_)
        · refine hK2 _ _ (by simp) ?_
          show K _
          refine hK _ ?_
          have := val_lt_of_digit hB hl hlen (j := i.toNat) (by omega) hd (by simpa using h3)
          rw [show cmpI (val B l) (val B m) = -1 by simp [cmpI, this]]
          exact ⟨rfl, Sub.refl _⟩
        · refine And.intro (by kernel_rfl) (Or.inl ?_)
          refine And.intro (by (try dsimp only); omega) ?_
          refine And.intro (by (try dsimp only); omega) ?_
          refine ifB_mk (fun h4 => ?_) (fun h4 => ?_)
          · refine hK2 _ _ (by simp) ?_
            show K _
            refine hK _ ?_
            have := val_lt_of_digit hB hm hlen.symm (j := i.toNat) (by omega) hd.symm (by simpa using h4)
            rw [show cmpI (val B l) (val B m) = 1 by simp [cmpI, this, Nat.lt_asymm this]]
            exact ⟨rfl, Sub.refl _⟩
          · refine And.intro (by (try dsimp only); omega) ?_
            refine hK1 i.toNat _ (by omega) ⟨_, ?_, ?_, ?_, (fits (.s rfl (.s rfl (.n (.n (.s rfl (.s rfl (.n (.n (.n (.n (.n (.n (.n (.n (.n (.n (.n (.n (.n (.n (.n (.n (.n (.n (.n (.n (.n (.n (.n (.n (.n (.n (.n (.n (.n (.n (.n (.n (.n (.n (.n .nil))))))))))))))))))))))))))))))))))))))))))⟩
            · (try dsimp only); omega
            · (try dsimp only); omega
            · simp only [Int.sub_add_cancel]
              rw [List.drop_eq_getElem_cons (show i.toNat < l.length by omega), List.drop_eq_getElem_cons (show i.toNat < m.length by omega), hd]
              congr 1
              simp [List.getD_eq_getElem?_getD, show i.toNat < l.length by omega, show i.toNat < m.length by omega] at h3 h4
              omega
      · refine hK2 _ _ (by simp) ?_
        show K _
        refine hK _ ?_
        have : i + 1 = 0 := by simp at h; omega
        rw [this] at hd
        simp at hd
        subst hd
        rw [show cmpI (val B l) (val B l) = 0 by simp [cmpI]]
        exact ⟨rfl, Sub.refl _⟩
theorem rcmp_wp {B : Nat} (hB : 1 < B) (l m : List Nat) (hl : ∀ x ∈ l, x < B) (hm : ∀ x ∈ m, x < B) (hcl : canon l) (hcm : canon m) (h1 : l.length ≤ cap30) (h2 : m.length ≤ cap30) (K : Except Int SV → Prop) (hK : ∀ r, SubE r (.ok (.int .i64 (cmpI (val B l) (val B m)))) → K r) : wpF tb env0 (wpDraw tb env0) Tryd.f142 [.words l, .words m] K := by
  have h30 := c30
  refine ifB_mk (fun h => ?_) (fun h => ?_)
  · have hne : l.length ≠ m.length := by intro e; simp [e] at h
    refine ifB_mk (fun h3 => ?_) (fun h3 => ?_)
    · have : l.length < m.length := by simpa using h3
      have := val_lt_of_len hB hl hcm this
      show K _
      refine hK _ ?_
      rw [show cmpI (val B l) (val B m) = -1 by simp [cmpI, this]]
      exact ⟨rfl, Sub.refl _⟩
    · have : m.length < l.length := by simp at h3; omega
      have := val_lt_of_len hB hm hcl this
      show K _
      refine hK _ ?_
      rw [show cmpI (val B l) (val B m) = 1 by simp [cmpI, this, Nat.lt_asymm this]]
      exact ⟨rfl, Sub.refl _⟩
  · have hlen : l.length = m.length := by simp at h; omega
    refine And.intro (by (try dsimp only); omega) ?_
    show ∃ n, wpLoop _ n _ _
    refine loop_rule (fun n st => ∃ (i : Int), (n : Int) = i + 1 ∧ i < l.length ∧ l.drop (i + 1).toNat = m.drop (i + 1).toNat ∧ ∃ x, st = ⟨pat x 0 [some (.words l), some (.words m), none, none, some (.int .i64 0), some (.int .i64 i), none, none, none, none, none, none, none, none, none, none, none, none, none, none, none, none, none, none, none, none, none, none, none, none, none, none, none, none, none, none, none, none, none, none, none], []⟩) ?step (n := l.length) ?init
    case init => exact ⟨_, by (try dsimp only); omega, by (try dsimp only); omega, by dsimp only; rw [List.drop_eq_nil_of_le (by omega), List.drop_eq_nil_of_le (by omega)], (fits (.s rfl (.s rfl (.n (.n (.s rfl (.s rfl (.n (.n (.n (.n (.n (.n (.n (.n (.n (.n (.n (.n (.n (.n (.n (.n (.n (.n (.n (.n (.n (.n (.n (.n (.n (.n (.n (.n (.n (.n (.n (.n (.n (.n (.n .nil))))))))))))))))))))))))))))))))))))))))))⟩
    case step =>
      rintro n st K' hK1 hK2 ⟨i, hn, hi, hd, x, rfl⟩
      refine ifB_mk (fun h => ?_) (fun h => ?_)
      · have hi0 : 0 ≤ i := by simpa using h
        have e1 : (i + 1).toNat = i.toNat + 1 := by omega
        rw [e1] at hd
        refine And.intro (by kernel_rfl) (Or.inl ?_)
        refine And.intro (by (try dsimp only); omega) ?_
        refine And.intro (by (try dsimp only); omega) ?_
        refine ifB_mk (fun h3 => ?_) (fun h3 => ?_)
        · refine hK2 _ _ (by simp) ?_
          show K _
          refine hK _ ?_
          have := val_lt_of_digit hB hl hlen (j := i.toNat) (by omega) hd (by simpa using h3)
          rw [show cmpI (val B l) (val B m) = -1 by simp [cmpI, this]]
          exact ⟨rfl, Sub.refl _⟩
        · refine And.intro (by kernel_rfl) (Or.inl ?_)
          refine And.intro (by (try dsimp only); omega) ?_
          refine And.intro (by (try dsimp only); omega) ?_
          refine ifB_mk (fun h4 => ?_) (fun h4 => ?_)
          · refine hK2 _ _ (by simp) ?_
            show K _
            refine hK _ ?_
            have := val_lt_of_digit hB hm hlen.symm (j := i.toNat) (by omega) hd.symm (by simpa using h4)
            rw [show cmpI (val B l) (val B m) = 1 by simp [cmpI, this, Nat.lt_asymm this]]
            exact ⟨rfl, Sub.refl _⟩
          · refine And.intro (by (try dsimp only); omega) ?_
            refine hK1 i.toNat _ (by omega) ⟨_, ?_, ?_, ?_, (fits (.s rfl (.s rfl (.n (.n (.s rfl (.s rfl (.n (.n (.n (.n (.n (.n (.n (.n (.n (.n (.n (.n (.n (.n (.n (.n (.n (.n (.n (.n (.n (.n (.n (.n (.n (.n (.n (.n (.n (.n (.n (.n (.n (.n (.n .nil))))))))))))))))))))))))))))))))))))))))))⟩
            · (try dsimp only); omega
            · (try dsimp only); omega
            · simp only [Int.sub_add_cancel]
              rw [List.drop_eq_getElem_cons (show i.toNat < l.length by omega), List.drop_eq_getElem_cons (show i.toNat < m.length by omega), hd]
              congr 1
              simp [List.getD_eq_getElem?_getD, show i.toNat < l.length by omega, show i.toNat < m.length by omega] at h3 h4
              omega
      · refine hK2 _ _ (by simp) ?_
        show K _
        refine hK _ ?_
        have : i + 1 = 0 := by simp at h; omega
        rw [this] at hd
        simp at hd
        subst hd
        rw [show cmpI (val B l) (val B l) = 0 by simp [cmpI]]
        exact ⟨rfl, Sub.refl _⟩
end Iv
end Go.Proofs.YtfajgibpidlojaaDoor
end

section
/- Contracts of the words' functions, part C: Small, Add, Sub. Conditions: the lists are no longer than cap30. -/
set_option linter.unusedVariables false
set_option linter.unusedSimpArgs false
set_option maxHeartbeats 1000000
set_option maxRecDepth 4000
namespace Go.Proofs.YtfajgibpidlojaaDoor
namespace Iv
open Go Go.Proofs

theorem val_take_succ (B : Nat) : ∀ (l : List Nat) (k : Nat), val B (l.take (k + 1)) = val B (l.take k) + B ^ k * l.getD k 0
  | [], k => by simp [val]
  | x :: l, 0 => by simp [val]
  | x :: l, k + 1 => by
    simp only [List.take_succ_cons, val, val_take_succ B l k, Nat.mul_add, Nat.pow_succ]
    rw [show (x :: l).getD (k + 1) 0 = l.getD k 0 by simp, Nat.mul_comm (B ^ k) B, Nat.mul_assoc]
    omega
theorem take_set_succ (r : List Nat) (k d : Nat) (hk : k < r.length) : (r.set k d).take (k + 1) = r.take k ++ [d] := by
  rw [List.take_succ_eq_append_getElem (by simpa using hk), List.take_set_of_le (by omega)]
  simp
theorem val_set_succ (B : Nat) (r : List Nat) (k d : Nat) (hk : k < r.length) : val B ((r.set k d).take (k + 1)) = val B (r.take k) + B ^ k * d := by
  rw [take_set_succ r k d hk, val_append]
  simp [val, Nat.min_eq_left (Nat.le_of_lt hk)]
theorem getD_lt {B : Nat} (hB : 0 < B) {l : List Nat} (h : ∀ x ∈ l, x < B) (k : Nat) : l.getD k 0 < B := by
  by_cases hk : k < l.length
  · simp only [List.getD_eq_getElem?_getD, List.getElem?_eq_getElem hk, Option.getD_some]; exact h _ (List.getElem_mem hk)
  · simp [List.getD_eq_getElem?_getD, hk]; exact hB
theorem set_lt {B : Nat} {r : List Nat} (h : ∀ x ∈ r, x < B) {k d : Nat} (hd : d < B) : ∀ x ∈ r.set k d, x < B := by
  intro x hx
  rcases List.mem_or_eq_of_mem_set hx with hx | rfl
  · exact h x hx
  · exact hd
noncomputable def envOfC (F : TypeId) : Env := envOf [ofC F]
theorem envOfC_ok (F : TypeId) : EnvOK Tryd.prog F tb (envOfC F) := envOf_ok _

theorem wadd_wp (F : TypeId) (l m : List Nat) (hl : ∀ x ∈ l, x < B32) (hm : ∀ x ∈ m, x < B32) (h1 : l.length + 1 ≤ cap30) (h2 : m.length + 1 ≤ cap30) (K : Except Int SV → Prop) (hK : ∀ r, SubE r (.ok (.n32 (val B32 l + val B32 m))) → K r) :
    wpF tb (envOfC F) (wpDraw tb (envOfC F)) Tryd.f125 [.words l, .words m] K := by
  have h30 := c30
  refine ifB_mk (fun h => ?_) (fun h => ?_)
  · have hlm : l.length < m.length := by simp at h; omega
    refine And.intro (by (try dsimp only); omega) ?_
    refine And.intro (by (try dsimp only); omega) ?_
    show ∃ n, wpLoop _ n _ _
    refine loop_rule (fun n st => ∃ (i c : Int) (r : List Nat), (n : Int) = m.length - i ∧ 0 ≤ i ∧ 0 ≤ c ∧ c ≤ 1 ∧ r.length = m.length + 1 ∧ (∀ x ∈ r, x < B32) ∧ val B32 (r.take i.toNat) + B32 ^ i.toNat * c.toNat = val B32 (m.take i.toNat) + val B32 (l.take i.toNat) ∧ ∃ x, st = ⟨pat x 0 [some (.words m), some (.words l), none, none, some (.nil), some (.row 0), some (.int .u64 c), none, none, none, none, none, none, none, none, none, none, none, none, none, none, some (.words m), some (.int .i64 (List.length m : Nat)), some (.int .i64 i), none, none, none, none, none, none, none, none, none, none, none, none, none, none, none, none, none, none, none, none, none, none, none, none, none, none, none, none, none, none, none, none, none, none, none], [.row r]⟩) ?step (n := m.length) ?init
    case init => exact ⟨_, _, _, by (try dsimp only); omega, by omega, by omega, by omega, by simp, by simp, by simp [val], (fits (.s rfl (.s rfl (.n (.n (.s rfl (.s rfl (.s rfl (.n (.n (.n (.n (.n (.n (.n (.n (.n (.n (.n (.n (.n (.n (.s rfl (.s rfl (.s rfl (.n (.n (.n (.n (.n (.n (.n (.n (.n (.n (.n (.n (.n (.n (.n (.n (.n (.n (.n (.n (.n (.n (.n (.n (.n (.n (.n (.n (.n (.n (.n (.n (.n (.n (.n .nil))))))))))))))))))))))))))))))))))))))))))))))))))))))))))))⟩
    case step =>
      rintro n st K' hK1 hK2 ⟨i, c, r, hn, hi, hc0, hc1, hr, hrb, hv, x, rfl⟩
      have hl1 : _ < 4294967296 := getD_lt (B := B32) (by decide) hm i.toNat
      have hm1 : _ < 4294967296 := getD_lt (B := B32) (by decide) hl i.toNat
      have e1 : (i + 1).toNat = i.toNat + 1 := by omega
      -- one digit
      have step : ∀ d c' : Int, i < m.length → 0 ≤ d → 0 ≤ c' → d + 4294967296 * c' = (m.getD i.toNat 0 : Nat) + c + (l.getD i.toNat 0 : Nat) → val B32 ((r.set i.toNat d.toNat).take (i + 1).toNat) + B32 ^ (i + 1).toNat * c'.toNat = val B32 (m.take (i + 1).toNat) + val B32 (l.take (i + 1).toNat) := by
        intro d c' hil hd0 hc0' hd
        rw [e1, val_set_succ _ _ _ _ (by omega), val_take_succ, val_take_succ, Nat.pow_succ, Nat.mul_assoc]
        have h5 : d.toNat + B32 * c'.toNat = m.getD i.toNat 0 + c.toNat + l.getD i.toNat 0 := by
          simp only [B32]; omega
        have h6 := congrArg (B32 ^ i.toNat * ·) h5
        simp only [Nat.mul_add] at h6
        omega
      refine ifB_mk (fun h => ?_) (fun h => ?_)
      · simp only [decide_eq_true_eq] at h
        refine And.intro (by (try dsimp only); omega) ?_
        refine ifB_mk (fun h3 => ?_) (fun h3 => ?_)
        · simp only [decide_eq_true_eq] at h3
          refine And.intro (by (try dsimp only); omega) ?_
          refine And.intro (by (try dsimp only); omega) ?_
          refine And.intro ⟨by omega, rfl, by omega, by omega⟩ ?_
          refine And.intro (by omega) ?_
          refine And.intro (by (try dsimp only); omega) ?_
          refine hK1 (n - 1) _ (by omega) ⟨_, _, _, ?_, ?_, ?_, ?_, ?_, ?_, ?_, (fits (.s rfl (.s rfl (.n (.n (.s rfl (.s rfl (.s rfl (.n (.n (.n (.n (.n (.n (.n (.n (.n (.n (.n (.n (.n (.n (.s rfl (.s rfl (.s rfl (.n (.n (.n (.n (.n (.n (.n (.n (.n (.n (.n (.n (.n (.n (.n (.n (.n (.n (.n (.n (.n (.n (.n (.n (.n (.n (.n (.n (.n (.n (.n (.n (.n (.n (.n .nil))))))))))))))))))))))))))))))))))))))))))))))))))))))))))))⟩
          · omega
          · omega
          · exact Int.fdiv_nonneg (by omega) (by decide)
          · rw [Int.fdiv_eq_ediv_of_nonneg _ (by decide)]; show _ / (4294967296 : Int) ≤ 1; omega
          · simpa using hr
          · exact set_lt hrb (by simp only [B32]; omega)
          · refine step _ _ (by omega) (by omega) (Int.fdiv_nonneg (by omega) (by decide)) ?_
            rw [Int.fdiv_eq_ediv_of_nonneg _ (by decide)]
            show _ + 4294967296 * (_ / (4294967296 : Int)) = _
            omega
        · simp only [decide_eq_false_iff_not] at h3
          have hm0 : l.getD i.toNat 0 = 0 := by
            simp [List.getD_eq_getElem?_getD, show l.length ≤ i.toNat by (try dsimp only at h3); omega]
          refine And.intro (by (try dsimp only); omega) ?_
          refine And.intro ⟨by omega, rfl, by omega, by omega⟩ ?_
          refine And.intro (by omega) ?_
          refine And.intro (by (try dsimp only); omega) ?_
          refine hK1 (n - 1) _ (by omega) ⟨_, _, _, ?_, ?_, ?_, ?_, ?_, ?_, ?_, (fits (.s rfl (.s rfl (.n (.n (.s rfl (.s rfl (.s rfl (.n (.n (.n (.n (.n (.n (.n (.n (.n (.n (.n (.n (.n (.n (.s rfl (.s rfl (.s rfl (.n (.n (.n (.n (.n (.n (.n (.n (.n (.n (.n (.n (.n (.n (.n (.n (.n (.n (.n (.n (.n (.n (.n (.n (.n (.n (.n (.n (.n (.n (.n (.n (.n (.n (.n .nil))))))))))))))))))))))))))))))))))))))))))))))))))))))))))))⟩
          · omega
          · omega
          · exact Int.fdiv_nonneg (by omega) (by decide)
          · rw [Int.fdiv_eq_ediv_of_nonneg _ (by decide)]; show _ / (4294967296 : Int) ≤ 1; omega
          · simpa using hr
          · exact set_lt hrb (by simp only [B32]; omega)
          · refine step _ _ (by omega) (by omega) (Int.fdiv_nonneg (by omega) (by decide)) ?_
            rw [Int.fdiv_eq_ediv_of_nonneg _ (by decide), hm0]
            show _ + 4294967296 * (_ / (4294967296 : Int)) = _
            omega
      · simp only [decide_eq_false_iff_not] at h
        have hil : i = m.length := by (try dsimp only at h); omega
        have hil' : i.toNat = m.length := by omega
        refine hK2 _ _ (by simp) ?_
        refine And.intro (by (try dsimp only); omega) ?_
        refine And.intro ⟨by (try dsimp only); omega, rfl, by omega, by omega⟩ ?_
        refine And.intro ⟨set_lt hrb (by simp only [B32]; omega), by simp; omega⟩ ?_
        show K _
        refine hK _ ⟨rfl, ?_⟩
        have hfin : val B32 (r.set ((List.length m : Nat) : Int).toNat (c % 4294967296).toNat) = val B32 m + val B32 l := by
          have e3 : ((List.length m : Nat) : Int).toNat = m.length := by omega
          have e4 : (c % 4294967296).toNat = c.toNat := by omega
          rw [e3, e4]
          have := val_set_succ B32 r m.length c.toNat (by omega)
          rw [List.take_of_length_le (by simp; omega)] at this
          rw [hil', List.take_of_length_le (Nat.le_refl _), List.take_of_length_le (show l.length ≤ m.length by omega)] at hv
          omega
        have hgoal : Sub (.n32 (val B32 (r.set ((List.length m : Nat) : Int).toNat (c % 4294967296).toNat))) (.n32 (val B32 l + val B32 m)) := by
          rw [hfin]; rw [Nat.add_comm]; exact Sub.refl _
        exact hgoal
  · have hlm : m.length ≤ l.length := by simp at h; omega
    refine And.intro (by (try dsimp only); omega) ?_
    refine And.intro (by (try dsimp only); omega) ?_
    show ∃ n, wpLoop _ n _ _
    refine loop_rule (fun n st => ∃ (i c : Int) (r : List Nat), (n : Int) = l.length - i ∧ 0 ≤ i ∧ 0 ≤ c ∧ c ≤ 1 ∧ r.length = l.length + 1 ∧ (∀ x ∈ r, x < B32) ∧ val B32 (r.take i.toNat) + B32 ^ i.toNat * c.toNat = val B32 (l.take i.toNat) + val B32 (m.take i.toNat) ∧ ∃ x, st = ⟨pat x 0 [some (.words l), some (.words m), none, none, some (.nil), some (.row 0), some (.int .u64 c), none, none, none, none, none, none, none, none, none, none, none, none, none, none, some (.words l), some (.int .i64 (List.length l : Nat)), some (.int .i64 i), none, none, none, none, none, none, none, none, none, none, none, none, none, none, none, none, none, none, none, none, none, none, none, none, none, none, none, none, none, none, none, none, none, none, none], [.row r]⟩) ?step (n := l.length) ?init
    case init => exact ⟨_, _, _, by (try dsimp only); omega, by omega, by omega, by omega, by simp, by simp, by simp [val], (fits (.s rfl (.s rfl (.n (.n (.s rfl (.s rfl (.s rfl (.n (.n (.n (.n (.n (.n (.n (.n (.n (.n (.n (.n (.n (.n (.s rfl (.s rfl (.s rfl (.n (.n (.n (.n (.n (.n (.n (.n (.n (.n (.n (.n (.n (.n (.n (.n (.n (.n (.n (.n (.n (.n (.n (.n (.n (.n (.n (.n (.n (.n (.n (.n (.n (.n (.n .nil))))))))))))))))))))))))))))))))))))))))))))))))))))))))))))⟩
    case step =>
      rintro n st K' hK1 hK2 ⟨i, c, r, hn, hi, hc0, hc1, hr, hrb, hv, x, rfl⟩
      have hl1 : _ < 4294967296 := getD_lt (B := B32) (by decide) hl i.toNat
      have hm1 : _ < 4294967296 := getD_lt (B := B32) (by decide) hm i.toNat
      have e1 : (i + 1).toNat = i.toNat + 1 := by omega
      -- one digit
      have step : ∀ d c' : Int, i < l.length → 0 ≤ d → 0 ≤ c' → d + 4294967296 * c' = (l.getD i.toNat 0 : Nat) + c + (m.getD i.toNat 0 : Nat) → val B32 ((r.set i.toNat d.toNat).take (i + 1).toNat) + B32 ^ (i + 1).toNat * c'.toNat = val B32 (l.take (i + 1).toNat) + val B32 (m.take (i + 1).toNat) := by
        intro d c' hil hd0 hc0' hd
        rw [e1, val_set_succ _ _ _ _ (by omega), val_take_succ, val_take_succ, Nat.pow_succ, Nat.mul_assoc]
        have h5 : d.toNat + B32 * c'.toNat = l.getD i.toNat 0 + c.toNat + m.getD i.toNat 0 := by
          simp only [B32]; omega
        have h6 := congrArg (B32 ^ i.toNat * ·) h5
        simp only [Nat.mul_add] at h6
        omega
      refine ifB_mk (fun h => ?_) (fun h => ?_)
      · simp only [decide_eq_true_eq] at h
        refine And.intro (by (try dsimp only); omega) ?_
        refine ifB_mk (fun h3 => ?_) (fun h3 => ?_)
        · simp only [decide_eq_true_eq] at h3
          refine And.intro (by (try dsimp only); omega) ?_
          refine And.intro (by (try dsimp only); omega) ?_
          refine And.intro ⟨by omega, rfl, by omega, by omega⟩ ?_
          refine And.intro (by omega) ?_
          refine And.intro (by (try dsimp only); omega) ?_
          refine hK1 (n - 1) _ (by omega) ⟨_, _, _, ?_, ?_, ?_, ?_, ?_, ?_, ?_, (fits (.s rfl (.s rfl (.n (.n (.s rfl (.s rfl (.s rfl (.n (.n (.n (.n (.n (.n (.n (.n (.n (.n (.n (.n (.n (.n (.s rfl (.s rfl (.s rfl (.n (.n (.n (.n (.n (.n (.n (.n (.n (.n (.n (.n (.n (.n (.n (.n (.n (.n (.n (.n (.n (.n (.n (.n (.n (.n (.n (.n (.n (.n (.n (.n (.n (.n (.n .nil))))))))))))))))))))))))))))))))))))))))))))))))))))))))))))⟩
          · omega
          · omega
          · exact Int.fdiv_nonneg (by omega) (by decide)
          · rw [Int.fdiv_eq_ediv_of_nonneg _ (by decide)]; show _ / (4294967296 : Int) ≤ 1; omega
          · simpa using hr
          · exact set_lt hrb (by simp only [B32]; omega)
          · refine step _ _ (by omega) (by omega) (Int.fdiv_nonneg (by omega) (by decide)) ?_
            rw [Int.fdiv_eq_ediv_of_nonneg _ (by decide)]
            show _ + 4294967296 * (_ / (4294967296 : Int)) = _
            omega
        · simp only [decide_eq_false_iff_not] at h3
          have hm0 : m.getD i.toNat 0 = 0 := by
            simp [List.getD_eq_getElem?_getD, show m.length ≤ i.toNat by (try dsimp only at h3); omega]
          refine And.intro (by (try dsimp only); omega) ?_
          refine And.intro ⟨by omega, rfl, by omega, by omega⟩ ?_
          refine And.intro (by omega) ?_
          refine And.intro (by (try dsimp only); omega) ?_
          refine hK1 (n - 1) _ (by omega) ⟨_, _, _, ?_, ?_, ?_, ?_, ?_, ?_, ?_, (fits (.s rfl (.s rfl (.n (.n (.s rfl (.s rfl (.s rfl (.n (.n (.n (.n (.n (.n (.n (.n (.n (.n (.n (.n (.n (.n (.s rfl (.s rfl (.s rfl (.n (.n (.n (.n (.n (.n (.n (.n (.n (.n (.n (.n (.n (.n (.n (.n (.n (.n (.n (.n (.n (.n (.n (.n (.n (.n (.n (.n (.n (.n (.n (.n (.n (.n (.n .nil))))))))))))))))))))))))))))))))))))))))))))))))))))))))))))⟩
          · omega
          · omega
          · exact Int.fdiv_nonneg (by omega) (by decide)
          · rw [Int.fdiv_eq_ediv_of_nonneg _ (by decide)]; show _ / (4294967296 : Int) ≤ 1; omega
          · simpa using hr
          · exact set_lt hrb (by simp only [B32]; omega)
          · refine step _ _ (by omega) (by omega) (Int.fdiv_nonneg (by omega) (by decide)) ?_
            rw [Int.fdiv_eq_ediv_of_nonneg _ (by decide), hm0]
            show _ + 4294967296 * (_ / (4294967296 : Int)) = _
            omega
      · simp only [decide_eq_false_iff_not] at h
        have hil : i = l.length := by (try dsimp only at h); omega
        have hil' : i.toNat = l.length := by omega
        refine hK2 _ _ (by simp) ?_
        refine And.intro (by (try dsimp only); omega) ?_
        refine And.intro ⟨by (try dsimp only); omega, rfl, by omega, by omega⟩ ?_
        refine And.intro ⟨set_lt hrb (by simp only [B32]; omega), by simp; omega⟩ ?_
        show K _
        refine hK _ ⟨rfl, ?_⟩
        have hfin : val B32 (r.set ((List.length l : Nat) : Int).toNat (c % 4294967296).toNat) = val B32 l + val B32 m := by
          have e3 : ((List.length l : Nat) : Int).toNat = l.length := by omega
          have e4 : (c % 4294967296).toNat = c.toNat := by omega
          rw [e3, e4]
          have := val_set_succ B32 r l.length c.toNat (by omega)
          rw [List.take_of_length_le (by simp; omega)] at this
          rw [hil', List.take_of_length_le (Nat.le_refl _), List.take_of_length_le (show m.length ≤ l.length by omega)] at hv
          omega
        have hgoal : Sub (.n32 (val B32 (r.set ((List.length l : Nat) : Int).toNat (c % 4294967296).toNat))) (.n32 (val B32 l + val B32 m)) := by
          rw [hfin]; exact Sub.refl _
        exact hgoal
end Iv
end Go.Proofs.YtfajgibpidlojaaDoor
end

section
/- Contracts of the words' functions, part E: Small, DivSmall. Conditions: the lists are no longer than cap30; the divisor is not 0. -/
set_option linter.unusedVariables false
set_option linter.unusedSimpArgs false
set_option maxHeartbeats 1000000
set_option maxRecDepth 4000
namespace Go.Proofs.YtfajgibpidlojaaDoor
namespace Iv
open Go Go.Proofs

theorem or_add {x y : Int} (hx : 0 ≤ x) (hx2 : x < 4294967296) (hy : 0 ≤ y) (hy2 : y < 4294967296) :
    IntKind.u64.wrap (((BitVec.ofInt 64 (x * 4294967296 % 18446744073709551616) ||| BitVec.ofInt 64 (y % 18446744073709551616)).toNat : Nat) : Int) = x * 4294967296 + y := by
  obtain ⟨a, rfl⟩ := Int.eq_ofNat_of_zero_le hx
  obtain ⟨b, rfl⟩ := Int.eq_ofNat_of_zero_le hy
  have h1 : ((a : Int) * 4294967296 % 18446744073709551616) = ((a * 4294967296 : Nat) : Int) := by omega
  have h2 : ((b : Int) % 18446744073709551616) = ((b : Nat) : Int) := by omega
  rw [h1, h2, BitVec.toNat_or, BitVec.ofInt_natCast, BitVec.ofInt_natCast, BitVec.toNat_ofNat, BitVec.toNat_ofNat, Nat.mod_eq_of_lt (by omega), Nat.mod_eq_of_lt (by omega)]
  have h3 : a * 4294967296 ||| b = a * 4294967296 + b := by
    have := Nat.shiftLeft_add_eq_or_of_lt (i := 32) (b := b) (by omega) a
    rw [Nat.shiftLeft_eq] at this
    exact this.symm
  rw [h3, IntKind.wrap_u64]
  omega
theorem val_drop (B : Nat) (l : List Nat) (k : Nat) (hk : k < l.length) : val B (l.drop k) = l.getD k 0 + B * val B (l.drop (k + 1)) := by
  rw [List.drop_eq_getElem_cons hk, val]
  simp [List.getD_eq_getElem?_getD, hk]
theorem drop_set (r : List Nat) (k d : Nat) (hk : k < r.length) : (r.set k d).drop k = d :: r.drop (k + 1) := by
  rw [List.drop_eq_getElem_cons (by simpa using hk)]
  simp [List.drop_set]

theorem small_wp (F : TypeId) (n : Int) (h0 : 0 ≤ n) (h1 : n < 18446744073709551616) (K : Except Int SV → Prop) (hK : ∀ r, SubE r (.ok (.n32 n.toNat)) → K r) :
    wpF tb (envOfC F) (wpDraw tb (envOfC F)) Tryd.f123 [.int .u64 n] K := by
  have h30 := c30
  refine And.intro (by omega) ?_
  refine And.intro (by omega) ?_
  refine And.intro ⟨by simp; omega, by simp; omega⟩ ?_
  show K _
  refine hK _ ⟨rfl, ?_⟩
  have hgoal : Sub (.n32 (val B32 [(n % 4294967296).toNat, (n.fdiv 4294967296 % 4294967296).toNat])) (.n32 n.toNat) := by
    have : val B32 [(n % 4294967296).toNat, (n.fdiv 4294967296 % 4294967296).toNat] = n.toNat := by
      rw [Int.fdiv_eq_ediv_of_nonneg _ (by decide)]
      simp only [val, B32]
      omega
    rw [this]; exact Sub.refl _
  exact hgoal

theorem divsmall_wp (F : TypeId) (l : List Nat) (d : Int) (hl : ∀ x ∈ l, x < B32) (h1 : l.length ≤ cap30) (hd0 : 0 < d) (hd1 : d < 4294967296) (K : Except Int SV → Prop) (hK : ∀ r, SubE r (.ok (.tup [.n32 (val B32 l / d.toNat), .int .u32 (val B32 l % d.toNat : Nat)])) → K r) :
    wpF tb (envOfC F) (wpDraw tb (envOfC F)) Tryd.f156 [.words l, .int .u32 d] K := by
  have h30 := c30
  refine And.intro (by (try dsimp only); omega) ?_
  refine And.intro (by (try dsimp only); omega) ?_
  show ∃ n, wpLoop _ n _ _
  refine loop_rule (fun n st => ∃ (i c : Int) (r : List Nat), (n : Int) = i + 1 ∧ i < l.length ∧ 0 ≤ c ∧ c < d ∧ r.length = l.length ∧ (∀ x ∈ r, x < B32) ∧ val B32 (l.drop (i + 1).toNat) = d.toNat * val B32 (r.drop (i + 1).toNat) + c.toNat ∧ ∃ x, st = ⟨pat x 0 [some (.words l), some (.int .u32 d), none, none, some (.nil), some (.int .u32 0), some (.row 0), some (.int .u64 c), some (.int .i64 i), none, none, none, none, none, none, none, none, none, none, none, none, none, none, none, none, none, none, none, none, none, none, none, none, none, none, none, none, none, none, none, none, none, none, none], [.row r]⟩) ?step (n := l.length) ?init
  case init => exact ⟨_, _, _, by (try dsimp only); omega, by (try dsimp only); omega, by omega, by omega, by simp, by simp, by (try dsimp only); rw [List.drop_eq_nil_of_le (by omega), List.drop_eq_nil_of_le (by simp)]; simp [val], (fits (.s rfl (.s rfl (.n (.n (.s rfl (.s rfl (.s rfl (.s rfl (.s rfl (.n (.n (.n (.n (.n (.n (.n (.n (.n (.n (.n (.n (.n (.n (.n (.n (.n (.n (.n (.n (.n (.n (.n (.n (.n (.n (.n (.n (.n (.n (.n (.n (.n (.n (.n .nil)))))))))))))))))))))))))))))))))))))))))))))⟩
  case step =>
      rintro n st K' hK1 hK2 ⟨i, c, r, hn, hi, hc0, hc1, hr, hrb, hv, x, rfl⟩
      have hl1 : _ < 4294967296 := getD_lt (B := B32) (by decide) hl i.toNat
      refine ifB_mk (fun h => ?_) (fun h => ?_)
      · have h0 : 0 ≤ i := by simpa using h
        have e1 : (i + 1).toNat = i.toNat + 1 := by omega
        have hq0 : 0 ≤ (c * 4294967296 + (l.getD i.toNat 0 : Nat)) := by omega
        have hs : IntKind.u64.wrap (((BitVec.ofInt IntKind.u64.bits (c * 2 ^ min (Int.toNat 32) IntKind.u64.bits % 18446744073709551616) ||| BitVec.ofInt IntKind.u64.bits ((l.getD i.toNat 0 : Nat) % 18446744073709551616)).toNat : Nat) : Int) = c * 4294967296 + (l.getD i.toNat 0 : Nat) :=
          or_add hc0 (by omega) (y := (l.getD i.toNat 0 : Nat)) (by omega) (by omega)
        have hdd : d % 18446744073709551616 = d := by omega
        have hq1 : (c * 4294967296 + (l.getD i.toNat 0 : Nat)) / d < 4294967296 := by
          refine Int.ediv_lt_of_lt_mul hd0 ?_
          have : (c + 1) * 4294967296 ≤ d * 4294967296 := Int.mul_le_mul_of_nonneg_right (by omega) (by decide)
          have : 4294967296 * d = d * 4294967296 := Int.mul_comm _ _
          omega
        have hq2 : 0 ≤ (c * 4294967296 + (l.getD i.toNat 0 : Nat)) / d := Int.ediv_nonneg hq0 (by omega)
        have hm0 : 0 ≤ (c * 4294967296 + (l.getD i.toNat 0 : Nat)) % d := Int.emod_nonneg _ (by omega)
        have hm1 : (c * 4294967296 + (l.getD i.toNat 0 : Nat)) % d < d := Int.emod_lt_of_pos _ hd0
        have hqm : d * ((c * 4294967296 + (l.getD i.toNat 0 : Nat)) / d) + (c * 4294967296 + (l.getD i.toNat 0 : Nat)) % d = c * 4294967296 + (l.getD i.toNat 0 : Nat) := Int.mul_ediv_add_emod _ _
        refine And.intro (by omega) ?_
        refine And.intro (by (try dsimp only); omega) ?_
        refine And.intro (by omega) ?_
        refine And.intro (by (try dsimp only); omega) ?_
        refine And.intro ⟨by omega, rfl, by omega, by omega⟩ ?_
        refine And.intro (by omega) ?_
        refine And.intro (by (try dsimp only); omega) ?_
        refine hK1 (n - 1) _ (by omega) ⟨_, _, _, ?_, ?_, ?_, ?_, ?_, ?_, ?_, (fits (.s rfl (.s rfl (.n (.n (.s rfl (.s rfl (.s rfl (.s rfl (.s rfl (.n (.n (.n (.n (.n (.n (.n (.n (.n (.n (.n (.n (.n (.n (.n (.n (.n (.n (.n (.n (.n (.n (.n (.n (.n (.n (.n (.n (.n (.n (.n (.n (.n (.n (.n .nil)))))))))))))))))))))))))))))))))))))))))))))⟩
        all_goals try simp only [hs, hdd, Int.tdiv_eq_ediv_of_nonneg hq0, Int.tmod_eq_emod_of_nonneg hq0]
        all_goals generalize hS : c * 4294967296 + (l.getD i.toNat 0 : Nat) = S at *
        · omega
        · omega
        · exact hm0
        · exact hm1
        · simpa using hr
        · exact set_lt hrb (by simp only [B32]; omega)
        · have hqq : S / d % 18446744073709551616 % 4294967296 = S / d := by omega
          rw [show (i - 1 + 1).toNat = i.toNat by omega, hqq, val_drop _ _ _ (by omega), drop_set _ _ _ (by omega), val, ← e1, hv]
          have hqn : d.toNat * (S / d).toNat + (S % d).toNat = B32 * c.toNat + l.getD i.toNat 0 := by
            have h7 : ((d.toNat * (S / d).toNat + (S % d).toNat : Nat) : Int) = ((B32 * c.toNat + l.getD i.toNat 0 : Nat) : Int) := by
              rw [Int.natCast_add, Int.natCast_mul, Int.toNat_of_nonneg (by omega), Int.toNat_of_nonneg hq2, Int.toNat_of_nonneg hm0, hqm]
              simp only [B32]
              omega
            omega
          simp only [Nat.mul_add]
          rw [Nat.mul_left_comm d.toNat B32]
          omega
      · have h0 : i + 1 = 0 := by simp at h; omega
        refine hK2 _ _ (by simp) ?_
        refine And.intro ⟨hrb, by omega⟩ ?_
        show K _
        refine hK _ ⟨rfl, ?_⟩
        rw [h0] at hv
        simp only [Int.toNat_zero, List.drop_zero] at hv
        have hlt : c.toNat < d.toNat := by omega
        have hgoal : Sub (.tup [.n32 (val B32 r), .int .u32 (c % 4294967296)]) (.tup [.n32 (val B32 l / d.toNat), .int .u32 (val B32 l % d.toNat : Nat)]) := by
          have h1 : val B32 l / d.toNat = val B32 r := by
            rw [hv, Nat.mul_add_div (by omega), Nat.div_eq_of_lt hlt]; omega
          have h2 : val B32 l % d.toNat = c.toNat := by
            rw [hv, Nat.mul_add_mod, Nat.mod_eq_of_lt hlt]
          rw [h1, h2, show c % 4294967296 = (c.toNat : Int) by omega]
          exact Sub.refl _
        exact hgoal
end Iv
end Go.Proofs.YtfajgibpidlojaaDoor
end

section
/- Contracts of the reference's functions, part I: trim. Conditions: the digits are below 2^16, the list is no longer than cap30. -/
set_option linter.unusedVariables false
set_option linter.unusedSimpArgs false
set_option maxHeartbeats 2000000
set_option maxRecDepth 4000
namespace Go.Proofs.YtfajgibpidlojaaDoor
namespace Iv
open Go Go.Proofs

theorem val_take_zero {B : Nat} {l : List Nat} {k : Nat} (h0 : l.getD k 0 = 0) : val B (l.take (k + 1)) = val B (l.take k) := by
  rw [val_take_succ, h0]; omega
theorem trim_wp (l : List Nat) (hl : ∀ x ∈ l, x < B16) (h1 : l.length ≤ cap30) (K : Except Int SV → Prop) (hK : ∀ r, SubE r (.ok (.n16 (val B16 l))) → K r) :
    wpF tb env0 (wpDraw tb env0) Tryd.f153 [.words l] K := by
  have h30 := c30
  show ∃ n, wpLoop _ n _ _
  refine loop_rule (fun n st => ∃ (i : Int), (n : Int) = i ∧ i ≤ l.length ∧ val B16 (l.take i.toNat) = val B16 l ∧ ∃ x, st = ⟨pat x 0 [some (.words l), none, some (.nil), some (.int .i64 i), none, none, none, none, none, none, none, none, none, none, none, none, none, none, none, none, none], []⟩) ?step (n := l.length) ?init
  case init => exact ⟨_, rfl, by (try dsimp only); omega, by (try dsimp only); rw [List.take_of_length_le (by omega)], (fits (.s rfl (.n (.s rfl (.s rfl (.n (.n (.n (.n (.n (.n (.n (.n (.n (.n (.n (.n (.n (.n (.n (.n (.n .nil))))))))))))))))))))))⟩
  case step =>
    rintro n st K' hK1 hK2 ⟨i, hn, hi, hv, x, rfl⟩
    have done : (0 < i → l.getD (i - 1).toNat 0 ≠ 0) → ∀ a : Nat, a = 0 → SubE (.ok (.words ((l.take i.toNat).drop a))) (.ok (.n16 (val B16 l))) := by
      rintro h a rfl
      rw [← hv, List.drop_zero]
      have hb : ∀ x ∈ l.take i.toNat, x < B16 := fun x hx => hl x (List.mem_of_mem_take hx)
      refine ⟨rfl, Sub.val16 hb ?_⟩
      by_cases hi0 : 0 < i
      · refine canon_of_take (x := 0) ?_
        have := h hi0
        have e1 : (i - 1).toNat = i.toNat - 1 := by omega
        have e2 : (l.take i.toNat).length = i.toNat := by simp; omega
        rw [e2]
        rw [e1] at this
        simpa [List.getD_eq_getElem?_getD, List.getElem?_take, show i.toNat - 1 < i.toNat by omega] using this
      · have : i.toNat = 0 := by omega
        rw [this]; trivial
    refine ifB_mk (fun h => ?_) (fun h => ?_)
    · simp only [decide_eq_true_eq] at h
      refine And.intro (by (try dsimp only); omega) ?_
      refine And.intro (by (try dsimp only); omega) ?_
      refine ifB_mk (fun h2 => ?_) (fun h2 => ?_)
      · refine And.intro (by (try dsimp only); omega) ?_
        refine hK1 (n - 1) _ (by omega) ⟨_, ?_, ?_, ?_, (fits (.s rfl (.n (.s rfl (.s rfl (.n (.n (.n (.n (.n (.n (.n (.n (.n (.n (.n (.n (.n (.n (.n (.n (.n .nil))))))))))))))))))))))⟩
        · omega
        · omega
        · rw [← hv]
          have e1 : i.toNat = (i - 1).toNat + 1 := by omega
          rw [e1]
          refine (val_take_zero ?_).symm
          simpa using h2
      · refine hK2 _ _ (by simp) ?_
        refine And.intro (by simp only [true_and]; (try dsimp only); omega) ?_
        show K _
        exact hK _ (done (fun _ => by simpa using h2) _ rfl)
    · simp only [decide_eq_false_iff_not] at h
      refine hK2 _ _ (by simp) ?_
      refine And.intro (by simp only [true_and]; (try dsimp only); omega) ?_
      show K _
      exact hK _ (done (fun h' => absurd h' h) _ rfl)
theorem trim_holds (F : TypeId) (l : List Nat) (hb : ∀ x ∈ l, x < B16) (hl : l.length ≤ cap30) {ys : List SV} (hy : SubL ys [.words l]) : Holds Tryd.prog F 153 ys (.ok (.n16 (val B16 l))) :=
  holds_run mixed tb_ok (env0_ok F) Tryd.func153 rfl (by kernel_rfl) (args := [.words l])
    (trim_wp l hb hl _ fun _ h => h) hy
def trimSpec : List SV → Option (Prop × Res)
  | [x] => match x.list with
    | some l => some ((∀ y ∈ l, y < B16) ∧ l.length ≤ cap30, .ok (.n16 (val B16 l)))
    | none => none
  | _ => none
def trimC (F : TypeId) : Con Tryd.prog F where
  f := 153
  spec := trimSpec
  ent := enters_of Tryd.func153 (by kernel_rfl) rfl
  ok := fun xs pre r h hp => by
    match xs, h with
    | [x], h =>
      simp only [trimSpec] at h
      split at h
      · rename_i l hl
        simp only [Option.some.injEq, Prod.mk.injEq] at h
        obtain ⟨rfl, rfl⟩ := h
        exact trim_holds F l hp.1 hp.2 (SubL.cons (Sub.words hl) SubL.nil)
      · cases h
noncomputable def envTrim (F : TypeId) : Env := envOf [trimC F]
theorem envTrim_ok (F : TypeId) : EnvOK Tryd.prog F tb (envTrim F) := envOf_ok _
end Iv
end Go.Proofs.YtfajgibpidlojaaDoor
end
