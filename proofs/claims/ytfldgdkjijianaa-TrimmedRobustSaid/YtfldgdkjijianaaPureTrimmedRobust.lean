/-
  The plain law of TrimmedRobust.
-/
import Derived.Test.YtfldgdkjijianaaPlAwake
import Derived.Test.YtfldgdkjijianaaPx17
namespace Go.Proofs.Ytfldgdkjijianaa.Pure
open Go.RowKit Go.Proofs.Ytfldgdkjijianaa.P Go.Proofs.YtfldgdkjijianaaW.PrintWords Go.Proofs.YtfldgdkjijianaaW.PrintLast
set_option linter.unusedVariables false
set_option linter.unusedSimpArgs false

theorem cnt_le (p : Int → Bool) : ∀ (l : List Int) (t : List Bool), l.length = t.length → (∀ i : Nat, i < l.length → p (l.getD i 0) = true → t.getD i false = true) → l.countP p ≤ t.countP id
  | [], [], _, _ => Nat.le_refl _
  | x :: l, b :: t, h, hp => by
    have ih := cnt_le p l t (by simpa using h) (fun i hi hpi => by simpa using hp (i + 1) (by simpa using hi) (by simpa using hpi))
    have h0 := hp 0 (by simp)
    simp only [List.getD_cons_zero] at h0
    rw [List.countP_cons, List.countP_cons]
    by_cases hx : p x = true
    · simp only [hx, h0 hx, id, if_true]; omega
    · simp only [hx]; simp; omega
  | [], _ :: _, h, _ => by simp at h
  | _ :: _, [], h, _ => by simp at h
theorem cnt_ge (q : Int → Bool) : ∀ (l : List Int) (t : List Bool), l.length = t.length → (∀ i : Nat, i < l.length → t.getD i false = false → q (l.getD i 0) = true) → l.length ≤ l.countP q + t.countP id
  | [], [], _, _ => Nat.le_refl _
  | x :: l, b :: t, h, hp => by
    have ih := cnt_ge q l t (by simpa using h) (fun i hi hpi => by simpa using hp (i + 1) (by simpa using hi) (by simpa using hpi))
    have h0 := hp 0 (by simp)
    simp only [List.getD_cons_zero] at h0
    rw [List.countP_cons, List.countP_cons, List.length_cons]
    cases b with
    | false => simp only [h0 rfl, if_true]; omega
    | true => simp only [id, if_true]; omega
  | [], _ :: _, h, _ => by simp at h
  | _ :: _, [], h, _ => by simp at h
theorem cnt_set : ∀ (t : List Bool) (i : Nat), (t.set i true).countP id ≤ t.countP id + 1
  | [], i => by simp
  | b :: t, 0 => by
    rw [List.set_cons_zero, List.countP_cons, List.countP_cons]
    simp only [id, if_true]; omega
  | b :: t, i + 1 => by
    have := cnt_set t i
    rw [List.set_cons_succ, List.countP_cons, List.countP_cons]
    omega
theorem cnt_full : ∀ (t : List Bool), (∀ i : Nat, i < t.length → t.getD i false = true) → t.countP id = t.length
  | [], _ => rfl
  | b :: t, h => by
    have ih := cnt_full t (fun i hi => by simpa using h (i + 1) (by simpa using hi))
    have h0 := h 0 (by simp)
    simp only [List.getD_cons_zero] at h0
    rw [List.countP_cons, ih, h0]
    simp

/-- What is kept lies between two bounds, if all but so many as are dropped lie there. -/
theorem kept_between (l : List Int) (t : List Bool) (d : Nat) (lo hi : Int) (ht : l.length = t.length) (hd : 2 * d ≤ l.length) (hc : t.countP id ≤ d)
    (h : ∀ i : Nat, i < l.length → t.getD i false = false → lo ≤ l.getD i 0 ∧ l.getD i 0 ≤ hi) : ∀ x ∈ keptL l d, lo ≤ x ∧ x ≤ hi := by
  intro x hx
  obtain ⟨i, hi1, rfl⟩ := List.getElem_of_mem hx
  rw [keptL_get l d hd i hi1]
  rw [keptL_length l d hd] at hi1
  have hs : d + i < (sortL l).length := by rw [sortL_length]; omega
  constructor
  · rcases Int.lt_or_le ((sortL l)[d + i]) lo with hlt | hge
    · have h1 := (sorted_le_iff (lo - 1) _ (sortL_pairwise l) (d + i) hs).1 (by omega)
      rw [(sortL_perm l).countP_eq] at h1
      have h2 := cnt_le (fun x => decide (x ≤ lo - 1)) l t ht (fun j hj hp => by
        cases e : t.getD j false with
        | true => rfl
        | false =>
          have := (h j hj e).1
          simp only [decide_eq_true_eq] at hp
          omega)
      omega
    · exact hge
  · rw [sorted_le_iff hi _ (sortL_pairwise l) (d + i) hs, (sortL_perm l).countP_eq]
    have h2 := cnt_ge (fun x => decide (x ≤ hi)) l t ht (fun j hj e => by
      have := (h j hj e).2
      simpa using this)
    omega

theorem ev_milli (x : Int) (h : okR x) : Ev (fun k => fraction_Milli.f k x) (nrm x 1000) := by
  unfold okR at h
  unfold fraction_Milli.f
  refine Ev.if_neg_ (by omega) (Ev.if_neg_ (by omega) ?_)
  exact Ev.bind (ev_make_nrm x 1000 (by omega) (by omega) (by omega)) (Ev.now _)

set_option maxHeartbeats 2000000 in
theorem rob_l1 (m out : List Int) (t : List Bool) (a : Int) (hm : m.length ≤ 60) (hl : out.length = m.length) (ht : t.length = m.length) (hok : allC out a = 0) (hc : (t.countP id : Int) ≤ a)
    (hag : ∀ i : Nat, i < m.length → t.getD i false = false → out.getD i 0 = m.getD i 0) :
    ∀ (n i : Nat) (least most : Int) (first : Bool), i + n = m.length → (first = true → ∀ j : Nat, j < i → t.getD j false = true) →
      (first = false → okR least ∧ okR most ∧ ∀ j : Nat, j < i → t.getD j false = false → least ≤ m.getD j 0 ∧ m.getD j 0 ≤ most) →
      Ev (fun k => salchowlaw28_TrimmedRobust.l1 k m t least most first (i : Int) (meanL out a).1 (meanL out a).2) true := by
  obtain ⟨q1, q2, q3, q4⟩ := (allC_zero out a).1 hok
  clear hok
  intro n
  induction n with
  | zero =>
    intro i least most first hi hf hnf
    cases first with
    | true =>
      have := cnt_full t (fun j hj => hf rfl j (by omega))
      omega
    | false =>
      obtain ⟨o1, o2, hb⟩ := hnf rfl
      have hkb := kept_between out t a.toNat least most (by omega) (by omega) (by omega) (fun j hj e => by
        rw [hag j (by omega) e]
        exact hb j (by omega) e)
      have hkl := keptL_length out a.toNat (by omega)
      have hr := sumL_range least most (keptL out a.toNat) hkb
      have hbd := meanL_bound out a q1 q2 q3 q4
      have hc1 : (((keptL out a.toNat).length : Nat) : Int) = (out.length : Int) - 2 * a := by omega
      rw [hc1] at hr
      have o1' := o1
      have o2' := o2
      unfold okR at o1' o2'
      refine Ev.step (f := fun k => (fraction_Milli.f k least).bind fun bt498 => ((fraction_Cmp.f k bt498.1 bt498.2 (meanL out a).1 (meanL out a).2).bind fun t500 => (if t500 ≤ 0 then ((fraction_Milli.f k most).bind fun bt501 => ((fraction_Cmp.f k (meanL out a).1 (meanL out a).2 bt501.1 bt501.2).bind fun t503 => (some (decide (t503 ≤ 0))))) else (some false)))) (fun k => ?_) ?_
      · rw [salchowlaw28_TrimmedRobust.l1.eq_2, if_neg (by omega), if_neg (by decide)]
      · refine Ev.bind (ev_milli least o1) ?_
        refine Ev.bind (ev_cmp _ _ (nrm_Vd least 1000 (by omega) (by omega) (by omega)) (meanL_Vd out a q1 q2 q3 q4)) ?_
        refine Ev.if_pos_ ?_ ?_
        · refine nrm_cmp _ _ _ _ (by omega) (by omega) (by omega) (by omega) (by omega) (by omega) ?_
          have e : least * (1000 * ((out.length : Int) - 2 * a)) = (least * ((out.length : Int) - 2 * a)) * 1000 := by rw [Int.mul_left_comm, Int.mul_comm 1000]
          omega
        · refine Ev.bind (ev_milli most o2) ?_
          refine Ev.bind (ev_cmp _ _ (meanL_Vd out a q1 q2 q3 q4) (nrm_Vd most 1000 (by omega) (by omega) (by omega))) ?_
          have : cmpF (meanL out a) (nrm most 1000) ≤ 0 := by
            refine nrm_cmp _ _ _ _ (by omega) (by omega) (by omega) (by omega) (by omega) (by omega) ?_
            have e : most * (1000 * ((out.length : Int) - 2 * a)) = (most * ((out.length : Int) - 2 * a)) * 1000 := by rw [Int.mul_left_comm, Int.mul_comm 1000]
            omega
          rw [decide_eq_true this]
          exact Ev.now _
  | succ n ih =>
    intro i least most first hi hf hnf
    have hrt := Aside0.mk (show rdOf false t (i : Int) = t.getD i false by unfold rdOf; rw [Int.toNat_natCast])
    have hrm := Aside0.mk (show rd m (i : Int) = m.getD i 0 by unfold rd; rw [Int.toNat_natCast])
    have hw := Aside0.mk (show wrap64 ((i : Int) + 1) = ((i + 1 : Nat) : Int) by rw [w64 _ (by unfold Ri; omega)]; omega)
    rcases Bool.eq_false_or_eq_true (t.getD i false) with hti | hti
    · refine Ev.step (f := fun k => salchowlaw28_TrimmedRobust.l1 k m t least most first ((i + 1 : Nat) : Int) (meanL out a).1 (meanL out a).2) (fun k => ?_) ?_
      · rw [salchowlaw28_TrimmedRobust.l1.eq_2, if_pos (by omega), if_pos (by omega), if_pos (by omega), hrt.out, if_pos hti, hw.out]
      · refine ih (i + 1) least most first (by omega) (fun e j hj => ?_) (fun e => ?_)
        · by_cases hji : j = i
          · rw [hji]; exact hti
          · exact hf e j (by omega)
        · obtain ⟨o1, o2, hb⟩ := hnf e
          refine ⟨o1, o2, fun j hj e2 => ?_⟩
          by_cases hji : j = i
          · rw [hji, hti] at e2; cases e2
          · exact hb j (by omega) e2
    · have hmi : okR (m.getD i 0) := by
        rw [← hag i (by omega) hti, List.getD_eq_getElem?_getD, List.getElem?_eq_getElem (by omega : i < out.length)]
        exact q3 _ (List.getElem_mem _)
      have next : ∀ (lo hi' : Int), okR lo → okR hi' → lo ≤ m.getD i 0 → m.getD i 0 ≤ hi' → (first = false → lo ≤ least ∧ most ≤ hi') → Ev (fun k => salchowlaw28_TrimmedRobust.l1 k m t lo hi' false ((i + 1 : Nat) : Int) (meanL out a).1 (meanL out a).2) true := by
        intro lo hi' r1 r2 r3 r4 r5
        refine ih (i + 1) lo hi' false (by omega) (fun e => by cases e) (fun _ => ⟨r1, r2, fun j hj e2 => ?_⟩)
        by_cases hji : j = i
        · rw [hji]; exact ⟨r3, r4⟩
        · cases hfst : first with
          | true => rw [hf hfst j (by omega)] at e2; cases e2
          | false =>
            have := (hnf hfst).2.2 j (by omega) e2
            have := r5 hfst
            omega
      have J : ∀ c : Bool, (c = true ↔ (first = true ∨ m.getD i 0 < least)) → Ev (fun k => salchowlaw28_TrimmedRobust.j3 k m t least most first (i : Int) c (meanL out a).1 (meanL out a).2) true := by
        intro c hcc
        cases first with
        | true =>
          refine Ev.step (f := fun k => salchowlaw28_TrimmedRobust.l1 k m t (m.getD i 0) (m.getD i 0) false ((i + 1 : Nat) : Int) (meanL out a).1 (meanL out a).2) (fun k => ?_) (next _ _ hmi hmi (Int.le_refl _) (Int.le_refl _) (fun e => by cases e))
          rw [salchowlaw28_TrimmedRobust.j3.eq_2, if_pos (hcc.2 (.inl rfl)), if_pos (by omega), if_pos (by omega), if_pos rfl, hrm.out, hw.out]
        | false =>
          obtain ⟨o1, o2, hb⟩ := hnf rfl
          by_cases hlt : m.getD i 0 < least
          · by_cases hgt : m.getD i 0 > most
            · refine Ev.step (f := fun k => salchowlaw28_TrimmedRobust.l1 k m t (m.getD i 0) (m.getD i 0) false ((i + 1 : Nat) : Int) (meanL out a).1 (meanL out a).2) (fun k => ?_) (next _ _ hmi hmi (Int.le_refl _) (Int.le_refl _) (fun e => by omega))
              rw [salchowlaw28_TrimmedRobust.j3.eq_2, if_pos (hcc.2 (.inr hlt)), if_pos (by omega), if_pos (by omega), if_neg (by decide), hrm.out, if_pos hgt, hw.out]
            · refine Ev.step (f := fun k => salchowlaw28_TrimmedRobust.l1 k m t (m.getD i 0) most false ((i + 1 : Nat) : Int) (meanL out a).1 (meanL out a).2) (fun k => ?_) (next _ _ hmi o2 (Int.le_refl _) (by omega) (fun e => by omega))
              rw [salchowlaw28_TrimmedRobust.j3.eq_2, if_pos (hcc.2 (.inr hlt)), if_pos (by omega), if_pos (by omega), if_neg (by decide), hrm.out, if_neg hgt, hw.out]
          · have hcn : ¬ c = true := fun e => (hcc.1 e).elim (by decide) hlt
            by_cases hgt : m.getD i 0 > most
            · refine Ev.step (f := fun k => salchowlaw28_TrimmedRobust.l1 k m t least (m.getD i 0) false ((i + 1 : Nat) : Int) (meanL out a).1 (meanL out a).2) (fun k => ?_) (next _ _ o1 hmi (by omega) (Int.le_refl _) (fun e => by omega))
              rw [salchowlaw28_TrimmedRobust.j3.eq_2, if_neg hcn, if_neg (by decide), if_pos (by omega), if_pos (by omega), hrm.out, if_pos hgt, hw.out]
            · refine Ev.step (f := fun k => salchowlaw28_TrimmedRobust.l1 k m t least most false ((i + 1 : Nat) : Int) (meanL out a).1 (meanL out a).2) (fun k => ?_) (next _ _ o1 o2 (by omega) (by omega) (fun e => by omega))
              rw [salchowlaw28_TrimmedRobust.j3.eq_2, if_neg hcn, if_neg (by decide), if_pos (by omega), if_pos (by omega), hrm.out, if_neg hgt, hw.out]
      cases hfst : first with
      | true =>
        rw [hfst] at J
        refine Ev.step (f := fun k => salchowlaw28_TrimmedRobust.j3 k m t least most true (i : Int) true (meanL out a).1 (meanL out a).2) (fun k => ?_) (J true (by simp))
        rw [salchowlaw28_TrimmedRobust.l1.eq_2, if_pos (by omega), if_pos (by omega), if_pos (by omega), hrt.out, hti, if_neg (by decide), if_pos rfl]
      | false =>
        rw [hfst] at J
        refine Ev.step (f := fun k => salchowlaw28_TrimmedRobust.j3 k m t least most false (i : Int) (decide (m.getD i 0 < least)) (meanL out a).1 (meanL out a).2) (fun k => ?_) (J _ (by simp))
        rw [salchowlaw28_TrimmedRobust.l1.eq_2, if_pos (by omega), if_pos (by omega), if_pos (by omega), hrt.out, hti, if_neg (by decide), if_neg (by decide), hrm.out]

theorem rob_l0 (m : List Int) (a : Int) (at_ news : List Int) (hm : m.length ≤ 60) (h60 : at_.length ≤ 60) (ha : (at_.length : Int) ≤ a) (hn : at_.length ≤ news.length) :
    ∀ (n i : Nat) (out : List Int) (t : List Bool), i + n = at_.length → out.length = m.length → t.length = m.length → t.countP id ≤ i → (∀ j : Nat, j < m.length → t.getD j false = false → out.getD j 0 = m.getD j 0) →
      Ev (fun k => salchowlaw28_TrimmedRobust.l0 k m a at_ news out t (i : Int)) true := by
  intro n
  induction n with
  | zero =>
    intro i out t hi hl ht hc hag
    refine Ev.step (f := fun k => (trimmed_Mean.f k out a).bind fun bt485 => (if bt485.2.2 = 0 then (salchowlaw28_TrimmedRobust.l1 k m t 0 0 true 0 bt485.1 bt485.2.1) else (some true))) (fun k => ?_) ?_
    · rw [salchowlaw28_TrimmedRobust.l0.eq_2, if_neg (by omega)]
    · refine Ev.bind (ev_Mean out a (by unfold maxLen; omega)) ?_
      by_cases h : allC out a = 0
      · simp only [if_pos h]
        refine Ev.if_pos_ trivial ?_
        exact rob_l1 m out t a hm hl ht h (by omega) hag m.length 0 0 0 true (by omega) (fun _ j hj => by omega) (fun e => by cases e)
      · simp only [if_neg h]
        exact Ev.now _
  | succ n ih =>
    intro i out t hi hl ht hc hag
    have hw := Aside0.mk (show wrap64 ((i : Int) + 1) = ((i + 1 : Nat) : Int) by rw [w64 _ (by unfold Ri; omega)]; omega)
    by_cases h1 : rd at_ (i : Int) < 0
    · refine Ev.step (f := fun k => some true) (fun k => ?_) (Ev.now _)
      rw [salchowlaw28_TrimmedRobust.l0.eq_2, if_pos (by omega), if_pos (by omega), if_pos h1]
    · by_cases h2 : rd at_ (i : Int) ≥ (m.length : Int)
      · refine Ev.step (f := fun k => some true) (fun k => ?_) (Ev.now _)
        rw [salchowlaw28_TrimmedRobust.l0.eq_2, if_pos (by omega), if_pos (by omega), if_neg h1, if_pos h2]
      · refine Ev.step (f := fun k => salchowlaw28_TrimmedRobust.l0 k m a at_ news (out.set (rd at_ (i : Int)).toNat (rd news (i : Int))) (t.set (rd at_ (i : Int)).toNat true) ((i + 1 : Nat) : Int)) (fun k => ?_) ?_
        · rw [salchowlaw28_TrimmedRobust.l0.eq_2, if_pos (by omega), if_pos (by omega), if_neg h1, if_neg h2, if_pos (by omega), if_pos (by omega), if_pos (by omega), if_pos (by omega), hw.out]
        · refine ih (i + 1) _ _ (by omega) (by rw [List.length_set]; exact hl) (by rw [List.length_set]; exact ht) (by have := cnt_set t (rd at_ (i : Int)).toNat; omega) (fun j hj e => ?_)
          rw [List.getD_eq_getElem?_getD, List.getElem?_set] at e ⊢
          by_cases hji : (rd at_ (i : Int)).toNat = j
          · rw [if_pos hji, if_pos (by omega)] at e
            cases e
          · rw [if_neg hji] at e ⊢
            rw [← List.getD_eq_getElem?_getD] at e ⊢
            exact hag j hj e

theorem TrimmedRobust : salchowlaw28_TrimmedRobust.Pure := by
  intro m a at_ news hl hl8 hw wa _ _ _ _ _ _
  refine Ev.rounds (g := fun k => salchowlaw28_TrimmedRobust.f k m a at_ news) ?_
  unfold salchowlaw28_TrimmedRobust.f
  refine Ev.bind ev_awake ?_
  refine Ev.if_pos_ rfl ?_
  have htrue : Ev (fun k => salchowlaw28_TrimmedRobust.j0 k m a at_ news true) true := by
    refine Ev.step (f := fun _ => some true) (fun k => ?_) (Ev.now _)
    rw [salchowlaw28_TrimmedRobust.j0.eq_2, if_pos rfl]
  by_cases h1 : (m.length : Int) > 60
  · exact Ev.if_pos_ h1 htrue
  · refine Ev.if_neg_ h1 ?_
    by_cases h2 : (at_.length : Int) > 60
    · exact Ev.if_pos_ h2 htrue
    · refine Ev.if_neg_ h2 ?_
      by_cases h3 : (at_.length : Int) > a
      · exact Ev.if_pos_ h3 htrue
      · refine Ev.if_neg_ h3 ?_
        by_cases h4 : (news.length : Int) < (at_.length : Int)
        · rw [decide_eq_true h4]; exact htrue
        · rw [decide_eq_false h4]
          refine Ev.step (f := fun k => salchowlaw28_TrimmedRobust.l0 k m a at_ news m (List.replicate m.length false) ((0 : Nat) : Int)) (fun k => ?_) ?_
          · rw [salchowlaw28_TrimmedRobust.j0.eq_2, if_neg (by decide), Option.bind_some, if_pos (by simp; omega), if_pos (by omega), if_pos (by omega), Int.toNat_natCast]
            rfl
          · refine rob_l0 m a at_ news (by omega) (by omega) (by omega) (by omega) at_.length 0 m _ (by omega) rfl (by simp) ?_ (fun _ _ _ => rfl)
            rw [Nat.le_zero_eq, List.countP_eq_zero]
            intro b hb
            rw [List.eq_of_mem_replicate hb]
            decide

end Go.Proofs.Ytfldgdkjijianaa.Pure
