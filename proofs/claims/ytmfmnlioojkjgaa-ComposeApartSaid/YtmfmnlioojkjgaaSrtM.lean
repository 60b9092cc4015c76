/- Plain laws: characters put together. -/
import Derived.Test.YtmfmnlioojkjgaaSrtI
namespace Go.Proofs.Ytmfmnlioojkjgaa
set_option linter.unusedVariables false
set_option linter.unnecessarySimpa false
set_option linter.unusedSimpArgs false

abbrev TS := List Int × Option Int × List Int
def tO : TS → List Int
  | (P, none, Q) => P ++ Q
  | (P, some c, Q) => P ++ c :: Q
def tB : TS → Int
  | (_, none, _) => -1
  | (P, some _, _) => (P.length : Nat)
/-- what a character makes with the last one of class 0 -/
def mkO (c : Int) (Q : List Int) (r : Int) : Option Int := if Q = [] ∨ clsI (Q.getLastD 0) < clsI r then pairI c r else none
def tpush (P : List Int) (c : Option Int) (Q : List Int) (r : Int) : TS := if clsI r = 0 then (tO (P, c, Q), some r, []) else (P, c, Q ++ [r])
def tstep : TS → Int → TS
  | (P, none, Q), r => tpush P none Q r
  | (P, some c, Q), r => match mkO c Q r with
    | some x => (P, some x, Q)
    | none => tpush P (some c) Q r
def trun (l : List Int) : TS := l.foldl tstep ([], none, [])
def tog (l : List Int) : List Int := tO (trun l)
theorem trun_snoc (l : List Int) (r : Int) : trun (l ++ [r]) = tstep (trun l) r := by unfold trun; rw [List.foldl_append]; rfl
theorem trun_app (l m : List Int) : trun (l ++ m) = m.foldl tstep (trun l) := by unfold trun; rw [List.foldl_append]
theorem tO_push (P : List Int) (c : Option Int) (Q : List Int) (r : Int) : tO (tpush P c Q r) = tO (P, c, Q) ++ [r] := by
  unfold tpush
  split
  · simp [tO]
  · cases c <;> simp [tO]
theorem tO_step_len (s : TS) (r : Int) : (tO (tstep s r)).length ≤ (tO s).length + 1 := by
  obtain ⟨P, c, Q⟩ := s
  cases c with
  | none => show (tO (tpush P none Q r)).length ≤ _; rw [tO_push]; simp
  | some c =>
    unfold tstep
    simp only
    split
    · simp [tO]
    · rw [tO_push]; simp
theorem trun_len (l : List Int) : (tO (trun l)).length ≤ l.length := by
  have key : ∀ (m : List Int) (s : TS), (tO (m.foldl tstep s)).length ≤ (tO s).length + m.length := by
    intro m
    induction m with
    | nil => intro s; simp
    | cons x m ih => intro s; have := ih (tstep s x); have := tO_step_len s x; simp only [List.foldl_cons, List.length_cons]; omega
  have := key l ([], none, [])
  simpa [trun, tO] using this

/-! ### facts of pairs -/
theorem pair_facts {c r x : Int} (h : pairI c r = some x) : clsI x = 0 ∧ clsI c = 0 ∧ (∀ y, pairI y x = none) ∧ (∀ q, clsI q ≠ 0 → pairI x q = none) := by
  unfold pairI at h
  cases ht : T.find? (isAB c r) with
  | some t =>
    rw [ht] at h
    simp only [Option.some.injEq] at h
    have h1 := T_of (List.mem_of_find?_eq_some ht)
    have h2 := T_of2 (List.mem_of_find?_eq_some ht)
    have h3 := find_ab ht
    subst h
    refine ⟨h1.2.2.2.2.2.2.2.2.1, by rw [← h3.1]; exact h1.2.2.2.2.2.2.2.2.2.1, fun y => ?_, fun q hq => ?_⟩
    · unfold pairI
      cases ht2 : T.find? (isAB y t.2.2) with
      | some t2 =>
        have k1 := T_of (List.mem_of_find?_eq_some ht2)
        have k2 := find_ab ht2
        omega
      | none => unfold hanI; simp only; rw [if_neg (by omega), if_neg (by omega)]
    · have hq2 := cls_pos hq
      unfold pairI
      cases ht2 : T.find? (isAB t.2.2 q) with
      | some t2 =>
        have k1 := T_of (List.mem_of_find?_eq_some ht2)
        have k2 := find_ab ht2
        omega
      | none => unfold hanI; simp only; rw [if_neg (by omega), if_neg (by omega)]
  | none =>
    rw [ht] at h
    unfold hanI at h
    simp only at h
    have key : ∀ z : Int, 44032 ≤ z → clsI z = 0 ∧ (∀ y, pairI y z = none) ∧ (∀ q, clsI q ≠ 0 → pairI z q = none) := by
      intro z hz
      refine ⟨cls_big (by omega), fun y => ?_, fun q hq => ?_⟩
      · unfold pairI; rw [no_ab (.inr (by omega))]; unfold hanI; simp only; rw [if_neg (by omega), if_neg (by omega)]
      · have hq2 := cls_pos hq
        unfold pairI; rw [no_ab (.inl (by omega))]; unfold hanI; simp only; rw [if_neg (by omega), if_neg (by omega)]
    split at h
    · simp only [Option.some.injEq] at h
      have k := key x (by omega)
      exact ⟨k.1, cls_big (by omega), k.2⟩
    split at h
    · simp only [Option.some.injEq] at h
      have k := key x (by omega)
      exact ⟨k.1, cls_big (by omega), k.2⟩
    · cases h

/-! ### put together twice -/
def Inv2 : TS → Prop
  | (P, none, Q) => trun (P ++ Q) = (P, none, Q)
  | (P, some c, Q) => tO (trun P) = P ∧ trun (P ++ c :: Q) = (P, some c, Q) ∧ ∀ y ∈ Q, clsI y ≠ 0
theorem fold_marks {x : Int} (hx : ∀ q, clsI q ≠ 0 → pairI x q = none) (P : List Int) : ∀ (R Q : List Int), (∀ y ∈ R, clsI y ≠ 0) → R.foldl tstep (P, some x, Q) = (P, some x, Q ++ R)
  | [], Q, _ => by simp
  | r :: R, Q, h => by
    have hr := h r (by simp)
    have e : tstep (P, some x, Q) r = (P, some x, Q ++ [r]) := by
      have : mkO x Q r = none := by unfold mkO; split; exact hx r hr; rfl
      unfold tstep
      simp only [this]
      unfold tpush
      rw [if_neg hr]
    rw [List.foldl_cons, e, fold_marks hx P R (Q ++ [r]) fun y hy => h y (by simp [hy])]
    simp
theorem inv2_step {s : TS} (h : Inv2 s) (r : Int) : Inv2 (tstep s r) := by
  obtain ⟨P, c, Q⟩ := s
  cases c with
  | none =>
    have h : trun (P ++ Q) = (P, none, Q) := h
    show Inv2 (tpush P none Q r)
    have e : trun (P ++ Q ++ [r]) = tpush P none Q r := by rw [trun_snoc, h]; rfl
    unfold tpush at e ⊢
    by_cases hr : clsI r = 0
    · rw [if_pos hr] at e ⊢
      refine ⟨?_, ?_, fun y hy => by simp at hy⟩
      · show tO (trun (P ++ Q)) = _; rw [h]
      · exact e
    · rw [if_neg hr] at e ⊢
      show trun (P ++ (Q ++ [r])) = _
      rw [← List.append_assoc]; exact e
  | some c =>
    obtain ⟨h1, h2, h3⟩ : tO (trun P) = P ∧ trun (P ++ c :: Q) = (P, some c, Q) ∧ ∀ y ∈ Q, clsI y ≠ 0 := h
    have e : trun (P ++ c :: Q ++ [r]) = tstep (P, some c, Q) r := by rw [trun_snoc, h2]
    cases hm : mkO c Q r with
    | some x =>
      have e2 : tstep (P, some c, Q) r = (P, some x, Q) := by unfold tstep; simp only [hm]
      rw [e2]
      have hp : pairI c r = some x := by
        unfold mkO at hm
        split at hm
        · exact hm
        · cases hm
      have hf := pair_facts hp
      refine ⟨h1, ?_, h3⟩
      have e3 : tstep (trun P) x = (P, some x, []) := by
        have h1' := h1
        generalize trun P = sP at h1' ⊢
        obtain ⟨P0, c0, Q0⟩ := sP
        cases c0 with
        | none => show tpush P0 none Q0 x = _; unfold tpush; rw [if_pos hf.1, h1']
        | some c0 =>
          have : mkO c0 Q0 x = none := by unfold mkO; split; exact hf.2.2.1 _; rfl
          unfold tstep
          simp only [this]
          unfold tpush; rw [if_pos hf.1, h1']
      rw [trun_app, List.foldl_cons, e3, fold_marks hf.2.2.2 P Q [] h3]
      rfl
    | none =>
      have e2 : tstep (P, some c, Q) r = tpush P (some c) Q r := by unfold tstep; simp only [hm]
      rw [e2] at e ⊢
      unfold tpush at e ⊢
      by_cases hr : clsI r = 0
      · rw [if_pos hr] at e ⊢
        refine ⟨?_, ?_, fun y hy => by simp at hy⟩
        · show tO (trun (P ++ c :: Q)) = _; rw [h2]
        · exact e
      · rw [if_neg hr] at e ⊢
        refine ⟨h1, ?_, fun y hy => ?_⟩
        · have : P ++ c :: (Q ++ [r]) = P ++ c :: Q ++ [r] := by simp
          rw [this]; exact e
        · rcases List.mem_append.1 hy with hy | hy
          · exact h3 y hy
          · simp at hy; rw [hy]; exact hr
theorem inv2_fold : ∀ (m : List Int) (s : TS), Inv2 s → Inv2 (m.foldl tstep s)
  | [], _, h => h
  | r :: m, s, h => inv2_fold m (tstep s r) (inv2_step h r)
theorem tog_tog (l : List Int) : tog (tog l) = tog l := by
  have h : Inv2 (trun l) := inv2_fold l _ rfl
  unfold tog
  generalize trun l = s at h
  obtain ⟨P, c, Q⟩ := s
  cases c with
  | none =>
    have h : trun (P ++ Q) = (P, none, Q) := h
    show tO (trun (P ++ Q)) = _
    rw [h]
  | some c =>
    have h2 : trun (P ++ c :: Q) = (P, some c, Q) := h.2.1
    show tO (trun (P ++ c :: Q)) = _
    rw [h2]

/-! ### put together, and taken apart -/
def Inv1 (D : List Int) (s : TS) : Prop :=
  ordA (spl (tO s)) = ordA D ∧ Srt s.2.2 ∧ (∀ y ∈ s.2.2, splitI y = none ∧ clsI y ≠ 0) ∧ (∀ y ∈ s.2.2, ∃ d D', D = D' ++ [d] ∧ clsI y ≤ clsI d)
theorem move_back (A : List Int) {r : Int} : ∀ (Q : List Int), (∀ y ∈ Q, 0 < clsI y ∧ clsI y < clsI r) → ordA (A ++ r :: Q) = ordA (A ++ (Q ++ [r]))
  | [], _ => rfl
  | y :: Q, h => by
    rw [ordA_swap A Q (h y (by simp))]
    have := move_back (A ++ [y]) Q fun z hz => h z (by simp [hz])
    simpa using this
theorem srt_last {Q : List Int} (h : Srt Q) : ∀ y ∈ Q, clsI y ≤ clsI (Q.getLastD 0) := by
  intro y hy
  rcases List.eq_nil_or_concat Q with e | ⟨L, z, e⟩
  · rw [e] at hy; simp at hy
  · have e : Q = L ++ [z] := by simpa using e
    subst e
    have hl : (L ++ [z]).getLastD 0 = z := by simp [List.getLastD_eq_getLast?]
    rw [hl]
    rcases List.mem_append.1 hy with hy | hy
    · exact h.cross y hy z (by simp)
    · simp at hy; rw [hy]; exact Int.le_refl _
theorem nf_last {D' : List Int} {d r : Int} : ∀ {E : List Int}, E = D' ++ [d] ++ [r] → Nf E → ¬ (0 < clsI r ∧ clsI r < clsI d) := by
  induction D' with
  | nil => intro E e h; subst e; exact h.1
  | cons x D' ih =>
    intro E e h
    subst e
    exact ih rfl (Nf.tail h)
theorem nf_pre {D R : List Int} : Nf (D ++ R) → Nf D := by
  induction D with
  | nil => intro _; trivial
  | cons x D ih =>
    intro h
    cases D with
    | nil => trivial
    | cons y D => exact ⟨h.1, ih h.2⟩
theorem cls_pos2 {r : Int} (h : clsI r ≠ 0) : 0 < clsI r := by have := (cls_range r).1; omega
theorem inv1_step {D : List Int} {s : TS} {r : Int} (h : Inv1 D s) (hr : splitI r = none) (hn : Nf (D ++ [r])) : Inv1 (D ++ [r]) (tstep s r) := by
  obtain ⟨P, c, Q⟩ := s
  obtain ⟨h1, h2, h3, h4⟩ := h
  simp only at h2 h3 h4
  have hle : clsI r ≠ 0 → ∀ y ∈ Q, clsI y ≤ clsI r := fun hc y hy => by
    obtain ⟨d, D', e, hd⟩ := h4 y hy
    have := nf_last (D' := D') (d := d) (r := r) (by rw [e]) hn
    have := cls_pos2 hc
    omega
  have push : Inv1 (D ++ [r]) (tpush P c Q r) := by
    refine ⟨?_, ?_⟩
    · rw [tO_push, spl_app]
      have : spl [r] = [r] := spl_same fun x hx => by simp at hx; rw [hx]; exact hr
      rw [this]
      exact ordA_congr h1 [r]
    · unfold tpush
      by_cases hc : clsI r = 0
      · rw [if_pos hc]
        exact ⟨List.Pairwise.nil, fun y hy => by simp at hy, fun y hy => by simp at hy⟩
      · rw [if_neg hc]
        refine ⟨Srt.append h2 (List.pairwise_singleton _ _) fun y hy z hz => ?_, fun y hy => ?_, fun y hy => ?_⟩
        · simp at hz; rw [hz]; exact hle hc y hy
        · rcases List.mem_append.1 hy with hy | hy
          · exact h3 y hy
          · simp at hy; rw [hy]; exact ⟨hr, hc⟩
        · refine ⟨r, D, rfl, ?_⟩
          rcases List.mem_append.1 hy with hy | hy
          · exact hle hc y hy
          · simp at hy; rw [hy]; exact Int.le_refl _
  cases c with
  | none => exact push
  | some c =>
    cases hm : mkO c Q r with
    | none =>
      have e2 : tstep (P, some c, Q) r = tpush P (some c) Q r := by unfold tstep; simp only [hm]
      rw [e2]; exact push
    | some x =>
      have e2 : tstep (P, some c, Q) r = (P, some x, Q) := by unfold tstep; simp only [hm]
      rw [e2]
      unfold mkO at hm
      split at hm
      · rename_i hcond
        have hs := split_pair hm
        have hlt : ∀ y ∈ Q, clsI y < clsI r := fun y hy => by
          rcases hcond with e | e
          · rw [e] at hy; simp at hy
          · have := srt_last h2 y hy; omega
        have hq : spl Q = Q := spl_same fun y hy => (h3 y hy).1
        refine ⟨?_, h2, h3, fun y hy => ⟨r, D, rfl, by have := hlt y hy; omega⟩⟩
        have e3 : spl (tO (P, some x, Q)) = (spl P ++ splits c) ++ r :: Q := by
          show spl (P ++ x :: Q) = _
          rw [spl_app]
          have : spl (x :: Q) = splits x ++ spl Q := by unfold spl; rw [List.flatMap_cons]
          rw [this, splits_some hs, hq]
          simp
        have e4 : spl (tO (P, some c, Q)) = (spl P ++ splits c) ++ Q := by
          show spl (P ++ c :: Q) = _
          rw [spl_app]
          have : spl (c :: Q) = splits c ++ spl Q := by unfold spl; rw [List.flatMap_cons]
          rw [this, hq]
          simp
        rw [e3, move_back _ Q fun y hy => ⟨cls_pos2 (h3 y hy).2, hlt y hy⟩, ← List.append_assoc, ← e4]
        exact ordA_congr h1 [r]
      · cases hm
theorem inv1_fold : ∀ (m D : List Int) (s : TS), Inv1 D s → (∀ x ∈ m, splitI x = none) → Nf (D ++ m) → Inv1 (D ++ m) (m.foldl tstep s)
  | [], D, s, h, _, _ => by simpa using h
  | r :: m, D, s, h, hm, hn => by
    have e : D ++ r :: m = D ++ [r] ++ m := by simp
    rw [e] at hn ⊢
    exact inv1_fold m (D ++ [r]) (tstep s r) (inv1_step h (hm r (by simp)) (nf_pre hn)) (fun x hx => hm x (by simp [hx])) hn
/-- what is taken apart, put together, and taken apart, is the same again -/
theorem apt_tog {a : List Int} (h1 : ∀ x ∈ a, splitI x = none) (h2 : Nf a) : apt (tog a) = a := by
  have h := inv1_fold a [] ([], none, []) ⟨rfl, List.Pairwise.nil, fun y hy => by simp at hy, fun y hy => by simp at hy⟩ h1 (by simpa using h2)
  have := h.1
  rw [List.nil_append, nf_ord h2] at this
  exact this
/-! ### what is in it -/
theorem tog_mem {p : Int → Prop} (hp : ∀ c r x, pairI c r = some x → p x) {l : List Int} (hl : ∀ x ∈ l, p x) : ∀ x ∈ tO (trun l), p x := by
  have key : ∀ (m : List Int) (s : TS), (∀ x ∈ m, p x) → (∀ x ∈ tO s, p x) → ∀ x ∈ tO (m.foldl tstep s), p x := by
    intro m
    induction m with
    | nil => intro s _ h; exact h
    | cons r m ih =>
      intro s hm h
      refine ih (tstep s r) (fun x hx => hm x (by simp [hx])) ?_
      have hr := hm r (by simp)
      obtain ⟨P, c, Q⟩ := s
      have hpush : ∀ x ∈ tO (tpush P c Q r), p x := by
        rw [tO_push]
        intro x hx
        rcases List.mem_append.1 hx with hx | hx
        · exact h x hx
        · simp at hx; rw [hx]; exact hr
      cases c with
      | none => exact hpush
      | some c =>
        cases hm2 : mkO c Q r with
        | none =>
          have e2 : tstep (P, some c, Q) r = tpush P (some c) Q r := by unfold tstep; simp only [hm2]
          rw [e2]; exact hpush
        | some x =>
          have e2 : tstep (P, some c, Q) r = (P, some x, Q) := by unfold tstep; simp only [hm2]
          rw [e2]
          have hp2 : pairI c r = some x := by
            unfold mkO at hm2
            split at hm2
            · exact hm2
            · cases hm2
          intro y hy
          have hy : y ∈ P ++ x :: Q := hy
          rcases List.mem_append.1 hy with hy | hy
          · exact h y (by show y ∈ P ++ c :: Q; simp [hy])
          · rcases List.mem_cons.1 hy with e | hy
            · rw [e]; exact hp _ _ _ hp2
            · exact h y (by show y ∈ P ++ c :: Q; simp [hy])
  exact key l ([], none, []) hl (fun x hx => by simp [tO] at hx)
end Go.Proofs.Ytmfmnlioojkjgaa
