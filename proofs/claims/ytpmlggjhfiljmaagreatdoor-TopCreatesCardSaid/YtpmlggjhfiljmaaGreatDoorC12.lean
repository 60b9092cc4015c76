/- Contracts that the law rests on, part 12 of 50 (SrtI, SrtM). Each states its own conditions. -/
import Derived.Test.YtpmlggjhfiljmaaGreatDoorC11
/- Plain laws of layer 3: characters taken apart, ordered, put together. -/
namespace Go.Proofs.YtpmlggjhfiljmaaGreatDoor
set_option linter.unusedVariables false
set_option linter.unnecessarySimpa false
set_option linter.unusedSimpArgs false
/-! ### the canonical order -/
def ins (x : Int) : List Int → List Int
  | [] => [x]
  | y :: ys => if 0 < clsI y ∧ clsI y < clsI x then y :: ins x ys else x :: y :: ys
def ordA : List Int → List Int
  | [] => []
  | x :: l => ins x (ordA l)
/-- no two neighbours are in the wrong order -/
def Nf : List Int → Prop
  | [] => True
  | [_] => True
  | x :: y :: l => ¬ (0 < clsI y ∧ clsI y < clsI x) ∧ Nf (y :: l)
theorem ins_swap {x y : Int} (h : 0 < clsI y ∧ clsI y < clsI x) : ∀ R : List Int, ins x (ins y R) = ins y (ins x R)
  | [] => by
    have h2 : ¬ (0 < clsI x ∧ clsI x < clsI y) := by omega
    simp [ins, h, h2]
  | z :: R => by
    have ih := ins_swap h R
    have h2 : ¬ (0 < clsI x ∧ clsI x < clsI y) := by omega
    by_cases q1 : 0 < clsI z ∧ clsI z < clsI y
    · have q2 : 0 < clsI z ∧ clsI z < clsI x := by omega
      simp [ins, q1, q2, ih]
    · by_cases q2 : 0 < clsI z ∧ clsI z < clsI x
      · simp only [ins, if_pos q2, if_neg q1, if_pos h]
      · simp only [ins, if_neg q2, if_neg q1, if_pos h, if_neg h2]
theorem ordA_pre (P : List Int) {Z Z' : List Int} (h : ordA Z = ordA Z') : ordA (P ++ Z) = ordA (P ++ Z') := by
  induction P with
  | nil => exact h
  | cons x P ih => exact congrArg (ins x) ih
theorem ordA_swap (P S : List Int) {x y : Int} (h : 0 < clsI y ∧ clsI y < clsI x) : ordA (P ++ x :: y :: S) = ordA (P ++ y :: x :: S) := ordA_pre P (ins_swap h (ordA S))
theorem ins_app {x : Int} : ∀ (R S : List Int), ordA (ins x R ++ S) = ordA (x :: R ++ S)
  | [], S => rfl
  | y :: R, S => by
    by_cases q : 0 < clsI y ∧ clsI y < clsI x
    · have ih := ins_app (x := x) R S
      simp only [ins, if_pos q]
      have e1 : ordA (y :: ins x R ++ S) = ordA (y :: (x :: R ++ S)) := ordA_pre [y] ih
      rw [e1]
      exact (ordA_swap [] (R ++ S) q).symm
    · simp only [ins, if_neg q]
theorem ordA_app : ∀ (A S : List Int), ordA (ordA A ++ S) = ordA (A ++ S)
  | [], S => rfl
  | x :: A, S => by
    show ordA (ins x (ordA A) ++ S) = _
    rw [ins_app]
    exact ordA_pre [x] (ordA_app A S)
theorem ordA_idem (A : List Int) : ordA (ordA A) = ordA A := by have := ordA_app A []; simpa using this
theorem ordA_congr {A B : List Int} (h : ordA A = ordA B) (S : List Int) : ordA (A ++ S) = ordA (B ++ S) := by rw [← ordA_app A, ← ordA_app B, h]
theorem nf_ord : ∀ {A : List Int}, Nf A → ordA A = A
  | [], _ => rfl
  | [x], _ => rfl
  | x :: y :: l, h => by
    have ih := nf_ord h.2
    show ins x (ordA (y :: l)) = _
    rw [ih]
    simp only [ins, if_neg h.1]
theorem Nf.tail {x : Int} {l : List Int} (h : Nf (x :: l)) : Nf l := by
  cases l with
  | nil => trivial
  | cons y l => exact h.2
theorem ins_nf {x : Int} : ∀ {R : List Int}, Nf R → Nf (ins x R)
  | [], _ => trivial
  | [y], _ => by
    by_cases q : 0 < clsI y ∧ clsI y < clsI x
    · simp only [ins, if_pos q]; exact ⟨by omega, trivial⟩
    · simp only [ins, if_neg q]; exact ⟨q, trivial⟩
  | y :: z :: R, h => by
    by_cases q : 0 < clsI y ∧ clsI y < clsI x
    · have ih := ins_nf (x := x) h.2
      simp only [ins, if_pos q]
      by_cases q2 : 0 < clsI z ∧ clsI z < clsI x
      · simp only [ins, if_pos q2] at ih ⊢
        exact ⟨h.1, ih⟩
      · simp only [ins, if_neg q2] at ih ⊢
        exact ⟨by omega, ih⟩
    · simp only [ins, if_neg q]
      exact ⟨q, h⟩
theorem ord_nf : ∀ A : List Int, Nf (ordA A)
  | [] => trivial
  | x :: A => ins_nf (ord_nf A)
theorem ins_len (x : Int) : ∀ R : List Int, (ins x R).length = R.length + 1
  | [] => rfl
  | y :: R => by
    have := ins_len x R
    simp only [ins]; split <;> simp [this]
theorem ord_len : ∀ A : List Int, (ordA A).length = A.length
  | [] => rfl
  | x :: A => by show (ins x (ordA A)).length = _; rw [ins_len, ord_len A]; rfl
theorem ins_mem {x z : Int} : ∀ {R : List Int}, z ∈ ins x R ↔ z = x ∨ z ∈ R
  | [] => by simp [ins]
  | y :: R => by
    have := ins_mem (x := x) (z := z) (R := R)
    simp only [ins]; split
    · simp [this]; constructor
      · rintro (h | h | h) <;> simp [h]
      · rintro (h | h | h) <;> simp [h]
    · simp
theorem ord_mem {z : Int} : ∀ {A : List Int}, z ∈ ordA A ↔ z ∈ A
  | [] => Iff.rfl
  | x :: A => by show z ∈ ins x (ordA A) ↔ _; rw [ins_mem, ord_mem, List.mem_cons]
theorem nf_srt : ∀ {M : List Int}, Srt M → Nf M
  | [], _ => trivial
  | [x], _ => trivial
  | x :: y :: l, h => by
    have := List.pairwise_cons.1 h
    have h1 := this.1 y (by simp)
    exact ⟨by omega, nf_srt this.2⟩
theorem nf_app {c : Int} {M : List Int} (hc : clsI c = 0) : ∀ {F : List Int}, Nf F → Nf (c :: M) → Nf (F ++ c :: M)
  | [], _, h => h
  | [x], _, h => ⟨by omega, h⟩
  | x :: y :: F, h1, h2 => ⟨h1.1, nf_app (F := y :: F) hc h1.2 h2⟩
/-- a run: only its first may be of class 0 -/
def Run (G : List Int) : Prop := ∀ x ∈ G.tail, clsI x ≠ 0
theorem ins_sp {x : Int} : ∀ {R : List Int}, SP (x :: R) (ins x R)
  | [] => SP.refl _
  | y :: R => by
    simp only [ins]
    split
    · rename_i q
      have ih := ins_sp (x := x) (R := R)
      have h1 : SP (x :: y :: R) (y :: x :: R) := (SP.flip (a := [x]) (b := [y]) (fun a ha b hb => by simp at ha hb; subst ha hb; omega)).append (SP.refl R)
      exact h1.trans ((SP.refl [y]).append ih)
    · exact SP.refl _
theorem ord_sp : ∀ A : List Int, SP A (ordA A)
  | [] => SP.refl _
  | x :: A => ((SP.refl [x]).append (ord_sp A)).trans ins_sp
theorem ins_srt {x : Int} : ∀ {R : List Int}, Srt R → (∀ y ∈ R, clsI y ≠ 0) → Srt (ins x R)
  | [], _, _ => List.pairwise_singleton _ _
  | y :: R, h, hz => by
    have hp := List.pairwise_cons.1 h
    have hy := hz y (by simp)
    have hy0 := cls_range y
    simp only [ins]
    split
    · rename_i q
      refine List.pairwise_cons.2 ⟨fun z hz2 => ?_, ins_srt hp.2 fun z hz2 => hz z (by simp [hz2])⟩
      rcases ins_mem.1 hz2 with e | e
      · subst e; omega
      · exact hp.1 z e
    · rename_i q
      refine List.pairwise_cons.2 ⟨fun z hz2 => ?_, h⟩
      rcases List.mem_cons.1 hz2 with e | e
      · subst e; omega
      · have := hp.1 z e; omega
theorem ord_srt0 : ∀ {G : List Int}, (∀ x ∈ G, clsI x ≠ 0) → Srt (ordA G)
  | [], _ => List.Pairwise.nil
  | x :: G, h => ins_srt (ord_srt0 fun y hy => h y (by simp [hy])) fun y hy => h y (by simp [ord_mem.1 hy])
theorem run_ord {G M : List Int} (hG : Run G) (h1 : SP G M) (h2 : Srt M) : M = ordA G := by
  cases G with
  | nil => exact srt_unique h2 List.Pairwise.nil h1.symm
  | cons x G =>
    exact srt_unique h2 (ins_srt (ord_srt0 hG) fun y hy => hG y (ord_mem.1 hy)) (h1.symm.trans (ord_sp _))
/-! ### taken apart -/
theorem T_facts2 : (T.all fun t => splitI t.2.1 == none && splitI t.1 == none && decide (t.1 < t.2.2) && decide (t.2.2 < 768)) = true := by decide +kernel
theorem T_of2 {t : Int × Int × Int} (h : t ∈ T) : splitI t.2.1 = none ∧ splitI t.1 = none ∧ t.1 < t.2.2 ∧ t.2.2 < 768 := by
  have := List.all_eq_true.1 T_facts2 t h
  simpa [and_assoc] using this
theorem no_r2 {r : Int} (h : 4352 ≤ r) : T.find? (isR r) = none := by
  cases ht : T.find? (isR r) with
  | none => rfl
  | some t =>
    have := T_of (List.mem_of_find?_eq_some ht)
    have := find_r ht
    omega
theorem split_han {r : Int} (h : 4352 ≤ r) : splitI r = hanS r := by unfold splitI; rw [no_r2 h]
theorem split_no {r : Int} (h1 : 4352 ≤ r) (h2 : r < 44032) : splitI r = none := by rw [split_han h1]; unfold hanS; rw [if_neg (by omega)]
theorem cls_big {r : Int} (h : 809 ≤ r) : clsI r = 0 := by unfold clsI; rw [if_neg (by omega), if_neg (by omega)]
theorem cls_pos {r : Int} (h : clsI r ≠ 0) : 768 ≤ r ∧ r < 809 := by
  unfold clsI at h
  split at h
  · omega
  split at h
  · omega
  · exact absurd rfl h
theorem splitI_facts {r a b : Int} (h : splitI r = some (a, b)) : a < r ∧ 0 ≤ a ∧ splitI b = none ∧ (∀ a2 b2, splitI a = some (a2, b2) → splitI a2 = none) ∧ clsI r = 0 ∧ clsI a = 0 := by
  unfold splitI at h
  cases ht : T.find? (isR r) with
  | some t =>
    rw [ht] at h
    have ht1 := T_of (List.mem_of_find?_eq_some ht)
    have ht2 := T_of2 (List.mem_of_find?_eq_some ht)
    have hr := find_r ht
    simp only [Option.some.injEq, Prod.mk.injEq] at h
    obtain ⟨e1, e2⟩ := h
    subst e1 e2 hr
    exact ⟨ht2.2.2.1, ht1.2.2.2.2.1, ht2.1, fun a2 b2 h => by rw [ht2.2.1] at h; (cases h), ht1.2.2.2.2.2.2.2.2.1, ht1.2.2.2.2.2.2.2.2.2.1⟩
  | none =>
    rw [ht] at h
    simp only at h
    unfold hanS at h
    split at h
    · split at h
      · simp only [Option.some.injEq, Prod.mk.injEq] at h
        obtain ⟨e1, e2⟩ := h
        refine ⟨by omega, by omega, split_no (by omega) (by omega), fun a2 b2 h2 => ?_, cls_big (by omega), cls_big (by omega)⟩
        rw [split_han (by omega)] at h2
        unfold hanS at h2
        rw [if_pos (by omega), if_neg (by omega)] at h2
        simp only [Option.some.injEq, Prod.mk.injEq] at h2
        exact split_no (by omega) (by omega)
      · simp only [Option.some.injEq, Prod.mk.injEq] at h
        obtain ⟨e1, e2⟩ := h
        refine ⟨by omega, by omega, split_no (by omega) (by omega), fun a2 b2 h2 => ?_, cls_big (by omega), cls_big (by omega)⟩
        rw [split_no (by omega) (by omega)] at h2
        cases h2
    · cases h
def splits (r : Int) : List Int := match h : splitI r with
  | none => [r]
  | some (a, b) => splits a ++ [b]
termination_by r.toNat
decreasing_by have := splitI_facts h; omega
theorem splits_none {r : Int} (h : splitI r = none) : splits r = [r] := by
  unfold splits; split
  · rfl
  · rename_i h2; rw [h] at h2; cases h2
theorem splits_some {r a b : Int} (h : splitI r = some (a, b)) : splits r = splits a ++ [b] := by
  rw [splits]; split
  · rename_i h2; rw [h] at h2; cases h2
  · rename_i h2; rw [h] at h2; cases h2; rfl
theorem splits_len (r : Int) : 1 ≤ (splits r).length ∧ (splits r).length ≤ 3 := by
  cases h : splitI r with
  | none => rw [splits_none h]; simp
  | some p =>
    obtain ⟨a, b⟩ := p
    rw [splits_some h]
    cases h2 : splitI a with
    | none => rw [splits_none h2]; simp
    | some p2 =>
      obtain ⟨a2, b2⟩ := p2
      rw [splits_some h2, splits_none ((splitI_facts h).2.2.2.1 _ _ h2)]
      simp
theorem splits_mem {r : Int} : ∀ x ∈ splits r, splitI x = none := by
  cases h : splitI r with
  | none => intro x hx; rw [splits_none h] at hx; simp at hx; rw [hx]; exact h
  | some p =>
    obtain ⟨a, b⟩ := p
    intro x hx
    have hf := splitI_facts h
    rw [splits_some h] at hx
    cases h2 : splitI a with
    | none =>
      rw [splits_none h2] at hx
      simp at hx
      rcases hx with e | e
      · rw [e]; exact h2
      · rw [e]; exact hf.2.2.1
    | some p2 =>
      obtain ⟨a2, b2⟩ := p2
      have h3 := hf.2.2.2.1 _ _ h2
      rw [splits_some h2, splits_none h3] at hx
      simp at hx
      rcases hx with e | e | e
      · rw [e]; exact h3
      · rw [e]; exact (splitI_facts h2).2.2.1
      · rw [e]; exact hf.2.2.1
def spl (l : List Int) : List Int := l.flatMap splits
def apt (l : List Int) : List Int := ordA (spl l)
theorem spl_app (a b : List Int) : spl (a ++ b) = spl a ++ spl b := List.flatMap_append
theorem spl_len : ∀ l : List Int, (spl l).length ≤ 3 * l.length
  | [] => by simp [spl]
  | x :: l => by
    have := spl_len l
    have h := splits_len x
    unfold spl at *
    rw [List.flatMap_cons, List.length_append, List.length_cons]
    omega
theorem spl_mem {l : List Int} : ∀ x ∈ spl l, splitI x = none := by
  intro x hx
  unfold spl at hx
  rw [List.mem_flatMap] at hx
  obtain ⟨y, _, hy⟩ := hx
  exact splits_mem x hy
theorem spl_same {l : List Int} (h : ∀ x ∈ l, splitI x = none) : spl l = l := by
  induction l with
  | nil => rfl
  | cons x l ih =>
    unfold spl at *
    rw [List.flatMap_cons, splits_none (h x (by simp)), ih fun y hy => h y (by simp [hy])]
    rfl
theorem apt_mem {l : List Int} : ∀ x ∈ apt l, splitI x = none := fun x hx => spl_mem x (ord_mem.1 hx)
theorem apt_len (l : List Int) : (apt l).length ≤ 3 * l.length := by unfold apt; rw [ord_len]; exact spl_len l
theorem apt_nf (l : List Int) : Nf (apt l) := ord_nf _
end Go.Proofs.YtpmlggjhfiljmaaGreatDoor
/- Plain laws: characters put together. -/
namespace Go.Proofs.YtpmlggjhfiljmaaGreatDoor
set_option linter.unusedVariables false
set_option linter.unnecessarySimpa false
set_option linter.unusedSimpArgs false
abbrev TS := List Int × Option Int × List Int
def tO : TS → List Int
  | (P, none, Q) => P ++ Q
  | (P, some c, Q) => P ++ c :: Q
def tB : TS → Int
  | (_, none, _) => -1
  | (P, some _, _) => (P.length : Nat)
/-- what a character makes with the last one of class 0 -/
def mkO (c : Int) (Q : List Int) (r : Int) : Option Int := if Q = [] ∨ clsI (Q.getLastD 0) < clsI r then pairI c r else none
def tpush (P : List Int) (c : Option Int) (Q : List Int) (r : Int) : TS := if clsI r = 0 then (tO (P, c, Q), some r, []) else (P, c, Q ++ [r])
def tstep : TS → Int → TS
  | (P, none, Q), r => tpush P none Q r
  | (P, some c, Q), r => match mkO c Q r with
    | some x => (P, some x, Q)
    | none => tpush P (some c) Q r
def trun (l : List Int) : TS := l.foldl tstep ([], none, [])
def tog (l : List Int) : List Int := tO (trun l)
theorem trun_snoc (l : List Int) (r : Int) : trun (l ++ [r]) = tstep (trun l) r := by unfold trun; rw [List.foldl_append]; rfl
theorem tO_push (P : List Int) (c : Option Int) (Q : List Int) (r : Int) : tO (tpush P c Q r) = tO (P, c, Q) ++ [r] := by
  unfold tpush
  split
  · simp [tO]
  · cases c <;> simp [tO]
theorem tO_step_len (s : TS) (r : Int) : (tO (tstep s r)).length ≤ (tO s).length + 1 := by
  obtain ⟨P, c, Q⟩ := s
  cases c with
  | none => show (tO (tpush P none Q r)).length ≤ _; rw [tO_push]; simp
  | some c =>
    unfold tstep
    simp only
    split
    · simp [tO]
    · rw [tO_push]; simp
theorem trun_len (l : List Int) : (tO (trun l)).length ≤ l.length := by
  have key : ∀ (m : List Int) (s : TS), (tO (m.foldl tstep s)).length ≤ (tO s).length + m.length := by
    intro m
    induction m with
    | nil => intro s; simp
    | cons x m ih => intro s; have := ih (tstep s x); have := tO_step_len s x; simp only [List.foldl_cons, List.length_cons]; omega
  have := key l ([], none, [])
  simpa [trun, tO] using this
/-! ### facts of pairs -/
theorem pair_facts {c r x : Int} (h : pairI c r = some x) : clsI x = 0 ∧ clsI c = 0 ∧ (∀ y, pairI y x = none) ∧ (∀ q, clsI q ≠ 0 → pairI x q = none) := by
  unfold pairI at h
  cases ht : T.find? (isAB c r) with
  | some t =>
    rw [ht] at h
    simp only [Option.some.injEq] at h
    have h1 := T_of (List.mem_of_find?_eq_some ht)
    have h2 := T_of2 (List.mem_of_find?_eq_some ht)
    have h3 := find_ab ht
    subst h
    refine ⟨h1.2.2.2.2.2.2.2.2.1, by rw [← h3.1]; exact h1.2.2.2.2.2.2.2.2.2.1, fun y => ?_, fun q hq => ?_⟩
    · unfold pairI
      cases ht2 : T.find? (isAB y t.2.2) with
      | some t2 =>
        have k1 := T_of (List.mem_of_find?_eq_some ht2)
        have k2 := find_ab ht2
        omega
      | none => unfold hanI; simp only; rw [if_neg (by omega), if_neg (by omega)]
    · have hq2 := cls_pos hq
      unfold pairI
      cases ht2 : T.find? (isAB t.2.2 q) with
      | some t2 =>
        have k1 := T_of (List.mem_of_find?_eq_some ht2)
        have k2 := find_ab ht2
        omega
      | none => unfold hanI; simp only; rw [if_neg (by omega), if_neg (by omega)]
  | none =>
    rw [ht] at h
    unfold hanI at h
    simp only at h
    have key : ∀ z : Int, 44032 ≤ z → clsI z = 0 ∧ (∀ y, pairI y z = none) ∧ (∀ q, clsI q ≠ 0 → pairI z q = none) := by
      intro z hz
      refine ⟨cls_big (by omega), fun y => ?_, fun q hq => ?_⟩
      · unfold pairI; rw [no_ab (.inr (by omega))]; unfold hanI; simp only; rw [if_neg (by omega), if_neg (by omega)]
      · have hq2 := cls_pos hq
        unfold pairI; rw [no_ab (.inl (by omega))]; unfold hanI; simp only; rw [if_neg (by omega), if_neg (by omega)]
    split at h
    · simp only [Option.some.injEq] at h
      have k := key x (by omega)
      exact ⟨k.1, cls_big (by omega), k.2⟩
    split at h
    · simp only [Option.some.injEq] at h
      have k := key x (by omega)
      exact ⟨k.1, cls_big (by omega), k.2⟩
    · cases h
/-! ### put together twice -/
/-! ### put together, and taken apart -/
def Inv1 (D : List Int) (s : TS) : Prop :=
  ordA (spl (tO s)) = ordA D ∧ Srt s.2.2 ∧ (∀ y ∈ s.2.2, splitI y = none ∧ clsI y ≠ 0) ∧ (∀ y ∈ s.2.2, ∃ d D', D = D' ++ [d] ∧ clsI y ≤ clsI d)
theorem move_back (A : List Int) {r : Int} : ∀ (Q : List Int), (∀ y ∈ Q, 0 < clsI y ∧ clsI y < clsI r) → ordA (A ++ r :: Q) = ordA (A ++ (Q ++ [r]))
  | [], _ => rfl
  | y :: Q, h => by
    rw [ordA_swap A Q (h y (by simp))]
    have := move_back (A ++ [y]) Q fun z hz => h z (by simp [hz])
    simpa using this
theorem srt_last {Q : List Int} (h : Srt Q) : ∀ y ∈ Q, clsI y ≤ clsI (Q.getLastD 0) := by
  intro y hy
  rcases List.eq_nil_or_concat Q with e | ⟨L, z, e⟩
  · rw [e] at hy; simp at hy
  · have e : Q = L ++ [z] := by simpa using e
    subst e
    have hl : (L ++ [z]).getLastD 0 = z := by simp [List.getLastD_eq_getLast?]
    rw [hl]
    rcases List.mem_append.1 hy with hy | hy
    · exact h.cross y hy z (by simp)
    · simp at hy; rw [hy]; exact Int.le_refl _
theorem nf_last {D' : List Int} {d r : Int} : ∀ {E : List Int}, E = D' ++ [d] ++ [r] → Nf E → ¬ (0 < clsI r ∧ clsI r < clsI d) := by
  induction D' with
  | nil => intro E e h; subst e; exact h.1
  | cons x D' ih =>
    intro E e h
    subst e
    exact ih rfl (Nf.tail h)
theorem nf_pre {D R : List Int} : Nf (D ++ R) → Nf D := by
  induction D with
  | nil => intro _; trivial
  | cons x D ih =>
    intro h
    cases D with
    | nil => trivial
    | cons y D => exact ⟨h.1, ih h.2⟩
theorem cls_pos2 {r : Int} (h : clsI r ≠ 0) : 0 < clsI r := by have := (cls_range r).1; omega
theorem inv1_step {D : List Int} {s : TS} {r : Int} (h : Inv1 D s) (hr : splitI r = none) (hn : Nf (D ++ [r])) : Inv1 (D ++ [r]) (tstep s r) := by
  obtain ⟨P, c, Q⟩ := s
  obtain ⟨h1, h2, h3, h4⟩ := h
  simp only at h2 h3 h4
  have hle : clsI r ≠ 0 → ∀ y ∈ Q, clsI y ≤ clsI r := fun hc y hy => by
    obtain ⟨d, D', e, hd⟩ := h4 y hy
    have := nf_last (D' := D') (d := d) (r := r) (by rw [e]) hn
    have := cls_pos2 hc
    omega
  have push : Inv1 (D ++ [r]) (tpush P c Q r) := by
    refine ⟨?_, ?_⟩
    · rw [tO_push, spl_app]
      have : spl [r] = [r] := spl_same fun x hx => by simp at hx; rw [hx]; exact hr
      rw [this]
      exact ordA_congr h1 [r]
    · unfold tpush
      by_cases hc : clsI r = 0
      · rw [if_pos hc]
        exact ⟨List.Pairwise.nil, fun y hy => by simp at hy, fun y hy => by simp at hy⟩
      · rw [if_neg hc]
        refine ⟨Srt.append h2 (List.pairwise_singleton _ _) fun y hy z hz => ?_, fun y hy => ?_, fun y hy => ?_⟩
        · simp at hz; rw [hz]; exact hle hc y hy
        · rcases List.mem_append.1 hy with hy | hy
          · exact h3 y hy
          · simp at hy; rw [hy]; exact ⟨hr, hc⟩
        · refine ⟨r, D, rfl, ?_⟩
          rcases List.mem_append.1 hy with hy | hy
          · exact hle hc y hy
          · simp at hy; rw [hy]; exact Int.le_refl _
  cases c with
  | none => exact push
  | some c =>
    cases hm : mkO c Q r with
    | none =>
      have e2 : tstep (P, some c, Q) r = tpush P (some c) Q r := by unfold tstep; simp only [hm]
      rw [e2]; exact push
    | some x =>
      have e2 : tstep (P, some c, Q) r = (P, some x, Q) := by unfold tstep; simp only [hm]
      rw [e2]
      unfold mkO at hm
      split at hm
      · rename_i hcond
        have hs := split_pair hm
        have hlt : ∀ y ∈ Q, clsI y < clsI r := fun y hy => by
          rcases hcond with e | e
          · rw [e] at hy; simp at hy
          · have := srt_last h2 y hy; omega
        have hq : spl Q = Q := spl_same fun y hy => (h3 y hy).1
        refine ⟨?_, h2, h3, fun y hy => ⟨r, D, rfl, by have := hlt y hy; omega⟩⟩
        have e3 : spl (tO (P, some x, Q)) = (spl P ++ splits c) ++ r :: Q := by
          show spl (P ++ x :: Q) = _
          rw [spl_app]
          have : spl (x :: Q) = splits x ++ spl Q := by unfold spl; rw [List.flatMap_cons]
          rw [this, splits_some hs, hq]
          simp
        have e4 : spl (tO (P, some c, Q)) = (spl P ++ splits c) ++ Q := by
          show spl (P ++ c :: Q) = _
          rw [spl_app]
          have : spl (c :: Q) = splits c ++ spl Q := by unfold spl; rw [List.flatMap_cons]
          rw [this, hq]
          simp
        rw [e3, move_back _ Q fun y hy => ⟨cls_pos2 (h3 y hy).2, hlt y hy⟩, ← List.append_assoc, ← e4]
        exact ordA_congr h1 [r]
      · cases hm
theorem inv1_fold : ∀ (m D : List Int) (s : TS), Inv1 D s → (∀ x ∈ m, splitI x = none) → Nf (D ++ m) → Inv1 (D ++ m) (m.foldl tstep s)
  | [], D, s, h, _, _ => by simpa using h
  | r :: m, D, s, h, hm, hn => by
    have e : D ++ r :: m = D ++ [r] ++ m := by simp
    rw [e] at hn ⊢
    exact inv1_fold m (D ++ [r]) (tstep s r) (inv1_step h (hm r (by simp)) (nf_pre hn)) (fun x hx => hm x (by simp [hx])) hn
/-- what is taken apart, put together, and taken apart, is the same again -/
theorem apt_tog {a : List Int} (h1 : ∀ x ∈ a, splitI x = none) (h2 : Nf a) : apt (tog a) = a := by
  have h := inv1_fold a [] ([], none, []) ⟨rfl, List.Pairwise.nil, fun y hy => by simp at hy, fun y hy => by simp at hy⟩ h1 (by simpa using h2)
  have := h.1
  rw [List.nil_append, nf_ord h2] at this
  exact this
/-! ### what is in it -/
theorem tog_mem {p : Int → Prop} (hp : ∀ c r x, pairI c r = some x → p x) {l : List Int} (hl : ∀ x ∈ l, p x) : ∀ x ∈ tO (trun l), p x := by
  have key : ∀ (m : List Int) (s : TS), (∀ x ∈ m, p x) → (∀ x ∈ tO s, p x) → ∀ x ∈ tO (m.foldl tstep s), p x := by
    intro m
    induction m with
    | nil => intro s _ h; exact h
    | cons r m ih =>
      intro s hm h
      refine ih (tstep s r) (fun x hx => hm x (by simp [hx])) ?_
      have hr := hm r (by simp)
      obtain ⟨P, c, Q⟩ := s
      have hpush : ∀ x ∈ tO (tpush P c Q r), p x := by
        rw [tO_push]
        intro x hx
        rcases List.mem_append.1 hx with hx | hx
        · exact h x hx
        · simp at hx; rw [hx]; exact hr
      cases c with
      | none => exact hpush
      | some c =>
        cases hm2 : mkO c Q r with
        | none =>
          have e2 : tstep (P, some c, Q) r = tpush P (some c) Q r := by unfold tstep; simp only [hm2]
          rw [e2]; exact hpush
        | some x =>
          have e2 : tstep (P, some c, Q) r = (P, some x, Q) := by unfold tstep; simp only [hm2]
          rw [e2]
          have hp2 : pairI c r = some x := by
            unfold mkO at hm2
            split at hm2
            · exact hm2
            · cases hm2
          intro y hy
          have hy : y ∈ P ++ x :: Q := hy
          rcases List.mem_append.1 hy with hy | hy
          · exact h y (by show y ∈ P ++ c :: Q; simp [hy])
          · rcases List.mem_cons.1 hy with e | hy
            · rw [e]; exact hp _ _ _ hp2
            · exact h y (by show y ∈ P ++ c :: Q; simp [hy])
  exact key l ([], none, []) hl (fun x hx => by simp [tO] at hx)
end Go.Proofs.YtpmlggjhfiljmaaGreatDoor
