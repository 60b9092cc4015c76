/- Plain laws of layer 3: characters taken apart, ordered, put together. -/
import Derived.Test.YtmfmnlioojkjgaaSrtA
namespace Go.Proofs.Ytmfmnlioojkjgaa
set_option linter.unusedVariables false
set_option linter.unnecessarySimpa false
set_option linter.unusedSimpArgs false

/-! ### the canonical order -/
def ins (x : Int) : List Int → List Int
  | [] => [x]
  | y :: ys => if 0 < clsI y ∧ clsI y < clsI x then y :: ins x ys else x :: y :: ys
def ordA : List Int → List Int
  | [] => []
  | x :: l => ins x (ordA l)
/-- no two neighbours are in the wrong order -/
def Nf : List Int → Prop
  | [] => True
  | [_] => True
  | x :: y :: l => ¬ (0 < clsI y ∧ clsI y < clsI x) ∧ Nf (y :: l)
theorem ins_swap {x y : Int} (h : 0 < clsI y ∧ clsI y < clsI x) : ∀ R : List Int, ins x (ins y R) = ins y (ins x R)
  | [] => by
    have h2 : ¬ (0 < clsI x ∧ clsI x < clsI y) := by omega
    simp [ins, h, h2]
  | z :: R => by
    have ih := ins_swap h R
    have h2 : ¬ (0 < clsI x ∧ clsI x < clsI y) := by omega
    by_cases q1 : 0 < clsI z ∧ clsI z < clsI y
    · have q2 : 0 < clsI z ∧ clsI z < clsI x := by omega
      simp [ins, q1, q2, ih]
    · by_cases q2 : 0 < clsI z ∧ clsI z < clsI x
      · simp only [ins, if_pos q2, if_neg q1, if_pos h]
      · simp only [ins, if_neg q2, if_neg q1, if_pos h, if_neg h2]
theorem ordA_pre (P : List Int) {Z Z' : List Int} (h : ordA Z = ordA Z') : ordA (P ++ Z) = ordA (P ++ Z') := by
  induction P with
  | nil => exact h
  | cons x P ih => exact congrArg (ins x) ih
theorem ordA_swap (P S : List Int) {x y : Int} (h : 0 < clsI y ∧ clsI y < clsI x) : ordA (P ++ x :: y :: S) = ordA (P ++ y :: x :: S) := ordA_pre P (ins_swap h (ordA S))
theorem ins_app {x : Int} : ∀ (R S : List Int), ordA (ins x R ++ S) = ordA (x :: R ++ S)
  | [], S => rfl
  | y :: R, S => by
    by_cases q : 0 < clsI y ∧ clsI y < clsI x
    · have ih := ins_app (x := x) R S
      simp only [ins, if_pos q]
      have e1 : ordA (y :: ins x R ++ S) = ordA (y :: (x :: R ++ S)) := ordA_pre [y] ih
      rw [e1]
      exact (ordA_swap [] (R ++ S) q).symm
    · simp only [ins, if_neg q]
theorem ordA_app : ∀ (A S : List Int), ordA (ordA A ++ S) = ordA (A ++ S)
  | [], S => rfl
  | x :: A, S => by
    show ordA (ins x (ordA A) ++ S) = _
    rw [ins_app]
    exact ordA_pre [x] (ordA_app A S)
theorem ordA_idem (A : List Int) : ordA (ordA A) = ordA A := by have := ordA_app A []; simpa using this
theorem ordA_congr {A B : List Int} (h : ordA A = ordA B) (S : List Int) : ordA (A ++ S) = ordA (B ++ S) := by rw [← ordA_app A, ← ordA_app B, h]
theorem nf_ord : ∀ {A : List Int}, Nf A → ordA A = A
  | [], _ => rfl
  | [x], _ => rfl
  | x :: y :: l, h => by
    have ih := nf_ord h.2
    show ins x (ordA (y :: l)) = _
    rw [ih]
    simp only [ins, if_neg h.1]
theorem Nf.tail {x : Int} {l : List Int} (h : Nf (x :: l)) : Nf l := by
  cases l with
  | nil => trivial
  | cons y l => exact h.2
theorem ins_nf {x : Int} : ∀ {R : List Int}, Nf R → Nf (ins x R)
  | [], _ => trivial
  | [y], _ => by
    by_cases q : 0 < clsI y ∧ clsI y < clsI x
    · simp only [ins, if_pos q]; exact ⟨by omega, trivial⟩
    · simp only [ins, if_neg q]; exact ⟨q, trivial⟩
  | y :: z :: R, h => by
    by_cases q : 0 < clsI y ∧ clsI y < clsI x
    · have ih := ins_nf (x := x) h.2
      simp only [ins, if_pos q]
      by_cases q2 : 0 < clsI z ∧ clsI z < clsI x
      · simp only [ins, if_pos q2] at ih ⊢
        exact ⟨h.1, ih⟩
      · simp only [ins, if_neg q2] at ih ⊢
        exact ⟨by omega, ih⟩
    · simp only [ins, if_neg q]
      exact ⟨q, h⟩
theorem ord_nf : ∀ A : List Int, Nf (ordA A)
  | [] => trivial
  | x :: A => ins_nf (ord_nf A)
theorem ins_len (x : Int) : ∀ R : List Int, (ins x R).length = R.length + 1
  | [] => rfl
  | y :: R => by
    have := ins_len x R
    simp only [ins]; split <;> simp [this]
theorem ord_len : ∀ A : List Int, (ordA A).length = A.length
  | [] => rfl
  | x :: A => by show (ins x (ordA A)).length = _; rw [ins_len, ord_len A]; rfl
theorem ins_mem {x z : Int} : ∀ {R : List Int}, z ∈ ins x R ↔ z = x ∨ z ∈ R
  | [] => by simp [ins]
  | y :: R => by
    have := ins_mem (x := x) (z := z) (R := R)
    simp only [ins]; split
    · simp [this]; constructor
      · rintro (h | h | h) <;> simp [h]
      · rintro (h | h | h) <;> simp [h]
    · simp
theorem ord_mem {z : Int} : ∀ {A : List Int}, z ∈ ordA A ↔ z ∈ A
  | [] => Iff.rfl
  | x :: A => by show z ∈ ins x (ordA A) ↔ _; rw [ins_mem, ord_mem, List.mem_cons]
theorem ord_split {c : Int} (hc : clsI c = 0) (S : List Int) : ∀ A : List Int, ordA (A ++ c :: S) = ordA A ++ ordA (c :: S)
  | [] => rfl
  | x :: A => by
    show ins x (ordA (A ++ c :: S)) = ins x (ordA A) ++ _
    rw [ord_split hc S A]
    have hcs : ∃ R, ordA (c :: S) = c :: R := by
      show ∃ R, ins c (ordA S) = c :: R
      cases ordA S with
      | nil => exact ⟨[], rfl⟩
      | cons y R => simp only [ins]; rw [if_neg (by omega)]; exact ⟨_, rfl⟩
    obtain ⟨R, hR⟩ := hcs
    rw [hR]
    generalize ordA A = B
    induction B with
    | nil => simp only [List.nil_append, ins]; rw [if_neg (by omega)]; rfl
    | cons y B ih =>
      simp only [List.cons_append, ins]
      split
      · rw [ih]; rfl
      · rfl
theorem nf_srt : ∀ {M : List Int}, Srt M → Nf M
  | [], _ => trivial
  | [x], _ => trivial
  | x :: y :: l, h => by
    have := List.pairwise_cons.1 h
    have h1 := this.1 y (by simp)
    exact ⟨by omega, nf_srt this.2⟩
theorem nf_app {c : Int} {M : List Int} (hc : clsI c = 0) : ∀ {F : List Int}, Nf F → Nf (c :: M) → Nf (F ++ c :: M)
  | [], _, h => h
  | [x], _, h => ⟨by omega, h⟩
  | x :: y :: F, h1, h2 => ⟨h1.1, nf_app (F := y :: F) hc h1.2 h2⟩
/-- a run: only its first may be of class 0 -/
def Run (G : List Int) : Prop := ∀ x ∈ G.tail, clsI x ≠ 0
theorem ins_sp {x : Int} : ∀ {R : List Int}, SP (x :: R) (ins x R)
  | [] => SP.refl _
  | y :: R => by
    simp only [ins]
    split
    · rename_i q
      have ih := ins_sp (x := x) (R := R)
      have h1 : SP (x :: y :: R) (y :: x :: R) := (SP.flip (a := [x]) (b := [y]) (fun a ha b hb => by simp at ha hb; subst ha hb; omega)).append (SP.refl R)
      exact h1.trans ((SP.refl [y]).append ih)
    · exact SP.refl _
theorem ord_sp : ∀ A : List Int, SP A (ordA A)
  | [] => SP.refl _
  | x :: A => ((SP.refl [x]).append (ord_sp A)).trans ins_sp
theorem ins_srt {x : Int} : ∀ {R : List Int}, Srt R → (∀ y ∈ R, clsI y ≠ 0) → Srt (ins x R)
  | [], _, _ => List.pairwise_singleton _ _
  | y :: R, h, hz => by
    have hp := List.pairwise_cons.1 h
    have hy := hz y (by simp)
    have hy0 := cls_range y
    simp only [ins]
    split
    · rename_i q
      refine List.pairwise_cons.2 ⟨fun z hz2 => ?_, ins_srt hp.2 fun z hz2 => hz z (by simp [hz2])⟩
      rcases ins_mem.1 hz2 with e | e
      · subst e; omega
      · exact hp.1 z e
    · rename_i q
      refine List.pairwise_cons.2 ⟨fun z hz2 => ?_, h⟩
      rcases List.mem_cons.1 hz2 with e | e
      · subst e; omega
      · have := hp.1 z e; omega
theorem ord_srt0 : ∀ {G : List Int}, (∀ x ∈ G, clsI x ≠ 0) → Srt (ordA G)
  | [], _ => List.Pairwise.nil
  | x :: G, h => ins_srt (ord_srt0 fun y hy => h y (by simp [hy])) fun y hy => h y (by simp [ord_mem.1 hy])
theorem run_ord {G M : List Int} (hG : Run G) (h1 : SP G M) (h2 : Srt M) : M = ordA G := by
  cases G with
  | nil => exact srt_unique h2 List.Pairwise.nil h1.symm
  | cons x G =>
    exact srt_unique h2 (ins_srt (ord_srt0 hG) fun y hy => hG y (ord_mem.1 hy)) (h1.symm.trans (ord_sp _))

/-! ### taken apart -/
theorem T_facts2 : (T.all fun t => splitI t.2.1 == none && splitI t.1 == none && decide (t.1 < t.2.2) && decide (t.2.2 < 768)) = true := by decide +kernel
theorem T_of2 {t : Int × Int × Int} (h : t ∈ T) : splitI t.2.1 = none ∧ splitI t.1 = none ∧ t.1 < t.2.2 ∧ t.2.2 < 768 := by
  have := List.all_eq_true.1 T_facts2 t h
  simpa [and_assoc] using this
theorem no_r2 {r : Int} (h : 4352 ≤ r) : T.find? (isR r) = none := by
  cases ht : T.find? (isR r) with
  | none => rfl
  | some t =>
    have := T_of (List.mem_of_find?_eq_some ht)
    have := find_r ht
    omega
theorem split_han {r : Int} (h : 4352 ≤ r) : splitI r = hanS r := by unfold splitI; rw [no_r2 h]
theorem split_no {r : Int} (h1 : 4352 ≤ r) (h2 : r < 44032) : splitI r = none := by rw [split_han h1]; unfold hanS; rw [if_neg (by omega)]
theorem cls_big {r : Int} (h : 809 ≤ r) : clsI r = 0 := by unfold clsI; rw [if_neg (by omega), if_neg (by omega)]
theorem cls_pos {r : Int} (h : clsI r ≠ 0) : 768 ≤ r ∧ r < 809 := by
  unfold clsI at h
  split at h
  · omega
  split at h
  · omega
  · exact absurd rfl h
theorem splitI_facts {r a b : Int} (h : splitI r = some (a, b)) : a < r ∧ 0 ≤ a ∧ splitI b = none ∧ (∀ a2 b2, splitI a = some (a2, b2) → splitI a2 = none) ∧ clsI r = 0 ∧ clsI a = 0 := by
  unfold splitI at h
  cases ht : T.find? (isR r) with
  | some t =>
    rw [ht] at h
    have ht1 := T_of (List.mem_of_find?_eq_some ht)
    have ht2 := T_of2 (List.mem_of_find?_eq_some ht)
    have hr := find_r ht
    simp only [Option.some.injEq, Prod.mk.injEq] at h
    obtain ⟨e1, e2⟩ := h
    subst e1 e2 hr
    exact ⟨ht2.2.2.1, ht1.2.2.2.2.1, ht2.1, fun a2 b2 h => by rw [ht2.2.1] at h; (cases h), ht1.2.2.2.2.2.2.2.2.1, ht1.2.2.2.2.2.2.2.2.2.1⟩
  | none =>
    rw [ht] at h
    simp only at h
    unfold hanS at h
    split at h
    · split at h
      · simp only [Option.some.injEq, Prod.mk.injEq] at h
        obtain ⟨e1, e2⟩ := h
        refine ⟨by omega, by omega, split_no (by omega) (by omega), fun a2 b2 h2 => ?_, cls_big (by omega), cls_big (by omega)⟩
        rw [split_han (by omega)] at h2
        unfold hanS at h2
        rw [if_pos (by omega), if_neg (by omega)] at h2
        simp only [Option.some.injEq, Prod.mk.injEq] at h2
        exact split_no (by omega) (by omega)
      · simp only [Option.some.injEq, Prod.mk.injEq] at h
        obtain ⟨e1, e2⟩ := h
        refine ⟨by omega, by omega, split_no (by omega) (by omega), fun a2 b2 h2 => ?_, cls_big (by omega), cls_big (by omega)⟩
        rw [split_no (by omega) (by omega)] at h2
        cases h2
    · cases h
def splits (r : Int) : List Int := match h : splitI r with
  | none => [r]
  | some (a, b) => splits a ++ [b]
termination_by r.toNat
decreasing_by have := splitI_facts h; omega
theorem splits_none {r : Int} (h : splitI r = none) : splits r = [r] := by
  unfold splits; split
  · rfl
  · rename_i h2; rw [h] at h2; cases h2
theorem splits_some {r a b : Int} (h : splitI r = some (a, b)) : splits r = splits a ++ [b] := by
  rw [splits]; split
  · rename_i h2; rw [h] at h2; cases h2
  · rename_i h2; rw [h] at h2; cases h2; rfl
theorem splits_len (r : Int) : 1 ≤ (splits r).length ∧ (splits r).length ≤ 3 := by
  cases h : splitI r with
  | none => rw [splits_none h]; simp
  | some p =>
    obtain ⟨a, b⟩ := p
    rw [splits_some h]
    cases h2 : splitI a with
    | none => rw [splits_none h2]; simp
    | some p2 =>
      obtain ⟨a2, b2⟩ := p2
      rw [splits_some h2, splits_none ((splitI_facts h).2.2.2.1 _ _ h2)]
      simp
theorem splits_mem {r : Int} : ∀ x ∈ splits r, splitI x = none := by
  cases h : splitI r with
  | none => intro x hx; rw [splits_none h] at hx; simp at hx; rw [hx]; exact h
  | some p =>
    obtain ⟨a, b⟩ := p
    intro x hx
    have hf := splitI_facts h
    rw [splits_some h] at hx
    cases h2 : splitI a with
    | none =>
      rw [splits_none h2] at hx
      simp at hx
      rcases hx with e | e
      · rw [e]; exact h2
      · rw [e]; exact hf.2.2.1
    | some p2 =>
      obtain ⟨a2, b2⟩ := p2
      have h3 := hf.2.2.2.1 _ _ h2
      rw [splits_some h2, splits_none h3] at hx
      simp at hx
      rcases hx with e | e | e
      · rw [e]; exact h3
      · rw [e]; exact (splitI_facts h2).2.2.1
      · rw [e]; exact hf.2.2.1
theorem splits_head {r : Int} (h : clsI r = 0) : ∃ c R, splits r = c :: R ∧ clsI c = 0 := by
  cases h1 : splitI r with
  | none => exact ⟨r, [], splits_none h1, h⟩
  | some p =>
    obtain ⟨a, b⟩ := p
    have hf := splitI_facts h1
    cases h2 : splitI a with
    | none => exact ⟨a, [b], by rw [splits_some h1, splits_none h2]; rfl, hf.2.2.2.2.2⟩
    | some p2 =>
      obtain ⟨a2, b2⟩ := p2
      exact ⟨a2, [b2, b], by rw [splits_some h1, splits_some h2, splits_none (hf.2.2.2.1 _ _ h2)]; rfl, (splitI_facts h2).2.2.2.2.2⟩
def spl (l : List Int) : List Int := l.flatMap splits
def apt (l : List Int) : List Int := ordA (spl l)
theorem spl_app (a b : List Int) : spl (a ++ b) = spl a ++ spl b := List.flatMap_append
theorem spl_len : ∀ l : List Int, (spl l).length ≤ 3 * l.length
  | [] => by simp [spl]
  | x :: l => by
    have := spl_len l
    have h := splits_len x
    unfold spl at *
    rw [List.flatMap_cons, List.length_append, List.length_cons]
    omega
theorem spl_mem {l : List Int} : ∀ x ∈ spl l, splitI x = none := by
  intro x hx
  unfold spl at hx
  rw [List.mem_flatMap] at hx
  obtain ⟨y, _, hy⟩ := hx
  exact splits_mem x hy
theorem spl_same {l : List Int} (h : ∀ x ∈ l, splitI x = none) : spl l = l := by
  induction l with
  | nil => rfl
  | cons x l ih =>
    unfold spl at *
    rw [List.flatMap_cons, splits_none (h x (by simp)), ih fun y hy => h y (by simp [hy])]
    rfl
theorem apt_mem {l : List Int} : ∀ x ∈ apt l, splitI x = none := fun x hx => spl_mem x (ord_mem.1 hx)
theorem apt_len (l : List Int) : (apt l).length ≤ 3 * l.length := by unfold apt; rw [ord_len]; exact spl_len l
theorem apt_apt (l : List Int) : apt (apt l) = apt l := by
  have : spl (apt l) = apt l := spl_same apt_mem
  unfold apt at *
  rw [this, ordA_idem]
theorem apt_nf (l : List Int) : Nf (apt l) := ord_nf _
/-- what begins with class 0 is taken apart by itself -/
theorem apt_joins {a b : List Int} {c : Int} (hc : clsI c = 0) : apt (a ++ c :: b) = apt a ++ apt (c :: b) := by
  obtain ⟨x, R, hx, hx0⟩ := splits_head hc
  have e : spl (c :: b) = x :: (R ++ spl b) := by unfold spl; rw [List.flatMap_cons, hx]; rfl
  unfold apt
  rw [spl_app, e, ord_split hx0]
/-- a pair in place of what it makes is taken apart alike -/
theorem apt_same {l1 l2 : List Int} {r p q : Int} (h : splitI r = some (p, q)) : apt (l1 ++ r :: l2) = apt (l1 ++ p :: q :: l2) := by
  unfold apt
  congr 1
  unfold spl
  rw [List.flatMap_append, List.flatMap_append, List.flatMap_cons, List.flatMap_cons, List.flatMap_cons, splits_some h, splits_none (splitI_facts h).2.2.1]
  simp
end Go.Proofs.Ytmfmnlioojkjgaa
