/- Contracts that the law rests on, part 15 of 50 (EscQ). Each states its own conditions. -/
import Derived.Test.YtpmlggjhfiljmaaGreatDoorB14
namespace Go.Proofs.YtpmlggjhfiljmaaGreatDoor
set_option linter.unusedVariables false
set_option linter.unnecessarySimpa false
set_option linter.unusedSimpArgs false

def PartOK (enc : Int) (p : Part) : Prop := (0 ≤ p.1 ∧ isC p.1 = true ∧ (encC enc p.1).isSome = true ∧ p.2.1 = encB enc p.1 ∧ 1 ≤ p.2.1.size) ∨ (p.1 = -1 ∧ p.2.1.size = 1)
theorem encC_isC {enc r : Int} {l : List Int} (h : encC enc r = some l) : isC r = true := by
  unfold encC at h
  split at h
  · assumption
  · cases h
theorem extract_full (s : ByteArray) : s.extract 0 s.size = s := by simp
theorem extract_cat (s : ByteArray) {p q : Nat} (h1 : p ≤ q) (h2 : q ≤ s.size) : s.extract p q ++ s.extract q s.size = s.extract p s.size := by
  rw [ByteArray.extract_append_extract]
  congr 1 <;> omega
theorem prt_ok {enc : Int} {s : ByteArray} (h0 : 0 ≤ enc) (h8 : enc ≤ 8) : ∀ (xs : List (Int × Int)) (p : Nat), p ≤ s.size → Chain enc s p xs s.size → (∀ q ∈ prt s p xs, PartOK enc q) ∧ catB (prt s p xs) = s.extract p s.size
  | [], p, hp, h => by
    have h : p = s.size := h
    subst h
    refine ⟨fun q hq => by simp [prt] at hq, ?_⟩
    simp [prt, catB]
  | x :: l, p, hp, h => by
    obtain ⟨hlt, hx, hc⟩ := h
    rcases next_back h0 h8 hlt with ⟨r, m, e, hr, hm, hs⟩ | ⟨e, _⟩
    · have hb := encC_bytes hm
      rw [hx] at e
      subst e
      simp only at hc
      have hq : p + ((m.length : Nat) : Int).toNat = p + m.length := by rw [Int.toNat_natCast]
      rw [hq] at hc
      have ih := prt_ok h0 h8 l (p + m.length) hs.1 hc
      have hex : s.extract p (p + m.length) = strOfNums m := (stands_eq hb.1 hs).symm
      have hsz : (strOfNums m).size = m.length := strOfNums_size m
      refine ⟨fun q hq2 => ?_, ?_⟩
      · simp only [prt, hq] at hq2
        rcases List.mem_cons.1 hq2 with e | hq2
        · subst e
          left
          refine ⟨hr, encC_isC hm, by rw [hm]; rfl, ?_, ?_⟩
          · simp only [hex, encB, hm]
          · simp only [hex]; omega
        · exact ih.1 q hq2
      · simp only [prt, hq, catB, ih.2]
        exact extract_cat s (by omega) hs.1
    · rw [hx] at e
      subst e
      have hc : Chain enc s (p + 1) l s.size := hc
      have ih := prt_ok h0 h8 l (p + 1) (by omega) hc
      have hsz : (s.extract p (p + 1)).size = 1 := by rw [ByteArray.size_extract]; omega
      refine ⟨fun q hq2 => ?_, ?_⟩
      · have hq2 : q ∈ (-1, s.extract p (p + 1), decide (p + 1 = s.size)) :: prt s (p + 1) l := hq2
        rcases List.mem_cons.1 hq2 with e | hq2
        · subst e; right; exact ⟨rfl, hsz⟩
        · exact ih.1 q hq2
      · have : catB (prt s p ((-1, 1) :: l)) = s.extract p (p + 1) ++ catB (prt s (p + 1) l) := rfl
        rw [this, ih.2]
        exact extract_cat s (by omega) (by omega)
theorem cls_low {r : Int} (h : r < 768) : clsI r = 0 := by unfold clsI; rw [if_neg (by omega), if_neg (by omega)]
theorem split_low {r : Int} (h : r < 128) : splitI r = none := by
  unfold splitI
  cases ht : T.find? (isR r) with
  | some t =>
    have := T_of (List.mem_of_find?_eq_some ht)
    have := find_r ht
    omega
  | none => simp only; unfold hanS; rw [if_neg (by omega)]
theorem nf_zero : ∀ {o : List Int}, (∀ r ∈ o, clsI r = 0) → Nf o
  | [], _ => trivial
  | [_], _ => trivial
  | x :: y :: l, h => ⟨by have := h y (by simp); omega, nf_zero fun r hr => h r (by simp [List.mem_cons.1 hr])⟩
theorem apt_low {o : List Int} (h : ∀ r ∈ o, r < 128) : apt o = o := by
  unfold apt
  rw [spl_same fun x hx => split_low (h x hx)]
  exact nf_ord (nf_zero fun r hr => cls_low (by have := h r hr; omega))
theorem res_37 {r : Int} (h : resB r = false) : r ≠ 37 := by
  intro e
  subst e
  exact absurd h (by decide)
theorem hid_facts {enc : Int} {p : Part} (hp : PartOK enc p) (h : hidB p = false) : 0 ≤ p.1 ∧ p.1 ≠ 37 ∧ isC p.1 = true ∧ (encC enc p.1).isSome = true ∧ p.2.1 = encB enc p.1 := by
  unfold hidB at h
  simp only [Bool.or_eq_false_iff, decide_eq_false_iff_not] at h
  rcases hp with ⟨h1, h2, h3, h4, _⟩ | ⟨h1, _⟩
  · exact ⟨h1, res_37 h.1.2, h2, h3, h4⟩
  · omega
theorem part_size {enc : Int} {p : Part} (hp : PartOK enc p) : 1 ≤ p.2.1.size := by
  rcases hp with h | h
  · exact h.2.2.2.2
  · omega
theorem encK_all {enc : Int} {o : List Int} (h : ∀ r ∈ o, (encC enc r).isSome = true) : encAll enc o = true := by unfold encAll; rw [List.all_eq_true]; exact h
/-- characters stand as they are -/
theorem rs_plain {enc : Int} (hid : Part → Bool) (hh : ∀ p, hid p = false → hidB p = false ∧ (enc = 8 → p.1 < 128)) (ps : List Part) (A : ByteArray) (f : Nat) (raw : ByteArray)
    (hps : ∀ p ∈ ps, PartOK enc p) (hf : (prL id hid false ps []).length ≤ f) : rsS enc (A ++ joinS (prL id hid false ps [])) f A.size [] raw true = (raw ++ catB ps, true) := by
  have := rs_main enc id hid false (fun o ps => (∀ r ∈ o, isC r = true ∧ r ≠ 37 ∧ (encC enc r).isSome = true ∧ (enc = 8 → r < 128)) ∧ ∀ p ∈ ps, PartOK enc p) ?_ ?_ ?_ ps [] A f raw ⟨fun r hr => by simp at hr, hps⟩ hf
  · rw [this]; simp [encL]
  · intro o p ps hI h
    simp at h
    obtain ⟨h1, h2⟩ := hh p h
    have h3 := hid_facts (hI.2 p (by simp)) h1
    refine ⟨⟨fun r hr => ?_, fun q hq => hI.2 q (by simp [hq])⟩, h3.2.2.2.2⟩
    rcases List.mem_append.1 hr with hr | hr
    · exact hI.1 r hr
    · simp at hr; rw [hr]; exact ⟨h3.2.2.1, h3.2.1, h3.2.2.2.1, h2⟩
  · intro o p ps hI
    exact ⟨⟨fun r hr => by simp at hr, fun q hq => hI.2 q (by simp [hq])⟩, part_size (hI.2 p (by simp))⟩
  · intro o ps hI
    have ho : opn enc o = o := by
      unfold opn
      split
      · rename_i h8; exact apt_low fun r hr => (hI.1 r hr).2.2.2 h8
      · rfl
    refine ⟨fun c hc => ⟨(hI.1 c hc).1, (hI.1 c hc).2.1⟩, ?_, ?_⟩
    · show encL enc (opn enc o) = _; rw [ho]
    · show encAll enc (opn enc o) = _; rw [ho]; exact encK_all fun r hr => (hI.1 r hr).2.2.1
theorem enc8_some {r : Int} (h : isC r = true) : (encC 8 r).isSome = true := by unfold encC; rw [if_pos h, if_pos (by decide)]; rfl
theorem pair_char {c r x : Int} (h : pairI c r = some x) : isC x = true ∧ x ≠ 37 := by
  have h1 := pairI_pos h
  have h2 : 128 ≤ x := by
    unfold pairI at h
    cases ht : T.find? (isAB c r) with
    | some t =>
      rw [ht] at h
      have := T_of (List.mem_of_find?_eq_some ht)
      simp only [Option.some.injEq] at h
      omega
    | none =>
      rw [ht] at h
      unfold hanI at h
      simp only at h
      split at h
      · simp only [Option.some.injEq] at h; omega
      split at h
      · simp only [Option.some.injEq] at h; omega
      · cases h
  have h3 : x < 55296 := by omega
  exact ⟨isC_of (by omega), by omega⟩
theorem nf_app_right {A B : List Int} (h : Nf (A ++ B)) : Nf B := by
  induction A with
  | nil => exact h
  | cons x A ih => exact ih (Nf.tail h)
/-- a HFS disk's regular name -/
theorem rs_regular (ps : List Part) (A : ByteArray) (f : Nat) (raw : ByteArray) (hps : ∀ p ∈ ps, PartOK 8 p) (hr : regB ps = true) (hf : (prL tog hidB true ps []).length ≤ f) :
    rsS 8 (A ++ joinS (prL tog hidB true ps [])) f A.size [] raw true = (raw ++ catB ps, true) := by
  unfold regB at hr
  simp only [Bool.and_eq_true, decide_eq_true_eq] at hr
  have hsp : ∀ p ∈ ps, splitI p.1 = none := fun p hp => by
    have : p.1 ∈ apt (runesOf ps) := by rw [hr.2]; unfold runesOf; exact List.mem_map_of_mem hp
    exact apt_mem _ this
  have hnf : Nf (runesOf ps) := by have := apt_nf (runesOf ps); rwa [hr.2] at this
  have := rs_main 8 tog hidB true (fun o ps => (∀ r ∈ o, isC r = true ∧ r ≠ 37 ∧ splitI r = none) ∧ Nf (o ++ runesOf ps) ∧ ∀ p ∈ ps, PartOK 8 p ∧ splitI p.1 = none) ?_ ?_ ?_ ps [] A f raw ⟨fun r hr => by simp at hr, hnf, fun p hp => ⟨hps p hp, hsp p hp⟩⟩ hf
  · rw [this]; simp [encL]
  · intro o p ps hI h
    simp only [Bool.or_eq_false_iff] at h
    have h3 := hid_facts (hI.2.2 p (by simp)).1 h.1
    refine ⟨⟨fun r hr => ?_, by simpa [runesOf] using hI.2.1, fun q hq => hI.2.2 q (by simp [hq])⟩, h3.2.2.2.2⟩
    rcases List.mem_append.1 hr with hr | hr
    · exact hI.1 r hr
    · simp at hr; rw [hr]; exact ⟨h3.2.2.1, h3.2.1, (hI.2.2 p (by simp)).2⟩
  · intro o p ps hI
    have h4 : Nf (p.1 :: runesOf ps) := nf_app_right (A := o) (by simpa [runesOf] using hI.2.1)
    exact ⟨⟨fun r hr => by simp at hr, Nf.tail h4, fun q hq => hI.2.2 q (by simp [hq])⟩, part_size (hI.2.2 p (by simp)).1⟩
  · intro o ps hI
    have ho : opn 8 (tog o) = o := by
      unfold opn
      rw [if_pos rfl]
      exact apt_tog (fun x hx => (hI.1 x hx).2.2) (nf_pre hI.2.1)
    refine ⟨fun c hc => ?_, ?_, ?_⟩
    · exact tog_mem (p := fun x => isC x = true ∧ x ≠ 37) (fun c r x h => pair_char h) (fun x hx => ⟨(hI.1 x hx).1, (hI.1 x hx).2.1⟩) c hc
    · show encL 8 (opn 8 (tog o)) = _; rw [ho]
    · show encAll 8 (opn 8 (tog o)) = _; rw [ho]; exact encK_all fun r hr => enc8_some (hI.1 r hr).1
theorem str_facts {p : Part} (h : strB p = false) : hidB p = false ∧ p.1 < 128 := by
  unfold strB at h
  simp only [Bool.or_eq_false_iff, decide_eq_false_iff_not] at h
  exact ⟨h.1, by omega⟩
/-- what is presented is restored -/
theorem rs_present {enc : Int} {s : ByteArray} {xs : List (Int × Int)} (h0 : 0 ≤ enc) (h8 : enc ≤ 8) (hc : Chain enc s 0 xs s.size) {f : Nat} (hf : (presL enc (prt s 0 xs)).length ≤ f) :
    rsS enc (joinS (presL enc (prt s 0 xs))) f 0 [] ByteArray.empty true = (s, true) := by
  obtain ⟨hok, hcat⟩ := prt_ok h0 h8 xs 0 (Nat.zero_le _) hc
  rw [extract_full] at hcat
  generalize prt s 0 xs = ps at hok hcat hf
  have fin : ∀ L : List Int, rsS enc (ByteArray.empty ++ joinS L) f ByteArray.empty.size [] ByteArray.empty true = (ByteArray.empty ++ catB ps, true) → rsS enc (joinS L) f 0 [] ByteArray.empty true = (s, true) := fun L h => by
    rw [ByteArray.empty_append, ByteArray.empty_append, hcat] at h
    exact h
  unfold presL at hf ⊢
  by_cases h : enc ≠ 8
  · rw [if_pos h] at hf ⊢
    exact fin _ (rs_plain hidB (fun p hp => ⟨hp, fun e => absurd e h⟩) ps _ f _ hok hf)
  · rw [if_neg h] at hf ⊢
    have e8 : enc = 8 := by omega
    subst e8
    by_cases hr : regB ps = true
    · rw [if_pos hr] at hf ⊢
      exact fin _ (rs_regular ps _ f _ hok hr hf)
    · rw [if_neg hr] at hf ⊢
      exact fin _ (rs_plain strB (fun p hp => ⟨(str_facts hp).1, fun _ => (str_facts hp).2⟩) ps _ f _ hok hf)

/-! ### as put together as can be -/
theorem pair_low {c b : Int} (h : b < 768) : pairI c b = none := by
  unfold pairI
  cases ht : T.find? (isAB c b) with
  | some t =>
    have := T_of (List.mem_of_find?_eq_some ht)
    have := find_ab ht
    omega
  | none => simp only; unfold hanI; rw [if_neg (by omega), if_neg (by omega)]
theorem pair_zero {b y : Int} (hb : b < 4352) (hy : clsI y = 0) : pairI b y = none := by
  unfold pairI
  cases ht : T.find? (isAB b y) with
  | some t =>
    have h1 := T_of (List.mem_of_find?_eq_some ht)
    have h2 := find_ab ht
    exact absurd hy (by rw [← h2.2]; exact h1.2.2.2.2.2.2.2.2.2.2.1)
  | none => simp only; unfold hanI; rw [if_neg (by omega), if_neg (by omega)]
theorem step_low (s : TS) {b : Int} (h : b < 768) : tstep s b = (tO s, some b, []) := by
  obtain ⟨P, c, Q⟩ := s
  have hc := cls_low h
  cases c with
  | none => show tpush P none Q b = _; unfold tpush; rw [if_pos hc]
  | some c =>
    have : mkO c Q b = none := by unfold mkO; split; exact pair_low h; rfl
    unfold tstep
    simp only [this]
    unfold tpush; rw [if_pos hc]
theorem tog_low (Z : List Int) : ∀ E : List Int, (∀ b ∈ E, b < 768) → tog (Z ++ E) = tog Z ++ E := by
  intro E
  induction E generalizing Z with
  | nil => intro _; simp
  | cons b E ih =>
    intro h
    have e : Z ++ b :: E = Z ++ [b] ++ E := by simp
    rw [e, ih (Z ++ [b]) fun x hx => h x (by simp [hx])]
    have : tog (Z ++ [b]) = tog Z ++ [b] := by
      unfold tog
      rw [trun_snoc, step_low _ (h b (by simp))]
      rfl
    rw [this]; simp
theorem fold_pre (P0 : List Int) : ∀ (m : List Int) (P : List Int) (c : Int) (Q : List Int), ∃ P1 c1 Q1, m.foldl tstep (P, some c, Q) = (P1, some c1, Q1) ∧ m.foldl tstep (P0 ++ P, some c, Q) = (P0 ++ P1, some c1, Q1)
  | [], P, c, Q => ⟨P, c, Q, rfl, rfl⟩
  | r :: m, P, c, Q => by
    have hstep : ∃ P1 c1 Q1, tstep (P, some c, Q) r = (P1, some c1, Q1) ∧ tstep (P0 ++ P, some c, Q) r = (P0 ++ P1, some c1, Q1) := by
      unfold tstep
      simp only
      cases mkO c Q r with
      | some x => exact ⟨P, x, Q, rfl, rfl⟩
      | none =>
        simp only
        unfold tpush
        by_cases h : clsI r = 0
        · rw [if_pos h, if_pos h]; exact ⟨tO (P, some c, Q), r, [], rfl, by simp [tO]⟩
        · rw [if_neg h, if_neg h]; exact ⟨P, c, Q ++ [r], rfl, rfl⟩
    obtain ⟨P1, c1, Q1, e1, e2⟩ := hstep
    rw [List.foldl_cons, List.foldl_cons, e1, e2]
    exact fold_pre P0 m P1 c1 Q1
def Stops (X : List Int) : Prop := X = [] ∨ ∃ X' b, X = X' ++ [b] ∧ b < 128
theorem tog_app {X Y : List Int} (hX : Stops X) (hY : Y = [] ∨ ∃ y Y', Y = y :: Y' ∧ clsI y = 0) : tog (X ++ Y) = tog X ++ tog Y := by
  rcases hX with rfl | ⟨X', b, rfl, hb⟩
  · show tog Y = [] ++ tog Y; rw [List.nil_append]
  rcases hY with rfl | ⟨y, Y', rfl, hy⟩
  · have : tog [] = [] := rfl
    rw [this]; simp
  · have e1 : trun (X' ++ [b]) = (tO (trun X'), some b, []) := by rw [trun_snoc, step_low _ (by omega)]
    have e2 : tstep (trun (X' ++ [b])) y = (tO (trun (X' ++ [b])), some y, []) := by
      rw [e1]
      have : mkO b [] y = none := by unfold mkO; rw [if_pos (.inl rfl)]; exact pair_zero (by omega) hy
      unfold tstep
      simp only [this]
      unfold tpush; rw [if_pos hy]
    have e3 : trun (y :: Y') = Y'.foldl tstep ([], some y, []) := by
      unfold trun
      rw [List.foldl_cons]
      have : tstep ([], none, []) y = ([], some y, []) := by show tpush [] none [] y = _; unfold tpush; rw [if_pos hy]; rfl
      rw [this]
    obtain ⟨P1, c1, Q1, f1, f2⟩ := fold_pre (tO (trun (X' ++ [b]))) Y' [] y []
    rw [List.append_nil] at f2
    have e4 : trun (X' ++ [b] ++ y :: Y') = (tO (trun (X' ++ [b])) ++ P1, some c1, Q1) := by
      rw [trun_app, List.foldl_cons, e2, f2]
    unfold tog
    rw [e4, e3, f1]
    simp [tO]
theorem tog_head {y : Int} {Y : List Int} (hy : clsI y = 0) : ∃ z Z, tog (y :: Y) = z :: Z ∧ clsI z = 0 := by
  have key : ∀ (m : List Int) (P : List Int) (c : Int) (Q : List Int), (∃ z Z, P ++ [c] = z :: Z ∧ clsI z = 0) → ∃ z Z, tO (m.foldl tstep (P, some c, Q)) = z :: Z ∧ clsI z = 0 := by
    intro m
    induction m with
    | nil =>
      intro P c Q h
      obtain ⟨z, Z, e, hz⟩ := h
      refine ⟨z, Z ++ Q, ?_, hz⟩
      show P ++ c :: Q = _
      have : P ++ c :: Q = (P ++ [c]) ++ Q := by simp
      rw [this, e]; rfl
    | cons r m ih =>
      intro P c Q h
      obtain ⟨z, Z, e, hz⟩ := h
      rw [List.foldl_cons]
      cases hm : mkO c Q r with
      | some x =>
        have e2 : tstep (P, some c, Q) r = (P, some x, Q) := by unfold tstep; simp only [hm]
        rw [e2]
        refine ih P x Q ?_
        have hp2 : pairI c r = some x := by
          unfold mkO at hm
          split at hm
          · exact hm
          · cases hm
        cases P with
        | nil => exact ⟨x, [], rfl, (pair_facts hp2).1⟩
        | cons p P => simp at e; exact ⟨p, P ++ [x], rfl, by rw [e.1]; exact hz⟩
      | none =>
        have e2 : tstep (P, some c, Q) r = tpush P (some c) Q r := by unfold tstep; simp only [hm]
        rw [e2]
        unfold tpush
        by_cases hr : clsI r = 0
        · rw [if_pos hr]
          refine ih _ r [] ?_
          refine ⟨z, Z ++ Q ++ [r], ?_, hz⟩
          show P ++ c :: Q ++ [r] = _
          have : P ++ c :: Q ++ [r] = (P ++ [c]) ++ Q ++ [r] := by simp
          rw [this, e]; rfl
        · rw [if_neg hr]
          exact ih P c _ ⟨z, Z, e, hz⟩
  have e3 : trun (y :: Y) = Y.foldl tstep ([], some y, []) := by
    unfold trun
    rw [List.foldl_cons]
    have : tstep ([], none, []) y = ([], some y, []) := by show tpush [] none [] y = _; unfold tpush; rw [if_pos hy]; rfl
    rw [this]
  unfold tog
  rw [e3]
  exact key Y [] y [] ⟨y, [], rfl, hy⟩
theorem escI_low {c : Int} (hc : 0 ≤ c ∧ c < 256) : ∀ b ∈ escI c, b < 128 := by
  intro b hb
  have h1 := hex_facts (d := c / 16) (by omega)
  have h2 := hex_facts (d := c % 16) (by omega)
  simp only [escI, List.mem_cons, List.not_mem_nil, or_false] at hb
  rcases hb with e | e | e <;> subst e
  · decide
  · exact h1.2.2.1
  · exact h2.2.2.1
theorem esc_low (b : ByteArray) : ∀ x ∈ esc b, x < 128 := by
  intro x hx
  unfold esc at hx
  rw [List.mem_flatMap] at hx
  obtain ⟨c, hc, hx⟩ := hx
  refine escI_low ?_ x hx
  simp only [bl, List.mem_map] at hc
  obtain ⟨y, _, rfl⟩ := hc
  have := y.toNat_lt
  omega
theorem esc_ne {b : ByteArray} (h : 1 ≤ b.size) : ∃ E x, esc b = E ++ [x] ∧ x < 128 := by
  have hne : esc b ≠ [] := by
    unfold esc
    have : (bl b).length = b.size := by simp [bl]
    cases hb : bl b with
    | nil => rw [hb] at this; simp at this; omega
    | cons c l => rw [List.flatMap_cons]; simp [escI]
  rcases List.eq_nil_or_concat (esc b) with e | ⟨L, z, e⟩
  · exact absurd e hne
  · have e : esc b = L ++ [z] := by simpa using e
    exact ⟨L, z, e, esc_low b z (by rw [e]; simp)⟩
theorem tog_pres (J : List Int → List Int) (hid : Part → Bool) (mk : Bool) (I : List Int → List Part → Prop)
    (hshow : ∀ o p ps, I o (p :: ps) → (hid p || (mk && o.isEmpty && decide (clsI p.1 ≠ 0))) = false → I (o ++ [p.1]) ps)
    (hhide : ∀ o p ps, I o (p :: ps) → I [] ps ∧ 1 ≤ p.2.1.size)
    (hJ : ∀ o ps, I o ps → tog (J o) = J o ∧ (J o = [] ∨ ∃ y Y, J o = y :: Y ∧ clsI y = 0)) :
    ∀ (ps : List Part) (o X : List Int), I o ps → Stops X → tog X = X → tog (X ++ prL J hid mk ps o) = X ++ prL J hid mk ps o
  | [], o, X, hI, hX, hT => by
    obtain ⟨h1, h2⟩ := hJ o [] hI
    show tog (X ++ J o) = _
    rw [tog_app hX h2, hT, h1]; rfl
  | p :: ps, o, X, hI, hX, hT => by
    cases hh : (hid p || (mk && o.isEmpty && decide (clsI p.1 ≠ 0))) with
    | false =>
      have e : prL J hid mk (p :: ps) o = prL J hid mk ps (o ++ [p.1]) := by rw [prL, hh]; simp
      rw [e]
      exact tog_pres J hid mk I hshow hhide hJ ps _ X (hshow o p ps hI hh) hX hT
    | true =>
      obtain ⟨hI2, hb⟩ := hhide o p ps hI
      obtain ⟨h1, h2⟩ := hJ o (p :: ps) hI
      have e : prL J hid mk (p :: ps) o = J o ++ (esc p.2.1 ++ prL J hid mk ps []) := by rw [prL, hh]; simp
      have e1 : tog (X ++ J o) = X ++ J o := by rw [tog_app hX h2, hT, h1]
      have e2 : tog (X ++ J o ++ esc p.2.1) = X ++ J o ++ esc p.2.1 := by rw [tog_low _ _ fun x hx => by have := esc_low _ x hx; omega, e1]
      obtain ⟨E, x, e3, hx⟩ := esc_ne hb
      have := tog_pres J hid mk I hshow hhide hJ ps [] (X ++ J o ++ esc p.2.1) hI2 (.inr ⟨X ++ J o ++ E, x, by rw [e3]; simp, hx⟩) e2
      rw [e]
      simpa using this
theorem tog_low2 {o : List Int} (h : ∀ r ∈ o, r < 768) : tog o = o := by have := tog_low [] o h; have e : tog [] = [] := rfl; rw [e] at this; simpa using this
theorem pres_tog {s : ByteArray} {xs : List (Int × Int)} (hc : Chain 8 s 0 xs s.size) : tog (presL 8 (prt s 0 xs)) = presL 8 (prt s 0 xs) := by
  obtain ⟨hok, _⟩ := prt_ok (enc := 8) (by decide) (by decide) xs 0 (Nat.zero_le _) hc
  generalize prt s 0 xs = ps at hok
  unfold presL
  rw [if_neg (by decide)]
  by_cases hr : regB ps = true
  · rw [if_pos hr]
    have := tog_pres tog hidB true (fun o ps => (o = [] ∨ ∃ y Y, o = y :: Y ∧ clsI y = 0) ∧ ∀ p ∈ ps, PartOK 8 p) ?_ ?_ ?_ ps [] [] ⟨.inl rfl, hok⟩ (.inl rfl) rfl
    · simpa using this
    · intro o p ps hI h
      refine ⟨.inr ?_, fun q hq => hI.2 q (by simp [hq])⟩
      rcases hI.1 with e | ⟨y, Y, e, hy⟩
      · subst e
        simp at h
        exact ⟨p.1, [], rfl, h.2⟩
      · exact ⟨y, Y ++ [p.1], by rw [e]; rfl, hy⟩
    · intro o p ps hI
      exact ⟨⟨.inl rfl, fun q hq => hI.2 q (by simp [hq])⟩, part_size (hI.2 p (by simp))⟩
    · intro o ps hI
      refine ⟨tog_tog o, ?_⟩
      rcases hI.1 with e | ⟨y, Y, e, hy⟩
      · left; rw [e]; rfl
      · right; rw [e]; exact tog_head hy
  · rw [if_neg hr]
    have := tog_pres id strB false (fun o ps => (∀ r ∈ o, r < 128) ∧ ∀ p ∈ ps, PartOK 8 p) ?_ ?_ ?_ ps [] [] ⟨fun r hr => by simp at hr, hok⟩ (.inl rfl) rfl
    · simpa using this
    · intro o p ps hI h
      simp at h
      refine ⟨fun r hr => ?_, fun q hq => hI.2 q (by simp [hq])⟩
      rcases List.mem_append.1 hr with hr | hr
      · exact hI.1 r hr
      · simp at hr; rw [hr]; exact (str_facts h).2
    · intro o p ps hI
      exact ⟨⟨fun r hr => by simp at hr, fun q hq => hI.2 q (by simp [hq])⟩, part_size (hI.2 p (by simp))⟩
    · intro o ps hI
      refine ⟨tog_low2 fun r hr => by have := hI.1 r hr; omega, ?_⟩
      cases o with
      | nil => left; rfl
      | cons y Y => right; exact ⟨y, Y, rfl, cls_low (by have := hI.1 y (by simp); omega)⟩
/-- all that is presented are characters -/
theorem pres_chars {enc : Int} {s : ByteArray} {xs : List (Int × Int)} (h0 : 0 ≤ enc) (h8 : enc ≤ 8) (hc : Chain enc s 0 xs s.size) : ∀ c ∈ presL enc (prt s 0 xs), isC c = true := by
  obtain ⟨hok, _⟩ := prt_ok h0 h8 xs 0 (Nat.zero_le _) hc
  generalize prt s 0 xs = ps at hok
  have key : ∀ (J : List Int → List Int) (hid : Part → Bool) (mk : Bool), (∀ p, hid p = false → hidB p = false) → (∀ o, (∀ r ∈ o, isC r = true) → ∀ r ∈ J o, isC r = true) →
      ∀ (ps : List Part) (o : List Int), (∀ p ∈ ps, PartOK enc p) → (∀ r ∈ o, isC r = true) → ∀ c ∈ prL J hid mk ps o, isC c = true := by
    intro J hid mk hh hJ ps
    induction ps with
    | nil => intro o _ ho c hc; exact hJ o ho c hc
    | cons p ps ih =>
      intro o hp ho c hc
      rw [prL] at hc
      split at hc
      · rcases List.mem_append.1 hc with hc | hc
        · exact hJ o ho c hc
        · rcases List.mem_append.1 hc with hc | hc
          · have h1 := esc_low _ c hc
            have h2 : 0 ≤ c := by
              unfold esc at hc
              rw [List.mem_flatMap] at hc
              obtain ⟨d, hd, hc⟩ := hc
              simp only [bl, List.mem_map] at hd
              obtain ⟨y, _, rfl⟩ := hd
              have := y.toNat_lt
              have g1 := hex_facts (d := (y.toNat : Int) / 16) (by omega)
              have g2 := hex_facts (d := (y.toNat : Int) % 16) (by omega)
              simp only [escI, List.mem_cons, List.not_mem_nil, or_false] at hc
              rcases hc with e | e | e <;> omega
            exact isC_of (by omega)
          · exact ih [] (fun q hq => hp q (by simp [hq])) (fun r hr => by simp at hr) c hc
      · rename_i hcond
        simp only [Bool.or_eq_true, not_or, Bool.not_eq_true] at hcond
        refine ih (o ++ [p.1]) (fun q hq => hp q (by simp [hq])) (fun r hr => ?_) c hc
        rcases List.mem_append.1 hr with hr | hr
        · exact ho r hr
        · simp at hr; rw [hr]; exact (hid_facts (hp p (by simp)) (hh p hcond.1)).2.2.1
  have hid' : ∀ o : List Int, (∀ r ∈ o, isC r = true) → ∀ r ∈ id o, isC r = true := fun o h => h
  have htog : ∀ o : List Int, (∀ r ∈ o, isC r = true) → ∀ r ∈ tog o, isC r = true := fun o h => tog_mem (p := fun x => isC x = true) (fun c r x hx => (pair_char hx).1) h
  unfold presL
  split
  · exact key id hidB false (fun p h => h) hid' ps [] hok (fun r hr => by simp at hr)
  split
  · exact key tog hidB true (fun p h => h) htog ps [] hok (fun r hr => by simp at hr)
  · exact key id strB false (fun p h => (str_facts h).1) hid' ps [] hok (fun r hr => by simp at hr)
theorem tog_len2 (o : List Int) : (tog o).length ≤ o.length := trun_len o
theorem esc_len (b : ByteArray) : (esc b).length = 3 * b.size := by
  have hel : ∀ l : List Int, (l.flatMap escI).length = 3 * l.length := by
    intro l
    induction l with
    | nil => rfl
    | cons x l ih => rw [List.flatMap_cons, List.length_append, ih]; simp [escI]; omega
  unfold esc
  rw [hel]
  simp [bl]
theorem pres_len {enc : Int} {s : ByteArray} {xs : List (Int × Int)} (h0 : 0 ≤ enc) (h8 : enc ≤ 8) (hc : Chain enc s 0 xs s.size) : (presL enc (prt s 0 xs)).length ≤ 3 * s.size := by
  obtain ⟨hok, hcat⟩ := prt_ok h0 h8 xs 0 (Nat.zero_le _) hc
  rw [extract_full] at hcat
  have hsz : s.size = (catB (prt s 0 xs)).size := by rw [hcat]
  rw [hsz]
  clear hsz hcat
  generalize prt s 0 xs = ps at hok
  have key : ∀ (J : List Int → List Int) (hid : Part → Bool) (mk : Bool), (∀ o, (J o).length ≤ o.length) →
      ∀ (ps : List Part) (o : List Int), (∀ p ∈ ps, PartOK enc p) → (prL J hid mk ps o).length ≤ o.length + 3 * (catB ps).size := by
    intro J hid mk hJ ps
    induction ps with
    | nil => intro o _; exact Nat.le_trans (hJ o) (by omega)
    | cons p ps ih =>
      intro o hp
      have h1 := part_size (hp p (by simp))
      rw [prL]
      simp only [catB, ByteArray.size_append]
      split
      · have := ih [] fun q hq => hp q (by simp [hq])
        have := hJ o
        have := esc_len p.2.1
        simp only [List.length_append, List.length_nil] at *
        omega
      · have := ih (o ++ [p.1]) fun q hq => hp q (by simp [hq])
        simp only [List.length_append, List.length_singleton] at this
        omega
  unfold presL
  split
  · have := key id hidB false (fun o => Nat.le_refl _) ps [] hok; simpa using this
  split
  · have := key tog hidB true tog_len2 ps [] hok; simpa using this
  · have := key id strB false (fun o => Nat.le_refl _) ps [] hok; simpa using this
end Go.Proofs.YtpmlggjhfiljmaaGreatDoor
