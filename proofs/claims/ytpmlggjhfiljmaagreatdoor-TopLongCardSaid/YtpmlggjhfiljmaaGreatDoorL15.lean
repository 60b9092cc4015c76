/- Part 15 of what the law rests on. -/
import Derived.Test.YtpmlggjhfiljmaaGreatDoorL09
import Derived.Test.YtpmlggjhfiljmaaGreatDoorL14
set_option linter.all false
namespace Go.Proofs.YtpmlggjhfiljmaaGreatDoor
def PartOK (enc : Int) (p : Part) : Prop := (0 ≤ p.1 ∧ isC p.1 = true ∧ (encC enc p.1).isSome = true ∧ p.2.1 = encB enc p.1 ∧ 1 ≤ p.2.1.size) ∨ (p.1 = -1 ∧ p.2.1.size = 1)
theorem encC_isC {enc r : Int} {l : List Int} (h : encC enc r = some l) : isC r = true := by
  unfold encC at h
  split at h
  · assumption
  · cases h
theorem extract_full (s : ByteArray) : s.extract 0 s.size = s := by simp
theorem extract_cat (s : ByteArray) {p q : Nat} (h1 : p ≤ q) (h2 : q ≤ s.size) : s.extract p q ++ s.extract q s.size = s.extract p s.size := by
  rw [ByteArray.extract_append_extract]
  congr 1 <;> omega
theorem prt_ok {enc : Int} {s : ByteArray} (h0 : 0 ≤ enc) (h8 : enc ≤ 8) : ∀ (xs : List (Int × Int)) (p : Nat), p ≤ s.size → Chain enc s p xs s.size → (∀ q ∈ prt s p xs, PartOK enc q) ∧ catB (prt s p xs) = s.extract p s.size
  | [], p, hp, h => by
    have h : p = s.size := h
    subst h
    refine ⟨fun q hq => by simp [prt] at hq, ?_⟩
    simp [prt, catB]
  | x :: l, p, hp, h => by
    obtain ⟨hlt, hx, hc⟩ := h
    rcases next_back h0 h8 hlt with ⟨r, m, e, hr, hm, hs⟩ | ⟨e, _⟩
    · have hb := encC_bytes hm
      rw [hx] at e
      subst e
      simp only at hc
      have hq : p + ((m.length : Nat) : Int).toNat = p + m.length := by rw [Int.toNat_natCast]
      rw [hq] at hc
      have ih := prt_ok h0 h8 l (p + m.length) hs.1 hc
      have hex : s.extract p (p + m.length) = strOfNums m := (stands_eq hb.1 hs).symm
      have hsz : (strOfNums m).size = m.length := strOfNums_size m
      refine ⟨fun q hq2 => ?_, ?_⟩
      · simp only [prt, hq] at hq2
        rcases List.mem_cons.1 hq2 with e | hq2
        · subst e
          left
          refine ⟨hr, encC_isC hm, by rw [hm]; rfl, ?_, ?_⟩
          · simp only [hex, encB, hm]
          · simp only [hex]; omega
        · exact ih.1 q hq2
      · simp only [prt, hq, catB, ih.2]
        exact extract_cat s (by omega) hs.1
    · rw [hx] at e
      subst e
      have hc : Chain enc s (p + 1) l s.size := hc
      have ih := prt_ok h0 h8 l (p + 1) (by omega) hc
      have hsz : (s.extract p (p + 1)).size = 1 := by rw [ByteArray.size_extract]; omega
      refine ⟨fun q hq2 => ?_, ?_⟩
      · have hq2 : q ∈ (-1, s.extract p (p + 1), decide (p + 1 = s.size)) :: prt s (p + 1) l := hq2
        rcases List.mem_cons.1 hq2 with e | hq2
        · subst e; right; exact ⟨rfl, hsz⟩
        · exact ih.1 q hq2
      · have : catB (prt s p ((-1, 1) :: l)) = s.extract p (p + 1) ++ catB (prt s (p + 1) l) := rfl
        rw [this, ih.2]
        exact extract_cat s (by omega) (by omega)
theorem cls_low {r : Int} (h : r < 768) : clsI r = 0 := by unfold clsI; rw [if_neg (by omega), if_neg (by omega)]
theorem split_low {r : Int} (h : r < 128) : splitI r = none := by
  unfold splitI
  cases ht : T.find? (isR r) with
  | some t =>
    have := T_of (List.mem_of_find?_eq_some ht)
    have := find_r ht
    omega
  | none => simp only; unfold hanS; rw [if_neg (by omega)]
theorem nf_zero : ∀ {o : List Int}, (∀ r ∈ o, clsI r = 0) → Nf o
  | [], _ => trivial
  | [_], _ => trivial
  | x :: y :: l, h => ⟨by have := h y (by simp); omega, nf_zero fun r hr => h r (by simp [List.mem_cons.1 hr])⟩
theorem apt_low {o : List Int} (h : ∀ r ∈ o, r < 128) : apt o = o := by
  unfold apt
  rw [spl_same fun x hx => split_low (h x hx)]
  exact nf_ord (nf_zero fun r hr => cls_low (by have := h r hr; omega))
theorem res_37 {r : Int} (h : resB r = false) : r ≠ 37 := by
  intro e
  subst e
  exact absurd h (by decide)
theorem hid_facts {enc : Int} {p : Part} (hp : PartOK enc p) (h : hidB p = false) : 0 ≤ p.1 ∧ p.1 ≠ 37 ∧ isC p.1 = true ∧ (encC enc p.1).isSome = true ∧ p.2.1 = encB enc p.1 := by
  unfold hidB at h
  simp only [Bool.or_eq_false_iff, decide_eq_false_iff_not] at h
  rcases hp with ⟨h1, h2, h3, h4, _⟩ | ⟨h1, _⟩
  · exact ⟨h1, res_37 h.1.2, h2, h3, h4⟩
  · omega
theorem part_size {enc : Int} {p : Part} (hp : PartOK enc p) : 1 ≤ p.2.1.size := by
  rcases hp with h | h
  · exact h.2.2.2.2
  · omega
theorem encK_all {enc : Int} {o : List Int} (h : ∀ r ∈ o, (encC enc r).isSome = true) : encAll enc o = true := by unfold encAll; rw [List.all_eq_true]; exact h
theorem rs_plain {enc : Int} (hid : Part → Bool) (hh : ∀ p, hid p = false → hidB p = false ∧ (enc = 8 → p.1 < 128)) (ps : List Part) (A : ByteArray) (f : Nat) (raw : ByteArray)
    (hps : ∀ p ∈ ps, PartOK enc p) (hf : (prL id hid false ps []).length ≤ f) : rsS enc (A ++ joinS (prL id hid false ps [])) f A.size [] raw true = (raw ++ catB ps, true) := by
  have := rs_main enc id hid false (fun o ps => (∀ r ∈ o, isC r = true ∧ r ≠ 37 ∧ (encC enc r).isSome = true ∧ (enc = 8 → r < 128)) ∧ ∀ p ∈ ps, PartOK enc p) ?_ ?_ ?_ ps [] A f raw ⟨fun r hr => by simp at hr, hps⟩ hf
  · rw [this]; simp [encL]
  · intro o p ps hI h
    simp at h
    obtain ⟨h1, h2⟩ := hh p h
    have h3 := hid_facts (hI.2 p (by simp)) h1
    refine ⟨⟨fun r hr => ?_, fun q hq => hI.2 q (by simp [hq])⟩, h3.2.2.2.2⟩
    rcases List.mem_append.1 hr with hr | hr
    · exact hI.1 r hr
    · simp at hr; rw [hr]; exact ⟨h3.2.2.1, h3.2.1, h3.2.2.2.1, h2⟩
  · intro o p ps hI
    exact ⟨⟨fun r hr => by simp at hr, fun q hq => hI.2 q (by simp [hq])⟩, part_size (hI.2 p (by simp))⟩
  · intro o ps hI
    have ho : opn enc o = o := by
      unfold opn
      split
      · rename_i h8; exact apt_low fun r hr => (hI.1 r hr).2.2.2 h8
      · rfl
    refine ⟨fun c hc => ⟨(hI.1 c hc).1, (hI.1 c hc).2.1⟩, ?_, ?_⟩
    · show encL enc (opn enc o) = _; rw [ho]
    · show encAll enc (opn enc o) = _; rw [ho]; exact encK_all fun r hr => (hI.1 r hr).2.2.1
theorem enc8_some {r : Int} (h : isC r = true) : (encC 8 r).isSome = true := by unfold encC; rw [if_pos h, if_pos (by decide)]; rfl
theorem pair_char {c r x : Int} (h : pairI c r = some x) : isC x = true ∧ x ≠ 37 := by
  have h1 := pairI_pos h
  have h2 : 128 ≤ x := by
    unfold pairI at h
    cases ht : T.find? (isAB c r) with
    | some t =>
      rw [ht] at h
      have := T_of (List.mem_of_find?_eq_some ht)
      simp only [Option.some.injEq] at h
      omega
    | none =>
      rw [ht] at h
      unfold hanI at h
      simp only at h
      split at h
      · simp only [Option.some.injEq] at h; omega
      split at h
      · simp only [Option.some.injEq] at h; omega
      · cases h
  have h3 : x < 55296 := by omega
  exact ⟨isC_of (by omega), by omega⟩
theorem nf_app_right {A B : List Int} (h : Nf (A ++ B)) : Nf B := by
  induction A with
  | nil => exact h
  | cons x A ih => exact ih (Nf.tail h)
theorem rs_regular (ps : List Part) (A : ByteArray) (f : Nat) (raw : ByteArray) (hps : ∀ p ∈ ps, PartOK 8 p) (hr : regB ps = true) (hf : (prL tog hidB true ps []).length ≤ f) :
    rsS 8 (A ++ joinS (prL tog hidB true ps [])) f A.size [] raw true = (raw ++ catB ps, true) := by
  unfold regB at hr
  simp only [Bool.and_eq_true, decide_eq_true_eq] at hr
  have hsp : ∀ p ∈ ps, splitI p.1 = none := fun p hp => by
    have : p.1 ∈ apt (runesOf ps) := by rw [hr.2]; unfold runesOf; exact List.mem_map_of_mem hp
    exact apt_mem _ this
  have hnf : Nf (runesOf ps) := by have := apt_nf (runesOf ps); rwa [hr.2] at this
  have := rs_main 8 tog hidB true (fun o ps => (∀ r ∈ o, isC r = true ∧ r ≠ 37 ∧ splitI r = none) ∧ Nf (o ++ runesOf ps) ∧ ∀ p ∈ ps, PartOK 8 p ∧ splitI p.1 = none) ?_ ?_ ?_ ps [] A f raw ⟨fun r hr => by simp at hr, hnf, fun p hp => ⟨hps p hp, hsp p hp⟩⟩ hf
  · rw [this]; simp [encL]
  · intro o p ps hI h
    simp only [Bool.or_eq_false_iff] at h
    have h3 := hid_facts (hI.2.2 p (by simp)).1 h.1
    refine ⟨⟨fun r hr => ?_, by simpa [runesOf] using hI.2.1, fun q hq => hI.2.2 q (by simp [hq])⟩, h3.2.2.2.2⟩
    rcases List.mem_append.1 hr with hr | hr
    · exact hI.1 r hr
    · simp at hr; rw [hr]; exact ⟨h3.2.2.1, h3.2.1, (hI.2.2 p (by simp)).2⟩
  · intro o p ps hI
    have h4 : Nf (p.1 :: runesOf ps) := nf_app_right (A := o) (by simpa [runesOf] using hI.2.1)
    exact ⟨⟨fun r hr => by simp at hr, Nf.tail h4, fun q hq => hI.2.2 q (by simp [hq])⟩, part_size (hI.2.2 p (by simp)).1⟩
  · intro o ps hI
    have ho : opn 8 (tog o) = o := by
      unfold opn
      rw [if_pos rfl]
      exact apt_tog (fun x hx => (hI.1 x hx).2.2) (nf_pre hI.2.1)
    refine ⟨fun c hc => ?_, ?_, ?_⟩
    · exact tog_mem (p := fun x => isC x = true ∧ x ≠ 37) (fun c r x h => pair_char h) (fun x hx => ⟨(hI.1 x hx).1, (hI.1 x hx).2.1⟩) c hc
    · show encL 8 (opn 8 (tog o)) = _; rw [ho]
    · show encAll 8 (opn 8 (tog o)) = _; rw [ho]; exact encK_all fun r hr => enc8_some (hI.1 r hr).1
theorem str_facts {p : Part} (h : strB p = false) : hidB p = false ∧ p.1 < 128 := by
  unfold strB at h
  simp only [Bool.or_eq_false_iff, decide_eq_false_iff_not] at h
  exact ⟨h.1, by omega⟩
theorem rs_present {enc : Int} {s : ByteArray} {xs : List (Int × Int)} (h0 : 0 ≤ enc) (h8 : enc ≤ 8) (hc : Chain enc s 0 xs s.size) {f : Nat} (hf : (presL enc (prt s 0 xs)).length ≤ f) :
    rsS enc (joinS (presL enc (prt s 0 xs))) f 0 [] ByteArray.empty true = (s, true) := by
  obtain ⟨hok, hcat⟩ := prt_ok h0 h8 xs 0 (Nat.zero_le _) hc
  rw [extract_full] at hcat
  generalize prt s 0 xs = ps at hok hcat hf
  have fin : ∀ L : List Int, rsS enc (ByteArray.empty ++ joinS L) f ByteArray.empty.size [] ByteArray.empty true = (ByteArray.empty ++ catB ps, true) → rsS enc (joinS L) f 0 [] ByteArray.empty true = (s, true) := fun L h => by
    rw [ByteArray.empty_append, ByteArray.empty_append, hcat] at h
    exact h
  unfold presL at hf ⊢
  by_cases h : enc ≠ 8
  · rw [if_pos h] at hf ⊢
    exact fin _ (rs_plain hidB (fun p hp => ⟨hp, fun e => absurd e h⟩) ps _ f _ hok hf)
  · rw [if_neg h] at hf ⊢
    have e8 : enc = 8 := by omega
    subst e8
    by_cases hr : regB ps = true
    · rw [if_pos hr] at hf ⊢
      exact fin _ (rs_regular ps _ f _ hok hr hf)
    · rw [if_neg hr] at hf ⊢
      exact fin _ (rs_plain strB (fun p hp => ⟨(str_facts hp).1, fun _ => (str_facts hp).2⟩) ps _ f _ hok hf)
/-! ### as put together as can be -/
theorem escI_low {c : Int} (hc : 0 ≤ c ∧ c < 256) : ∀ b ∈ escI c, b < 128 := by
  intro b hb
  have h1 := hex_facts (d := c / 16) (by omega)
  have h2 := hex_facts (d := c % 16) (by omega)
  simp only [escI, List.mem_cons, List.not_mem_nil, or_false] at hb
  rcases hb with e | e | e <;> subst e
  · decide
  · exact h1.2.2.1
  · exact h2.2.2.1
theorem esc_low (b : ByteArray) : ∀ x ∈ esc b, x < 128 := by
  intro x hx
  unfold esc at hx
  rw [List.mem_flatMap] at hx
  obtain ⟨c, hc, hx⟩ := hx
  refine escI_low ?_ x hx
  simp only [bl, List.mem_map] at hc
  obtain ⟨y, _, rfl⟩ := hc
  have := y.toNat_lt
  omega
theorem pres_chars {enc : Int} {s : ByteArray} {xs : List (Int × Int)} (h0 : 0 ≤ enc) (h8 : enc ≤ 8) (hc : Chain enc s 0 xs s.size) : ∀ c ∈ presL enc (prt s 0 xs), isC c = true := by
  obtain ⟨hok, _⟩ := prt_ok h0 h8 xs 0 (Nat.zero_le _) hc
  generalize prt s 0 xs = ps at hok
  have key : ∀ (J : List Int → List Int) (hid : Part → Bool) (mk : Bool), (∀ p, hid p = false → hidB p = false) → (∀ o, (∀ r ∈ o, isC r = true) → ∀ r ∈ J o, isC r = true) →
      ∀ (ps : List Part) (o : List Int), (∀ p ∈ ps, PartOK enc p) → (∀ r ∈ o, isC r = true) → ∀ c ∈ prL J hid mk ps o, isC c = true := by
    intro J hid mk hh hJ ps
    induction ps with
    | nil => intro o _ ho c hc; exact hJ o ho c hc
    | cons p ps ih =>
      intro o hp ho c hc
      rw [prL] at hc
      split at hc
      · rcases List.mem_append.1 hc with hc | hc
        · exact hJ o ho c hc
        · rcases List.mem_append.1 hc with hc | hc
          · have h1 := esc_low _ c hc
            have h2 : 0 ≤ c := by
              unfold esc at hc
              rw [List.mem_flatMap] at hc
              obtain ⟨d, hd, hc⟩ := hc
              simp only [bl, List.mem_map] at hd
              obtain ⟨y, _, rfl⟩ := hd
              have := y.toNat_lt
              have g1 := hex_facts (d := (y.toNat : Int) / 16) (by omega)
              have g2 := hex_facts (d := (y.toNat : Int) % 16) (by omega)
              simp only [escI, List.mem_cons, List.not_mem_nil, or_false] at hc
              rcases hc with e | e | e <;> omega
            exact isC_of (by omega)
          · exact ih [] (fun q hq => hp q (by simp [hq])) (fun r hr => by simp at hr) c hc
      · rename_i hcond
        simp only [Bool.or_eq_true, not_or, Bool.not_eq_true] at hcond
        refine ih (o ++ [p.1]) (fun q hq => hp q (by simp [hq])) (fun r hr => ?_) c hc
        rcases List.mem_append.1 hr with hr | hr
        · exact ho r hr
        · simp at hr; rw [hr]; exact (hid_facts (hp p (by simp)) (hh p hcond.1)).2.2.1
  have hid' : ∀ o : List Int, (∀ r ∈ o, isC r = true) → ∀ r ∈ id o, isC r = true := fun o h => h
  have htog : ∀ o : List Int, (∀ r ∈ o, isC r = true) → ∀ r ∈ tog o, isC r = true := fun o h => tog_mem (p := fun x => isC x = true) (fun c r x hx => (pair_char hx).1) h
  unfold presL
  split
  · exact key id hidB false (fun p h => h) hid' ps [] hok (fun r hr => by simp at hr)
  split
  · exact key tog hidB true (fun p h => h) htog ps [] hok (fun r hr => by simp at hr)
  · exact key id strB false (fun p h => (str_facts h).1) hid' ps [] hok (fun r hr => by simp at hr)
theorem tog_len2 (o : List Int) : (tog o).length ≤ o.length := trun_len o
theorem esc_len (b : ByteArray) : (esc b).length = 3 * b.size := by
  have hel : ∀ l : List Int, (l.flatMap escI).length = 3 * l.length := by
    intro l
    induction l with
    | nil => rfl
    | cons x l ih => rw [List.flatMap_cons, List.length_append, ih]; simp [escI]; omega
  unfold esc
  rw [hel]
  simp [bl]
theorem pres_len {enc : Int} {s : ByteArray} {xs : List (Int × Int)} (h0 : 0 ≤ enc) (h8 : enc ≤ 8) (hc : Chain enc s 0 xs s.size) : (presL enc (prt s 0 xs)).length ≤ 3 * s.size := by
  obtain ⟨hok, hcat⟩ := prt_ok h0 h8 xs 0 (Nat.zero_le _) hc
  rw [extract_full] at hcat
  have hsz : s.size = (catB (prt s 0 xs)).size := by rw [hcat]
  rw [hsz]
  clear hsz hcat
  generalize prt s 0 xs = ps at hok
  have key : ∀ (J : List Int → List Int) (hid : Part → Bool) (mk : Bool), (∀ o, (J o).length ≤ o.length) →
      ∀ (ps : List Part) (o : List Int), (∀ p ∈ ps, PartOK enc p) → (prL J hid mk ps o).length ≤ o.length + 3 * (catB ps).size := by
    intro J hid mk hJ ps
    induction ps with
    | nil => intro o _; exact Nat.le_trans (hJ o) (by omega)
    | cons p ps ih =>
      intro o hp
      have h1 := part_size (hp p (by simp))
      rw [prL]
      simp only [catB, ByteArray.size_append]
      split
      · have := ih [] fun q hq => hp q (by simp [hq])
        have := hJ o
        have := esc_len p.2.1
        simp only [List.length_append, List.length_nil] at *
        omega
      · have := ih (o ++ [p.1]) fun q hq => hp q (by simp [hq])
        simp only [List.length_append, List.length_singleton] at this
        omega
  unfold presL
  split
  · have := key id hidB false (fun o => Nat.le_refl _) ps [] hok; simpa using this
  split
  · have := key tog hidB true tog_len2 ps [] hok; simpa using this
  · have := key id strB false (fun o => Nat.le_refl _) ps [] hok; simpa using this
open Go.RowKit
theorem pair_yes {a b x : Int} (h : pairI a b = some x) (ha : -2147483648 ≤ a ∧ a < 2147483648) (hb : -2147483648 ≤ b ∧ b < 2147483648) (w : World) : Calls Tryz.prog 60 #[.int .i32 a, .int .i32 b] w fun e w' => e = .returned (.tuple #[.int .i32 x, .bool true]) ∧ Fresh w w' :=
  (pair_any a b w ha hb).mono fun e w' ⟨he, hf⟩ => ⟨by unfold OptI at he; rw [h] at he; exact he, hf⟩
theorem pair_not {a b : Int} (h : pairI a b = none) (ha : -2147483648 ≤ a ∧ a < 2147483648) (hb : -2147483648 ≤ b ∧ b < 2147483648) (w : World) : Calls Tryz.prog 60 #[.int .i32 a, .int .i32 b] w fun e w' => e = .returned (.tuple #[.int .i32 0, .bool false]) ∧ Fresh w w' :=
  (pair_any a b w ha hb).mono fun e w' ⟨he, hf⟩ => ⟨by unfold OptI at he; rw [h] at he; exact he, hf⟩
theorem own_set {w : World} {B g n cap : Nat} {P Q : List Int} {c x : Int} (h : OwnR w B (.slice (some ⟨g, 0, none⟩) n cap) (P ++ c :: Q)) (hn : (P ++ c :: Q).length = n) :
    OwnR (w.setCell ⟨g, P.length, none⟩ (.int .i32 x)) B (.slice (some ⟨g, 0, none⟩) n cap) (P ++ x :: Q) := by
  unfold OwnR at h ⊢
  have e : (P ++ x :: Q).length = n := by rw [← hn]; simp
  rw [hn] at h
  rw [e]
  have := (World.ownsRow.stored h P.length (.int .i32 x)).1
  rw [List.map_append, List.map_cons] at this ⊢
  rw [List.set_append_right _ _ (by simp)] at this
  simpa using this
theorem own_frozen {w : World} {B g n cap : Nat} {xs : List Int} (h : OwnR w B (.slice (some ⟨g, 0, none⟩) n cap) xs) (hn : xs.length = n) (j : Nat) : w.frozen? ⟨g, j, none⟩ = false := by
  unfold OwnR at h
  rw [hn] at h
  exact World.ownsRow.frozenAt h j
def TgIn (w : World) (s : TS) (out base : Value) (wr : World) : Prop := OwnR wr w.heap.size out (tO s) ∧ base = .int .i64 (tB s) ∧ Fresh w wr
def TgRel (w : World) (l : List Int) (out base i : Value) (wr : World) : Prop := ∃ k : Nat, i = .int .i64 (k : Nat) ∧ k ≤ l.length ∧ TgIn w (trun (l.take k)) out base wr
theorem getD_at (P Q : List Int) (c : Int) : (P ++ c :: Q).getD P.length 0 = c := by simp [List.getD_eq_getElem?_getD]
theorem getD_last (P Q : List Int) (c : Int) (hQ : Q ≠ []) : (P ++ c :: Q).getD (P.length + Q.length) 0 = Q.getLastD 0 := by
  rcases List.eq_nil_or_concat Q with e | ⟨L, z, e⟩
  · exact absurd e hQ
  · have e : Q = L ++ [z] := by simpa using e
    subst e
    have e2 : P ++ c :: (L ++ [z]) = (P ++ c :: L) ++ z :: [] := by simp
    have e3 : P.length + (L ++ [z]).length = (P ++ c :: L).length := by simp
    rw [e2, e3, getD_at]
    simp [List.getLastD_eq_getLast?]
theorem in32_tog {l : List Int} (h : In32 l) : In32 (tO (trun l)) := tog_mem (p := fun x => -2147483648 ≤ x ∧ x < 2147483648) (fun c r x hx => by have := pairI_pos hx; omega) h
theorem in32_take {l : List Int} (h : In32 l) (k : Nat) : In32 (l.take k) := fun x hx => h x (List.mem_of_mem_take hx)
theorem in32_getD {l : List Int} (h : In32 l) {k : Nat} (hk : k < l.length) : -2147483648 ≤ l.getD k 0 ∧ l.getD k 0 < 2147483648 := by
  refine h _ ?_
  rw [List.getD_eq_getElem?_getD, List.getElem?_eq_getElem hk]; simp
theorem tg_eq {w w' : World} {s : TS} {v : Value} {b b' : Int} (h : TgIn w s v (.int .i64 b) w') (e : b = b') : TgIn w s v (.int .i64 b') w' := e ▸ h
theorem tg_push0 {w w' : World} {v : Value} {P Q : List Int} {c : Option Int} {r : Int} {sl : Nat} (hr : clsI r = 0) (h : w'.ownsRow w.heap.size 21 1 v (sl + 1) ((tO (P, c, Q)).map (Value.int .i32) ++ [.int .i32 r])) (hf : Fresh w w') :
    TgIn w (tpush P c Q r) v (.int .i64 ((tO (P, c, Q)).length : Nat)) w' := by
  have hn : sl = (tO (P, c, Q)).length := by have := h.1; simp at this; omega
  subst hn
  refine ⟨?_, ?_, hf⟩
  · rw [tO_push]; exact OwnR.push h
  · unfold tpush; rw [if_pos hr]; rfl
theorem tg_push1 {w w' : World} {v : Value} {P Q : List Int} {c : Option Int} {r : Int} {sl : Nat} (hr : clsI r ≠ 0) (h : w'.ownsRow w.heap.size 21 1 v (sl + 1) ((tO (P, c, Q)).map (Value.int .i32) ++ [.int .i32 r])) (hf : Fresh w w') :
    TgIn w (tpush P c Q r) v (.int .i64 (tB (P, c, Q))) w' := by
  have hn : sl = (tO (P, c, Q)).length := by have := h.1; simp at this; omega
  subst hn
  refine ⟨?_, ?_, hf⟩
  · rw [tO_push]; exact OwnR.push h
  · unfold tpush; rw [if_neg hr]; cases c <;> rfl
set_option maxHeartbeats 3200000 in
set_option maxRecDepth 100000 in
theorem ctog_any (u : Value) (l : List Int) (w : World) (hu : Sl w u l) (hl : l.length ≤ 100000) (h32 : In32 l) : Calls Tryz.prog 21 #[u] w (RunesPost (tog l) w) := by
  obtain ⟨i0, hi0, hz0, hz1, hz2⟩ := info_parts info32
  obtain ⟨a, ca, rfl, hu⟩ := hu
  rcases hu with rfl | ⟨b1, o1, rfl, hb1, hc1⟩
  · go_enter Tryz.func21, Tryz.ntmps21
    go_wp2
    refine wp_loop_rounds 1 ?_
    rw [rounds_succ]
    go_wp2
    go_ret
    exact ⟨_, rfl, OwnR.nil _ _, Fresh.refl _⟩
  have H1 := Lib.hid hc1
  clear hc1
  generalize hn : l.length = n at hl H1
  have HN := Lib.hid hn
  clear hn
  go_enter Tryz.func21, Tryz.ntmps21
  go_wp2
  go_loopw [3, 4, 12] (fun out b i wr => TgRel w l out b i wr) (fun _ _ i _ => n - (intOf i).toNat)
  case atStart => exact ⟨0, rfl, Nat.zero_le _, OwnR.nil _ _, rfl, Fresh.refl _⟩
  case round =>
    obtain ⟨k, rfl, hk, hown, rfl, hf⟩ := hrel
    have hk' : k ≤ n := by have := HN.out; omega
    clear hk
    by_cases hlt : k < n
    · have c1 : wr.cell? ⟨b1, o1 + k, none⟩ = some (.int .i32 (l.getD k 0)) := (Below.cell hf (p := ⟨b1, o1 + k, none⟩) hb1).trans (H1.out k hlt)
      have hkl : k < l.length := by have := HN.out; omega
      have hr := in32_getD h32 hkl
      have hTS : trun (l.take (k + 1)) = tstep (trun (l.take k)) (l.getD k 0) := by rw [take_snoc hkl, trun_snoc]
      have hlen := trun_len (l.take k)
      rw [List.length_take] at hlen
      have h32s := in32_tog (in32_take h32 k)
      generalize l.getD k 0 = r at c1 hr hTS
      generalize trun (l.take k) = s at hTS hlen h32s hown ⊢
      have HTS := Lib.hid hTS
      clear hTS hkl
      obtain ⟨P, c, Q⟩ := s
      cases c with
      | none =>
        have hlen3 : (tO (P, none, Q)).length ≤ k := by omega
        have HST : Hid (tstep (P, none, Q) r = tpush P none Q r) := Lib.hid rfl
        obtain ⟨ao, cpc, rfl, _⟩ := hown.sl
        have hown3 := hown
        unfold OwnR at hown3
        have hfW := hf
        generalize hsl : (tO (P, none, Q)).length = sl at hown3 hlen3 ⊢
        have HSL := Lib.hid hsl
        have HLEN := Lib.hid hlen3
        clear hown hlen hsl
        simp only [tB]
        by_cases hx : clsI r = 0
        · have hb : (clsI r == 0) = true := by simp [hx]
          have HX := Lib.hid hx
          clear hx
          go_wp2_with (first | (go_at_call 25; refine (class_any _ _).mono ?_; rintro e w9 ⟨rfl, rfl⟩) | (at_builtin; refine wpList_append_own2 _ rfl _ _ 50 rfl w.heap.size 21 i0 (.int .i32 0) 1 4 Tryz.underlying50 hi0 hz0 hz1 hz2 rfl (by decide) _ _ _ rfl (hown3.alloc _) ⟨wr.heap.size, 0, none⟩ 1 1 [.int .i32 r] rfl rfl ?c1 ?c2 ?c3 ?c4 ?c5 ?_))
          case c1 => exact cell_new1 _ _ _
          case c2 => intro u hu; simp at hu; subst hu; rfl
          case c3 => have := HLEN.out; unfold maxLen; omega
          case c4 => have := HLEN.out; omega
          case c5 => have := hfW.size; simp; omega
          intro v' w' hown' hgrow hblk
          have hf' := OwnR.fresh hfW hown3 hgrow
          have HP := Lib.hid (tg_push0 (v := v') (w' := w') (P := P) (c := none) (Q := Q) (sl := sl) HX.out (by have := hown'; simpa [tO] using this) hf')
          clear hown' hgrow hblk hf' hown3
          go_wp2
          refine ⟨⟨k + 1, by rw [Int.natCast_add]; rfl, by have := HN.out; omega, by rw [HTS.out, HST.out]; exact tg_eq HP.out (by first | rfl | (have := HSL.out; omega) | (simp only [tO]; have := HLM.out; omega) | (simp only [tB]; have := HPM.out; omega) | (simp only [tB]; have := HP0.out; omega))⟩, by simp [intOf]; omega⟩
        · have hb : (clsI r == 0) = false := by simp [hx]
          have HX := Lib.hid hx
          clear hx
          go_wp2_with (first | (go_at_call 25; refine (class_any _ _).mono ?_; rintro e w9 ⟨rfl, rfl⟩) | (at_builtin; refine wpList_append_own2 _ rfl _ _ 50 rfl w.heap.size 21 i0 (.int .i32 0) 1 4 Tryz.underlying50 hi0 hz0 hz1 hz2 rfl (by decide) _ _ _ rfl (hown3.alloc _) ⟨wr.heap.size, 0, none⟩ 1 1 [.int .i32 r] rfl rfl ?c1 ?c2 ?c3 ?c4 ?c5 ?_))
          case c1 => exact cell_new1 _ _ _
          case c2 => intro u hu; simp at hu; subst hu; rfl
          case c3 => have := HLEN.out; unfold maxLen; omega
          case c4 => have := HLEN.out; omega
          case c5 => have := hfW.size; simp; omega
          intro v' w' hown' hgrow hblk
          have hf' := OwnR.fresh hfW hown3 hgrow
          have HP := Lib.hid (tg_push1 (v := v') (w' := w') (P := P) (c := none) (Q := Q) (sl := sl) HX.out (by have := hown'; simpa [tO] using this) hf')
          clear hown' hgrow hblk hf' hown3
          go_wp2
          refine ⟨⟨k + 1, by rw [Int.natCast_add]; rfl, by have := HN.out; omega, by rw [HTS.out, HST.out]; exact tg_eq HP.out (by first | rfl | (have := HSL.out; omega) | (simp only [tO]; have := HLM.out; omega) | (simp only [tB]; have := HPM.out; omega) | (simp only [tB]; have := HP0.out; omega))⟩, by simp [intOf]; omega⟩
      | some c =>
        have hoO : tO (P, some c, Q) = P ++ c :: Q := rfl
        rw [hoO] at hown h32s hlen
        have hc32 := h32s c (by simp)
        simp only [List.length_append, List.length_cons] at hlen
        obtain ⟨g, cap, rfl, hgs, hcell⟩ := hown.sl2 (by simp; omega)
        have hgb := (hown.lt g rfl).1
        obtain ⟨m, hm⟩ : ∃ m, P.length + Q.length = m := ⟨_, rfl⟩
        have hlm : (P ++ c :: Q).length = m + 1 := by simp; omega
        have cp := hcell P.length (by rw [hlm]; omega)
        rw [getD_at] at cp
        have hfz := own_frozen hown rfl P.length
        have HCELL := Lib.hid hcell
        rw [hlm] at hown ⊢
        have HOWN := Lib.hid hown
        simp only [tB]
        have hlm2 : m + 1 ≤ k := by omega
        clear hown hcell hlen h32s hoO
        by_cases hQ : Q = []
        · subst hQ
          have hpm : P.length = m := by simpa using hm
          rw [hpm] at cp hfz ⊢
          have HPM := Lib.hid hpm
          clear hpm hm
          have hcan : ∀ z, mkO c [] z = pairI c z := fun z => by unfold mkO; rw [if_pos (.inl rfl)]
          have HCAN := Lib.hid hcan
          clear hcan
          have HLM := Lib.hid hlm
          clear hlm
          cases hpr : pairI c r with
          | some x =>
            have HPR := Lib.hid (pair_yes hpr hc32 hr)
            have HST : Hid (tstep (P, some c, []) r = (P, some x, [])) := Lib.hid (by unfold tstep; simp only [HCAN.out, hpr])
            clear hpr
            go_wp2_with (first | (go_at_call 25; refine (class_any _ _).mono ?_; rintro e w9 ⟨rfl, rfl⟩) | (go_at_call 60; refine (HPR.out _).mono ?_; rintro e w1 ⟨rfl, hf1⟩; have cp1 := (Below.cell hf1 (p := ⟨g, m, none⟩) hgs).trans cp; have fz1 := (Below.frozen hf1 (p := ⟨g, m, none⟩) hgs).trans hfz))
            have hown4 := HOWN.out.keep hf1
            have hown5 := own_set (x := x) hown4 HLM.out
            have hf2 := (hf.trans hf1).setCell (p := ⟨g, m, none⟩) hgb (.int .i32 x)
            rw [HPM.out] at hown5
            refine ⟨⟨k + 1, by rw [Int.natCast_add]; rfl, by have := HN.out; omega, by rw [HTS.out, HST.out]; exact ⟨hown5, by simp only [tB, HPM.out], hf2⟩⟩, by simp [intOf]; omega⟩
          | none =>
            have HPR := Lib.hid (pair_not hpr hc32 hr)
            have HST : Hid (tstep (P, some c, []) r = tpush P (some c) [] r) := Lib.hid (by unfold tstep; simp only [HCAN.out, hpr])
            have HLEN := Lib.hid hlm2
            clear hpr
            by_cases hx : clsI r = 0
            · have hb : (clsI r == 0) = true := by simp [hx]
              have HX := Lib.hid hx
              clear hx
              go_wp2_with (first | (go_at_call 25; refine (class_any _ _).mono ?_; rintro e w9 ⟨rfl, rfl⟩) | (go_at_call 60; refine (HPR.out _).mono ?_; rintro e w1 ⟨rfl, hf1⟩; have hown3 := HOWN.out.keep hf1; unfold OwnR at hown3; rw [HLM.out] at hown3; have hfW := hf.trans hf1) | (at_builtin; refine wpList_append_own2 _ rfl _ _ 50 rfl w.heap.size 21 i0 (.int .i32 0) 1 4 Tryz.underlying50 hi0 hz0 hz1 hz2 rfl (by decide) _ _ _ rfl (hown3.alloc _) ⟨w1.heap.size, 0, none⟩ 1 1 [.int .i32 r] rfl rfl ?c1 ?c2 ?c3 ?c4 ?c5 ?_))
              case c1 => exact cell_new1 _ _ _
              case c2 => intro u hu; simp at hu; subst hu; rfl
              case c3 => have := HLEN.out; unfold maxLen; omega
              case c4 => have := HLEN.out; omega
              case c5 => have := hfW.size; simp; omega
              intro v' w' hown' hgrow hblk
              have hf' := OwnR.fresh hfW hown3 hgrow
              have HP := Lib.hid (tg_push0 (v := v') (w' := w') (P := P) (c := some c) (Q := []) (sl := m + 1) HX.out (by have := hown'; simpa [tO] using this) hf')
              clear hown' hgrow hblk hf' hown3
              go_wp2
              refine ⟨⟨k + 1, by rw [Int.natCast_add]; rfl, by have := HN.out; omega, by rw [HTS.out, HST.out]; exact tg_eq HP.out (by first | rfl | (have := HSL.out; omega) | (simp only [tO]; have := HLM.out; omega) | (simp only [tB]; have := HPM.out; omega) | (simp only [tB]; have := HP0.out; omega))⟩, by simp [intOf]; omega⟩
            · have hb : (clsI r == 0) = false := by simp [hx]
              have HX := Lib.hid hx
              clear hx
              go_wp2_with (first | (go_at_call 25; refine (class_any _ _).mono ?_; rintro e w9 ⟨rfl, rfl⟩) | (go_at_call 60; refine (HPR.out _).mono ?_; rintro e w1 ⟨rfl, hf1⟩; have hown3 := HOWN.out.keep hf1; unfold OwnR at hown3; rw [HLM.out] at hown3; have hfW := hf.trans hf1) | (at_builtin; refine wpList_append_own2 _ rfl _ _ 50 rfl w.heap.size 21 i0 (.int .i32 0) 1 4 Tryz.underlying50 hi0 hz0 hz1 hz2 rfl (by decide) _ _ _ rfl (hown3.alloc _) ⟨w1.heap.size, 0, none⟩ 1 1 [.int .i32 r] rfl rfl ?c1 ?c2 ?c3 ?c4 ?c5 ?_))
              case c1 => exact cell_new1 _ _ _
              case c2 => intro u hu; simp at hu; subst hu; rfl
              case c3 => have := HLEN.out; unfold maxLen; omega
              case c4 => have := HLEN.out; omega
              case c5 => have := hfW.size; simp; omega
              intro v' w' hown' hgrow hblk
              have hf' := OwnR.fresh hfW hown3 hgrow
              have HP := Lib.hid (tg_push1 (v := v') (w' := w') (P := P) (c := some c) (Q := []) (sl := m + 1) HX.out (by have := hown'; simpa [tO] using this) hf')
              clear hown' hgrow hblk hf' hown3
              go_wp2
              refine ⟨⟨k + 1, by rw [Int.natCast_add]; rfl, by have := HN.out; omega, by rw [HTS.out, HST.out]; exact tg_eq HP.out (by first | rfl | (have := HSL.out; omega) | (simp only [tO]; have := HLM.out; omega) | (simp only [tB]; have := HPM.out; omega) | (simp only [tB]; have := HP0.out; omega))⟩, by simp [intOf]; omega⟩
        · have hQ1 : 1 ≤ Q.length := List.length_pos_iff.2 hQ
          have cm := HCELL.out m (by rw [hlm]; omega)
          rw [← hm, getD_last P Q c hQ, hm] at cm
          obtain ⟨p, hp⟩ : ∃ p, P.length = p := ⟨_, rfl⟩
          have hpm : p < m := by omega
          rw [hp] at cp hfz ⊢
          have HP0 := Lib.hid hp
          have HM := Lib.hid hm
          have HLM := Lib.hid hlm
          clear hp hm hlm
          have hb1 : ((p : Int) == (m : Int)) = false := by simp only [beq_eq_false_iff_ne]; omega
          generalize hql : Q.getLastD 0 = ql at cm
          have HQL := Lib.hid hql
          clear hql
          by_cases hcan : clsI ql < clsI r
          · have HCAN := Lib.hid (show mkO c Q r = pairI c r by unfold mkO; rw [if_pos (.inr (by rw [HQL.out]; exact hcan))])
            cases hpr : pairI c r with
            | some x =>
              have HPR := Lib.hid (pair_yes hpr hc32 hr)
              have HST : Hid (tstep (P, some c, Q) r = (P, some x, Q)) := Lib.hid (by unfold tstep; simp only [HCAN.out, hpr])
              clear hpr
              go_wp2_with (first | (go_at_call 25; refine (class_any _ _).mono ?_; rintro e w9 ⟨rfl, rfl⟩) | (go_at_call 60; refine (HPR.out _).mono ?_; rintro e w1 ⟨rfl, hf1⟩; have cp1 := (Below.cell hf1 (p := ⟨g, p, none⟩) hgs).trans cp; have fz1 := (Below.frozen hf1 (p := ⟨g, p, none⟩) hgs).trans hfz))
              have hown4 := HOWN.out.keep hf1
              have hown5 := own_set (x := x) hown4 HLM.out
              have hf2 := (hf.trans hf1).setCell (p := ⟨g, p, none⟩) hgb (.int .i32 x)
              rw [HP0.out] at hown5
              refine ⟨⟨k + 1, by rw [Int.natCast_add]; rfl, by have := HN.out; omega, by rw [HTS.out, HST.out]; exact ⟨hown5, by simp only [tB, HP0.out], hf2⟩⟩, by simp [intOf]; omega⟩
            | none =>
              have HPR := Lib.hid (pair_not hpr hc32 hr)
              have HST : Hid (tstep (P, some c, Q) r = tpush P (some c) Q r) := Lib.hid (by unfold tstep; simp only [HCAN.out, hpr])
              have HLEN := Lib.hid hlm2
              clear hpr
              by_cases hx : clsI r = 0
              · have hb : (clsI r == 0) = true := by simp [hx]
                have HX := Lib.hid hx
                clear hx
                go_wp2_with (first | (go_at_call 25; refine (class_any _ _).mono ?_; rintro e w9 ⟨rfl, rfl⟩) | (go_at_call 60; refine (HPR.out _).mono ?_; rintro e w1 ⟨rfl, hf1⟩; have hown3 := HOWN.out.keep hf1; unfold OwnR at hown3; rw [HLM.out] at hown3; have hfW := hf.trans hf1) | (at_builtin; refine wpList_append_own2 _ rfl _ _ 50 rfl w.heap.size 21 i0 (.int .i32 0) 1 4 Tryz.underlying50 hi0 hz0 hz1 hz2 rfl (by decide) _ _ _ rfl (hown3.alloc _) ⟨w1.heap.size, 0, none⟩ 1 1 [.int .i32 r] rfl rfl ?c1 ?c2 ?c3 ?c4 ?c5 ?_))
                case c1 => exact cell_new1 _ _ _
                case c2 => intro u hu; simp at hu; subst hu; rfl
                case c3 => have := HLEN.out; unfold maxLen; omega
                case c4 => have := HLEN.out; omega
                case c5 => have := hfW.size; simp; omega
                intro v' w' hown' hgrow hblk
                have hf' := OwnR.fresh hfW hown3 hgrow
                have HP := Lib.hid (tg_push0 (v := v') (w' := w') (P := P) (c := some c) (Q := Q) (sl := m + 1) HX.out (by have := hown'; simpa [tO] using this) hf')
                clear hown' hgrow hblk hf' hown3
                go_wp2
                refine ⟨⟨k + 1, by rw [Int.natCast_add]; rfl, by have := HN.out; omega, by rw [HTS.out, HST.out]; exact tg_eq HP.out (by first | rfl | (have := HSL.out; omega) | (simp only [tO]; have := HLM.out; omega) | (simp only [tB]; have := HPM.out; omega) | (simp only [tB]; have := HP0.out; omega))⟩, by simp [intOf]; omega⟩
              · have hb : (clsI r == 0) = false := by simp [hx]
                have HX := Lib.hid hx
                clear hx
                go_wp2_with (first | (go_at_call 25; refine (class_any _ _).mono ?_; rintro e w9 ⟨rfl, rfl⟩) | (go_at_call 60; refine (HPR.out _).mono ?_; rintro e w1 ⟨rfl, hf1⟩; have hown3 := HOWN.out.keep hf1; unfold OwnR at hown3; rw [HLM.out] at hown3; have hfW := hf.trans hf1) | (at_builtin; refine wpList_append_own2 _ rfl _ _ 50 rfl w.heap.size 21 i0 (.int .i32 0) 1 4 Tryz.underlying50 hi0 hz0 hz1 hz2 rfl (by decide) _ _ _ rfl (hown3.alloc _) ⟨w1.heap.size, 0, none⟩ 1 1 [.int .i32 r] rfl rfl ?c1 ?c2 ?c3 ?c4 ?c5 ?_))
                case c1 => exact cell_new1 _ _ _
                case c2 => intro u hu; simp at hu; subst hu; rfl
                case c3 => have := HLEN.out; unfold maxLen; omega
                case c4 => have := HLEN.out; omega
                case c5 => have := hfW.size; simp; omega
                intro v' w' hown' hgrow hblk
                have hf' := OwnR.fresh hfW hown3 hgrow
                have HP := Lib.hid (tg_push1 (v := v') (w' := w') (P := P) (c := some c) (Q := Q) (sl := m + 1) HX.out (by have := hown'; simpa [tO] using this) hf')
                clear hown' hgrow hblk hf' hown3
                go_wp2
                refine ⟨⟨k + 1, by rw [Int.natCast_add]; rfl, by have := HN.out; omega, by rw [HTS.out, HST.out]; exact tg_eq HP.out (by first | rfl | (have := HSL.out; omega) | (simp only [tO]; have := HLM.out; omega) | (simp only [tB]; have := HPM.out; omega) | (simp only [tB]; have := HP0.out; omega))⟩, by simp [intOf]; omega⟩
          · have hno : mkO c Q r = none := by unfold mkO; rw [if_neg]; rintro (e | e); exact hQ e; rw [HQL.out] at e; exact hcan e
            have HST : Hid (tstep (P, some c, Q) r = tpush P (some c) Q r) := Lib.hid (by unfold tstep; simp only [hno])
            have hfW := hf
            have HLEN := Lib.hid hlm2
            have hown3 := HOWN.out
            unfold OwnR at hown3
            rw [HLM.out] at hown3
            have hcan2 : clsI r ≤ clsI ql := by omega
            clear hno hcan
            by_cases hx : clsI r = 0
            · have hb : (clsI r == 0) = true := by simp [hx]
              have HX := Lib.hid hx
              clear hx
              go_wp2_with (first | (go_at_call 25; refine (class_any _ _).mono ?_; rintro e w9 ⟨rfl, rfl⟩) | (at_builtin; refine wpList_append_own2 _ rfl _ _ 50 rfl w.heap.size 21 i0 (.int .i32 0) 1 4 Tryz.underlying50 hi0 hz0 hz1 hz2 rfl (by decide) _ _ _ rfl (hown3.alloc _) ⟨wr.heap.size, 0, none⟩ 1 1 [.int .i32 r] rfl rfl ?c1 ?c2 ?c3 ?c4 ?c5 ?_))
              case c1 => exact cell_new1 _ _ _
              case c2 => intro u hu; simp at hu; subst hu; rfl
              case c3 => have := HLEN.out; unfold maxLen; omega
              case c4 => have := HLEN.out; omega
              case c5 => have := hfW.size; simp; omega
              intro v' w' hown' hgrow hblk
              have hf' := OwnR.fresh hfW hown3 hgrow
              have HP := Lib.hid (tg_push0 (v := v') (w' := w') (P := P) (c := some c) (Q := Q) (sl := m + 1) HX.out (by have := hown'; simpa [tO] using this) hf')
              clear hown' hgrow hblk hf' hown3
              go_wp2
              refine ⟨⟨k + 1, by rw [Int.natCast_add]; rfl, by have := HN.out; omega, by rw [HTS.out, HST.out]; exact tg_eq HP.out (by first | rfl | (have := HSL.out; omega) | (simp only [tO]; have := HLM.out; omega) | (simp only [tB]; have := HPM.out; omega) | (simp only [tB]; have := HP0.out; omega))⟩, by simp [intOf]; omega⟩
            · have hb : (clsI r == 0) = false := by simp [hx]
              have HX := Lib.hid hx
              clear hx
              go_wp2_with (first | (go_at_call 25; refine (class_any _ _).mono ?_; rintro e w9 ⟨rfl, rfl⟩) | (at_builtin; refine wpList_append_own2 _ rfl _ _ 50 rfl w.heap.size 21 i0 (.int .i32 0) 1 4 Tryz.underlying50 hi0 hz0 hz1 hz2 rfl (by decide) _ _ _ rfl (hown3.alloc _) ⟨wr.heap.size, 0, none⟩ 1 1 [.int .i32 r] rfl rfl ?c1 ?c2 ?c3 ?c4 ?c5 ?_))
              case c1 => exact cell_new1 _ _ _
              case c2 => intro u hu; simp at hu; subst hu; rfl
              case c3 => have := HLEN.out; unfold maxLen; omega
              case c4 => have := HLEN.out; omega
              case c5 => have := hfW.size; simp; omega
              intro v' w' hown' hgrow hblk
              have hf' := OwnR.fresh hfW hown3 hgrow
              have HP := Lib.hid (tg_push1 (v := v') (w' := w') (P := P) (c := some c) (Q := Q) (sl := m + 1) HX.out (by have := hown'; simpa [tO] using this) hf')
              clear hown' hgrow hblk hf' hown3
              go_wp2
              refine ⟨⟨k + 1, by rw [Int.natCast_add]; rfl, by have := HN.out; omega, by rw [HTS.out, HST.out]; exact tg_eq HP.out (by first | rfl | (have := HSL.out; omega) | (simp only [tO]; have := HLM.out; omega) | (simp only [tB]; have := HPM.out; omega) | (simp only [tB]; have := HP0.out; omega))⟩, by simp [intOf]; omega⟩
    · have hkn : k = n := by omega
      rw [hkn, ← HN.out, List.take_length] at hown
      have HO := Lib.hid hown
      clear hown
      go_wp2
      go_ret
      exact ⟨_, rfl, HO.out, hf⟩
end Go.Proofs.YtpmlggjhfiljmaaGreatDoor
