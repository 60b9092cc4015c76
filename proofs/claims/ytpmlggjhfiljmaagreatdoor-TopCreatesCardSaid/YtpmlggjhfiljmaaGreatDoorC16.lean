/- Contracts that the law rests on, part 16 of 50 (SrtG, SrtH). Each states its own conditions. -/
import Derived.Test.YtpmlggjhfiljmaaGreatDoorC15
/- symMergeCmpFunc: the walk. -/
namespace Go.Proofs.YtpmlggjhfiljmaaGreatDoor
open Go.RowKit
set_option linter.unusedVariables false
set_option linter.unnecessarySimpa false
def MergeAt (N : Nat) : Prop := ∀ (w0 : World) (g off n : Nat) (P A B S : List Int) (a m b : Nat) (w : World) (cap : Nat), n ≤ 1000000 → off ≤ 1000000 → A.length + B.length ≤ N → 1 ≤ A.length → 1 ≤ B.length → Srt A → Srt B →
    a = P.length → m = P.length + A.length → b = P.length + A.length + B.length → Arr w0 g off n (P ++ A ++ B ++ S) w →
    Calls Tryz.prog 323 #[.slice (some ⟨g, off, none⟩) n cap, .int .i64 (a : Nat), .int .i64 (m : Nat), .int .i64 (b : Nat), .func (.func 173) #[] #[]] w (SortPost w0 g off n P (A ++ B) S)
set_option maxHeartbeats 6400000 in
set_option maxRecDepth 100000 in
theorem merge_big {N : Nat} (IH : MergeAt N) (w0 : World) (g off n : Nat) (P A B S : List Int) (a m b : Nat) (w : World) (cap : Nat) (hn : n ≤ 1000000) (hoff : off ≤ 1000000) (hN : A.length + B.length ≤ N + 1) (hA : 2 ≤ A.length) (hB : 2 ≤ B.length) (hsA : Srt A) (hsB : Srt B)
    (ha : a = P.length) (hm : m = P.length + A.length) (hb : b = P.length + A.length + B.length) (h : Arr w0 g off n (P ++ A ++ B ++ S) w) :
    Calls Tryz.prog 323 #[.slice (some ⟨g, off, none⟩) n cap, .int .i64 (a : Nat), .int .i64 (m : Nat), .int .i64 (b : Nat), .func (.func 173) #[] #[]] w (SortPost w0 g off n P (A ++ B) S) := by
  have hl := h.len
  simp at hl
  have HIH := Lib.hid IH
  have H := Lib.hid h
  have HSA := Lib.hid hsA
  have HSB := Lib.hid hsB
  have HPL := Lib.hid ha
  have hm1 : m = a + A.length := by omega
  have hb1 : b = m + B.length := by omega
  have hbn : b ≤ n := by omega
  have HM := Lib.hid hm1
  have HB := Lib.hid hb1
  have hN2 : b - a ≤ N + 1 := by omega
  obtain ⟨d1, hd1, hd12⟩ : ∃ d : Nat, m - a = d ∧ 2 ≤ d := ⟨m - a, rfl, by omega⟩
  obtain ⟨d2, hd2, hd22⟩ : ∃ d : Nat, b - m = d ∧ 2 ≤ d := ⟨b - m, rfl, by omega⟩
  obtain ⟨mid, hmid⟩ : ∃ mid : Nat, (a + b) / 2 = mid := ⟨_, rfl⟩
  have e1 : IntKind.i64.wrap ((m : Int) - (a : Int)) = (d1 : Int) := by rw [IntKind.wrap_i64]; omega
  have e2 : IntKind.i64.wrap ((b : Int) - (m : Int)) = (d2 : Int) := by rw [IntKind.wrap_i64]; omega
  have e3 : IntKind.i64.wrap ((a : Int) + (b : Int)) = ((a + b : Nat) : Int) := by rw [IntKind.wrap_i64]; omega
  have e4 : ((a : Int) + (b : Int)) / 2 = (mid : Int) := by omega
  obtain ⟨nn, hnn⟩ : ∃ nn : Nat, mid + m = nn := ⟨_, rfl⟩
  have e5 : IntKind.i64.wrap ((mid : Int) + (m : Int)) = (nn : Int) := by rw [IntKind.wrap_i64]; omega
  obtain ⟨pp, hpp⟩ : ∃ pp : Nat, nn - 1 = pp := ⟨_, rfl⟩
  have e6 : IntKind.i64.wrap ((nn : Int) - 1) = (pp : Int) := by rw [IntKind.wrap_i64]; omega
  have HPP := Lib.hid hpp
  have n1 : ¬ (d1 : Int) = 1 := by omega
  have n2 : ¬ d1 = 1 := by omega
  have n3 : ((d1 : Int) == 1) = false := by simp; omega
  have n4 : ¬ (d2 : Int) = 1 := by omega
  have n5 : ¬ d2 = 1 := by omega
  have n6 : ((d2 : Int) == 1) = false := by simp; omega
  have HMID := Lib.hid hmid
  have HNN := Lib.hid hnn
  have hbnd : a + 2 ≤ m ∧ m + 2 ≤ b ∧ a < mid ∧ mid < b := by omega
  obtain ⟨b1, b2, b3, b4⟩ := hbnd
  have hb2 : (b : Int) < 2000000 := by omega
  clear h hsA hsB ha hm hb hl hm1 hb1 hA hB IH hN hd1 hd2 hmid hnn hpp
  go_enter Tryz.func323, Tryz.ntmps323
  have hs : ∃ s0 r0 : Nat, (m ≤ mid ∧ s0 = a ∧ r0 = m) ∨ (mid < m ∧ s0 = nn - b ∧ r0 = mid) := by
    by_cases hmm : mid < m
    · exact ⟨nn - b, mid, .inr ⟨hmm, rfl, rfl⟩⟩
    · exact ⟨a, m, .inl ⟨by omega, rfl, rfl⟩⟩
  obtain ⟨s0, r0, hs⟩ := hs
  have H0 := Lib.hid hs
  have hsr : a ≤ s0 ∧ s0 ≤ r0 ∧ r0 ≤ m ∧ r0 ≤ mid ∧ nn ≤ b + s0 := by have := HNN.out; have := HMID.out; omega
  have HSR := Lib.hid hsr
  clear hsr
  rcases hs with ⟨hmm, hs0, hr0⟩ | ⟨hmm, hs0, hr0⟩
  all_goals
    try have e7 : IntKind.i64.wrap ((nn : Int) - (b : Int)) = (s0 : Int) := by rw [IntKind.wrap_i64]; have := HNN.out; omega
    try have hmm3 : ¬ (mid : Int) < (m : Int) := by omega
    try have hmm4 : ¬ mid < m := by omega
    have HS0 := Lib.hid hs0
    have HR0 := Lib.hid hr0
    clear hs0 hr0
    go_wp2
    clear e1 e2 e3 e4 e5 e6
    try clear e7
    obtain ⟨k1, k2, k3, k4, k5⟩ := HSR.out
    go_loopw [20, 21] (fun s r wr => CutRel w0 g off n (P ++ A ++ B ++ S) s0 r0 pp s r wr) (fun s r _ => (intOf r).toNat - (intOf s).toNat)
    case atStart => exact ⟨s0, r0, by first | rfl | rw [HS0.out], by rw [HR0.out], Nat.le_refl _, k2, Nat.le_refl _, .inl rfl, .inl rfl, H.out⟩
    case round =>
      obtain ⟨i, j, rfl, rfl, h1, h2, h3, hl, hr, harr⟩ := hrel
      have HL := Lib.hid hl
      have HR := Lib.hid hr
      have HAR := Lib.hid harr
      clear hl hr harr
      by_cases hlt : i < j
      · have e2 : IntKind.i64.wrap ((i : Int) + (j : Int)) = ((i + j : Nat) : Int) := by rw [IntKind.wrap_i64]; omega
        have hb2 : (j : Int) < 2000000 := by omega
        go_wp2
        obtain ⟨h, hh, hh1, hh2⟩ : ∃ h : Nat, ((i : Int) + (j : Int)) / 2 = (h : Int) ∧ i ≤ h ∧ h < j := ⟨(i + j) / 2, by omega, by omega, by omega⟩
        rw [hh]
        clear hh e2
        obtain ⟨u, hu⟩ : ∃ u : Nat, pp - h = u := ⟨_, rfl⟩
        have hu1 : u < n ∧ h < n ∧ h ≤ pp := by have := HPP.out; have := HNN.out; have := HMID.out; omega
        obtain ⟨hu1, hu2, hu3⟩ := hu1
        have q1 : IntKind.i64.wrap ((pp : Int) - (h : Int)) = (u : Int) := by rw [IntKind.wrap_i64]; omega
        have HU := Lib.hid hu
        clear hu
        have c0 := HAR.out.cell hu2
        have c1 := HAR.out.cell hu1
        have HX := Lib.hid (cmp_any ((P ++ A ++ B ++ S).getD u 0) ((P ++ A ++ B ++ S).getD h 0))
        generalize hx : (P ++ A ++ B ++ S).getD h 0 = x at c0 HX
        generalize hy : (P ++ A ++ B ++ S).getD u 0 = y at c1 HX
        generalize hdd : clsI y - clsI x = d at HX
        have HDD := Lib.hid hdd
        have HXX := Lib.hid hx
        have HYY := Lib.hid hy
        clear hdd hx hy
        have q2 : (0 : Int) ≤ (h : Int) := by omega
        have q3 : (h : Int) < (n : Int) := by omega
        have q4 : (0 : Int) ≤ (u : Int) := by omega
        have q5 : (u : Int) < (n : Int) := by omega
        by_cases hlt2 : d < 0
        · have hd2 : decide (d < 0) = true := decide_eq_true hlt2
          go_quiet ((go_at_call 173; exact Calls.quiet_of_same ((HX.out _).mono fun _ _ ⟨he, hw⟩ => ⟨he, hw.symm⟩)))
          go_wp2
          exact ⟨⟨i, h, rfl, rfl, h1, hh1, by omega, HL.out, .inr (by have := HDD.out; rw [HU.out, HXX.out, HYY.out]; omega), HAR.out.drewN nq⟩, by simp [intOf]; omega⟩
        · have hd2 : decide (d < 0) = false := decide_eq_false hlt2
          go_quiet ((go_at_call 173; exact Calls.quiet_of_same ((HX.out _).mono fun _ _ ⟨he, hw⟩ => ⟨he, hw.symm⟩)))
          go_wp2
          exact ⟨⟨h + 1, j, by rw [Int.natCast_add]; rfl, rfl, by omega, by omega, h3, .inr ⟨by omega, by have := HDD.out; rw [Nat.add_sub_cancel, HU.out, HXX.out, HYY.out]; omega⟩, HR.out, HAR.out.drewN nq⟩, by simp [intOf]; omega⟩
      · have hij : i = j := by omega
        subst hij
        obtain ⟨A1, A2, B1, B2, hcut, l1, l2, c1, c2, c3, c4⟩ := cut_law (S := S) (s := i) HSA.out HSB.out HPL.out HM.out HB.out HMID.out.symm HNN.out.symm H0.out h1 h3 (by rw [HPP.out]; exact HL.out) (by rw [HPP.out]; exact HR.out)
        obtain ⟨hA12, hB12, hc1, hc2⟩ := hcut
        have lA : A1.length + A2.length = A.length := by rw [hA12]; simp
        have lB : B1.length + B2.length = B.length := by rw [hB12]; simp
        obtain ⟨en, hen⟩ : ∃ en : Nat, nn - i = en := ⟨_, rfl⟩
        have L1 : i = a + A1.length := by omega
        have L2 : m = i + A2.length := by have := HM.out; omega
        have L3 : en = m + B1.length := by have := HNN.out; omega
        have L4 : b = en + B2.length := by have := HB.out; omega
        have L5 : mid = i + B1.length := by omega
        have e8 : IntKind.i64.wrap ((nn : Int) - (i : Int)) = (en : Int) := by rw [IntKind.wrap_i64]; have := HNN.out; omega
        have H1 : Hid (Arr w0 g off n (P ++ A1 ++ A2 ++ B1 ++ B2 ++ S) wr) := Lib.hid (by have := HAR.out; rw [hA12, hB12] at this; simpa using this)
        have sA1 : Srt A1 := by have := HSA.out; rw [hA12] at this; exact this.left
        have sA2 : Srt A2 := by have := HSA.out; rw [hA12] at this; exact this.right
        have sB1 : Srt B1 := by have := HSB.out; rw [hB12] at this; exact this.left
        have sB2 : Srt B2 := by have := HSB.out; rw [hB12] at this; exact this.right
        have HS := Lib.hid (And.intro (And.intro sA1 sA2) (And.intro sB1 sB2))
        have HF := Lib.hid (fun M1 M2 => merge_fin (M1 := M1) (M2 := M2) (by rw [← hA12]; exact HSA.out) (by rw [← hB12]; exact HSB.out) hc1 hc2)
        have HAB := Lib.hid (And.intro hA12 hB12)
        have hi2 : i ≤ mid := c2
        clear hA12 hB12 hc1 hc2 lA lB l1 l2 c1 c3 c4 sA1 sA2 sB1 sB2 HL HR HAR hen h1 h2 h3
        have HLL := Lib.hid (And.intro L1 (And.intro L2 (And.intro L3 (And.intro L4 L5))))
        have f1 : a ≤ i := by omega
        have f2 : i ≤ m := by omega
        have f3 : m ≤ en := by omega
        have f4 : en ≤ b := by omega
        have g1 : (a < i) ↔ 0 < A1.length := by omega
        have g2 : (i < m) ↔ 0 < A2.length := by omega
        have g3 : (m < en) ↔ 0 < B1.length := by omega
        have g4 : (en < b) ↔ 0 < B2.length := by omega
        have g5 : (i < mid) ↔ 0 < B1.length := by omega
        have g6 : (mid < en) ↔ 0 < A2.length := by omega
        have HG := Lib.hid (And.intro g1 (And.intro g2 (And.intro g3 (And.intro g4 (And.intro g5 g6)))))
        clear L1 L2 L3 L4 L5 g1 g2 g3 g4 g5 g6
        have hrot : (i < m ∧ m < en) ∨ (i < m ∧ ¬ m < en) ∨ ¬ i < m := by omega
        have hTo : (0 < A2.length → 0 < B1.length → False) → P ++ A1 ++ A2 ++ B1 ++ B2 ++ S = P ++ A1 ++ B1 ++ A2 ++ B2 ++ S := fun hh => by
          by_cases q1 : A2 = []
          · rw [q1]; simp
          by_cases q2 : B1 = []
          · rw [q2]; simp
          exact (hh (List.length_pos_iff.2 q1) (List.length_pos_iff.2 q2)).elim
        have HTO := Lib.hid hTo
        clear hTo
        have big := HLL.out
        have bigN : A1.length + B1.length ≤ N ∧ A2.length + B2.length ≤ N := by omega
        have BN := Lib.hid bigN
        clear big bigN
        rcases hrot with ⟨p1, p2⟩ | ⟨p1, p2⟩ | p1
        have p1' : (i : Int) < (m : Int) := by omega
        have p2' : (m : Int) < (en : Int) := by omega
        focus go_wp2_with fail
        obtain ⟨L1, L2, L3, L4, L5⟩ := HLL.out
        refine (rotate_any w0 g off n (P ++ A1) A2 B1 (B2 ++ S) i m en _ cap _ hn hoff (HG.out.2.1.1 p1) (HG.out.2.2.1.1 p2) (by have := HPL.out; simp; omega) (by have := HPL.out; simp; omega) (by have := HPL.out; simp; omega) (by have := H1.out; simpa using this)).mono ?_
        rintro e wr2 ⟨rfl, h2⟩
        have H2 : Hid (Arr w0 g off n (P ++ A1 ++ B1 ++ A2 ++ B2 ++ S) wr2) := Lib.hid (by simpa using h2)
        have r1 : i < mid := HG.out.2.2.2.2.1.2 (HG.out.2.2.1.1 p2)
        have r2 : mid < en := HG.out.2.2.2.2.2.2 (HG.out.2.1.1 p1)
        have hcs : (a < i ∧ i < mid) ∨ (a < i ∧ ¬ i < mid) ∨ ¬ a < i := by omega
        have hcs2 : (mid < en ∧ en < b) ∨ (mid < en ∧ ¬ en < b) ∨ ¬ mid < en := by omega
        clear L1 L2 L3 L4 L5 h2 r1 r2 p1' p2'
        rotate_left
        have p1' : (i : Int) < (m : Int) := by omega
        have p2' : ¬ (m : Int) < (en : Int) := by omega
        have H2 : Hid (Arr w0 g off n (P ++ A1 ++ B1 ++ A2 ++ B2 ++ S) wr) := Lib.hid (by have := H1.out; rwa [HTO.out (fun _ q => p2 (HG.out.2.2.1.2 q))] at this)
        have hcs : (a < i ∧ i < mid) ∨ (a < i ∧ ¬ i < mid) ∨ ¬ a < i := by omega
        have hcs2 : (mid < en ∧ en < b) ∨ (mid < en ∧ ¬ en < b) ∨ ¬ mid < en := by omega
        rotate_left
        have p1' : ¬ (i : Int) < (m : Int) := by omega
        have H2 : Hid (Arr w0 g off n (P ++ A1 ++ B1 ++ A2 ++ B2 ++ S) wr) := Lib.hid (by have := H1.out; rwa [HTO.out (fun q _ => p1 (HG.out.2.1.2 q))] at this)
        have hcs : (a < i ∧ i < mid) ∨ (a < i ∧ ¬ i < mid) ∨ ¬ a < i := by omega
        have hcs2 : (mid < en ∧ en < b) ∨ (mid < en ∧ ¬ en < b) ∨ ¬ mid < en := by omega
        rotate_left
        all_goals
          rcases hcs with ⟨t1, t2⟩ | ⟨t1, t2⟩ | t1
          have t1' : (a : Int) < (i : Int) := by omega
          have t2' : (i : Int) < (mid : Int) := by omega
          focus go_wp2_with fail
          obtain ⟨L1, L2, L3, L4, L5⟩ := HLL.out
          refine (HIH.out w0 g off n P A1 B1 (A2 ++ B2 ++ S) a i mid _ cap hn hoff BN.out.1 (HG.out.1.1 t1) (HG.out.2.2.2.2.1.1 t2) HS.out.1.1 HS.out.2.1 HPL.out (by have := HPL.out; omega) (by have := HPL.out; omega) (by have := H2.out; simpa using this)).mono ?_
          rintro e wr3 ⟨rfl, M1, s1, s2, h3⟩
          have H3 := Lib.hid h3
          have HSS := Lib.hid (And.intro s1 s2)
          clear L1 L2 L3 L4 L5 h3 s1 s2 t1' t2'
          rotate_left
          have t1' : (a : Int) < (i : Int) := by omega
          have t2' : ¬ (i : Int) < (mid : Int) := by omega
          have hB1 : B1 = [] := List.length_eq_zero_iff.1 (by have := HG.out.2.2.2.2.1.2; omega)
          obtain ⟨M1, HSS, H3⟩ : ∃ M1, Hid (SP (A1 ++ B1) M1 ∧ Srt M1) ∧ Hid (Arr w0 g off n (P ++ M1 ++ (A2 ++ B2 ++ S)) _) := ⟨A1, Lib.hid ⟨by rw [hB1, List.append_nil]; exact SP.refl _, HS.out.1.1⟩, Lib.hid (by have := H2.out; rw [hB1] at this; simpa using this)⟩
          clear hB1
          rotate_left
          have t1' : ¬ (a : Int) < (i : Int) := by omega
          have hA1 : A1 = [] := List.length_eq_zero_iff.1 (by have := HG.out.1.2; omega)
          obtain ⟨M1, HSS, H3⟩ : ∃ M1, Hid (SP (A1 ++ B1) M1 ∧ Srt M1) ∧ Hid (Arr w0 g off n (P ++ M1 ++ (A2 ++ B2 ++ S)) _) := ⟨B1, Lib.hid ⟨by rw [hA1, List.nil_append]; exact SP.refl _, HS.out.2.1⟩, Lib.hid (by have := H2.out; rw [hA1] at this; simpa using this)⟩
          clear hA1
          rotate_left
          all_goals
            have hlen := HSS.out.1.length
            rw [List.length_append] at hlen
            rcases hcs2 with ⟨u1, u2⟩ | ⟨u1, u2⟩ | u1
            have u1' : (mid : Int) < (en : Int) := by omega
            have u2' : (en : Int) < (b : Int) := by omega
            focus go_wp2_with fail
            obtain ⟨L1, L2, L3, L4, L5⟩ := HLL.out
            refine (HIH.out w0 g off n (P ++ M1) A2 B2 S mid en b _ cap hn hoff BN.out.2 (HG.out.2.2.2.2.2.1 u1) (HG.out.2.2.2.1.1 u2) HS.out.1.2 HS.out.2.2 (by have := HPL.out; simp; omega) (by have := HPL.out; simp; omega) (by have := HPL.out; simp; omega) (by have := H3.out; simpa using this)).mono ?_
            rintro e wr4 ⟨rfl, M2, s1, s2, h4⟩
            have H4 := Lib.hid h4
            have HSS2 := Lib.hid (And.intro s1 s2)
            clear L1 L2 L3 L4 L5 h4 s1 s2 u1' u2'
            rotate_left
            have u1' : (mid : Int) < (en : Int) := by omega
            have u2' : ¬ (en : Int) < (b : Int) := by omega
            have hB2 : B2 = [] := List.length_eq_zero_iff.1 (by have := HG.out.2.2.2.1.2; omega)
            obtain ⟨M2, HSS2, H4⟩ : ∃ M2, Hid (SP (A2 ++ B2) M2 ∧ Srt M2) ∧ Hid (Arr w0 g off n (P ++ M1 ++ M2 ++ S) _) := ⟨A2, Lib.hid ⟨by rw [hB2, List.append_nil]; exact SP.refl _, HS.out.1.2⟩, Lib.hid (by have := H3.out; rw [hB2] at this; simpa using this)⟩
            clear hB2
            rotate_left
            have u1' : ¬ (mid : Int) < (en : Int) := by omega
            have hA2 : A2 = [] := List.length_eq_zero_iff.1 (by have := HG.out.2.2.2.2.2.2; omega)
            obtain ⟨M2, HSS2, H4⟩ : ∃ M2, Hid (SP (A2 ++ B2) M2 ∧ Srt M2) ∧ Hid (Arr w0 g off n (P ++ M1 ++ M2 ++ S) _) := ⟨B2, Lib.hid ⟨by rw [hA2, List.nil_append]; exact SP.refl _, HS.out.2.2⟩, Lib.hid (by have := H3.out; rw [hA2] at this; simpa using this)⟩
            clear hA2
            rotate_left
            all_goals
              have HFIN := Lib.hid (HF.out M1 M2 HSS.out.1 HSS.out.2 HSS2.out.1 HSS2.out.2)
              try clear H0 HSR HS0 HR0 hlen HSS HSS2 HF
              focus go_wp2
              go_end0
              exact ⟨rfl, M1 ++ M2, by rw [HAB.out.1, HAB.out.2]; exact HFIN.out.1, HFIN.out.2, by have := H4.out; simpa using this⟩
theorem merge_at : ∀ N : Nat, MergeAt N
  | 0 => fun w0 g off n P A B S a m b w cap _ _ hN h1 h2 => by omega
  | N + 1 => fun w0 g off n P A B S a m b w cap hn hoff hN hA hB hsA hsB ha hm hb h => by
    match A, hA, hsA, hN, hm, hb, h with
    | [x], _, _, hN, hm, hb, h =>
      have := merge_left w0 g off n P B S x a m b w cap hn hoff hsB (by simp at *; omega) (by simp at *; omega) (by simp at *; omega) (by simpa using h)
      simpa using this
    | x :: x2 :: A, _, hsA, hN, hm, hb, h =>
      match B, hB, hsB, hN, hb, h with
      | [y], _, _, hN, hb, h =>
        exact merge_right w0 g off n P (x :: x2 :: A) S y a m b w cap hn hoff hsA (by simp) (by simp at *; omega) (by simp at *; omega) (by simp at *; omega) (by simpa using h)
      | y :: y2 :: B, _, hsB, hN, hb, h =>
        exact merge_big (merge_at N) w0 g off n P _ _ S a m b w cap hn hoff hN (by simp) (by simp) hsA hsB ha hm hb h
end Go.Proofs.YtpmlggjhfiljmaaGreatDoor
/- stableCmpFunc: blocks, and merges. -/
namespace Go.Proofs.YtpmlggjhfiljmaaGreatDoor
open Go.RowKit
set_option linter.unusedVariables false
set_option linter.unnecessarySimpa false
set_option linter.unusedSimpArgs false
/-- blocks of bs, each sorted -/
def SB (bs : Nat) (L : List Int) : Prop := ∀ k : Nat, Srt ((L.drop (k * bs)).take bs)
theorem srt_nil : Srt [] := List.Pairwise.nil
theorem srt_take {L : List Int} (h : Srt L) (k : Nat) : Srt (L.take k) := List.Pairwise.sublist (List.take_sublist k L) h
theorem sb_nil (bs : Nat) : SB bs [] := fun k => by simp; exact srt_nil
theorem sb_one {bs : Nat} {L : List Int} (h : Srt L) (hl : L.length ≤ bs) : SB bs L := fun k => by
  cases k with
  | zero => simpa using srt_take h bs
  | succ k =>
    have : L.drop ((k + 1) * bs) = [] := List.drop_eq_nil_of_le (by rw [Nat.succ_mul]; omega)
    rw [this]; simp; exact srt_nil
theorem sb_all {bs : Nat} {L : List Int} (h : SB bs L) (hl : L.length ≤ bs) : Srt L := by
  have := h 0
  simp only [Nat.zero_mul, List.drop_zero] at this
  rwa [List.take_of_length_le hl] at this
theorem sb_append {bs q : Nat} {M R : List Int} (hM : M.length = q * bs) (h1 : SB bs M) (h2 : SB bs R) : SB bs (M ++ R) := fun k => by
  by_cases hk : k < q
  · have h3 : k * bs + bs ≤ M.length := by
      rw [hM]
      have := Nat.mul_le_mul_right bs (Nat.succ_le_of_lt hk)
      rw [Nat.succ_mul] at this
      exact this
    rw [List.drop_append_of_le_length (by omega), List.take_append_of_le_length (by rw [List.length_drop]; omega)]
    exact h1 k
  · have h3 : M.length ≤ k * bs := by rw [hM]; exact Nat.mul_le_mul_right bs (by omega)
    have e : (M ++ R).drop (k * bs) = R.drop ((k - q) * bs) := by
      rw [List.drop_append, List.drop_eq_nil_of_le h3, List.nil_append, hM, Nat.mul_sub_right_distrib]
    rw [e]
    exact h2 (k - q)
theorem sb_drop {bs : Nat} {L : List Int} (h : SB bs L) (q : Nat) : SB bs (L.drop (q * bs)) := fun k => by
  rw [List.drop_drop, ← Nat.add_mul]; exact h (q + k)
theorem sb_take {bs : Nat} {L : List Int} (h : SB bs L) : Srt (L.take bs) := by have := h 0; simpa using this
theorem sb_drop1 {bs : Nat} {L : List Int} (h : SB bs L) : SB bs (L.drop bs) := by have := sb_drop h 1; rwa [Nat.one_mul] at this
theorem sp_mid {X M R R' : List Int} (h : SP X (M ++ R)) (k : SP R R') : SP X (M ++ R') := h.trans ((SP.refl M).append k)
/-- the first blocks are sorted -/
def BlkRel (w0 : World) (g off n : Nat) (X : List Int) (a b : Value) (wr : World) : Prop :=
  ∃ (k : Nat) (M R : List Int), a = .int .i64 ((20 * k : Nat) : Int) ∧ b = .int .i64 ((20 * k + 20 : Nat) : Int) ∧ M.length = 20 * k ∧ SB 20 M ∧ SP X (M ++ R) ∧ Arr w0 g off n (M ++ R) wr
def RoundRel (w0 : World) (g off n : Nat) (X : List Int) (bs a b : Value) (wr : World) : Prop :=
  ∃ (s : Nat) (M : List Int), bs = .int .i64 (s : Nat) ∧ 20 ≤ s ∧ s ≤ 2000000 ∧ SB s M ∧ SP X M ∧ Arr w0 g off n M wr
def HalfRel (w0 : World) (g off n s : Nat) (X : List Int) (a b : Value) (wr : World) : Prop :=
  ∃ (q l : Nat) (M R : List Int), a = .int .i64 (l : Nat) ∧ b = .int .i64 ((l + 2 * s : Nat) : Int) ∧ M.length = l ∧ l = q * (2 * s) ∧ SB (2 * s) M ∧ SB s R ∧ SP X (M ++ R) ∧ Arr w0 g off n (M ++ R) wr
set_option maxHeartbeats 800000 in
set_option maxRecDepth 100000 in
theorem insert_none (V F : Value) (a : Nat) (ha : a ≤ 1000000) (w : World) :
    Calls Tryz.prog 322 #[V, .int .i64 (a : Nat), .int .i64 (a : Nat), F] w (fun e w' => e = .returned (.tuple #[]) ∧ w' = w) := by
  go_enter Tryz.func322, Tryz.ntmps322
  go_wp2
  refine wp_loop_rounds 1 ?_
  rw [rounds_succ]
  go_wp2
  go_end0
  exact ⟨rfl, rfl⟩
set_option maxHeartbeats 800000 in
theorem insert_all (w0 : World) (g off n : Nat) (P A S : List Int) (a b : Nat) (w : World) (cap : Nat) (hn : n ≤ 1000000) (hoff : off ≤ 1000000) (ha : a = P.length) (hb : b = P.length + A.length) (h : Arr w0 g off n (P ++ A ++ S) w) :
    Calls Tryz.prog 322 #[.slice (some ⟨g, off, none⟩) n cap, .int .i64 (a : Nat), .int .i64 (b : Nat), .func (.func 173) #[] #[]] w (SortPost w0 g off n P A S) := by
  by_cases hA : 1 ≤ A.length
  · subst ha hb
    exact insert_any w0 g off n P A S w cap hn hoff hA h
  · have hA0 : A = [] := List.length_eq_zero_iff.1 (by omega)
    subst hA0
    have hl := h.len
    simp at hl hb
    have e : b = a := by omega
    subst e
    refine (insert_none _ _ b (by omega) w).mono ?_
    rintro e w1 ⟨rfl, rfl⟩
    exact ⟨rfl, [], SP.refl _, srt_nil, h⟩
set_option maxHeartbeats 3200000 in
set_option maxRecDepth 100000 in
theorem stable_any (w0 : World) (g off n : Nat) (X : List Int) (w : World) (cap : Nat) (hn : n ≤ 1000000) (hoff : off ≤ 1000000) (h : Arr w0 g off n X w) :
    Calls Tryz.prog 257 #[.slice (some ⟨g, off, none⟩) n cap, .int .i64 (n : Nat), .func (.func 173) #[] #[]] w (SortPost w0 g off n [] X []) := by
  have hl := h.len
  have H := Lib.hid h
  have HL := Lib.hid hl
  clear h hl
  go_enter Tryz.func257, Tryz.ntmps257
  go_wp2
  go_loopw [7, 8] (fun a b wr => BlkRel w0 g off n X a b wr) (fun _ b _ => n + 20 - (intOf b).toNat)
  case atStart => exact ⟨0, [], X, rfl, rfl, rfl, sb_nil 20, SP.refl _, H.out⟩
  case round =>
    obtain ⟨k, M, R, rfl, rfl, hM, hsb, hsp, harr⟩ := hrel
    have hlen := harr.len
    rw [List.length_append, hM] at hlen
    have HSB := Lib.hid hsb
    have HSP := Lib.hid hsp
    have HAR := Lib.hid harr
    have HMM := Lib.hid hM
    obtain ⟨l, hl⟩ : ∃ l : Nat, 20 * k = l := ⟨_, rfl⟩
    have HKL := Lib.hid hl
    rw [hl] at hlen ⊢
    clear hsb hsp harr hM hl
    by_cases hb : l + 20 ≤ n
    · have hb' : ((l + 20 : Nat) : Int) ≤ (n : Int) := by omega
      go_wp2_with fail
      refine (insert_all w0 g off n M (R.take 20) (R.drop 20) l (l + 20) _ cap hn hoff (by rw [HMM.out, HKL.out]) (by rw [HMM.out, HKL.out, List.length_take]; omega) (by rw [List.append_assoc, List.take_append_drop]; exact HAR.out)).mono ?_
      rintro e w2 ⟨rfl, M1, s1, t1, h1⟩
      have hl1 : M1.length = 20 := by rw [← s1.length, List.length_take]; omega
      have hmm := HMM.out
      have hkl := HKL.out
      have H2 : Hid (∃ (M' R' : List Int), M'.length = 20 * (k + 1) ∧ SB 20 M' ∧ SP X (M' ++ R') ∧ Arr w0 g off n (M' ++ R') w2) := Lib.hid ⟨M ++ M1, R.drop 20, by rw [List.length_append]; omega, sb_append (q := k) (by omega) HSB.out (sb_one t1 (by omega)), by
        have e1 : SP R (M1 ++ R.drop 20) := by
          have := s1.append (SP.refl (R.drop 20))
          rwa [List.take_append_drop] at this
        have := sp_mid HSP.out e1
        rwa [← List.append_assoc] at this, h1⟩
      clear s1 t1 h1 hl1 hmm hkl
      go_wp2
      obtain ⟨M', R', q1, q2, q3, q4⟩ := H2.out
      have hkl := HKL.out
      refine ⟨⟨k + 1, M', R', congrArg (Value.int .i64) (by omega), congrArg (Value.int .i64) (by omega), q1, q2, q3, q4⟩, ?_⟩
      simp [intOf]; omega
    · have hb' : ¬ ((l + 20 : Nat) : Int) ≤ (n : Int) := by omega
      have hb2 : ¬ (l : Int) + 20 ≤ (n : Int) := by omega
      go_wp2_with fail
      refine (insert_all w0 g off n M R [] l n _ cap hn hoff (by rw [HMM.out, HKL.out]) (by rw [HMM.out, HKL.out]; omega) (by rw [List.append_nil]; exact HAR.out)).mono ?_
      rintro e w2 ⟨rfl, M1, s1, t1, h1⟩
      have hl1 : M1.length = R.length := s1.length.symm
      have hmm := HMM.out
      have hkl := HKL.out
      have H2 : Hid (∃ (M' : List Int), SB 20 M' ∧ SP X M' ∧ Arr w0 g off n M' w2) := Lib.hid ⟨M ++ M1, sb_append (q := k) (by omega) HSB.out (sb_one t1 (by omega)), sp_mid HSP.out s1, by simpa using h1⟩
      clear s1 t1 h1 hl1 hmm hkl HSB HSP HAR HMM HKL hlen hb hb' hb2
      go_wp2
      go_loopw [6, 7, 8] (fun bs a b wr => RoundRel w0 g off n X bs a b wr) (fun bs _ _ _ => n - (intOf bs).toNat)
      case atStart =>
        obtain ⟨M', q1, q2, q3⟩ := H2.out
        exact ⟨20, M', rfl, Nat.le_refl _, by omega, q1, q2, q3⟩
      case round =>
        clear H2
        obtain ⟨s, N, rfl, hs1, hs2, hsb, hsp, harr⟩ := hrel
        have hlen := harr.len
        have HSB := Lib.hid hsb
        have HSP := Lib.hid hsp
        have HAR := Lib.hid harr
        have HMM := Lib.hid hlen
        clear hsb hsp harr hlen
        by_cases hb : s < n
        · have hb' : (s : Int) < (n : Int) := by omega
          go_wp2
          go_loopw [7, 8] (fun a b wr => HalfRel w0 g off n s X a b wr) (fun a _ _ => n - (intOf a).toNat)
          case atStart => exact ⟨0, 0, [], N, rfl, congrArg (Value.int .i64) (by omega), rfl, by omega, sb_nil _, HSB.out, HSP.out, HAR.out⟩
          case round =>
            clear HSB HSP HAR HMM
            obtain ⟨q, l, M', R, rfl, rfl, hM, hlq, hsb, hsb2, hsp, harr⟩ := hrel
            have hlen := harr.len
            rw [List.length_append, hM] at hlen
            have HSB := Lib.hid hsb
            have HSB2 := Lib.hid hsb2
            have HSP := Lib.hid hsp
            have HAR := Lib.hid harr
            have HMM := Lib.hid hM
            have HLQ := Lib.hid hlq
            have HLN := Lib.hid hlen
            have hln : l ≤ n := by omega
            clear hsb hsb2 hsp harr hM hlq hlen
            have e1 : IntKind.i64.wrap ((l : Int) + (s : Int)) = ((l + s : Nat) : Int) := by rw [IntKind.wrap_i64]; omega
            have e2 : IntKind.i64.wrap (2 * (s : Int)) = ((2 * s : Nat) : Int) := by rw [IntKind.wrap_i64]; omega
            have e3 : IntKind.i64.wrap ((s : Int) * 2) = ((2 * s : Nat) : Int) := by rw [IntKind.wrap_i64]; omega
            have e4 : IntKind.i64.wrap (((l + 2 * s : Nat) : Int) + ((2 * s : Nat) : Int)) = ((l + 2 * s + 2 * s : Nat) : Int) := by rw [IntKind.wrap_i64]; omega
            have e5 : IntKind.i64.wrap (((l : Nat) : Int) + 2 * (s : Nat) + 2 * (s : Nat)) = ((l + 2 * s + 2 * s : Nat) : Int) := by rw [IntKind.wrap_i64]; omega
            by_cases hc : l + 2 * s ≤ n
            · have hc' : ((l + 2 * s : Nat) : Int) ≤ (n : Int) := by omega
              have hc2 : (l : Int) + 2 * (s : Int) ≤ (n : Int) := by omega
              go_wp2_with fail
              have hr := HLN.out
              refine (merge_at _ w0 g off n M' (R.take s) ((R.drop s).take s) (R.drop (2 * s)) l (l + s) (l + 2 * s) _ cap hn hoff (Nat.le_refl _) (by rw [List.length_take]; omega) (by rw [List.length_take, List.length_drop]; omega) (sb_take HSB2.out) (sb_take (sb_drop1 HSB2.out)) HMM.out.symm (by rw [HMM.out, List.length_take]; omega) (by rw [HMM.out, List.length_take, List.length_take, List.length_drop]; omega) ?_).mono ?_
              · have h3 : R.take s ++ ((R.drop s).take s ++ R.drop (2 * s)) = R := by
                  rw [show R.drop (2 * s) = (R.drop s).drop s by rw [List.drop_drop]; congr 1; omega, List.take_append_drop, List.take_append_drop]
                rw [List.append_assoc, List.append_assoc, h3]
                exact HAR.out
              rintro e w2 ⟨rfl, M1, s1, t1, h1⟩
              have hl1 : M1.length = 2 * s := by rw [← s1.length, List.length_append, List.length_take, List.length_take, List.length_drop]; omega
              have H2 : Hid (∃ (M2 R' : List Int), M2.length = l + 2 * s ∧ l + 2 * s = (q + 1) * (2 * s) ∧ SB (2 * s) M2 ∧ SB s R' ∧ SP X (M2 ++ R') ∧ Arr w0 g off n (M2 ++ R') w2) := Lib.hid ⟨M' ++ M1, R.drop (2 * s), by rw [List.length_append, HMM.out, hl1], by have := Nat.add_mul q 1 (2 * s); rw [this, ← HLQ.out, Nat.one_mul], sb_append (q := q) (by rw [HMM.out, ← HLQ.out]) HSB.out (sb_one t1 (by omega)), sb_drop HSB2.out 2, by
                have e1 : SP R (M1 ++ R.drop (2 * s)) := by
                  have := s1.append (SP.refl (R.drop (2 * s)))
                  rwa [List.append_assoc, show R.drop (2 * s) = (R.drop s).drop s by rw [List.drop_drop]; congr 1; omega, List.take_append_drop, List.take_append_drop, show (R.drop s).drop s = R.drop (2 * s) by rw [List.drop_drop]; congr 1; omega] at this
                have := sp_mid HSP.out e1
                rwa [← List.append_assoc] at this, h1⟩
              clear s1 t1 h1 hl1 hr
              go_wp2
              obtain ⟨M2, R', q1, q2, q3, q4, q5, q6⟩ := H2.out
              refine ⟨⟨q + 1, l + 2 * s, M2, R', congrArg (Value.int .i64) (by omega), congrArg (Value.int .i64) (by omega), q1, q2, q3, q4, q5, q6⟩, ?_⟩
              simp [intOf]; omega
            · have hc' : ¬ ((l + 2 * s : Nat) : Int) ≤ (n : Int) := by omega
              have hc2 : ¬ (l : Int) + 2 * (s : Int) ≤ (n : Int) := by omega
              by_cases hd : l + s < n
              · have hd' : ((l + s : Nat) : Int) < (n : Int) := by omega
                have hd2 : (l : Int) + (s : Int) < (n : Int) := by omega
                go_wp2_with fail
                have hr := HLN.out
                refine (merge_at _ w0 g off n M' (R.take s) (R.drop s) [] l (l + s) n _ cap hn hoff (Nat.le_refl _) (by rw [List.length_take]; omega) (by rw [List.length_drop]; omega) (sb_take HSB2.out) (sb_all (sb_drop1 HSB2.out) (by rw [List.length_drop]; omega)) HMM.out.symm (by rw [HMM.out, List.length_take]; omega) (by rw [HMM.out, List.length_take, List.length_drop]; omega) (by rw [List.append_nil, List.append_assoc, List.take_append_drop]; exact HAR.out)).mono ?_
                rintro e w2 ⟨rfl, M1, s1, t1, h1⟩
                have hl1 : M1.length = R.length := by rw [← s1.length, List.take_append_drop]
                have H2 : Hid (∃ (M2 : List Int), SB (2 * s) M2 ∧ SP X M2 ∧ Arr w0 g off n M2 w2) := Lib.hid ⟨M' ++ M1, sb_append (q := q) (by rw [HMM.out, ← HLQ.out]) HSB.out (sb_one t1 (by omega)), sp_mid HSP.out (by rwa [List.take_append_drop] at s1), by simpa using h1⟩
                clear s1 t1 h1 hl1 hr
                go_wp2
                go_roundw
                case rel =>
                  obtain ⟨M2, q1, q2, q3⟩ := H2.out
                  exact ⟨2 * s, M2, rfl, by omega, by omega, q1, q2, q3⟩
                case measure => simp [intOf]; omega
              · have hd' : ¬ ((l + s : Nat) : Int) < (n : Int) := by omega
                have hd2 : ¬ (l : Int) + (s : Int) < (n : Int) := by omega
                have hr := HLN.out
                have H2 : Hid (∃ (M2 : List Int), SB (2 * s) M2 ∧ SP X M2 ∧ Arr w0 g off n M2 wr) := Lib.hid ⟨M' ++ R, sb_append (q := q) (by rw [HMM.out, ← HLQ.out]) HSB.out (sb_one (sb_all HSB2.out (by omega)) (by omega)), HSP.out, HAR.out⟩
                clear hr
                go_wp2
                go_roundw
                case rel =>
                  obtain ⟨M2, q1, q2, q3⟩ := H2.out
                  exact ⟨2 * s, M2, rfl, by omega, by omega, q1, q2, q3⟩
                case measure => simp [intOf]; omega
        · have hb' : ¬ (s : Int) < (n : Int) := by omega
          go_wp2
          go_end0
          exact ⟨rfl, N, HSP.out, sb_all HSB.out (by have := HMM.out; omega), by simpa using HAR.out⟩
end Go.Proofs.YtpmlggjhfiljmaaGreatDoor
