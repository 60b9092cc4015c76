/- Contracts that the law rests on, part 15 of 50 (SrtD, SrtE, SrtF). Each states its own conditions. -/
import Derived.Test.YtpmlggjhfiljmaaGreatDoorC14
/- symMergeCmpFunc: one number into a row, from the left. -/
namespace Go.Proofs.YtpmlggjhfiljmaaGreatDoor
open Go.RowKit
set_option linter.unusedVariables false
set_option linter.unnecessarySimpa false
def BinRel (p : Int → Prop) (q : Int → Prop) (w0 : World) (g off n : Nat) (base : Nat) (T B : List Int) (i j : Value) (wr : World) : Prop :=
  ∃ B1 B2 B3 : List Int, B = B1 ++ B2 ++ B3 ∧ i = .int .i64 ((base + B1.length : Nat) : Int) ∧ j = .int .i64 ((base + B1.length + B2.length : Nat) : Int) ∧ (∀ z ∈ B1, p z) ∧ (∀ z ∈ B3, q z) ∧ Arr w0 g off n T wr
def ShiftRel (w0 : World) (g off n a : Nat) (P B1 : List Int) (x : Int) (S : List Int) (k : Value) (wr : World) : Prop :=
  ∃ D1 D2 : List Int, B1 = D1 ++ D2 ∧ k = .int .i64 ((a + D1.length : Nat) : Int) ∧ Arr w0 g off n (P ++ D1 ++ x :: D2 ++ S) wr
theorem split_mid {B2 : List Int} {k : Nat} (h : k < B2.length) : ∃ C1 z C2, B2 = C1 ++ z :: C2 ∧ C1.length = k :=
  ⟨B2.take k, B2[k], B2.drop (k + 1), by rw [List.getElem_cons_drop, List.take_append_drop], by rw [List.length_take]; omega⟩
set_option maxHeartbeats 3200000 in
set_option maxRecDepth 100000 in
theorem merge_left (w0 : World) (g off n : Nat) (P B S : List Int) (x : Int) (a m b : Nat) (w : World) (cap : Nat) (hn : n ≤ 1000000) (hoff : off ≤ 1000000) (hsrt : Srt B)
    (ha : a = P.length) (hm : m = P.length + 1) (hb : b = P.length + 1 + B.length) (h : Arr w0 g off n (P ++ x :: B ++ S) w) :
    Calls Tryz.prog 323 #[.slice (some ⟨g, off, none⟩) n cap, .int .i64 (a : Nat), .int .i64 (m : Nat), .int .i64 (b : Nat), .func (.func 173) #[] #[]] w (SortPost w0 g off n P (x :: B) S) := by
  have hl := h.len
  simp at hl
  have H := Lib.hid h
  have HSRT := Lib.hid hsrt
  have HPL := Lib.hid ha
  have hm1 : m = a + 1 := by omega
  have hb1 : b = a + 1 + B.length := by omega
  have hbn : b ≤ n := by omega
  have e1 : IntKind.i64.wrap ((m : Int) - (a : Int)) = 1 := by rw [IntKind.wrap_i64]; omega
  have HM := Lib.hid hm1
  have HB := Lib.hid hb1
  have hab : a < b := by omega
  have hmb : m ≤ b := by omega
  clear h hsrt ha hm hb hl hm1 hb1
  go_enter Tryz.func323, Tryz.ntmps323
  go_wp2
  clear e1
  go_loopw [10, 11] (fun i j wr => BinRel (fun z => clsI z < clsI x) (fun z => clsI x ≤ clsI z) w0 g off n m (P ++ x :: B ++ S) B i j wr) (fun i j _ => (intOf j).toNat - (intOf i).toNat)
  case atStart => exact ⟨[], B, [], by simp, by simp, by have := HB.out; have := HM.out; simp; omega, fun z hz => by simp at hz, fun z hz => by simp at hz, H.out⟩
  case round =>
    obtain ⟨B1, B2, B3, hB, rfl, rfl, hp, hq, harr⟩ := hrel
    have HBB := Lib.hid hB
    have HP := Lib.hid hp
    have HQ := Lib.hid hq
    have HAR := Lib.hid harr
    have hbl : a + 1 + (B1.length + B2.length + B3.length) = b := by have := HB.out; rw [hB] at this; simp at this; omega
    clear hB hp hq harr
    generalize hi : m + B1.length = i
    generalize hj : i + B2.length = j
    have him : m ≤ i := by omega
    have hij : i ≤ j := by omega
    have hjb : j ≤ b := by have := HM.out; omega
    have HI := Lib.hid hi
    have HJ := Lib.hid hj
    clear hi hj hbl
    by_cases hlt : i < j
    · have e2 : IntKind.i64.wrap ((i : Int) + (j : Int)) = ((i + j : Nat) : Int) := by rw [IntKind.wrap_i64]; omega
      have hb2 : (j : Int) < 2000000 := by omega
      go_wp2
      obtain ⟨h, hh, hh1, hh2⟩ : ∃ h : Nat, ((i : Int) + (j : Int)) / 2 = (h : Int) ∧ i ≤ h ∧ h < j := ⟨(i + j) / 2, by omega, by omega, by omega⟩
      rw [hh]
      clear hh e2
      obtain ⟨C1, z, C2, hC, hC1⟩ := split_mid (B2 := B2) (k := h - i) (by have := HJ.out; omega)
      have HC := Lib.hid hC
      have HC1 := Lib.hid hC1
      have c0 : wr.cell? ⟨g, off + h, none⟩ = some (.int .i32 z) := by
        have e := HAR.out.cell (j := h) (by omega)
        have e2 := getD_mid (P ++ x :: (B1 ++ C1)) (C2 ++ B3 ++ S) z
        have e3 : (P ++ x :: (B1 ++ C1)).length = h := by have := HI.out; have := HPL.out; have := HM.out; simp; omega
        rw [e3] at e2
        rw [e, HBB.out, hC]
        simpa using e2
      have c1 : wr.cell? ⟨g, off + a, none⟩ = some (.int .i32 x) := by
        have e := HAR.out.cell (j := a) (by omega)
        have e2 := getD_mid P (B ++ S) x
        rw [← HPL.out] at e2
        rw [e]
        simpa using e2
      have hsz : Srt (C1 ++ z :: C2) := by
        have := HSRT.out
        rw [HBB.out] at this
        rw [← hC]
        exact this.left.right
      have HSZ := Lib.hid hsz
      clear hC hC1 hsz
      have HX := Lib.hid (cmp_any z x)
      generalize hdd : clsI z - clsI x = d at HX
      have HDD := Lib.hid hdd
      clear hdd
      have q2 : (0 : Int) ≤ (h : Int) := by omega
      have q3 : (h : Int) < (n : Int) := by omega
      have q4 : (0 : Int) ≤ (a : Int) := by omega
      have q5 : (a : Int) < (n : Int) := by omega
      by_cases hlt2 : d < 0
      · have hd2 : decide (d < 0) = true := decide_eq_true hlt2
        go_quiet ((go_at_call 173; exact Calls.quiet_of_same ((HX.out _).mono fun _ _ ⟨he, hw⟩ => ⟨he, hw.symm⟩)))
        go_wp2
        exact ⟨⟨B1 ++ (C1 ++ [z]), C2, B3, by rw [HBB.out, HC.out]; simp, by have := HI.out; have := HC1.out; simp; omega, by have := HI.out; have := HJ.out; have := HC1.out; have e := HC.out; have e := congrArg List.length e; simp at e ⊢; omega, fun y hy => by
          rcases List.mem_append.1 hy with hy | hy
          · exact HP.out y hy
          · have hz : clsI z < clsI x := by have := HDD.out; omega
            rcases List.mem_append.1 hy with hy | hy
            · have := HSZ.out.cross y hy z (by simp); omega
            · simp at hy; subst hy; exact hz, HQ.out, HAR.out.drewN nq⟩, by simp [intOf]; omega⟩
      · have hd2 : decide (d < 0) = false := decide_eq_false hlt2
        go_quiet ((go_at_call 173; exact Calls.quiet_of_same ((HX.out _).mono fun _ _ ⟨he, hw⟩ => ⟨he, hw.symm⟩)))
        go_wp2
        exact ⟨⟨B1, C1, z :: C2 ++ B3, by rw [HBB.out, HC.out]; simp, by rw [HI.out], by have := HI.out; have := HC1.out; simp; omega, HP.out, fun y hy => by
          have hz : clsI x ≤ clsI z := by have := HDD.out; omega
          rcases List.mem_append.1 hy with hy | hy
          · rcases List.mem_cons.1 hy with rfl | hy
            · exact hz
            · have := (List.pairwise_cons.1 HSZ.out.right).1 y hy; omega
          · exact HQ.out y hy, HAR.out.drewN nq⟩, by simp [intOf]; omega⟩
    · have hij2 : i = j := by omega
      have hB2 : B2 = [] := List.eq_nil_of_length_eq_zero (by have := HJ.out; omega)
      subst hB2
      have hBB : B = B1 ++ B3 := by have := HBB.out; simpa using this
      clear HBB
      have HBB := Lib.hid hBB
      clear hBB
      have e2 : IntKind.i64.wrap ((i : Int) - 1) = ((a + B1.length : Nat) : Int) := by rw [IntKind.wrap_i64]; have := HI.out; have := HM.out; omega
      have hbl : a + B1.length < n := by have h1 := HB.out; rw [HBB.out] at h1; simp at h1; omega
      clear HJ hij2 hij
      generalize hbb : B1.length = bl at e2 hbl
      have HBL := Lib.hid hbb
      clear hbb
      go_wp2

      go_loopw [13] (fun k wr => ShiftRel w0 g off n a P B1 x (B3 ++ S) k wr) (fun k _ => n - (intOf k).toNat)
      case atStart => exact ⟨[], B1, rfl, by simp, by have := HAR.out; rw [HBB.out] at this; simpa using this⟩
      case round =>
        obtain ⟨D1, D2, hD, rfl, harr⟩ := hrel
        have HD := Lib.hid hD
        have HAK := Lib.hid harr
        have hdl : D1.length + D2.length = bl := by have := HBL.out; rw [hD] at this; simpa using this
        clear hD harr
        generalize hk : a + D1.length = k
        have HK := Lib.hid hk
        match D2, hdl, HD, HAK with
        | [], hdl, HD, HAK =>
          have hka : k = a + bl := by simp at hdl; omega
          have HDL := Lib.hid hdl
          clear hdl hk
          go_wp2
          go_end0
          refine ⟨rfl, D1 ++ x :: B3, ?_, ?_, by have := HAK.out; simpa using this⟩
          · have e := HD.out
            simp at e
            rw [HBB.out, e]
            have h2 : SP ([x] ++ D1) (D1 ++ [x]) := SP.flip fun u hu v hv => by
              simp at hu; subst hu
              have := HP.out v (by rw [e]; exact hv); omega
            have := h2.append (SP.refl B3)
            simpa using this
          · have e := HD.out
            simp at e
            have hs := HSRT.out
            rw [HBB.out, e] at hs
            refine Srt.append hs.left (List.pairwise_cons.2 ⟨fun v hv => HQ.out v hv, hs.right⟩) fun u hu v hv => ?_
            rcases List.mem_cons.1 hv with rfl | hv
            · have := HP.out u (by rw [e]; exact hu); omega
            · exact hs.cross u hu v hv
        | y :: D2, hdl, HD, HAK =>
          simp at hdl
          have hlt : k < a + bl := by omega
          have hAQ : Arr w0 g off n ((P ++ D1) ++ x :: ([] : List Int) ++ y :: (D2 ++ (B3 ++ S))) wr := by have := HAK.out; simpa using this
          have hu : k = (P ++ D1).length := by have := HPL.out; simp; omega
          have hv : k + 1 = (P ++ D1).length + 1 + ([] : List Int).length := by simp at hu ⊢; omega
          have c0 : wr.cell? ⟨g, off + k, none⟩ = some (.int .i32 x) := by
            have e := hAQ.cell (j := k) (by omega)
            rw [e, hu]
            have e := getD_mid (P ++ D1) (y :: (D2 ++ (B3 ++ S))) x
            simpa using e
          have c1 : wr.cell? ⟨g, off + (k + 1), none⟩ = some (.int .i32 y) := by
            have e := hAQ.cell (j := k + 1) (by omega)
            have e2 := getD_mid ((P ++ D1) ++ [x]) (D2 ++ (B3 ++ S)) y
            rw [e, hv, show (P ++ D1) ++ x :: ([] : List Int) ++ y :: (D2 ++ (B3 ++ S)) = ((P ++ D1) ++ [x]) ++ y :: (D2 ++ (B3 ++ S)) by simp, show (P ++ D1).length + 1 + ([] : List Int).length = ((P ++ D1) ++ [x]).length by simp; omega, e2]
          have f0 := hAQ.frozen (off + k)
          have f1 := hAQ.frozen (off + (k + 1))
          have hsw := Lib.hid (hAQ.swap hu hv)
          have q1 : IntKind.i64.wrap ((k : Int) + 1) = ((k + 1 : Nat) : Int) := by rw [IntKind.wrap_i64]; omega
          have hv2 : k + 1 < n := by omega
          clear hAQ hu hv hdl hk
          generalize hvv : k + 1 = v at c1 f1 hsw q1 hv2
          have HV := Lib.hid hvv
          have f2 : (wr.setCell ⟨g, off + k, none⟩ (.int .i32 y)).cell? ⟨g, off + v, none⟩ = some (.int .i32 y) := by
            rw [World.cell?_setCell_other _ _ _ _ (fun e => by injection e with _ e _; omega)]; exact c1
          have f3 : (wr.setCell ⟨g, off + k, none⟩ (.int .i32 y)).frozen? ⟨g, off + v, none⟩ = false := by simpa using f1
          have q3 : k < n := by omega
          have q5 : (0 : Int) ≤ (k : Int) := by omega
          have q6 : (0 : Int) ≤ (v : Int) := by omega
          have q7 : (k : Int) < (n : Int) := by omega
          have q8 : (v : Int) < (n : Int) := by omega
          clear hvv
          go_wp2
          go_region
          clear f0 f1 f2 f3 c0 c1
          go_wp2
          exact ⟨⟨D1 ++ [y], D2, by rw [HD.out]; simp, by have := HK.out; have := HV.out; simp; omega, by have := hsw.out.drew; simpa using this⟩, by have := HV.out; simp [intOf]; omega⟩
end Go.Proofs.YtpmlggjhfiljmaaGreatDoor
/- symMergeCmpFunc: one number into a row, from the right. -/
namespace Go.Proofs.YtpmlggjhfiljmaaGreatDoor
open Go.RowKit
set_option linter.unusedVariables false
set_option linter.unnecessarySimpa false
def ShiftRel2 (w0 : World) (g off n a : Nat) (P A1 A2 : List Int) (x : Int) (S : List Int) (k : Value) (wr : World) : Prop :=
  ∃ D1 D2 : List Int, A2 = D1 ++ D2 ∧ k = .int .i64 ((a + A1.length + D1.length : Nat) : Int) ∧ Arr w0 g off n (P ++ A1 ++ D1 ++ x :: D2 ++ S) wr
set_option maxHeartbeats 3200000 in
set_option maxRecDepth 100000 in
theorem merge_right (w0 : World) (g off n : Nat) (P A S : List Int) (x : Int) (a m b : Nat) (w : World) (cap : Nat) (hn : n ≤ 1000000) (hoff : off ≤ 1000000) (hsrt : Srt A) (hA : 2 ≤ A.length)
    (ha : a = P.length) (hm : m = P.length + A.length) (hb : b = P.length + A.length + 1) (h : Arr w0 g off n (P ++ A ++ x :: S) w) :
    Calls Tryz.prog 323 #[.slice (some ⟨g, off, none⟩) n cap, .int .i64 (a : Nat), .int .i64 (m : Nat), .int .i64 (b : Nat), .func (.func 173) #[] #[]] w (SortPost w0 g off n P (A ++ [x]) S) := by
  have hl := h.len
  simp at hl
  have H := Lib.hid h
  have HSRT := Lib.hid hsrt
  have HPL := Lib.hid ha
  have hm1 : m = a + A.length := by omega
  have hb1 : b = m + 1 := by omega
  have hbn : b ≤ n := by omega
  have e1 : IntKind.i64.wrap ((m : Int) - (a : Int)) = ((m - a : Nat) : Int) := by rw [IntKind.wrap_i64]; omega
  obtain ⟨d, hd, hd2⟩ : ∃ d : Nat, m - a = d ∧ 2 ≤ d := ⟨m - a, rfl, by omega⟩
  rw [hd] at e1
  have hne : ¬ (d : Int) = 1 := by omega
  have hne2 : ¬ d = 1 := by omega
  have hne3 : ((d : Int) == 1) = false := by simp; omega
  clear hd
  have e1' : IntKind.i64.wrap ((b : Int) - (m : Int)) = 1 := by rw [IntKind.wrap_i64]; omega
  have HM := Lib.hid hm1
  have HB := Lib.hid hb1
  have ham : a ≤ m := by omega
  have hmb : m < b := by omega
  clear h hsrt ha hm hb hl hm1 hb1 hA
  go_enter Tryz.func323, Tryz.ntmps323
  go_wp2
  clear e1 e1' hne hne2 hne3 hd2
  go_loopw [14, 15] (fun i j wr => BinRel (fun z => clsI z ≤ clsI x) (fun z => clsI x < clsI z) w0 g off n a (P ++ A ++ x :: S) A i j wr) (fun i j _ => (intOf j).toNat - (intOf i).toNat)
  case atStart => exact ⟨[], A, [], by simp, by simp, by have := HB.out; have := HM.out; simp; omega, fun z hz => by simp at hz, fun z hz => by simp at hz, H.out⟩
  case round =>
    obtain ⟨B1, B2, B3, hB, rfl, rfl, hp, hq, harr⟩ := hrel
    have HBB := Lib.hid hB
    have HP := Lib.hid hp
    have HQ := Lib.hid hq
    have HAR := Lib.hid harr
    have hbl : a + (B1.length + B2.length + B3.length) = m := by have := HM.out; rw [hB] at this; simp at this; omega
    clear hB hp hq harr
    generalize hi : a + B1.length = i
    generalize hj : i + B2.length = j
    have him : a ≤ i := by omega
    have hij : i ≤ j := by omega
    have hjb : j ≤ m := by omega
    have HI := Lib.hid hi
    have HJ := Lib.hid hj
    have HBL := Lib.hid hbl
    clear hi hj hbl
    by_cases hlt : i < j
    · have e2 : IntKind.i64.wrap ((i : Int) + (j : Int)) = ((i + j : Nat) : Int) := by rw [IntKind.wrap_i64]; omega
      have hb2 : (j : Int) < 2000000 := by omega
      go_wp2
      obtain ⟨h, hh, hh1, hh2⟩ : ∃ h : Nat, ((i : Int) + (j : Int)) / 2 = (h : Int) ∧ i ≤ h ∧ h < j := ⟨(i + j) / 2, by omega, by omega, by omega⟩
      rw [hh]
      clear hh e2
      obtain ⟨C1, z, C2, hC, hC1⟩ := split_mid (B2 := B2) (k := h - i) (by have := HJ.out; omega)
      have HC := Lib.hid hC
      have HC1 := Lib.hid hC1
      have c0 : wr.cell? ⟨g, off + h, none⟩ = some (.int .i32 z) := by
        have e := HAR.out.cell (j := h) (by omega)
        have e2 := getD_mid (P ++ (B1 ++ C1)) (C2 ++ B3 ++ x :: S) z
        have e3 : (P ++ (B1 ++ C1)).length = h := by have := HI.out; have := HPL.out; simp; omega
        rw [e3] at e2
        rw [e, HBB.out, hC]
        simpa using e2
      have c1 : wr.cell? ⟨g, off + m, none⟩ = some (.int .i32 x) := by
        have e := HAR.out.cell (j := m) (by omega)
        have e2 := getD_mid (P ++ A) S x
        have e3 : (P ++ A).length = m := by have := HM.out; have := HPL.out; simp; omega
        rw [e3] at e2
        rw [e, e2]
      have hsz : Srt (C1 ++ z :: C2) := by
        have := HSRT.out
        rw [HBB.out] at this
        rw [← hC]
        exact this.left.right
      have HSZ := Lib.hid hsz
      clear hC hC1 hsz
      have HX := Lib.hid (cmp_any x z)
      generalize hdd : clsI x - clsI z = d at HX
      have HDD := Lib.hid hdd
      clear hdd
      have q2 : (0 : Int) ≤ (h : Int) := by omega
      have q3 : (h : Int) < (n : Int) := by omega
      have q4 : (0 : Int) ≤ (m : Int) := by omega
      have q5 : (m : Int) < (n : Int) := by omega
      by_cases hlt2 : d < 0
      · have hd2 : decide (d < 0) = true := decide_eq_true hlt2
        go_quiet ((go_at_call 173; exact Calls.quiet_of_same ((HX.out _).mono fun _ _ ⟨he, hw⟩ => ⟨he, hw.symm⟩)))
        go_wp2
        exact ⟨⟨B1, C1, z :: C2 ++ B3, by rw [HBB.out, HC.out]; simp, by rw [HI.out], by have := HI.out; have := HC1.out; simp; omega, HP.out, fun y hy => by
          have hz : clsI x < clsI z := by have := HDD.out; omega
          rcases List.mem_append.1 hy with hy | hy
          · rcases List.mem_cons.1 hy with rfl | hy
            · exact hz
            · have := (List.pairwise_cons.1 HSZ.out.right).1 y hy; omega
          · exact HQ.out y hy, HAR.out.drewN nq⟩, by simp [intOf]; omega⟩
      · have hd2 : decide (d < 0) = false := decide_eq_false hlt2
        go_quiet ((go_at_call 173; exact Calls.quiet_of_same ((HX.out _).mono fun _ _ ⟨he, hw⟩ => ⟨he, hw.symm⟩)))
        go_wp2
        exact ⟨⟨B1 ++ (C1 ++ [z]), C2, B3, by rw [HBB.out, HC.out]; simp, by have := HI.out; have := HC1.out; simp; omega, by have := HI.out; have := HJ.out; have := HC1.out; have e := HC.out; have e := congrArg List.length e; simp at e ⊢; omega, fun y hy => by
          rcases List.mem_append.1 hy with hy | hy
          · exact HP.out y hy
          · have hz : clsI z ≤ clsI x := by have := HDD.out; omega
            rcases List.mem_append.1 hy with hy | hy
            · have := HSZ.out.cross y hy z (by simp); omega
            · simp at hy; subst hy; exact hz, HQ.out, HAR.out.drewN nq⟩, by simp [intOf]; omega⟩
    · have hij2 : i = j := by omega
      have hB2 : B2 = [] := List.eq_nil_of_length_eq_zero (by have := HJ.out; omega)
      subst hB2
      have hBB : A = B1 ++ B3 := by have := HBB.out; simpa using this
      clear HBB
      have HBB := Lib.hid hBB
      clear hBB
      have hbl2 : a + (B1.length + B3.length) = m := by have := HBL.out; simpa using this
      have HBL2 := Lib.hid hbl2
      have him2 : i ≤ m := by omega
      clear HJ hij2 hij hbl2 HBL
      go_wp2
      go_loopw [17] (fun k wr => ShiftRel2 w0 g off n a P B1 B3 x S k wr) (fun k _ => (intOf k).toNat)
      case atStart => exact ⟨B3, [], by simp, by have := HBL2.out; simp; omega, by have := HAR.out; rw [HBB.out] at this; simpa using this⟩
      case round =>
        obtain ⟨D1, D2, hD, rfl, harr⟩ := hrel
        have HD := Lib.hid hD
        have HAK := Lib.hid harr
        have hdl : D1.length + D2.length = B3.length := by rw [hD]; simp
        clear hD harr
        generalize hk : a + B1.length + D1.length = k
        have HK := Lib.hid hk
        rcases List.eq_nil_or_concat D1 with rfl | ⟨D1', y, rfl⟩
        · have hki : k = i := by have := HI.out; simp at hk; omega
          clear hdl hk
          go_wp2
          go_end0
          refine ⟨rfl, B1 ++ x :: D2, ?_, ?_, by have := HAK.out; simpa using this⟩
          · have e := HD.out
            simp at e
            rw [HBB.out, e]
            have h2 : SP (D2 ++ [x]) ([x] ++ D2) := SP.flip fun u hu v hv => by
              simp at hv; subst hv
              have := HQ.out u (by rw [e]; exact hu); omega
            have := (SP.refl B1).append h2
            simpa using this
          · have e := HD.out
            simp at e
            have hs := HSRT.out
            rw [HBB.out, e] at hs
            refine Srt.append hs.left (List.pairwise_cons.2 ⟨fun v hv => by have := HQ.out v (by rw [e]; exact hv); omega, hs.right⟩) fun u hu v hv => ?_
            rcases List.mem_cons.1 hv with rfl | hv
            · exact HP.out u hu
            · exact hs.cross u hu v hv
        · rw [List.concat_eq_append] at *
          simp at hdl hk
          have hAQ : Arr w0 g off n ((P ++ B1 ++ D1') ++ y :: ([] : List Int) ++ x :: (D2 ++ S)) wr := by have := HAK.out; simpa using this
          obtain ⟨k', rfl⟩ : ∃ k', k = k' + 1 := ⟨k - 1, by omega⟩
          have hu : k' = (P ++ B1 ++ D1').length := by have := HPL.out; simp; omega
          have hv : k' + 1 = (P ++ B1 ++ D1').length + 1 + ([] : List Int).length := by simp at hu ⊢; omega
          have c0 : wr.cell? ⟨g, off + k', none⟩ = some (.int .i32 y) := by
            have e := hAQ.cell (j := k') (by have := HBL2.out; omega)
            rw [e, hu]
            have e := getD_mid (P ++ B1 ++ D1') (x :: (D2 ++ S)) y
            simpa using e
          have c1 : wr.cell? ⟨g, off + (k' + 1), none⟩ = some (.int .i32 x) := by
            have e := hAQ.cell (j := k' + 1) (by have := HBL2.out; omega)
            have e2 := getD_mid ((P ++ B1 ++ D1') ++ [y]) (D2 ++ S) x
            rw [e, hv, show (P ++ B1 ++ D1') ++ y :: ([] : List Int) ++ x :: (D2 ++ S) = ((P ++ B1 ++ D1') ++ [y]) ++ x :: (D2 ++ S) by simp, show (P ++ B1 ++ D1').length + 1 + ([] : List Int).length = ((P ++ B1 ++ D1') ++ [y]).length by simp; omega, e2]
          have f0 := hAQ.frozen (off + k')
          have f1 := hAQ.frozen (off + (k' + 1))
          have hsw := Lib.hid (hAQ.swap' hu hv)
          have hik : i < k' + 1 := by have := HI.out; omega
          have hv2 : k' + 1 < n := by have := HBL2.out; omega
          clear hAQ hu hv hdl hk
          generalize hvv : k' + 1 = v at *
          have HV := Lib.hid hvv
          have q1 : IntKind.i64.wrap ((v : Int) - 1) = ((k' : Nat) : Int) := by rw [IntKind.wrap_i64]; omega
          have f2 : (wr.setCell ⟨g, off + v, none⟩ (.int .i32 y)).cell? ⟨g, off + k', none⟩ = some (.int .i32 y) := by
            rw [World.cell?_setCell_other _ _ _ _ (fun e => by injection e with _ e _; omega)]; exact c0
          have f3 : (wr.setCell ⟨g, off + v, none⟩ (.int .i32 y)).frozen? ⟨g, off + k', none⟩ = false := by simpa using f0
          have q3 : k' < n := by omega
          have q5 : (0 : Int) ≤ (k' : Int) := by omega
          have q6 : (0 : Int) ≤ (v : Int) := by omega
          have q7 : (k' : Int) < (n : Int) := by omega
          have q8 : (v : Int) < (n : Int) := by omega
          clear hvv
          go_wp2
          go_region
          clear f0 f1 f2 f3 c0 c1
          go_wp2
          exact ⟨⟨D1', y :: D2, by rw [HD.out]; simp, by have := HK.out; have := HV.out; simp at *; omega, by have := hsw.out.drew; simpa using this⟩, by have := HV.out; simp [intOf]; omega⟩
end Go.Proofs.YtpmlggjhfiljmaaGreatDoor
/- symMergeCmpFunc. -/
namespace Go.Proofs.YtpmlggjhfiljmaaGreatDoor
open Go.RowKit
set_option linter.unusedVariables false
set_option linter.unnecessarySimpa false
/-- the halves of a merge, put together -/
theorem merge_fin {A1 A2 B1 B2 M1 M2 : List Int} (hA : Srt (A1 ++ A2)) (hB : Srt (B1 ++ B2)) (h1 : ∀ x ∈ A1, ∀ y ∈ B2, clsI x ≤ clsI y) (h2 : ∀ x ∈ A2, ∀ y ∈ B1, clsI y < clsI x)
    (s1 : SP (A1 ++ B1) M1) (t1 : Srt M1) (s2 : SP (A2 ++ B2) M2) (t2 : Srt M2) : SP (A1 ++ A2 ++ (B1 ++ B2)) (M1 ++ M2) ∧ Srt (M1 ++ M2) := by
  refine ⟨?_, Srt.append t1 t2 fun x hx y hy => ?_⟩
  · have hf : SP (A2 ++ B1) (B1 ++ A2) := SP.flip fun x hx y hy => by have := h2 x hx y hy; omega
    have e1 : SP (A1 ++ A2 ++ (B1 ++ B2)) (A1 ++ (B1 ++ A2) ++ B2) := by
      have := ((SP.refl A1).append hf).append (SP.refl B2)
      simpa using this
    have e2 := s1.append s2
    exact e1.trans (by simpa using e2)
  · have hx := s1.symm.mem hx
    have hy := s2.symm.mem hy
    rcases List.mem_append.1 hx with hx | hx <;> rcases List.mem_append.1 hy with hy | hy
    · exact hA.cross x hx y hy
    · exact h1 x hx y hy
    · have := h2 y hy x hx; omega
    · exact hB.cross x hx y hy
def CutRel (w0 : World) (g off n : Nat) (ys : List Int) (s0 r0 p : Nat) (s r : Value) (wr : World) : Prop :=
  ∃ i j : Nat, s = .int .i64 (i : Nat) ∧ r = .int .i64 (j : Nat) ∧ s0 ≤ i ∧ i ≤ j ∧ j ≤ r0 ∧ (i = s0 ∨ (s0 < i ∧ clsI (ys.getD (i - 1) 0) ≤ clsI (ys.getD (p - (i - 1)) 0))) ∧ (j = r0 ∨ clsI (ys.getD (p - j) 0) < clsI (ys.getD j 0)) ∧ Arr w0 g off n ys wr
/-- the two rows are cut -/
def Cut (A B A1 A2 B1 B2 : List Int) : Prop := A = A1 ++ A2 ∧ B = B1 ++ B2 ∧ (∀ x ∈ A1, ∀ y ∈ B2, clsI x ≤ clsI y) ∧ (∀ x ∈ A2, ∀ y ∈ B1, clsI y < clsI x)
theorem getD_A {P A R : List Int} {k : Nat} (h : k < A.length) : (P ++ A ++ R).getD (P.length + k) 0 = A.getD k 0 := by
  rw [List.getD_eq_getElem?_getD, List.getD_eq_getElem?_getD, List.append_assoc, List.getElem?_append_right (by omega), List.getElem?_append_left (by omega)]
  congr 2; omega
theorem srt_getD {A : List Int} (h : Srt A) {i j : Nat} (hij : i ≤ j) (hj : j < A.length) : clsI (A.getD i 0) ≤ clsI (A.getD j 0) := by
  by_cases e : i = j
  · rw [e]; exact Int.le_refl _
  · have := List.pairwise_iff_getElem.1 h i j (by omega) hj (by omega)
    simpa [List.getD_eq_getElem?_getD, List.getElem?_eq_getElem hj, List.getElem?_eq_getElem (show i < A.length by omega)] using this
theorem mem_take_getD {A : List Int} {k : Nat} {x : Int} (h : x ∈ A.take k) : ∃ i, i < k ∧ i < A.length ∧ x = A.getD i 0 := by
  obtain ⟨i, hi, rfl⟩ := List.getElem_of_mem h
  rw [List.length_take] at hi
  exact ⟨i, by omega, by omega, by simp [List.getD_eq_getElem?_getD, List.getElem?_eq_getElem (show i < A.length by omega)]⟩
theorem mem_drop_getD {A : List Int} {k : Nat} {x : Int} (h : x ∈ A.drop k) : ∃ i, k ≤ i ∧ i < A.length ∧ x = A.getD i 0 := by
  obtain ⟨i, hi, rfl⟩ := List.getElem_of_mem h
  rw [List.length_drop] at hi
  exact ⟨k + i, by omega, by omega, by simp [List.getD_eq_getElem?_getD, List.getElem?_eq_getElem (show k + i < A.length by omega)]⟩
theorem cut_law {P A B S : List Int} {a m b mid nn s0 r0 s : Nat} (hsA : Srt A) (hsB : Srt B) (ha : a = P.length) (hm : m = a + A.length) (hb : b = m + B.length) (hmid : mid = (a + b) / 2) (hnn : nn = mid + m)
    (h0 : (m ≤ mid ∧ s0 = a ∧ r0 = m) ∨ (mid < m ∧ s0 = nn - b ∧ r0 = mid)) (hs0 : s0 ≤ s) (hs1 : s ≤ r0)
    (hl : s = s0 ∨ (s0 < s ∧ clsI ((P ++ A ++ B ++ S).getD (s - 1) 0) ≤ clsI ((P ++ A ++ B ++ S).getD (nn - 1 - (s - 1)) 0)))
    (hr : s = r0 ∨ clsI ((P ++ A ++ B ++ S).getD (nn - 1 - s) 0) < clsI ((P ++ A ++ B ++ S).getD s 0)) :
    ∃ A1 A2 B1 B2, Cut A B A1 A2 B1 B2 ∧ A1.length = s - a ∧ B1.length = mid - s ∧ a ≤ s ∧ s ≤ mid ∧ s ≤ m ∧ mid - s ≤ b - m := by
  have q1 : a ≤ s ∧ s ≤ mid ∧ s ≤ m ∧ mid - s ≤ b - m := by omega
  obtain ⟨q1, q2, q3, q4⟩ := q1
  have gA : ∀ k, k < A.length → (P ++ A ++ B ++ S).getD (a + k) 0 = A.getD k 0 := fun k hk => by
    have := getD_A (P := P) (A := A) (R := B ++ S) hk
    rw [← ha] at this
    simpa using this
  have gB : ∀ k, k < B.length → (P ++ A ++ B ++ S).getD (m + k) 0 = B.getD k 0 := fun k hk => by
    have := getD_A (P := P ++ A) (A := B) (R := S) hk
    rw [List.length_append, ← ha, ← hm] at this
    exact this
  refine ⟨A.take (s - a), A.drop (s - a), B.take (mid - s), B.drop (mid - s), ⟨(List.take_append_drop _ _).symm, (List.take_append_drop _ _).symm, fun x hx y hy => ?_, fun x hx y hy => ?_⟩, by rw [List.length_take]; omega, by rw [List.length_take]; omega, q1, q2, q3, q4⟩
  · obtain ⟨i, i1, i2, rfl⟩ := mem_take_getD hx
    obtain ⟨j, j1, j2, rfl⟩ := mem_drop_getD hy
    rcases hl with hl | ⟨hl1, hl2⟩
    · omega
    · have e1 := gA (s - 1 - a) (by omega)
      have e2 := gB (mid - s) (by omega)
      rw [show a + (s - 1 - a) = s - 1 by omega] at e1
      rw [show m + (mid - s) = nn - 1 - (s - 1) by omega] at e2
      rw [e1, e2] at hl2
      have h1 := srt_getD hsA (i := i) (j := s - 1 - a) (by omega) (by omega)
      have h2 := srt_getD hsB (i := mid - s) (j := j) (by omega) (by omega)
      omega
  · obtain ⟨i, i1, i2, rfl⟩ := mem_drop_getD hx
    obtain ⟨j, j1, j2, rfl⟩ := mem_take_getD hy
    rcases hr with hr | hr
    · omega
    · have e1 := gA (s - a) (by omega)
      have e2 := gB (mid - s - 1) (by omega)
      rw [show a + (s - a) = s by omega] at e1
      rw [show m + (mid - s - 1) = nn - 1 - s by omega] at e2
      rw [e1, e2] at hr
      have h1 := srt_getD hsA (i := s - a) (j := i) (by omega) (by omega)
      have h2 := srt_getD hsB (i := j) (j := mid - s - 1) (by omega) (by omega)
      omega
end Go.Proofs.YtpmlggjhfiljmaaGreatDoor
