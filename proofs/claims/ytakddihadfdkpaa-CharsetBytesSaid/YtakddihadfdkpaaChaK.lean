/- The program's Encode of layer 2. -/
import Derived.Test.YtakddihadfdkpaaChaJ
namespace Go.Proofs.Ytakddihadfdkpaa
open Go.RowKit
set_option linter.unusedVariables false

def strC (o : Option (List Int)) : ByteArray := match o with | some l => strOfNums l | none => ByteArray.empty
def BytesStr (o : Option (List Int)) (w : World) (e : Ending) (w' : World) : Prop := e = .returned (.tuple #[.string (strC o), .bool o.isSome]) ∧ Fresh w w'
theorem fromKana_str (r : Int) (h0 : 0 ≤ r) (h1 : r < 1114112) (w : World) :
    Calls Try.prog 23 #[.int .i32 r] w (BytesStr (encK r) w) := fromKana_any r h0 h1 w
theorem one_row {enc b : Int} (he : enc = 2 ∨ enc = 4 ∨ enc = 5) (hb : fromI enc ≤ b) : oneI enc b = (rowI enc).getD (b - fromI enc).toNat (-1) := by
  rcases he with rfl | rfl | rfl
  · have hb : (160 : Int) ≤ b := hb
    show oneI 2 b = L2I.getD (b - 160).toNat (-1)
    unfold oneI; rw [if_neg (by omega), if_pos rfl, if_neg (by omega)]
  · have hb : (128 : Int) ≤ b := hb
    show oneI 4 b = C4I.getD (b - 128).toNat (-1)
    unfold oneI; rw [if_neg (by omega), if_neg (by omega), if_neg (by omega), if_pos rfl]
  · have hb : (128 : Int) ≤ b := hb
    show oneI 5 b = C8I.getD (b - 128).toNat (-1)
    unfold oneI; rw [if_neg (by omega), if_neg (by omega), if_neg (by omega), if_neg (by omega), if_pos rfl]
theorem one_below {enc b : Int} (he : enc = 2 ∨ enc = 4 ∨ enc = 5) (hb : b < fromI enc) : oneI enc b = b := by
  by_cases h : b < 128
  · exact one_small h
  rcases he with rfl | rfl | rfl
  · have hb : b < (160 : Int) := hb
    unfold oneI; rw [if_neg (by omega), if_pos rfl, if_pos (by omega)]
  · have hb : b < (128 : Int) := hb
    omega
  · have hb : b < (128 : Int) := hb
    omega
theorem from_len {enc : Int} (he : enc = 2 ∨ enc = 4 ∨ enc = 5) : fromI enc + (rowI enc).length = 256 ∧ 128 ≤ fromI enc ∧ fromI enc ≤ 160 := by
  rw [row_len]
  rcases he with rfl | rfl | rfl <;> decide
theorem first_row {enc r k : Int} (he : enc = 2 ∨ enc = 4 ∨ enc = 5) (h : FirstAt (rowI enc) r k) (h0 : 0 ≤ k) : firstB enc r = some (fromI enc + k) ∧ fromI enc + k < 256 := by
  obtain ⟨e1, e2, e3⟩ := from_len he
  rcases h with ⟨_, h2, h3, h4⟩ | ⟨h1, _⟩
  · refine ⟨?_, by omega⟩
    have hn : ((fromI enc + k).toNat : Int) = fromI enc + k := by omega
    have hkl : k.toNat < (rowI enc).length := by omega
    have hr : 160 ≤ r := by
      have := row_range enc r (by rw [← h3, List.getD_eq_getElem?_getD, List.getElem?_eq_getElem hkl]; exact List.getElem_mem hkl)
      omega
    have := @firstB_of enc r (fromI enc + k).toNat (by omega) (by
      rw [hn, one_row he (by omega), show fromI enc + k - fromI enc = k by omega, ← h3]
      simp [List.getD_eq_getElem?_getD, hkl]) (fun j hj => by
      by_cases hj2 : (j : Int) < fromI enc
      · rw [one_below he hj2]; omega
      · rw [one_row he (by omega)]
        have hj3 : ((j : Int) - fromI enc).toNat < (rowI enc).length := by omega
        have := h4 ((j : Int) - fromI enc).toNat (by omega)
        simpa [List.getD_eq_getElem?_getD, hj3] using this)
    rwa [hn] at this
  · omega
theorem first_range {l : List Int} {r k : Int} (h : FirstAt l r k) : -1 ≤ k ∧ k < (l.length : Int) := by
  rcases h with ⟨h1, h2, _⟩ | ⟨h1, _⟩ <;> omega
def LowRel (enc r : Int) (w : World) (i : Value) (wr : World) : Prop := ∃ k : Nat, i = .int .i64 k ∧ 128 ≤ k ∧ k ≤ 256 ∧ (∀ j : Nat, j < k → oneI enc (j : Int) ≠ r) ∧ Fresh w wr
set_option maxHeartbeats 1600000 in
set_option maxRecDepth 1000000 in
theorem pEnc_row (enc r f : Int) (R : ByteArray) (l : List Int) (hR : rowS enc = R) (hf : fromI enc = f) (hl : rowI enc = l) (hne : R.toList.isEmpty = false) (he : enc = 2 ∨ enc = 4 ∨ enc = 5) (hc : isC r = true) (hr : 128 ≤ r) (w : World) :
    Calls Try.prog 12 #[.int .i64 enc, .int .i32 r] w (BytesIs (encC enc r) w) := by
  have hd := row_dec enc
  rw [hR, hl] at hd
  have hfl := from_len he
  have HFR : Hid (∀ k, FirstAt l r k → 0 ≤ k → firstB enc r = some (f + k)) := by
    rw [← hl, ← hf]
    exact fun k h h2 => (first_row he h h2).1
  rw [hf, hl] at hfl
  obtain ⟨fl1, fl2, fl3⟩ := hfl
  have h0 : 0 ≤ enc := by omega
  have h5 : enc ≤ 5 := by omega
  have e6 : (enc == 6) = false := by simp; omega
  have e7 : (enc == 7) = false := by simp; omega
  have e8 : (enc == 8) = false := by simp; omega
  have HRI : Hid (rightB enc = true) := by unfold rightB; exact decide_eq_true (by omega)
  obtain ⟨r0, r1, _⟩ := isC_true hc
  have HC := Lib.hid hc
  have HD := Lib.hid hd
  have HR := Lib.hid hR
  have HF := Lib.hid hf
  have k1 := conv1
  have hn2 : ¬ R.toList = [] := by intro h; rw [h] at hne; cases hne
  clear hd hR hf hl he hc
  go_enter Try.func12, Try.ntmps12
  go_wp2_with (first
   | (go_at_call 10; refine (right_any _ _).mono ?_; rintro e w1 ⟨rfl, rfl⟩; rw [HRI.out])
   | (go_at_call 21; refine (utfIs_any _ _).mono ?_; rintro e w1 ⟨rfl, rfl⟩; rw [HC.out]))
  refine (upper_any _ _).mono ?_
  rintro e w1 ⟨rfl, rfl⟩
  rw [HR.out, HF.out]
  go_wp2_with fail
  refine (find_any R l r _ HD.out (by omega)).mono ?_
  rintro e w1 ⟨n, rfl, hfa, HF0⟩
  obtain ⟨n0, n1⟩ := first_range hfa
  have HFA := Lib.hid hfa
  clear hfa
  by_cases hn : 0 ≤ n
  · have HZ := Lib.hid (encC_first HC.out (by omega) (HFR.out n HFA.out hn))
    go_wp2
    go_ret2
    exact BytesIs.yes HZ.out (HF0.alloc _)
  go_wp2
  go_loopw [9] (fun i wr => LowRel enc r w i wr) (fun i _ => 256 - (intOf i).toNat)
  case atStart => exact ⟨128, rfl, by omega, by omega, fun j hj => by rw [one_small (by omega)]; omega, HF0⟩
  case round =>
    obtain ⟨k, rfl, hk, hk2, hm, hf⟩ := hrel
    have HM := Lib.hid hm
    clear hm
    by_cases hlt : k < 256
    · have hlt2 : (k : Int) < 256 := by omega
      go_wp2_with fail
      refine (single_any _ _ h0 h5 (by omega) (by omega) _).mono ?_
      rintro e w2 ⟨rfl, h2⟩
      by_cases hx : oneI enc k = r
      · have hb1 : (oneI enc k == r) = true := by simp [hx]
        have HZ := Lib.hid (encC_first HC.out (by omega) (firstB_of hlt hx HM.out))
        clear hx
        go_wp2
        go_ret2
        exact BytesIs.yes HZ.out ((hf.trans h2).alloc _)
      · have hb1 : (oneI enc k == r) = false := by simp [hx]
        have HMM := Lib.hid (until_more HM.out hx)
        clear hx
        go_wp2
        exact ⟨⟨k + 1, by rw [Int.natCast_add]; rfl, by omega, by omega, HMM.out, hf.trans h2⟩, by simp [intOf]; omega⟩
    · have hk2 : k = 256 := by omega
      subst hk2
      have HZ := Lib.hid (encC_none HC.out h5 (firstB_no HM.out))
      go_wp2
      go_ret2
      exact BytesIs.no HZ.out hf
set_option maxHeartbeats 1600000 in
set_option maxRecDepth 1000000 in
theorem pEnc_none (enc r : Int) (h0 : 0 ≤ enc) (h5 : enc ≤ 5) (he : ¬ (enc = 2 ∨ enc = 4 ∨ enc = 5)) (hc : isC r = true) (hr : 128 ≤ r) (w : World) :
    Calls Try.prog 12 #[.int .i64 enc, .int .i32 r] w (BytesIs (encC enc r) w) := by
  have e6 : (enc == 6) = false := by simp; omega
  have e7 : (enc == 7) = false := by simp; omega
  have e8 : (enc == 8) = false := by simp; omega
  have HRI : Hid (rightB enc = true) := by unfold rightB; exact decide_eq_true (by omega)
  obtain ⟨r0, r1, _⟩ := isC_true hc
  have HC := Lib.hid hc
  have HR : Hid (rowS enc = ByteArray.empty) := by unfold rowS; rw [if_neg (by omega), if_neg (by omega), if_neg (by omega)]; exact rfl
  have k1 := conv1
  have HF0 := Fresh.refl w
  clear he hc
  go_enter Try.func12, Try.ntmps12
  go_wp2_with (first
   | (go_at_call 10; refine (right_any _ _).mono ?_; rintro e w1 ⟨rfl, rfl⟩; rw [HRI.out])
   | (go_at_call 21; refine (utfIs_any _ _).mono ?_; rintro e w1 ⟨rfl, rfl⟩; rw [HC.out]))
  refine (upper_any _ _).mono ?_
  rintro e w1 ⟨rfl, rfl⟩
  rw [HR.out]
  go_wp2
  go_loopw [9] (fun i wr => LowRel enc r w i wr) (fun i _ => 256 - (intOf i).toNat)
  case atStart => exact ⟨128, rfl, by omega, by omega, fun j hj => by rw [one_small (by omega)]; omega, HF0⟩
  case round =>
    obtain ⟨k, rfl, hk, hk2, hm, hf⟩ := hrel
    have HM := Lib.hid hm
    clear hm
    by_cases hlt : k < 256
    · have hlt2 : (k : Int) < 256 := by omega
      go_wp2_with fail
      refine (single_any _ _ h0 h5 (by omega) (by omega) _).mono ?_
      rintro e w2 ⟨rfl, h2⟩
      by_cases hx : oneI enc k = r
      · have hb1 : (oneI enc k == r) = true := by simp [hx]
        have HZ := Lib.hid (encC_first HC.out (by omega) (firstB_of hlt hx HM.out))
        clear hx
        go_wp2
        go_ret2
        exact BytesIs.yes HZ.out ((hf.trans h2).alloc _)
      · have hb1 : (oneI enc k == r) = false := by simp [hx]
        have HMM := Lib.hid (until_more HM.out hx)
        clear hx
        go_wp2
        exact ⟨⟨k + 1, by rw [Int.natCast_add]; rfl, by omega, by omega, HMM.out, hf.trans h2⟩, by simp [intOf]; omega⟩
    · have hk2 : k = 256 := by omega
      subst hk2
      have HZ := Lib.hid (encC_none HC.out h5 (firstB_no HM.out))
      go_wp2
      go_ret2
      exact BytesIs.no HZ.out hf
set_option maxHeartbeats 800000 in
theorem pEnc_small (enc r : Int) (h0 : 0 ≤ enc) (h5 : enc ≤ 5) (hc : isC r = true) (hr : r < 128) (w : World) :
    Calls Try.prog 12 #[.int .i64 enc, .int .i32 r] w (BytesIs (encC enc r) w) := by
  have e6 : (enc == 6) = false := by simp; omega
  have e7 : (enc == 7) = false := by simp; omega
  have e8 : (enc == 8) = false := by simp; omega
  have HRI : Hid (rightB enc = true) := by unfold rightB; exact decide_eq_true (by omega)
  obtain ⟨r0, r1, _⟩ := isC_true hc
  have HC := Lib.hid hc
  have HZ := Lib.hid (encC_first hc (by omega) (firstB_small (enc := enc) r0 hr))
  have k1 := conv1
  clear hc
  go_enter Try.func12, Try.ntmps12
  go_wp2_with (first
   | (go_at_call 10; refine (right_any _ _).mono ?_; rintro e w1 ⟨rfl, rfl⟩; rw [HRI.out])
   | (go_at_call 21; refine (utfIs_any _ _).mono ?_; rintro e w1 ⟨rfl, rfl⟩; rw [HC.out]))
  go_ret2
  exact BytesIs.yes HZ.out ((Fresh.refl _).alloc _)
set_option maxHeartbeats 800000 in
theorem pEnc_kana (r : Int) (hc : isC r = true) (w : World) :
    Calls Try.prog 12 #[.int .i64 6, .int .i32 r] w (BytesIs (encC 6 r) w) := by
  have HRI : Hid (rightB 6 = true) := rfl
  obtain ⟨r0, r1, _⟩ := isC_true hc
  have HC := Lib.hid hc
  have HZ := Lib.hid (encC_kana hc)
  have HK := Lib.hid (fun w => fromKana_str r r0 (by omega) w)
  clear hc
  go_enter Try.func12, Try.ntmps12
  go_wp2_with (first
   | (go_at_call 10; refine (right_any _ _).mono ?_; rintro e w1 ⟨rfl, rfl⟩; rw [HRI.out])
   | (go_at_call 21; refine (utfIs_any _ _).mono ?_; rintro e w1 ⟨rfl, rfl⟩; rw [HC.out]))
  refine (HK.out _).mono ?_
  rintro e w1 ⟨rfl, h1⟩
  go_wp2
  go_ret2
  rw [HZ.out]
  exact ⟨rfl, h1⟩
set_option maxHeartbeats 800000 in
theorem pEnc_utf (enc r : Int) (h7 : enc = 7 ∨ enc = 8) (hc : isC r = true) (w : World) :
    Calls Try.prog 12 #[.int .i64 enc, .int .i32 r] w (BytesIs (encC enc r) w) := by
  have HRI : Hid (rightB enc = true) := by unfold rightB; exact decide_eq_true (by omega)
  have HZ : Hid (encC enc r = some (encI r)) := by unfold encC; rw [if_pos hc, if_pos (by omega)]; exact rfl
  have HE : Hid (encS r = strOfNums (encI r)) := by unfold encS; rw [if_pos hc]; exact rfl
  have HC := Lib.hid hc
  clear hc
  rcases h7 with rfl | rfl
  all_goals
    go_enter Try.func12, Try.ntmps12
    go_wp2_with (first
     | (go_at_call 10; refine (right_any _ _).mono ?_; rintro e w1 ⟨rfl, rfl⟩; rw [HRI.out])
     | (go_at_call 21; refine (utfIs_any _ _).mono ?_; rintro e w1 ⟨rfl, rfl⟩; rw [HC.out]))
    refine (utfBytes_any _ _).mono ?_
    rintro e w1 ⟨rfl, h1⟩
    rw [HE.out]
    go_wp2
    go_ret2
    exact BytesIs.yes HZ.out h1
/-- the program's answer: none outside of 0..8 -/
def encP (enc r : Int) : Option (List Int) := if 0 ≤ enc ∧ enc ≤ 8 then encC enc r else none
set_option maxHeartbeats 800000 in
theorem pEnc_any (enc r : Int) (w : World) :
    Calls Try.prog 12 #[.int .i64 enc, .int .i32 r] w (BytesIs (encP enc r) w) := by
  by_cases h : 0 ≤ enc ∧ enc ≤ 8
  · have e : encP enc r = encC enc r := by unfold encP; rw [if_pos h]
    rw [e]
    by_cases hc : isC r = true
    · by_cases h7 : 7 ≤ enc
      · exact pEnc_utf enc r (by omega) hc w
      by_cases h6 : enc = 6
      · subst h6; exact pEnc_kana r hc w
      by_cases hr : r < 128
      · exact pEnc_small enc r h.1 (by omega) hc hr w
      by_cases he : enc = 2 ∨ enc = 4 ∨ enc = 5
      · rcases he with rfl | rfl | rfl
        · exact pEnc_row 2 r 160 L2S L2I rfl rfl rfl row_ne.1.1 (by omega) hc (by omega) w
        · exact pEnc_row 4 r 128 C4S C4I rfl rfl rfl row_ne.1.2 (by omega) hc (by omega) w
        · exact pEnc_row 5 r 128 C8S C8I rfl rfl rfl row_ne.2 (by omega) hc (by omega) w
      · exact pEnc_none enc r h.1 (by omega) he hc (by omega) w
    · have hc2 : isC r = false := by simpa using hc
      have HZ : Hid (encC enc r = none) := by unfold encC; rw [if_neg hc]; exact rfl
      have HC := Lib.hid hc2
      have HRI : Hid (rightB enc = true) := by unfold rightB; exact decide_eq_true (by omega)
      clear hc hc2 h e
      go_enter Try.func12, Try.ntmps12
      go_wp2_with (first
       | (go_at_call 10; refine (right_any _ _).mono ?_; rintro e w1 ⟨rfl, rfl⟩; rw [HRI.out])
       | (go_at_call 21; refine (utfIs_any _ _).mono ?_; rintro e w1 ⟨rfl, rfl⟩; rw [HC.out]))
      go_ret2
      exact BytesIs.no HZ.out (Fresh.refl _)
  · have HZ : Hid (encP enc r = none) := by unfold encP; rw [if_neg h]; exact rfl
    have HRI : Hid (rightB enc = false) := by unfold rightB; exact decide_eq_false h
    clear h
    go_enter Try.func12, Try.ntmps12
    go_wp2_with (first
     | (go_at_call 10; refine (right_any _ _).mono ?_; rintro e w1 ⟨rfl, rfl⟩; rw [HRI.out]))
    go_ret2
    exact BytesIs.no HZ.out (Fresh.refl _)
theorem pEnc_str (enc r : Int) (w : World) :
    Calls Try.prog 12 #[.int .i64 enc, .int .i32 r] w (BytesStr (encP enc r) w) := pEnc_any enc r w
theorem rEnc_str (enc r : Int) (h0 : 0 ≤ enc) (h8 : enc ≤ 8) (hr : -2147483648 ≤ r ∧ r < 2147483648) (w : World) :
    Calls Try.prog 13 #[.int .i64 enc, .int .i64 r] w (BytesStr (encC enc r) w) := rEnc_any enc r h0 h8 hr w
end Go.Proofs.Ytakddihadfdkpaa
