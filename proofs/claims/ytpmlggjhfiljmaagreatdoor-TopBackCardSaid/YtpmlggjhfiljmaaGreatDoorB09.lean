/- Contracts that the law rests on, part 9 of 50 (ChaK, ChaM). Each states its own conditions. -/
import Derived.Test.YtpmlggjhfiljmaaGreatDoorB08
/- The program's Encode of layer 2. -/
namespace Go.Proofs.YtpmlggjhfiljmaaGreatDoor
open Go.RowKit
set_option linter.unusedVariables false

def strC (o : Option (List Int)) : ByteArray := match o with | some l => strOfNums l | none => ByteArray.empty
def BytesStr (o : Option (List Int)) (w : World) (e : Ending) (w' : World) : Prop := e = .returned (.tuple #[.string (strC o), .bool o.isSome]) ∧ Fresh w w'
theorem fromKana_str (r : Int) (h0 : 0 ≤ r) (h1 : r < 1114112) (w : World) :
    Calls Tryz.prog 253 #[.int .i32 r] w (BytesStr (encK r) w) := fromKana_any r h0 h1 w
theorem one_row {enc b : Int} (he : enc = 2 ∨ enc = 4 ∨ enc = 5) (hb : fromI enc ≤ b) : oneI enc b = (rowI enc).getD (b - fromI enc).toNat (-1) := by
  rcases he with rfl | rfl | rfl
  · have hb : (160 : Int) ≤ b := hb
    show oneI 2 b = L2I.getD (b - 160).toNat (-1)
    unfold oneI; rw [if_neg (by omega), if_pos rfl, if_neg (by omega)]
  · have hb : (128 : Int) ≤ b := hb
    show oneI 4 b = C4I.getD (b - 128).toNat (-1)
    unfold oneI; rw [if_neg (by omega), if_neg (by omega), if_neg (by omega), if_pos rfl]
  · have hb : (128 : Int) ≤ b := hb
    show oneI 5 b = C8I.getD (b - 128).toNat (-1)
    unfold oneI; rw [if_neg (by omega), if_neg (by omega), if_neg (by omega), if_neg (by omega), if_pos rfl]
theorem one_below {enc b : Int} (he : enc = 2 ∨ enc = 4 ∨ enc = 5) (hb : b < fromI enc) : oneI enc b = b := by
  by_cases h : b < 128
  · exact one_small h
  rcases he with rfl | rfl | rfl
  · have hb : b < (160 : Int) := hb
    unfold oneI; rw [if_neg (by omega), if_pos rfl, if_pos (by omega)]
  · have hb : b < (128 : Int) := hb
    omega
  · have hb : b < (128 : Int) := hb
    omega
theorem from_len {enc : Int} (he : enc = 2 ∨ enc = 4 ∨ enc = 5) : fromI enc + (rowI enc).length = 256 ∧ 128 ≤ fromI enc ∧ fromI enc ≤ 160 := by
  rw [row_len]
  rcases he with rfl | rfl | rfl <;> decide
theorem first_row {enc r k : Int} (he : enc = 2 ∨ enc = 4 ∨ enc = 5) (h : FirstAt (rowI enc) r k) (h0 : 0 ≤ k) : firstB enc r = some (fromI enc + k) ∧ fromI enc + k < 256 := by
  obtain ⟨e1, e2, e3⟩ := from_len he
  rcases h with ⟨_, h2, h3, h4⟩ | ⟨h1, _⟩
  · refine ⟨?_, by omega⟩
    have hn : ((fromI enc + k).toNat : Int) = fromI enc + k := by omega
    have hkl : k.toNat < (rowI enc).length := by omega
    have hr : 160 ≤ r := by
      have := row_range enc r (by rw [← h3, List.getD_eq_getElem?_getD, List.getElem?_eq_getElem hkl]; exact List.getElem_mem hkl)
      omega
    have := @firstB_of enc r (fromI enc + k).toNat (by omega) (by
      rw [hn, one_row he (by omega), show fromI enc + k - fromI enc = k by omega, ← h3]
      simp [List.getD_eq_getElem?_getD, hkl]) (fun j hj => by
      by_cases hj2 : (j : Int) < fromI enc
      · rw [one_below he hj2]; omega
      · rw [one_row he (by omega)]
        have hj3 : ((j : Int) - fromI enc).toNat < (rowI enc).length := by omega
        have := h4 ((j : Int) - fromI enc).toNat (by omega)
        simpa [List.getD_eq_getElem?_getD, hj3] using this)
    rwa [hn] at this
  · omega
theorem first_range {l : List Int} {r k : Int} (h : FirstAt l r k) : -1 ≤ k ∧ k < (l.length : Int) := by
  rcases h with ⟨h1, h2, _⟩ | ⟨h1, _⟩ <;> omega
def LowRel (enc r : Int) (w : World) (i : Value) (wr : World) : Prop := ∃ k : Nat, i = .int .i64 k ∧ 128 ≤ k ∧ k ≤ 256 ∧ (∀ j : Nat, j < k → oneI enc (j : Int) ≠ r) ∧ Fresh w wr
set_option maxHeartbeats 1600000 in
set_option maxRecDepth 1000000 in
theorem pEnc_row (enc r f : Int) (R : ByteArray) (l : List Int) (hR : rowS enc = R) (hf : fromI enc = f) (hl : rowI enc = l) (hne : R.toList.isEmpty = false) (he : enc = 2 ∨ enc = 4 ∨ enc = 5) (hc : isC r = true) (hr : 128 ≤ r) (w : World) :
    Calls Tryz.prog 169 #[.int .i64 enc, .int .i32 r] w (BytesIs (encC enc r) w) := by
  have hd := row_dec enc
  rw [hR, hl] at hd
  have hfl := from_len he
  have HFR : Hid (∀ k, FirstAt l r k → 0 ≤ k → firstB enc r = some (f + k)) := by
    rw [← hl, ← hf]
    exact fun k h h2 => (first_row he h h2).1
  rw [hf, hl] at hfl
  obtain ⟨fl1, fl2, fl3⟩ := hfl
  have h0 : 0 ≤ enc := by omega
  have h5 : enc ≤ 5 := by omega
  have e6 : (enc == 6) = false := by simp; omega
  have e7 : (enc == 7) = false := by simp; omega
  have e8 : (enc == 8) = false := by simp; omega
  have HRI : Hid (rightB enc = true) := by unfold rightB; exact decide_eq_true (by omega)
  obtain ⟨r0, r1, _⟩ := isC_true hc
  have HC := Lib.hid hc
  have HD := Lib.hid hd
  have HR := Lib.hid hR
  have HF := Lib.hid hf
  have k1 := conv1
  have hn2 : ¬ R.toList = [] := by intro h; rw [h] at hne; cases hne
  clear hd hR hf hl he hc
  go_enter Tryz.func169, Tryz.ntmps169
  go_wp2_with (first
   | (go_at_call 112; refine (right_any _ _).mono ?_; rintro e w1 ⟨rfl, rfl⟩; rw [HRI.out])
   | (go_at_call 166; refine (utfIs_any _ _).mono ?_; rintro e w1 ⟨rfl, rfl⟩; rw [HC.out]))
  refine (upper_any _ _).mono ?_
  rintro e w1 ⟨rfl, rfl⟩
  rw [HR.out, HF.out]
  go_wp2_with fail
  refine (find_any R l r _ HD.out (by omega)).mono ?_
  rintro e w1 ⟨n, rfl, hfa, HF0⟩
  obtain ⟨n0, n1⟩ := first_range hfa
  have HFA := Lib.hid hfa
  clear hfa
  by_cases hn : 0 ≤ n
  · have HZ := Lib.hid (encC_first HC.out (by omega) (HFR.out n HFA.out hn))
    go_wp2
    go_ret2
    exact BytesIs.yes HZ.out (HF0.alloc _)
  go_wp2
  go_loopw [9] (fun i wr => LowRel enc r w i wr) (fun i _ => 256 - (intOf i).toNat)
  case atStart => exact ⟨128, rfl, by omega, by omega, fun j hj => by rw [one_small (by omega)]; omega, HF0⟩
  case round =>
    obtain ⟨k, rfl, hk, hk2, hm, hf⟩ := hrel
    have HM := Lib.hid hm
    clear hm
    by_cases hlt : k < 256
    · have hlt2 : (k : Int) < 256 := by omega
      go_wp2_with fail
      refine (single_any _ _ h0 h5 (by omega) (by omega) _).mono ?_
      rintro e w2 ⟨rfl, h2⟩
      by_cases hx : oneI enc k = r
      · have hb1 : (oneI enc k == r) = true := by simp [hx]
        have HZ := Lib.hid (encC_first HC.out (by omega) (firstB_of hlt hx HM.out))
        clear hx
        go_wp2
        go_ret2
        exact BytesIs.yes HZ.out ((hf.trans h2).alloc _)
      · have hb1 : (oneI enc k == r) = false := by simp [hx]
        have HMM := Lib.hid (until_more HM.out hx)
        clear hx
        go_wp2
        exact ⟨⟨k + 1, by rw [Int.natCast_add]; rfl, by omega, by omega, HMM.out, hf.trans h2⟩, by simp [intOf]; omega⟩
    · have hk2 : k = 256 := by omega
      subst hk2
      have HZ := Lib.hid (encC_none HC.out h5 (firstB_no HM.out))
      go_wp2
      go_ret2
      exact BytesIs.no HZ.out hf
set_option maxHeartbeats 1600000 in
set_option maxRecDepth 1000000 in
theorem pEnc_none (enc r : Int) (h0 : 0 ≤ enc) (h5 : enc ≤ 5) (he : ¬ (enc = 2 ∨ enc = 4 ∨ enc = 5)) (hc : isC r = true) (hr : 128 ≤ r) (w : World) :
    Calls Tryz.prog 169 #[.int .i64 enc, .int .i32 r] w (BytesIs (encC enc r) w) := by
  have e6 : (enc == 6) = false := by simp; omega
  have e7 : (enc == 7) = false := by simp; omega
  have e8 : (enc == 8) = false := by simp; omega
  have HRI : Hid (rightB enc = true) := by unfold rightB; exact decide_eq_true (by omega)
  obtain ⟨r0, r1, _⟩ := isC_true hc
  have HC := Lib.hid hc
  have HR : Hid (rowS enc = ByteArray.empty) := by unfold rowS; rw [if_neg (by omega), if_neg (by omega), if_neg (by omega)]; exact rfl
  have k1 := conv1
  have HF0 := Fresh.refl w
  clear he hc
  go_enter Tryz.func169, Tryz.ntmps169
  go_wp2_with (first
   | (go_at_call 112; refine (right_any _ _).mono ?_; rintro e w1 ⟨rfl, rfl⟩; rw [HRI.out])
   | (go_at_call 166; refine (utfIs_any _ _).mono ?_; rintro e w1 ⟨rfl, rfl⟩; rw [HC.out]))
  refine (upper_any _ _).mono ?_
  rintro e w1 ⟨rfl, rfl⟩
  rw [HR.out]
  go_wp2
  go_loopw [9] (fun i wr => LowRel enc r w i wr) (fun i _ => 256 - (intOf i).toNat)
  case atStart => exact ⟨128, rfl, by omega, by omega, fun j hj => by rw [one_small (by omega)]; omega, HF0⟩
  case round =>
    obtain ⟨k, rfl, hk, hk2, hm, hf⟩ := hrel
    have HM := Lib.hid hm
    clear hm
    by_cases hlt : k < 256
    · have hlt2 : (k : Int) < 256 := by omega
      go_wp2_with fail
      refine (single_any _ _ h0 h5 (by omega) (by omega) _).mono ?_
      rintro e w2 ⟨rfl, h2⟩
      by_cases hx : oneI enc k = r
      · have hb1 : (oneI enc k == r) = true := by simp [hx]
        have HZ := Lib.hid (encC_first HC.out (by omega) (firstB_of hlt hx HM.out))
        clear hx
        go_wp2
        go_ret2
        exact BytesIs.yes HZ.out ((hf.trans h2).alloc _)
      · have hb1 : (oneI enc k == r) = false := by simp [hx]
        have HMM := Lib.hid (until_more HM.out hx)
        clear hx
        go_wp2
        exact ⟨⟨k + 1, by rw [Int.natCast_add]; rfl, by omega, by omega, HMM.out, hf.trans h2⟩, by simp [intOf]; omega⟩
    · have hk2 : k = 256 := by omega
      subst hk2
      have HZ := Lib.hid (encC_none HC.out h5 (firstB_no HM.out))
      go_wp2
      go_ret2
      exact BytesIs.no HZ.out hf
set_option maxHeartbeats 800000 in
theorem pEnc_small (enc r : Int) (h0 : 0 ≤ enc) (h5 : enc ≤ 5) (hc : isC r = true) (hr : r < 128) (w : World) :
    Calls Tryz.prog 169 #[.int .i64 enc, .int .i32 r] w (BytesIs (encC enc r) w) := by
  have e6 : (enc == 6) = false := by simp; omega
  have e7 : (enc == 7) = false := by simp; omega
  have e8 : (enc == 8) = false := by simp; omega
  have HRI : Hid (rightB enc = true) := by unfold rightB; exact decide_eq_true (by omega)
  obtain ⟨r0, r1, _⟩ := isC_true hc
  have HC := Lib.hid hc
  have HZ := Lib.hid (encC_first hc (by omega) (firstB_small (enc := enc) r0 hr))
  have k1 := conv1
  clear hc
  go_enter Tryz.func169, Tryz.ntmps169
  go_wp2_with (first
   | (go_at_call 112; refine (right_any _ _).mono ?_; rintro e w1 ⟨rfl, rfl⟩; rw [HRI.out])
   | (go_at_call 166; refine (utfIs_any _ _).mono ?_; rintro e w1 ⟨rfl, rfl⟩; rw [HC.out]))
  go_ret2
  exact BytesIs.yes HZ.out ((Fresh.refl _).alloc _)
set_option maxHeartbeats 800000 in
theorem pEnc_kana (r : Int) (hc : isC r = true) (w : World) :
    Calls Tryz.prog 169 #[.int .i64 6, .int .i32 r] w (BytesIs (encC 6 r) w) := by
  have HRI : Hid (rightB 6 = true) := rfl
  obtain ⟨r0, r1, _⟩ := isC_true hc
  have HC := Lib.hid hc
  have HZ := Lib.hid (encC_kana hc)
  have HK := Lib.hid (fun w => fromKana_str r r0 (by omega) w)
  clear hc
  go_enter Tryz.func169, Tryz.ntmps169
  go_wp2_with (first
   | (go_at_call 112; refine (right_any _ _).mono ?_; rintro e w1 ⟨rfl, rfl⟩; rw [HRI.out])
   | (go_at_call 166; refine (utfIs_any _ _).mono ?_; rintro e w1 ⟨rfl, rfl⟩; rw [HC.out]))
  refine (HK.out _).mono ?_
  rintro e w1 ⟨rfl, h1⟩
  go_wp2
  go_ret2
  rw [HZ.out]
  exact ⟨rfl, h1⟩
set_option maxHeartbeats 800000 in
theorem pEnc_utf (enc r : Int) (h7 : enc = 7 ∨ enc = 8) (hc : isC r = true) (w : World) :
    Calls Tryz.prog 169 #[.int .i64 enc, .int .i32 r] w (BytesIs (encC enc r) w) := by
  have HRI : Hid (rightB enc = true) := by unfold rightB; exact decide_eq_true (by omega)
  have HZ : Hid (encC enc r = some (encI r)) := by unfold encC; rw [if_pos hc, if_pos (by omega)]; exact rfl
  have HE : Hid (encS r = strOfNums (encI r)) := by unfold encS; rw [if_pos hc]; exact rfl
  have HC := Lib.hid hc
  clear hc
  rcases h7 with rfl | rfl
  all_goals
    go_enter Tryz.func169, Tryz.ntmps169
    go_wp2_with (first
     | (go_at_call 112; refine (right_any _ _).mono ?_; rintro e w1 ⟨rfl, rfl⟩; rw [HRI.out])
     | (go_at_call 166; refine (utfIs_any _ _).mono ?_; rintro e w1 ⟨rfl, rfl⟩; rw [HC.out]))
    refine (utfBytes_any _ _).mono ?_
    rintro e w1 ⟨rfl, h1⟩
    rw [HE.out]
    go_wp2
    go_ret2
    exact BytesIs.yes HZ.out h1
/-- the program's answer: none outside of 0..8 -/
def encP (enc r : Int) : Option (List Int) := if 0 ≤ enc ∧ enc ≤ 8 then encC enc r else none
set_option maxHeartbeats 800000 in
theorem pEnc_any (enc r : Int) (w : World) :
    Calls Tryz.prog 169 #[.int .i64 enc, .int .i32 r] w (BytesIs (encP enc r) w) := by
  by_cases h : 0 ≤ enc ∧ enc ≤ 8
  · have e : encP enc r = encC enc r := by unfold encP; rw [if_pos h]
    rw [e]
    by_cases hc : isC r = true
    · by_cases h7 : 7 ≤ enc
      · exact pEnc_utf enc r (by omega) hc w
      by_cases h6 : enc = 6
      · subst h6; exact pEnc_kana r hc w
      by_cases hr : r < 128
      · exact pEnc_small enc r h.1 (by omega) hc hr w
      by_cases he : enc = 2 ∨ enc = 4 ∨ enc = 5
      · rcases he with rfl | rfl | rfl
        · exact pEnc_row 2 r 160 L2S L2I rfl rfl rfl row_ne.1.1 (by omega) hc (by omega) w
        · exact pEnc_row 4 r 128 C4S C4I rfl rfl rfl row_ne.1.2 (by omega) hc (by omega) w
        · exact pEnc_row 5 r 128 C8S C8I rfl rfl rfl row_ne.2 (by omega) hc (by omega) w
      · exact pEnc_none enc r h.1 (by omega) he hc (by omega) w
    · have hc2 : isC r = false := by simpa using hc
      have HZ : Hid (encC enc r = none) := by unfold encC; rw [if_neg hc]; exact rfl
      have HC := Lib.hid hc2
      have HRI : Hid (rightB enc = true) := by unfold rightB; exact decide_eq_true (by omega)
      clear hc hc2 h e
      go_enter Tryz.func169, Tryz.ntmps169
      go_wp2_with (first
       | (go_at_call 112; refine (right_any _ _).mono ?_; rintro e w1 ⟨rfl, rfl⟩; rw [HRI.out])
       | (go_at_call 166; refine (utfIs_any _ _).mono ?_; rintro e w1 ⟨rfl, rfl⟩; rw [HC.out]))
      go_ret2
      exact BytesIs.no HZ.out (Fresh.refl _)
  · have HZ : Hid (encP enc r = none) := by unfold encP; rw [if_neg h]; exact rfl
    have HRI : Hid (rightB enc = false) := by unfold rightB; exact decide_eq_false h
    clear h
    go_enter Tryz.func169, Tryz.ntmps169
    go_wp2_with (first
     | (go_at_call 112; refine (right_any _ _).mono ?_; rintro e w1 ⟨rfl, rfl⟩; rw [HRI.out]))
    go_ret2
    exact BytesIs.no HZ.out (Fresh.refl _)
theorem pEnc_str (enc r : Int) (w : World) :
    Calls Tryz.prog 169 #[.int .i64 enc, .int .i32 r] w (BytesStr (encP enc r) w) := pEnc_any enc r w
end Go.Proofs.YtpmlggjhfiljmaaGreatDoor
/- Plain words of layer 2: a character's bytes are read again, and what is read is written so. -/
namespace Go.Proofs.YtpmlggjhfiljmaaGreatDoor
open Go.RowKit
set_option linter.unusedVariables false

/-- these bytes stand at a place -/
def Stands (s : ByteArray) (p : Nat) (l : List Int) : Prop := p + l.length ≤ s.size ∧ ∀ i, i < l.length → B s (p + i) = l.getD i 0
theorem strOfNums_size (l : List Int) : (strOfNums l).size = l.length := by simp [strOfNums, ByteArray.size]
theorem B_strOfNums {l : List Int} (h : ∀ x ∈ l, 0 ≤ x ∧ x < 256) {i : Nat} (hi : i < l.length) : B (strOfNums l) i = l.getD i 0 := by
  have := getD_bytesOf l h i hi
  unfold B strOfNums
  simpa [bytesOf] using this
theorem stands_eq {s : ByteArray} {p : Nat} {l : List Int} (hl : ∀ x ∈ l, 0 ≤ x ∧ x < 256) (h : Stands s p l) : strOfNums l = s.extract p (p + l.length) := by
  apply ByteArray.ext
  apply Array.toList_inj.1
  have e1 : (s.extract p (p + l.length)).data.toList.length = l.length := by
    have := h.1
    simp
    omega
  apply List.ext_getElem
  · rw [e1]; simp [strOfNums]
  · intro i h1 h2
    have hi : i < l.length := by omega
    have g1 := getD_bytesOf l hl i hi
    have g2 := h.2 i hi
    have g3 := B_extract s p (p + l.length) i h.1 (by omega)
    rw [← g2, ← g3] at g1
    have h1' : i < (bytesOf l).length := by simpa [bytesOf] using hi
    rw [List.getD_eq_getElem?_getD, List.getD_eq_getElem?_getD, List.getElem?_eq_getElem h1', List.getElem?_eq_getElem h2] at g1
    apply UInt8.toNat_inj.1
    have e2 : ((strOfNums l).data.toList[i]'h1).toNat = ((bytesOf l)[i]'h1').toNat := by simp [strOfNums, bytesOf]
    exact e2.trans (by have := Int.ofNat.inj (by simpa using g1); simpa using this)
theorem nextC_utf {enc : Int} {s : ByteArray} {p : Nat} (h7 : 7 ≤ enc) (h8 : enc ≤ 8) (hp : p < s.size) : nextC enc s p = if 0 < (nxt s p).2 then nxt s p else (-1, 1) := by
  unfold nextC; rw [if_pos (by omega), if_pos h7]; rfl
theorem nextC_one {enc : Int} {s : ByteArray} {p : Nat} (h0 : 0 ≤ enc) (h5 : enc ≤ 5) (hp : p < s.size) : nextC enc s p = (oneI enc (B s p), 1) := by
  unfold nextC; rw [if_pos (by omega), if_neg (by omega), if_neg (by omega)]; rfl
theorem nextC_six {s : ByteArray} {p : Nat} (hp : p < s.size) : nextC 6 s p = if p + 1 < s.size ∧ 0 ≤ twoI (B s p) (B s (p + 1)) then (twoI (B s p) (B s (p + 1)), 2) else (oneI 6 (B s p), 1) := by
  obtain ⟨b0, b1⟩ := B_range s p
  unfold nextC
  rw [if_pos (by omega), if_neg (by omega), if_pos rfl]
  simp only [Int.toNat_natCast]
  rw [kanaP_ref _ _ _ b0 b1]
  by_cases h : p + 1 < s.size
  · simp [h]
  · simp [h]
theorem two_not_one {b r : Int} (h1 : twoI b r ≥ 0) : oneI 6 b = -1 := by
  have hr : 130 ≤ b ∧ b ≤ 132 := Classical.byContradiction fun h => by rw [two_neg h] at h1; omega
  unfold oneI
  rw [if_neg (by omega), if_neg (by omega), if_neg (by omega), if_neg (by omega), if_neg (by omega), if_pos rfl, if_neg (by omega)]
/-- the bytes are bytes -/
theorem encC_bytes {enc r : Int} {l : List Int} (h : encC enc r = some l) : (∀ x ∈ l, 0 ≤ x ∧ x < 256) ∧ 1 ≤ l.length ∧ l.length ≤ 4 := by
  unfold encC at h
  by_cases hc : isC r = true
  · rw [if_pos hc] at h
    by_cases h7 : 7 ≤ enc
    · rw [if_pos h7, Option.some.injEq] at h
      subst h
      have := encI_len r
      exact ⟨encI_range hc, by rcases szI_cases r with h | h | h | h <;> omega, by rcases szI_cases r with h | h | h | h <;> omega⟩
    rw [if_neg h7] at h
    cases hf : firstB enc r with
    | some b =>
      rw [hf] at h
      have := firstB_sound hf
      simp only [Option.some.injEq] at h
      subst h
      exact ⟨fun x hx => by simp at hx; omega, by simp, by simp⟩
    | none =>
      rw [hf] at h
      simp only at h
      by_cases h6 : enc = 6
      · rw [if_pos h6, Option.map_eq_some_iff] at h
        obtain ⟨⟨a, b⟩, hp, rfl⟩ := h
        have := pair_two hp
        exact ⟨fun x hx => by simp at hx; omega, by simp, by simp⟩
      · rw [if_neg h6] at h; cases h
  · rw [if_neg hc] at h; cases h
/-- a character's bytes are read as that character -/
theorem next_enc {enc r : Int} {l : List Int} {s : ByteArray} {p : Nat} (h0 : 0 ≤ enc) (h8 : enc ≤ 8) (h : encC enc r = some l) (hs : Stands s p l) : nextC enc s p = (r, (l.length : Int)) := by
  have hb := encC_bytes h
  have hp : p < s.size := by have := hs.1; omega
  unfold encC at h
  by_cases hc : isC r = true
  · have hr := isC_true hc
    rw [if_pos hc] at h
    by_cases h7 : 7 ≤ enc
    · rw [if_pos h7, Option.some.injEq] at h
      subst h
      have hn := nxt_of hc (show At s p r from hs)
      rw [nextC_utf h7 h8 hp, hn, encI_len, if_pos]
      show 0 < szI r
      rcases szI_cases r with h | h | h | h <;> omega
    rw [if_neg h7] at h
    cases hf : firstB enc r with
    | some b =>
      rw [hf] at h
      obtain ⟨f0, f1, f2⟩ := firstB_sound hf
      simp only [Option.some.injEq] at h
      subst h
      have hB : B s p = b := by have := hs.2 0 (by simp); simpa using this
      by_cases h6 : enc = 6
      · subst h6
        rw [nextC_six hp, hB, if_neg, f2]
        · rfl
        · rintro ⟨_, h2⟩
          have := two_not_one h2
          omega
      · rw [nextC_one h0 (by omega) hp, hB, f2]; rfl
    | none =>
      rw [hf] at h
      simp only at h
      by_cases h6 : enc = 6
      · rw [if_pos h6, Option.map_eq_some_iff] at h
        obtain ⟨⟨a, b⟩, hp2, rfl⟩ := h
        have ht := pair_two hp2
        have hB : B s p = a := by have := hs.2 0 (by simp); simpa using this
        have hB1 : B s (p + 1) = b := by have := hs.2 1 (by simp); simpa using this
        have hz := hs.1
        simp at hz
        rw [h6, nextC_six hp, hB, hB1, ht.1, if_pos ⟨by omega, by omega⟩]
        rfl
      · rw [if_neg h6] at h; cases h
  · rw [if_neg hc] at h; cases h
theorem encP_in {enc r : Int} (h : 0 ≤ enc ∧ enc ≤ 8) : encP enc r = encC enc r := by unfold encP; rw [if_pos h]
theorem encP_out {enc r : Int} (h : ¬ (0 ≤ enc ∧ enc ≤ 8)) : encP enc r = none := by unfold encP; rw [if_neg h]
theorem stands_self {l : List Int} (h : ∀ x ∈ l, 0 ≤ x ∧ x < 256) : Stands (strOfNums l) 0 l :=
  ⟨by rw [strOfNums_size]; omega, fun i hi => by rw [show 0 + i = i by omega]; exact B_strOfNums h hi⟩
theorem one_char_dec : (List.range 7).all (fun e => (List.range 256).all fun b => decide (oneI (e : Int) (b : Int) = -1) || isC (oneI (e : Int) (b : Int))) = true := by decide +kernel
theorem one_char {enc b : Int} (h0 : 0 ≤ enc) (h6 : enc ≤ 6) (hb : 0 ≤ b) (hb2 : b < 256) : oneI enc b = -1 ∨ isC (oneI enc b) = true := by
  have h := one_char_dec
  rw [List.all_eq_true] at h
  have h := h enc.toNat (List.mem_range.2 (by omega))
  rw [List.all_eq_true] at h
  have h := h b.toNat (List.mem_range.2 (by omega))
  rw [Int.toNat_of_nonneg h0, Int.toNat_of_nonneg hb] at h
  simpa using h
def chk : List Int → Nat → Bool
  | [], _ => true
  | x :: l, m => if x < 0 then chk l m else !m.testBit x.toNat && chk l (m ||| (1 <<< x.toNat))
theorem chk_law : ∀ (l : List Int) (m : Nat), chk l m = true → (∀ x ∈ l, 0 ≤ x → m.testBit x.toNat = false) ∧ l.Pairwise (fun a b => a = b → a < 0)
  | [], _, _ => ⟨fun _ h => by simp at h, List.Pairwise.nil⟩
  | x :: l, m, h => by
    unfold chk at h
    by_cases hx : x < 0
    · rw [if_pos hx] at h
      have ⟨i1, i2⟩ := chk_law l m h
      exact ⟨fun y hy h0 => by rcases List.mem_cons.1 hy with rfl | hy; omega; exact i1 y hy h0, List.Pairwise.cons (fun y hy e => hx) i2⟩
    · rw [if_neg hx, Bool.and_eq_true] at h
      have ⟨i1, i2⟩ := chk_law l _ h.2
      refine ⟨fun y hy h0 => ?_, List.Pairwise.cons (fun y hy e => ?_) i2⟩
      · rcases List.mem_cons.1 hy with rfl | hy
        · simpa using h.1
        · have := i1 y hy h0
          rw [Nat.testBit_or, Bool.or_eq_false_iff] at this
          exact this.1
      · subst e
        have := i1 x hy (by omega)
        rw [Nat.testBit_or, Bool.or_eq_false_iff] at this
        have h2 := this.2
        rw [Nat.testBit_shiftLeft] at h2
        simp at h2
theorem one_once_dec : (List.range 7).all (fun e => chk ((List.range 256).map fun b : Nat => oneI (e : Int) (b : Int)) 0) = true := by decide +kernel
theorem one_once {enc : Int} {b c : Nat} (h0 : 0 ≤ enc) (h6 : enc ≤ 6) (hbc : b < c) (hc : c < 256) (e : oneI enc (b : Int) = oneI enc (c : Int)) : oneI enc (b : Int) < 0 := by
  have h := one_once_dec
  rw [List.all_eq_true] at h
  have h := (chk_law _ _ (h enc.toNat (List.mem_range.2 (by omega)))).2
  rw [Int.toNat_of_nonneg h0, List.pairwise_iff_getElem] at h
  have := h b c (by simp; omega) (by simpa using hc) hbc
  simp at this
  exact this e
theorem first_one {enc b : Int} (h0 : 0 ≤ enc) (h6 : enc ≤ 6) (hb : 0 ≤ b) (hb2 : b < 256) (h : 0 ≤ oneI enc b) : firstB enc (oneI enc b) = some b := by
  obtain ⟨n, rfl⟩ := Int.eq_ofNat_of_zero_le hb
  exact firstB_of (by omega) rfl fun j hj e => by
    have := one_once h0 h6 hj (by omega) e
    omega
/-- what is read is a character, whose bytes stand there; or no character -/
theorem next_back {enc : Int} {s : ByteArray} {p : Nat} (h0 : 0 ≤ enc) (h8 : enc ≤ 8) (hp : p < s.size) :
    (∃ r l, nextC enc s p = (r, (l.length : Int)) ∧ 0 ≤ r ∧ encC enc r = some l ∧ Stands s p l) ∨ (nextC enc s p = (-1, 1) ∧ encC enc (-1) = none) := by
  have hm : encC enc (-1) = none := by unfold encC; rw [if_neg (by decide)]
  have hone : ∀ b, b = B s p → enc ≤ 6 → nextC enc s p = (oneI enc b, 1) → (∃ r l, nextC enc s p = (r, (l.length : Int)) ∧ 0 ≤ r ∧ encC enc r = some l ∧ Stands s p l) ∨ (nextC enc s p = (-1, 1) ∧ encC enc (-1) = none) := by
    intro b hb h6 hn
    obtain ⟨b0, b1⟩ := B_range s p
    rcases one_char (enc := enc) (b := b) h0 h6 (by omega) (by omega) with h | h
    · right; rw [hn, h]; exact ⟨rfl, hm⟩
    · left
      have hr := isC_true h
      refine ⟨oneI enc b, [b], hn, hr.1, encC_first h h6 (first_one h0 h6 (by omega) (by omega) hr.1), by simp; omega, fun i hi => ?_⟩
      have : i = 0 := by simpa using hi
      subst this
      simp [hb]
  by_cases h7 : 7 ≤ enc
  · by_cases hz : (nxt s p).2 = 0
    · right
      rw [nextC_utf h7 h8 hp, if_neg (by omega)]
      exact ⟨rfl, hm⟩
    · left
      have hq := nxt_pos hp hz
      obtain ⟨hc, h2, h3⟩ := nxt_sound hp hz
      refine ⟨(nxt s p).1, encI (nxt s p).1, ?_, (isC_true hc).1, ?_, h3⟩
      · rw [nextC_utf h7 h8 hp, if_pos (by omega), encI_len, ← h2]
      · unfold encC; rw [if_pos hc, if_pos h7]
  by_cases h6 : enc = 6
  · subst h6
    have e := nextC_six hp
    by_cases ht : p + 1 < s.size ∧ 0 ≤ twoI (B s p) (B s (p + 1))
    · rw [if_pos ht] at e
      left
      have hpr := two_pair rfl ht.2
      have hpt := pair_two hpr
      have hc : isC (twoI (B s p) (B s (p + 1))) = true := by
        rcases two_cases (B s p) (B s (p + 1)) with ⟨x, hx, hh, h2⟩ | ⟨_, h2⟩
        · rw [h2]
          have h3 := List.all_eq_true.1 (show (RT.all fun x => decide (x.2.2.2 + (x.2.2.1 - x.2.1) < 55296 ∨ 57343 < x.2.2.2)) = true by decide +kernel) x hx
          have h3 := of_decide_eq_true h3
          have h4 := (RT_of hx).1
          unfold hitB at hh
          exact isC_of (by omega)
        · omega
      refine ⟨_, [B s p, B s (p + 1)], e, ht.2, ?_, by simp; omega, fun i hi => ?_⟩
      · rw [encC_kana hc]
        unfold encK
        rw [if_neg (by omega), if_neg (by omega), hpr]
        rfl
      · have : i = 0 ∨ i = 1 := by simp at hi; omega
        rcases this with rfl | rfl <;> simp
    · rw [if_neg ht] at e
      exact hone _ rfl (by omega) e
  · exact hone _ rfl (by omega) (nextC_one h0 (by omega) hp)
end Go.Proofs.YtpmlggjhfiljmaaGreatDoor
