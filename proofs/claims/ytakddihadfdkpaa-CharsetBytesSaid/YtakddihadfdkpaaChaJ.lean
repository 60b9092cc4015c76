/- Which byte is a character's; encC, a character's bytes. The reference's Encode. -/
import Derived.Test.YtakddihadfdkpaaChaI
namespace Go.Proofs.Ytakddihadfdkpaa
open Go.RowKit
set_option linter.unusedVariables false

def firstB (enc r : Int) : Option Int := ((List.range 256).find? fun b : Nat => decide (oneI enc (b : Int) = r)).map (fun b : Nat => (b : Int))
theorem firstB_of {enc r : Int} {b : Nat} (hb : b < 256) (h : oneI enc (b : Int) = r) (hm : ∀ j : Nat, j < b → oneI enc (j : Int) ≠ r) : firstB enc r = some (b : Int) := by
  unfold firstB
  have : ((List.range 256).find? fun b : Nat => decide (oneI enc (b : Int) = r)) = some b := by
    rw [List.find?_range_eq_some]
    refine ⟨by simpa using h, by simpa using hb, fun j hj => by simpa using hm j hj⟩
  rw [this]; rfl
theorem firstB_no {enc r : Int} (hm : ∀ j : Nat, j < 256 → oneI enc (j : Int) ≠ r) : firstB enc r = none := by
  unfold firstB
  have : ((List.range 256).find? fun b : Nat => decide (oneI enc (b : Int) = r)) = none := by
    rw [List.find?_range_eq_none]
    exact fun j hj => by simpa using hm j hj
  rw [this]; rfl
theorem firstB_sound {enc r b : Int} (h : firstB enc r = some b) : 0 ≤ b ∧ b < 256 ∧ oneI enc b = r := by
  unfold firstB at h
  rw [Option.map_eq_some_iff] at h
  obtain ⟨n, hn, rfl⟩ := h
  rw [List.find?_range_eq_some] at hn
  obtain ⟨h1, h2, _⟩ := hn
  have h2 := List.mem_range.1 h2
  exact ⟨by omega, by omega, by simpa using h1⟩
theorem firstB_none {enc r : Int} (h : firstB enc r = none) {b : Int} (h0 : 0 ≤ b) (h1 : b < 256) : oneI enc b ≠ r := by
  unfold firstB at h
  rw [Option.map_eq_none_iff, List.find?_range_eq_none] at h
  have := h b.toNat (by omega)
  rw [Int.toNat_of_nonneg h0] at this
  simpa using this
def encC (enc r : Int) : Option (List Int) :=
  if isC r = true then
    (if 7 ≤ enc then some (encI r) else match firstB enc r with
      | some b => some [b]
      | none => if enc = 6 then (pairK r).map fun x => [x.1, x.2] else none)
  else none
theorem one_small {enc b : Int} (h : b < 128) : oneI enc b = b := by unfold oneI; rw [if_pos (Or.inl h)]
theorem firstB_small {enc r : Int} (h0 : 0 ≤ r) (h1 : r < 128) : firstB enc r = some r := by
  have := @firstB_of enc r r.toNat (by omega) (by rw [Int.toNat_of_nonneg h0]; exact one_small h1) (fun j hj => by rw [one_small (by omega)]; omega)
  rwa [Int.toNat_of_nonneg h0] at this
theorem encC_kana {r : Int} (hc : isC r = true) : encC 6 r = encK r := by
  have hr := isC_true hc
  unfold encC encK
  rw [if_pos hc, if_neg (by omega)]
  have one6 : ∀ b : Int, 128 ≤ b → oneI 6 b = if 161 ≤ b ∧ b ≤ 223 then 65377 + b - 161 else -1 := by
    intro b hb
    unfold oneI
    rw [if_neg (by omega), if_neg (by omega), if_neg (by omega), if_neg (by omega), if_neg (by omega), if_pos rfl]
  by_cases h1 : r < 128
  · rw [firstB_small hr.1 h1, if_pos h1]
  by_cases h2 : 65377 ≤ r ∧ r ≤ 65439
  · rw [if_neg h1, if_pos h2]
    have hn : ((161 + r - 65377).toNat : Int) = 161 + r - 65377 := by omega
    have := @firstB_of 6 r (161 + r - 65377).toNat (by omega) (by rw [hn, one6 _ (by omega), if_pos (by omega)]; omega) (fun j hj => by
      by_cases hj2 : (j : Int) < 128
      · rw [one_small hj2]; omega
      · rw [one6 _ (by omega)]; split <;> omega)
    rw [hn] at this
    rw [this]
  · rw [if_neg h1, if_neg h2, firstB_no, if_pos rfl]
    intro j hj
    by_cases hj2 : (j : Int) < 128
    · rw [one_small hj2]; omega
    · rw [one6 _ (by omega)]; split <;> omega
def RefRl2 (enc r : Int) (w : World) (i : Value) (wr : World) : Prop := ∃ k : Nat, i = .int .i64 k ∧ k ≤ 256 ∧ (∀ j : Nat, j < k → oneI enc (j : Int) ≠ r) ∧ Fresh w wr
def OutRel (r : Int) (w : World) (i : Value) (wr : World) : Prop := ∃ k : Nat, i = .int .i64 k ∧ 130 ≤ k ∧ k ≤ 133 ∧ (∀ a b : Int, a < k → 0 ≤ b → b < 256 → twoI a b ≠ r) ∧ Fresh w wr
def InRel (a : Int) (r : Int) (w : World) (i : Value) (wr : World) : Prop := ∃ k : Nat, i = .int .i64 k ∧ k ≤ 256 ∧ (∀ b : Int, 0 ≤ b → b < k → twoI a b ≠ r) ∧ Fresh w wr
theorem until_more {p : Nat → Prop} {k : Nat} (h : ∀ j : Nat, j < k → p j) (h2 : p k) : ∀ j : Nat, j < k + 1 → p j := fun j hj => by
  by_cases e : j = k
  · rw [e]; exact h2
  · exact h j (by omega)
theorem until_more2 {p : Int → Prop} {k : Nat} (h : ∀ b : Int, 0 ≤ b → b < k → p b) (h2 : p (k : Int)) : ∀ b : Int, 0 ≤ b → b < ((k + 1 : Nat) : Int) → p b := fun b hb hk => by
  by_cases e : b = k
  · rw [e]; exact h2
  · exact h b hb (by omega)
theorem until_more3 {p : Int → Int → Prop} {k : Nat} (h : ∀ a b : Int, a < (k : Int) → 0 ≤ b → b < 256 → p a b) (h2 : ∀ b : Int, 0 ≤ b → b < 256 → p (k : Int) b) : ∀ a b : Int, a < ((k + 1 : Nat) : Int) → 0 ≤ b → b < 256 → p a b := fun a b ha hb hk => by
  by_cases e : a = k
  · rw [e]; exact h2 b hb hk
  · exact h a b (by omega) hb hk
theorem pair_none2 {r : Int} (h : ∀ a b : Int, a < 133 → 0 ≤ b → b < 256 → twoI a b ≠ r) : pairK r = none := by
  cases hp : pairK r with
  | none => rfl
  | some x =>
    obtain ⟨a, b⟩ := x
    have := pair_two hp
    exact absurd this.1 (h a b (by omega) (by omega) (by omega))
theorem encC_first {enc r b : Int} (hc : isC r = true) (h6 : enc ≤ 6) (h : firstB enc r = some b) : encC enc r = some [b] := by
  unfold encC; rw [if_pos hc, if_neg (by omega), h]
theorem encC_two {r a b : Int} (hc : isC r = true) (h : firstB 6 r = none) (hp : pairK r = some (a, b)) : encC 6 r = some [a, b] := by
  unfold encC; rw [if_pos hc, if_neg (by omega), h]; simp [hp]
theorem encC_none6 {r : Int} (hc : isC r = true) (h : firstB 6 r = none) (hp : pairK r = none) : encC 6 r = none := by
  unfold encC; rw [if_pos hc, if_neg (by omega), h]; simp [hp]
theorem encC_none {enc r : Int} (hc : isC r = true) (h5 : enc ≤ 5) (h : firstB enc r = none) : encC enc r = none := by
  unfold encC; rw [if_pos hc, if_neg (by omega), h]; simp; omega

set_option maxHeartbeats 1600000 in
theorem rEnc_low (enc r : Int) (hc : isC r = true) (h0 : 0 ≤ enc) (h5 : enc ≤ 5) (w : World) :
    Calls Try.prog 13 #[.int .i64 enc, .int .i64 r] w (BytesIs (encC enc r) w) := by
  obtain ⟨r0, r1, _⟩ := isC_true hc
  have HC := Lib.hid hc
  have k1 := conv1
  have k2 : IntKind.i32.wrap r = r := by rw [IntKind.wrap_i32]; omega
  have e6 : (enc == 6) = false := by simp; omega
  clear hc
  go_enter Try.func13, Try.ntmps13
  go_wp2_with fail
  refine (refIs_any _ _).mono ?_
  rintro e w1 ⟨rfl, rfl⟩
  rw [HC.out]
  go_wp2
  go_loopw [6] (fun i wr => RefRl2 enc r w i wr) (fun i _ => 256 - (intOf i).toNat)
  case atStart => exact ⟨0, rfl, by omega, fun j hj => by omega, Fresh.refl _⟩
  case round =>
    obtain ⟨k, rfl, hk, hm, hf⟩ := hrel
    have HM := Lib.hid hm
    clear hm
    by_cases hlt : k < 256
    · have hlt2 : (k : Int) < 256 := by omega
      go_wp2_with fail
      refine (one_any _ _ h0 (by omega) (by omega) (by omega) _).mono ?_
      rintro e w2 ⟨rfl, h2⟩
      by_cases hx : oneI enc k = r
      · have hb1 : (oneI enc k == r) = true := by simp [hx]
        have HZ := Lib.hid (encC_first HC.out (by omega) (firstB_of hlt hx HM.out))
        clear hx
        go_wp2
        go_ret2
        exact BytesIs.yes HZ.out ((hf.trans h2).alloc _)
      · have hb1 : (oneI enc k == r) = false := by simp [hx]
        have HMM := Lib.hid (until_more HM.out hx)
        clear hx
        go_wp2
        exact ⟨⟨k + 1, by rw [Int.natCast_add]; rfl, by omega, HMM.out, hf.trans h2⟩, by simp [intOf]; omega⟩
    · have hk2 : k = 256 := by omega
      subst hk2
      have HZ := Lib.hid (encC_none HC.out h5 (firstB_no HM.out))
      go_wp2
      refine wp_loop_rounds 1 ?_
      rw [rounds_succ]
      go_wp2
      go_ret2
      exact BytesIs.no HZ.out hf
set_option maxHeartbeats 1600000 in
set_option maxRecDepth 1000000 in
theorem rEnc_six (r : Int) (hc : isC r = true) (w : World) :
    Calls Try.prog 13 #[.int .i64 6, .int .i64 r] w (BytesIs (encC 6 r) w) := by
  obtain ⟨r0, r1, _⟩ := isC_true hc
  have HC := Lib.hid hc
  have k1 := conv1
  have k3 := conv2
  have k2 : IntKind.i32.wrap r = r := by rw [IntKind.wrap_i32]; omega
  clear hc
  go_enter Try.func13, Try.ntmps13
  go_wp2_with fail
  refine (refIs_any _ _).mono ?_
  rintro e w1 ⟨rfl, rfl⟩
  rw [HC.out]
  go_wp2
  go_loopw [6] (fun i wr => RefRl2 6 r w i wr) (fun i _ => 256 - (intOf i).toNat)
  case atStart => exact ⟨0, rfl, by omega, fun j hj => by omega, Fresh.refl _⟩
  case round =>
    obtain ⟨k, rfl, hk, hm, hf⟩ := hrel
    have HM := Lib.hid hm
    clear hm
    by_cases hlt : k < 256
    · have hlt2 : (k : Int) < 256 := by omega
      go_wp2_with fail
      refine (one_any _ _ (by omega) (by omega) (by omega) (by omega) _).mono ?_
      rintro e w2 ⟨rfl, h2⟩
      by_cases hx : oneI 6 k = r
      · have hb1 : (oneI 6 k == r) = true := by simp [hx]
        have HZ := Lib.hid (encC_first HC.out (by omega) (firstB_of hlt hx HM.out))
        clear hx
        go_wp2
        go_ret2
        exact BytesIs.yes HZ.out ((hf.trans h2).alloc _)
      · have hb1 : (oneI 6 k == r) = false := by simp [hx]
        have HMM := Lib.hid (until_more HM.out hx)
        clear hx
        go_wp2
        exact ⟨⟨k + 1, by rw [Int.natCast_add]; rfl, by omega, HMM.out, hf.trans h2⟩, by simp [intOf]; omega⟩
    · have hk2 : k = 256 := by omega
      subst hk2
      have HN := Lib.hid (firstB_no HM.out)
      clear HM
      go_wp2
      go_loopw [7] (fun i wr => OutRel r w i wr) (fun i _ => 133 - (intOf i).toNat)
      case atStart => exact ⟨130, rfl, by omega, by omega, fun a b h1 h2 h3 => by rw [two_neg (by omega)]; omega, hf⟩
      case round =>
        obtain ⟨a, rfl, ha, ha2, hm, hf2⟩ := hrel
        have HM := Lib.hid hm
        clear hm
        by_cases hlt : a < 133
        · go_wp2
          go_loopw [8] (fun i wr => InRel a r w i wr) (fun i _ => 256 - (intOf i).toNat)
          case atStart => exact ⟨0, rfl, by omega, fun b h1 h2 => by omega, hf2⟩
          case round =>
            obtain ⟨k, rfl, hk, hm2, hf3⟩ := hrel
            have HM2 := Lib.hid hm2
            clear hm2
            by_cases hk2 : k < 256
            · have hlt2 : (k : Int) < 256 := by omega
              have HT := Lib.hid (two_any a k (by omega) (by omega))
              generalize htw : twoI a k = tw at HT
              go_wp2_with fail
              refine (HT.out _).mono ?_
              rintro e w2 ⟨rfl, rfl⟩
              by_cases hx : tw = r
              · have hb1 : (tw == r) = true := by simp [hx]
                have HZ := Lib.hid (encC_two HC.out HN.out (two_pair (htw.trans hx) r0))
                clear hx htw
                go_wp2
                go_ret2
                exact BytesIs.yes HZ.out (hf3.alloc _)
              · have hb1 : (tw == r) = false := by simp [hx]
                have HMM := Lib.hid (until_more2 (p := fun b => twoI a b ≠ r) HM2.out (by rw [htw]; exact hx))
                clear hx htw
                go_wp2
                exact ⟨⟨k + 1, by rw [Int.natCast_add]; rfl, by omega, HMM.out, hf3⟩, by simp [intOf]; omega⟩
            · have HMM := Lib.hid (until_more3 (p := fun a b => twoI a b ≠ r) HM.out (fun b hb hb2 => HM2.out b hb (by omega)))
              go_wp2
              go_roundw
              case rel =>
                repeat apply Exists.intro
                exact ⟨⟨a + 1, by rw [Int.natCast_add]; rfl, by omega, by omega, HMM.out, hf3⟩, rfl⟩
              case measure => simp [intOf]; omega
        · have HZ : Hid (encC 6 r = none) := encC_none6 HC.out HN.out (pair_none2 fun x y h1 h2 h3 => HM.out x y (by omega) h2 h3)
          go_wp2
          go_ret2
          exact BytesIs.no HZ.out hf2
set_option maxHeartbeats 800000 in
theorem rEnc_any (enc r : Int) (h0 : 0 ≤ enc) (h8 : enc ≤ 8) (hr : -2147483648 ≤ r ∧ r < 2147483648) (w : World) :
    Calls Try.prog 13 #[.int .i64 enc, .int .i64 r] w (BytesIs (encC enc r) w) := by
  have k2 : IntKind.i32.wrap r = r := by rw [IntKind.wrap_i32]; omega
  by_cases hc : isC r = true
  · by_cases h5 : enc ≤ 5
    · exact rEnc_low enc r hc h0 h5 w
    by_cases h6 : enc = 6
    · subst h6; exact rEnc_six r hc w
    have h7 : 7 ≤ enc := by omega
    have HZ : Hid (encC enc r = some (encI r)) := by unfold encC; rw [if_pos hc, if_pos h7]; exact rfl
    have HE : Hid (encS r = strOfNums (encI r)) := by unfold encS; rw [if_pos hc]; exact rfl
    have HC := Lib.hid hc
    clear hc h5 h6 hr
    go_enter Try.func13, Try.ntmps13
    go_wp2_with fail
    refine (refIs_any _ _).mono ?_
    rintro e w1 ⟨rfl, rfl⟩
    rw [HC.out]
    go_wp2_with fail
    refine (refBytes_any _ HC.out _).mono ?_
    rintro e w1 ⟨rfl, h1⟩
    rw [HE.out]
    go_wp2
    go_ret2
    exact BytesIs.yes HZ.out h1
  · have hc2 : isC r = false := by simpa using hc
    have HZ : Hid (encC enc r = none) := by unfold encC; rw [if_neg hc]; exact rfl
    have HC := Lib.hid hc2
    clear hc hc2 hr
    go_enter Try.func13, Try.ntmps13
    go_wp2_with fail
    refine (refIs_any _ _).mono ?_
    rintro e w1 ⟨rfl, rfl⟩
    rw [HC.out]
    go_wp2
    go_ret2
    exact BytesIs.no HZ.out (Fresh.refl _)
end Go.Proofs.Ytakddihadfdkpaa
