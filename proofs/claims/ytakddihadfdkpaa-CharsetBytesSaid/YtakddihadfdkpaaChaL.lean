/- awake of layer 2's laws; CharsetNext, CharsetEncode: the walks. -/
import Derived.Test.YtakddihadfdkpaaChaK
namespace Go.Proofs.Ytakddihadfdkpaa
open Go.RowKit
set_option linter.unusedVariables false

theorem e30a2 : encP 6 12450 = some [131, 65] := by decide +kernel
theorem s30a2 : ((strC (encP 6 12450)).toList == [131, 65]) = true := by decide +kernel
theorem i30a2 : (encP 6 12450).isSome = true := by decide +kernel
set_option maxHeartbeats 400000 in
theorem awake02 (w : World) : Calls Try.prog 8 #[] w fun e w' => e = .returned (.bool true) ∧ Fresh w w' := by
  have HS := s30a2
  have HI := i30a2
  have HR : Hid (rightB 8 = true) := rfl
  have HC := Lib.hid (pEnc_str 6 12450)
  generalize encP 6 12450 = z at HS HI HC
  go_enter Try.func8, Try.ntmps8
  go_wp2_with fail
  refine (HC.out _).mono ?_
  rintro e w1 ⟨rfl, h1⟩
  rw [HI]
  go_wp2_with ((go_at_call 10; refine (right_any _ _).mono ?_; rintro e w1 ⟨rfl, rfl⟩; rw [HR.out]))
  go_ret
  exact ⟨rfl, h1⟩
theorem one_range_dec : (List.range 9).all (fun e => (List.range 256).all fun b => decide (-1 ≤ oneI (e : Int) (b : Int) ∧ oneI (e : Int) (b : Int) < 65536)) = true := by decide +kernel
theorem one_range {enc b : Int} (h0 : 0 ≤ enc) (h8 : enc ≤ 8) (hb : 0 ≤ b) (hb2 : b < 256) : -1 ≤ oneI enc b ∧ oneI enc b < 65536 := by
  have h := one_range_dec
  rw [List.all_eq_true] at h
  have h := h enc.toNat (List.mem_range.2 (by omega))
  rw [List.all_eq_true] at h
  have h := h b.toNat (List.mem_range.2 (by omega))
  rw [Int.toNat_of_nonneg h0, Int.toNat_of_nonneg hb] at h
  exact of_decide_eq_true h
theorem nxt_range {s : ByteArray} {p : Nat} (hp : p < s.size) : 0 ≤ (nxt s p).1 ∧ (nxt s p).1 < 1114112 := by
  by_cases hz : (nxt s p).2 = 0
  · rw [nxt_zero hz]; exact ⟨by decide, by decide⟩
  · have := isC_true (nxt_sound hp hz).1
    omega
theorem nextC_range {enc : Int} {s : ByteArray} {i : Int} : -1 ≤ (nextC enc s i).1 ∧ (nextC enc s i).1 < 1114112 := by
  unfold nextC
  by_cases h : 0 ≤ enc ∧ enc ≤ 8 ∧ 0 ≤ i ∧ i < (s.size : Int)
  · rw [if_pos h]
    obtain ⟨b0, b1⟩ := B_range s i.toNat
    have o := one_range (enc := enc) h.1 h.2.1 b0 b1
    by_cases h7 : 7 ≤ enc
    · rw [if_pos h7]
      split
      · have := nxt_range (s := s) (p := i.toNat) (by omega); omega
      · exact ⟨by decide, by decide⟩
    rw [if_neg h7]
    by_cases h6 : enc = 6
    · rw [if_pos h6, kanaP_ref _ _ _ b0 b1]
      have := two_ge (B s i.toNat) (B s (i.toNat + 1))
      rw [h6] at o
      split <;> simp only <;> omega
    · rw [if_neg h6]; simp only; omega
  · rw [if_neg h]; exact ⟨by decide, by decide⟩
set_option maxHeartbeats 800000 in
theorem next_in (enc : Int) (b : ByteArray) (i : Int) (w : World) (he : 0 ≤ enc ∧ enc ≤ 8) (hi : 0 ≤ i ∧ i < (b.size : Int)) (hs : b.size ≤ 100) :
    Calls Try.prog 3 #[.int .i64 enc, .string b, .int .i64 i] w fun e w' => e = .returned (.bool true) ∧ Below w.heap.size w w' := by
  obtain ⟨p, rfl⟩ := Int.eq_ofNat_of_zero_le hi.1
  obtain ⟨_, hi⟩ := hi
  obtain ⟨e0, e8⟩ := he
  have HR : Hid (rightB enc = true) := by unfold rightB; exact decide_eq_true ⟨e0, e8⟩
  have HN := Lib.hid (chNext_any enc b p (by omega))
  have HM := Lib.hid (rNext_any enc b p e0 e8 (by omega) (by omega))
  have hr := nextC_range (enc := enc) (s := b) (i := p)
  generalize nextC enc b p = v at HN HM hr
  obtain ⟨x, y⟩ := v
  simp only at hr
  obtain ⟨x0, x1⟩ := hr
  go_enter Try.func3, Try.ntmps3
  go_wp2_with fail
  refine (awake02 _).mono ?_
  rintro e w1 ⟨rfl, h1⟩
  go_wp2_with fail
  refine (HN.out _).mono ?_
  rintro e w2 ⟨rfl, h2⟩
  go_wp2_with ((go_at_call 10; refine (right_any _ _).mono ?_; rintro e w1 ⟨rfl, rfl⟩; rw [HR.out]))
  refine (HM.out _).mono ?_
  rintro e w3 ⟨rfl, h3⟩
  obtain ⟨c0, c1, _, _, l⟩ := piece_facts (Blk.new w2 24 #[.int .i32 x, .int .i64 y]) h3
  go_wp2
  go_ret
  exact ⟨ret_bool (by simp), ((h1.trans h2).trans (((Fresh.refl _).alloc _).trans h3)).below⟩
theorem nextC_out {enc : Int} {s : ByteArray} {i : Int} (h : ¬ (0 ≤ enc ∧ enc ≤ 8 ∧ 0 ≤ i ∧ i < (s.size : Int))) : nextC enc s i = (0, 0) := by unfold nextC; rw [if_neg h]
set_option maxHeartbeats 800000 in
theorem next_out (enc : Int) (b : ByteArray) (i : Int) (w : World) (h : ¬ (0 ≤ enc ∧ enc ≤ 8 ∧ 0 ≤ i ∧ i < (b.size : Int))) (hs : b.size ≤ 100) :
    Calls Try.prog 3 #[.int .i64 enc, .string b, .int .i64 i] w fun e w' => e = .returned (.bool true) ∧ Below w.heap.size w w' := by
  have HN := Lib.hid (chNext_any enc b i (by omega))
  rw [nextC_out h] at HN
  by_cases he : 0 ≤ enc ∧ enc ≤ 8
  · have HR : Hid (rightB enc = true) := by unfold rightB; exact decide_eq_true he
    obtain ⟨e0, e8⟩ := he
    have h' : i < 0 ∨ (0 ≤ i ∧ (b.size : Int) ≤ i) := by omega
    clear h
    rcases h' with h' | ⟨i0, h'⟩
    all_goals
      go_enter Try.func3, Try.ntmps3
      go_wp2_with fail
      refine (awake02 _).mono ?_
      rintro e w1 ⟨rfl, h1⟩
      go_wp2_with fail
      refine (HN.out _).mono ?_
      rintro e w2 ⟨rfl, h2⟩
      go_wp2_with ((go_at_call 10; refine (right_any _ _).mono ?_; rintro e w1 ⟨rfl, rfl⟩; rw [HR.out]))
      go_ret
      exact ⟨rfl, ((h1.trans h2).alloc _).below⟩
  · have HR : Hid (rightB enc = false) := by unfold rightB; exact decide_eq_false he
    have h' : enc < 0 ∨ (0 ≤ enc ∧ 8 < enc) := by omega
    clear h he
    rcases h' with h' | ⟨i0, h'⟩
    all_goals
      go_enter Try.func3, Try.ntmps3
      go_wp2_with fail
      refine (awake02 _).mono ?_
      rintro e w1 ⟨rfl, h1⟩
      go_wp2_with fail
      refine (HN.out _).mono ?_
      rintro e w2 ⟨rfl, h2⟩
      go_wp2_with ((go_at_call 10; refine (right_any _ _).mono ?_; rintro e w1 ⟨rfl, rfl⟩; rw [HR.out]))
      go_ret
      exact ⟨rfl, ((h1.trans h2).alloc _).below⟩
set_option maxHeartbeats 800000 in
theorem walk_CharsetNext (enc : Int) (b : ByteArray) (i : Int) (w : World) (_ : (Lit.int .i64 enc).wf = true) (hb : b.size ≤ 140737488351232) (_ : (Lit.int .i64 i).wf = true) :
    Calls Try.prog 3 #[.int .i64 enc, .string b, .int .i64 i] w fun e w' => e = .returned (.bool true) ∧ Below w.heap.size w w' := by
  by_cases hz : b.size ≤ 100
  · by_cases h : 0 ≤ enc ∧ enc ≤ 8 ∧ 0 ≤ i ∧ i < (b.size : Int)
    · exact next_in enc b i w ⟨h.1, h.2.1⟩ h.2.2 hz
    · exact next_out enc b i w h hz
  · go_enter Try.func3, Try.ntmps3
    go_wp2_with fail
    refine (awake02 _).mono ?_
    rintro e w1 ⟨rfl, h1⟩
    go_wp2_with fail
    refine (awake02 _).mono ?_
    rintro e w2 ⟨rfl, h2⟩
    go_wp2
    go_ret
    exact ⟨rfl, (h1.trans h2).below⟩
end Go.Proofs.Ytakddihadfdkpaa
