/- The reference's Next and Encode of layer 2; the program's Encode. -/
import Derived.Test.YtakddihadfdkpaaChaH
namespace Go.Proofs.Ytakddihadfdkpaa
open Go.RowKit
set_option linter.unusedVariables false

theorem two_neg {c d : Int} (h : ¬ (130 ≤ c ∧ c ≤ 132)) : twoI c d = -1 := by
  rcases two_cases c d with ⟨x, hx, h1, _⟩ | ⟨_, h2⟩
  · have := (RT_of hx).1
    unfold hitB at h1
    omega
  · exact h2
theorem two_ge (c d : Int) : -1 ≤ twoI c d ∧ twoI c d < 65536 := by
  rcases two_cases c d with ⟨x, hx, h1, h2⟩ | ⟨_, h2⟩
  · have := (RT_of hx).1
    unfold hitB at h1
    omega
  · omega
/-- the piece of Kana, as the reference tells it -/
theorem kanaP_ref (c d : Int) (two : Bool) (h0 : 0 ≤ c) (h1 : c < 256) : kanaP c d two = if two = true ∧ 0 ≤ twoI c d then (twoI c d, 2) else (oneI 6 c, 1) := by
  unfold kanaP
  by_cases a1 : c < 128
  · have : twoI c d = -1 := two_neg (by omega)
    rw [if_pos a1, if_neg (by omega)]
    unfold oneI; rw [if_pos (by omega)]
  by_cases a2 : 161 ≤ c ∧ c ≤ 223
  · have : twoI c d = -1 := two_neg (by omega)
    rw [if_neg a1, if_pos a2, if_neg (by omega)]
    unfold oneI
    rw [if_neg (by omega), if_neg (by omega), if_neg (by omega), if_neg (by omega), if_neg (by omega), if_pos rfl, if_pos a2, show 65377 + (c - 161) = 65377 + c - 161 by omega]
  · rw [if_neg a1, if_neg a2]
    have : oneI 6 c = -1 := by
      unfold oneI
      rw [if_neg (by omega), if_neg (by omega), if_neg (by omega), if_neg (by omega), if_neg (by omega), if_pos rfl, if_neg a2]
    rw [this]
def PairNum (p : Int × Int) (w : World) (e : Ending) (w' : World) : Prop := e = .returned (.tuple #[.int .i64 p.1, .int .i64 p.2]) ∧ Fresh w w'
theorem PairNum.mk {p : Int × Int} {a b : Int} {w w' : World} (h : p = (a, b)) (hf : Fresh w w') : PairNum p w (.returned (.tuple #[.int .i64 a, .int .i64 b])) w' := ⟨by rw [h], hf⟩
set_option maxHeartbeats 800000 in
theorem rNext_utf (enc : Int) (s : ByteArray) (p : Nat) (h7 : 7 ≤ enc) (h8 : enc ≤ 8) (hp : p < s.size) (hs : s.size ≤ 140737488351232) (w : World) :
    Calls Try.prog 11 #[.int .i64 enc, .string s, .int .i64 p] w (PairNum (nextC enc s p) w) := by
  have hq := nxt_pos hp
  have hsnd := nxt_sound hp
  have hz := nxt_zero (s := s) (p := p)
  have HZ : Hid (nextC enc s p = if 0 < (nxt s p).2 then nxt s p else (-1, 1)) := by
    unfold nextC; rw [if_pos (by omega), if_pos (by omega)]; exact rfl
  have HN : Hid (nextI s (p : Int) = nxt s p) := by unfold nextI; rw [if_pos (by omega)]; exact rfl
  generalize nxt s p = v at HZ HN hq hsnd hz
  obtain ⟨r, n⟩ := v
  simp only at HZ HN hq hsnd hz
  by_cases hn : n = 0
  · have HP := Lib.hid (HZ.out.trans (if_neg (by omega)))
    have hb : (n == 0) = true := by simp [hn]
    clear hn hq hsnd hz
    go_enter Try.func11, Try.ntmps11
    go_wp2_with fail
    refine (refNext_any _ _ hs _).mono ?_
    rintro e w2 ⟨rfl, h2⟩
    rw [HN.out]
    go_wp2
    go_ret2
    exact PairNum.mk HP.out h2
  · have hq' := hq hn
    have hc := (hsnd hn).1
    have hr := isC_true hc
    have HP := Lib.hid (HZ.out.trans (if_pos (by omega)))
    have hb : (n == 0) = false := by simp [hn]
    obtain ⟨r0, r1, _⟩ := hr
    clear hn hq hsnd hz hq' hc
    go_enter Try.func11, Try.ntmps11
    go_wp2_with fail
    refine (refNext_any _ _ hs _).mono ?_
    rintro e w2 ⟨rfl, h2⟩
    rw [HN.out]
    go_wp2
    go_ret2
    exact PairNum.mk HP.out h2
set_option maxHeartbeats 800000 in
theorem rNext_one (enc : Int) (s : ByteArray) (p : Nat) (h0 : 0 ≤ enc) (h6 : enc ≤ 6) (he : enc ≤ 5 ∨ s.size = p + 1) (hp : p < s.size) (hs : s.size ≤ 140737488351232) (w : World) :
    Calls Try.prog 11 #[.int .i64 enc, .string s, .int .i64 p] w (PairNum (nextC enc s p) w) := by
  have hb := B_range s p
  obtain ⟨b0, b1⟩ := hb
  have hat := B_at s p hp
  have HZ : Hid (nextC enc s p = (oneI enc (B s p), 1)) := by
    unfold nextC
    rw [if_pos (by omega), if_neg (by omega)]
    by_cases e6 : enc = 6
    · rw [if_pos e6, kanaP_ref _ _ _ (by simpa using b0) (by simpa using b1), if_neg, e6]
      · rfl
      · simp; omega
    · rw [if_neg e6]; exact rfl
  generalize hB : B s p = b at b0 b1 hat HZ
  clear hB
  have k1 : IntKind.i64.wrap b = b := by rw [IntKind.wrap_i64]; omega
  by_cases e6 : enc = 6
  · subst e6
    have hsz : s.size = p + 1 := by omega
    have hd : ¬ ((p : Int) < (s.size : Int) - 1) := by omega
    clear he hsz
    go_enter Try.func11, Try.ntmps11
    go_wp2_with fail
    refine (one_any _ _ h0 h6 b0 b1 _).mono ?_
    rintro e w2 ⟨rfl, h2⟩
    go_wp2
    go_ret2
    exact PairNum.mk HZ.out h2
  · have e6' : (enc == 6) = false := by simp [e6]
    have h7 : ¬ 7 ≤ enc := by omega
    clear he e6
    go_enter Try.func11, Try.ntmps11
    go_wp2_with fail
    refine (one_any _ _ h0 h6 b0 b1 _).mono ?_
    rintro e w2 ⟨rfl, h2⟩
    go_wp2
    go_ret2
    exact PairNum.mk HZ.out h2
set_option maxHeartbeats 1600000 in
theorem rNext_kana (s : ByteArray) (p : Nat) (hp : p + 1 < s.size) (hs : s.size ≤ 140737488351232) (w : World) :
    Calls Try.prog 11 #[.int .i64 6, .string s, .int .i64 p] w (PairNum (nextC 6 s p) w) := by
  have hb := B_range s p
  obtain ⟨b0, b1⟩ := hb
  have hb' := B_range s (p + 1)
  obtain ⟨b2, b3⟩ := hb'
  have hat := B_at s p (by omega)
  have hat1 := B_at s (p + 1) hp
  have hge := two_ge (B s p) (B s (p + 1))
  have HZ : Hid (nextC 6 s p = if 0 ≤ twoI (B s p) (B s (p + 1)) then (twoI (B s p) (B s (p + 1)), 2) else (oneI 6 (B s p), 1)) := by
    unfold nextC
    rw [if_pos (by omega), if_neg (by omega), if_pos rfl, kanaP_ref _ _ _ (by simpa using b0) (by simpa using b1)]
    have : decide ((p : Int).toNat + 1 < s.size) = true := by simp; omega
    rw [this]
    simp [Hid]
  generalize hB : B s p = b at b0 b1 hat HZ hge
  generalize hB1 : B s (p + 1) = d at b2 b3 hat1 HZ hge
  clear hB hB1
  have hlt : p < s.size := by omega
  have hd : (p : Int) < (s.size : Int) - 1 := by omega
  have HT := Lib.hid (two_any b d ⟨b0, b1⟩ ⟨b2, b3⟩)
  obtain ⟨g1, g2⟩ := hge
  generalize ht : twoI b d = t at HZ HT g1 g2
  clear ht
  go_enter Try.func11, Try.ntmps11
  go_wp2
  have q1 : IntKind.i64.wrap ((p : Int) + 1) = (p : Int) + 1 := by rw [IntKind.wrap_i64]; omega
  have q2 : (0 : Int) ≤ (p : Int) + 1 := by omega
  have q3 : ((p : Int) + 1).toNat = p + 1 := by omega
  have q4 : (p : Int) + 1 < (s.size : Int) := by omega
  have q5 : (0 : Int) ≤ (p : Int) := by omega
  go_quiet ((go_at_call 19; exact Calls.quiet_of_same ((HT.out _).mono fun _ _ ⟨he, hw⟩ => ⟨he, hw.symm⟩)))
  clear q1 q2 q3 q4 q5
  by_cases h0 : 0 ≤ t
  · have HP := Lib.hid (HZ.out.trans (if_pos h0))
    go_wp2
    go_ret2
    exact PairNum.mk HP.out ((Fresh.refl _).drewN _)
  · have HP := Lib.hid (HZ.out.trans (if_neg h0))
    go_wp2_with fail
    refine (one_any _ _ (by omega) (by omega) b0 b1 _).mono ?_
    rintro e w2 ⟨rfl, h2⟩
    go_wp2
    go_ret2
    exact PairNum.mk HP.out (((Fresh.refl _).drewN _).trans h2)
theorem rNext_any (enc : Int) (s : ByteArray) (p : Nat) (h0 : 0 ≤ enc) (h8 : enc ≤ 8) (hp : p < s.size) (hs : s.size ≤ 140737488351232) (w : World) :
    Calls Try.prog 11 #[.int .i64 enc, .string s, .int .i64 p] w (PairNum (nextC enc s p) w) := by
  by_cases h7 : 7 ≤ enc
  · exact rNext_utf enc s p h7 h8 hp hs w
  by_cases h6 : enc = 6 ∧ p + 1 < s.size
  · obtain ⟨rfl, h⟩ := h6
    exact rNext_kana s p h hs w
  · exact rNext_one enc s p h0 (by omega) (by omega) hp hs w
end Go.Proofs.Ytakddihadfdkpaa
