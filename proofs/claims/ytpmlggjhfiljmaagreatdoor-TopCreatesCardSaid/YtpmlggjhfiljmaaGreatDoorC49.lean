/- Contracts that the law rests on, part 49 of 50 (ChaH, ChaI, ChaX). Each states its own conditions. -/
import Derived.Test.YtpmlggjhfiljmaaGreatDoorC08
import Derived.Test.YtpmlggjhfiljmaaGreatDoorC48
/- The reference's nth, One, Next of layer 2. -/
namespace Go.Proofs.YtpmlggjhfiljmaaGreatDoor
open Go.RowKit
set_option linter.unusedVariables false
def NumIs (r : Int) (w : World) (e : Ending) (w' : World) : Prop := e = .returned (.int .i64 r) ∧ Fresh w w'
theorem NumIs.mk {r a : Int} {w w' : World} (h : r = a) (hf : Fresh w w') : NumIs r w (.returned (.int .i64 a)) w' := ⟨by rw [h], hf⟩
theorem OwnR.sl3 {w : World} {B : Nat} {v : Value} {xs : List Int} (h : OwnR w B v xs) (hx : 0 < xs.length) : ∃ g cap, v = .slice (some ⟨g, 0, none⟩) xs.length cap ∧ g < w.heap.size ∧ ∀ j, j < xs.length → w.cell? ⟨g, j, none⟩ = some (.int .i32 (xs.getD j 0)) := by
  obtain ⟨a, cap, hv, h0 | ⟨b, off, ha, hb, hc⟩⟩ := h.sl
  · subst h0; simp at hx
  · obtain ⟨_, ⟨_, hn⟩ | ⟨g, cap', cur, hv', _⟩⟩ := h
    · omega
    · rw [hv] at hv'
      injection hv' with h1 h2 h3
      subst h1
      injection ha with ha
      injection ha with h4 h5
      subst h4 h5
      exact ⟨g, cap, hv, hb, fun j hj => by have := hc j hj; rwa [show 0 + j = j from by omega] at this⟩
set_option maxHeartbeats 400000 in
theorem nth_any (s : ByteArray) (l : List Int) (n : Int) (hl : allFrom s 0 = some l) (hs : s.size ≤ 1000) (hpos : 0 < l.length) (hlen : l.length ≤ 1000) (hn : 0 ≤ n) (hrange : ∀ x ∈ l, 160 ≤ x ∧ x < 65536) (w : World) :
    Calls Tryz.prog 118 #[.string s, .int .i64 n] w (NumIs (l.getD n.toNat (-1)) w) := by
  have HL := Lib.hid hl
  clear hl
  go_enter Tryz.func118, Tryz.ntmps118
  go_wp2_with fail
  refine (refAll_any _ (by omega) _).mono ?_
  rintro e w1 ⟨v, rfl, ho, h1⟩
  rw [HL.out] at ho
  rw [HL.out]
  have ho' : OwnR w1 _ v l := ho
  clear ho
  obtain ⟨g, cap, rfl, hg, hc⟩ := ho'.sl3 hpos
  have HC := Lib.hid hc
  clear hc ho'
  by_cases hlt : n < l.length
  · obtain ⟨k, rfl⟩ := Int.eq_ofNat_of_zero_le hn
    have hk : k < l.length := by omega
    have c1 := HC.out k hk
    have hx := hrange _ (List.getElem_mem hk)
    have e1 : l.getD k 0 = l[k] := by rw [List.getD_eq_getElem?_getD, List.getElem?_eq_getElem hk]; rfl
    have HE : Hid (l.getD (k : Int).toNat (-1) = l[k]) := by
      rw [Int.toNat_natCast, List.getD_eq_getElem?_getD, List.getElem?_eq_getElem hk]; exact rfl
    rw [e1] at c1
    clear e1
    generalize l[k] = q at c1 hx HE
    obtain ⟨x0, x1⟩ := hx
    go_wp2
    go_ret
    exact NumIs.mk HE.out h1
  · have HE : Hid (l.getD n.toNat (-1) = -1) := by
      rw [List.getD_eq_getElem?_getD, List.getElem?_eq_none (by omega)]; exact rfl
    go_wp2
    go_ret
    exact NumIs.mk HE.out h1
set_option maxHeartbeats 800000 in
theorem one_low (enc b : Int) (hb : 0 ≤ b) (hb2 : b < 256) (h : b < 128 ∨ enc = 1 ∨ (enc = 2 ∧ b < 160)) (w : World) :
    Calls Tryz.prog 63 #[.int .i64 enc, .int .i64 b] w (NumIs (oneI enc b) w) := by
  have HZ : Hid (oneI enc b = b) := by
    unfold oneI
    by_cases h1 : b < 128 ∨ enc = 1
    · rw [if_pos h1]; exact rfl
    · rw [if_neg h1, if_pos (by omega), if_pos (by omega)]; exact rfl
  by_cases h1 : b < 128
  · clear h
    go_enter Tryz.func63, Tryz.ntmps63
    go_wp2
    go_ret
    exact NumIs.mk HZ.out (Fresh.refl _)
  · rcases h with h | rfl | ⟨rfl, h2⟩
    · exact absurd h h1
    · go_enter Tryz.func63, Tryz.ntmps63
      go_wp2
      go_ret
      exact NumIs.mk HZ.out (Fresh.refl _)
    · go_enter Tryz.func63, Tryz.ntmps63
      go_wp2
      go_ret
      exact NumIs.mk HZ.out (Fresh.refl _)
set_option maxHeartbeats 800000 in
set_option maxRecDepth 1000000 in
theorem one_2 (b : Int) (hb : 160 ≤ b) (hb2 : b < 256) (w : World) :
    Calls Tryz.prog 63 #[.int .i64 2, .int .i64 b] w (NumIs (oneI 2 b) w) := by
  have HZ : Hid (oneI 2 b = L2I.getD (b - 160).toNat (-1)) := by
    unfold oneI; rw [if_neg (by omega)]; rw [if_pos rfl, if_neg (by omega)]; exact rfl
  go_enter Tryz.func63, Tryz.ntmps63
  go_wp2_with fail
  refine (nth_any _ L2I (b - 160) ?ha ?hs (by decide) (by decide) (by omega) ?hr _).mono ?_
  case ha => decide +kernel
  case hs => decide +kernel
  case hr => exact row_range 2
  rintro e w1 ⟨rfl, h1⟩
  go_wp2
  go_ret
  exact NumIs.mk HZ.out h1
set_option maxHeartbeats 800000 in
set_option maxRecDepth 1000000 in
theorem one_4 (b : Int) (hb : 128 ≤ b) (hb2 : b < 256) (w : World) :
    Calls Tryz.prog 63 #[.int .i64 4, .int .i64 b] w (NumIs (oneI 4 b) w) := by
  have HZ : Hid (oneI 4 b = C4I.getD (b - 128).toNat (-1)) := by
    unfold oneI; rw [if_neg (by omega)]; rw [if_neg (by omega)]; rw [if_neg (by omega)]; rw [if_pos rfl]; exact rfl
  go_enter Tryz.func63, Tryz.ntmps63
  go_wp2_with fail
  refine (nth_any _ C4I (b - 128) ?ha ?hs (by decide) (by decide) (by omega) ?hr _).mono ?_
  case ha => decide +kernel
  case hs => decide +kernel
  case hr => exact row_range 4
  rintro e w1 ⟨rfl, h1⟩
  go_wp2
  go_ret
  exact NumIs.mk HZ.out h1
set_option maxHeartbeats 800000 in
set_option maxRecDepth 1000000 in
theorem one_5 (b : Int) (hb : 128 ≤ b) (hb2 : b < 256) (w : World) :
    Calls Tryz.prog 63 #[.int .i64 5, .int .i64 b] w (NumIs (oneI 5 b) w) := by
  have HZ : Hid (oneI 5 b = C8I.getD (b - 128).toNat (-1)) := by
    unfold oneI; rw [if_neg (by omega)]; rw [if_neg (by omega)]; rw [if_neg (by omega)]; rw [if_neg (by omega)]; rw [if_pos rfl]; exact rfl
  go_enter Tryz.func63, Tryz.ntmps63
  go_wp2_with fail
  refine (nth_any _ C8I (b - 128) ?ha ?hs (by decide) (by decide) (by omega) ?hr _).mono ?_
  case ha => decide +kernel
  case hs => decide +kernel
  case hr => exact row_range 5
  rintro e w1 ⟨rfl, h1⟩
  go_wp2
  go_ret
  exact NumIs.mk HZ.out h1
set_option maxHeartbeats 1600000 in
theorem one_3 (b : Int) (hb : 128 ≤ b) (hb2 : b < 256) (w : World) :
    Calls Tryz.prog 63 #[.int .i64 3, .int .i64 b] w (NumIs (oneI 3 b) w) := by
  have i0 : ∀ w, (Instr.index 189 (.agg #[.int .i64 164, .int .i64 166, .int .i64 168, .int .i64 180, .int .i64 184, .int .i64 188, .int .i64 189, .int .i64 190]) (.int .i64 0)).run Tryz.prog w = .ok (.int .i64 164) w := fun _ => by kernel_rfl
  have j0 : ∀ w, (Instr.index 189 (.agg #[.int .i64 8364, .int .i64 352, .int .i64 353, .int .i64 381, .int .i64 382, .int .i64 338, .int .i64 339, .int .i64 376]) (.int .i64 0)).run Tryz.prog w = .ok (.int .i64 8364) w := fun _ => by kernel_rfl
  have i1 : ∀ w, (Instr.index 189 (.agg #[.int .i64 164, .int .i64 166, .int .i64 168, .int .i64 180, .int .i64 184, .int .i64 188, .int .i64 189, .int .i64 190]) (.int .i64 1)).run Tryz.prog w = .ok (.int .i64 166) w := fun _ => by kernel_rfl
  have j1 : ∀ w, (Instr.index 189 (.agg #[.int .i64 8364, .int .i64 352, .int .i64 353, .int .i64 381, .int .i64 382, .int .i64 338, .int .i64 339, .int .i64 376]) (.int .i64 1)).run Tryz.prog w = .ok (.int .i64 352) w := fun _ => by kernel_rfl
  have i2 : ∀ w, (Instr.index 189 (.agg #[.int .i64 164, .int .i64 166, .int .i64 168, .int .i64 180, .int .i64 184, .int .i64 188, .int .i64 189, .int .i64 190]) (.int .i64 2)).run Tryz.prog w = .ok (.int .i64 168) w := fun _ => by kernel_rfl
  have j2 : ∀ w, (Instr.index 189 (.agg #[.int .i64 8364, .int .i64 352, .int .i64 353, .int .i64 381, .int .i64 382, .int .i64 338, .int .i64 339, .int .i64 376]) (.int .i64 2)).run Tryz.prog w = .ok (.int .i64 353) w := fun _ => by kernel_rfl
  have i3 : ∀ w, (Instr.index 189 (.agg #[.int .i64 164, .int .i64 166, .int .i64 168, .int .i64 180, .int .i64 184, .int .i64 188, .int .i64 189, .int .i64 190]) (.int .i64 3)).run Tryz.prog w = .ok (.int .i64 180) w := fun _ => by kernel_rfl
  have j3 : ∀ w, (Instr.index 189 (.agg #[.int .i64 8364, .int .i64 352, .int .i64 353, .int .i64 381, .int .i64 382, .int .i64 338, .int .i64 339, .int .i64 376]) (.int .i64 3)).run Tryz.prog w = .ok (.int .i64 381) w := fun _ => by kernel_rfl
  have i4 : ∀ w, (Instr.index 189 (.agg #[.int .i64 164, .int .i64 166, .int .i64 168, .int .i64 180, .int .i64 184, .int .i64 188, .int .i64 189, .int .i64 190]) (.int .i64 4)).run Tryz.prog w = .ok (.int .i64 184) w := fun _ => by kernel_rfl
  have j4 : ∀ w, (Instr.index 189 (.agg #[.int .i64 8364, .int .i64 352, .int .i64 353, .int .i64 381, .int .i64 382, .int .i64 338, .int .i64 339, .int .i64 376]) (.int .i64 4)).run Tryz.prog w = .ok (.int .i64 382) w := fun _ => by kernel_rfl
  have i5 : ∀ w, (Instr.index 189 (.agg #[.int .i64 164, .int .i64 166, .int .i64 168, .int .i64 180, .int .i64 184, .int .i64 188, .int .i64 189, .int .i64 190]) (.int .i64 5)).run Tryz.prog w = .ok (.int .i64 188) w := fun _ => by kernel_rfl
  have j5 : ∀ w, (Instr.index 189 (.agg #[.int .i64 8364, .int .i64 352, .int .i64 353, .int .i64 381, .int .i64 382, .int .i64 338, .int .i64 339, .int .i64 376]) (.int .i64 5)).run Tryz.prog w = .ok (.int .i64 338) w := fun _ => by kernel_rfl
  have i6 : ∀ w, (Instr.index 189 (.agg #[.int .i64 164, .int .i64 166, .int .i64 168, .int .i64 180, .int .i64 184, .int .i64 188, .int .i64 189, .int .i64 190]) (.int .i64 6)).run Tryz.prog w = .ok (.int .i64 189) w := fun _ => by kernel_rfl
  have j6 : ∀ w, (Instr.index 189 (.agg #[.int .i64 8364, .int .i64 352, .int .i64 353, .int .i64 381, .int .i64 382, .int .i64 338, .int .i64 339, .int .i64 376]) (.int .i64 6)).run Tryz.prog w = .ok (.int .i64 339) w := fun _ => by kernel_rfl
  have i7 : ∀ w, (Instr.index 189 (.agg #[.int .i64 164, .int .i64 166, .int .i64 168, .int .i64 180, .int .i64 184, .int .i64 188, .int .i64 189, .int .i64 190]) (.int .i64 7)).run Tryz.prog w = .ok (.int .i64 190) w := fun _ => by kernel_rfl
  have j7 : ∀ w, (Instr.index 189 (.agg #[.int .i64 8364, .int .i64 352, .int .i64 353, .int .i64 381, .int .i64 382, .int .i64 338, .int .i64 339, .int .i64 376]) (.int .i64 7)).run Tryz.prog w = .ok (.int .i64 376) w := fun _ => by kernel_rfl
  have hcase : b = 164 ∨ b = 166 ∨ b = 168 ∨ b = 180 ∨ b = 184 ∨ b = 188 ∨ b = 189 ∨ b = 190 ∨ (b ≠ 164 ∧ b ≠ 166 ∧ b ≠ 168 ∧ b ≠ 180 ∧ b ≠ 184 ∧ b ≠ 188 ∧ b ≠ 189 ∧ b ≠ 190) := by omega
  rcases hcase with rfl | rfl | rfl | rfl | rfl | rfl | rfl | rfl | hno
  · go_enter Tryz.func63, Tryz.ntmps63
    go_wp2
    refine wp_loop_rounds 9 ?_
    rw [rounds_succ]
    go_wp2
    go_ret
    exact NumIs.mk rfl (Fresh.refl _)
  · go_enter Tryz.func63, Tryz.ntmps63
    go_wp2
    refine wp_loop_rounds 9 ?_
    rw [rounds_succ]
    go_wp2
    rw [rounds_succ]
    go_wp2
    go_ret
    exact NumIs.mk rfl (Fresh.refl _)
  · go_enter Tryz.func63, Tryz.ntmps63
    go_wp2
    refine wp_loop_rounds 9 ?_
    rw [rounds_succ]
    go_wp2
    rw [rounds_succ]
    go_wp2
    rw [rounds_succ]
    go_wp2
    go_ret
    exact NumIs.mk rfl (Fresh.refl _)
  · go_enter Tryz.func63, Tryz.ntmps63
    go_wp2
    refine wp_loop_rounds 9 ?_
    rw [rounds_succ]
    go_wp2
    rw [rounds_succ]
    go_wp2
    rw [rounds_succ]
    go_wp2
    rw [rounds_succ]
    go_wp2
    go_ret
    exact NumIs.mk rfl (Fresh.refl _)
  · go_enter Tryz.func63, Tryz.ntmps63
    go_wp2
    refine wp_loop_rounds 9 ?_
    rw [rounds_succ]
    go_wp2
    rw [rounds_succ]
    go_wp2
    rw [rounds_succ]
    go_wp2
    rw [rounds_succ]
    go_wp2
    rw [rounds_succ]
    go_wp2
    go_ret
    exact NumIs.mk rfl (Fresh.refl _)
  · go_enter Tryz.func63, Tryz.ntmps63
    go_wp2
    refine wp_loop_rounds 9 ?_
    rw [rounds_succ]
    go_wp2
    rw [rounds_succ]
    go_wp2
    rw [rounds_succ]
    go_wp2
    rw [rounds_succ]
    go_wp2
    rw [rounds_succ]
    go_wp2
    rw [rounds_succ]
    go_wp2
    go_ret
    exact NumIs.mk rfl (Fresh.refl _)
  · go_enter Tryz.func63, Tryz.ntmps63
    go_wp2
    refine wp_loop_rounds 9 ?_
    rw [rounds_succ]
    go_wp2
    rw [rounds_succ]
    go_wp2
    rw [rounds_succ]
    go_wp2
    rw [rounds_succ]
    go_wp2
    rw [rounds_succ]
    go_wp2
    rw [rounds_succ]
    go_wp2
    rw [rounds_succ]
    go_wp2
    go_ret
    exact NumIs.mk rfl (Fresh.refl _)
  · go_enter Tryz.func63, Tryz.ntmps63
    go_wp2
    refine wp_loop_rounds 9 ?_
    rw [rounds_succ]
    go_wp2
    rw [rounds_succ]
    go_wp2
    rw [rounds_succ]
    go_wp2
    rw [rounds_succ]
    go_wp2
    rw [rounds_succ]
    go_wp2
    rw [rounds_succ]
    go_wp2
    rw [rounds_succ]
    go_wp2
    rw [rounds_succ]
    go_wp2
    go_ret
    exact NumIs.mk rfl (Fresh.refl _)
  · have HZ : Hid (oneI 3 b = b) := by
      unfold oneI euB euR
      rw [if_neg (by omega), if_neg (by omega), if_pos rfl]
      simp only [euI]
      rw [if_neg (by omega)]; rw [if_neg (by omega)]; rw [if_neg (by omega)]; rw [if_neg (by omega)]; rw [if_neg (by omega)]; rw [if_neg (by omega)]; rw [if_neg (by omega)]; rw [if_neg (by omega)]
      exact rfl
    have n0 : (b == 164) = false := by simp; omega
    have n1 : (b == 166) = false := by simp; omega
    have n2 : (b == 168) = false := by simp; omega
    have n3 : (b == 180) = false := by simp; omega
    have n4 : (b == 184) = false := by simp; omega
    have n5 : (b == 188) = false := by simp; omega
    have n6 : (b == 189) = false := by simp; omega
    have n7 : (b == 190) = false := by simp; omega
    clear hno
    go_enter Tryz.func63, Tryz.ntmps63
    go_wp2
    refine wp_loop_rounds 9 ?_
    rw [rounds_succ]
    go_wp2
    rw [rounds_succ]
    go_wp2
    rw [rounds_succ]
    go_wp2
    rw [rounds_succ]
    go_wp2
    rw [rounds_succ]
    go_wp2
    rw [rounds_succ]
    go_wp2
    rw [rounds_succ]
    go_wp2
    rw [rounds_succ]
    go_wp2
    rw [rounds_succ]
    go_wp2
    go_ret
    exact NumIs.mk HZ.out (Fresh.refl _)
set_option maxHeartbeats 800000 in
theorem one_6 (b : Int) (hb : 128 ≤ b) (hb2 : b < 256) (w : World) :
    Calls Tryz.prog 63 #[.int .i64 6, .int .i64 b] w (NumIs (oneI 6 b) w) := by
  have HO : Hid (oneI 6 b = if 161 ≤ b ∧ b ≤ 223 then 65377 + b - 161 else -1) := by
    unfold oneI; rw [if_neg (by omega), if_neg (by omega), if_neg (by omega), if_neg (by omega), if_neg (by omega), if_pos rfl]; exact rfl
  by_cases h : 161 ≤ b ∧ b ≤ 223
  · have HZ := Lib.hid (HO.out.trans (if_pos h))
    obtain ⟨h1, h2⟩ := h
    go_enter Tryz.func63, Tryz.ntmps63
    go_wp2
    go_ret
    exact NumIs.mk HZ.out (Fresh.refl _)
  · have HZ := Lib.hid (HO.out.trans (if_neg h))
    have h1 : b < 161 ∨ 223 < b := by omega
    clear h
    rcases h1 with h1 | h1
    all_goals
      go_enter Tryz.func63, Tryz.ntmps63
      go_wp2
      go_ret
      exact NumIs.mk HZ.out (Fresh.refl _)
set_option maxHeartbeats 400000 in
theorem one_0 (b : Int) (hb : 128 ≤ b) (hb2 : b < 256) (w : World) :
    Calls Tryz.prog 63 #[.int .i64 0, .int .i64 b] w (NumIs (oneI 0 b) w) := by
  have HO : Hid (oneI 0 b = -1) := by unfold oneI; rw [if_neg (by omega), if_neg (by omega), if_neg (by omega), if_neg (by omega), if_neg (by omega), if_neg (by omega)]; exact rfl
  go_enter Tryz.func63, Tryz.ntmps63
  go_wp2
  go_ret
  exact NumIs.mk HO.out (Fresh.refl _)
theorem one_any (enc b : Int) (h0 : 0 ≤ enc) (h6 : enc ≤ 6) (hb : 0 ≤ b) (hb2 : b < 256) (w : World) :
    Calls Tryz.prog 63 #[.int .i64 enc, .int .i64 b] w (NumIs (oneI enc b) w) := by
  by_cases h : b < 128 ∨ enc = 1 ∨ (enc = 2 ∧ b < 160)
  · exact one_low enc b hb hb2 h w
  have hc : enc = 0 ∨ enc = 2 ∨ enc = 3 ∨ enc = 4 ∨ enc = 5 ∨ enc = 6 := by omega
  rcases hc with rfl | rfl | rfl | rfl | rfl | rfl
  · exact one_0 b (by omega) hb2 w
  · exact one_2 b (by omega) hb2 w
  · exact one_3 b (by omega) hb2 w
  · exact one_4 b (by omega) hb2 w
  · exact one_5 b (by omega) hb2 w
  · exact one_6 b (by omega) hb2 w
end Go.Proofs.YtpmlggjhfiljmaaGreatDoor
/- The reference's Next and Encode of layer 2; the program's Encode. -/
namespace Go.Proofs.YtpmlggjhfiljmaaGreatDoor
open Go.RowKit
set_option linter.unusedVariables false
def PairNum (p : Int × Int) (w : World) (e : Ending) (w' : World) : Prop := e = .returned (.tuple #[.int .i64 p.1, .int .i64 p.2]) ∧ Fresh w w'
theorem PairNum.mk {p : Int × Int} {a b : Int} {w w' : World} (h : p = (a, b)) (hf : Fresh w w') : PairNum p w (.returned (.tuple #[.int .i64 a, .int .i64 b])) w' := ⟨by rw [h], hf⟩
end Go.Proofs.YtpmlggjhfiljmaaGreatDoor
/- The reference's Encode. -/
namespace Go.Proofs.YtpmlggjhfiljmaaGreatDoor
open Go.RowKit
set_option linter.unusedVariables false
set_option maxHeartbeats 1600000 in
theorem rEnc_low (enc r : Int) (hc : isC r = true) (h0 : 0 ≤ enc) (h5 : enc ≤ 5) (w : World) :
    Calls Tryz.prog 22 #[.int .i64 enc, .int .i64 r] w (BytesIs (encC enc r) w) := by
  obtain ⟨r0, r1, _⟩ := isC_true hc
  have HC := Lib.hid hc
  have k1 := conv1
  have k2 : IntKind.i32.wrap r = r := by rw [IntKind.wrap_i32]; omega
  have e6 : (enc == 6) = false := by simp; omega
  clear hc
  go_enter Tryz.func22, Tryz.ntmps22
  go_wp2_with fail
  refine (refIs_any _ _).mono ?_
  rintro e w1 ⟨rfl, rfl⟩
  rw [HC.out]
  go_wp2
  go_loopw [6] (fun i wr => RefRl2 enc r w i wr) (fun i _ => 256 - (intOf i).toNat)
  case atStart => exact ⟨0, rfl, by omega, fun j hj => by omega, Fresh.refl _⟩
  case round =>
    obtain ⟨k, rfl, hk, hm, hf⟩ := hrel
    have HM := Lib.hid hm
    clear hm
    by_cases hlt : k < 256
    · have hlt2 : (k : Int) < 256 := by omega
      go_wp2_with fail
      refine (one_any _ _ h0 (by omega) (by omega) (by omega) _).mono ?_
      rintro e w2 ⟨rfl, h2⟩
      by_cases hx : oneI enc k = r
      · have hb1 : (oneI enc k == r) = true := by simp [hx]
        have HZ := Lib.hid (encC_first HC.out (by omega) (firstB_of hlt hx HM.out))
        clear hx
        go_wp2
        go_ret2
        exact BytesIs.yes HZ.out ((hf.trans h2).alloc _)
      · have hb1 : (oneI enc k == r) = false := by simp [hx]
        have HMM := Lib.hid (until_more HM.out hx)
        clear hx
        go_wp2
        exact ⟨⟨k + 1, by rw [Int.natCast_add]; rfl, by omega, HMM.out, hf.trans h2⟩, by simp [intOf]; omega⟩
    · have hk2 : k = 256 := by omega
      subst hk2
      have HZ := Lib.hid (encC_none HC.out h5 (firstB_no HM.out))
      go_wp2
      refine wp_loop_rounds 1 ?_
      rw [rounds_succ]
      go_wp2
      go_ret2
      exact BytesIs.no HZ.out hf
set_option maxHeartbeats 1600000 in
set_option maxRecDepth 1000000 in
theorem rEnc_six (r : Int) (hc : isC r = true) (w : World) :
    Calls Tryz.prog 22 #[.int .i64 6, .int .i64 r] w (BytesIs (encC 6 r) w) := by
  obtain ⟨r0, r1, _⟩ := isC_true hc
  have HC := Lib.hid hc
  have k1 := conv1
  have k3 := conv2
  have k2 : IntKind.i32.wrap r = r := by rw [IntKind.wrap_i32]; omega
  clear hc
  go_enter Tryz.func22, Tryz.ntmps22
  go_wp2_with fail
  refine (refIs_any _ _).mono ?_
  rintro e w1 ⟨rfl, rfl⟩
  rw [HC.out]
  go_wp2
  go_loopw [6] (fun i wr => RefRl2 6 r w i wr) (fun i _ => 256 - (intOf i).toNat)
  case atStart => exact ⟨0, rfl, by omega, fun j hj => by omega, Fresh.refl _⟩
  case round =>
    obtain ⟨k, rfl, hk, hm, hf⟩ := hrel
    have HM := Lib.hid hm
    clear hm
    by_cases hlt : k < 256
    · have hlt2 : (k : Int) < 256 := by omega
      go_wp2_with fail
      refine (one_any _ _ (by omega) (by omega) (by omega) (by omega) _).mono ?_
      rintro e w2 ⟨rfl, h2⟩
      by_cases hx : oneI 6 k = r
      · have hb1 : (oneI 6 k == r) = true := by simp [hx]
        have HZ := Lib.hid (encC_first HC.out (by omega) (firstB_of hlt hx HM.out))
        clear hx
        go_wp2
        go_ret2
        exact BytesIs.yes HZ.out ((hf.trans h2).alloc _)
      · have hb1 : (oneI 6 k == r) = false := by simp [hx]
        have HMM := Lib.hid (until_more HM.out hx)
        clear hx
        go_wp2
        exact ⟨⟨k + 1, by rw [Int.natCast_add]; rfl, by omega, HMM.out, hf.trans h2⟩, by simp [intOf]; omega⟩
    · have hk2 : k = 256 := by omega
      subst hk2
      have HN := Lib.hid (firstB_no HM.out)
      clear HM
      go_wp2
      go_loopw [7] (fun i wr => OutRel r w i wr) (fun i _ => 133 - (intOf i).toNat)
      case atStart => exact ⟨130, rfl, by omega, by omega, fun a b h1 h2 h3 => by rw [two_neg (by omega)]; omega, hf⟩
      case round =>
        obtain ⟨a, rfl, ha, ha2, hm, hf2⟩ := hrel
        have HM := Lib.hid hm
        clear hm
        by_cases hlt : a < 133
        · go_wp2
          go_loopw [8] (fun i wr => InRelJ a r w i wr) (fun i _ => 256 - (intOf i).toNat)
          case atStart => exact ⟨0, rfl, by omega, fun b h1 h2 => by omega, hf2⟩
          case round =>
            obtain ⟨k, rfl, hk, hm2, hf3⟩ := hrel
            have HM2 := Lib.hid hm2
            clear hm2
            by_cases hk2 : k < 256
            · have hlt2 : (k : Int) < 256 := by omega
              have HT := Lib.hid (two_any a k (by omega) (by omega))
              generalize htw : twoI a k = tw at HT
              go_wp2_with fail
              refine (HT.out _).mono ?_
              rintro e w2 ⟨rfl, rfl⟩
              by_cases hx : tw = r
              · have hb1 : (tw == r) = true := by simp [hx]
                have HZ := Lib.hid (encC_two HC.out HN.out (two_pair (htw.trans hx) r0))
                clear hx htw
                go_wp2
                go_ret2
                exact BytesIs.yes HZ.out (hf3.alloc _)
              · have hb1 : (tw == r) = false := by simp [hx]
                have HMM := Lib.hid (until_more2 (p := fun b => twoI a b ≠ r) HM2.out (by rw [htw]; exact hx))
                clear hx htw
                go_wp2
                exact ⟨⟨k + 1, by rw [Int.natCast_add]; rfl, by omega, HMM.out, hf3⟩, by simp [intOf]; omega⟩
            · have HMM := Lib.hid (until_more3 (p := fun a b => twoI a b ≠ r) HM.out (fun b hb hb2 => HM2.out b hb (by omega)))
              go_wp2
              go_roundw
              case rel =>
                repeat apply Exists.intro
                exact ⟨⟨a + 1, by rw [Int.natCast_add]; rfl, by omega, by omega, HMM.out, hf3⟩, rfl⟩
              case measure => simp [intOf]; omega
        · have HZ : Hid (encC 6 r = none) := encC_none6 HC.out HN.out (pair_none2 fun x y h1 h2 h3 => HM.out x y (by omega) h2 h3)
          go_wp2
          go_ret2
          exact BytesIs.no HZ.out hf2
set_option maxHeartbeats 800000 in
theorem rEnc_any (enc r : Int) (h0 : 0 ≤ enc) (h8 : enc ≤ 8) (hr : -2147483648 ≤ r ∧ r < 2147483648) (w : World) :
    Calls Tryz.prog 22 #[.int .i64 enc, .int .i64 r] w (BytesIs (encC enc r) w) := by
  have k2 : IntKind.i32.wrap r = r := by rw [IntKind.wrap_i32]; omega
  by_cases hc : isC r = true
  · by_cases h5 : enc ≤ 5
    · exact rEnc_low enc r hc h0 h5 w
    by_cases h6 : enc = 6
    · subst h6; exact rEnc_six r hc w
    have h7 : 7 ≤ enc := by omega
    have HZ : Hid (encC enc r = some (encI r)) := by unfold encC; rw [if_pos hc, if_pos h7]; exact rfl
    have HE : Hid (encS r = strOfNums (encI r)) := by unfold encS; rw [if_pos hc]; exact rfl
    have HC := Lib.hid hc
    clear hc h5 h6 hr
    go_enter Tryz.func22, Tryz.ntmps22
    go_wp2_with fail
    refine (refIs_any _ _).mono ?_
    rintro e w1 ⟨rfl, rfl⟩
    rw [HC.out]
    go_wp2_with fail
    refine (refBytes_any _ HC.out _).mono ?_
    rintro e w1 ⟨rfl, h1⟩
    rw [HE.out]
    go_wp2
    go_ret2
    exact BytesIs.yes HZ.out h1
  · have hc2 : isC r = false := by simpa using hc
    have HZ : Hid (encC enc r = none) := by unfold encC; rw [if_neg hc]; exact rfl
    have HC := Lib.hid hc2
    clear hc hc2 hr
    go_enter Tryz.func22, Tryz.ntmps22
    go_wp2_with fail
    refine (refIs_any _ _).mono ?_
    rintro e w1 ⟨rfl, rfl⟩
    rw [HC.out]
    go_wp2
    go_ret2
    exact BytesIs.no HZ.out (Fresh.refl _)
theorem rEnc_str (enc r : Int) (h0 : 0 ≤ enc) (h8 : enc ≤ 8) (hr : -2147483648 ≤ r ∧ r < 2147483648) (w : World) :
    Calls Tryz.prog 22 #[.int .i64 enc, .int .i64 r] w (BytesStr (encC enc r) w) := rEnc_any enc r h0 h8 hr w
end Go.Proofs.YtpmlggjhfiljmaaGreatDoor
