/- The reference's nth, One, Next of layer 2. -/
import Derived.Test.YtakddihadfdkpaaChaF
import Derived.Test.YtakddihadfdkpaaChaG
namespace Go.Proofs.Ytakddihadfdkpaa
open Go.RowKit
set_option linter.unusedVariables false

def NumIs (r : Int) (w : World) (e : Ending) (w' : World) : Prop := e = .returned (.int .i64 r) ∧ Fresh w w'
theorem NumIs.mk {r a : Int} {w w' : World} (h : r = a) (hf : Fresh w w') : NumIs r w (.returned (.int .i64 a)) w' := ⟨by rw [h], hf⟩
theorem OwnR.sl3 {w : World} {B : Nat} {v : Value} {xs : List Int} (h : OwnR w B v xs) (hx : 0 < xs.length) : ∃ g cap, v = .slice (some ⟨g, 0, none⟩) xs.length cap ∧ g < w.heap.size ∧ ∀ j, j < xs.length → w.cell? ⟨g, j, none⟩ = some (.int .i32 (xs.getD j 0)) := by
  obtain ⟨a, cap, hv, h0 | ⟨b, off, ha, hb, hc⟩⟩ := h.sl
  · subst h0; simp at hx
  · obtain ⟨_, ⟨_, hn⟩ | ⟨g, cap', cur, hv', _⟩⟩ := h
    · omega
    · rw [hv] at hv'
      injection hv' with h1 h2 h3
      subst h1
      injection ha with ha
      injection ha with h4 h5
      subst h4 h5
      exact ⟨g, cap, hv, hb, fun j hj => by have := hc j hj; rwa [show 0 + j = j from by omega] at this⟩
set_option maxHeartbeats 400000 in
theorem nth_any (s : ByteArray) (l : List Int) (n : Int) (hl : allFrom s 0 = some l) (hs : s.size ≤ 1000) (hpos : 0 < l.length) (hlen : l.length ≤ 1000) (hn : 0 ≤ n) (hrange : ∀ x ∈ l, 160 ≤ x ∧ x < 65536) (w : World) :
    Calls Try.prog 36 #[.string s, .int .i64 n] w (NumIs (l.getD n.toNat (-1)) w) := by
  have HL := Lib.hid hl
  clear hl
  go_enter Try.func36, Try.ntmps36
  go_wp2_with fail
  refine (refAll_any _ (by omega) _).mono ?_
  rintro e w1 ⟨v, rfl, ho, h1⟩
  rw [HL.out] at ho
  rw [HL.out]
  have ho' : OwnR w1 _ v l := ho
  clear ho
  obtain ⟨g, cap, rfl, hg, hc⟩ := ho'.sl3 hpos
  have HC := Lib.hid hc
  clear hc ho'
  by_cases hlt : n < l.length
  · obtain ⟨k, rfl⟩ := Int.eq_ofNat_of_zero_le hn
    have hk : k < l.length := by omega
    have c1 := HC.out k hk
    have hx := hrange _ (List.getElem_mem hk)
    have e1 : l.getD k 0 = l[k] := by rw [List.getD_eq_getElem?_getD, List.getElem?_eq_getElem hk]; rfl
    have HE : Hid (l.getD (k : Int).toNat (-1) = l[k]) := by
      rw [Int.toNat_natCast, List.getD_eq_getElem?_getD, List.getElem?_eq_getElem hk]; exact rfl
    rw [e1] at c1
    clear e1
    generalize l[k] = q at c1 hx HE
    obtain ⟨x0, x1⟩ := hx
    go_wp2
    go_ret
    exact NumIs.mk HE.out h1
  · have HE : Hid (l.getD n.toNat (-1) = -1) := by
      rw [List.getD_eq_getElem?_getD, List.getElem?_eq_none (by omega)]; exact rfl
    go_wp2
    go_ret
    exact NumIs.mk HE.out h1
set_option maxHeartbeats 800000 in
theorem one_low (enc b : Int) (hb : 0 ≤ b) (hb2 : b < 256) (h : b < 128 ∨ enc = 1 ∨ (enc = 2 ∧ b < 160)) (w : World) :
    Calls Try.prog 20 #[.int .i64 enc, .int .i64 b] w (NumIs (oneI enc b) w) := by
  have HZ : Hid (oneI enc b = b) := by
    unfold oneI
    by_cases h1 : b < 128 ∨ enc = 1
    · rw [if_pos h1]; exact rfl
    · rw [if_neg h1, if_pos (by omega), if_pos (by omega)]; exact rfl
  by_cases h1 : b < 128
  · clear h
    go_enter Try.func20, Try.ntmps20
    go_wp2
    go_ret
    exact NumIs.mk HZ.out (Fresh.refl _)
  · rcases h with h | rfl | ⟨rfl, h2⟩
    · exact absurd h h1
    · go_enter Try.func20, Try.ntmps20
      go_wp2
      go_ret
      exact NumIs.mk HZ.out (Fresh.refl _)
    · go_enter Try.func20, Try.ntmps20
      go_wp2
      go_ret
      exact NumIs.mk HZ.out (Fresh.refl _)
set_option maxHeartbeats 800000 in
set_option maxRecDepth 1000000 in
theorem one_2 (b : Int) (hb : 160 ≤ b) (hb2 : b < 256) (w : World) :
    Calls Try.prog 20 #[.int .i64 2, .int .i64 b] w (NumIs (oneI 2 b) w) := by
  have HZ : Hid (oneI 2 b = L2I.getD (b - 160).toNat (-1)) := by
    unfold oneI; rw [if_neg (by omega)]; rw [if_pos rfl, if_neg (by omega)]; exact rfl
  go_enter Try.func20, Try.ntmps20
  go_wp2_with fail
  refine (nth_any _ L2I (b - 160) ?ha ?hs (by decide) (by decide) (by omega) ?hr _).mono ?_
  case ha => decide +kernel
  case hs => decide +kernel
  case hr => exact row_range 2
  rintro e w1 ⟨rfl, h1⟩
  go_wp2
  go_ret
  exact NumIs.mk HZ.out h1
set_option maxHeartbeats 800000 in
set_option maxRecDepth 1000000 in
theorem one_4 (b : Int) (hb : 128 ≤ b) (hb2 : b < 256) (w : World) :
    Calls Try.prog 20 #[.int .i64 4, .int .i64 b] w (NumIs (oneI 4 b) w) := by
  have HZ : Hid (oneI 4 b = C4I.getD (b - 128).toNat (-1)) := by
    unfold oneI; rw [if_neg (by omega)]; rw [if_neg (by omega)]; rw [if_neg (by omega)]; rw [if_pos rfl]; exact rfl
  go_enter Try.func20, Try.ntmps20
  go_wp2_with fail
  refine (nth_any _ C4I (b - 128) ?ha ?hs (by decide) (by decide) (by omega) ?hr _).mono ?_
  case ha => decide +kernel
  case hs => decide +kernel
  case hr => exact row_range 4
  rintro e w1 ⟨rfl, h1⟩
  go_wp2
  go_ret
  exact NumIs.mk HZ.out h1
set_option maxHeartbeats 800000 in
set_option maxRecDepth 1000000 in
theorem one_5 (b : Int) (hb : 128 ≤ b) (hb2 : b < 256) (w : World) :
    Calls Try.prog 20 #[.int .i64 5, .int .i64 b] w (NumIs (oneI 5 b) w) := by
  have HZ : Hid (oneI 5 b = C8I.getD (b - 128).toNat (-1)) := by
    unfold oneI; rw [if_neg (by omega)]; rw [if_neg (by omega)]; rw [if_neg (by omega)]; rw [if_neg (by omega)]; rw [if_pos rfl]; exact rfl
  go_enter Try.func20, Try.ntmps20
  go_wp2_with fail
  refine (nth_any _ C8I (b - 128) ?ha ?hs (by decide) (by decide) (by omega) ?hr _).mono ?_
  case ha => decide +kernel
  case hs => decide +kernel
  case hr => exact row_range 5
  rintro e w1 ⟨rfl, h1⟩
  go_wp2
  go_ret
  exact NumIs.mk HZ.out h1
set_option maxHeartbeats 1600000 in
theorem one_3 (b : Int) (hb : 128 ≤ b) (hb2 : b < 256) (w : World) :
    Calls Try.prog 20 #[.int .i64 3, .int .i64 b] w (NumIs (oneI 3 b) w) := by
  have i0 : ∀ w, (Instr.index 67 (.agg #[.int .i64 164, .int .i64 166, .int .i64 168, .int .i64 180, .int .i64 184, .int .i64 188, .int .i64 189, .int .i64 190]) (.int .i64 0)).run Try.prog w = .ok (.int .i64 164) w := fun _ => by kernel_rfl
  have j0 : ∀ w, (Instr.index 67 (.agg #[.int .i64 8364, .int .i64 352, .int .i64 353, .int .i64 381, .int .i64 382, .int .i64 338, .int .i64 339, .int .i64 376]) (.int .i64 0)).run Try.prog w = .ok (.int .i64 8364) w := fun _ => by kernel_rfl
  have i1 : ∀ w, (Instr.index 67 (.agg #[.int .i64 164, .int .i64 166, .int .i64 168, .int .i64 180, .int .i64 184, .int .i64 188, .int .i64 189, .int .i64 190]) (.int .i64 1)).run Try.prog w = .ok (.int .i64 166) w := fun _ => by kernel_rfl
  have j1 : ∀ w, (Instr.index 67 (.agg #[.int .i64 8364, .int .i64 352, .int .i64 353, .int .i64 381, .int .i64 382, .int .i64 338, .int .i64 339, .int .i64 376]) (.int .i64 1)).run Try.prog w = .ok (.int .i64 352) w := fun _ => by kernel_rfl
  have i2 : ∀ w, (Instr.index 67 (.agg #[.int .i64 164, .int .i64 166, .int .i64 168, .int .i64 180, .int .i64 184, .int .i64 188, .int .i64 189, .int .i64 190]) (.int .i64 2)).run Try.prog w = .ok (.int .i64 168) w := fun _ => by kernel_rfl
  have j2 : ∀ w, (Instr.index 67 (.agg #[.int .i64 8364, .int .i64 352, .int .i64 353, .int .i64 381, .int .i64 382, .int .i64 338, .int .i64 339, .int .i64 376]) (.int .i64 2)).run Try.prog w = .ok (.int .i64 353) w := fun _ => by kernel_rfl
  have i3 : ∀ w, (Instr.index 67 (.agg #[.int .i64 164, .int .i64 166, .int .i64 168, .int .i64 180, .int .i64 184, .int .i64 188, .int .i64 189, .int .i64 190]) (.int .i64 3)).run Try.prog w = .ok (.int .i64 180) w := fun _ => by kernel_rfl
  have j3 : ∀ w, (Instr.index 67 (.agg #[.int .i64 8364, .int .i64 352, .int .i64 353, .int .i64 381, .int .i64 382, .int .i64 338, .int .i64 339, .int .i64 376]) (.int .i64 3)).run Try.prog w = .ok (.int .i64 381) w := fun _ => by kernel_rfl
  have i4 : ∀ w, (Instr.index 67 (.agg #[.int .i64 164, .int .i64 166, .int .i64 168, .int .i64 180, .int .i64 184, .int .i64 188, .int .i64 189, .int .i64 190]) (.int .i64 4)).run Try.prog w = .ok (.int .i64 184) w := fun _ => by kernel_rfl
  have j4 : ∀ w, (Instr.index 67 (.agg #[.int .i64 8364, .int .i64 352, .int .i64 353, .int .i64 381, .int .i64 382, .int .i64 338, .int .i64 339, .int .i64 376]) (.int .i64 4)).run Try.prog w = .ok (.int .i64 382) w := fun _ => by kernel_rfl
  have i5 : ∀ w, (Instr.index 67 (.agg #[.int .i64 164, .int .i64 166, .int .i64 168, .int .i64 180, .int .i64 184, .int .i64 188, .int .i64 189, .int .i64 190]) (.int .i64 5)).run Try.prog w = .ok (.int .i64 188) w := fun _ => by kernel_rfl
  have j5 : ∀ w, (Instr.index 67 (.agg #[.int .i64 8364, .int .i64 352, .int .i64 353, .int .i64 381, .int .i64 382, .int .i64 338, .int .i64 339, .int .i64 376]) (.int .i64 5)).run Try.prog w = .ok (.int .i64 338) w := fun _ => by kernel_rfl
  have i6 : ∀ w, (Instr.index 67 (.agg #[.int .i64 164, .int .i64 166, .int .i64 168, .int .i64 180, .int .i64 184, .int .i64 188, .int .i64 189, .int .i64 190]) (.int .i64 6)).run Try.prog w = .ok (.int .i64 189) w := fun _ => by kernel_rfl
  have j6 : ∀ w, (Instr.index 67 (.agg #[.int .i64 8364, .int .i64 352, .int .i64 353, .int .i64 381, .int .i64 382, .int .i64 338, .int .i64 339, .int .i64 376]) (.int .i64 6)).run Try.prog w = .ok (.int .i64 339) w := fun _ => by kernel_rfl
  have i7 : ∀ w, (Instr.index 67 (.agg #[.int .i64 164, .int .i64 166, .int .i64 168, .int .i64 180, .int .i64 184, .int .i64 188, .int .i64 189, .int .i64 190]) (.int .i64 7)).run Try.prog w = .ok (.int .i64 190) w := fun _ => by kernel_rfl
  have j7 : ∀ w, (Instr.index 67 (.agg #[.int .i64 8364, .int .i64 352, .int .i64 353, .int .i64 381, .int .i64 382, .int .i64 338, .int .i64 339, .int .i64 376]) (.int .i64 7)).run Try.prog w = .ok (.int .i64 376) w := fun _ => by kernel_rfl
  have hcase : b = 164 ∨ b = 166 ∨ b = 168 ∨ b = 180 ∨ b = 184 ∨ b = 188 ∨ b = 189 ∨ b = 190 ∨ (b ≠ 164 ∧ b ≠ 166 ∧ b ≠ 168 ∧ b ≠ 180 ∧ b ≠ 184 ∧ b ≠ 188 ∧ b ≠ 189 ∧ b ≠ 190) := by omega
  rcases hcase with rfl | rfl | rfl | rfl | rfl | rfl | rfl | rfl | hno
  · go_enter Try.func20, Try.ntmps20
    go_wp2
    refine wp_loop_rounds 9 ?_
    rw [rounds_succ]
    go_wp2
    go_ret
    exact NumIs.mk rfl (Fresh.refl _)
  · go_enter Try.func20, Try.ntmps20
    go_wp2
    refine wp_loop_rounds 9 ?_
    rw [rounds_succ]
    go_wp2
    rw [rounds_succ]
    go_wp2
    go_ret
    exact NumIs.mk rfl (Fresh.refl _)
  · go_enter Try.func20, Try.ntmps20
    go_wp2
    refine wp_loop_rounds 9 ?_
    rw [rounds_succ]
    go_wp2
    rw [rounds_succ]
    go_wp2
    rw [rounds_succ]
    go_wp2
    go_ret
    exact NumIs.mk rfl (Fresh.refl _)
  · go_enter Try.func20, Try.ntmps20
    go_wp2
    refine wp_loop_rounds 9 ?_
    rw [rounds_succ]
    go_wp2
    rw [rounds_succ]
    go_wp2
    rw [rounds_succ]
    go_wp2
    rw [rounds_succ]
    go_wp2
    go_ret
    exact NumIs.mk rfl (Fresh.refl _)
  · go_enter Try.func20, Try.ntmps20
    go_wp2
    refine wp_loop_rounds 9 ?_
    rw [rounds_succ]
    go_wp2
    rw [rounds_succ]
    go_wp2
    rw [rounds_succ]
    go_wp2
    rw [rounds_succ]
    go_wp2
    rw [rounds_succ]
    go_wp2
    go_ret
    exact NumIs.mk rfl (Fresh.refl _)
  · go_enter Try.func20, Try.ntmps20
    go_wp2
    refine wp_loop_rounds 9 ?_
    rw [rounds_succ]
    go_wp2
    rw [rounds_succ]
    go_wp2
    rw [rounds_succ]
    go_wp2
    rw [rounds_succ]
    go_wp2
    rw [rounds_succ]
    go_wp2
    rw [rounds_succ]
    go_wp2
    go_ret
    exact NumIs.mk rfl (Fresh.refl _)
  · go_enter Try.func20, Try.ntmps20
    go_wp2
    refine wp_loop_rounds 9 ?_
    rw [rounds_succ]
    go_wp2
    rw [rounds_succ]
    go_wp2
    rw [rounds_succ]
    go_wp2
    rw [rounds_succ]
    go_wp2
    rw [rounds_succ]
    go_wp2
    rw [rounds_succ]
    go_wp2
    rw [rounds_succ]
    go_wp2
    go_ret
    exact NumIs.mk rfl (Fresh.refl _)
  · go_enter Try.func20, Try.ntmps20
    go_wp2
    refine wp_loop_rounds 9 ?_
    rw [rounds_succ]
    go_wp2
    rw [rounds_succ]
    go_wp2
    rw [rounds_succ]
    go_wp2
    rw [rounds_succ]
    go_wp2
    rw [rounds_succ]
    go_wp2
    rw [rounds_succ]
    go_wp2
    rw [rounds_succ]
    go_wp2
    rw [rounds_succ]
    go_wp2
    go_ret
    exact NumIs.mk rfl (Fresh.refl _)
  · have HZ : Hid (oneI 3 b = b) := by
      unfold oneI euB euR
      rw [if_neg (by omega), if_neg (by omega), if_pos rfl]
      simp only [euI]
      rw [if_neg (by omega)]; rw [if_neg (by omega)]; rw [if_neg (by omega)]; rw [if_neg (by omega)]; rw [if_neg (by omega)]; rw [if_neg (by omega)]; rw [if_neg (by omega)]; rw [if_neg (by omega)]
      exact rfl
    have n0 : (b == 164) = false := by simp; omega
    have n1 : (b == 166) = false := by simp; omega
    have n2 : (b == 168) = false := by simp; omega
    have n3 : (b == 180) = false := by simp; omega
    have n4 : (b == 184) = false := by simp; omega
    have n5 : (b == 188) = false := by simp; omega
    have n6 : (b == 189) = false := by simp; omega
    have n7 : (b == 190) = false := by simp; omega
    clear hno
    go_enter Try.func20, Try.ntmps20
    go_wp2
    refine wp_loop_rounds 9 ?_
    rw [rounds_succ]
    go_wp2
    rw [rounds_succ]
    go_wp2
    rw [rounds_succ]
    go_wp2
    rw [rounds_succ]
    go_wp2
    rw [rounds_succ]
    go_wp2
    rw [rounds_succ]
    go_wp2
    rw [rounds_succ]
    go_wp2
    rw [rounds_succ]
    go_wp2
    rw [rounds_succ]
    go_wp2
    go_ret
    exact NumIs.mk HZ.out (Fresh.refl _)
set_option maxHeartbeats 800000 in
theorem one_6 (b : Int) (hb : 128 ≤ b) (hb2 : b < 256) (w : World) :
    Calls Try.prog 20 #[.int .i64 6, .int .i64 b] w (NumIs (oneI 6 b) w) := by
  have HO : Hid (oneI 6 b = if 161 ≤ b ∧ b ≤ 223 then 65377 + b - 161 else -1) := by
    unfold oneI; rw [if_neg (by omega), if_neg (by omega), if_neg (by omega), if_neg (by omega), if_neg (by omega), if_pos rfl]; exact rfl
  by_cases h : 161 ≤ b ∧ b ≤ 223
  · have HZ := Lib.hid (HO.out.trans (if_pos h))
    obtain ⟨h1, h2⟩ := h
    go_enter Try.func20, Try.ntmps20
    go_wp2
    go_ret
    exact NumIs.mk HZ.out (Fresh.refl _)
  · have HZ := Lib.hid (HO.out.trans (if_neg h))
    have h1 : b < 161 ∨ 223 < b := by omega
    clear h
    rcases h1 with h1 | h1
    all_goals
      go_enter Try.func20, Try.ntmps20
      go_wp2
      go_ret
      exact NumIs.mk HZ.out (Fresh.refl _)
set_option maxHeartbeats 400000 in
theorem one_0 (b : Int) (hb : 128 ≤ b) (hb2 : b < 256) (w : World) :
    Calls Try.prog 20 #[.int .i64 0, .int .i64 b] w (NumIs (oneI 0 b) w) := by
  have HO : Hid (oneI 0 b = -1) := by unfold oneI; rw [if_neg (by omega), if_neg (by omega), if_neg (by omega), if_neg (by omega), if_neg (by omega), if_neg (by omega)]; exact rfl
  go_enter Try.func20, Try.ntmps20
  go_wp2
  go_ret
  exact NumIs.mk HO.out (Fresh.refl _)
theorem one_any (enc b : Int) (h0 : 0 ≤ enc) (h6 : enc ≤ 6) (hb : 0 ≤ b) (hb2 : b < 256) (w : World) :
    Calls Try.prog 20 #[.int .i64 enc, .int .i64 b] w (NumIs (oneI enc b) w) := by
  by_cases h : b < 128 ∨ enc = 1 ∨ (enc = 2 ∧ b < 160)
  · exact one_low enc b hb hb2 h w
  have hc : enc = 0 ∨ enc = 2 ∨ enc = 3 ∨ enc = 4 ∨ enc = 5 ∨ enc = 6 := by omega
  rcases hc with rfl | rfl | rfl | rfl | rfl | rfl
  · exact one_0 b (by omega) hb2 w
  · exact one_2 b (by omega) hb2 w
  · exact one_3 b (by omega) hb2 w
  · exact one_4 b (by omega) hb2 w
  · exact one_5 b (by omega) hb2 w
  · exact one_6 b (by omega) hb2 w
end Go.Proofs.Ytakddihadfdkpaa
