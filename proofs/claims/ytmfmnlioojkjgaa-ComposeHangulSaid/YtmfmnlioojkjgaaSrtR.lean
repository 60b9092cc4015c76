/- The walk of ComposeHangul. -/
import Derived.Test.YtmfmnlioojkjgaaSrtQ
namespace Go.Proofs.Ytmfmnlioojkjgaa
open Go.RowKit
set_option linter.unusedVariables false
set_option linter.unnecessarySimpa false
set_option linter.unusedSimpArgs false

theorem han_facts {i j k : Int} (hi : 0 ≤ i ∧ i < 19) (hj : 0 ≤ j ∧ j < 21) (hk : 0 ≤ k ∧ k < 27) :
    ∃ S, 44032 ≤ S ∧ S ≤ 55203 ∧ tog [4352 + i, 4449 + j, 4520 + k] = [S] ∧ apt [S] = [4352 + i, 4449 + j, 4520 + k] ∧ apt [4352 + i, 4449 + j, 4520 + k] = [4352 + i, 4449 + j, 4520 + k] := by
  have p1 : pairI (4352 + i) (4449 + j) = some (44032 + i * 588 + j * 28) := by
    unfold pairI; rw [no_ab (.inl (by omega))]; unfold hanI; simp only; rw [if_pos (by omega)]; congr 1; omega
  have p2 : pairI (44032 + i * 588 + j * 28) (4520 + k) = some (44032 + i * 588 + j * 28 + k + 1) := by
    unfold pairI; rw [no_ab (.inl (by omega))]; unfold hanI; simp only; rw [if_neg (by omega), if_pos (by omega)]; congr 1; omega
  have c1 : clsI (4352 + i) = 0 := cls_big (by omega)
  have c2 : clsI (4449 + j) = 0 := cls_big (by omega)
  have c3 : clsI (4520 + k) = 0 := cls_big (by omega)
  have n1 : splitI (4352 + i) = none := split_no (by omega) (by omega)
  have n2 : splitI (4449 + j) = none := split_no (by omega) (by omega)
  have n3 : splitI (4520 + k) = none := split_no (by omega) (by omega)
  have hnf : Nf [4352 + i, 4449 + j, 4520 + k] := ⟨by omega, by omega, trivial⟩
  have hs : splits (44032 + i * 588 + j * 28 + k + 1) = [4352 + i, 4449 + j, 4520 + k] := by
    rw [splits_some (split_pair p2), splits_some (split_pair p1), splits_none n1]; rfl
  refine ⟨44032 + i * 588 + j * 28 + k + 1, by omega, by omega, ?_, ?_, ?_⟩
  · have m1 : mkO (4352 + i) [] (4449 + j) = some (44032 + i * 588 + j * 28) := by unfold mkO; rw [if_pos (.inl rfl)]; exact p1
    have m2 : mkO (44032 + i * 588 + j * 28) [] (4520 + k) = some (44032 + i * 588 + j * 28 + k + 1) := by unfold mkO; rw [if_pos (.inl rfl)]; exact p2
    show tO (tstep (tstep (tpush [] none [] (4352 + i)) (4449 + j)) (4520 + k)) = _
    have e1 : tpush [] none [] (4352 + i) = ([], some (4352 + i), []) := by unfold tpush; rw [if_pos c1]; rfl
    have e2 : tstep ([], some (4352 + i), []) (4449 + j) = ([], some (44032 + i * 588 + j * 28), []) := by unfold tstep; simp only [m1]
    have e3 : tstep ([], some (44032 + i * 588 + j * 28), []) (4520 + k) = ([], some (44032 + i * 588 + j * 28 + k + 1), []) := by unfold tstep; simp only [m2]
    rw [e1, e2, e3]; rfl
  · unfold apt spl
    rw [List.flatMap_cons, hs]
    exact nf_ord hnf
  · unfold apt
    rw [spl_same (fun x hx => by simp at hx; rcases hx with e | e | e <;> rw [e] <;> assumption)]
    exact nf_ord hnf
theorem sl_three (w : World) (p q r : Int) : Sl (w.alloc (.cells #[.int .i32 p, .int .i32 q, .int .i32 r] 21)) (.slice (some ⟨w.heap.size, 0, none⟩) 3 3) [p, q, r] := by
  refine ⟨_, 3, rfl, .inr ⟨_, 0, rfl, by simp, fun j hj => ?_⟩⟩
  rw [Nat.zero_add]
  match j, hj with
  | 0, _ => simp
  | 1, _ => simp
  | 2, _ => simp
  | j + 3, hj => simp at hj; omega
theorem rem_fact {t n : Int} (ht : 0 ≤ t) (hn : 0 < n) : ∃ i, Int.tmod t n = i ∧ 0 ≤ i ∧ i < n :=
  ⟨_, Int.tmod_eq_emod_of_nonneg ht, Int.emod_nonneg _ (by omega), Int.emod_lt_of_pos _ hn⟩
set_option maxHeartbeats 1600000 in
set_option maxRecDepth 100000 in
theorem hangul_walk (l v t : Int) (w : World) (hl : 0 ≤ l ∧ l < 256) (hv : 0 ≤ v ∧ v < 256) (ht : 0 ≤ t ∧ t < 256) :
    Calls Try.prog 7 #[.int .u8 l, .int .u8 v, .int .u8 t] w fun e w' => e = .returned (.bool true) ∧ Below w.heap.size w w' := by
  obtain ⟨i, ei, hi⟩ := rem_fact (t := l) (n := 19) hl.1 (by omega)
  obtain ⟨j, ej, hj⟩ := rem_fact (t := v) (n := 21) hv.1 (by omega)
  obtain ⟨k, ek, hk⟩ := rem_fact (t := t) (n := 27) ht.1 (by omega)
  have HF := Lib.hid (han_facts hi hj hk)
  obtain ⟨i1, i2⟩ := hi
  obtain ⟨j1, j2⟩ := hj
  obtain ⟨k1, k2⟩ := hk
  obtain ⟨l1, l2⟩ := hl
  obtain ⟨v1, v2⟩ := hv
  obtain ⟨t1, t2⟩ := ht
  go_enter Try.func7, Try.ntmps7
  go_wp2_with fail
  have s0 := sl_three w (4352 + i) (4449 + j) (4520 + k)
  have f0 := (Fresh.refl w).alloc (.cells #[.int .i32 (4352 + i), .int .i32 (4449 + j), .int .i32 (4520 + k)] 21)
  have hin : In32 [4352 + i, 4449 + j, 4520 + k] := fun x hx => by simp at hx; omega
  obtain ⟨S, hS1, hS2, ht, ha, hb⟩ := HF.out
  refine (ctog_any _ _ _ s0 (by simp) hin).mono ?_
  rintro e w1 ⟨x, rfl, ho1, hf1⟩
  rw [ht] at ho1
  have s1 := s0.keep hf1
  generalize hA : [4352 + i, 4449 + j, 4520 + k] = A at s1 hin ha hb
  have hAl : A.length = 3 := by rw [← hA]; rfl
  have hne : apt [S] ≠ [S] := by rw [ha]; intro e; rw [e] at hAl; simp at hAl
  have hin2 : In32 [S] := fun x hx => by simp at hx; omega
  have so := ho1.sl
  obtain ⟨g, cap, rfl, hg, hcell⟩ := ho1.sl2 (by simp)
  have c0 := hcell 0 (by simp)
  simp only [List.length_singleton, List.getD_cons_zero] at so c0
  have f1 := f0.trans hf1
  clear s0 f0 ho1 hcell ht HF hf1 hA ei ej ek
  go_wp2_with fail
  refine (awake03 _).mono ?_
  rintro e w2 ⟨rfl, hf2⟩
  have c1 := (Below.cell hf2 (p := ⟨g, 0, none⟩) hg).trans c0
  have s2 := s1.keep hf2
  have so2 := so.keep hf2
  go_wp2_with fail
  refine (capt_any _ _ _ so2 (by simp) hin2).mono ?_
  rintro e w3 ⟨v1, rfl, ho3, hf3⟩
  rw [ha] at ho3
  go_wp2_with fail
  refine (same_true rfl (refSame_any _ _ A A _ ho3.sl (s2.keep hf3) (by omega) (by omega))).mono ?_
  rintro e w4 ⟨rfl, hf4⟩
  have f4 := hf3.trans hf4
  go_wp2_with fail
  refine (same_true hb (cstable_any _ A _ (s2.keep f4) (by omega) hin)).mono ?_
  rintro e w5 ⟨rfl, hf5⟩
  have f5 := f4.trans hf5
  go_wp2_with fail
  refine (same_false hne (cstable_any _ [S] _ (so2.keep f5) (by simp) hin2)).mono ?_
  rintro e w6 ⟨rfl, hf6⟩
  go_wp2
  go_ret
  exact ⟨rfl, (f1.trans (hf2.trans (f5.trans hf6))).below⟩
theorem wf8 {t : Int} (ht : (Lit.int .u8 t).wf = true) : 0 ≤ t ∧ t < 256 := by
  simp [Lit.wf, IntKind.min, IntKind.max, IntKind.bits, IntKind.signed] at ht
  omega
theorem walk_ComposeHangul (l v t : Int) (w : World) (hl : (Lit.int .u8 l).wf = true) (hv : (Lit.int .u8 v).wf = true) (ht : (Lit.int .u8 t).wf = true) :
    Calls Try.prog 7 #[.int .u8 l, .int .u8 v, .int .u8 t] w fun e w' => e = .returned (.bool true) ∧ Below w.heap.size w w' :=
  hangul_walk l v t w (wf8 hl) (wf8 hv) (wf8 ht)
end Go.Proofs.Ytmfmnlioojkjgaa
