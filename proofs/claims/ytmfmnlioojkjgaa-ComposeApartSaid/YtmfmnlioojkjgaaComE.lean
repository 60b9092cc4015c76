/- The reference's Line, Class, Pair and Split. -/
import Derived.Test.YtmfmnlioojkjgaaComD
namespace Go.Proofs.Ytmfmnlioojkjgaa
open Go.RowKit
set_option linter.unusedVariables false

theorem line_0 (w : World) : Calls Try.prog 26 #[.int .i64 0] w fun e w' => e = .returned (.tuple #[.int .i32 (mkI 0), .string (lsS 0), .string (msS 0)]) ∧ w = w' := by
  go_enter Try.func26, Try.ntmps26
  go_wp2
  go_ret3
  exact ⟨rfl, rfl⟩
theorem line_1 (w : World) : Calls Try.prog 26 #[.int .i64 1] w fun e w' => e = .returned (.tuple #[.int .i32 (mkI 1), .string (lsS 1), .string (msS 1)]) ∧ w = w' := by
  go_enter Try.func26, Try.ntmps26
  go_wp2
  go_ret3
  exact ⟨rfl, rfl⟩
theorem line_2 (w : World) : Calls Try.prog 26 #[.int .i64 2] w fun e w' => e = .returned (.tuple #[.int .i32 (mkI 2), .string (lsS 2), .string (msS 2)]) ∧ w = w' := by
  go_enter Try.func26, Try.ntmps26
  go_wp2
  go_ret3
  exact ⟨rfl, rfl⟩
theorem line_3 (w : World) : Calls Try.prog 26 #[.int .i64 3] w fun e w' => e = .returned (.tuple #[.int .i32 (mkI 3), .string (lsS 3), .string (msS 3)]) ∧ w = w' := by
  go_enter Try.func26, Try.ntmps26
  go_wp2
  go_ret3
  exact ⟨rfl, rfl⟩
theorem line_4 (w : World) : Calls Try.prog 26 #[.int .i64 4] w fun e w' => e = .returned (.tuple #[.int .i32 (mkI 4), .string (lsS 4), .string (msS 4)]) ∧ w = w' := by
  go_enter Try.func26, Try.ntmps26
  go_wp2
  go_ret3
  exact ⟨rfl, rfl⟩
theorem line_5 (w : World) : Calls Try.prog 26 #[.int .i64 5] w fun e w' => e = .returned (.tuple #[.int .i32 (mkI 5), .string (lsS 5), .string (msS 5)]) ∧ w = w' := by
  go_enter Try.func26, Try.ntmps26
  go_wp2
  go_ret3
  exact ⟨rfl, rfl⟩
theorem line_6 (w : World) : Calls Try.prog 26 #[.int .i64 6] w fun e w' => e = .returned (.tuple #[.int .i32 (mkI 6), .string (lsS 6), .string (msS 6)]) ∧ w = w' := by
  go_enter Try.func26, Try.ntmps26
  go_wp2
  go_ret3
  exact ⟨rfl, rfl⟩
theorem line_7 (w : World) : Calls Try.prog 26 #[.int .i64 7] w fun e w' => e = .returned (.tuple #[.int .i32 (mkI 7), .string (lsS 7), .string (msS 7)]) ∧ w = w' := by
  go_enter Try.func26, Try.ntmps26
  go_wp2
  go_ret3
  exact ⟨rfl, rfl⟩
theorem line_8 (w : World) : Calls Try.prog 26 #[.int .i64 8] w fun e w' => e = .returned (.tuple #[.int .i32 (mkI 8), .string (lsS 8), .string (msS 8)]) ∧ w = w' := by
  go_enter Try.func26, Try.ntmps26
  go_wp2
  go_ret3
  exact ⟨rfl, rfl⟩
theorem line_9 (w : World) : Calls Try.prog 26 #[.int .i64 9] w fun e w' => e = .returned (.tuple #[.int .i32 (mkI 9), .string (lsS 9), .string (msS 9)]) ∧ w = w' := by
  go_enter Try.func26, Try.ntmps26
  go_wp2
  go_ret3
  exact ⟨rfl, rfl⟩
theorem line_10 (w : World) : Calls Try.prog 26 #[.int .i64 10] w fun e w' => e = .returned (.tuple #[.int .i32 (mkI 10), .string (lsS 10), .string (msS 10)]) ∧ w = w' := by
  go_enter Try.func26, Try.ntmps26
  go_wp2
  go_ret3
  exact ⟨rfl, rfl⟩
theorem line_11 (w : World) : Calls Try.prog 26 #[.int .i64 11] w fun e w' => e = .returned (.tuple #[.int .i32 (mkI 11), .string (lsS 11), .string (msS 11)]) ∧ w = w' := by
  go_enter Try.func26, Try.ntmps26
  go_wp2
  go_ret3
  exact ⟨rfl, rfl⟩
theorem line_12 (w : World) : Calls Try.prog 26 #[.int .i64 12] w fun e w' => e = .returned (.tuple #[.int .i32 (mkI 12), .string (lsS 12), .string (msS 12)]) ∧ w = w' := by
  go_enter Try.func26, Try.ntmps26
  go_wp2
  go_ret3
  exact ⟨rfl, rfl⟩
theorem line_any {k : Nat} (h : k < 13) (w : World) : Calls Try.prog 26 #[.int .i64 k] w fun e w' => e = .returned (.tuple #[.int .i32 (mkI k), .string (lsS k), .string (msS k)]) ∧ w = w' := by
  match k, h with
  | 0, _ => exact line_0 w
  | 1, _ => exact line_1 w
  | 2, _ => exact line_2 w
  | 3, _ => exact line_3 w
  | 4, _ => exact line_4 w
  | 5, _ => exact line_5 w
  | 6, _ => exact line_6 w
  | 7, _ => exact line_7 w
  | 8, _ => exact line_8 w
  | 9, _ => exact line_9 w
  | 10, _ => exact line_10 w
  | 11, _ => exact line_11 w
  | 12, _ => exact line_12 w

theorem cls_mk {k : Nat} (h : k < 13) : clsI (mkI k) = if k < 11 then 230 else 202 := forK (p := fun k => clsI (mkI k) = if k < 11 then 230 else 202) (by decide +kernel) h
theorem cls_no {r : Int} (h : ∀ k : Nat, k < 13 → mkI k ≠ r) : clsI r = 0 := by
  have h0 := h 0 (by omega); have h1 := h 1 (by omega); have h2 := h 2 (by omega); have h3 := h 3 (by omega); have h4 := h 4 (by omega); have h5 := h 5 (by omega); have h6 := h 6 (by omega)
  have h7 := h 7 (by omega); have h8 := h 8 (by omega); have h9 := h 9 (by omega); have h10 := h 10 (by omega); have h11 := h 11 (by omega); have h12 := h 12 (by omega)
  simp only [mkI] at h0 h1 h2 h3 h4 h5 h6 h7 h8 h9 h10 h11 h12
  unfold clsI
  rw [if_neg (by omega), if_neg (by omega)]
def ClsRel (r : Int) (w : World) (i : Value) (wr : World) : Prop := ∃ k : Nat, i = .int .i64 k ∧ k ≤ 13 ∧ (∀ j : Nat, j < k → mkI j ≠ r) ∧ Fresh w wr
set_option maxHeartbeats 800000 in
theorem refClass_any (r : Int) (w : World) : Calls Try.prog 16 #[.int .i32 r] w fun e w' => e = .returned (.int .i64 (clsI r)) ∧ Fresh w w' := by
  go_enter Try.func16, Try.ntmps16
  go_wp2
  go_loopw [3] (fun i wr => ClsRel r w i wr) (fun i _ => 13 - (intOf i).toNat)
  case atStart => exact ⟨0, rfl, by omega, fun j hj => absurd hj (Nat.not_lt_zero _), Fresh.refl _⟩
  case round =>
    obtain ⟨k, rfl, hk, he, hf⟩ := hrel
    have HE := Lib.hid he
    clear he
    by_cases hlt : k < 13
    · go_wp2_with fail
      refine (line_any hlt _).mono ?_
      rintro e w1 ⟨rfl, rfl⟩
      have hc := cls_mk hlt
      generalize lsS k = L
      generalize msS k = M
      generalize hmk : mkI k = mk at hc
      have HMK := Lib.hid hmk
      have HC := Lib.hid hc
      clear hmk hc
      by_cases hm : mk = r
      · have hb : (mk == r) = true := by simp [hm]
        have HM := Lib.hid hm
        clear hm
        by_cases h11 : k < 11
        · have HZ := Lib.hid (show (230 : Int) = clsI r by rw [← HM.out, HC.out, if_pos h11])
          go_wp2
          go_ret
          exact ⟨ret_int HZ.out, hf⟩
        · have HZ := Lib.hid (show (202 : Int) = clsI r by rw [← HM.out, HC.out, if_neg h11])
          go_wp2
          go_ret
          exact ⟨ret_int HZ.out, hf⟩
      · have hb : (mk == r) = false := by simp [hm]
        have HM := Lib.hid hm
        clear hm
        go_wp2
        refine ⟨⟨k + 1, by rw [Int.natCast_add]; rfl, by omega, fun j hj => ?_, hf⟩, by simp [intOf]; omega⟩
        by_cases hjk : j = k
        · rw [hjk, HMK.out]; exact HM.out
        · exact HE.out j (by omega)
    · have HZ := Lib.hid (show clsI r = 0 from cls_no (fun j hj => HE.out j (by omega)))
      go_wp2
      go_ret
      exact ⟨ret_int HZ.out.symm, hf⟩
def InRel (li : List Int) (a : Int) (W1 : World) (i : Value) (wr : World) : Prop := ∃ k : Nat, i = .int .i64 k ∧ k ≤ li.length ∧ (∀ j : Nat, j < k → li.getD j 0 ≠ a) ∧ Fresh W1 wr
def RefPairPost (a b : Int) (w : World) (e : Ending) (w' : World) : Prop := e = .returned (.int .i32 ((pairI a b).getD 0)) ∧ Fresh w w'
theorem RefPairPost.yes {a b : Int} {w w' : World} {q : Int} (h : pairI a b = some q) (hf : Fresh w w') : RefPairPost a b w (.returned (.int .i32 q)) w' := ⟨by rw [h]; rfl, hf⟩
theorem RefPairPost.no {a b : Int} {w w' : World} (h : pairI a b = none) (hf : Fresh w w') : RefPairPost a b w (.returned (.int .i32 0)) w' := ⟨by rw [h]; rfl, hf⟩
theorem OwnR.sl2 {w : World} {B : Nat} {v : Value} {xs : List Int} (h : OwnR w B v xs) (hx : 0 < xs.length) : ∃ g cap, v = .slice (some ⟨g, 0, none⟩) xs.length cap ∧ g < w.heap.size ∧ ∀ j, j < xs.length → w.cell? ⟨g, j, none⟩ = some (.int .i32 (xs.getD j 0)) := by
  obtain ⟨a, cap, hv, h0 | ⟨b, off, ha, hb, hc⟩⟩ := h.sl
  · subst h0; simp at hx
  · obtain ⟨_, ⟨_, hn⟩ | ⟨g, cap', cur, hv', _⟩⟩ := h
    · omega
    · rw [hv] at hv'
      injection hv' with h1 h2 h3
      subst h1
      injection ha with ha
      injection ha with h4 h5
      subst h4 h5
      exact ⟨g, cap, hv, hb, fun j hj => by have := hc j hj; rwa [show 0 + j = j from by omega] at this⟩
set_option maxHeartbeats 1600000 in
theorem refPair_any (a b : Int) (w : World) (ha : -2147483648 ≤ a ∧ a < 2147483648) (hb : -2147483648 ≤ b ∧ b < 2147483648) :
    Calls Try.prog 12 #[.int .i32 a, .int .i32 b] w (RefPairPost a b w) := by
  go_enter Try.func12, Try.ntmps12
  go_wp2
  go_loopw [5] (fun i wr => PairRel a b w i wr) (fun i _ => 13 - (intOf i).toNat)
  case atStart => exact ⟨0, rfl, by omega, rfl, Fresh.refl _⟩
  case round =>
    obtain ⟨k, rfl, hk, hfind, hf⟩ := hrel
    have HFI := Lib.hid hfind
    clear hfind
    by_cases hlt : k < 13
    · obtain ⟨z1, z2, z3, z4⟩ := ls_size hlt
      go_wp2_with fail
      refine (line_any hlt _).mono ?_
      rintro e w1 ⟨rfl, rfl⟩
      go_wp2_with fail
      refine (refAll_any _ (by omega) _).mono ?_
      rintro e w2 ⟨v2, rfl, ho2, h2⟩
      rw [ls_all hlt]
      go_wp2_with fail
      refine (refAll_any _ (by omega) _).mono ?_
      rintro e w3 ⟨v3, rfl, ho3, h3⟩
      rw [ms_all hlt]
      rw [ls_all hlt] at ho2
      rw [ms_all hlt] at ho3
      replace ho2 : OwnR w3 _ v2 (liI k) := ho2.keep h3
      replace ho3 : OwnR w3 _ v3 (miI k) := ho3
      have hpos : 0 < (liI k).length := forK (p := fun k => 0 < (liI k).length) (by decide +kernel) hlt
      obtain ⟨g2, cap2, rfl, hg2, hcell2⟩ := ho2.sl2 hpos
      obtain ⟨g3, cap3, rfl, hg3, hcell3⟩ := ho3.sl2 (by omega)
      have HR := Lib.hid (show rowT k = ((liI k).zip (miI k)).map fun x => (x.1, mkI k, x.2) from rfl)
      have HNB := Lib.hid (find_row_none (k := k) (a := a) (b := b))
      generalize lsS k = L at z1
      generalize msS k = M at z4
      generalize hmk : mkI k = mk at HR HNB
      have HMK := Lib.hid hmk
      clear ho2 ho3 hmk z1 z4
      generalize liI k = li at z2 z3 HR hcell2 hpos
      generalize miI k = mi at z2 HR hcell3
      have Z2 := Lib.hid z2
      have C2 := Lib.hid hcell2
      have C3 := Lib.hid hcell3
      clear hcell2 hcell3 z2
      have HF : Hid (Fresh w w3) := (hf.trans h2).trans h3
      by_cases hm : mk = b
      · have hmb : (mk == b) = true := by simp [hm]
        have HM := Lib.hid hm
        clear hm
        go_wp2
        go_loopw [13] (fun i wr' => InRel li a w3 i wr') (fun i _ => li.length - (intOf i).toNat)
        case atStart => exact ⟨0, rfl, Nat.zero_le _, fun j hj => absurd hj (Nat.not_lt_zero _), Fresh.refl _⟩
        case round =>
          obtain ⟨i, rfl, hi, he, hf'⟩ := hrel
          have HE := Lib.hid he
          clear he
          by_cases hil : i < li.length
          · have c2 := (Below.cell hf' (p := ⟨g2, i, none⟩) hg2).trans (C2.out i hil)
            have c3 := (Below.cell hf' (p := ⟨g3, i, none⟩) hg3).trans (C3.out i (by have := Z2.out; omega))
            have him : i < mi.length := by have := Z2.out; omega
            generalize hp : li.getD i 0 = p at c2
            generalize hq : mi.getD i 0 = q at c3
            have HP := Lib.hid hp
            have HQ := Lib.hid hq
            clear hp hq
            by_cases hpa : p = a
            · have hb1 : (p == a) = true := by simp [hpa]
              have HPA := Lib.hid hpa
              clear hpa
              go_wp2
              go_ret
              exact RefPairPost.yes (pair_hit hlt HFI.out (by rw [HR.out]; exact hit_row HM.out (by have := Z2.out; omega) hil HE.out (by rw [HP.out, HPA.out])) HQ.out) (HF.out.trans hf')
            · have hb1 : (p == a) = false := by simp [hpa]
              have HPA := Lib.hid hpa
              clear hpa
              go_wp2
              refine ⟨⟨i + 1, by rw [Int.natCast_add]; rfl, by omega, fun j hj => ?_, hf'⟩, by simp [intOf]; omega⟩
              by_cases hji : j = i
              · rw [hji, HP.out]; exact HPA.out
              · exact HE.out j (by omega)
          · go_wp2
            exact ⟨⟨k + 1, by rw [Int.natCast_add]; rfl, by omega, by rw [uptoT_succ, List.find?_append, HFI.out, HR.out, miss_row HM.out (fun j hj => HE.out j (by omega))]; rfl, HF.out.trans hf'⟩, by simp [intOf]; omega⟩
      · have hmb : (mk == b) = false := by simp [hm]
        have HM := Lib.hid hm
        clear hm
        go_wp2
        refine wp_loop_rounds 1 ?_
        rw [rounds_succ]
        go_wp2
        exact ⟨⟨k + 1, by rw [Int.natCast_add]; rfl, by omega, by rw [uptoT_succ, List.find?_append, HFI.out, HNB.out HM.out]; rfl, HF.out⟩, by simp [intOf]; omega⟩
    · have hk13 : k = 13 := by omega
      subst hk13
      have HT := Lib.hid (show pairI a b = hanI a b by unfold pairI T; rw [HFI.out])
      obtain ⟨a1, a2⟩ := ha
      obtain ⟨b1, b2⟩ := hb
      go_wp2
      all_goals
        go_ret
        first
          | exact RefPairPost.no (by rw [HT.out]; unfold hanI; rw [if_neg (by omega), if_neg (by omega)]) hf
          | exact RefPairPost.yes (by rw [HT.out]; unfold hanI; rw [if_pos (by omega)]) hf
          | exact RefPairPost.yes (q := a + (b - 4519)) (by rw [HT.out]; unfold hanI; rw [if_neg (by omega), if_pos (by omega), show a + b - 4520 + 1 = a + (b - 4519) by omega]) hf
set_option maxHeartbeats 1600000 in
theorem refSplit_any (r : Int) (w : World) (hr : -2147483648 ≤ r ∧ r < 2147483648) :
    Calls Try.prog 13 #[.int .i32 r] w (SplitPost r w) := by
  obtain ⟨r1, r2⟩ := hr
  go_enter Try.func13, Try.ntmps13
  go_wp2
  go_loopw [5] (fun i wr => SplitRel r w i wr) (fun i _ => 13 - (intOf i).toNat)
  case atStart => exact ⟨0, rfl, by omega, rfl, Fresh.refl _⟩
  case round =>
    obtain ⟨k, rfl, hk, hfind, hf⟩ := hrel
    have HFI := Lib.hid hfind
    clear hfind
    by_cases hlt : k < 13
    · obtain ⟨z1, z2, z3, z4⟩ := ls_size hlt
      go_wp2_with fail
      refine (line_any hlt _).mono ?_
      rintro e w1 ⟨rfl, rfl⟩
      go_wp2_with fail
      refine (refAll_any _ (by omega) _).mono ?_
      rintro e w2 ⟨v2, rfl, ho2, h2⟩
      rw [ls_all hlt]
      go_wp2_with fail
      refine (refAll_any _ (by omega) _).mono ?_
      rintro e w3 ⟨v3, rfl, ho3, h3⟩
      rw [ms_all hlt]
      rw [ls_all hlt] at ho2
      rw [ms_all hlt] at ho3
      replace ho2 : OwnR w3 _ v2 (liI k) := ho2.keep h3
      replace ho3 : OwnR w3 _ v3 (miI k) := ho3
      have hpos : 0 < (liI k).length := forK (p := fun k => 0 < (liI k).length) (by decide +kernel) hlt
      obtain ⟨g2, cap2, rfl, hg2, hcell2⟩ := ho2.sl2 hpos
      obtain ⟨g3, cap3, rfl, hg3, hcell3⟩ := ho3.sl2 (by omega)
      have HR := Lib.hid (show rowT k = ((liI k).zip (miI k)).map fun x => (x.1, mkI k, x.2) from rfl)
      generalize lsS k = L at z1
      generalize msS k = M at z4
      generalize hmk : mkI k = mk at HR
      clear ho2 ho3 hmk z1 z4
      generalize liI k = li at z2 z3 HR hcell2 hpos
      generalize miI k = mi at z2 HR hcell3
      have Z2 := Lib.hid z2
      have C2 := Lib.hid hcell2
      have C3 := Lib.hid hcell3
      have hmi : mi.length ≤ 24 := by omega
      clear hcell2 hcell3 z2
      have HF : Hid (Fresh w w3) := (hf.trans h2).trans h3
      go_wp2
      go_loopw [13] (fun i wr' => InRel mi r w3 i wr') (fun i _ => mi.length - (intOf i).toNat)
      case atStart => exact ⟨0, rfl, Nat.zero_le _, fun j hj => absurd hj (Nat.not_lt_zero _), Fresh.refl _⟩
      case round =>
        obtain ⟨i, rfl, hi, he, hf'⟩ := hrel
        have HE := Lib.hid he
        clear he
        by_cases him : i < mi.length
        · have hil : i < li.length := by have := Z2.out; omega
          have c2 := (Below.cell hf' (p := ⟨g2, i, none⟩) hg2).trans (C2.out i hil)
          have c3 := (Below.cell hf' (p := ⟨g3, i, none⟩) hg3).trans (C3.out i him)
          generalize hp : li.getD i 0 = p at c2
          generalize hq : mi.getD i 0 = q at c3
          have HP := Lib.hid hp
          have HQ := Lib.hid hq
          clear hp hq
          by_cases hqr : q = r
          · have hb1 : (q == r) = true := by simp [hqr]
            have HQR := Lib.hid hqr
            clear hqr
            go_wp2
            go_ret3
            exact ⟨OptP.yes (by rw [← HP.out]; exact split_hit hlt HFI.out (by rw [HR.out]; exact hit_rowR (by have := Z2.out; omega) him HE.out (by rw [HQ.out, HQR.out]))), HF.out.trans hf'⟩
          · have hb1 : (q == r) = false := by simp [hqr]
            have HQR := Lib.hid hqr
            clear hqr
            go_wp2
            refine ⟨⟨i + 1, by rw [Int.natCast_add]; rfl, by omega, fun j hj => ?_, hf'⟩, by simp [intOf]; omega⟩
            by_cases hji : j = i
            · rw [hji, HQ.out]; exact HQR.out
            · exact HE.out j (by omega)
        · go_wp2
          exact ⟨⟨k + 1, by rw [Int.natCast_add]; rfl, by omega, by rw [uptoT_succ, List.find?_append, HFI.out, HR.out, miss_rowR (fun j hj => HE.out j (by omega))]; rfl, HF.out.trans hf'⟩, by simp [intOf]; omega⟩
    · have hk13 : k = 13 := by omega
      subst hk13
      have HT := Lib.hid (show splitI r = hanS r by unfold splitI T; rw [HFI.out])
      by_cases a1 : 44032 ≤ r ∧ r < 55204
      · have e1 : hanS r = if 0 < (r - 44032) % 28 then some (r - (r - 44032) % 28, 4520 + (r - 44032) % 28 - 1) else some (4352 + (r - 44032) / 588, 4449 + (r - 44032) % 588 / 28) := by unfold hanS; rw [if_pos a1]
        have E1 := Lib.hid e1
        obtain ⟨a1, a2⟩ := a1
        clear e1
        by_cases a3 : 0 < (r - 44032) % 28
        · have E2 := Lib.hid (show splitI r = some (r - (r - 44032) % 28, 4519 + (r - 44032) % 28) by rw [HT.out, E1.out, if_pos a3]; rw [show 4520 + (r - 44032) % 28 - 1 = 4519 + (r - 44032) % 28 by omega])
          go_wp2
          go_ret3
          exact ⟨OptP.yes E2.out, hf⟩
        · have E2 := Lib.hid (show splitI r = some (4352 + (r - 44032) / 588, 4449 + (r - 44032) % 588 / 28) by rw [HT.out, E1.out, if_neg a3])
          go_wp2
          go_ret3
          exact ⟨OptP.yes E2.out, hf⟩
      · have E2 := Lib.hid (show splitI r = none by rw [HT.out]; unfold hanS; rw [if_neg a1])
        by_cases a2 : r < 44032
        · clear a1
          go_wp2
          go_ret3
          exact ⟨OptP.no E2.out, hf⟩
        · have a3 : 55203 < r := by omega
          clear a1
          go_wp2
          go_ret3
          exact ⟨OptP.no E2.out, hf⟩
end Go.Proofs.Ytmfmnlioojkjgaa
