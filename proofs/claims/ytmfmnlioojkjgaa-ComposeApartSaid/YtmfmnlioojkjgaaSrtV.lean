/- The reference's Together. -/
import Derived.Test.YtmfmnlioojkjgaaSrtU
import Derived.StillTailTactics
namespace Go.Proofs.Ytmfmnlioojkjgaa
open Go.RowKit
set_option linter.unusedVariables false
set_option linter.unnecessarySimpa false
set_option linter.unusedSimpArgs false

def Inv0 : TS → Prop
  | (P, none, Q) => P = [] ∧ ∀ y ∈ Q, clsI y ≠ 0
  | (_, some c, Q) => clsI c = 0 ∧ ∀ y ∈ Q, clsI y ≠ 0
theorem inv0_step {s : TS} (h : Inv0 s) (r : Int) : Inv0 (tstep s r) := by
  obtain ⟨P, c, Q⟩ := s
  have push : (∀ y ∈ Q, clsI y ≠ 0) → (clsI r ≠ 0 → Inv0 (P, c, Q ++ [r])) → Inv0 (tpush P c Q r) := fun hQ hh => by
    unfold tpush
    by_cases hr : clsI r = 0
    · rw [if_pos hr]; exact ⟨hr, fun y hy => by simp at hy⟩
    · rw [if_neg hr]; exact hh hr
  have mem : ∀ {Q : List Int} {r : Int}, (∀ y ∈ Q, clsI y ≠ 0) → clsI r ≠ 0 → ∀ y ∈ Q ++ [r], clsI y ≠ 0 := fun hQ hr y hy => by
    rcases List.mem_append.1 hy with hy | hy
    · exact hQ y hy
    · simp at hy; rw [hy]; exact hr
  cases c with
  | none => exact push h.2 fun hr => ⟨h.1, mem h.2 hr⟩
  | some c =>
    cases hm : mkO c Q r with
    | none =>
      have e2 : tstep (P, some c, Q) r = tpush P (some c) Q r := by unfold tstep; simp only [hm]
      rw [e2]; exact push h.2 fun hr => ⟨h.1, mem h.2 hr⟩
    | some x =>
      have e2 : tstep (P, some c, Q) r = (P, some x, Q) := by unfold tstep; simp only [hm]
      rw [e2]
      have hp2 : pairI c r = some x := by
        unfold mkO at hm
        split at hm
        · exact hm
        · cases hm
      exact ⟨(pair_facts hp2).1, h.2⟩
theorem inv0_run (l : List Int) : Inv0 (trun l) := by
  have key : ∀ (m : List Int) (s : TS), Inv0 s → Inv0 (m.foldl tstep s) := by
    intro m
    induction m with
    | nil => intro s h; exact h
    | cons r m ih => intro s h; exact ih _ (inv0_step h r)
  exact key l _ ⟨rfl, fun y hy => by simp at hy⟩
/-- behind the base there are marks alone; at the base there is none -/
theorem base_law {s : TS} (h : Inv0 s) : (∀ j : Nat, tB s < (j : Int) → j < (tO s).length → 0 < clsI ((tO s).getD j 0)) ∧ (∀ j : Nat, tB s = (j : Int) → clsI ((tO s).getD j 0) = 0) ∧ -1 ≤ tB s ∧ tB s < (tO s).length := by
  obtain ⟨P, c, Q⟩ := s
  cases c with
  | none =>
    obtain ⟨hP, hQ⟩ := h
    subst hP
    refine ⟨fun j _ hj => ?_, fun j e => by simp only [tB] at e; omega, by simp only [tB]; omega, by simp only [tB]; omega⟩
    refine cls_pos2 (hQ _ ?_)
    simp only [tO, List.nil_append] at hj ⊢
    rw [List.getD_eq_getElem?_getD, List.getElem?_eq_getElem hj]; simp
  | some c =>
    obtain ⟨hc, hQ⟩ := h
    simp only [tB, tO]
    refine ⟨fun j h1 hj => ?_, fun j e => ?_, by omega, by simp; omega⟩
    · simp at hj
      refine cls_pos2 (hQ _ ?_)
      obtain ⟨i, rfl⟩ : ∃ i, j = P.length + 1 + i := ⟨j - P.length - 1, by omega⟩
      have hi : i < Q.length := by omega
      have : (P ++ c :: Q).getD (P.length + 1 + i) 0 = Q.getD i 0 := by
        rw [List.getD_eq_getElem?_getD, List.getD_eq_getElem?_getD, List.getElem?_append_right (by omega)]
        rw [show P.length + 1 + i - P.length = i + 1 by omega, List.getElem?_cons_succ]
      rw [this, List.getD_eq_getElem?_getD, List.getElem?_eq_getElem hi]; simp
    · have : j = P.length := by omega
      rw [this, getD_at]; exact hc
def RtRel (w : World) (l : List Int) (out i : Value) (wr : World) : Prop := ∃ k : Nat, i = .int .i64 (k : Nat) ∧ k ≤ l.length ∧ OwnR wr w.heap.size out (tO (trun (l.take k))) ∧ Fresh w wr
def RbRel (b : Int) (W1 : World) (n : Nat) (v : Value) (wr : World) : Prop := wr = W1 ∧ ∃ m : Nat, v = .int .i64 ((m : Int) - 1) ∧ m ≤ n ∧ b + 1 ≤ m
theorem rpair_yes {a b x : Int} (h : pairI a b = some x) (ha : -2147483648 ≤ a ∧ a < 2147483648) (hb : -2147483648 ≤ b ∧ b < 2147483648) (w : World) : Calls Try.prog 12 #[.int .i32 a, .int .i32 b] w fun e w' => e = .returned (.int .i32 x) ∧ Fresh w w' :=
  (refPair_any a b w ha hb).mono fun e w' ⟨he, hf⟩ => ⟨by rw [h] at he; exact he, hf⟩
theorem rpair_not {a b : Int} (h : pairI a b = none) (ha : -2147483648 ≤ a ∧ a < 2147483648) (hb : -2147483648 ≤ b ∧ b < 2147483648) (w : World) : Calls Try.prog 12 #[.int .i32 a, .int .i32 b] w fun e w' => e = .returned (.int .i32 0) ∧ Fresh w w' :=
  (refPair_any a b w ha hb).mono fun e w' ⟨he, hf⟩ => ⟨by rw [h] at he; exact he, hf⟩
set_option maxHeartbeats 6400000 in
set_option maxRecDepth 100000 in
theorem rtog_any (u : Value) (l : List Int) (w : World) (hu : Sl w u l) (hl : l.length ≤ 10000) (h32 : In32 l) : Calls Try.prog 22 #[u] w (RunesPost (tog l) w) := by
  obtain ⟨i0, hi0, hz0, hz1, hz2⟩ := info_parts info32
  obtain ⟨a, ca, rfl, hu⟩ := hu
  rcases hu with rfl | ⟨b1, o1, rfl, hb1, hc1⟩
  · go_enter Try.func22, Try.ntmps22
    go_wp2
    refine wp_loop_rounds 1 ?_
    rw [rounds_succ]
    go_wp2
    go_ret
    exact ⟨_, rfl, OwnR.nil _ _, Fresh.refl _⟩
  have H1 := Lib.hid hc1
  clear hc1
  generalize hn : l.length = n at hl H1
  have HN := Lib.hid hn
  clear hn
  go_enter Try.func22, Try.ntmps22
  go_wp2
  go_loopw [3, 4] (fun out i wr => RtRel w l out i wr) (fun _ i _ => n - (intOf i).toNat)
  case atStart => exact ⟨0, rfl, Nat.zero_le _, OwnR.nil _ _, Fresh.refl _⟩
  case round =>
    obtain ⟨k, rfl, hk, hown, hf⟩ := hrel
    have hk' : k ≤ n := by have := HN.out; omega
    clear hk
    by_cases hlt : k < n
    · have c1 : wr.cell? ⟨b1, o1 + k, none⟩ = some (.int .i32 (l.getD k 0)) := (Below.cell hf (p := ⟨b1, o1 + k, none⟩) hb1).trans (H1.out k hlt)
      have hkl : k < l.length := by have := HN.out; omega
      have hr := in32_getD h32 hkl
      have hTS : trun (l.take (k + 1)) = tstep (trun (l.take k)) (l.getD k 0) := by rw [take_snoc hkl, trun_snoc]
      have hlen := trun_len (l.take k)
      rw [List.length_take] at hlen
      have h32s := in32_tog (in32_take h32 k)
      have hbl := base_law (inv0_run (l.take k))
      generalize l.getD k 0 = r at c1 hr hTS
      generalize trun (l.take k) = s at hTS hlen h32s hown hbl ⊢
      have HTS := Lib.hid hTS
      have HBL := Lib.hid hbl
      obtain ⟨ao, cap, rfl, hsl⟩ := hown.sl
      have HSL := Lib.hid hsl
      have HOWN := Lib.hid hown
      have H32S := Lib.hid h32s
      clear hTS hkl hbl hsl hown h32s
      obtain ⟨m, hm⟩ : ∃ m, (tO s).length = m := ⟨_, rfl⟩
      rw [hm] at hlen ⊢
      have HM := Lib.hid hm
      clear hm
      have hmn : m ≤ 10000 := by omega
      have e1 : IntKind.i64.wrap ((m : Int) - 1) = (m : Int) - 1 := by rw [IntKind.wrap_i64]; omega
      go_wp2
      go_loopw [5] (fun v w2 => RbRel (tB s) wr m v w2) (fun v _ => (intOf v + 1).toNat)
      case atStart => exact ⟨rfl, m, rfl, Nat.le_refl _, by have := HBL.out.2.2.2; have := HM.out; omega⟩
      case round =>
        obtain ⟨rfl, q, rfl, hq1, hq2⟩ := hrel
        by_cases hq0 : q = 0
        · subst hq0
          have hneg : tB s = -1 := by have := HBL.out.2.2.1; omega
          obtain ⟨P, c, Q⟩ := s
          cases c with
          | some c => exfalso; simp only [tB] at hneg; omega
          | none =>
            have HST : Hid (tstep (P, none, Q) r = tpush P none Q r) := Lib.hid rfl
            have HLM := HM
            have hd0 : decide ((0 : Int) ≤ -1) = false := rfl
            have hv : (((0 : Nat) : Int) - 1) = -1 := rfl
            rw [hv]
            clear hneg HBL hv
            go_wp2_with fail
            go_quiet ((go_at_call 16; exact Calls.quiet_of_same ((refClass_same _ _).mono fun _ _ ⟨he, hw⟩ => ⟨he, hw.symm⟩)))
            have hfW := hf.drewN nq
            have hown3 := HOWN.out.keep ((Fresh.refl wr).drewN nq)
            unfold OwnR at hown3
            rw [HM.out] at hown3
            go_wp2_with (first | (at_builtin; refine wpList_append_own2 _ rfl _ _ 30 rfl w.heap.size 21 i0 (.int .i32 0) 1 4 Try.underlying30 hi0 hz0 hz1 hz2 rfl (by decide) _ _ _ rfl (hown3.alloc _) ⟨(wr.drewN nq).heap.size, 0, none⟩ 1 1 [.int .i32 r] rfl rfl ?c1 ?c2 ?c3 ?c4 ?c5 ?_))
            case c1 => exact cell_new1 _ _ _
            case c2 => intro u hu; simp at hu; subst hu; rfl
            case c3 => unfold maxLen; omega
            case c4 => omega
            case c5 => have := hfW.size; simp at this ⊢; omega
            intro v' w' hown' hgrow hblk
            have hf' := OwnR.fresh hfW hown3 hgrow
            have hn' : OwnR w' w.heap.size v' (tO (tpush P none Q r)) := by
              rw [tO_push]
              refine OwnR.push ?_
              have := hown'
              rw [HLM.out]
              simpa [tO] using this
            have HP := Lib.hid hn'
            clear hown' hgrow hblk hn' hown3
            go_wp2
            go_roundw
            case rel => exact ⟨k + 1, by rw [Int.natCast_add]; rfl, by have := HN.out; omega, by rw [HTS.out, HST.out]; exact HP.out, hf'⟩
            case measure => simp [intOf]; omega
        · obtain ⟨j, rfl⟩ : ∃ j, q = j + 1 := ⟨q - 1, by omega⟩
          have hv : (((j + 1 : Nat) : Int) - 1) = (j : Int) := by omega
          rw [hv]
          have hjm : j < m := by omega
          obtain ⟨g, cp, hsv, hgw, hcell⟩ := HOWN.out.sl2 (by rw [HM.out]; omega)
          rw [HM.out] at hsv hcell
          injection hsv with hs1 hs2 hs3
          subst hs1 hs3
          have cj := hcell j hjm
          have HCELL := Lib.hid hcell
          generalize hcj : (tO s).getD j 0 = cc at cj
          have HCJ := Lib.hid hcj
          have i1 : (0 : Int) ≤ (j : Int) := by omega
          have i2 : (j : Int) < (m : Int) := by omega
          clear hcell hs2 hv hcj hq0
          by_cases hpos : 0 < clsI cc
          · have hd1 : decide (0 < clsI cc) = true := decide_eq_true hpos
            have hne : ¬ tB s = (j : Int) := fun e => by have := HBL.out.2.1 j e; rw [HCJ.out] at this; omega
            have e7 : IntKind.i64.wrap ((j : Int) - 1) = (j : Int) - 1 := by rw [IntKind.wrap_i64]; omega
            go_wp2_with ((go_at_call 16; refine (refClass_same _ _).mono ?_; rintro e w1 ⟨rfl, rfl⟩))
            exact ⟨⟨rfl, j, rfl, by omega, by omega⟩, by simp [intOf]⟩
          · have hd1 : decide (0 < clsI cc) = false := decide_eq_false hpos
            have htb : tB s = (j : Int) := by
              have h1 := HBL.out.1 j
              rw [HCJ.out, HM.out] at h1
              rcases Int.lt_or_le (tB s) (j : Int) with h | h
              · exact absurd (h1 h hjm) hpos
              · omega
            obtain ⟨P, c, Q⟩ := s
            cases c with
            | none => exfalso; simp only [tB] at htb; omega
            | some c =>
              have hpj : P.length = j := by simp only [tB] at htb; omega
              have hcc : cc = c := by rw [← HCJ.out, ← hpj]; exact getD_at P Q c
              subst hcc
              have hc32 := H32S.out cc (by show cc ∈ P ++ cc :: Q; simp)
              have hml : m = j + 1 + Q.length := by rw [← HM.out, ← hpj]; simp [tO]; omega
              have HPJ := Lib.hid hpj
              clear htb hpj HCJ HBL H32S hq1 hq2
              have hfz : wr.frozen? ⟨g, j, none⟩ = false := own_frozen HOWN.out rfl j
              obtain ⟨M, hM⟩ : ∃ M, m = M + 1 := ⟨m - 1, by omega⟩
              subst hM
              have e8 : IntKind.i64.wrap (((M + 1 : Nat) : Int) - 1) = (M : Int) := by rw [IntKind.wrap_i64]; omega
              have e9 : IntKind.i64.wrap ((M : Int) + 1 - 1) = (M : Int) := by rw [IntKind.wrap_i64]; omega
              have i3 : (M : Int) < ((M + 1 : Nat) : Int) := by omega
              have i4 : (M : Int) < (M : Int) + 1 := by omega
              have i5 : (0 : Int) ≤ (M : Int) := by omega
              have i6 : (j : Int) < (M : Int) + 1 := by omega
              have i7 : (0 : Int) ≤ (k : Int) := by omega
              have i8 : (k : Int) < (n : Int) := by omega
              have HLM := HM
              by_cases hQ : Q = []
              · subst hQ
                have hMj : M = j := by simp at hml; omega
                subst hMj
                have hbe : ((M : Int) == (M : Int)) = true := by simp
                have HCAN := Lib.hid (show mkO cc [] r = pairI cc r by unfold mkO; rw [if_pos (.inl rfl)])
                clear hml
                cases hpr : pairI cc r with
                | some x =>
                  have HPR := Lib.hid (rpair_yes hpr hc32 hr)
                  have hx0 := pairI_pos hpr
                  have HST : Hid (tstep (P, some cc, []) r = (P, some x, [])) := Lib.hid (by unfold tstep; simp only [HCAN.out, hpr])
                  have hxp : (0 : Int) < x := hx0.1
                  clear hpr hx0
                  go_wp2_with ((go_at_call 16; refine (refClass_same _ _).mono ?_; rintro e w1 ⟨rfl, rfl⟩))
                  go_quiet ((go_at_call 16; exact Calls.quiet_of_same ((refClass_same _ _).mono fun _ _ ⟨he, hw⟩ => ⟨he, hw.symm⟩)))
                  go_wp2
                  have fq := ((Fresh.refl wr).drewN nq).drew
                  have cA := (Below.cell fq (p := ⟨g, M, none⟩) hgw).trans cj
                  have cB := (Below.cell fq (p := ⟨b1, o1 + k, none⟩) (Nat.lt_of_lt_of_le hb1 hf.size)).trans c1
                  have cC := (Below.frozen fq (p := ⟨g, M, none⟩) hgw).trans hfz
                  refine wp_region_still_tail 8 (by kernel_rfl) (by kernel_rfl) ?_
                  simp only [List.take_succ_cons, List.take_zero, List.drop_succ_cons, List.drop_zero]
                  change wpStill Try.prog _ (wr.drewN nq).drew (fun a' => wpList Try.prog _ _ _ a' (wr.drewN nq).drew) _ _
                  generalize (wr.drewN nq).drew = w4 at fq cA cB cC ⊢
                  repeat still_step
                  try refine wpStill_nil ?_
                  go_wp2_with fail
                  refine (HPR.out _).mono ?_
                  rintro e w5 ⟨rfl, hf5⟩
                  have g1 := fq.trans hf5
                  have hfW := hf.trans g1
                  have hown5 := HOWN.out.keep g1
                  have hs5 := hown5.sl
                  rw [HLM.out] at hs5
                  have e5 := OwnR.empty w5 w5.heap.size (Nat.le_refl _)
                  have f5 := (Fresh.refl w5).alloc (.cells #[] 21)
                  go_wp2_with (first
                    | (at_builtin; refine wpList_append_sl _ rfl _ _ rfl w5.heap.size _ _ [] (tO (P, some cc, [])) rfl e5 rfl (hs5.alloc _) (by rw [HLM.out]; simp only [List.length_nil]; omega) f5.size ?_; intro v1 w6 ho1 hg1 _; have f6 := OwnR.grew f5 e5 hg1; rw [List.nil_append] at ho1; obtain ⟨g6, cap6, rfl, hbg6, hg6, hcap6, hc6⟩ := own_parts ho1 (by rw [HLM.out]; omega); have cX := hc6 M (by rw [HLM.out]; omega); have fX := own_frozen ho1 rfl M; rw [HLM.out]))
                  rw [HLM.out] at ho1
                  have hown7 := (own_set (P := P) (c := cc) (Q := []) (x := x) ho1 HLM.out).base hfW.size
                  rw [HPJ.out] at hown7
                  have hf7 := (hfW.trans f6).setCell (p := ⟨g6, M, none⟩) (Nat.le_trans hfW.size hbg6) (.int .i32 x)
                  refine ⟨⟨k + 1, congrArg (Value.int .i64) (by omega), by have := HN.out; omega, by rw [HTS.out, HST.out]; exact hown7, hf7⟩, ?_⟩
                  simp [intOf]; omega
                | none =>
                  have HPR := Lib.hid (rpair_not hpr hc32 hr)
                  have HST : Hid (tstep (P, some cc, []) r = tpush P (some cc) [] r) := Lib.hid (by unfold tstep; simp only [HCAN.out, hpr])
                  clear hpr
                  go_wp2_with ((go_at_call 16; refine (refClass_same _ _).mono ?_; rintro e w1 ⟨rfl, rfl⟩))
                  go_quiet ((go_at_call 16; exact Calls.quiet_of_same ((refClass_same _ _).mono fun _ _ ⟨he, hw⟩ => ⟨he, hw.symm⟩)))
                  go_wp2
                  have fq := ((Fresh.refl wr).drewN nq).drew
                  have cA := (Below.cell fq (p := ⟨g, M, none⟩) hgw).trans cj
                  have cB := (Below.cell fq (p := ⟨b1, o1 + k, none⟩) (Nat.lt_of_lt_of_le hb1 hf.size)).trans c1
                  have cC := (Below.frozen fq (p := ⟨g, M, none⟩) hgw).trans hfz
                  refine wp_region_still_tail 8 (by kernel_rfl) (by kernel_rfl) ?_
                  simp only [List.take_succ_cons, List.take_zero, List.drop_succ_cons, List.drop_zero]
                  change wpStill Try.prog _ (wr.drewN nq).drew (fun a' => wpList Try.prog _ _ _ a' (wr.drewN nq).drew) _ _
                  generalize (wr.drewN nq).drew = w4 at fq cA cB cC ⊢
                  repeat still_step
                  try refine wpStill_nil ?_
                  go_wp2_with fail
                  refine (HPR.out _).mono ?_
                  rintro e w5 ⟨rfl, hf5⟩
                  have g1 := fq.trans hf5
                  have hfW := hf.trans g1
                  have cl := (Below.cell g1 (p := ⟨b1, o1 + k, none⟩) (Nat.lt_of_lt_of_le hb1 hf.size)).trans c1
                  have hown3 := HOWN.out.keep g1
                  unfold OwnR at hown3
                  rw [HM.out] at hown3
                  go_wp2_with (first | (at_builtin; refine wpList_append_own2 _ rfl _ _ 30 rfl w.heap.size 21 i0 (.int .i32 0) 1 4 Try.underlying30 hi0 hz0 hz1 hz2 rfl (by decide) _ _ _ rfl (hown3.alloc _) ⟨w5.heap.size, 0, none⟩ 1 1 [.int .i32 r] rfl rfl ?c1 ?c2 ?c3 ?c4 ?c5 ?_))
                  case c1 => exact cell_new1 _ _ _
                  case c2 => intro u hu; simp at hu; subst hu; rfl
                  case c3 => unfold maxLen; omega
                  case c4 => omega
                  case c5 => have := hfW.size; simp at this ⊢; omega
                  intro v' w' hown' hgrow hblk
                  have hf' := OwnR.fresh hfW hown3 hgrow
                  have hn' : OwnR w' w.heap.size v' (tO (tpush P (some cc) [] r)) := by
                    rw [tO_push]
                    refine OwnR.push ?_
                    have := hown'
                    rw [HLM.out]
                    simpa [tO] using this
                  have HP := Lib.hid hn'
                  clear hown' hgrow hblk hn' hown3
                  go_wp2
                  go_roundw
                  case rel => exact ⟨k + 1, by rw [Int.natCast_add]; rfl, by have := HN.out; omega, by rw [HTS.out, HST.out]; exact HP.out, hf'⟩
                  case measure => simp [intOf]; omega
              · have hQ1 : 1 ≤ Q.length := List.length_pos_iff.2 hQ
                have cm := HCELL.out M (by omega)
                have hgl : (tO (P, some cc, Q)).getD M 0 = Q.getLastD 0 := by
                  have := getD_last P Q cc hQ
                  rw [HPJ.out, show j + Q.length = M by omega] at this
                  exact this
                rw [hgl] at cm
                have hbe : ((j : Int) == (M : Int)) = false := by simp only [beq_eq_false_iff_ne]; omega
                generalize hql : Q.getLastD 0 = ql at cm
                have HQL := Lib.hid hql
                have hjM : j < M := by omega
                clear hql hgl hml hQ1
                by_cases hcan : clsI ql < clsI r
                · have hd2 : decide (clsI ql < clsI r) = true := decide_eq_true hcan
                  have HCAN := Lib.hid (show mkO cc Q r = pairI cc r by unfold mkO; rw [if_pos (.inr (by rw [HQL.out]; exact hcan))])
                  cases hpr : pairI cc r with
                  | some x =>
                    have HPR := Lib.hid (rpair_yes hpr hc32 hr)
                    have hx0 := pairI_pos hpr
                    have HST : Hid (tstep (P, some cc, Q) r = (P, some x, Q)) := Lib.hid (by unfold tstep; simp only [HCAN.out, hpr])
                    have hxp : (0 : Int) < x := hx0.1
                    clear hpr hx0
                    go_wp2_with ((go_at_call 16; refine (refClass_same _ _).mono ?_; rintro e w1 ⟨rfl, rfl⟩))
                    go_quiet ((go_at_call 16; exact Calls.quiet_of_same ((refClass_same _ _).mono fun _ _ ⟨he, hw⟩ => ⟨he, hw.symm⟩)))
                    go_wp2
                    have fq := ((Fresh.refl wr).drewN nq).drew
                    have cA := (Below.cell fq (p := ⟨g, j, none⟩) hgw).trans cj
                    have cB := (Below.cell fq (p := ⟨b1, o1 + k, none⟩) (Nat.lt_of_lt_of_le hb1 hf.size)).trans c1
                    have cC := (Below.frozen fq (p := ⟨g, j, none⟩) hgw).trans hfz
                    refine wp_region_still_tail 8 (by kernel_rfl) (by kernel_rfl) ?_
                    simp only [List.take_succ_cons, List.take_zero, List.drop_succ_cons, List.drop_zero]
                    change wpStill Try.prog _ (wr.drewN nq).drew (fun a' => wpList Try.prog _ _ _ a' (wr.drewN nq).drew) _ _
                    generalize (wr.drewN nq).drew = w4 at fq cA cB cC ⊢
                    repeat still_step
                    try refine wpStill_nil ?_
                    go_wp2_with fail
                    refine (HPR.out _).mono ?_
                    rintro e w5 ⟨rfl, hf5⟩
                    have g1 := fq.trans hf5
                    have hfW := hf.trans g1
                    have hown5 := HOWN.out.keep g1
                    have hs5 := hown5.sl
                    rw [HLM.out] at hs5
                    have e5 := OwnR.empty w5 w5.heap.size (Nat.le_refl _)
                    have f5 := (Fresh.refl w5).alloc (.cells #[] 21)
                    go_wp2_with (first
                      | (at_builtin; refine wpList_append_sl _ rfl _ _ rfl w5.heap.size _ _ [] (tO (P, some cc, Q)) rfl e5 rfl (hs5.alloc _) (by rw [HLM.out]; simp only [List.length_nil]; omega) f5.size ?_; intro v1 w6 ho1 hg1 _; have f6 := OwnR.grew f5 e5 hg1; rw [List.nil_append] at ho1; obtain ⟨g6, cap6, rfl, hbg6, hg6, hcap6, hc6⟩ := own_parts ho1 (by rw [HLM.out]; omega); have cX := hc6 j (by rw [HLM.out]; omega); have fX := own_frozen ho1 rfl j; rw [HLM.out]))
                    rw [HLM.out] at ho1
                    have hown7 := (own_set (P := P) (c := cc) (Q := Q) (x := x) ho1 HLM.out).base hfW.size
                    rw [HPJ.out] at hown7
                    have hf7 := (hfW.trans f6).setCell (p := ⟨g6, j, none⟩) (Nat.le_trans hfW.size hbg6) (.int .i32 x)
                    refine ⟨⟨k + 1, congrArg (Value.int .i64) (by omega), by have := HN.out; omega, by rw [HTS.out, HST.out]; exact hown7, hf7⟩, ?_⟩
                    simp [intOf]; omega
                  | none =>
                    have HPR := Lib.hid (rpair_not hpr hc32 hr)
                    have HST : Hid (tstep (P, some cc, Q) r = tpush P (some cc) Q r) := Lib.hid (by unfold tstep; simp only [HCAN.out, hpr])
                    clear hpr
                    go_wp2_with ((go_at_call 16; refine (refClass_same _ _).mono ?_; rintro e w1 ⟨rfl, rfl⟩))
                    go_quiet ((go_at_call 16; exact Calls.quiet_of_same ((refClass_same _ _).mono fun _ _ ⟨he, hw⟩ => ⟨he, hw.symm⟩)))
                    go_wp2
                    have fq := ((Fresh.refl wr).drewN nq).drew
                    have cA := (Below.cell fq (p := ⟨g, j, none⟩) hgw).trans cj
                    have cB := (Below.cell fq (p := ⟨b1, o1 + k, none⟩) (Nat.lt_of_lt_of_le hb1 hf.size)).trans c1
                    have cC := (Below.frozen fq (p := ⟨g, j, none⟩) hgw).trans hfz
                    refine wp_region_still_tail 8 (by kernel_rfl) (by kernel_rfl) ?_
                    simp only [List.take_succ_cons, List.take_zero, List.drop_succ_cons, List.drop_zero]
                    change wpStill Try.prog _ (wr.drewN nq).drew (fun a' => wpList Try.prog _ _ _ a' (wr.drewN nq).drew) _ _
                    generalize (wr.drewN nq).drew = w4 at fq cA cB cC ⊢
                    repeat still_step
                    try refine wpStill_nil ?_
                    go_wp2_with fail
                    refine (HPR.out _).mono ?_
                    rintro e w5 ⟨rfl, hf5⟩
                    have g1 := fq.trans hf5
                    have hfW := hf.trans g1
                    have cl := (Below.cell g1 (p := ⟨b1, o1 + k, none⟩) (Nat.lt_of_lt_of_le hb1 hf.size)).trans c1
                    have hown3 := HOWN.out.keep g1
                    unfold OwnR at hown3
                    rw [HM.out] at hown3
                    go_wp2_with (first | (at_builtin; refine wpList_append_own2 _ rfl _ _ 30 rfl w.heap.size 21 i0 (.int .i32 0) 1 4 Try.underlying30 hi0 hz0 hz1 hz2 rfl (by decide) _ _ _ rfl (hown3.alloc _) ⟨w5.heap.size, 0, none⟩ 1 1 [.int .i32 r] rfl rfl ?c1 ?c2 ?c3 ?c4 ?c5 ?_))
                    case c1 => exact cell_new1 _ _ _
                    case c2 => intro u hu; simp at hu; subst hu; rfl
                    case c3 => unfold maxLen; omega
                    case c4 => omega
                    case c5 => have := hfW.size; simp at this ⊢; omega
                    intro v' w' hown' hgrow hblk
                    have hf' := OwnR.fresh hfW hown3 hgrow
                    have hn' : OwnR w' w.heap.size v' (tO (tpush P (some cc) Q r)) := by
                      rw [tO_push]
                      refine OwnR.push ?_
                      have := hown'
                      rw [HLM.out]
                      simpa [tO] using this
                    have HP := Lib.hid hn'
                    clear hown' hgrow hblk hn' hown3
                    go_wp2
                    go_roundw
                    case rel => exact ⟨k + 1, by rw [Int.natCast_add]; rfl, by have := HN.out; omega, by rw [HTS.out, HST.out]; exact HP.out, hf'⟩
                    case measure => simp [intOf]; omega
                · have hd2 : decide (clsI ql < clsI r) = false := decide_eq_false hcan
                  have hno : mkO cc Q r = none := by unfold mkO; rw [if_neg]; rintro (e | e); exact hQ e; rw [HQL.out] at e; exact hcan e
                  have HST : Hid (tstep (P, some cc, Q) r = tpush P (some cc) Q r) := Lib.hid (by unfold tstep; simp only [hno])
                  clear hno hcan
                  go_wp2_with ((go_at_call 16; refine (refClass_same _ _).mono ?_; rintro e w1 ⟨rfl, rfl⟩))
                  go_quiet ((go_at_call 16; exact Calls.quiet_of_same ((refClass_same _ _).mono fun _ _ ⟨he, hw⟩ => ⟨he, hw.symm⟩)))
                  have hfW := hf.drewN nq
                  have hown3 := HOWN.out.keep ((Fresh.refl wr).drewN nq)
                  unfold OwnR at hown3
                  rw [HM.out] at hown3
                  go_wp2_with (first | (at_builtin; refine wpList_append_own2 _ rfl _ _ 30 rfl w.heap.size 21 i0 (.int .i32 0) 1 4 Try.underlying30 hi0 hz0 hz1 hz2 rfl (by decide) _ _ _ rfl (hown3.alloc _) ⟨(wr.drewN nq).heap.size, 0, none⟩ 1 1 [.int .i32 r] rfl rfl ?c1 ?c2 ?c3 ?c4 ?c5 ?_))
                  case c1 => exact cell_new1 _ _ _
                  case c2 => intro u hu; simp at hu; subst hu; rfl
                  case c3 => unfold maxLen; omega
                  case c4 => omega
                  case c5 => have := hfW.size; simp at this ⊢; omega
                  intro v' w' hown' hgrow hblk
                  have hf' := OwnR.fresh hfW hown3 hgrow
                  have hn' : OwnR w' w.heap.size v' (tO (tpush P (some cc) Q r)) := by
                    rw [tO_push]
                    refine OwnR.push ?_
                    have := hown'
                    rw [HLM.out]
                    simpa [tO] using this
                  have HP := Lib.hid hn'
                  clear hown' hgrow hblk hn' hown3
                  go_wp2
                  go_roundw
                  case rel => exact ⟨k + 1, by rw [Int.natCast_add]; rfl, by have := HN.out; omega, by rw [HTS.out, HST.out]; exact HP.out, hf'⟩
                  case measure => simp [intOf]; omega
    · have hkn : k = n := by omega
      rw [hkn, ← HN.out, List.take_length] at hown
      obtain ⟨ao, cap, rfl, _⟩ := hown.sl
      have HO := Lib.hid hown
      clear hown
      go_wp2
      go_ret
      exact ⟨_, rfl, HO.out, hf⟩
end Go.Proofs.Ytmfmnlioojkjgaa
