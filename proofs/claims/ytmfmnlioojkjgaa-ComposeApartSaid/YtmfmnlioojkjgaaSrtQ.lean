/- The walk of ComposeSame. -/
import Derived.Test.YtmfmnlioojkjgaaSrtO
namespace Go.Proofs.Ytmfmnlioojkjgaa
open Go.RowKit
set_option linter.unusedVariables false
set_option linter.unnecessarySimpa false
set_option linter.unusedSimpArgs false

theorem sl_two (w : World) (p q : Int) : Sl (w.alloc (.cells #[.int .i32 p, .int .i32 q] 21)) (.slice (some ⟨w.heap.size, 0, none⟩) 2 2) [p, q] := by
  refine ⟨_, 2, rfl, .inr ⟨_, 0, rfl, by simp, fun j hj => ?_⟩⟩
  rw [Nat.zero_add]
  match j, hj with
  | 0, _ => simp
  | 1, _ => simp
  | j + 2, hj => simp at hj; omega
theorem sl_take {w : World} {b o len cap : Nat} {xs : List Int} (hb : b < w.heap.size) (hx : xs.length = len) (hc : ∀ j, j < len → w.cell? ⟨b, o + j, none⟩ = some (.int .i32 (xs.getD j 0))) {k : Nat} (hk : k ≤ len) :
    Sl w (.slice (some ⟨b, o, none⟩) k cap) (xs.take k) := by
  have hl : (xs.take k).length = k := by rw [List.length_take]; omega
  refine ⟨_, cap, by rw [hl], .inr ⟨b, o, rfl, hb, fun j hj => ?_⟩⟩
  rw [hl] at hj
  rw [hc j (by omega)]
  simp [List.getD_eq_getElem?_getD, List.getElem?_take, hj]
theorem sl_drop {w : World} {b o len cap : Nat} {xs : List Int} (hb : b < w.heap.size) (hx : xs.length = len) (hc : ∀ j, j < len → w.cell? ⟨b, o + j, none⟩ = some (.int .i32 (xs.getD j 0))) {k : Nat} (hk : k ≤ len) :
    Sl w (.slice (some ⟨b, o + k, none⟩) (len - k) cap) (xs.drop k) := by
  have hl : (xs.drop k).length = len - k := by rw [List.length_drop, hx]
  refine ⟨_, cap, by rw [hl], .inr ⟨b, o + k, rfl, hb, fun j hj => ?_⟩⟩
  rw [hl] at hj
  rw [Nat.add_assoc, hc (k + j) (by omega)]
  simp [List.getD_eq_getElem?_getD, List.getElem?_drop]
theorem sl_none {w : World} {a : Option Addr} {cap : Nat} {xs : List Int} (h : xs = []) : Sl w (.slice a 0 cap) xs := by subst h; exact ⟨a, cap, rfl, .inl rfl⟩
set_option maxHeartbeats 1600000 in
set_option maxRecDepth 100000 in
theorem same_walk (a : Option Addr) (xs : List Int) (len cap : Nat) (t : Int) (w : World) (hu : Sl w (.slice a len cap) xs) (hx : xs.length = len) (hcap : len ≤ cap) (hx32 : In32 xs) (ht : 0 ≤ t ∧ t < 256) :
    Calls Try.prog 6 #[.slice a len cap, .int .u8 t] w fun e w' => e = .returned (.bool true) ∧ Below w.heap.size w w' := by
  have hu0 := hu
  go_enter Try.func6, Try.ntmps6
  by_cases h1 : 20 < len
  · have h1' : (20 : Int) < (len : Int) := by omega
    go_wp2_with fail
    refine (awake03 _).mono ?_
    rintro e w1 ⟨rfl, hf⟩
    go_wp2_with fail
    refine (awake03 _).mono ?_
    rintro e w2 ⟨rfl, hf2⟩
    go_wp2
    go_ret
    exact ⟨rfl, (hf.trans hf2).below⟩
  have h1' : ¬ (20 : Int) < (len : Int) := by omega
  by_cases h2 : len = 0
  · have h2' : ((len : Int) == 0) = true := by simp [h2]
    go_wp2_with fail
    refine (awake03 _).mono ?_
    rintro e w1 ⟨rfl, hf⟩
    go_wp2_with fail
    refine (awake03 _).mono ?_
    rintro e w2 ⟨rfl, hf2⟩
    go_wp2
    go_ret
    exact ⟨rfl, (hf.trans hf2).below⟩
  have h2' : ((len : Int) == 0) = false := by simp only [beq_eq_false_iff_ne]; omega
  have h2i : ¬ (len : Int) = 0 := by omega
  obtain ⟨a', ca', hsl, hu⟩ := hu
  rcases hu with e | ⟨b1, o1, ha, hb1, hc1⟩
  · rw [e] at hx; simp at hx; omega
  have haa : a = some ⟨b1, o1, none⟩ := by
    injection hsl with q1 q2 q3
    rw [q1, ha]
  subst haa
  clear hsl ha
  rw [hx] at hc1
  obtain ⟨k, hk, hkl⟩ : ∃ k : Nat, Int.tmod t (len : Int) = (k : Int) ∧ k < len := by
    refine ⟨(t % (len : Int)).toNat, ?_, ?_⟩
    · rw [Int.tmod_eq_emod_of_nonneg ht.1, Int.toNat_of_nonneg (Int.emod_nonneg _ h2i)]
    · have := Int.emod_lt_of_pos t (show (0 : Int) < (len : Int) by omega)
      have := Int.emod_nonneg t h2i
      omega
  have c0 := hc1 k hkl
  have hr := in32_getD hx32 (k := k) (by omega)
  have hdec : xs = xs.take k ++ xs.getD k 0 :: xs.drop (k + 1) := by
    have e1 := List.take_append_drop (k + 1) xs
    rw [take_snoc (by omega)] at e1
    simpa using e1.symm
  have HC1 := Lib.hid hc1
  have HDEC := Lib.hid hdec
  generalize hrr : xs.getD k 0 = r at c0 hr HDEC
  obtain ⟨t1, t2⟩ := ht
  clear hc1 hdec hrr
  have k1 : (0 : Int) ≤ (k : Int) := by omega
  have k2 : (k : Int) < (len : Int) := by omega
  cases hs : splitI r with
  | none =>
    have HS := Lib.hid (split_not hs hr)
    clear hs
    go_wp2_with fail
    refine (awake03 _).mono ?_
    rintro e w1 ⟨rfl, hf1⟩
    have c1 := (Below.cell hf1 (p := ⟨b1, o1 + k, none⟩) hb1).trans c0
    go_wp2_with fail
    refine (HS.out _).mono ?_
    rintro e w2 ⟨rfl, hf2⟩
    go_wp2
    go_ret
    exact ⟨rfl, (hf1.trans hf2).below⟩
  | some pq =>
    obtain ⟨p, q⟩ := pq
    have HS := Lib.hid (split_yes hs hr)
    have hpq := splitI_range hs
    have HPQ := Lib.hid hpq
    have HSAME := Lib.hid (fun l1 l2 => apt_same (l1 := l1) (l2 := l2) hs)
    clear hs hpq
    go_wp2_with fail
    refine (awake03 _).mono ?_
    rintro e w1 ⟨rfl, hf1⟩
    have c1 := (Below.cell hf1 (p := ⟨b1, o1 + k, none⟩) hb1).trans c0
    go_wp2_with fail
    refine (HS.out _).mono ?_
    rintro e w2 ⟨rfl, hf2⟩
    have hf12 := hf1.trans hf2
    have hb2 : b1 < w2.heap.size := Nat.lt_of_lt_of_le hb1 hf12.size
    have hcell2 : ∀ j, j < len → w2.cell? ⟨b1, o1 + j, none⟩ = some (.int .i32 (xs.getD j 0)) := fun j hj => (Below.cell hf12 (p := ⟨b1, o1 + j, none⟩) hb1).trans (HC1.out j hj)
    have st := sl_take (cap := cap) hb2 hx hcell2 (k := k) (by omega)
    have sd := sl_drop (cap := cap - (k + 1)) hb2 hx hcell2 (k := k + 1) (by omega)
    clear c0 c1 hcell2
    have hkc : k ≤ cap := by omega
    have hkc1 : k + 1 ≤ cap := by omega
    have hkl1 : k + 1 ≤ len := by omega
    have e0 := OwnR.empty w2 w2.heap.size (Nat.le_refl _)
    have f0 := (Fresh.refl w2).alloc (.cells #[] 21)
    have lt1 : (xs.take k).length ≤ 20 := by rw [List.length_take]; omega
    have lt2 : (xs.drop (k + 1)).length ≤ 20 := by rw [List.length_drop]; omega
    have hin : In32 (xs.take k ++ [p, q] ++ xs.drop (k + 1)) := by
      intro z hz
      have h3 := HPQ.out
      rcases List.mem_append.1 hz with hz | hz
      · rcases List.mem_append.1 hz with hz | hz
        · exact hx32 z (List.mem_of_mem_take hz)
        · simp at hz; omega
      · exact hx32 z (List.mem_of_mem_drop hz)
    have HIN := Lib.hid hin
    have hap : apt xs = apt (xs.take k ++ [p, q] ++ xs.drop (k + 1)) := by
      have e1 := HDEC.out
      have e2 := HSAME.out (xs.take k) (xs.drop (k + 1))
      rw [← e1] at e2
      rw [e2]; simp
    have HAP := Lib.hid hap
    have hlm : (xs.take k ++ [p, q] ++ xs.drop (k + 1)).length ≤ 50 := by rw [List.length_append, List.length_append]; simp only [List.length_cons, List.length_nil]; omega
    have HLM := Lib.hid hlm
    have HX32 := Lib.hid hx32
    clear hin hap hx32 hlm
    have hcc : (cap = k + 1 ∧ len = k + 1) ∨ ¬ cap = k + 1 := by omega
    rcases hcc with ⟨hc8, hc9⟩ | hc9
    · subst hc8 hc9
      have sd2 : Sl w2 (.slice (some ⟨b1, o1, none⟩) 0 0) (xs.drop (k + 1)) := sl_none (List.length_eq_zero_iff.1 (by rw [List.length_drop, hx]; omega))
      clear sd
      go_wp2_with (first
        | (at_builtin; refine wpList_append_sl _ rfl _ _ rfl w2.heap.size _ _ [] (xs.take k) rfl e0 rfl (st.alloc _) (by simp only [List.length_nil]; omega) f0.size ?_; intro v1 w3 ho1 hg1 _; have f1 := OwnR.grew f0 e0 hg1; rw [List.nil_append] at ho1; have st2 := sl_two w3 p q)
        | (at_builtin; refine wpList_append_sl _ rfl _ _ rfl w2.heap.size _ _ (xs.take k) [p, q] rfl (ho1.alloc _) rfl st2 (by simp only [List.length_cons, List.length_nil]; omega) (f1.alloc _).size ?_; intro v2 w4 ho2 hg2 _; have f2 := OwnR.grew (f1.alloc _) (ho1.alloc _) hg2)
        | (at_builtin; refine wpList_append_sl _ rfl _ _ rfl w2.heap.size _ _ (xs.take k ++ [p, q]) (xs.drop (k + 1)) rfl ho2 rfl (sd2.keep f2) (by simp only [List.length_append, List.length_cons, List.length_nil]; omega) f2.size ?_; intro v3 w5 ho3 hg3 _; have f3 := OwnR.grew f2 ho2 hg3))
      have f4 := hf12.trans f3
      have hus := hu0.keep f4
      have hms := ho3.sl
      clear ho1 ho2 ho3 hg1 hg2 hg3 st st2 sd2 e0 f0 f1 f2
      generalize hM : xs.take k ++ [p, q] ++ xs.drop (k + 1) = M at hms HIN HAP HLM
      have hlm := HLM.out
      have l1 := apt_len xs
      have l2 := apt_len M
      rw [hx] at l1
      refine (capt_any _ xs _ hus (by omega) HX32.out).mono ?_
      rintro e w6 ⟨a1, rfl, hoa, g1⟩
      go_wp2_with fail
      refine (capt_any _ M _ (hms.keep g1) (by omega) HIN.out).mono ?_
      rintro e w7 ⟨a2, rfl, hob, g2⟩
      go_wp2_with fail
      refine (same_true HAP.out (refSame_any _ _ _ _ _ (hoa.sl.keep g2) hob.sl (by omega) (by omega))).mono ?_
      rintro e w8 ⟨rfl, g3⟩
      have g123 := (g1.trans g2).trans g3
      go_wp2_with fail
      refine (capt_any _ xs _ (hus.keep g123) (by omega) HX32.out).mono ?_
      rintro e w9 ⟨a3, rfl, hoc, g4⟩
      go_wp2_with fail
      refine (ctog_any _ (apt xs) _ hoc.sl (by omega) (in32_apt HX32.out)).mono ?_
      rintro e w10 ⟨a4, rfl, hod, g5⟩
      have g12345 := (g123.trans g4).trans g5
      go_wp2_with fail
      refine (capt_any _ M _ (hms.keep g12345) (by omega) HIN.out).mono ?_
      rintro e w11 ⟨a5, rfl, hoe, g6⟩
      go_wp2_with fail
      refine (ctog_any _ (apt M) _ hoe.sl (by omega) (in32_apt HIN.out)).mono ?_
      rintro e w12 ⟨a6, rfl, hof, g7⟩
      have t1 := tog_len (apt xs)
      have t2 := tog_len (apt M)
      go_wp2_with fail
      refine (same_true (congrArg tog HAP.out) (refSame_any _ _ _ _ _ ((hod.sl.keep g6).keep g7) hof.sl (by omega) (by omega))).mono ?_
      rintro e w13 ⟨rfl, g8⟩
      go_wp2
      go_ret
      exact ⟨rfl, (f4.trans (((g12345.trans g6).trans g7).trans g8)).below⟩
    · have sd2 := sd
      clear sd
      go_wp2_with (first
        | (at_builtin; refine wpList_append_sl _ rfl _ _ rfl w2.heap.size _ _ [] (xs.take k) rfl e0 rfl (st.alloc _) (by simp only [List.length_nil]; omega) f0.size ?_; intro v1 w3 ho1 hg1 _; have f1 := OwnR.grew f0 e0 hg1; rw [List.nil_append] at ho1; have st2 := sl_two w3 p q)
        | (at_builtin; refine wpList_append_sl _ rfl _ _ rfl w2.heap.size _ _ (xs.take k) [p, q] rfl (ho1.alloc _) rfl st2 (by simp only [List.length_cons, List.length_nil]; omega) (f1.alloc _).size ?_; intro v2 w4 ho2 hg2 _; have f2 := OwnR.grew (f1.alloc _) (ho1.alloc _) hg2)
        | (at_builtin; refine wpList_append_sl _ rfl _ _ rfl w2.heap.size _ _ (xs.take k ++ [p, q]) (xs.drop (k + 1)) rfl ho2 rfl (sd2.keep f2) (by simp only [List.length_append, List.length_cons, List.length_nil]; omega) f2.size ?_; intro v3 w5 ho3 hg3 _; have f3 := OwnR.grew f2 ho2 hg3))
      have f4 := hf12.trans f3
      have hus := hu0.keep f4
      have hms := ho3.sl
      clear ho1 ho2 ho3 hg1 hg2 hg3 st st2 sd2 e0 f0 f1 f2
      generalize hM : xs.take k ++ [p, q] ++ xs.drop (k + 1) = M at hms HIN HAP HLM
      have hlm := HLM.out
      have l1 := apt_len xs
      have l2 := apt_len M
      rw [hx] at l1
      refine (capt_any _ xs _ hus (by omega) HX32.out).mono ?_
      rintro e w6 ⟨a1, rfl, hoa, g1⟩
      go_wp2_with fail
      refine (capt_any _ M _ (hms.keep g1) (by omega) HIN.out).mono ?_
      rintro e w7 ⟨a2, rfl, hob, g2⟩
      go_wp2_with fail
      refine (same_true HAP.out (refSame_any _ _ _ _ _ (hoa.sl.keep g2) hob.sl (by omega) (by omega))).mono ?_
      rintro e w8 ⟨rfl, g3⟩
      have g123 := (g1.trans g2).trans g3
      go_wp2_with fail
      refine (capt_any _ xs _ (hus.keep g123) (by omega) HX32.out).mono ?_
      rintro e w9 ⟨a3, rfl, hoc, g4⟩
      go_wp2_with fail
      refine (ctog_any _ (apt xs) _ hoc.sl (by omega) (in32_apt HX32.out)).mono ?_
      rintro e w10 ⟨a4, rfl, hod, g5⟩
      have g12345 := (g123.trans g4).trans g5
      go_wp2_with fail
      refine (capt_any _ M _ (hms.keep g12345) (by omega) HIN.out).mono ?_
      rintro e w11 ⟨a5, rfl, hoe, g6⟩
      go_wp2_with fail
      refine (ctog_any _ (apt M) _ hoe.sl (by omega) (in32_apt HIN.out)).mono ?_
      rintro e w12 ⟨a6, rfl, hof, g7⟩
      have t1 := tog_len (apt xs)
      have t2 := tog_len (apt M)
      go_wp2_with fail
      refine (same_true (congrArg tog HAP.out) (refSame_any _ _ _ _ _ ((hod.sl.keep g6).keep g7) hof.sl (by omega) (by omega))).mono ?_
      rintro e w13 ⟨rfl, g8⟩
      go_wp2
      go_ret
      exact ⟨rfl, (f4.trans (((g12345.trans g6).trans g7).trans g8)).below⟩
theorem walk_ComposeSame (a : Option Addr) (len cap : Nat) (zs : List Int) (t : Int) (w : World) (h : IsRow .i32 w a len cap zs) (_ : len * 4 ≤ 140737488351232) (ht : (Lit.int .u8 t).wf = true) :
    Calls Try.prog 6 #[.slice a len cap, .int .u8 t] w fun e w' => e = .returned (.bool true) ∧ Below w.heap.size w w' := by
  refine same_walk _ _ _ _ _ w h.sl.1 h.sl.2.1 ?_ h.sl.2.2 ?_
  · rcases h with ⟨rfl, rfl, rfl, rfl⟩ | ⟨x, rfl, hl, _⟩
    · exact Nat.le_refl _
    · exact hl
  · simp [Lit.wf, IntKind.min, IntKind.max, IntKind.bits, IntKind.signed] at ht
    omega
end Go.Proofs.Ytmfmnlioojkjgaa
