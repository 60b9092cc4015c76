/- The walk of ComposeApart. -/
import Derived.Test.YtmfmnlioojkjgaaSrtV
namespace Go.Proofs.Ytmfmnlioojkjgaa
open Go.RowKit
set_option linter.unusedVariables false
set_option linter.unnecessarySimpa false
set_option linter.unusedSimpArgs false

set_option maxHeartbeats 1600000 in
set_option maxRecDepth 100000 in
theorem apart_walk (u : Value) (xs : List Int) (w : World) (hu : Sl w u xs) (hx32 : In32 xs) :
    Calls Try.prog 8 #[u] w fun e w' => e = .returned (.bool true) ∧ Below w.heap.size w w' := by
  have hu0 := hu
  obtain ⟨a, ca, rfl, hu⟩ := hu
  go_enter Try.func8, Try.ntmps8
  by_cases h1 : 40 < xs.length
  · have h1' : (40 : Int) < (xs.length : Int) := by omega
    go_wp2_with fail
    refine (awake03 _).mono ?_
    rintro e w1 ⟨rfl, hf⟩
    go_wp2_with fail
    refine (awake03 _).mono ?_
    rintro e w2 ⟨rfl, hf2⟩
    go_wp2
    go_ret
    exact ⟨rfl, (hf.trans hf2).below⟩
  have h1' : ¬ (40 : Int) < (xs.length : Int) := by omega
  have l1 := apt_len xs
  have l2 := tog_len xs
  go_wp2_with fail
  refine (awake03 _).mono ?_
  rintro e w1 ⟨rfl, hf1⟩
  have s1 := hu0.keep hf1
  have e0 := OwnR.empty w1 w1.heap.size (Nat.le_refl _)
  have f0 := (Fresh.refl w1).alloc (.cells #[] 21)
  go_wp2_with (first
    | (at_builtin; refine wpList_append_sl _ rfl _ _ rfl w1.heap.size _ _ [] xs rfl e0 rfl (s1.alloc _) (by simp only [List.length_nil]; omega) f0.size ?_; intro v1 w2 ho1 hg1 _; have f1 := OwnR.grew f0 e0 hg1; rw [List.nil_append] at ho1; have s2 := s1.keep f1))
  have was2 := ho1.sl
  clear ho1 hg1 e0 f0
  refine (capt_any _ xs _ s2 (by omega) hx32).mono ?_
  rintro e w3 ⟨va, rfl, hoa, f3⟩
  have s3 := s2.keep f3
  go_wp2_with fail
  refine (ctog_any _ xs _ s3 (by omega) hx32).mono ?_
  rintro e w4 ⟨vb, rfl, hob, f4⟩
  have s4 := s3.keep f4
  have f34 := f3.trans f4
  have a4 := hoa.sl.keep f4
  have b4 := hob.sl
  go_wp2_with fail
  refine (rapt_any _ xs _ s4 (by omega) hx32).mono ?_
  rintro e w5 ⟨vx, rfl, hox, f5⟩
  have s5 := s4.keep f5
  go_wp2_with fail
  refine (rtog_any _ xs _ s5 (by omega) hx32).mono ?_
  rintro e w6 ⟨vy, rfl, hoy, f6⟩
  have f56 := f5.trans f6
  have s6 := s5.keep f6
  have a6 := a4.keep f56
  have b6 := b4.keep f56
  have x6 := hox.sl.keep f6
  have y6 := hoy.sl
  have was6 := was2.keep (f34.trans f56)
  go_wp2_with fail
  refine (same_true rfl (refSame_any _ _ xs xs _ s6 was6 (by omega) (by omega))).mono ?_
  rintro e w7 ⟨rfl, f7⟩
  go_wp2_with fail
  refine (same_true rfl (refSame_any _ _ (apt xs) (apt xs) _ (a6.keep f7) (x6.keep f7) (by omega) (by omega))).mono ?_
  rintro e w8 ⟨rfl, f8⟩
  have f78 := f7.trans f8
  go_wp2_with fail
  refine (same_true rfl (refSame_any _ _ (tog xs) (tog xs) _ (b6.keep f78) (y6.keep f78) (by omega) (by omega))).mono ?_
  rintro e w9 ⟨rfl, f9⟩
  have f789 := f78.trans f9
  have s9 := s6.keep f789
  have x9 := x6.keep f789
  have ffin := hf1.trans (f1.trans ((f34.trans f56).trans f789))
  by_cases hst : apt xs = xs
  · go_wp2_with fail
    refine (same_true hst (cstable_any _ xs _ s9 (by omega) hx32)).mono ?_
    rintro e w10 ⟨rfl, f10⟩
    go_wp2_with fail
    refine (same_true hst (refSame_any _ _ (apt xs) xs _ (x9.keep f10) (s9.keep f10) (by omega) (by omega))).mono ?_
    rintro e w11 ⟨rfl, f11⟩
    go_wp2
    go_ret
    exact ⟨rfl, (ffin.trans (f10.trans f11)).below⟩
  · go_wp2_with fail
    refine (same_false hst (cstable_any _ xs _ s9 (by omega) hx32)).mono ?_
    rintro e w10 ⟨rfl, f10⟩
    go_wp2_with fail
    refine (same_false hst (refSame_any _ _ (apt xs) xs _ (x9.keep f10) (s9.keep f10) (by omega) (by omega))).mono ?_
    rintro e w11 ⟨rfl, f11⟩
    go_wp2
    go_ret
    exact ⟨rfl, (ffin.trans (f10.trans f11)).below⟩
theorem walk_ComposeApart (a : Option Addr) (len cap : Nat) (zs : List Int) (w : World) (h : IsRow .i32 w a len cap zs) (_ : len * 4 ≤ 140737488351232) :
    Calls Try.prog 8 #[.slice a len cap] w fun e w' => e = .returned (.bool true) ∧ Below w.heap.size w w' :=
  apart_walk _ _ w h.sl.1 h.sl.2.2
end Go.Proofs.Ytmfmnlioojkjgaa
