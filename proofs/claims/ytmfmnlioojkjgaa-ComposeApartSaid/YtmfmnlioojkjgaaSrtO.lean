/- slices.Equal, compose.Stable; the walks of ComposeStable and ComposeSame and ComposeHangul. -/
import Derived.Test.YtmfmnlioojkjgaaSrtN
namespace Go.Proofs.Ytmfmnlioojkjgaa
open Go.RowKit
set_option linter.unusedVariables false
set_option linter.unnecessarySimpa false
set_option linter.unusedSimpArgs false

set_option maxHeartbeats 800000 in
theorem equal_any (u v : Value) (xs ys : List Int) (w : World) (hu : Sl w u xs) (hv : Sl w v ys) (hx : xs.length ≤ 1000000) (hy : ys.length ≤ 1000000) :
    Calls Try.prog 30 #[u, v] w (SamePost xs ys w) := by
  obtain ⟨a, ca, rfl, hu⟩ := hu
  obtain ⟨b, cb, rfl, hv⟩ := hv
  by_cases hl : xs.length = ys.length
  · have hne : ((xs.length : Int) != (xs.length : Int)) = false := by simp
    rw [← hl]
    have HL := Lib.hid hl
    clear hl hy
    rcases hu with rfl | ⟨b1, o1, rfl, hb1, hc1⟩
    · have hyn : ys = [] := List.eq_nil_of_length_eq_zero (by have := HL.out; simpa using this.symm)
      subst hyn
      go_enter Try.func30, Try.ntmps30
      go_wp2
      refine wp_loop_rounds 1 ?_
      rw [rounds_succ]
      go_wp2
      go_ret
      exact SamePost.mk rfl (Fresh.refl _)
    rcases hv with rfl | ⟨b2, o2, rfl, hb2, hc2⟩
    · have hyn : xs = [] := List.eq_nil_of_length_eq_zero (by have := HL.out; simpa using this)
      subst hyn
      go_enter Try.func30, Try.ntmps30
      go_wp2
      refine wp_loop_rounds 1 ?_
      rw [rounds_succ]
      go_wp2
      go_ret
      exact SamePost.mk rfl (Fresh.refl _)
    have H1 := Lib.hid hc1
    have H2 := Lib.hid hc2
    clear hc1 hc2
    generalize hn : xs.length = n at hx hne H1
    have HN := Lib.hid hn
    clear hn
    go_enter Try.func30, Try.ntmps30
    go_wp2
    go_loopw [13] (fun i wr => SameRel xs ys w i wr) (fun i _ => n - (intOf i).toNat)
    case atStart => exact ⟨0, rfl, Nat.zero_le _, fun j hj => absurd hj (Nat.not_lt_zero _), Fresh.refl _⟩
    case round =>
      obtain ⟨k, rfl, hk, he, hf⟩ := hrel
      have HE := Lib.hid he
      clear he
      have hk' : k ≤ n := by have := HN.out; omega
      clear hk
      by_cases hlt : k < n
      · have c1 : wr.cell? ⟨b1, o1 + k, none⟩ = some (.int .i32 (xs.getD k 0)) := (Below.cell hf (p := ⟨b1, o1 + k, none⟩) hb1).trans (H1.out k hlt)
        have c2 : wr.cell? ⟨b2, o2 + k, none⟩ = some (.int .i32 (ys.getD k 0)) := (Below.cell hf (p := ⟨b2, o2 + k, none⟩) hb2).trans (H2.out k (by have := HL.out; have := HN.out; omega))
        generalize hp : xs.getD k 0 = p at c1
        generalize hq : ys.getD k 0 = q at c2
        have HP := Lib.hid hp
        have HQ := Lib.hid hq
        clear hp hq
        have q8 : (0 : Int) ≤ (k : Int) := by omega
        have q9 : (k : Int) < (n : Int) := by omega
        go_wp2
        go_quiet (fail)
        by_cases hpq : p = q
        · have HPQ := Lib.hid hpq
          have hb : (p != q) = false := by simp [hpq]
          clear hpq
          go_wp2
          refine ⟨⟨k + 1, by rw [Int.natCast_add]; rfl, by have := HN.out; omega, fun j hj => ?_, hf.drewN _⟩, by simp [intOf]; omega⟩
          by_cases hjk : j = k
          · rw [hjk, HP.out, HQ.out, HPQ.out]
          · exact HE.out j (by omega)
        · have HPQ := Lib.hid hpq
          have hb : (p != q) = true := by simp [hpq]
          clear hpq
          go_wp2
          go_ret
          exact SamePost.mk (by symm; rw [decide_eq_false_iff_not]; intro e; apply HPQ.out; rw [← HP.out, ← HQ.out, e]) (hf.drewN _)
      · have hkn : k = n := by omega
        go_wp2
        go_ret
        exact SamePost.mk (by symm; rw [decide_eq_true_iff]; exact take_eq_of HL.out (fun j hj => HE.out j (by have := HN.out; omega))) hf
  · have hne : ((xs.length : Int) != (ys.length : Int)) = true := by simp; omega
    have HD := Lib.hid hl
    generalize hn1 : xs.length = n1 at hne HD
    generalize hn2 : ys.length = n2 at hne HD
    have HN1 := Lib.hid hn1
    have HN2 := Lib.hid hn2
    clear hn1 hn2 hl
    go_enter Try.func30, Try.ntmps30
    go_wp2
    go_ret
    exact SamePost.mk (by symm; rw [decide_eq_false_iff_not]; intro e; apply HD.out; rw [← HN1.out, ← HN2.out, e]) (Fresh.refl _)
theorem in32_splits {r : Int} (hr : -2147483648 ≤ r ∧ r < 2147483648) : In32 (splits r) := by
  cases h : splitI r with
  | none => intro x hx; rw [splits_none h] at hx; simp at hx; rw [hx]; exact hr
  | some p =>
    obtain ⟨a, b⟩ := p
    have h1 := splitI_range h
    intro x hx
    rw [splits_some h] at hx
    rcases List.mem_append.1 hx with hx | hx
    · cases h2 : splitI a with
      | none => rw [splits_none h2] at hx; simp at hx; omega
      | some p2 =>
        obtain ⟨a2, b2⟩ := p2
        have h3 := splitI_range h2
        rw [splits_some h2, splits_none ((splitI_facts h).2.2.2.1 _ _ h2)] at hx
        simp at hx
        rcases hx with e | e <;> omega
    · simp at hx; omega
theorem in32_apt {l : List Int} (h : In32 l) : In32 (apt l) := by
  intro x hx
  have hx := ord_mem.1 hx
  unfold spl at hx
  rw [List.mem_flatMap] at hx
  obtain ⟨y, hy, hxy⟩ := hx
  exact in32_splits (h y hy) x hxy
set_option maxHeartbeats 800000 in
theorem cstable_any (u : Value) (l : List Int) (w : World) (hu : Sl w u l) (hl : l.length ≤ 10000) (h32 : In32 l) :
    Calls Try.prog 20 #[u] w (SamePost (apt l) l w) := by
  have hal := apt_len l
  go_enter Try.func20, Try.ntmps20
  go_wp2_with fail
  refine (capt_any _ l _ hu hl h32).mono ?_
  rintro e w1 ⟨v, rfl, ho, hf⟩
  go_wp2_with fail
  refine (equal_any _ _ (apt l) l _ ho.sl (hu.keep hf) (by omega) (by omega)).mono ?_
  rintro e w2 ⟨rfl, hf2⟩
  go_wp2
  go_ret
  exact ⟨rfl, hf.trans hf2⟩
theorem same_true {xs ys : List Int} {w : World} (h : xs = ys) {f : FuncId} {args : Array Value} (hc : Calls Try.prog f args w (SamePost xs ys w)) : Calls Try.prog f args w fun e w' => e = .returned (.bool true) ∧ Fresh w w' :=
  hc.mono fun e w' ⟨he, hf⟩ => ⟨by rw [he, h, decide_eq_true rfl], hf⟩
theorem same_false {xs ys : List Int} {w : World} (h : xs ≠ ys) {f : FuncId} {args : Array Value} (hc : Calls Try.prog f args w (SamePost xs ys w)) : Calls Try.prog f args w fun e w' => e = .returned (.bool false) ∧ Fresh w w' :=
  hc.mono fun e w' ⟨he, hf⟩ => ⟨by rw [he, decide_eq_false h], hf⟩
theorem tog_len (l : List Int) : (tog l).length ≤ l.length := trun_len l
theorem in32_tog2 {l : List Int} (h : In32 l) : In32 (tog l) := in32_tog h
set_option maxHeartbeats 1600000 in
set_option maxRecDepth 100000 in
theorem stable_walk (u : Value) (xs : List Int) (w : World) (hu : Sl w u xs) (hx32 : In32 xs) :
    Calls Try.prog 9 #[u] w fun e w' => e = .returned (.bool true) ∧ Below w.heap.size w w' := by
  have hu0 := hu
  obtain ⟨a, ca, rfl, hu⟩ := hu
  go_enter Try.func9, Try.ntmps9
  by_cases h1 : 40 < xs.length
  · have h1' : (40 : Int) < (xs.length : Int) := by omega
    go_wp2_with fail
    refine (awake03 _).mono ?_
    rintro e w1 ⟨rfl, hf⟩
    go_wp2_with fail
    refine (awake03 _).mono ?_
    rintro e w2 ⟨rfl, hf2⟩
    go_wp2
    go_ret
    exact ⟨rfl, (hf.trans hf2).below⟩
  have h1' : ¬ (40 : Int) < (xs.length : Int) := by omega
  have l1 := apt_len xs
  have l2 := tog_len (apt xs)
  go_wp2_with fail
  refine (awake03 _).mono ?_
  rintro e w1 ⟨rfl, hf1⟩
  go_wp2_with fail
  refine (capt_any _ xs _ (hu0.keep hf1) (by omega) hx32).mono ?_
  rintro e w2 ⟨v1, rfl, ho1, hf2⟩
  go_wp2_with fail
  refine (ctog_any _ (apt xs) _ ho1.sl (by omega) (in32_apt hx32)).mono ?_
  rintro e w3 ⟨v2, rfl, ho2, hf3⟩
  have s1 := ho1.sl.keep hf3
  go_wp2_with fail
  refine (same_true (apt_apt xs) (cstable_any _ (apt xs) _ s1 (by omega) (in32_apt hx32))).mono ?_
  rintro e w4 ⟨rfl, hf4⟩
  have s1' := s1.keep hf4
  have s2 := ho2.sl.keep hf4
  go_wp2_with fail
  refine (capt_any _ (tog (apt xs)) _ s2 (by omega) (in32_tog2 (in32_apt hx32))).mono ?_
  rintro e w5 ⟨v3, rfl, ho3, hf5⟩
  have l3 := apt_len (tog (apt xs))
  go_wp2_with fail
  refine (same_true (apt_tog apt_mem (apt_nf xs)) (refSame_any _ _ _ _ _ ho3.sl (s1'.keep hf5) (by omega) (by omega))).mono ?_
  rintro e w6 ⟨rfl, hf6⟩
  have s2' := (s2.keep hf5).keep hf6
  go_wp2_with fail
  refine (ctog_any _ (tog (apt xs)) _ s2' (by omega) (in32_tog2 (in32_apt hx32))).mono ?_
  rintro e w7 ⟨v4, rfl, ho4, hf7⟩
  have l4 := tog_len (tog (apt xs))
  go_wp2_with fail
  refine (same_true (tog_tog (apt xs)) (refSame_any _ _ _ _ _ ho4.sl (s2'.keep hf7) (by omega) (by omega))).mono ?_
  rintro e w8 ⟨rfl, hf8⟩
  go_wp2
  go_ret
  exact ⟨rfl, ((((((((hf1.trans hf2).trans hf3).trans hf4).trans hf5).trans hf6).trans hf7).trans hf8)).below⟩
theorem walk_ComposeStable (a : Option Addr) (len cap : Nat) (zs : List Int) (w : World) (h : IsRow .i32 w a len cap zs) (_ : len * 4 ≤ 140737488351232) :
    Calls Try.prog 9 #[.slice a len cap] w fun e w' => e = .returned (.bool true) ∧ Below w.heap.size w w' :=
  stable_walk _ _ w h.sl.1 h.sl.2.2
end Go.Proofs.Ytmfmnlioojkjgaa
