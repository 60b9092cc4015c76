/- The reference's Apart: the walk. -/
import Derived.Test.YtmfmnlioojkjgaaSrtT
namespace Go.Proofs.Ytmfmnlioojkjgaa
open Go.RowKit
set_option linter.unusedVariables false
set_option linter.unnecessarySimpa false
set_option linter.unusedSimpArgs false

/-- the parts of a slice of one's own -/
theorem own_parts {w : World} {B : Nat} {v : Value} {xs : List Int} (h : OwnR w B v xs) (hx : 1 ≤ xs.length) :
    ∃ g cap, v = .slice (some ⟨g, 0, none⟩) xs.length cap ∧ B ≤ g ∧ g < w.heap.size ∧ xs.length ≤ cap ∧ (∀ j, j < xs.length → w.cell? ⟨g, j, none⟩ = some (.int .i32 (xs.getD j 0))) := by
  obtain ⟨g, cap, hv, hg, hc⟩ := h.sl2 (by omega)
  refine ⟨g, cap, hv, (h.lt g (by rw [hv]; rfl)).1, hg, ?_, hc⟩
  obtain ⟨_, ⟨hv2, _⟩ | ⟨g2, cap2, cur, hv2, _, _, hn, _⟩⟩ := h
  · rw [hv] at hv2; cases hv2
  · rw [hv] at hv2; cases hv2; exact hn
def slen : Value → Nat
  | .slice _ n _ => n
  | _ => 0
def RaRel (w : World) (l : List Int) (out i : Value) (wr : World) : Prop :=
  ∃ A R : List Int, i = .int .i64 (A.length : Nat) ∧ OwnR wr w.heap.size out (A ++ R) ∧ Fresh w wr ∧ spl (A ++ R) = spl l ∧ (∀ x ∈ A, splitI x = none) ∧ In32 (A ++ R)
theorem spl_ge : ∀ l : List Int, l.length ≤ (spl l).length
  | [] => by simp [spl]
  | x :: l => by
    have := spl_ge l
    have h := splits_len x
    unfold spl at *
    rw [List.flatMap_cons, List.length_append, List.length_cons]
    omega
theorem ra_measure {A R l : List Int} (h : spl (A ++ R) = spl l) (hA : ∀ x ∈ A, splitI x = none) : A.length + (A ++ R).length ≤ 2 * (spl l).length := by
  have h1 := spl_ge R
  have h2 : (spl l).length = A.length + (spl R).length := by rw [← h, spl_app, spl_same hA, List.length_append]
  rw [List.length_append]
  omega
theorem ra_measure2 {A R l : List Int} (h : spl (A ++ R) = spl l) (hA : ∀ x ∈ A, splitI x = none) (hR : 1 ≤ R.length) : A.length + (A ++ R).length + 1 ≤ 2 * (spl l).length := by
  have h1 := spl_ge R
  have h2 : (spl l).length = A.length + (spl R).length := by rw [← h, spl_app, spl_same hA, List.length_append]
  rw [List.length_append]
  omega
def BbRel (w : World) (g n cap : Nat) (O : List Int) (k : Value) (wr : World) : Prop :=
  ∃ j : Nat, k = .int .i64 (j : Nat) ∧ j ≤ n ∧ OwnR wr w.heap.size (.slice (some ⟨g, 0, none⟩) n cap) (bubs j O) ∧ Fresh w wr
def PassRel (w : World) (g n cap : Nat) (O : List Int) (i : Value) (wr : World) : Prop :=
  ∃ (P : List Int) (x : Int) (R : List Int), i = .int .i64 ((P.length + 1 : Nat) : Int) ∧ OwnR wr w.heap.size (.slice (some ⟨g, 0, none⟩) n cap) (P ++ x :: R) ∧ Fresh w wr ∧ (P ++ x :: R).length = n ∧ P ++ bub (x :: R) = bub O
set_option maxHeartbeats 6400000 in
set_option maxRecDepth 100000 in
theorem rapt_any (u : Value) (l : List Int) (w : World) (hu : Sl w u l) (hl : l.length ≤ 10000) (h32 : In32 l) : Calls Try.prog 21 #[u] w (RunesPost (apt l) w) := by
  have hN := spl_len l
  obtain ⟨N, hNN⟩ : ∃ N, (spl l).length = N := ⟨_, rfl⟩
  have HNN := Lib.hid hNN
  rw [hNN] at hN
  have hN2 : N ≤ 30000 := by omega
  have e0 := OwnR.empty w w.heap.size (Nat.le_refl _)
  have f0 := (Fresh.refl w).alloc (.cells #[] 21)
  have hu0 := hu
  obtain ⟨a, ca, rfl, hu⟩ := hu
  clear hu hNN hN
  go_enter Try.func21, Try.ntmps21
  go_wp2_with (first
    | (at_builtin; refine wpList_append_sl _ rfl _ _ rfl w.heap.size _ _ [] l rfl e0 rfl (hu0.alloc _) (by simp only [List.length_nil]; omega) f0.size ?_; intro v1 w1 ho1 hg1 _; have f1 := OwnR.grew f0 e0 hg1; rw [List.nil_append] at ho1))
  have HO1 := Lib.hid ho1
  clear e0 f0 hg1 ho1
  go_loopw [3, 4] (fun out i wr => RaRel w l out i wr) (fun out i _ => 2 * N - (intOf i).toNat - slen out)
  case atStart => exact ⟨[], l, rfl, HO1.out, f1, rfl, fun x hx => by simp at hx, h32⟩
  case round =>
    clear HO1 f1 hu0
    obtain ⟨A, R, rfl, hown, hf, hsp, hA, hin⟩ := hrel
    have HSP := Lib.hid hsp
    have HA := Lib.hid hA
    have HIN := Lib.hid hin
    clear hsp hA hin
    cases R with
    | cons r R =>
      have hms := ra_measure2 HSP.out HA.out (by simp)
      rw [HNN.out] at hms
      obtain ⟨g, cap, rfl, hbg, hg, hcap, hcell⟩ := own_parts hown (by simp; omega)
      have c0 := hcell A.length (by simp)
      rw [getD_at] at c0
      have hr := HIN.out r (by simp)
      have hln : (A ++ r :: R).length = A.length + 1 + R.length := by simp; omega
      have HOWN := Lib.hid hown
      have HCELL := Lib.hid hcell
      rw [hln] at hcap hms ⊢
      obtain ⟨i, hi⟩ : ∃ i, A.length = i := ⟨_, rfl⟩
      obtain ⟨q, hq⟩ : ∃ q, R.length = q := ⟨_, rfl⟩
      rw [hi, hq] at hcap hms ⊢
      rw [hi] at c0
      have HI := Lib.hid hi
      have HQ := Lib.hid hq
      have HLN := Lib.hid hln
      clear hown hcell hi hq hln
      have q1 : (i : Int) < ((i + 1 + q : Nat) : Int) := by omega
      have q2 : i < i + 1 + q := by omega
      cases hs : splitI r with
      | none =>
        have HS := Lib.hid (rsplit_not hs hr)
        have HSN := Lib.hid hs
        clear hs
        go_wp2_with fail
        refine (HS.out _).mono ?_
        rintro e w2 ⟨rfl, hf2⟩
        have ho2 := HOWN.out.keep hf2
        have f2 := hf.trans hf2
        go_wp2
        have ho2' : OwnR w2 w.heap.size (.slice (some ⟨g, 0, none⟩) (i + 1 + q) cap) (A ++ r :: R) := by have := ho2; rwa [HLN.out, HI.out, HQ.out] at this
        refine ⟨⟨A ++ [r], R, by rw [List.length_append, HI.out]; rfl, by simpa using ho2', f2, by simpa using HSP.out, fun x hx => ?_, by simpa using HIN.out⟩, by simp [intOf, slen]; omega⟩
        rcases List.mem_append.1 hx with hx | hx
        · exact HA.out x hx
        · simp at hx; rw [hx]; exact HSN.out
      | some ab =>
        obtain ⟨a2, b2⟩ := ab
        have HS := Lib.hid (rsplit_yes hs hr)
        have hab := splitI_range hs
        have hin2 : In32 (A ++ [a2, b2] ++ R) := by
          intro z hz
          rcases List.mem_append.1 hz with hz | hz
          · rcases List.mem_append.1 hz with hz | hz
            · exact HIN.out z (by simp [hz])
            · simp at hz; omega
          · exact HIN.out z (by simp [hz])
        have hsp2 : spl (A ++ [a2, b2] ++ R) = spl l := by
          rw [← HSP.out]
          unfold spl
          rw [List.flatMap_append, List.flatMap_append, List.flatMap_append, List.flatMap_cons, List.flatMap_cons, List.flatMap_cons, splits_some hs, splits_none (splitI_facts hs).2.2.1]
          simp
        have HIN2 := Lib.hid hin2
        have HSP2 := Lib.hid hsp2
        clear hs hin2 hsp2 hab
        go_wp2_with fail
        refine (HS.out _).mono ?_
        rintro e w2 ⟨rfl, hf2⟩
        have f2 := hf.trans hf2
        have hg2 : g < w2.heap.size := Nat.lt_of_lt_of_le hg hf2.size
        have hcell2 : ∀ j, j < i + 1 + q → w2.cell? ⟨g, 0 + j, none⟩ = some (.int .i32 ((A ++ r :: R).getD j 0)) := fun j hj => by
          rw [Nat.zero_add]
          exact (Below.cell hf2 (p := ⟨g, j, none⟩) hg).trans (HCELL.out j (by have := HLN.out; have := HI.out; have := HQ.out; omega))
        have hxl : (A ++ r :: R).length = i + 1 + q := by have := HLN.out; have := HI.out; have := HQ.out; omega
        have st := sl_take (cap := cap) hg2 hxl hcell2 (k := i) (by omega)
        have sd := sl_drop (cap := cap - (i + 1)) hg2 hxl hcell2 (k := i + 1) (by omega)
        have et : (A ++ r :: R).take i = A := by rw [← HI.out]; simp
        have ed : (A ++ r :: R).drop (i + 1) = R := by rw [← HI.out, List.drop_append]; simp
        rw [et] at st
        rw [ed, Nat.zero_add] at sd
        have HXL := Lib.hid hxl
        have e2 := OwnR.empty w2 w2.heap.size (Nat.le_refl _)
        have f3 := (Fresh.refl w2).alloc (.cells #[] 21)
        have lA : A.length = i := HI.out
        have lR : R.length = q := HQ.out
        have LL := Lib.hid (And.intro lA lR)
        have hi9 : i ≤ cap := by omega
        have hi8 : i + 1 ≤ cap := by omega
        have hi7 : i + 1 ≤ i + 1 + q := by omega
        clear hcell2 hxl et ed lA lR c0
        have hcc : (cap = i + 1 ∧ q = 0) ∨ ¬ cap = i + 1 := by omega
        rcases hcc with ⟨hc8, hc9⟩ | hc9
        · subst hc8 hc9
          have sd2 : Sl w2 (.slice (some ⟨g, 0, none⟩) 0 0) R := sl_none (List.length_eq_zero_iff.1 LL.out.2)
          clear sd
          go_wp2_with (first
            | (at_builtin; refine wpList_append_sl _ rfl _ _ rfl w2.heap.size _ _ [] A rfl e2 rfl (st.alloc _) (by simp only [List.length_nil]; have := LL.out.1; omega) f3.size ?_; intro v1 w3 ho1 hg1 _; have f4 := OwnR.grew f3 e2 hg1; rw [List.nil_append] at ho1; have st2 := sl_two w3 a2 b2)
            | (at_builtin; refine wpList_append_sl _ rfl _ _ rfl w2.heap.size _ _ A [a2, b2] rfl (ho1.alloc _) rfl st2 (by simp only [List.length_cons, List.length_nil]; have := LL.out.1; omega) (f4.alloc (.cells #[.int .i32 a2, .int .i32 b2] 21)).size ?_; intro v2 w4 ho2 hg2 _; have f5 := OwnR.grew (f4.alloc _) (ho1.alloc _) hg2)
            | (at_builtin; refine wpList_append_sl _ rfl _ _ rfl w2.heap.size _ _ (A ++ [a2, b2]) R rfl ho2 rfl (sd2.keep (f5)) (by simp only [List.length_append, List.length_cons, List.length_nil]; have := LL.out; omega) f5.size ?_; intro v3 w5 ho3 hg3 _; have f6 := OwnR.grew f5 ho2 hg3))
          have hl3 : slen v3 = A.length + 2 + R.length := by
            obtain ⟨ao3, cp3, e3, _⟩ := ho3.sl
            rw [e3]
            simp only [slen, List.length_append, List.length_cons, List.length_nil]
          refine ⟨⟨A, a2 :: b2 :: R, congrArg (Value.int .i64) (by have := LL.out.1; omega), ?_, f2.trans f6, by have := HSP2.out; simpa using this, HA.out, by have := HIN2.out; simpa using this⟩, ?_⟩
          · have := ho3.base f2.size
            simpa using this
          · simp only [Array.getD, intOf]
            show 2 * N - (i : Int).toNat - slen v3 < _
            rw [hl3, LL.out.1, LL.out.2]
            simp only [Int.toNat_natCast]
            show _ < 2 * N - i - _
            simp only [slen]
            omega
        · have sd2 := sd
          rw [show i + 1 + q - (i + 1) = q by omega] at sd2
          clear sd
          go_wp2_with (first
            | (at_builtin; refine wpList_append_sl _ rfl _ _ rfl w2.heap.size _ _ [] A rfl e2 rfl (st.alloc _) (by simp only [List.length_nil]; have := LL.out.1; omega) f3.size ?_; intro v1 w3 ho1 hg1 _; have f4 := OwnR.grew f3 e2 hg1; rw [List.nil_append] at ho1; have st2 := sl_two w3 a2 b2)
            | (at_builtin; refine wpList_append_sl _ rfl _ _ rfl w2.heap.size _ _ A [a2, b2] rfl (ho1.alloc _) rfl st2 (by simp only [List.length_cons, List.length_nil]; have := LL.out.1; omega) (f4.alloc (.cells #[.int .i32 a2, .int .i32 b2] 21)).size ?_; intro v2 w4 ho2 hg2 _; have f5 := OwnR.grew (f4.alloc _) (ho1.alloc _) hg2)
            | (at_builtin; refine wpList_append_sl _ rfl _ _ rfl w2.heap.size _ _ (A ++ [a2, b2]) R rfl ho2 rfl (sd2.keep (f5)) (by simp only [List.length_append, List.length_cons, List.length_nil]; have := LL.out; omega) f5.size ?_; intro v3 w5 ho3 hg3 _; have f6 := OwnR.grew f5 ho2 hg3))
          have hl3 : slen v3 = A.length + 2 + R.length := by
            obtain ⟨ao3, cp3, e3, _⟩ := ho3.sl
            rw [e3]
            simp only [slen, List.length_append, List.length_cons, List.length_nil]
          refine ⟨⟨A, a2 :: b2 :: R, congrArg (Value.int .i64) (by have := LL.out.1; omega), ?_, f2.trans f6, by have := HSP2.out; simpa using this, HA.out, by have := HIN2.out; simpa using this⟩, ?_⟩
          · have := ho3.base f2.size
            simpa using this
          · simp only [Array.getD, intOf]
            show 2 * N - (i : Int).toNat - slen v3 < _
            rw [hl3, LL.out.1, LL.out.2]
            simp only [Int.toNat_natCast]
            show _ < 2 * N - i - _
            simp only [slen]
            omega
    | nil =>
      rw [List.append_nil] at hown
      have hOO : A = spl l := by have := HSP.out; rw [List.append_nil, spl_same HA.out] at this; exact this
      have hAN : A.length = N := by rw [hOO]; exact HNN.out
      have HOO := Lib.hid hOO
      have hres : bubs N A = apt l := by rw [← hAN, bubs_all, hOO]; rfl
      have HRES := Lib.hid hres
      rw [hAN]
      have HAN := Lib.hid hAN
      clear hOO hres hAN
      by_cases hN0 : N = 0
      · have hA0 : A = [] := List.length_eq_zero_iff.1 (by have := HAN.out; omega)
        subst hN0
        obtain ⟨ao, cp, rfl, _⟩ := hown.sl
        have HO := Lib.hid hown
        rw [hA0]
        simp only [List.length_nil]
        clear hown hA0
        go_wp2
        refine wp_loop_rounds 1 ?_
        rw [rounds_succ]
        go_wp2
        go_ret
        refine ⟨_, rfl, ?_, hf⟩
        have e1 : apt l = A := by rw [← HRES.out]; rfl
        have h2 := HO.out
        rw [HAN.out] at h2
        rw [e1]; exact h2
      · have hA1 : 1 ≤ A.length := by have := HAN.out; omega
        obtain ⟨g, cap, rfl, hbg, hg, hcap, _⟩ := own_parts hown hA1
        rw [HAN.out] at hown hcap ⊢
        have HO := Lib.hid hown
        have HIN2 := Lib.hid (show In32 A by have := HIN.out; rwa [List.append_nil] at this)
        clear hown HSP HIN HA HOO hA1
        go_wp2
        go_loopw [9] (fun k wr => BbRel w g N cap A k wr) (fun k _ => N - (intOf k).toNat)
        case atStart => exact ⟨0, rfl, Nat.zero_le _, HO.out, hf⟩
        case round =>
          clear HO hf hg
          obtain ⟨k, rfl, hk, hown, hf⟩ := hrel
          have HO := Lib.hid hown
          clear hown
          have hlk : (bubs k A).length = N := by rw [bubs_len, HAN.out]
          have HLK := Lib.hid hlk
          clear hlk
          by_cases hkN : k < N
          · have hkN2 : (k : Int) < (N : Int) := by omega
            go_wp2
            go_loopw [10] (fun i wr => PassRel w g N cap (bubs k A) i wr) (fun i _ => N - (intOf i).toNat)
            case atStart =>
              cases hb : bubs k A with
              | nil => have := HLK.out; rw [hb] at this; simp at this; omega
              | cons x R => exact ⟨[], x, R, rfl, by rw [List.nil_append, ← hb]; exact HO.out, hf, by rw [List.nil_append, ← hb]; exact HLK.out, rfl⟩
            case round =>
              clear HO hf
              obtain ⟨P, x, R, rfl, hown, hf, hPN, hPB⟩ := hrel
              have HO := Lib.hid hown
              have HPB := Lib.hid hPB
              have hPN2 : P.length + 1 + R.length = N := by rw [← hPN]; simp; omega
              obtain ⟨p, hp⟩ : ∃ p, P.length = p := ⟨_, rfl⟩
              rw [hp] at hPN2 ⊢
              have HP := Lib.hid hp
              have HPN := Lib.hid hPN
              clear hown hPB hp hPN
              cases R with
              | nil =>
                have hpe : N = p + 1 := by simp at hPN2; omega
                have hpe2 : ¬ ((p + 1 : Nat) : Int) < (N : Int) := by omega
                have hpe3 : ¬ p + 1 < N := by omega
                clear hpe
                go_wp2
                go_roundw
                case rel =>
                  have e1 : bubs (k + 1) A = P ++ [x] := by
                    have := HPB.out
                    rw [bub_one] at this
                    exact this.symm
                  exact ⟨k + 1, rfl, by omega, by rw [e1]; exact HO.out, hf⟩
                case measure => simp [intOf]; omega
              | cons y R =>
                simp only [List.length_cons] at hPN2
                have hHO : (P ++ x :: y :: R).length = N := HPN.out
                have cells := (own_parts HO.out (by rw [hHO]; omega))
                have hcx : wr.cell? ⟨g, p, none⟩ = some (.int .i32 x) := by
                  obtain ⟨g', cap', hv', _, _, _, hc⟩ := cells
                  cases hv'
                  have := hc P.length (by rw [hHO, HP.out]; omega)
                  rwa [getD_at, HP.out] at this
                have hcy : wr.cell? ⟨g, p + 1, none⟩ = some (.int .i32 y) := by
                  obtain ⟨g', cap', hv', _, _, _, hc⟩ := cells
                  cases hv'
                  have := hc (p + 1) (by rw [hHO]; omega)
                  have e1 : (P ++ x :: y :: R).getD (p + 1) 0 = y := by
                    have := getD_at (P ++ [x]) R y
                    rw [List.length_append, HP.out] at this
                    simpa using this
                  rwa [e1] at this
                have hfx : wr.frozen? ⟨g, p, none⟩ = false := own_frozen HO.out hHO p
                have hfy : wr.frozen? ⟨g, p + 1, none⟩ = false := own_frozen HO.out hHO (p + 1)
                have hgl : w.heap.size ≤ g := hbg
                clear cells hHO
                have q1 : (0 : Int) ≤ (p : Int) := by omega
                have q2 : (p : Int) < (N : Int) := by omega
                have q3 : (0 : Int) ≤ ((p + 1 : Nat) : Int) := by omega
                have q4 : ((p + 1 : Nat) : Int) < (N : Int) := by omega
                have q5 : (p : Int) + 1 < (N : Int) := by omega
                have q6 : (0 : Int) ≤ (p : Int) + 1 := by omega
                have q7 : p + 1 < N := by omega
                have q8 : p < N := by omega
                by_cases h1 : 0 < clsI y
                · have d1 : decide (0 < clsI y) = true := decide_eq_true h1
                  by_cases h2 : clsI y < clsI x
                  · have d2 : decide (clsI y < clsI x) = true := decide_eq_true h2
                    have HSW := Lib.hid (bub_swap R ⟨h1, h2⟩)
                    go_wp2_with fail
                    go_quiet ((go_at_call 16; exact Calls.quiet_of_same ((refClass_same _ _).mono fun _ _ ⟨he, hw⟩ => ⟨he, hw.symm⟩)))
                    have hd := HO.out.keep ((Fresh.refl wr).drewN nq)
                    have hpl : (P ++ [x]).length = p + 1 := by rw [List.length_append, HP.out]; rfl
                    have hs1 : OwnR ((wr.drewN nq).setCell ⟨g, p + 1, none⟩ (.int .i32 x)) w.heap.size (.slice (some ⟨g, 0, none⟩) N cap) (P ++ x :: x :: R) := by
                      have := own_set (P := P ++ [x]) (c := y) (Q := R) (x := x) (by simpa using hd) (by have := HPN.out; simpa using this)
                      rw [hpl] at this
                      simpa using this
                    have hlen1 : (P ++ x :: x :: R).length = N := by have := HPN.out; simpa using this
                    have hs2 : OwnR (((wr.drewN nq).setCell ⟨g, p + 1, none⟩ (.int .i32 x)).setCell ⟨g, p, none⟩ (.int .i32 y)) w.heap.size (.slice (some ⟨g, 0, none⟩) N cap) (P ++ y :: x :: R) := by
                      have := own_set (x := y) hs1 hlen1
                      rwa [HP.out] at this
                    have hc2 : ((wr.drewN nq).setCell ⟨g, p + 1, none⟩ (.int .i32 x)).cell? ⟨g, p, none⟩ = some (.int .i32 x) := by
                      obtain ⟨g', cap', hv', _, _, _, hc⟩ := own_parts hs1 (by omega)
                      cases hv'
                      have := hc P.length (by rw [HP.out]; omega)
                      rwa [getD_at, HP.out] at this
                    have hf2 : ((wr.drewN nq).setCell ⟨g, p + 1, none⟩ (.int .i32 x)).frozen? ⟨g, p, none⟩ = false := own_frozen hs1 hlen1 p
                    have hfr := ((hf.drewN nq).setCell (p := ⟨g, p + 1, none⟩) hgl (.int .i32 x)).setCell (p := ⟨g, p, none⟩) hgl (.int .i32 y)
                    have HS2 := Lib.hid hs2
                    have HFR := Lib.hid hfr
                    clear hd hs1 hs2 hfr hlen1 hpl
                    go_wp2
                    exact ⟨⟨P ++ [y], x, R, congrArg (Value.int .i64) (by rw [List.length_append, HP.out]; simp), by have := HS2.out; simpa using this, HFR.out, by have := HPN.out; simpa using this, by have := HPB.out; rw [HSW.out] at this; simpa using this⟩, by simp [intOf]; omega⟩
                  · have d2 : decide (clsI y < clsI x) = false := decide_eq_false h2
                    have HSW := Lib.hid (bub_stay R (fun q => h2 q.2))
                    go_wp2_with fail
                    go_quiet ((go_at_call 16; exact Calls.quiet_of_same ((refClass_same _ _).mono fun _ _ ⟨he, hw⟩ => ⟨he, hw.symm⟩)))
                    go_wp2
                    refine ⟨⟨P ++ [x], y, R, congrArg (Value.int .i64) (by rw [List.length_append, HP.out]; simp), by have := HO.out.keep ((Fresh.refl wr).drewN nq); simpa using this, hf.drewN _, by have := HPN.out; simpa using this, by have := HPB.out; rw [HSW.out] at this; simpa using this⟩, by simp [intOf]; omega⟩
                · have d1 : decide (0 < clsI y) = false := decide_eq_false h1
                  have HSW := Lib.hid (bub_stay (x := x) R (fun q => h1 q.1))
                  go_wp2_with fail
                  go_quiet ((go_at_call 16; exact Calls.quiet_of_same ((refClass_same _ _).mono fun _ _ ⟨he, hw⟩ => ⟨he, hw.symm⟩)))
                  go_wp2
                  refine ⟨⟨P ++ [x], y, R, congrArg (Value.int .i64) (by rw [List.length_append, HP.out]; simp), by have := HO.out.keep ((Fresh.refl wr).drewN nq); simpa using this, hf.drewN _, by have := HPN.out; simpa using this, by have := HPB.out; rw [HSW.out] at this; simpa using this⟩, by simp [intOf]; omega⟩
          · have hkE : k = N := by omega
            have hr : bubs k A = apt l := by rw [hkE]; exact HRES.out
            have HR := Lib.hid hr
            have hkN2 : ¬ (k : Int) < (N : Int) := by omega
            clear hr hkE
            go_wp2
            go_ret
            exact ⟨_, rfl, by rw [← HR.out]; have := HO.out; have e := HLK.out; exact this, hf⟩
end Go.Proofs.Ytmfmnlioojkjgaa
