/- swapRangeCmpFunc, rotateCmpFunc. -/
import Derived.Test.YtmfmnlioojkjgaaSrtB
namespace Go.Proofs.Ytmfmnlioojkjgaa
open Go.RowKit
set_option linter.unusedVariables false
set_option linter.unnecessarySimpa false

def BecomesPost (w0 : World) (g off n : Nat) (ys : List Int) (e : Ending) (w' : World) : Prop := e = .returned (.tuple #[]) ∧ Arr w0 g off n ys w'
def SwapRel (w0 : World) (g off n : Nat) (P X Q Y S : List Int) (i : Value) (wr : World) : Prop :=
  ∃ X1 X2 Y1 Y2 : List Int, X = X1 ++ X2 ∧ Y = Y1 ++ Y2 ∧ X1.length = Y1.length ∧ i = .int .i64 (X1.length : Nat) ∧ Arr w0 g off n (P ++ (Y1 ++ X2) ++ Q ++ (X1 ++ Y2) ++ S) wr
set_option maxHeartbeats 1600000 in
set_option maxRecDepth 100000 in
theorem swapRange_any (w0 : World) (g off n : Nat) (P X Q Y S : List Int) (a b c : Nat) (w : World) (cap : Nat) (F : Value) (hn : n ≤ 1000000) (hoff : off ≤ 1000000) (hxy : X.length = Y.length)
    (ha : a = P.length) (hb : b = P.length + X.length + Q.length) (hc : c = X.length) (h : Arr w0 g off n (P ++ X ++ Q ++ Y ++ S) w) :
    Calls Try.prog 41 #[.slice (some ⟨g, off, none⟩) n cap, .int .i64 (a : Nat), .int .i64 (b : Nat), .int .i64 (c : Nat), F] w (BecomesPost w0 g off n (P ++ Y ++ Q ++ X ++ S)) := by
  have hl := h.len
  simp at hl
  have hcn : a + c ≤ n ∧ b + c ≤ n ∧ a + c ≤ b := by omega
  obtain ⟨hcn1, hcn2, hcn3⟩ := hcn
  have H := Lib.hid h
  have HXY := Lib.hid hxy
  have HA := Lib.hid ha
  have HB := Lib.hid hb
  have HC := Lib.hid hc
  clear h hxy ha hb hc hl
  go_enter Try.func41, Try.ntmps41
  go_wp2
  go_loopw [10] (fun i wr => SwapRel w0 g off n P X Q Y S i wr) (fun i _ => n - (intOf i).toNat)
  case atStart => exact ⟨[], X, [], Y, rfl, rfl, rfl, rfl, by have := H.out; simpa using this⟩
  case round =>
    obtain ⟨X1, X2, Y1, Y2, hX, hY, h11, rfl, harr⟩ := hrel
    have HX := Lib.hid hX
    have HY := Lib.hid hY
    have H11 := Lib.hid h11
    have HAR := Lib.hid harr
    have hx2 : X1.length + X2.length = c := by have := HC.out; rw [this, hX]; simp
    have hy2 : Y1.length + Y2.length = c := by have := HC.out; have := HXY.out; rw [hY] at this; simp at this; omega
    clear hX hY h11 harr
    generalize hk : X1.length = k at hx2
    have HK := Lib.hid hk
    clear hk
    match X2, Y2, hx2, hy2, HX, HY, HAR with
    | [], Y2, hx2, hy2, HX, HY, HAR =>
      have hkc : k = c := by simpa using hx2
      have hy0 : Y2 = [] := List.eq_nil_of_length_eq_zero (by have := H11.out; have := HK.out; omega)
      have HY0 := Lib.hid hy0
      clear hx2 hy2 hy0
      go_wp2
      go_end0
      refine ⟨rfl, ?_⟩
      have h1 := HAR.out
      have h2 := HX.out
      have h3 := HY.out
      rw [HY0.out] at h1 h3
      simp at h1 h2 h3
      rw [h2, h3]
      simpa using h1
    | x :: X2, [], hx2, hy2, HX, HY, HAR => exact absurd hy2 (by simp at hx2 ⊢; have := H11.out; have := HK.out; omega)
    | x :: X2, y :: Y2, hx2, hy2, HX, HY, HAR =>
      simp at hx2
      have hlt : k < c := by omega
      have hAQ : Arr w0 g off n ((P ++ Y1) ++ x :: (X2 ++ Q ++ X1) ++ y :: (Y2 ++ S)) wr := by have := HAR.out; simpa using this
      have hu : a + k = (P ++ Y1).length := by have := HA.out; have := H11.out; have := HK.out; simp; omega
      have hv : b + k = (P ++ Y1).length + 1 + (X2 ++ Q ++ X1).length := by
        have h1 := HB.out; have h2 := H11.out; have h3 := HK.out; have h4 := HX.out
        rw [h4] at h1
        simp at h1 ⊢
        omega
      have c0 : wr.cell? ⟨g, off + (a + k), none⟩ = some (.int .i32 x) := by
        have := hAQ.cell (j := a + k) (by omega)
        rw [this, hu]
        have e := getD_mid (P ++ Y1) ((X2 ++ Q ++ X1) ++ y :: (Y2 ++ S)) x
        simpa using e
      have c1 : wr.cell? ⟨g, off + (b + k), none⟩ = some (.int .i32 y) := by
        have := hAQ.cell (j := b + k) (by omega)
        have e := getD_mid ((P ++ Y1) ++ x :: (X2 ++ Q ++ X1)) (Y2 ++ S) y
        rw [this, hv, show (P ++ Y1).length + 1 + (X2 ++ Q ++ X1).length = ((P ++ Y1) ++ x :: (X2 ++ Q ++ X1)).length by simp; omega, e]
      have f0 := hAQ.frozen (off + (a + k))
      have f1 := hAQ.frozen (off + (b + k))
      have f2 : (wr.setCell ⟨g, off + (a + k), none⟩ (.int .i32 y)).cell? ⟨g, off + (b + k), none⟩ = some (.int .i32 y) := by
        rw [World.cell?_setCell_other _ _ _ _ (fun e => by injection e with _ e _; omega)]; exact c1
      have f3 : (wr.setCell ⟨g, off + (a + k), none⟩ (.int .i32 y)).frozen? ⟨g, off + (b + k), none⟩ = false := by simpa using f1
      have HAQ := Lib.hid hAQ
      have hsw := Lib.hid (hAQ.swap hu hv)
      have q1 : IntKind.i64.wrap ((a : Int) + (k : Int)) = ((a + k : Nat) : Int) := by rw [IntKind.wrap_i64]; omega
      have q2 : IntKind.i64.wrap ((b : Int) + (k : Int)) = ((b + k : Nat) : Int) := by rw [IntKind.wrap_i64]; omega
      have q3 : a + k < n := by omega
      have q4 : b + k < n := by omega
      clear hAQ hu hv hx2 hy2
      generalize a + k = u at *
      generalize b + k = v at *
      have q5 : (0 : Int) ≤ (u : Int) := by omega
      have q6 : (0 : Int) ≤ (v : Int) := by omega
      have q7 : (u : Int) < (n : Int) := by omega
      have q8 : (v : Int) < (n : Int) := by omega
      go_wp2
      go_region
      clear f0 f1 f2 f3 c0 c1
      go_wp2
      exact ⟨⟨X1 ++ [x], X2, Y1 ++ [y], Y2, by rw [HX.out]; simp, by rw [HY.out]; simp, by have := H11.out; simp; omega, by have := HK.out; simp; omega, by have := hsw.out.drew; simpa using this⟩, by simp [intOf]; omega⟩
def RotRel (w0 : World) (g off n m : Nat) (T : List Int) (i j : Value) (wr : World) : Prop :=
  ∃ P X Y S : List Int, i = .int .i64 (X.length : Nat) ∧ j = .int .i64 (Y.length : Nat) ∧ 1 ≤ X.length ∧ 1 ≤ Y.length ∧ P.length + X.length = m ∧ Arr w0 g off n (P ++ X ++ Y ++ S) wr ∧ P ++ Y ++ X ++ S = T
set_option maxHeartbeats 1600000 in
set_option maxRecDepth 100000 in
theorem rotate_any (w0 : World) (g off n : Nat) (P X Y S : List Int) (a m b : Nat) (w : World) (cap : Nat) (F : Value) (hn : n ≤ 1000000) (hoff : off ≤ 1000000) (hX : 1 ≤ X.length) (hY : 1 ≤ Y.length)
    (ha : a = P.length) (hm : m = P.length + X.length) (hb : b = P.length + X.length + Y.length) (h : Arr w0 g off n (P ++ X ++ Y ++ S) w) :
    Calls Try.prog 40 #[.slice (some ⟨g, off, none⟩) n cap, .int .i64 (a : Nat), .int .i64 (m : Nat), .int .i64 (b : Nat), F] w (BecomesPost w0 g off n (P ++ Y ++ X ++ S)) := by
  have hl := h.len
  simp at hl
  have H := Lib.hid h
  have HM := Lib.hid hm
  have e1 : IntKind.i64.wrap ((m : Int) - (a : Int)) = ((X.length : Nat) : Int) := by rw [IntKind.wrap_i64]; omega
  have e2 : IntKind.i64.wrap ((b : Int) - (m : Int)) = ((Y.length : Nat) : Int) := by rw [IntKind.wrap_i64]; omega
  have hmn : m ≤ n := by omega
  clear h hm ha hb hl
  go_enter Try.func40, Try.ntmps40
  go_wp2
  clear e1 e2
  go_loopw [10, 11] (fun i j wr => RotRel w0 g off n m (P ++ Y ++ X ++ S) i j wr) (fun i j _ => (intOf i).toNat + (intOf j).toNat)
  case atStart => exact ⟨P, X, Y, S, rfl, rfl, hX, hY, HM.out.symm, H.out, rfl⟩
  case round =>
    obtain ⟨P', X', Y', S', rfl, rfl, hx, hy, hpm, harr, hT⟩ := hrel
    have HT := Lib.hid hT
    have HAR := Lib.hid harr
    have hl := harr.len
    simp at hl
    clear hT harr
    generalize hi : X'.length = i at hx hpm hl
    generalize hj : Y'.length = j at hy hl
    generalize hp : P'.length = p at hpm hl
    have HI := Lib.hid hi
    have HJ := Lib.hid hj
    have HP := Lib.hid hp
    have e1 : IntKind.i64.wrap ((m : Int) - (i : Int)) = ((p : Nat) : Int) := by rw [IntKind.wrap_i64]; omega
    clear hi hj hp
    by_cases hij : i = j
    · have hb1 : ((i : Int) != (j : Int)) = false := by simp [hij]
      have HIJ := Lib.hid hij
      clear hij
      go_wp2_with fail
      refine (swapRange_any w0 g off n P' X' [] Y' S' p m i _ cap F hn hoff (by rw [HI.out, HJ.out, HIJ.out]) HP.out.symm (by rw [HP.out, HI.out]; simp; omega) HI.out.symm (by have := HAR.out; simpa using this)).mono ?_
      rintro e w2 ⟨rfl, h2⟩
      go_wp2
      go_end0
      exact ⟨rfl, by rw [← HT.out]; simpa using h2⟩
    · have hb1 : ((i : Int) != (j : Int)) = true := by simp; omega
      by_cases hgt : j < i
      · have hsp : ∃ X1 X2, X' = X1 ++ X2 ∧ X1.length = j := ⟨X'.take j, X'.drop j, (List.take_append_drop j X').symm, by rw [List.length_take, HI.out]; omega⟩
        obtain ⟨X1, X2, hX12, hX1⟩ := hsp
        have hX2 : X2.length = i - j := by have := HI.out; rw [hX12] at this; simp at this; omega
        have HX12 := Lib.hid hX12
        have HX1 := Lib.hid hX1
        have HX2 := Lib.hid hX2
        have e3 : IntKind.i64.wrap ((i : Int) - (j : Int)) = ((i - j : Nat) : Int) := by rw [IntKind.wrap_i64]; omega
        have hgt2 : (j : Int) < (i : Int) := by omega
        clear hX12 hX1 hX2 hij
        go_wp2_with fail
        refine (swapRange_any w0 g off n P' X1 X2 Y' S' p m j _ cap F hn hoff (by rw [HX1.out, HJ.out]) HP.out.symm (by rw [HP.out, HX1.out, HX2.out]; omega) HX1.out.symm (by have := HAR.out; rw [HX12.out] at this; simpa using this)).mono ?_
        rintro e w2 ⟨rfl, h2⟩
        go_wp2
        refine ⟨⟨P' ++ Y', X2, X1, S', by rw [HX2.out], by rw [HX1.out], by rw [HX2.out]; omega, by rw [HX1.out]; omega, by simp [HP.out, HJ.out, HX2.out]; omega, by simpa using h2, by rw [← HT.out, HX12.out]; simp⟩, by simp [intOf]; omega⟩
      · have hlt : i < j := by omega
        have hsp : ∃ Y1 Y2, Y' = Y1 ++ Y2 ∧ Y1.length = j - i := ⟨Y'.take (j - i), Y'.drop (j - i), (List.take_append_drop (j - i) Y').symm, by rw [List.length_take, HJ.out]; omega⟩
        obtain ⟨Y1, Y2, hY12, hY1⟩ := hsp
        have hY2 : Y2.length = i := by have := HJ.out; rw [hY12] at this; simp at this; omega
        have HY12 := Lib.hid hY12
        have HY1 := Lib.hid hY1
        have HY2 := Lib.hid hY2
        generalize hq1 : j - i = d at *
        have hd : j = d + i := by omega
        have e3 : IntKind.i64.wrap ((j : Int) - (i : Int)) = (d : Int) := by rw [IntKind.wrap_i64]; omega
        have e4 : IntKind.i64.wrap ((m : Int) + (j : Int)) = ((m + j : Nat) : Int) := by rw [IntKind.wrap_i64]; omega
        have e5 : IntKind.i64.wrap (((m + j : Nat) : Int) - (i : Int)) = ((m + d : Nat) : Int) := by rw [IntKind.wrap_i64]; omega
        have e6 : IntKind.i64.wrap ((m : Int) + (j : Int) - (i : Int)) = ((m + d : Nat) : Int) := by rw [IntKind.wrap_i64]; omega
        have hgt2 : ¬ (j : Int) < (i : Int) := by omega
        have hd1 : 1 ≤ d := by omega
        have HD := Lib.hid hd
        clear hY12 hY1 hY2 hij hgt hd hq1
        go_wp2_with fail
        have HMD := Lib.hid (swapRange_any w0 g off n P' X' Y1 Y2 S' p (m + d) i wr cap F hn hoff (by rw [HI.out, HY2.out]) HP.out.symm (by rw [HP.out, HI.out, HY1.out]; omega) HI.out.symm (by have := HAR.out; rw [HY12.out] at this; simpa using this))
        refine HMD.out.mono ?_
        rintro e w2 ⟨rfl, h2⟩
        go_wp2
        refine ⟨⟨P', Y2, Y1, X' ++ S', by rw [HY2.out], by rw [HY1.out], by rw [HY2.out]; omega, by rw [HY1.out]; omega, by rw [HP.out, HY2.out]; omega, by simpa using h2, by rw [← HT.out, HY12.out]; simp⟩, by have := HD.out; simp [intOf]; omega⟩
end Go.Proofs.Ytmfmnlioojkjgaa
