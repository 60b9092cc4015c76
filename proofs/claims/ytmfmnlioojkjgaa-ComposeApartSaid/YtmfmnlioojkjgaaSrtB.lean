/- insertionSortCmpFunc. -/
import Derived.Test.YtmfmnlioojkjgaaSrtA
namespace Go.Proofs.Ytmfmnlioojkjgaa
open Go.RowKit
set_option linter.unusedVariables false
set_option linter.unnecessarySimpa false

/-- a stable order of A lies in A's place -/
def SortPost (w0 : World) (g off n : Nat) (P A S : List Int) (e : Ending) (w' : World) : Prop :=
  e = .returned (.tuple #[]) ∧ ∃ M, SP A M ∧ Srt M ∧ Arr w0 g off n (P ++ M ++ S) w'
def InsOut (w0 : World) (g off n : Nat) (P A S : List Int) (i : Value) (wr : World) : Prop :=
  ∃ A1 A2 M : List Int, A = A1 ++ A2 ∧ 1 ≤ A1.length ∧ i = .int .i64 ((P.length + A1.length : Nat) : Int) ∧ SP A1 M ∧ Srt M ∧ Arr w0 g off n (P ++ M ++ (A2 ++ S)) wr
def InsIn (w0 : World) (g off n : Nat) (P M : List Int) (x : Int) (S : List Int) (j : Value) (wr : World) : Prop :=
  ∃ L1 L2 : List Int, M = L1 ++ L2 ∧ j = .int .i64 ((P.length + L1.length : Nat) : Int) ∧ (∀ z ∈ L2, clsI x < clsI z) ∧ Arr w0 g off n ((P ++ L1) ++ x :: (L2 ++ S)) wr
theorem getD_mid (P S : List Int) (x : Int) : (P ++ x :: S).getD P.length 0 = x := by simp [List.getD_eq_getElem?_getD]
theorem ins_done {A1 M L1 L2 : List Int} {x : Int} (hsp : SP A1 M) (hsrt : Srt M) (hM : M = L1 ++ L2) (hgt : ∀ z ∈ L2, clsI x < clsI z) (hle : ∀ y ∈ L1, clsI y ≤ clsI x) :
    SP (A1 ++ [x]) (L1 ++ x :: L2) ∧ Srt (L1 ++ x :: L2) := by
  subst hM
  refine ⟨?_, ?_⟩
  · have h1 : SP (A1 ++ [x]) (L1 ++ (L2 ++ [x])) := by
      have := hsp.append (SP.refl [x])
      simpa using this
    refine h1.trans ?_
    have h2 : SP (L2 ++ [x]) ([x] ++ L2) := SP.flip fun a ha b hb => by
      have := hgt a ha
      simp at hb; subst hb; omega
    exact (SP.refl L1).append h2
  · refine Srt.append hsrt.left (List.pairwise_cons.2 ⟨fun z hz => Int.le_of_lt (hgt z hz), hsrt.right⟩) fun a ha b hb => ?_
    rcases List.mem_cons.1 hb with rfl | hb
    · exact hle a ha
    · exact hsrt.cross a ha b hb
theorem last_le {L : List Int} {y x : Int} (h : Srt (L ++ [y])) (hy : clsI y ≤ clsI x) : ∀ z ∈ L ++ [y], clsI z ≤ clsI x := fun z hz => by
  rcases List.mem_append.1 hz with hz | hz
  · have := h.cross z hz y (by simp); omega
  · simp at hz; subst hz; exact hy
set_option maxHeartbeats 1600000 in
set_option maxRecDepth 100000 in
theorem insert_any (w0 : World) (g off n : Nat) (P A S : List Int) (w : World) (cap : Nat) (hn : n ≤ 1000000) (hoff : off ≤ 1000000) (hA : 1 ≤ A.length) (h : Arr w0 g off n (P ++ A ++ S) w) :
    Calls Try.prog 38 #[.slice (some ⟨g, off, none⟩) n cap, .int .i64 (P.length : Nat), .int .i64 ((P.length + A.length : Nat) : Int), .func (.func 34) #[] #[]] w (SortPost w0 g off n P A S) := by
  have hl := h.len
  simp at hl
  have H := Lib.hid h
  clear h
  generalize hp : P.length = p at hl
  generalize ha : A.length = al at hl hA
  have HP := Lib.hid hp
  have HAl := Lib.hid ha
  clear hp ha
  go_enter Try.func38, Try.ntmps38
  go_wp2
  go_loopw [8] (fun i wr => InsOut w0 g off n P A S i wr) (fun i _ => n + 1 - (intOf i).toNat)
  case atStart =>
    match A, hA, HAl with
    | [], hA, HAl => exact absurd HAl.out (by simp; omega)
    | x :: A2, hA, HAl => exact ⟨[x], A2, [x], rfl, by simp, by rw [HP.out]; simp, SP.refl _, List.pairwise_singleton _ _, by have := H.out; simpa using this⟩
  case round =>
    obtain ⟨A1, A2, M, hA12, h1, rfl, hsp, hsrt, harr⟩ := hrel
    have HSP := Lib.hid hsp
    have HSRT := Lib.hid hsrt
    have HAR := Lib.hid harr
    have hA1 : A1.length + A2.length = al := by have := HAl.out; rw [hA12] at this; simpa using this
    have HA12 := Lib.hid hA12
    have hM : M.length = A1.length := hsp.length.symm
    clear hsp hsrt harr hA12
    rw [HP.out]
    generalize hk : A1.length = k at h1 hA1 hM
    have HK := Lib.hid hk
    clear hk
    match A2, hA1, HA12, HAR with
    | [], hA1, HA12, HAR =>
      have hk : p + k = p + al := by simp at hA1; omega
      go_wp2
      go_end0
      refine ⟨rfl, M, ?_, HSRT.out, by simpa using HAR.out⟩
      have := HA12.out
      simp at this
      rw [this]; exact HSP.out
    | x :: A2, hA1, HA12, HAR =>
      simp at hA1
      have hlt : p + k < p + al := by omega
      go_wp2
      go_loopw [9] (fun i wr => InsIn w0 g off n P M x (A2 ++ S) i wr) (fun i _ => (intOf i).toNat)
      case atStart => exact ⟨M, [], by simp, by rw [HP.out, hM], fun z hz => by simp at hz, by have := HAR.out; simpa using this⟩
      case round =>
        obtain ⟨L1, L2, hL, rfl, hgt, harr⟩ := hrel
        have HLL := Lib.hid hL
        have HGT := Lib.hid hgt
        have HAR2 := Lib.hid harr
        have hlen2 := harr.len
        simp [HP.out] at hlen2
        rw [HP.out]
        have c0 := harr.cell (j := (P ++ L1).length) (by simp [HP.out]; omega)
        rw [getD_mid] at c0
        have hj : (P ++ L1).length = p + L1.length := by simp [HP.out]
        rw [hj] at c0
        clear hL hgt hj
        rcases List.eq_nil_or_concat L1 with rfl | ⟨L1', y, rfl⟩
        · clear harr
          generalize hjj : p + ([] : List Int).length = j at c0
          have hjp : j = p := by simpa using hjj.symm
          clear hjj
          have hd : decide (p < j) = false := decide_eq_false (by omega)
          have HJP := Lib.hid hjp
          clear hjp
          go_wp2
          go_quiet (fail)
          go_wp2
          have hd3 := ins_done HSP.out HSRT.out HLL.out HGT.out (fun y hy => by simp at hy)
          exact ⟨⟨A1 ++ [x], A2, [] ++ x :: L2, by rw [HA12.out]; simp, by simp, by have := HK.out; have := HP.out; simp; omega, hd3.1, hd3.2, by have := HAR2.out.drewN nq; simpa using this⟩, by simp [intOf]; omega⟩
        · have c1 := harr.cell (j := P.length + L1'.length) (by simp [HP.out] at hlen2 ⊢; omega)
          have e1 : (P ++ (L1' ++ [y]) ++ x :: (L2 ++ (A2 ++ S))).getD (P.length + L1'.length) 0 = y := by
            have := getD_mid (P ++ L1') (x :: (L2 ++ (A2 ++ S))) y
            simpa using this
          rw [List.concat_eq_append] at c1 c0 harr HLL HAR2 hlen2
          rw [e1, HP.out] at c1
          rw [List.concat_eq_append]
          clear e1 harr
          generalize hjj : p + (L1' ++ [y]).length = j at c0
          generalize hjj' : p + L1'.length = j' at c1
          have hjp : j = j' + 1 := by simp at hjj; omega
          have hpj : p ≤ j' := by omega
          have hjn : j < n := by simp at hlen2 hjj; omega
          have HJ := Lib.hid hjj
          have HJ' := Lib.hid hjj'
          have HX := Lib.hid (cmp_any x y)
          generalize hdd : clsI x - clsI y = d at HX
          have HDD := Lib.hid hdd
          clear hjj hjj' hlen2 hdd
          have hd : decide (p < j) = true := decide_eq_true (by omega)
          have q1 : IntKind.i64.wrap ((j : Int) - 1) = (j' : Int) := by rw [IntKind.wrap_i64]; omega
          have q2 : (0 : Int) ≤ (j' : Int) := by omega
          have q3 : (j' : Int) < (n : Int) := by omega
          have q4 : (0 : Int) ≤ (j : Int) := by omega
          have q5 : (j : Int) < (n : Int) := by omega
          have HJP := Lib.hid hjp
          clear hjp
          by_cases hlt2 : d < 0
          · have hd2 : decide (d < 0) = true := decide_eq_true hlt2
            go_wp2
            go_quiet ((go_at_call 34; exact Calls.quiet_of_same ((HX.out _).mono fun _ _ ⟨he, hw⟩ => ⟨he, hw.symm⟩)))
            go_wp2
            have HAQ := Lib.hid (HAR2.out.drewN nq)
            have d0 : (wr.drewN nq).cell? ⟨g, off + j, none⟩ = some (.int .i32 x) := c0
            have d1 : (wr.drewN nq).cell? ⟨g, off + j', none⟩ = some (.int .i32 y) := c1
            generalize wr.drewN nq = wq at HAQ d0 d1
            clear c0 c1
            have f0 := HAQ.out.frozen (off + j)
            have f1 := HAQ.out.frozen (off + j')
            have f2 : (wq.setCell ⟨g, off + j, none⟩ (.int .i32 y)).cell? ⟨g, off + j', none⟩ = some (.int .i32 y) := by
              rw [World.cell?_setCell_other _ _ _ _ (fun e => by injection e with _ e _; have := HJP.out; omega)]; exact d1
            have f3 : (wq.setCell ⟨g, off + j, none⟩ (.int .i32 y)).frozen? ⟨g, off + j', none⟩ = false := by simpa using f1
            go_region
            have hsw := Arr.swap' (P := P ++ L1') (Q := []) (S := L2 ++ (A2 ++ S)) (x := y) (y := x) (i := j') (j := j) (by have := HAQ.out; simpa using this) (by have := HJ'.out; have := HP.out; simp; omega) (by have := HJ'.out; have := HP.out; have := HJP.out; simp; omega)
            clear f0 f1 f2 f3 d0 d1
            go_wp2
            exact ⟨⟨L1', y :: L2, by rw [HLL.out]; simp, by have := HJ'.out; have := HP.out; simp; omega, fun z hz => by
              rcases List.mem_cons.1 hz with rfl | hz
              · have := HDD.out; omega
              · exact HGT.out z hz, by have := hsw.drew; simpa using this⟩, by have := HJP.out; simp [intOf]; omega⟩
          · have hd2 : decide (d < 0) = false := decide_eq_false hlt2
            go_wp2
            go_quiet ((go_at_call 34; exact Calls.quiet_of_same ((HX.out _).mono fun _ _ ⟨he, hw⟩ => ⟨he, hw.symm⟩)))
            go_wp2
            have hle : clsI y ≤ clsI x := by have := HDD.out; omega
            have hM2 := HLL.out
            have hd3 := ins_done HSP.out HSRT.out hM2 HGT.out (last_le (by have := HSRT.out; rw [hM2] at this; exact this.left) hle)
            go_roundw
            case rel =>
              repeat apply Exists.intro
              exact ⟨⟨A1 ++ [x], A2, (L1' ++ [y]) ++ x :: L2, by rw [HA12.out]; simp, by simp, by have := HK.out; have := HP.out; simp; omega, hd3.1, hd3.2, by have := HAR2.out.drewN nq; simpa using this⟩, rfl⟩
            case measure => simp [intOf]; omega
end Go.Proofs.Ytmfmnlioojkjgaa
