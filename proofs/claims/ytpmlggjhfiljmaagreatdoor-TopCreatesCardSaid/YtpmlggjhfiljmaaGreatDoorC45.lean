/- Contracts that the law rests on, part 45 of 50 (FacC, CurA, CurB). Each states its own conditions. -/
import Derived.Test.YtpmlggjhfiljmaaGreatDoorC27
import Derived.Test.YtpmlggjhfiljmaaGreatDoorC35
import Derived.Test.YtpmlggjhfiljmaaGreatDoorC40
import Derived.Test.YtpmlggjhfiljmaaGreatDoorC44
/- Layer 14: Names. -/
namespace Go.Proofs.YtpmlggjhfiljmaaGreatDoor
open Go.RowKit
set_option linter.unusedVariables false
set_option linter.unnecessarySimpa false
set_option linter.unusedSimpArgs false
def NamesPost (ls : List ByteArray) (w : World) (e : Ending) (w' : World) : Prop := ∃ a c, e = .returned (.slice a ls.length c) ∧ OwnL w' (fun g => w.heap.size ≤ g) (.slice a ls.length c) ls ∧ Fresh w w'
theorem OwnL.shape {w : World} {A : Nat → Prop} {v : Value} {l : List ByteArray} (h : OwnL w A v l) : ∃ a c, v = .slice a l.length c := OwnA.shape h
set_option maxRecDepth 100000 in
set_option maxHeartbeats 1600000 in
theorem names_any (enc : Int) (A : Nat → Prop) (v : Value) (l : List Ent) (w : World) (h : SlE w A v l) (hl : l.length ≤ 100000) (ho : ∀ e ∈ l, OfOK enc e) :
    Calls Tryz.prog 74 #[.int .i64 enc, v] w (NamesPost (l.map (faceS enc)) w) := by
  rcases h.cases with ⟨rfl, a, c, rfl⟩ | ⟨hl0, g, off, cap, rfl, hcap, hA, hg, hc⟩
  · refine (names_nil enc a c w).mono ?_
    rintro e w' ⟨rfl, rfl⟩
    exact ⟨none, 0, rfl, OwnA.nil _ _ _ _, Fresh.refl _⟩
  · have HC := Lib.hid hc
    have HO := Lib.hid ho
    clear hc h ho
    obtain ⟨i0, hi0, hz0, hz1, hz2⟩ := info_partsG infoStr
    obtain ⟨n, hn⟩ : ∃ n, l.length = n := ⟨_, rfl⟩
    have HN := Lib.hid hn
    rw [hn] at hl hl0 hcap ⊢
    clear hn
    go_enter Tryz.func74, Tryz.ntmps74
    go_wp2
    go_loopw [5, 10] (fun v i wr => ∃ k : Nat, i = .int .i64 k ∧ k ≤ n ∧ OwnL wr (fun g => w.heap.size ≤ g) v ((l.take k).map (faceS enc)) ∧ Fresh w wr) (fun _ i _ => n - (intOf i).toNat)
    case atStart => exact ⟨0, rfl, by omega, OwnA.nil _ _ _ _, Fresh.refl _⟩
    case round =>
      obtain ⟨k, rfl, hk, hown, hf⟩ := hrel
      by_cases hlt : k < n
      · have hkl : k < l.length := by rw [HN.out]; exact hlt
        obtain ⟨c0, c1, c2, c3, c4⟩ := HC.out k hkl
        have d0 := (Below.cell hf (p := ⟨g, off + k * 5, none⟩) hg).trans c0
        have d1 := (Below.cell hf (p := ⟨g, off + k * 5 + 1, none⟩) hg).trans c1
        have d2 := (Below.cell hf (p := ⟨g, off + k * 5 + 2, none⟩) hg).trans c2
        have d3 := (Below.cell hf (p := ⟨g, off + k * 5 + 3, none⟩) hg).trans c3
        have d4 := (Below.cell hf (p := ⟨g, off + k * 5 + 4, none⟩) hg).trans c4
        have HT : Hid ((l.take (k + 1)).map (faceS enc) = (l.take k).map (faceS enc) ++ [faceS enc l[k]]) := Lib.hid (by rw [List.take_succ_eq_append_getElem hkl, List.map_append]; rfl)
        have HK := Lib.hid (HO.out l[k] (List.getElem_mem _))
        have hll : ((l.take k).map (faceS enc)).length = k := by simp; omega
        unfold OwnL at hown
        rw [hll] at hown
        obtain ⟨acc, hacc⟩ : ∃ acc, (l.take k).map (faceS enc) = acc := ⟨_, rfl⟩
        rw [hacc] at hown HT hll
        obtain ⟨fc, hfc⟩ : ∃ fc, faceS enc l[k] = fc := ⟨_, rfl⟩
        have HLL := Lib.hid hll
        unfold OfOK at HK
        rw [hfc] at HK HT
        obtain ⟨⟨nm, nd, dr, ck, sh⟩, he⟩ : ∃ e, l[k] = e := ⟨_, rfl⟩
        rw [he] at d0 d1 d2 d3 d4 HK
        have i1 : (k : Int) < (n : Int) := by omega
        obtain ⟨W1, hW1⟩ : ∃ W1, wr.alloc (.cells #[.string nm, .int .i64 nd, .bool dr, .int .i64 ck, .int .i64 sh] 88) = W1 := ⟨_, rfl⟩
        have h01 : Fresh wr W1 := by rw [← hW1]; exact (Fresh.refl _).alloc _
        have e1 : Blk W1 wr.heap.size 88 #[.string nm, .int .i64 nd, .bool dr, .int .i64 ck, .int .i64 sh] := by rw [← hW1]; exact Blk.new _ _ _
        have q0 : W1.cell? ⟨wr.heap.size, 0, none⟩ = some (.string nm) := e1.cell 0
        have q1 : W1.cell? ⟨wr.heap.size, 1, none⟩ = some (.int .i64 nd) := e1.cell 1
        have q2 : W1.cell? ⟨wr.heap.size, 2, none⟩ = some (.bool dr) := e1.cell 2
        have q3 : W1.cell? ⟨wr.heap.size, 3, none⟩ = some (.int .i64 ck) := e1.cell 3
        have q4 : W1.cell? ⟨wr.heap.size, 4, none⟩ = some (.int .i64 sh) := e1.cell 4
        clear c0 c1 c2 c3 c4 hacc hfc he hll e1
        go_wp2_with fail
        refine (HK.out _).mono ?_
        rintro e w3 ⟨rfl, hf3⟩
        have hf13 := h01.trans hf3
        have hf4 := Lib.hid (hf.trans hf13)
        clear q0 q1 q2 q3 q4 d0 d1 d2 d3 d4 hW1
        go_wp2_with (at_builtin; refine wpList_append_ownA _ rfl _ _ 38 rfl (fun g => w.heap.size ≤ g) 9 i0 _ 1 16 Tryz.underlying38 hi0 hz0 hz1 hz2 rfl (by decide) _ k _ rfl (hown.fresh (hf13.alloc _)) ⟨w3.heap.size, 0, none⟩ 1 1 [.string fc] rfl rfl (newCells _ _ _) (by intro u hu; simp at hu; rcases hu with rfl; rfl) (by omega) (by decide) ?_; intro a' c' w2 o2 u2)
        have HZ := Lib.hid (And.intro (OwnA.grew o2 (by have := hf4.out.size; simp; omega)) ((hf4.out.alloc _).mut2 u2 (fun j hj => hown.2 j hj)))
        clear o2 u2 hown hf13
        go_roundw
        case rel =>
          obtain ⟨g1, g2⟩ := HZ.out
          refine ⟨k + 1, by go_num, by omega, ?_, g2⟩
          unfold OwnL
          rw [HT.out, List.length_append, HLL.out]
          unfold strs at *
          rw [List.map_append]
          exact g1
        case measure => simp [intOf]; omega
      · have hks : (l.take k) = l := List.take_of_length_le (by have := HN.out; omega)
        rw [hks] at hown
        have hml : (l.map (faceS enc)).length = k := by simp; have := HN.out; omega
        obtain ⟨a', c', rfl⟩ := hown.shape
        have HOW := Lib.hid hown
        have HML := Lib.hid hml
        rw [hml]
        clear hks hml hown
        go_wp2
        go_ret
        exact ⟨a', c', by rw [HML.out]; rfl, HOW.out, hf⟩
end Go.Proofs.YtpmlggjhfiljmaaGreatDoor
/- Layer 16: a cursor's reading: sort.Search, Read. -/
namespace Go.Proofs.YtpmlggjhfiljmaaGreatDoor
open Go.RowKit
set_option linter.unusedVariables false
set_option linter.unnecessarySimpa false
set_option linter.unusedSimpArgs false
/-- a function value that tells of numbers below n, in every world behind w -/
def PredN (w : World) (f : FuncId) (bd cp : Array Value) (p : Nat → Bool) (n : Nat) : Prop :=
  (∀ (args : Array Value) (W : World), Sem.run Tryz.prog (callFunc f args) W = .ok (.enter f args) W) ∧ ∀ W, Fresh w W → ∀ i, i < n → Calls Tryz.prog f (bd.push (.int .i64 i) ++ cp) W fun en W' => en = .returned (.bool (p i)) ∧ Fresh W W'
/-- where a number stands so that what is ahead of it isn't told, and it is -/
def SearchG (p : Nat → Bool) (n : Nat) (w : World) (e : Ending) (w' : World) : Prop := ∃ k : Nat, e = .returned (.int .i64 k) ∧ k ≤ n ∧ (0 < k → p (k - 1) = false) ∧ (k < n → p k = true) ∧ Fresh w w'
set_option maxRecDepth 100000 in
set_option maxHeartbeats 1600000 in
theorem search_any (n : Nat) (hn : n ≤ 1000000) (f : FuncId) (bd cp : Array Value) (p : Nat → Bool) (w : World) (hp : PredN w f bd cp p n) :
    Calls Tryz.prog 129 #[.int .i64 n, .func (.func f) bd cp] w (SearchG p n w) := by
  obtain ⟨hen, hp⟩ := hp
  have HP := Lib.hid hp
  clear hp
  go_enter Tryz.func129, Tryz.ntmps129
  go_wp2
  go_loopw [5, 6, 7] (fun i j h wr => ∃ a b : Nat, i = .int .i64 a ∧ j = .int .i64 b ∧ a ≤ b ∧ b ≤ n ∧ (0 < a → p (a - 1) = false) ∧ (b < n → p b = true) ∧ Fresh w wr) (fun i j _ _ => (intOf j).toNat - (intOf i).toNat)
  case atStart => exact ⟨0, n, rfl, rfl, by omega, by omega, fun h => by omega, fun h => by omega, Fresh.refl _⟩
  case round =>
    obtain ⟨a, b, rfl, rfl, hab, hbn, h1, h2, hf⟩ := hrel
    have H1 := Lib.hid (And.intro h1 h2)
    clear h1 h2
    by_cases hlt : a < b
    · have i1 : (a : Int) < (b : Int) := by omega
      go_wp2_with fail
      obtain ⟨m, hm, ham, hmb⟩ : ∃ m : Nat, ((a : Int) + (b : Int)) / 2 = (m : Int) ∧ a ≤ m ∧ m < b := ⟨(a + b) / 2, by omega, by omega, by omega⟩
      rw [hm]
      have HM := Lib.hid hm
      clear hm
      refine (HP.out wr hf m (by omega)).mono ?_
      rintro e w2 ⟨rfl, hf2⟩
      have HF := Lib.hid (hf.trans hf2)
      clear hf2
      cases hpm : p m with
      | true =>
        have HQ := Lib.hid hpm
        clear hpm
        go_wp2
        go_roundw
        case rel => exact ⟨a, m, rfl, rfl, by omega, by omega, H1.out.1, fun _ => HQ.out, HF.out⟩
        case measure => simp [intOf]; omega
      | false =>
        have HQ := Lib.hid hpm
        clear hpm
        go_wp2
        go_roundw
        case rel => exact ⟨m + 1, b, by go_num, rfl, by omega, by omega, fun _ => by simpa using HQ.out, H1.out.2, HF.out⟩
        case measure => simp [intOf]; omega
    · have i1 : ¬ (a : Int) < (b : Int) := by omega
      obtain rfl : a = b := by omega
      go_wp2
      go_ret
      exact ⟨a, rfl, hbn, H1.out.1, H1.out.2, hf⟩
theorem enters_read1 : ∀ (args : Array Value) (W : World), Sem.run Tryz.prog (callFunc 130 args) W = .ok (.enter 130 args) W := by intro args w; go_simp
set_option maxRecDepth 100000 in
set_option maxHeartbeats 1600000 in
theorem read1_any (g off n cap i b0 b1 : Nat) (ck cur : Int) (w : World) (hi : i < n) (hn : n ≤ 1000000) (c0 : w.cell? ⟨b0, 0, none⟩ = some (.slice (some ⟨g, off, none⟩) n cap)) (c1 : w.cell? ⟨b1, 0, none⟩ = some (.int .i64 cur)) (c2 : w.cell? ⟨g, off + i * 5 + 3, none⟩ = some (.int .i64 ck)) :
    Calls Tryz.prog 130 #[.int .i64 i, .pointer (some ⟨b0, 0, none⟩), .pointer (some ⟨b1, 0, none⟩)] w fun en w' => en = .returned (.bool (decide (cur < ck))) ∧ Fresh w w' := by
  have i0 : (0 : Int) ≤ (i : Int) := by omega
  have i1 : (i : Int) < (n : Int) := by omega
  go_enter Tryz.func130, Tryz.ntmps130
  go_wp2_with fail
  go_quiet (fail)
  all_goals
    go_wp2
    go_ret
    exact ⟨rfl, (Fresh.refl _).drewN _⟩
end Go.Proofs.YtpmlggjhfiljmaaGreatDoor
/- Layer 16: a cursor's reading: Read. -/
namespace Go.Proofs.YtpmlggjhfiljmaaGreatDoor
open Go.RowKit
set_option linter.unusedVariables false
set_option linter.unnecessarySimpa false
set_option linter.unusedSimpArgs false
theorem ecs_drop : ∀ (k : Nat) (l : List Ent), ecs (l.drop k) = (ecs l).drop (k * 5)
  | 0, l => by simp
  | k + 1, [] => by simp [ecs]
  | k + 1, x :: l => by
    have ih := ecs_drop k l
    rw [List.drop_succ_cons, ih]
    have : ecs (x :: l) = ec x ++ ecs l := by unfold ecs; rw [List.flatMap_cons]
    rw [this, show (k + 1) * 5 = (ec x).length + k * 5 by simp [ec]; omega, List.drop_append]
    simp
theorem ecs_take : ∀ (k : Nat) (l : List Ent), ecs (l.take k) = (ecs l).take (k * 5)
  | 0, l => by simp [ecs]
  | k + 1, [] => by simp [ecs]
  | k + 1, x :: l => by
    have ih := ecs_take k l
    have e1 : ecs (x :: l) = ec x ++ ecs l := by unfold ecs; rw [List.flatMap_cons]
    have e2 : ecs (x :: l.take k) = ec x ++ ecs (l.take k) := by unfold ecs; rw [List.flatMap_cons]
    rw [List.take_succ_cons, e2, e1, ih, show (k + 1) * 5 = (ec x).length + k * 5 by simp [ec]; omega, List.take_append, List.take_of_length_le (by omega : (ec x).length ≤ (ec x).length + k * 5)]
    simp
/-- a part of a slice of entries -/
theorem SlE.sub {w : World} {A : Nat → Prop} {g off n cap k m cap' : Nat} {l : List Ent} (h : SlE w A (.slice (some ⟨g, off, none⟩) n cap) l) (hk : k + m ≤ l.length) (hm : m ≤ cap') : SlE w A (.slice (some ⟨g, off + k * 5, none⟩) m cap') ((l.drop k).take m) := by
  obtain ⟨h1, a, c, hv, hcap, h0⟩ := h
  injection hv with hv1 hv2 hv3
  subst hv1
  have hlen : ((l.drop k).take m).length = m := by simp; omega
  refine ⟨by rw [ecs_len, hlen], _, cap', by rw [hlen], by rw [hlen]; exact hm, ?_⟩
  rw [hlen]
  rcases h0 with h0 | ⟨g', off', e, hA, hg, hc⟩
  · exact .inl (by omega)
  · injection e with e
    injection e with e1 e2
    subst e1 e2
    refine .inr ⟨g, off + k * 5, rfl, hA, hg, fun j hj => ?_⟩
    rw [show off + k * 5 + j = off + (k * 5 + j) by omega, hc (k * 5 + j) (by omega), ecs_take, ecs_drop, List.getElem?_take, if_pos hj, List.getElem?_drop]
def readR (l : List Ent) (cur n : Int) : List Ent × Int × Int :=
  if n < 1 ∨ 64 < n then ([], 0, 1) else if cur < 0 then ([], 0, 14) else
    (((l.filter fun e => decide (cur < e.cookie)).take n.toNat), ((((l.filter fun e => decide (cur < e.cookie)).take n.toNat).getLast?.map (·.cookie)).getD cur), 0)
def ReadF (r : List Ent × Int × Int) (w : World) (e : Ending) (w' : World) : Prop := ∃ a c, e = .returned (.tuple #[.slice a r.1.length c, .int .i64 r.2.1, .int .i64 r.2.2]) ∧ SlE w' (fun g => w.heap.size ≤ g) (.slice a r.1.length c) r.1 ∧ Fresh w w'
/-- of what rises the tail behind a cursor -/
theorem tail_filter {l : List Ent} {cur : Int} : ∀ {k : Nat}, l.Pairwise (fun a b => a.cookie < b.cookie) → k ≤ l.length → (∀ (h : 0 < k) (h2 : k - 1 < l.length), ¬ cur < l[k - 1].cookie) → (∀ h : k < l.length, cur < l[k].cookie) → l.filter (fun e => decide (cur < e.cookie)) = l.drop k := by
  induction l with
  | nil => intro k _ hk _ _; simp
  | cons x l ih =>
    intro k hp hk h1 h2
    obtain ⟨hx, hp⟩ := List.pairwise_cons.1 hp
    cases k with
    | zero =>
      have h0 := h2 (by simp)
      simp only [List.getElem_cons_zero] at h0
      rw [List.drop_zero, List.filter_eq_self]
      intro e he
      rcases List.mem_cons.1 he with rfl | he
      · exact decide_eq_true h0
      · have := hx e he; exact decide_eq_true (by omega)
    | succ k =>
      have hk' : k ≤ l.length := by simpa using hk
      have hxn : ¬ cur < x.cookie := by
        cases k with
        | zero => exact h1 (by omega) (by simp)
        | succ j =>
          have a := h1 (by omega) (by simp; omega)
          simp only [Nat.add_sub_cancel, List.getElem_cons_succ] at a
          have b := hx l[j] (List.getElem_mem _)
          omega
      rw [List.filter_cons_of_neg (by simpa using hxn), List.drop_succ_cons]
      refine ih hp hk' (fun h h3 => ?_) (fun h => ?_)
      · cases k with
        | zero => omega
        | succ j =>
          have a := h1 (by omega) (by simp; omega)
          simpa using a
      · have a := h2 (by simp; omega)
        simpa using a
theorem valid_any (c : Int) (w : World) : Calls Tryz.prog 128 #[.int .i64 c] w fun e w' => e = .returned (.bool (decide (0 ≤ c))) ∧ w = w' := by
  go_enter Tryz.func128, Tryz.ntmps128
  go_wp2
  go_ret
  exact ⟨rfl, rfl⟩
section
variable (a0 : Option Addr) (ln cp : Nat) (cur n : Int) (w : World)
theorem cread_arg (hn : n < 1 ∨ 64 < n) : Calls Tryz.prog 73 #[.slice a0 ln cp, .int .i64 cur, .int .i64 n] w (ReadF ([], 0, 1) w) := by
  have hf : Fresh w ((w.alloc (.cells #[.slice a0 ln cp] 83)).alloc (.cells #[.int .i64 cur] 2)) := ((Fresh.refl _).alloc _).alloc _
  by_cases h1 : n < 1
  · clear hn
    go_enter Tryz.func73, Tryz.ntmps73
    go_wp2
    go_ret3
    exact ⟨none, 0, rfl, SlG.nil _ _ _, hf⟩
  · have h2 : 64 < n := by omega
    clear hn
    go_enter Tryz.func73, Tryz.ntmps73
    go_wp2
    go_ret3
    exact ⟨none, 0, rfl, SlG.nil _ _ _, hf⟩
theorem cread_cur (h1 : 1 ≤ n) (h2 : n ≤ 64) (hc : cur < 0) : Calls Tryz.prog 73 #[.slice a0 ln cp, .int .i64 cur, .int .i64 n] w (ReadF ([], 0, 14) w) := by
  have hf : Fresh w ((w.alloc (.cells #[.slice a0 ln cp] 83)).alloc (.cells #[.int .i64 cur] 2)) := ((Fresh.refl _).alloc _).alloc _
  have hd : decide (0 ≤ cur) = false := decide_eq_false (by omega)
  have i1 : ¬ n < 1 := by omega
  have i2 : ¬ 64 < n := by omega
  go_enter Tryz.func73, Tryz.ntmps73
  go_wp2_with fail
  refine (valid_any cur _).mono ?_
  rintro e w2 ⟨rfl, rfl⟩
  rw [hd]
  clear hd
  go_wp2
  go_ret3
  exact ⟨none, 0, rfl, SlG.nil _ _ _, hf⟩
set_option maxRecDepth 100000 in
set_option maxHeartbeats 3200000 in
theorem cread_main (A : Nat → Prop) (l : List Ent) (h : SlE w A (.slice a0 ln cp) l) (hln : l.length = ln) (hl : l.length ≤ 10000) (hs : l.Pairwise (fun a b => a.cookie < b.cookie)) (h1 : 1 ≤ n) (h2 : n ≤ 64) (hc : 0 ≤ cur) :
    Calls Tryz.prog 73 #[.slice a0 ln cp, .int .i64 cur, .int .i64 n] w (ReadF (readR l cur n) w) := by
  obtain ⟨W0, hW0⟩ : ∃ W0, ((w.alloc (.cells #[.slice a0 ln cp] 83)).alloc (.cells #[.int .i64 cur] 2)) = W0 := ⟨_, rfl⟩
  have hf0 : Fresh w W0 := by rw [← hW0]; exact ((Fresh.refl _).alloc _).alloc _
  have b0 : Blk W0 w.heap.size 83 #[.slice a0 ln cp] := by rw [← hW0]; exact (Blk.new _ _ _).keep ((Fresh.refl _).alloc _)
  have b1 : Blk W0 (w.heap.size + 1) 2 #[.int .i64 cur] := by
    rw [← hW0]
    have := Blk.new (w.alloc (.cells #[.slice a0 ln cp] 83)) 2 #[.int .i64 cur]
    rw [World.size_alloc] at this
    exact this
  have hd : decide (0 ≤ cur) = true := decide_eq_true hc
  have i1 : ¬ n < 1 := by omega
  have i2 : ¬ 64 < n := by omega
  rcases SlE.cases h with ⟨rfl, a, c, hv⟩ | ⟨hl0, g, off, cap, hv, hcap, hA, hg, hcl⟩
  · obtain rfl : ln = 0 := by simpa using hln.symm
    clear hv
    have HX : Hid (Calls Tryz.prog 129 #[.int .i64 0, .func (.func 130) #[] #[.pointer (some ⟨w.heap.size, 0, none⟩), .pointer (some ⟨w.heap.size + 1, 0, none⟩)]] W0 (SearchG (fun _ => true) 0 W0)) := Lib.hid (search_any 0 (by omega) 130 #[] #[.pointer (some ⟨w.heap.size, 0, none⟩), .pointer (some ⟨w.heap.size + 1, 0, none⟩)] (fun i => true) W0 ⟨enters_read1, fun W hW i hi => by omega⟩)
    have d0 : W0.cell? ⟨w.heap.size, 0, none⟩ = some (.slice a0 0 cp) := b0.cell 0
    have d1 : W0.cell? ⟨w.heap.size + 1, 0, none⟩ = some (.int .i64 cur) := b1.cell 0
    have H0 := Lib.hid (And.intro hf0 (And.intro b0 b1))
    obtain ⟨nn, rfl⟩ := Int.eq_ofNat_of_zero_le (show 0 ≤ n by omega)
    have hR : Hid (readR [] cur (nn : Int) = ([], cur, 0)) := Lib.hid (by
      unfold readR
      rw [if_neg (by omega), if_neg (by omega)]
      simp)
    have hhi : min (nn : Int) 0 = 0 := by omega
    clear hf0 b0 b1 h hln hs hl
    cases a0
    case' some ad => rcases Decidable.em (cp = 0) with rfl | hcz
    all_goals
      go_enter Tryz.func73, Tryz.ntmps73
      go_wp2_with fail
      refine (valid_any cur _).mono ?_
      rintro e w2 ⟨rfl, rfl⟩
      rw [hd]
      clear hd
      go_wp2_with fail
      refine HX.out.mono ?_
      rintro e w3 ⟨k, rfl, hk, hk1, hk2, hf3⟩
      obtain rfl : k = 0 := by omega
      have e0 : w3.cell? ⟨w.heap.size, 0, none⟩ = some (.slice _ 0 _) := (H0.out.2.1.keep hf3).cell 0
      have HF3 := Lib.hid hf3
      clear hk1 hk2 hf3 d0 d1 hW0 hk
      go_wp2_with fail
      refine (cloneE_any (fun _ => True) (.slice _ 0 _) [] w3 ⟨by simp [ecs], _, _, rfl, Nat.zero_le _, .inl rfl⟩ (by simp)).mono ?_
      rintro e w4 ⟨v5, rfl, ho5, hf5⟩
      obtain ⟨a5, c5, rfl⟩ := ho5.shape
      simp only [List.length_nil]
      have g1 : w4.cell? ⟨w.heap.size + 1, 0, none⟩ = some (.int .i64 cur) := ((H0.out.2.2.keep HF3.out).keep hf5).cell 0
      have HF5 := Lib.hid (HF3.out.trans hf5)
      clear hf5 ho5 e0
      go_wp2_with fail
      go_quiet (fail)
      all_goals
        go_wp2
        go_ret3
        rw [hR.out]
        exact ⟨a5, c5, rfl, ⟨by simp [ecs], _, _, rfl, Nat.zero_le _, .inl rfl⟩, (H0.out.1.trans HF5.out).drewN _⟩
  · rw [hln] at hv
    injection hv with hv1 _ hv2
    subst hv1 hv2
    have HX := Lib.hid (search_any ln (by omega) 130 #[] #[.pointer (some ⟨w.heap.size, 0, none⟩), .pointer (some ⟨w.heap.size + 1, 0, none⟩)] (fun i => decide (cur < (l.getD i ent0).cookie)) W0 ⟨enters_read1, fun W hW i hi => by
      have c := (hcl i (by omega)).2.2.2.1
      have hgi : (l.getD i ent0) = l[i]'(by omega) := by rw [List.getD_eq_getElem?_getD, List.getElem?_eq_getElem (by omega)]; rfl
      show Calls _ _ _ W fun en W' => en = Ending.returned (Value.bool (decide (cur < (l.getD i ent0).cookie))) ∧ Fresh W W'
      rw [hgi]
      exact read1_any g off ln cp i w.heap.size (w.heap.size + 1) _ cur W hi (by omega) ((b0.keep hW).cell 0) ((b1.keep hW).cell 0) ((Below.cell (hf0.trans hW) (p := ⟨g, off + i * 5 + 3, none⟩) hg).trans c)⟩)
    have d0 : W0.cell? ⟨w.heap.size, 0, none⟩ = some (.slice (some ⟨g, off, none⟩) ln cp) := b0.cell 0
    have d1 : W0.cell? ⟨w.heap.size + 1, 0, none⟩ = some (.int .i64 cur) := b1.cell 0
    have H0 := Lib.hid (And.intro hf0 (And.intro b0 (And.intro b1 (And.intro h (And.intro hs hcl)))))
    have HLN := Lib.hid hln
    clear hf0 b0 b1 h hs hcl hln
    go_enter Tryz.func73, Tryz.ntmps73
    go_wp2_with fail
    refine (valid_any cur _).mono ?_
    rintro e w2 ⟨rfl, rfl⟩
    rw [hd]
    clear hd
    go_wp2_with fail
    refine HX.out.mono ?_
    rintro e w3 ⟨k, rfl, hk, hk1, hk2, hf3⟩
    have HTL : Hid (l.filter (fun e => decide (cur < e.cookie)) = l.drop k) := Lib.hid (by
      have hln := HLN.out
      refine tail_filter H0.out.2.2.2.2.1 (by omega) (fun h h2 => ?_) (fun h => ?_)
      · have a := hk1 h
        simp only at a
        rw [List.getD_eq_getElem?_getD, List.getElem?_eq_getElem h2] at a
        simpa using a
      · have a := hk2 (by omega)
        simp only at a
        rw [List.getD_eq_getElem?_getD, List.getElem?_eq_getElem h] at a
        simpa using a)
    have e0 : w3.cell? ⟨w.heap.size, 0, none⟩ = some (.slice (some ⟨g, off, none⟩) ln cp) := (H0.out.2.1.keep hf3).cell 0
    have e1 : w3.cell? ⟨w.heap.size + 1, 0, none⟩ = some (.int .i64 cur) := (H0.out.2.2.1.keep hf3).cell 0
    have HF3 := Lib.hid hf3
    clear hk1 hk2 hf3 d0 d1 hW0
    obtain ⟨nn, rfl⟩ := Int.eq_ofNat_of_zero_le (show 0 ≤ n by omega)
    have hlnb : ln ≤ 10000 ∧ ln ≤ cp := by have := HLN.out; omega
    by_cases hkl : k < ln
    · obtain ⟨hi, hhi, hik, hil, him⟩ : ∃ hi : Nat, min ((k : Int) + (nn : Int)) (ln : Int) = (hi : Int) ∧ k < hi ∧ hi ≤ ln ∧ hi - k = min nn (ln - k) := ⟨min (k + nn) ln, by omega, by omega, by omega, by omega⟩
      have HIM := Lib.hid him
      have j1 : (hi : Int) ≤ (cp : Int) := by omega
      have j2 : (k : Int) ≤ (hi : Int) := by omega
      have j3 : ¬ cp = k := by omega
      clear him
      go_wp2_with fail
      obtain ⟨q, hq⟩ : ∃ q, hi - k = q + 1 := ⟨hi - k - 1, by omega⟩
      have HQ := Lib.hid hq
      have j4 : (q : Int) ≤ 10000 := by omega
      have j5 : (0 : Int) ≤ (q : Int) := by omega
      have HSB := Lib.hid (SlE.fresh (SlE.sub (k := k) (m := q + 1) (cap' := cp - k) H0.out.2.2.2.1 (by have := HLN.out; omega) (by omega)) (H0.out.1.trans HF3.out))
      have HXL : Hid (((l.drop k).take (q + 1)).length = q + 1) := Lib.hid (by have := HLN.out; simp; omega)
      obtain ⟨x, hx⟩ : ∃ x, (l.drop k).take (q + 1) = x := ⟨_, rfl⟩
      rw [hx] at HSB HXL
      have HXX := Lib.hid hx
      rw [hq]
      clear hq hx hhi j1 j2
      refine (cloneE_any A _ x w3 HSB.out (by have := HXL.out; have := HQ.out; omega)).mono ?_
      rintro e w4 ⟨v5, rfl, ho5, hf5⟩
      rcases SlE.cases (OwnE.sl ho5) with ⟨h0, _⟩ | ⟨_, g5, o5, c5, rfl, hc5, hA5, hg5, hcl5⟩
      · have := HXL.out; rw [h0] at this; simp at this
      · have HO5 := Lib.hid (And.intro ho5 hcl5)
        have hxl := HXL.out
        rw [hxl]
        have d3 : w4.cell? ⟨g5, o5 + q * 5 + 3, none⟩ = some (.int .i64 (x[q]'(by omega)).cookie) := (hcl5 q (by omega)).2.2.2.1
        have f1 : w4.frozen? ⟨w.heap.size + 1, 0, none⟩ = false := ((H0.out.2.2.1.keep HF3.out).keep hf5).frozen 0
        have g1 : w4.cell? ⟨w.heap.size + 1, 0, none⟩ = some (.int .i64 cur) := ((H0.out.2.2.1.keep HF3.out).keep hf5).cell 0
        have HF5 := Lib.hid (HF3.out.trans hf5)
        obtain ⟨ck, hck⟩ : ∃ ck, (x[q]'(by omega)).cookie = ck := ⟨_, rfl⟩
        rw [hck] at d3
        have HCK : Hid ((x.getLast?.map (·.cookie)).getD cur = ck) := Lib.hid (by
          rw [List.getLast?_eq_getElem?, hxl, Nat.add_sub_cancel, List.getElem?_eq_getElem (by omega)]
          exact hck)
        clear hf5 ho5 hcl5 hxl hck e0 e1
        go_wp2_with fail
        go_quiet (fail)
        all_goals
          go_wp2
          go_ret3
          have hR : readR l cur (nn : Int) = (x, ck, 0) := by
            have hln := HLN.out
            have him := HIM.out
            have hq := HQ.out
            have htk : (l.drop k).take nn = x := by
              rw [← HXX.out]
              by_cases hc : nn ≤ ln - k
              · rw [show q + 1 = nn by omega]
              · rw [List.take_of_length_le (by simp; omega), List.take_of_length_le (by simp; omega)]
            unfold readR
            rw [if_neg (by omega), if_neg (by omega), HTL.out, Int.toNat_natCast, htk, HCK.out]
          rw [hR]
          have z1 := H0.out.2.2.1.lt
          have z3 := HF3.out.size
          have z0 := H0.out.1.size
          have u6 : Mut (fun j => j = w.heap.size + 1) w4 ((w4.setCell ⟨w.heap.size + 1, 0, none⟩ (.int .i64 ck)).drewN nq) := ((Mut.refl (fun j => j = w.heap.size + 1) w4).setCell (p := ⟨w.heap.size + 1, 0, none⟩) (.inl rfl) _).drewN nq
          have s6 : SlE ((w4.setCell ⟨w.heap.size + 1, 0, none⟩ (.int .i64 ck)).drewN nq) (fun g => w3.heap.size ≤ g) _ x := SlG.mut (OwnE.sl HO5.out.1) u6 (fun g hg e => by omega)
          refine ⟨some ⟨g5, o5, none⟩, c5, by simp only [HXL.out]; rfl, SlG.mono s6 (fun g _ hg => by omega), (H0.out.1.trans HF5.out).mut2 u6 (fun j hj => by omega)⟩
    · obtain rfl : k = ln := by omega
      have hR : Hid (readR l cur (nn : Int) = ([], cur, 0)) := Lib.hid (by
        have hln := HLN.out
        unfold readR
        rw [if_neg (by omega), if_neg (by omega), HTL.out, List.drop_of_length_le (by omega)]
        simp)
      have hhi : min ((k : Int) + (nn : Int)) (k : Int) = (k : Int) := by omega
      have j1 : (k : Int) ≤ (cp : Int) := by omega
      have hk0 : k ≠ 0 := by have := HLN.out; omega
      by_cases j3 : cp = k
      all_goals
        go_wp2_with fail
        refine (cloneE_any (fun _ => True) (.slice _ 0 _) [] w3 ⟨by simp [ecs], _, _, rfl, Nat.zero_le _, .inl rfl⟩ (by simp)).mono ?_
        rintro e w4 ⟨v5, rfl, ho5, hf5⟩
        obtain ⟨a5, c5, rfl⟩ := ho5.shape
        simp only [List.length_nil]
        have g1 : w4.cell? ⟨w.heap.size + 1, 0, none⟩ = some (.int .i64 cur) := ((H0.out.2.2.1.keep HF3.out).keep hf5).cell 0
        have HF5 := Lib.hid (HF3.out.trans hf5)
        clear hf5 ho5 e0 e1
        go_wp2_with fail
        go_quiet (fail)
        all_goals
          go_wp2
          go_ret3
          rw [hR.out]
          exact ⟨a5, c5, rfl, ⟨by simp [ecs], _, _, rfl, Nat.zero_le _, .inl rfl⟩, (H0.out.1.trans HF5.out).drewN _⟩
theorem readR_le (l : List Ent) (cur n : Int) : (readR l cur n).1.length ≤ 64 := by
  unfold readR
  split
  · simp
  · split
    · simp
    · have := List.length_take_le n.toNat (l.filter fun e => decide (cur < e.cookie))
      simp only
      omega
theorem cread_any (A : Nat → Prop) (l : List Ent) (h : SlE w A (.slice a0 ln cp) l) (hln : l.length = ln) (hl : l.length ≤ 10000) (hs : l.Pairwise (fun a b => a.cookie < b.cookie)) :
    Calls Tryz.prog 73 #[.slice a0 ln cp, .int .i64 cur, .int .i64 n] w (ReadF (readR l cur n) w) := by
  by_cases h1 : n < 1 ∨ 64 < n
  · have hR : readR l cur n = ([], 0, 1) := by unfold readR; rw [if_pos h1]
    rw [hR]
    exact cread_arg a0 ln cp cur n w h1
  · by_cases hc : cur < 0
    · have hR : readR l cur n = ([], 0, 14) := by unfold readR; rw [if_neg h1, if_pos hc]
      rw [hR]
      exact cread_cur a0 ln cp cur n w (by omega) (by omega) hc
    · exact cread_main a0 ln cp cur n w A l h hln hl hs (by omega) (by omega) (by omega)
end
end Go.Proofs.YtpmlggjhfiljmaaGreatDoor
