/- Contracts that the law rests on, part 46 of 50 (FsyG, FsyH, FsyN, TrlA, TrlB). Each states its own conditions. -/
import Derived.Test.YtpmlggjhfiljmaaGreatDoorC44
import Derived.Test.YtpmlggjhfiljmaaGreatDoorC45
/- A new device; Mount of a new one. -/
namespace Go.Proofs.YtpmlggjhfiljmaaGreatDoor
open Go.RowKit
set_option linter.unusedVariables false
set_option linter.unnecessarySimpa false
set_option linter.unusedSimpArgs false
attribute [local go_sem ↓] Go.wp_at_zero Go.wp_at_succ
def DevNew (n : Int) (w : World) (e : Ending) (w' : World) : Prop := ∃ p, e = .returned (.pointer (some ⟨p, 0, none⟩)) ∧ DevAt w' (fun g => w.heap.size ≤ g ∧ g < w'.heap.size) p n (fun _ => zer 64) 0 ∧ Fresh w w'
theorem secNew_any (n : Int) (h0 : 0 ≤ n) (h1 : n ≤ 4096) (w : World) : Calls Tryz.prog 28 #[.int .i64 n] w (DevNew n w) := by
  have hmm := @run_makeMap Tryz.prog
  have e1 : max n 0 = n := by omega
  have e2 : min n 4096 = n := by omega
  have hfin : Hid (DevAt (((w.alloc (.map #[] 0)).alloc (.map #[] 0)).alloc (.cells #[.int .i64 n, .map (some w.heap.size), .map (some (w.heap.size + 1)), .slice none 0 0, .int .i64 (-1)] 137)) (fun g => w.heap.size ≤ g ∧ g < w.heap.size + 3) (w.heap.size + 2) n (fun _ => zer 64) 0) := Lib.hid (by
    have hb := Blk.new ((w.alloc (.map #[] 0)).alloc (.map #[] 0)) 137 #[.int .i64 n, .map (some w.heap.size), .map (some (w.heap.size + 1)), .slice none 0 0, .int .i64 (-1)]
    rw [World.size_alloc, World.size_alloc] at hb
    have hm := (MapAt.made (w.alloc (.map #[] 0))).alloc (.cells #[.int .i64 n, .map (some w.heap.size), .map (some (w.heap.size + 1)), .slice none 0 0, .int .i64 (-1)] 137)
    rw [World.size_alloc] at hm
    exact ⟨.map (some w.heap.size), w.heap.size + 1, .slice none 0 0, 0, [], _, hb, ⟨by omega, by omega⟩, ⟨by omega, by omega⟩, hm, fun i => rfl, fun i => rfl, OwnA.nil _ _ _ _, Nat.le_refl _⟩)
  go_enter Tryz.func28, Tryz.ntmps28
  go_wp2
  go_ret
  exact ⟨w.heap.size + 2, rfl, by simpa using hfin.out, (((Fresh.refl _).alloc _).alloc _).alloc _⟩
end Go.Proofs.YtpmlggjhfiljmaaGreatDoor
/- Layer 17: Mount of a new device. -/
namespace Go.Proofs.YtpmlggjhfiljmaaGreatDoor
open Go.RowKit
set_option linter.unusedVariables false
set_option linter.unnecessarySimpa false
set_option linter.unusedSimpArgs false
attribute [local go_sem ↓] Go.wp_at_zero Go.wp_at_succ
def FMountPost (F : Nat → Prop) (enc : Int) (p : Nat) (m n : Int) (q : Nat) (w : World) (e : Ending) (w' : World) : Prop :=
  ∃ f T qt F', e = .returned (.tuple #[.pointer (some ⟨f, 0, none⟩), .int .i64 0]) ∧ FsAt w' F' f enc p m n 0 2 q T qt ∧ IsT0 T ∧ qt ≤ 10 ∧ w.heap.size ≤ f ∧ Mut F w w' ∧ Gr F w w' F'
theorem fformat_any (F : Nat → Prop) (p : Nat) (n : Int) (w : World) (m : Nat) (h : DevAt w F p n (fun _ => zer 64) 0) (hF : FB F w) (hm : n / 2 = m) (hm1 : 4 ≤ m) (hn : n ≤ 1000000) : Calls Tryz.prog 42 #[.pointer (some ⟨p, 0, none⟩)] w (DevPost F p n (newD img0 m) 5 w (.int .i64 0)) := by
  have HS := Lib.hid (sformat_any F p n w m h hF hm hm1 hn)
  obtain ⟨D, hD⟩ : ∃ D, newD img0 m = D := ⟨_, rfl⟩
  rw [hD] at HS ⊢
  clear hD h hF hm hm1
  go_enter Tryz.func42, Tryz.ntmps42
  go_wp2_with fail
  refine HS.out.mono ?_
  rintro e w3 ⟨rfl, F', hd, hm3, hg⟩
  have HX := Lib.hid (And.intro hd (And.intro hm3 hg))
  clear hd hm3 hg
  go_wp2
  go_ret
  exact ⟨rfl, F', HX.out.1, HX.out.2.1, HX.out.2.2⟩
set_option maxRecDepth 100000 in
set_option maxHeartbeats 3200000 in
theorem fmount_any (F : Nat → Prop) (enc : Int) (p : Nat) (n : Int) (q : Nat) (w : World) (m : Nat) (h : DevAt w F p n (newD img0 m) q) (hF : FB F w) (hm : n / 2 = m) (hm1 : 4 ≤ m) (hn : n ≤ 1000000) (h0 : 0 ≤ enc) (h8 : enc ≤ 8) :
    Calls Tryz.prog 67 #[.pointer (some ⟨p, 0, none⟩), .int .i64 enc] w (FMountPost F enc p m n q w) := by
  have hrb : rightB enc = true := by unfold rightB; simp; omega
  have HRT := Lib.hid (fun W => right_any enc W)
  rw [hrb] at HRT
  have HM := Lib.hid (smount_any F p n q w m h hF hm hm1 hn)
  have HFB := Lib.hid hF
  clear h hF hm hm1 hn hrb
  go_enter Tryz.func67, Tryz.ntmps67
  go_wp2_with fail
  refine (HRT.out _).mono ?_
  rintro e w1 ⟨rfl, rfl⟩
  go_wp2_with fail
  refine HM.out.mono ?_
  rintro e w1 ⟨s, T, qt, F1, rfl, hst, hT0, hqt, hsw, hm1, hg1⟩
  have HTB := Lib.hid (TB.t0 (T := T) hT0 (qt := qt) (by omega))
  have HTR := Lib.hid (stree_any F1 s p m n 0 2 q T qt w1 hst (by omega) HTB.out.bk (fun i l hl => by have := HTB.out.len i l hl; omega))
  have H1 := Lib.hid (And.intro hst (And.intro hT0 (And.intro hqt (And.intro hsw (And.intro hm1 hg1)))))
  clear hst hT0 hqt hsw hm1 hg1
  go_wp2_with fail
  refine HTR.out.mono ?_
  rintro e w2 ⟨x, rfl, hx, hf2⟩
  obtain ⟨W3, hW3⟩ : ∃ W3, w2.alloc (.cells #[.pointer (some ⟨s, 0, none⟩), .int .i64 enc, .pointer (some ⟨x, 0, none⟩)] 152) = W3 := ⟨_, rfl⟩
  have h23 : Fresh w2 W3 := by rw [← hW3]; exact (Fresh.refl _).alloc _
  have hb3 : Blk W3 w2.heap.size 152 #[.pointer (some ⟨s, 0, none⟩), .int .i64 enc, .pointer (some ⟨x, 0, none⟩)] := by rw [← hW3]; exact Blk.new _ _ _
  have hz3 : W3.heap.size = w2.heap.size + 1 := by rw [← hW3]; simp
  have HZ3 := Lib.hid hz3
  have H2 := Lib.hid (And.intro hx (And.intro hf2 (And.intro h23 hb3)))
  have HDR := Lib.hid (dirs_any W3 _ x T qt (hx.fresh h23) (by have := H1.out.2.2.1; omega))
  have c2 : W3.cell? ⟨w2.heap.size, 2, none⟩ = some (.pointer (some ⟨x, 0, none⟩)) := hb3.cell 2
  clear hx hf2 h23 hb3 hz3
  go_wp2_with fail
  refine HDR.out.mono ?_
  rintro e w4 ⟨v, ks, rfl, hks, hk1, hk2, hk3, hf4⟩
  have hk := dirs0 H1.out.2.1 hk1 hk2
  subst hk
  obtain ⟨a2, c2', rfl⟩ := hks.shape
  obtain ⟨g, hg⟩ : ∃ g, a2 = some ⟨g, 0, none⟩ := by
    obtain ⟨_, ⟨q1, q2⟩ | ⟨g, cap, cur, q, _⟩⟩ := hks.1
    · cases q2
    · injection q with q; exact ⟨g, q⟩
  subst hg
  have ck : w4.cell? ⟨g, 0, none⟩ = some (.int .i64 0) := hks.1.cells (g := g) rfl 0 (.int .i64 0) rfl
  have HF4 := Lib.hid (H2.out.2.2.1.trans hf4)
  have HF3 := Lib.hid hf4
  have c4 : w4.cell? ⟨w2.heap.size, 2, none⟩ = some (.pointer (some ⟨x, 0, none⟩)) := (H2.out.2.2.2.keep hf4).cell 2
  have hl0 : T.dirs 0 = some [] := by rw [H1.out.2.1.1]; rfl
  have HLS := Lib.hid (ls_yes (d := 0) (H2.out.1.fresh HF4.out) i64_0 hl0 (by simp))
  clear hW3 hks hk1 hk2 hk3 hf4 c2 hl0
  go_wp2_with fail
  refine wp_loop_rounds 2 ?_
  rw [rounds_succ]
  go_wp2_with fail
  refine HLS.out.mono ?_
  rintro e w5 ⟨a5, c5, rfl, ho5, hf5⟩
  simp only [List.length_nil]
  go_wp2_with fail
  refine (clean_nil enc a5 c5 _).mono ?_
  rintro e w6 ⟨rfl, hf6⟩
  have HF6 := Lib.hid (HF4.out.trans (hf5.trans hf6))
  have HF7 := Lib.hid (HF3.out.trans (hf5.trans hf6))
  clear ho5 hf5 hf6 ck c4
  go_wp2_with fail
  rw [rounds_succ]
  go_wp2
  go_ret2
  obtain ⟨hst, hT0, hqt, hsw, hm1, hg1⟩ := H1.out
  obtain ⟨hx, hf2, h23, hb3⟩ := H2.out
  have z1 := hm1.size
  have z2 := hf2.size
  have z6 := HF6.out.size
  have z7 := HF7.out.size
  have z3 := HZ3.out
  have hFB1 := hst.fb
  refine ⟨w2.heap.size, T, qt, ext F w w6, rfl, ⟨s, x, F1, fun j => w1.heap.size ≤ j ∧ j < w2.heap.size, hb3.keep HF7.out, .inr ⟨by omega, by omega⟩, fun j hj => ?_, fun j hj => .inr ⟨by omega, by omega⟩, fun h => by have := hFB1 _ h; omega, fun h => by omega, fun j hj h => by have := hFB1 _ h; omega, hst.fresh (hf2.trans HF6.out), (hx.mono (fun j h1 h2 => ⟨h2, h1⟩)).fresh HF6.out, fun j hj => ?_⟩, hT0, hqt, by omega, hm1.andFresh (hf2.trans HF6.out), Gr.ext _ _ _⟩
  · rcases hg1 j hj with h | h
    · exact .inl h
    · exact .inr ⟨h.1, by omega⟩
  · rcases hj with h | h
    · have := HFB.out j h; omega
    · exact h.2
end Go.Proofs.YtpmlggjhfiljmaaGreatDoor
/- Layer 17: List; a file system on a new device. -/
namespace Go.Proofs.YtpmlggjhfiljmaaGreatDoor
open Go.RowKit
set_option linter.unusedVariables false
set_option linter.unnecessarySimpa false
set_option linter.unusedSimpArgs false
/-- directories whose cookies rise -/
def Rises (T : TreS) : Prop := ∀ d l, T.dirs d = some l → l.Pairwise (fun a b => a.cookie < b.cookie)
def flistR (enc : Int) (T : TreS) (path : ByteArray) (cur n : Int) : List ByteArray × Int × Int :=
  if (listR enc T path).2.2 ≠ 0 then ([], 0, (listR enc T path).2.2) else
  if (readR (listR enc T path).2.1 cur n).2.2 ≠ 0 then ([], 0, (readR (listR enc T path).2.1 cur n).2.2) else
  ((readR (listR enc T path).2.1 cur n).1.map (faceS enc), (readR (listR enc T path).2.1 cur n).2.1, 0)
def FsListF (r : List ByteArray × Int × Int) (w : World) (e : Ending) (w' : World) : Prop := ∃ a c, e = .returned (.tuple #[.slice a r.1.length c, .int .i64 r.2.1, .int .i64 r.2.2]) ∧ SlS w' (fun g => w.heap.size ≤ g) (.slice a r.1.length c) r.1 ∧ Fresh w w'
theorem listR_l {enc : Int} {T : TreS} {path : ByteArray} : (listR enc T path).2.1 = [] ∨ ∃ d, T.dirs d = some (listR enc T path).2.1 := by
  unfold listR
  simp only
  split
  · exact .inl rfl
  · split
    · exact .inl rfl
    · split
      · rename_i l hl; exact .inr ⟨_, hl⟩
      · exact .inl rfl
section
variable (enc : Int) (A : Nat → Prop) (f s tr : Nat) (T : TreS) (q : Nat) (hT : TOK enc T) (hR : Rises T) (w : World) (hv : FsV w f s enc tr) (h : TreeAt w A tr T q)
include hT hR hv h
set_option maxRecDepth 100000 in
set_option maxHeartbeats 1600000 in
theorem fslist_any (path : ByteArray) (hp : path.size ≤ 1000000) (cur n : Int) : Calls Tryz.prog 31 #[.pointer (some ⟨f, 0, none⟩), .string path, .int .i64 cur, .int .i64 n] w (FsListF (flistR enc T path cur n) w) := by
  have HL := Lib.hid (flist_any enc A f s tr T q hT w hv h path hp)
  have HS : Hid (∀ W, Fresh w W → W.cell? ⟨f, 1, none⟩ = some (.int .i64 enc)) := Lib.hid (fun W hW => (Blk.keep hv hW).cell 1)
  have hlo : ∀ e ∈ (listR enc T path).2.1, OfOK enc e := by
    rcases listR_l (enc := enc) (T := T) (path := path) with h0 | ⟨d, hd⟩
    · rw [h0]; intro e he; simp at he
    · exact hT.of d _ hd
  have hll : (listR enc T path).2.1.length ≤ 10000 := by
    rcases listR_l (enc := enc) (T := T) (path := path) with h0 | ⟨d, hd⟩
    · rw [h0]; simp
    · exact hT.len d _ hd
  have hlr : (listR enc T path).2.1.Pairwise (fun a b => a.cookie < b.cookie) := by
    rcases listR_l (enc := enc) (T := T) (path := path) with h0 | ⟨d, hd⟩
    · rw [h0]; exact List.Pairwise.nil
    · exact hR d _ hd
  unfold flistR
  obtain ⟨r, hr⟩ : ∃ r, listR enc T path = r := ⟨_, rfl⟩
  rw [hr] at HL hlo hll hlr ⊢
  obtain ⟨d, l, k⟩ := r
  simp only at hlo hll hlr ⊢
  unfold ListF at HL
  simp only at HL
  clear hr hT hR hv h
  by_cases hk : k = 0
  · subst hk
    rw [if_neg (by simp)]
    have HCR := Lib.hid (fun a c W (hs : SlE W (fun g => w.heap.size ≤ g) (.slice a l.length c) l) => cread_any a l.length c cur n W _ l hs rfl hll hlr)
    have hmem : ∀ e ∈ (readR l cur n).1, OfOK enc e := by
      intro e he
      refine hlo e ?_
      unfold readR at he
      split at he
      · simp at he
      · split at he
        · simp at he
        · exact (List.mem_filter.1 (List.mem_of_mem_take he)).1
    have hle := readR_le l cur n
    obtain ⟨c, hc⟩ : ∃ c, readR l cur n = c := ⟨_, rfl⟩
    rw [hc] at HCR hmem hle ⊢
    obtain ⟨x, nx, k⟩ := c
    simp only at hmem hle ⊢
    unfold ReadF at HCR
    simp only at HCR
    have HNM := Lib.hid (fun a c W (hs : SlE W (fun g => w.heap.size ≤ g) (.slice a x.length c) x) => names_any enc _ (.slice a x.length c) x W hs (by omega) hmem)
    clear hc hlr hlo hmem
    obtain ⟨ll, hlle⟩ : ∃ ll, l.length = ll := ⟨_, rfl⟩
    by_cases hk : k = 0
    · subst hk
      rw [if_neg (by simp)]
      clear hlle
      go_enter Tryz.func31, Tryz.ntmps31
      go_wp2_with fail
      refine HL.out.mono ?_
      rintro e w1 ⟨a1, c1, rfl, ho1, hf1⟩
      have H1 := Lib.hid (And.intro ho1 hf1)
      clear ho1 hf1
      go_wp2_with fail
      refine (HCR.out a1 c1 w1 H1.out.1).mono ?_
      rintro e w2 ⟨a2, c2, rfl, ho2, hf2⟩
      have H2 := Lib.hid (And.intro (SlG.mono ho2 (A' := fun g => w.heap.size ≤ g) (fun g _ hg => Nat.le_trans H1.out.2.size hg)) (H1.out.2.trans hf2))
      have d1 := HS.out w2 H2.out.2
      clear ho2 hf2
      go_wp2_with fail
      refine (HNM.out a2 c2 w2 H2.out.1).mono ?_
      rintro e w3 ⟨a3, c3, rfl, ho3, hf3⟩
      have H3 := Lib.hid (And.intro (SlG.mono (OwnL.sl ho3) (A' := fun g => w.heap.size ≤ g) (fun g _ hg => Nat.le_trans H2.out.2.size hg)) (H2.out.2.trans hf3))
      clear ho3 hf3
      go_wp2
      go_ret3
      exact ⟨a3, c3, by simp only [List.length_map]; rfl, H3.out.1, H3.out.2⟩
    · rw [if_pos hk]
      have hkb : (k != 0) = true := by simp [hk]
      clear hk hlle
      go_enter Tryz.func31, Tryz.ntmps31
      go_wp2_with fail
      refine HL.out.mono ?_
      rintro e w1 ⟨a1, c1, rfl, ho1, hf1⟩
      have H1 := Lib.hid (And.intro ho1 hf1)
      clear ho1 hf1
      go_wp2_with fail
      refine (HCR.out a1 c1 w1 H1.out.1).mono ?_
      rintro e w2 ⟨a2, c2, rfl, ho2, hf2⟩
      have H2 := Lib.hid (H1.out.2.trans hf2)
      clear ho2 hf2
      go_wp2
      go_ret3
      exact ⟨none, 0, rfl, SlG.nil _ _ _, H2.out⟩
  · rw [if_pos hk]
    have hkb : (k != 0) = true := by simp [hk]
    clear hk hlr hlo
    go_enter Tryz.func31, Tryz.ntmps31
    go_wp2_with fail
    refine HL.out.mono ?_
    rintro e w1 ⟨a1, c1, rfl, ho1, hf1⟩
    have H1 := Lib.hid (And.intro ho1 hf1)
    clear ho1 hf1
    go_wp2
    go_ret3
    exact ⟨none, 0, rfl, SlG.nil _ _ _, H1.out.2⟩
end
def OpenedPost (enc : Int) (F : Nat → Prop) (p : Nat) (m n : Int) (w : World) (e : Ending) (w' : World) : Prop :=
  ∃ f T qt F', e = .returned (.pointer (some ⟨f, 0, none⟩)) ∧ FsAt w' F' f enc p m n 0 2 5 T qt ∧ IsT0 T ∧ qt ≤ 10 ∧ Mut F w w' ∧ Gr F w w' F'
set_option maxHeartbeats 800000 in
theorem opened_any (F : Nat → Prop) (enc : Int) (p : Nat) (n : Int) (w : World) (m : Nat) (h : DevAt w F p n (fun _ => zer 64) 0) (hF : FB F w) (hm : n / 2 = m) (hm1 : 4 ≤ m) (hn : n ≤ 1000000) (h0 : 0 ≤ enc) (h8 : enc ≤ 8) :
    Calls Tryz.prog 27 #[.pointer (some ⟨p, 0, none⟩), .int .i64 enc] w (OpenedPost enc F p m n w) := by
  have HFO := Lib.hid (fformat_any F p n w m h hF hm hm1 hn)
  have HMT := Lib.hid (fun F' W (hd : DevAt W F' p n (newD img0 m) 5) hF' => fmount_any F' enc p n 5 W m hd hF' hm hm1 hn h0 h8)
  have HFF := Lib.hid hF
  obtain ⟨D, hD⟩ : ∃ D, newD img0 m = D := ⟨_, rfl⟩
  rw [hD] at HFO HMT
  clear h hF hm hm1 hD
  go_enter Tryz.func27, Tryz.ntmps27
  go_wp2_with fail
  refine HFO.out.mono ?_
  rintro e w3 ⟨rfl, F3, hd3, hm3, hg3⟩
  have H3 := Lib.hid (And.intro hd3 (And.intro hm3 hg3))
  have hFB3 : FB F3 w3 := fun j hj => by
    have z := hm3.size
    rcases hg3 j hj with q | q
    · have := HFF.out j q; omega
    · exact q.2
  have HB3 := Lib.hid hFB3
  clear hd3 hm3 hg3 hFB3
  go_wp2_with fail
  refine (HMT.out F3 w3 H3.out.1 HB3.out).mono ?_
  rintro e w4 ⟨f, T, qt, F4, rfl, hfs, hT0, hqt, hfl, hm4, hg4⟩
  have HFIN : Hid (OpenedPost enc F p m n w (.returned (.pointer (some ⟨f, 0, none⟩))) w4) := Lib.hid (by
    have z3 := H3.out.2.1.size
    have z4 := hm4.size
    refine ⟨f, T, qt, F4, rfl, hfs, hT0, hqt, ?_, H3.out.2.2.trans hg4 z3 z4⟩
    exact H3.out.2.1.trans2 hm4 (fun _ h => h) (fun j hj h => by
      rcases H3.out.2.2 j h with q | q
      · exact q
      · have := q.1; omega))
  clear hfs hT0 hqt hfl hm4 hg4
  go_wp2
  go_ret
  exact HFIN.out
end Go.Proofs.YtpmlggjhfiljmaaGreatDoor
/- Layer 18: Start. -/
namespace Go.Proofs.YtpmlggjhfiljmaaGreatDoor
open Go.RowKit
set_option linter.unusedVariables false
set_option linter.unnecessarySimpa false
set_option linter.unusedSimpArgs false
attribute [local go_sem ↓] Go.wp_at_zero Go.wp_at_succ
/-- a trail at g -/
def TrlAt (w : World) (F : Nat → Prop) (g : Nat) (enc c : Int) (p : Nat) (m n : Int) (k t q : Nat) (T : TreS) (qt : Nat) : Prop :=
  ∃ f Ff, Blk w g 98 #[.pointer (some ⟨p, 0, none⟩), .pointer (some ⟨f, 0, none⟩), .int .i64 enc, .int .i64 c] ∧ F g ∧ (∀ j, Ff j → F j) ∧ ¬ Ff g ∧ FsAt w Ff f enc p m n k t q T qt ∧ FB F w
def StartPost (enc : Int) (m n : Int) (w : World) (e : Ending) (w' : World) : Prop :=
  ∃ g p T qt F, e = .returned (.tuple #[.pointer (some ⟨g, 0, none⟩), .int .i64 0]) ∧ TrlAt w' F g enc 0 p m n 0 2 5 T qt ∧ IsT0 T ∧ qt ≤ 10 ∧ Fresh w w' ∧ ∀ j, F j → w.heap.size ≤ j
def TMountPost (F : Nat → Prop) (g : Nat) (enc c : Int) (p : Nat) (m n : Int) (q : Nat) (w : World) (e : Ending) (w' : World) : Prop :=
  ∃ T qt F', e = .returned (.int .i64 0) ∧ TrlAt w' F' g enc c p m n 0 2 q T qt ∧ IsT0 T ∧ qt ≤ 10 ∧ Mut F w w' ∧ Gr F w w' F'
set_option maxRecDepth 100000 in
set_option maxHeartbeats 3200000 in
theorem tmount_new (F Fd : Nat → Prop) (g : Nat) (enc c : Int) (p : Nat) (n : Int) (q : Nat) (o : Value) (w : World) (m : Nat) (hb : Blk w g 98 #[.pointer (some ⟨p, 0, none⟩), o, .int .i64 enc, .int .i64 c]) (hFg : F g) (hFd : ∀ j, Fd j → F j) (hdg : ¬ Fd g) (hF : FB F w) (h : DevAt w Fd p n (newD img0 m) q) (hm : n / 2 = m) (hm1 : 4 ≤ m) (hn : n ≤ 1000000) (h0 : 0 ≤ enc) (h8 : enc ≤ 8) :
    Calls Tryz.prog 43 #[.pointer (some ⟨g, 0, none⟩)] w (TMountPost F g enc c p m n q w) := by
  have HM := Lib.hid (fun W (hW : Fresh w W) => fmount_any Fd enc p n q W m (h.fresh hW) (fun j hj => Nat.lt_of_lt_of_le (hF j (hFd j hj)) hW.size) hm hm1 hn h0 h8)
  have c0 : w.cell? ⟨g, 0, none⟩ = some (.pointer (some ⟨p, 0, none⟩)) := hb.cell 0
  have c2 : w.cell? ⟨g, 2, none⟩ = some (.int .i64 enc) := hb.cell 2
  have HP : Hid (∀ W, Mut Fd w W → W.cell? ⟨g, 0, none⟩ = some (.pointer (some ⟨p, 0, none⟩)) ∧ W.cell? ⟨g, 2, none⟩ = some (.int .i64 enc)) := Lib.hid (fun W hW => ⟨(hb.mut hW hdg).cell 0, (hb.mut hW hdg).cell 2⟩)
  have H := Lib.hid (And.intro hb (And.intro hFg (And.intro hFd (And.intro hdg hF))))
  have hgl := hb.lt
  clear h hb hF hFd hm hm1 hn
  go_enter Tryz.func43, Tryz.ntmps43
  go_wp2_with fail
  go_region_held3 (fun W => W.cell? ⟨g, 0, none⟩ = some (.pointer (some ⟨p, 0, none⟩)) ∧ W.cell? ⟨g, 2, none⟩ = some (.int .i64 enc)) (first | go_keep | exact hS8) (first
    | (go_at_call 67; refine (HM.out _ (by repeat (first | exact Fresh.refl _ | refine Fresh.drew ?_))).mono ?_; rintro e w2 ⟨f, T, qt, F2, rfl, hfs, hT0, hqt, hfl, hm, hg⟩; have hm5 : Mut Fd w w2 := (Fresh.andMut (by repeat (first | exact Fresh.refl _ | refine Fresh.drew ?_)) hm); have hS8 := HP.out w2 hm5; have HM2 := Lib.hid (And.intro hfs (And.intro hT0 (And.intro hqt (And.intro hm5 hg)))); clear hfs hT0 hqt hm hg hfl))
  all_goals
    have hb2 := H.out.1.mut hm5 H.out.2.2.2.1
    have d1 : w2.cell? ⟨g, 1, none⟩ = some o := hb2.cell 1
    have f1 : w2.frozen? ⟨g, 1, none⟩ = false := hb2.frozen 1
    have HFIN : Hid (TMountPost F g enc c p m n q w (.returned (.int .i64 0)) (w2.setCell ⟨g, 1, none⟩ (.pointer (some ⟨f, 0, none⟩)))) := Lib.hid (by
      obtain ⟨hfs, hT0, hqt, hm5, hg⟩ := HM2.out
      obtain ⟨_, hFg, hFd, hdg, hF⟩ := H.out
      have z1 := hm5.size
      have hu : Mut (fun j => j = g) w2 (w2.setCell ⟨g, 1, none⟩ (.pointer (some ⟨f, 0, none⟩))) := (Mut.refl (fun j => j = g) w2).setCell (p := ⟨g, 1, none⟩) (.inl rfl) _
      have zu := hu.size
      have hFB2 := hfs.fb
      have hF2 : ∀ j, F2 j → F j ∨ (w.heap.size ≤ j ∧ j < w2.heap.size) := fun j hj => by
        rcases hg j hj with h | h
        · exact .inl (hFd j h)
        · have h1 : w.heap.size ≤ j := h.1
          exact .inr ⟨h1, h.2⟩
      have hF2g : ¬ F2 g := fun h => by
        rcases hg g h with h | h
        · exact hdg h
        · have h1 : w.heap.size ≤ g := h.1
          omega
      refine ⟨T, qt, ext F w (w2.setCell ⟨g, 1, none⟩ (.pointer (some ⟨f, 0, none⟩))), rfl, ⟨f, F2, hb2.set (i := 1), .inl hFg, fun j hj => ?_, hF2g, hfs.mut hu (fun j hj e => hF2g (e ▸ hj)), fun j hj => ?_⟩, hT0, hqt, ?_, Gr.ext _ _ _⟩
      · rcases hF2 j hj with h | h
        · exact .inl h
        · exact .inr ⟨h.1, by omega⟩
      · rcases hj with h | h
        · have := hF j h; omega
        · exact h.2
      · exact (hm5.mono (T := F) (fun j _ h => hFd j h)).trans2 hu (fun _ h => h) (fun j _ e => by rw [e]; exact hFg))
    clear hS8 hb2 hm5 c0 c2 HM2
    go_wp2
    go_ret
    exact HFIN.out
end Go.Proofs.YtpmlggjhfiljmaaGreatDoor
/- Layer 18: Start; make. -/
namespace Go.Proofs.YtpmlggjhfiljmaaGreatDoor
open Go.RowKit
set_option linter.unusedVariables false
set_option linter.unnecessarySimpa false
set_option linter.unusedSimpArgs false
attribute [local go_sem ↓] Go.wp_at_zero Go.wp_at_succ
set_option maxRecDepth 100000 in
set_option maxHeartbeats 3200000 in
theorem start_any (n enc : Int) (m : Nat) (hm : n / 2 = m) (hm1 : 4 ≤ m) (hn : n ≤ 4096) (h0 : 0 ≤ enc) (h8 : enc ≤ 8) (w : World) : Calls Tryz.prog 10 #[.int .i64 n, .int .i64 enc] w (StartPost enc m n w) := by
  have HSN := Lib.hid (secNew_any n (by omega) hn w)
  have HFO := Lib.hid (fun F p W h hF => fformat_any F p n W m h hF hm hm1 (by omega))
  have HMT := Lib.hid (fun F Fd g p q o W hb hFg hFd hdg hF h => tmount_new F Fd g enc 0 p n q o W m hb hFg hFd hdg hF h hm hm1 (by omega) h0 h8)
  clear hm hm1
  go_enter Tryz.func10, Tryz.ntmps10
  go_wp2_with fail
  refine HSN.out.mono ?_
  rintro e w1 ⟨p, rfl, hd, hf1⟩
  obtain ⟨W2, hW2⟩ : ∃ W2, w1.alloc (.cells #[.pointer (some ⟨p, 0, none⟩), .pointer none, .int .i64 enc, .int .i64 0] 98) = W2 := ⟨_, rfl⟩
  have h12 : Fresh w1 W2 := by rw [← hW2]; exact (Fresh.refl _).alloc _
  have hb2 : Blk W2 w1.heap.size 98 #[.pointer (some ⟨p, 0, none⟩), .pointer none, .int .i64 enc, .int .i64 0] := by rw [← hW2]; exact Blk.new _ _ _
  have hz2 : W2.heap.size = w1.heap.size + 1 := by rw [← hW2]; simp
  have HZ2 := Lib.hid hz2
  have c0 : W2.cell? ⟨w1.heap.size, 0, none⟩ = some (.pointer (some ⟨p, 0, none⟩)) := hb2.cell 0
  have H1 := Lib.hid (And.intro hf1 (And.intro h12 hb2))
  have HF := Lib.hid (HFO.out _ p W2 (hd.fresh h12) (fun j hj => by have := hj.2; omega))
  clear hd hf1 h12 hb2 hz2
  go_wp2_with fail
  refine HF.out.mono ?_
  rintro e w3 ⟨rfl, F3, hd3, hm3, hg3⟩
  have HB3 : Hid (∀ j, F3 j → w.heap.size ≤ j ∧ j ≠ w1.heap.size ∧ j < w3.heap.size) := Lib.hid (fun j hj => by
    have z2 := HZ2.out
    have z1 := H1.out.1.size
    have z3 := hm3.size
    rcases hg3 j hj with h | h
    · exact ⟨h.1, by have := h.2; omega, by have := h.2; omega⟩
    · have := h.1; exact ⟨by omega, by omega, h.2⟩)
  have hb3 := H1.out.2.2.mut hm3 (fun h => by have := h.2; omega)
  have H3 := Lib.hid (And.intro hd3 (And.intro hm3 hb3))
  have HT := Lib.hid (HMT.out (fun j => w.heap.size ≤ j ∧ j < w3.heap.size) F3 w1.heap.size p 5 (.pointer none) w3 hb3 ⟨H1.out.1.size, hb3.lt⟩ (fun j hj => ⟨(HB3.out j hj).1, (HB3.out j hj).2.2⟩) (fun h => (HB3.out _ h).2.1 rfl) (fun j hj => hj.2) hd3)
  clear hW2 hd3 hm3 hg3 hb3 c0
  go_wp2_with fail
  refine HT.out.mono ?_
  rintro e w4 ⟨T, qt, F4, rfl, ht, hT0, hqt, hm4, hg4⟩
  have HFIN : Hid (StartPost enc m n w (.returned (.tuple #[.pointer (some ⟨w1.heap.size, 0, none⟩), .int .i64 0])) w4) := Lib.hid (by
    have z1 := H1.out.1.size
    have z2 := HZ2.out
    have z3 := H3.out.2.1.size
    refine ⟨_, p, T, qt, F4, rfl, ht, hT0, hqt, ?_, fun j hj => ?_⟩
    · have a : Fresh w W2 := H1.out.1.trans H1.out.2.1
      have b : Fresh w w3 := a.mut2 H3.out.2.1 (fun j hj => hj.1)
      exact b.mut2 hm4 (fun j hj => hj.1)
    · rcases hg4 j hj with h | h
      · exact h.1
      · have := h.1; omega)
  clear ht hT0 hqt hm4 hg4
  go_wp2
  go_ret2
  exact HFIN.out
end Go.Proofs.YtpmlggjhfiljmaaGreatDoor
