/- Contracts that the law rests on, part 48 of 50 (TrlE, CreA, ChaG). Each states its own conditions. -/
import Derived.Test.YtpmlggjhfiljmaaGreatDoorC06
import Derived.Test.YtpmlggjhfiljmaaGreatDoorC44
import Derived.Test.YtpmlggjhfiljmaaGreatDoorC46
import Derived.Test.YtpmlggjhfiljmaaGreatDoorC47
/- Layer 17: Make in a root without entries; the first word of the great statements: awake. -/
namespace Go.Proofs.YtpmlggjhfiljmaaGreatDoor
open Go.RowKit
set_option linter.unusedVariables false
set_option linter.unnecessarySimpa false
set_option linter.unusedSimpArgs false
attribute [local go_sem ↓] Go.wp_at_zero Go.wp_at_succ
/-- what Make of a name in a root without entries answers, and the state behind it -/
def NewS (T : TreS) (raw : ByteArray) (isDir : Bool) (q qt : Nat) (a b : Int) (k2 t2 q2 : Nat) (T2 : TreS) (qt2 : Nat) : Prop :=
  a = 1 ∧ b = 0 ∧ k2 = 1 ∧ t2 = 2 + kfr (raw.size + 9) ∧ q2 = q + kfr (raw.size + 9) ∧ T2 = linkT T 0 raw isDir 0 1 1 [] ∧ qt2 = qt + 3
theorem newS_of {T : TreS} {raw : ByteArray} {isDir : Bool} {q qt : Nat} (h0 : IsT0 T) (hg : GoodN raw) {a b : Int} {k2 t2 q2 : Nat} {T2 : TreS} {qt2 : Nat}
    (h : MakeS (LinkS (RNew T) T 0 raw isDir 0 0 2 q qt) (0, raw, 0) 0 2 q T qt a b k2 t2 q2 T2 qt2) : NewS T raw isDir q qt a b k2 t2 q2 T2 qt2 := by
  have hd : T.dirs 0 = some [] := by rw [h0.1]; rfl
  rcases h with ⟨h, _⟩ | ⟨_, h⟩
  · exact absurd rfl h
  · rcases h with ⟨hb, ha, h, _⟩ | ⟨_, fr, bk, hr, hi, rfl, rfl, rfl, rfl, rfl, rfl⟩
    · exfalso
      rcases h with (⟨h, _⟩ | ⟨l, hl, h⟩) | ⟨_, _, k, fr, bk, hr, hk⟩
      · rw [hd] at h; cases h
      · rw [hd] at hl
        injection hl with hl
        subst hl
        rcases h with ⟨h, _⟩ | ⟨_, h, _⟩ | ⟨_, _, _, h, _⟩
        · exact h hg
        · exact h (by omega)
        · exact absurd h (by unfold fidx; decide)
      · have := h0.first hr; omega
    · have e := h0.first hr
      obtain ⟨_, e2, e3⟩ := hr
      subst e3
      rw [e] at e2
      subst e2
      subst e
      exact ⟨rfl, rfl, rfl, rfl, rfl, rfl, rfl⟩
theorem FdoG.mono {S S' : Int → Int → Nat → Nat → Nat → TreS → Nat → Prop} {F : Nat → Prop} {f : Nat} {enc : Int} {p : Nat} {m n : Int} {w : World} {e : Ending} {w' : World} (h : FdoG S F f enc p m n w e w') (hs : ∀ a b k t q T qt, S a b k t q T qt → S' a b k t q T qt) : FdoG S' F f enc p m n w e w' := by
  obtain ⟨a, b, k, t, q, T, qt, F', h1, h2⟩ := h
  exact ⟨a, b, k, t, q, T, qt, F', hs _ _ _ _ _ _ _ h1, h2⟩
theorem fmake_t0 (enc : Int) (F : Nat → Prop) (f p : Nat) (m n : Int) (q : Nat) (T : TreS) (qt : Nat) (w : World) (h : FsAt w F f enc p m n 0 2 q T qt) (hT : IsT0 T) (hqt : qt ≤ 10) (s raw : ByteArray) (hs : PathN s) (hr : rawF enc s = (raw, 0)) (hg : GoodN raw) (isDir : Bool)
    (h0 : 0 ≤ enc) (h8 : enc ≤ 8) (hm : 0 ≤ m ∧ m + m ≤ n) (hn : n ≤ 1000000) (hfit : 7 ≤ m) (hq : q ≤ 70000) :
    Calls Tryz.prog 29 #[.pointer (some ⟨f, 0, none⟩), .string (slashS ++ s), .bool isDir] w (FdoG (NewS T raw isDir q qt) F f enc p m n w) := by
  have hB := TB.t0 hT (qt := qt) (by omega)
  have hfr : freshR enc T (slashS ++ s) = (0, raw, 0) := by rw [freshR_one hs (by rw [hT.root]; rfl), hr]
  have hsz := hs.2.1
  have H := fmake_any (LinkS (RNew T) T 0 raw isDir 0 0 2 q qt) F f enc p m n 0 2 q T qt w h (TOK.t0 hT) (slashS ++ s) isDir (by rw [slash_size]; omega) h0 h8 (fun _ W Fs s' _ hst => by
    rw [hfr]
    exact sdo_link (RNew T) Fs s' p m n 0 2 q T qt W hst (hT.takes (by omega)) (fun i fr bk hR => by rw [hR.2.2]; simp) 0 raw isDir 0 (by omega) (by omega) hg.2.1 hB (by omega) (fun i l hl => by
      rw [hT.1] at hl
      split at hl
      · injection hl with hl; subst hl; simp
      · cases hl) (by rw [hT.2.1]; omega) hm hn (by omega) (by omega) hq (by omega))
  rw [hfr] at H
  exact H.mono fun e w' h' => (h'.fdo h hB).mono fun a b k2 t2 q2 T2 qt2 hS => newS_of hT hg hS
theorem rawF_a : rawF 4 ⟨#[97]⟩ = (⟨#[97]⟩, 0) := by decide +kernel
theorem pathN_a : PathN ⟨#[97]⟩ := ⟨by decide, by decide, by decide, by decide, by decide⟩
theorem good_a : GoodN ⟨#[97]⟩ := (goodB_iff _).1 (by decide +kernel)
set_option maxRecDepth 100000 in
set_option maxHeartbeats 3200000 in
/-- a file system is made on a device, mounted, and a name is made -/
theorem awake_any (w : World) : Calls Tryz.prog 8 #[] w fun e w' => e = .returned (.bool true) ∧ Fresh w w' := by
  have HST := Lib.hid (fun W => start_any 30 4 15 rfl (by omega) (by omega) (by omega) (by omega) W)
  have HDO := Lib.hid (fun F g p T qt W (h : TrlAt W F g 4 0 p 15 30 0 2 5 T qt) (hT : IsT0 T) (hq : qt ≤ 10) => tdo_make (NewS T ⟨#[97]⟩ true 5 qt) ⟨#[47, 97]⟩ ⟨#[]⟩ true 0 0 F g 4 0 (by omega) p 15 30 0 2 5 T qt W h (fun W' Ff f hfs => fmake_t0 4 Ff f p 15 30 5 T qt W' hfs hT hq ⟨#[97]⟩ ⟨#[97]⟩ pathN_a rawF_a good_a true (by omega) (by omega) (by omega) (by omega) (by omega) (by omega)))
  have hfd : ∀ w : World, (Instr.field 40 (.agg #[.int .i64 0, .int .i64 1, .bool false, .string ⟨#[]⟩, .slice none 0 0, .int .i64 0]) 1).run Tryz.prog w = .ok (.int .i64 1) w := fun _ => by kernel_rfl
  go_enter Tryz.func8, Tryz.ntmps8
  go_wp2_with fail
  refine (HST.out _).mono ?_
  rintro e w1 ⟨g, p, T, qt, F, rfl, htr, hT0, hqt, hf1, hF⟩
  have H1 := Lib.hid (And.intro htr (And.intro hT0 (And.intro hqt (And.intro hf1 hF))))
  clear htr hT0 hqt hf1 hF
  go_wp2_with fail
  refine (HDO.out F g p T qt _ H1.out.1 H1.out.2.1 H1.out.2.2.1).mono ?_
  rintro e w2 ⟨a, b, k, t, q, T2, qt2, F', ⟨rfl, rfl, _⟩, rfl, htr, hTB, hm, hg⟩
  have HF : Hid (Fresh w w2) := Lib.hid (H1.out.2.2.2.1.mut2 hm H1.out.2.2.2.2)
  clear htr hTB hm hg
  unfold ansV
  go_wp2
  go_ret
  exact ⟨rfl, HF.out⟩
end Go.Proofs.YtpmlggjhfiljmaaGreatDoor
/- TopCreates: the reference's Reserved; a root with one entry; asking a file system. -/
namespace Go.Proofs.YtpmlggjhfiljmaaGreatDoor
open Go.RowKit
set_option linter.unusedVariables false
set_option linter.unnecessarySimpa false
set_option linter.unusedSimpArgs false
theorem resL_at : ∀ k : Fin 10, wrap64 (((⟨#[34, 37, 42, 47, 58, 60, 62, 63, 92, 124]⟩ : ByteArray)[k.val]'k.isLt).toNat : Int) = reservedL.getD k.val 0 := by decide +kernel
set_option maxRecDepth 100000 in
set_option maxHeartbeats 1600000 in
theorem refRes_any (r : Int) (w : World) : Calls Tryz.prog 23 #[.int .i64 r] w fun e w' => e = .returned (.bool (resB r)) ∧ Fresh w w' := by
  have HB : Hid (∀ k : Nat, (∀ j : Nat, j < k → reservedL.getD j 0 ≠ r) → 10 ≤ k → reservedL.contains r = false) := Lib.hid (fun k h hk => by
    rw [List.contains_eq_mem, decide_eq_false_iff_not]
    intro hm
    obtain ⟨j, hj, e⟩ := List.mem_iff_getElem.1 hm
    have hj10 : j < 10 := hj
    refine h j (by omega) ?_
    rw [List.getD_eq_getElem?_getD, List.getElem?_eq_getElem hj]
    exact e)
  go_enter Tryz.func23, Tryz.ntmps23
  go_wp2
  go_loopw [4] (fun i wr => ∃ k : Nat, i = .int .i64 k ∧ k ≤ 10 ∧ (∀ j : Nat, j < k → reservedL.getD j 0 ≠ r) ∧ Fresh w wr) (fun i _ => 10 - (intOf i).toNat)
  case atStart => exact ⟨0, rfl, by omega, fun j hj => by omega, Fresh.refl _⟩
  case round =>
    obtain ⟨k, rfl, hk, hn, hf⟩ := hrel
    have HN := Lib.hid hn
    clear hn
    by_cases hlt : k < 10
    · have HE := Lib.hid (resL_at ⟨k, hlt⟩)
      go_wp2
      · rename_i _ hq
        have hr : reservedL.getD k 0 = r := by
          have a := HE.out
          rw [← a]
          exact (beq_iff_eq.1 hq).symm
        have hres : resB r = true := by
          have hm : reservedL.contains r = true := by
            rw [List.contains_eq_mem, decide_eq_true_eq, ← hr, List.getD_eq_getElem?_getD, List.getElem?_eq_getElem (show k < reservedL.length from hlt)]
            exact List.getElem_mem _
          unfold resB
          rw [hm]
          simp
        go_ret
        exact ⟨by rw [hres]; rfl, hf⟩
      · rename_i _ hq
        refine ⟨⟨k + 1, by go_num, by omega, fun j hj => ?_, hf⟩, by simp [intOf]; omega⟩
        by_cases ej : j = k
        · subst ej
          intro e
          have a := HE.out
          rw [← a] at e
          rw [beq_eq_false_iff_ne] at hq
          exact hq e.symm
        · exact HN.out j (by omega)
    · have hc := HB.out k HN.out (by omega)
      obtain rfl : k = 10 := by omega
      have hres : resB r = ((decide (0 ≤ r) && decide (r < 32)) || decide (r = 127)) := by unfold resB; rw [hc, Bool.or_false]
      have HRES := Lib.hid hres
      clear hres hc hk hlt
      by_cases h3 : r = 127
      · subst h3
        go_wp2
        go_ret
        exact ⟨rfl, hf⟩
      · by_cases h1 : 0 ≤ r
        · by_cases h2 : r < 32
          · have hz : Hid (resB r = true) := Lib.hid (by rw [HRES.out, decide_eq_true h1, decide_eq_true h2]; rfl)
            go_wp2
            go_ret
            exact ⟨by rw [hz.out]; rfl, hf⟩
          · have hz : Hid (resB r = (r == 127)) := Lib.hid (by rw [HRES.out, decide_eq_false h2, Bool.and_false, Bool.false_or]; rfl)
            go_wp2
            go_ret
            exact ⟨by rw [hz.out]; rfl, hf⟩
        · have hz : Hid (resB r = (r == 127)) := Lib.hid (by rw [HRES.out, decide_eq_false h1, Bool.false_and, Bool.false_or]; rfl)
          go_wp2
          go_ret
          exact ⟨by rw [hz.out]; rfl, hf⟩
/-- the tree of a root with one file -/
def t1 (T : TreS) (raw : ByteArray) : TreS := linkT T 0 raw false 0 1 1 []
def e1 (raw : ByteArray) : Ent := ⟨raw, 1, false, 1, 0⟩
theorem t1_dirs {T : TreS} (h : IsT0 T) (raw : ByteArray) (d : Int) : (t1 T raw).dirs d = if d = 0 then some [e1 raw] else none := by
  show (if d = 0 then some (((nodeT T false 1 1 []).dirs 0).getD [] ++ [_]) else (nodeT T false 1 1 []).dirs d) = _
  have hn : (nodeT T false 1 1 []).dirs = T.dirs := rfl
  rw [hn]
  by_cases e : d = 0
  · rw [if_pos e, if_pos e, h.1]
    show some ([] ++ [({ (⟨raw, 1, false, 0, 0⟩ : Ent) with cookie := T.next } : Ent)]) = _
    rw [h.2.1]; rfl
  · rw [if_neg e, if_neg e, h.1, if_neg e]
theorem t1_mem {T : TreS} (h : IsT0 T) {raw : ByteArray} {d : Int} {l : List Ent} (hl : (t1 T raw).dirs d = some l) : l = [e1 raw] := by
  rw [t1_dirs h] at hl
  split at hl
  · injection hl with hl; exact hl.symm
  · cases hl
theorem t1_tok {enc : Int} {T : TreS} (h : IsT0 T) {raw : ByteArray} (h0 : 0 ≤ enc) (h8 : enc ≤ 8) (hr : raw.size ≤ 255) : TOK enc (t1 T raw) :=
  ⟨fun d l hl e he => by
    rw [t1_mem h hl] at he
    simp at he
    subst he
    exact of_short enc (e1 raw) h0 h8 (by show raw.size ≤ 10000; omega) rfl,
   fun d l hl => by rw [t1_mem h hl]; simp, fun d l hl e he => by
    rw [t1_mem h hl] at he
    simp at he
    subst he
    show I64 1
    exact ⟨by omega, by omega⟩⟩
theorem t1_rises {T : TreS} (h : IsT0 T) {raw : ByteArray} : Rises (t1 T raw) := fun d l hl => by rw [t1_mem h hl]; exact List.pairwise_singleton _ _
theorem t1_root {T : TreS} (h : IsT0 T) (raw : ByteArray) : rootL (t1 T raw) = [e1 raw] := by unfold rootL; rw [t1_dirs h]; rfl
theorem t1_at {enc : Int} {T : TreS} (h : IsT0 T) {raw s : ByteArray} (hs : PathN s) (hp : presS enc raw = s) : atR enc (t1 T raw) (slashS ++ s) = (0, s, e1 raw, 0) := by
  have hf : faceB enc s (e1 raw) = true := faceB_iff.2 (by unfold faceS; exact (if_pos (show (e1 raw).short = 0 from rfl)).trans hp)
  rw [atR_one hs, t1_root h, List.find?_cons_of_pos hf]
theorem t1_list {enc : Int} {T : TreS} (h : IsT0 T) {raw s : ByteArray} (hp : presS enc raw = s) : flistR enc (t1 T raw) slashS 0 9 = ([s], 1, 0) := by
  have hpt : pathT enc (t1 T raw) slashS = .inl (0, true) := rfl
  have hl : listR enc (t1 T raw) slashS = (0, [e1 raw], 0) := by unfold listR; rw [hpt]; simp [nvR, t1_dirs h]
  have hc : readR [e1 raw] 0 9 = ([e1 raw], 1, 0) := rfl
  have hf : faceS enc (e1 raw) = s := by unfold faceS; exact (if_pos (show (e1 raw).short = 0 from rfl)).trans hp
  unfold flistR
  rw [hl]
  simp only
  rw [hc]
  simp [hf]
theorem FsAt.raw {F : Nat → Prop} {w : World} {f : Nat} {enc : Int} {p : Nat} {m n : Int} {k t q : Nat} {T : TreS} {qt : Nat} (h : FsAt w F f enc p m n k t q T qt) (hT : TOK enc T) (path : ByteArray) (hp : path.size ≤ 1000000) :
    Calls Tryz.prog 30 #[.pointer (some ⟨f, 0, none⟩), .string path] w fun e w' => e = .returned (.tuple #[.string (atR enc T path).2.2.1.name, .int .i64 (atR enc T path).2.2.2]) ∧ Fresh w w' := by
  obtain ⟨s, tr, Fs, At, hb, hFf, hFs, hAt, hf1, hf2, hd, hs, ht, hF⟩ := h
  exact fraw2_any enc At f s tr T qt hT w hb ht path hp
theorem FsAt.list {F : Nat → Prop} {w : World} {f : Nat} {enc : Int} {p : Nat} {m n : Int} {k t q : Nat} {T : TreS} {qt : Nat} (h : FsAt w F f enc p m n k t q T qt) (hT : TOK enc T) (hR : Rises T) (path : ByteArray) (hp : path.size ≤ 1000000) (cur c : Int) :
    Calls Tryz.prog 31 #[.pointer (some ⟨f, 0, none⟩), .string path, .int .i64 cur, .int .i64 c] w (FsListF (flistR enc T path cur c) w) := by
  obtain ⟨s, tr, Fs, At, hb, hFf, hFs, hAt, hf1, hf2, hd, hs, ht, hF⟩ := h
  exact fslist_any enc At f s tr T qt hT hR w hb ht path hp cur c
end Go.Proofs.YtpmlggjhfiljmaaGreatDoor
/- The reference's greek, russian, Two. -/
namespace Go.Proofs.YtpmlggjhfiljmaaGreatDoor
open Go.RowKit
set_option linter.unusedVariables false
def greekI (f n : Int) : Int := if 17 ≤ n then f + (n + 1) else f + n
def russI (f y n : Int) : Int := if n = 6 then y else if 6 < n then f + (n - 1) else f + n
set_option maxHeartbeats 400000 in
theorem greek_any (f n : Int) (hf : 0 ≤ f ∧ f ≤ 100000) (hn : 0 ≤ n ∧ n ≤ 1000) (w : World) :
    Calls Tryz.prog 119 #[.int .i64 f, .int .i64 n] w fun e w' => e = .returned (.int .i64 (greekI f n)) ∧ w = w' := by
  obtain ⟨f0, f1⟩ := hf
  obtain ⟨n0, n1⟩ := hn
  by_cases h : 17 ≤ n
  · have HZ : Hid (greekI f n = f + (n + 1)) := by unfold greekI; rw [if_pos h]; exact rfl
    go_enter Tryz.func119, Tryz.ntmps119
    go_wp2
    go_ret
    exact ⟨ret_int HZ.out.symm, rfl⟩
  · have HZ : Hid (greekI f n = f + n) := by unfold greekI; rw [if_neg h]; exact rfl
    go_enter Tryz.func119, Tryz.ntmps119
    go_wp2
    go_ret
    exact ⟨ret_int HZ.out.symm, rfl⟩
set_option maxHeartbeats 400000 in
theorem russ_any (f y n : Int) (hf : 0 ≤ f ∧ f ≤ 100000) (hn : 0 ≤ n ∧ n ≤ 1000) (w : World) :
    Calls Tryz.prog 120 #[.int .i64 f, .int .i64 y, .int .i64 n] w fun e w' => e = .returned (.int .i64 (russI f y n)) ∧ w = w' := by
  obtain ⟨f0, f1⟩ := hf
  obtain ⟨n0, n1⟩ := hn
  by_cases h6 : n = 6
  · have HZ : Hid (russI f y n = y) := by unfold russI; rw [if_pos h6]; exact rfl
    have hb : (n == 6) = true := by simp [h6]
    clear h6
    go_enter Tryz.func120, Tryz.ntmps120
    go_wp2
    go_ret
    exact ⟨ret_int HZ.out.symm, rfl⟩
  have hb : (n == 6) = false := by simp [h6]
  by_cases h : 6 < n
  · have HZ : Hid (russI f y n = f + (n - 1)) := by unfold russI; rw [if_neg h6, if_pos h]; exact rfl
    clear h6
    go_enter Tryz.func120, Tryz.ntmps120
    go_wp2
    go_ret
    exact ⟨ret_int HZ.out.symm, rfl⟩
  · have HZ : Hid (russI f y n = f + n) := by unfold russI; rw [if_neg h6, if_neg h]; exact rfl
    clear h6
    go_enter Tryz.func120, Tryz.ntmps120
    go_wp2
    go_ret
    exact ⟨ret_int HZ.out.symm, rfl⟩
theorem two_at (x : Int × Int × Int × Int) (hx : x ∈ RT) {a b v : Int} (h1 : x.1 = a) (h2 : x.2.1 ≤ b) (h3 : b ≤ x.2.2.1) (h4 : v = x.2.2.2 + (b - x.2.1)) : v = twoI a b := by
  rw [two_of hx ⟨h1, h2, h3⟩, h4]
theorem two_gr1 {b : Int} (h1 : 159 ≤ b) (h2 : b ≤ 182) : greekI 913 (b - 159) = twoI 131 b := by
  unfold greekI
  split
  · exact two_at (131, 176, 182, 931) (by decide +kernel) rfl (by first | (simp only; done) | (simp only; omega)) (by first | (simp only; done) | (simp only; omega)) (by first | (simp only; done) | (simp only; omega))
  · exact two_at (131, 159, 175, 913) (by decide +kernel) rfl (by first | (simp only; done) | (simp only; omega)) (by first | (simp only; done) | (simp only; omega)) (by first | (simp only; done) | (simp only; omega))
theorem two_gr2 {b : Int} (h1 : 191 ≤ b) (h2 : b ≤ 214) : greekI 945 (b - 191) = twoI 131 b := by
  unfold greekI
  split
  · exact two_at (131, 208, 214, 963) (by decide +kernel) rfl (by first | (simp only; done) | (simp only; omega)) (by first | (simp only; done) | (simp only; omega)) (by first | (simp only; done) | (simp only; omega))
  · exact two_at (131, 191, 207, 945) (by decide +kernel) rfl (by first | (simp only; done) | (simp only; omega)) (by first | (simp only; done) | (simp only; omega)) (by first | (simp only; done) | (simp only; omega))
theorem two_ru1 {b : Int} (h1 : 64 ≤ b) (h2 : b ≤ 96) : russI 1040 1025 (b - 64) = twoI 132 b := by
  unfold russI
  split
  · exact two_at (132, 70, 70, 1025) (by decide +kernel) rfl (by first | (simp only; done) | (simp only; omega)) (by first | (simp only; done) | (simp only; omega)) (by first | (simp only; done) | (simp only; omega))
  split
  · exact two_at (132, 71, 96, 1046) (by decide +kernel) rfl (by first | (simp only; done) | (simp only; omega)) (by first | (simp only; done) | (simp only; omega)) (by first | (simp only; done) | (simp only; omega))
  · exact two_at (132, 64, 69, 1040) (by decide +kernel) rfl (by first | (simp only; done) | (simp only; omega)) (by first | (simp only; done) | (simp only; omega)) (by first | (simp only; done) | (simp only; omega))
theorem two_ru2 {b : Int} (h1 : 112 ≤ b) (h2 : b < 127) : russI 1072 1105 (b - 112) = twoI 132 b := by
  unfold russI
  split
  · exact two_at (132, 118, 118, 1105) (by decide +kernel) rfl (by first | (simp only; done) | (simp only; omega)) (by first | (simp only; done) | (simp only; omega)) (by first | (simp only; done) | (simp only; omega))
  split
  · exact two_at (132, 119, 126, 1078) (by decide +kernel) rfl (by first | (simp only; done) | (simp only; omega)) (by first | (simp only; done) | (simp only; omega)) (by first | (simp only; done) | (simp only; omega))
  · exact two_at (132, 112, 117, 1072) (by decide +kernel) rfl (by first | (simp only; done) | (simp only; omega)) (by first | (simp only; done) | (simp only; omega)) (by first | (simp only; done) | (simp only; omega))
theorem two_ru3 {b : Int} (h1 : 127 < b) (h2 : b ≤ 145) : russI 1072 1105 (b - 112 - 1) = twoI 132 b := by
  unfold russI
  rw [if_neg (by omega), if_pos (by omega)]
  exact two_at (132, 128, 145, 1086) (by decide +kernel) rfl (by first | (simp only; done) | (simp only; omega)) (by first | (simp only; done) | (simp only; omega)) (by first | (simp only; done) | (simp only; omega))
theorem two_miss {a b : Int} (h : ¬ (a = 130 ∧ ((79 ≤ b ∧ b ≤ 88) ∨ (96 ≤ b ∧ b ≤ 121) ∨ (129 ≤ b ∧ b ≤ 154) ∨ (159 ≤ b ∧ b ≤ 241)))) (h1 : ¬ (a = 131 ∧ ((64 ≤ b ∧ b ≤ 150 ∧ b ≠ 127) ∨ (159 ≤ b ∧ b ≤ 182) ∨ (191 ≤ b ∧ b ≤ 214))))
    (h2 : ¬ (a = 132 ∧ ((64 ≤ b ∧ b ≤ 96) ∨ (112 ≤ b ∧ b ≤ 145 ∧ b ≠ 127)))) : -1 = twoI a b := by
  rcases two_cases a b with ⟨x, hx, hh, _⟩ | ⟨_, e⟩
  · exfalso
    have : (RT.all fun x => decide ((x.1 = 130 ∧ ((79 ≤ x.2.1 ∧ x.2.2.1 ≤ 88) ∨ (96 ≤ x.2.1 ∧ x.2.2.1 ≤ 121) ∨ (129 ≤ x.2.1 ∧ x.2.2.1 ≤ 154) ∨ (159 ≤ x.2.1 ∧ x.2.2.1 ≤ 241))) ∨
      (x.1 = 131 ∧ ((64 ≤ x.2.1 ∧ x.2.2.1 ≤ 126) ∨ (128 ≤ x.2.1 ∧ x.2.2.1 ≤ 150) ∨ (159 ≤ x.2.1 ∧ x.2.2.1 ≤ 182) ∨ (191 ≤ x.2.1 ∧ x.2.2.1 ≤ 214))) ∨
      (x.1 = 132 ∧ ((64 ≤ x.2.1 ∧ x.2.2.1 ≤ 96) ∨ (112 ≤ x.2.1 ∧ x.2.2.1 ≤ 126) ∨ (128 ≤ x.2.1 ∧ x.2.2.1 ≤ 145))))) = true := by decide +kernel
    have := of_decide_eq_true (List.all_eq_true.1 this x hx)
    unfold hitB at hh
    omega
  · exact e.symm
theorem Two.fin {a b v : Int} {w : World} (h : v = twoI a b) : (Ending.returned (.int .i64 v) = .returned (.int .i64 (twoI a b)) ∧ w = w) := ⟨by rw [h], rfl⟩
set_option maxHeartbeats 1600000 in
set_option maxRecDepth 100000 in
theorem two_any (a b : Int) (ha : 0 ≤ a ∧ a < 256) (hb : 0 ≤ b ∧ b < 256) (w : World) :
    Calls Tryz.prog 64 #[.int .i64 a, .int .i64 b] w fun e w' => e = .returned (.int .i64 (twoI a b)) ∧ w = w' := by
  obtain ⟨a0, a1⟩ := ha
  obtain ⟨b0, b1⟩ := hb
  by_cases e1 : a = 130
  · subst e1
    go_enter Tryz.func64, Tryz.ntmps64
    go_wp2
    all_goals
      go_ret
      first
        | exact Two.fin (two_at (130, 79, 88, 65296) (by decide +kernel) rfl (by first | (simp only; done) | (simp only; omega)) (by first | (simp only; done) | (simp only; omega)) (by first | rfl | (simp only; omega)))
        | exact Two.fin (two_at (130, 96, 121, 65313) (by decide +kernel) rfl (by first | (simp only; done) | (simp only; omega)) (by first | (simp only; done) | (simp only; omega)) (by first | rfl | (simp only; omega)))
        | exact Two.fin (two_at (130, 129, 154, 65345) (by decide +kernel) rfl (by first | (simp only; done) | (simp only; omega)) (by first | (simp only; done) | (simp only; omega)) (by first | rfl | (simp only; omega)))
        | exact Two.fin (two_at (130, 159, 241, 12353) (by decide +kernel) rfl (by first | (simp only; done) | (simp only; omega)) (by first | (simp only; done) | (simp only; omega)) (by first | rfl | (simp only; omega)))
        | exact Two.fin (two_miss (by omega) (by omega) (by omega))
  by_cases e2 : a = 131
  · subst e2
    by_cases c1 : 64 ≤ b ∧ b < 127
    · obtain ⟨c1, c2⟩ := c1
      have hb1 : (b != 127) = true := by simp; omega
      go_enter Tryz.func64, Tryz.ntmps64
      go_wp2
      go_ret
      exact Two.fin (two_at (131, 64, 126, 12449) (by decide +kernel) rfl (by first | (simp only; done) | (simp only; omega)) (by first | (simp only; done) | (simp only; omega)) (by first | rfl | (simp only; omega)))
    by_cases c3 : 128 ≤ b ∧ b ≤ 150
    · obtain ⟨c3, c4⟩ := c3
      have hb1 : (b != 127) = true := by simp; omega
      clear c1
      go_enter Tryz.func64, Tryz.ntmps64
      go_wp2
      go_ret
      exact Two.fin (two_at (131, 128, 150, 12512) (by decide +kernel) rfl (by first | (simp only; done) | (simp only; omega)) (by first | (simp only; done) | (simp only; omega)) (by first | rfl | (simp only; omega)))
    have c5 : b < 64 ∨ b = 127 ∨ 150 < b := by omega
    clear c1 c3
    rcases c5 with c5 | rfl | c5
    all_goals
      go_enter Tryz.func64, Tryz.ntmps64
      go_wp2_with (go_at_call 119; refine (greek_any _ _ (by omega) (by omega) _).mono ?_; rintro e w1 ⟨rfl, rfl⟩)
      all_goals
        go_ret
        first
          | exact Two.fin (two_miss (by omega) (by omega) (by omega))
          | exact Two.fin (two_gr1 (by omega) (by omega))
          | exact Two.fin (two_gr2 (by omega) (by omega))
  by_cases e3 : a = 132
  · subst e3
    by_cases c1 : 112 ≤ b ∧ b < 127
    · obtain ⟨c1, c2⟩ := c1
      have hb1 : (b != 127) = true := by simp; omega
      go_enter Tryz.func64, Tryz.ntmps64
      go_wp2_with (go_at_call 120; refine (russ_any _ _ _ (by omega) (by omega) _).mono ?_; rintro e w1 ⟨rfl, rfl⟩)
      go_ret
      exact Two.fin (two_ru2 (by omega) (by omega))
    by_cases c3 : 128 ≤ b ∧ b ≤ 145
    · obtain ⟨c3, c4⟩ := c3
      have hb1 : (b != 127) = true := by simp; omega
      clear c1
      go_enter Tryz.func64, Tryz.ntmps64
      go_wp2_with (go_at_call 120; refine (russ_any _ _ _ (by omega) (by omega) _).mono ?_; rintro e w1 ⟨rfl, rfl⟩)
      go_ret
      exact Two.fin (two_ru3 (by omega) (by omega))
    have c5 : b < 112 ∨ b = 127 ∨ 145 < b := by omega
    clear c1 c3
    rcases c5 with c5 | rfl | c5
    all_goals
      go_enter Tryz.func64, Tryz.ntmps64
      go_wp2_with (go_at_call 120; refine (russ_any _ _ _ (by omega) (by omega) _).mono ?_; rintro e w1 ⟨rfl, rfl⟩)
      all_goals
        go_ret
        first
          | exact Two.fin (two_miss (by omega) (by omega) (by omega))
          | exact Two.fin (two_ru1 (by omega) (by omega))
  · have g1 : (a == 130) = false := by simp [e1]
    have g2 : (a == 131) = false := by simp [e2]
    have g3 : (a == 132) = false := by simp [e3]
    have HZ : Hid (-1 = twoI a b) := two_miss (by omega) (by omega) (by omega)
    clear e1 e2 e3
    go_enter Tryz.func64, Tryz.ntmps64
    go_wp2
    go_ret
    exact Two.fin HZ.out
end Go.Proofs.YtpmlggjhfiljmaaGreatDoor
