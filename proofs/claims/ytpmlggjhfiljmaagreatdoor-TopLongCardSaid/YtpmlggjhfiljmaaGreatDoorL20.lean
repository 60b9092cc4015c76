/- Part 20 of what the law rests on. -/
import Derived.Lib.Builder
import Derived.Shelf.Strings.Builder1
import Derived.Shelf.RegionOpen
import Derived.Shelf.SlIterI.Nil
import Derived.Shelf.SortM.Plain
import Derived.Shelf.SortM.SortNone
import Derived.Ground.GgzProg
import Derived.Ground.SlgmProg
import Derived.Test.YtpmlggjhfiljmaaGreatDoorL11
import Derived.Test.YtpmlggjhfiljmaaGreatDoorL19
set_option linter.all false
namespace Go.Proofs.YtpmlggjhfiljmaaGreatDoor
open Go.RowKit
def TakeG (R : Int → Int → List Int → Prop) (A : Nat → Prop) (p : Nat) (O : Int → Bool) (q : Nat) (w : World) (e : Ending) (w' : World) : Prop :=
  ∃ k fr bk A', R k fr bk ∧ I64 k ∧ Mut A w w' ∧ Gr A w w' A' ∧ ((k ≤ 200 ∧ e = .returned (.tuple #[.int .i64 k, .bool true]) ∧ PoolAt w' A' p fr bk (fun i => O i || decide (i = k)) (q + 1)) ∨ (200 < k ∧ e = .returned (.tuple #[.int .i64 0, .bool false]) ∧ PoolAt w' A' p fr bk O (q + 1)))
def Takes (R : Int → Int → List Int → Prop) (T : TreS) (q : Nat) : Prop := ∀ W A p, PoolAt W A p T.fr T.bk T.out q → Calls Tryz.prog 341 #[.pointer (some ⟨p, 0, none⟩)] W (TakeG R A p T.out q W)
theorem TreeAt.pooled {w w' : World} {A Ap Ap' : Nat → Prop} {t gd gf pp q : Nat} {T : TreS} {Md Mf : Int → Option Value} {fr : Int} {bk : List Int} {O : Int → Bool} (h1 : Blk w t 159 #[.map (some gd), .map (some gf), .pointer (some ⟨pp, 0, none⟩), .int .i64 T.next]) (h2 : A t ∧ ¬ Ap t) (h3 : A gd ∧ ¬ Ap gd) (h4 : A gf ∧ ¬ Ap gf) (h5 : gd ≠ gf) (h6 : MapAt w gd q Md) (h7 : MapAt w gf q Mf) (h8 : ∀ i, Mf i = if T.files i = true then some (.int .i64 1) else none)
    (h9 : ∀ i l, T.dirs i = some l → ∃ v, Md i = some v ∧ OwnE w (fun g => A g ∧ ¬ Ap g) v l) (h10 : ∀ i, T.dirs i = none → Md i = none) (h12 : ∀ k, Ap k → A k) (hm : Mut Ap w w') (hg : Gr Ap w w' Ap') (hp : PoolAt w' Ap' pp fr bk O (q + 1)) :
    TreeAt w' (ext A w w') t { T with out := O, fr := fr, bk := bk } (q + 1) ∧ Mut A w w' := by
  have n : ∀ k, k < w.heap.size → ¬ Ap k → ¬ Ap' k := fun k h1 h2 h3 => by
    rcases hg k h3 with q | q
    · exact h2 q
    · omega
  refine ⟨⟨gd, gf, pp, Md, Mf, Ap', h1.mut hm h2.2, ⟨.inl h2.1, n _ h1.lt h2.2⟩, ⟨.inl h3.1, n _ h6.lt h3.2⟩, ⟨.inl h4.1, n _ h7.lt h4.2⟩, h5, (h6.mut hm h3.2).mono (by omega), (h7.mut hm h4.2).mono (by omega), h8, fun i l hi => ?_, h10, fun k hk => ?_, hp⟩, hm.mono (fun j _ h => h12 j h)⟩
  · obtain ⟨v, hv, ho⟩ := h9 i l hi
    have o2 : OwnE w (fun g => (A g ∧ ¬ Ap g) ∧ g < w.heap.size) v l := OwnA.mono ho (fun g hg hh => ⟨hh, hg⟩)
    have o3 : OwnE w' (fun g => (A g ∧ ¬ Ap g) ∧ g < w.heap.size) v l := OwnA.mut o2 hm (fun g hg => hg.1.2)
    exact ⟨v, hv, OwnA.mono o3 (fun g _ hg => ⟨.inl hg.1.1, n g hg.2 hg.1.2⟩)⟩
  · rcases hg k hk with q | q
    · exact .inl (h12 k q)
    · exact .inr q
theorem TreeAt.dirNew {w w' : World} {A Ap : Nat → Prop} {t gd gf pp q : Nat} {T : TreS} {Md Mf : Int → Option Value} {k : Int} (h1 : Blk w t 159 #[.map (some gd), .map (some gf), .pointer (some ⟨pp, 0, none⟩), .int .i64 T.next]) (h2 : A t ∧ ¬ Ap t) (h3 : A gd ∧ ¬ Ap gd) (h4 : A gf ∧ ¬ Ap gf) (h5 : gd ≠ gf) (h6 : MapAt w gd q Md) (h7 : MapAt w gf q Mf) (h8 : ∀ i, Mf i = if T.files i = true then some (.int .i64 1) else none)
    (h9 : ∀ i l, T.dirs i = some l → ∃ v, Md i = some v ∧ OwnE w (fun g => A g ∧ ¬ Ap g) v l) (h10 : ∀ i, T.dirs i = none → Md i = none) (h12 : ∀ k, Ap k → A k) (h11 : PoolAt w Ap pp T.fr T.bk T.out q)
    (m6 : MapAt w' gd (q + 1) (fun i => if i = k then some (.slice none 0 0) else Md i)) (u6 : Mut (fun j => j = gd) w w') :
    TreeAt w' A t { T with dirs := fun i => if i = k then some [] else T.dirs i } (q + 1) ∧ Mut A w w' := by
  have htd : t ≠ gd := h1.neMap h6
  refine ⟨⟨gd, gf, pp, _, Mf, Ap, h1.mut u6 htd, h2, h3, h4, h5, m6, (h7.mut u6 (fun e => h5 e.symm)).mono (by omega), h8, fun i l hi => ?_, fun i hi => ?_, h12, (h11.mut u6 (fun k hk e => h3.2 (e ▸ hk))).le (by omega)⟩, u6.mono (fun j _ e => by rw [e]; exact h3.1)⟩
  · simp only at hi
    by_cases e : i = k
    · rw [if_pos e] at hi
      injection hi with hi
      subst hi
      exact ⟨_, if_pos e, OwnA.nil _ _ _ _⟩
    · rw [if_neg e] at hi
      obtain ⟨v, hv, ho⟩ := h9 i l hi
      exact ⟨v, by rw [if_neg e]; exact hv, OwnA.mutB ho u6 (fun g hg e => OwnA.neMap ho h6 (by rw [hg, e]))⟩
  · simp only at hi
    by_cases e : i = k
    · rw [if_pos e] at hi; cases hi
    · rw [if_neg e] at hi; rw [if_neg e]; exact h10 i hi
theorem TreeAt.fileNew {w w' : World} {A Ap : Nat → Prop} {t gd gf pp q : Nat} {T : TreS} {Md Mf : Int → Option Value} {k : Int} (h1 : Blk w t 159 #[.map (some gd), .map (some gf), .pointer (some ⟨pp, 0, none⟩), .int .i64 T.next]) (h2 : A t ∧ ¬ Ap t) (h3 : A gd ∧ ¬ Ap gd) (h4 : A gf ∧ ¬ Ap gf) (h5 : gd ≠ gf) (h6 : MapAt w gd q Md) (h7 : MapAt w gf q Mf) (h8 : ∀ i, Mf i = if T.files i = true then some (.int .i64 1) else none)
    (h9 : ∀ i l, T.dirs i = some l → ∃ v, Md i = some v ∧ OwnE w (fun g => A g ∧ ¬ Ap g) v l) (h10 : ∀ i, T.dirs i = none → Md i = none) (h12 : ∀ k, Ap k → A k) (h11 : PoolAt w Ap pp T.fr T.bk T.out q)
    (m6 : MapAt w' gf (q + 1) (fun i => if i = k then some (.int .i64 1) else Mf i)) (u6 : Mut (fun j => j = gf) w w') :
    TreeAt w' A t { T with files := fun i => T.files i || decide (i = k) } (q + 1) ∧ Mut A w w' := by
  have htd : t ≠ gf := h1.neMap h7
  refine ⟨⟨gd, gf, pp, Md, _, Ap, h1.mut u6 htd, h2, h3, h4, h5, (h6.mut u6 h5).mono (by omega), m6, fun i => ?_, fun i l hi => ?_, h10, h12, (h11.mut u6 (fun k hk e => h4.2 (e ▸ hk))).le (by omega)⟩, u6.mono (fun j _ e => by rw [e]; exact h4.1)⟩
  · by_cases e : i = k
    · simp [e]
    · rw [if_neg e, h8]; simp [e]
  · obtain ⟨v, hv, ho⟩ := h9 i l hi
    exact ⟨v, hv, OwnA.mutB ho u6 (fun g hg e => OwnA.neMap ho h7 (by rw [hg, e]))⟩
def nodeT (T : TreS) (isDir : Bool) (k fr : Int) (bk : List Int) : TreS :=
  { T with dirs := if isDir = true then (fun i => if i = k then some [] else T.dirs i) else T.dirs, files := if isDir = true then T.files else (fun i => T.files i || decide (i = k)), out := fun i => T.out i || decide (i = k), fr := fr, bk := bk }
def linkT (T : TreS) (d : Int) (name : ByteArray) (isDir : Bool) (short k fr : Int) (bk : List Int) : TreS := putT (nodeT T isDir k fr bk) d ⟨name, k, isDir, 0, short⟩
def LinkErr (T : TreS) (d : Int) (name : ByteArray) (short r : Int) : Prop :=
  (T.dirs d = none ∧ r = if T.files d = true then 8 else 5) ∨ (∃ l, T.dirs d = some l ∧ ((¬ GoodN name ∧ r = 3) ∨ (GoodN name ∧ ¬ (0 ≤ short ∧ short ≤ 1000000) ∧ r = 1) ∨ (GoodN name ∧ 0 ≤ short ∧ short ≤ 1000000 ∧ 0 ≤ fidx (nameB name) l ∧ r = 6)))
def LinkOk (T : TreS) (d : Int) (name : ByteArray) (short : Int) : Prop := ∃ l, T.dirs d = some l ∧ GoodN name ∧ 0 ≤ short ∧ short ≤ 1000000 ∧ fidx (nameB name) l < 0
def LinkPost (R : Int → Int → List Int → Prop) (A : Nat → Prop) (t : Nat) (T : TreS) (q : Nat) (d : Int) (name : ByteArray) (isDir : Bool) (short : Int) (w : World) (e : Ending) (w' : World) : Prop :=
  (∃ r, LinkErr T d name short r ∧ e = .returned (.tuple #[.int .i64 0, .int .i64 r]) ∧ Fresh w w') ∨
  (LinkOk T d name short ∧ ∃ k fr bk A', R k fr bk ∧ Mut A w w' ∧ Gr A w w' A' ∧ ((k ≤ 200 ∧ e = .returned (.tuple #[.int .i64 k, .int .i64 0]) ∧ TreeAt w' A' t (linkT T d name isDir short k fr bk) (q + 3)) ∨ (200 < k ∧ e = .returned (.tuple #[.int .i64 0, .int .i64 12]) ∧ TreeAt w' A' t { T with fr := fr, bk := bk } (q + 3))))
theorem link_join {w w3 w4 w5 w6 : World} {A A6 : Nat → Prop} (hf : Fresh w w3) (u4 : Mut A w3 w4) (u5 : Mut (ext A w3 w4) w4 w5) (u6 : Mut (ext A w3 w4) w5 w6) (g6 : Gr (ext A w3 w4) w5 w6 A6) : Mut A w w6 ∧ Gr A w w6 A6 := by
  have z1 := hf.size
  have z2 := u4.size
  have z3 := u5.size
  have z4 := u6.size
  have hx : ∀ j, j < w.heap.size → ext A w3 w4 j → A j := fun j hj h => by
    rcases h with h | h
    · exact h
    · omega
  refine ⟨((hf.andMut u4).trans2 u5 (fun _ h => h) hx).trans2 u6 (fun _ h => h) hx, fun k hk => ?_⟩
  rcases g6 k hk with (h | h) | h
  · exact .inl h
  · exact .inr ⟨by omega, by omega⟩
  · exact .inr ⟨by omega, h.2⟩
set_option maxRecDepth 100000 in
set_option maxHeartbeats 3200000 in
theorem link_any (R : Int → Int → List Int → Prop) (w : World) (A : Nat → Prop) (t : Nat) (T : TreS) (q : Nat) (h : TreeAt w A t T q) (hT : Takes R T q) (d : Int) (hd : I64 d) (name : ByteArray) (isDir : Bool) (short : Int) (hq : q ≤ 100000) (hl : ∀ i l, T.dirs i = some l → l.length ≤ 10000) (hn : 0 ≤ T.next ∧ T.next ≤ 100000) :
    Calls Tryz.prog 272 #[.pointer (some ⟨t, 0, none⟩), .int .i64 d, .string name, .bool isDir, .int .i64 short] w (LinkPost R A t T q d name isDir short w) := by
  have HL := Lib.hid (tlist_any w A t T q h d hd (fun l hl2 => by have := hl d l hl2; omega))
  have HM := Lib.hid (fun W => tmay_any name short W)
  have HH := Lib.hid h
  have HLL := Lib.hid hl
  have HT := Lib.hid hT
  clear h hl hT
  go_enter Tryz.func272, Tryz.ntmps272
  go_wp2_with fail
  refine HL.out.mono ?_
  rintro e w1 (⟨l, v, hdl, rfl, ho, hf1⟩ | ⟨hdn, rfl, hf1⟩)
  case inr =>
    have hr : ∃ r : Int, (if T.files d = true then 8 else 5) = r ∧ r ≠ 0 ∧ LinkErr T d name short r := by
      cases hfl : T.files d
      · exact ⟨5, rfl, by omega, .inl ⟨hdn, by rw [hfl]; rfl⟩⟩
      · exact ⟨8, rfl, by omega, .inl ⟨hdn, by rw [hfl]; rfl⟩⟩
    obtain ⟨r, hr1, hr0, hre⟩ := hr
    rw [hr1]
    have HR := Lib.hid hre
    have hrb : (r == 0) = false := by simp [hr0]
    have hrb2 : (r != 0) = true := by simp [hr0]
    clear hre hdn hr1
    go_wp2
    go_ret2
    exact .inl ⟨r, HR.out, rfl, hf1⟩
  case inl =>
    have HO := Lib.hid ho
    have HDL := Lib.hid hdl
    have HIX := Lib.hid (fun W (hW : Fresh w1 W) => tindex_any W _ v l name ((OwnE.sl ho).fresh hW) (by have := HLL.out d l hdl; omega))
    clear ho hdl
    go_wp2_with fail
    refine (HM.out _).mono ?_
    rintro e w2 ⟨r, rfl, hr, hf2⟩
    by_cases hr0 : r = 0
    case neg =>
      have hre : LinkErr T d name short r := by
        rcases hr with q | q | q
        · exact absurd q.2.2.2 hr0
        · exact .inr ⟨l, HDL.out, .inl q⟩
        · exact .inr ⟨l, HDL.out, .inr (.inl q)⟩
      have HR := Lib.hid hre
      have hrb : (r == 0) = false := by simp [hr0]
      have hrb2 : (r != 0) = true := by simp [hr0]
      clear hr hre
      go_wp2
      go_ret2
      exact .inl ⟨r, HR.out, rfl, hf1.trans hf2⟩
    case pos =>
      subst hr0
      have hg : GoodN name ∧ 0 ≤ short ∧ short ≤ 1000000 := by
        rcases hr with q | q | q
        · exact ⟨q.1, q.2.1, q.2.2.1⟩
        · exact absurd q.2 (by omega)
        · exact absurd q.2.2 (by omega)
      have HG := Lib.hid hg
      clear hg hr
      go_wp2_with fail
      refine (HIX.out _ hf2).mono ?_
      rintro e w3 ⟨rfl, hf3⟩
      have hf13 := (hf1.trans hf2).trans hf3
      clear hf1 hf2 hf3
      by_cases hix : 0 ≤ fidx (nameB name) l
      · have HR : Hid (LinkErr T d name short 6) := Lib.hid (.inr ⟨l, HDL.out, .inr (.inr ⟨HG.out.1, HG.out.2.1, HG.out.2.2, hix, rfl⟩)⟩)
        go_wp2
        go_ret2
        exact .inl ⟨6, HR.out, rfl, hf13⟩
      · have HOK : Hid (LinkOk T d name short) := Lib.hid ⟨l, HDL.out, HG.out.1, HG.out.2.1, HG.out.2.2, by omega⟩
        obtain ⟨gd, gf, pp, Md, Mf, Ap, hApl, h1, h2, h3, h4, h5, h6, h7, h8, h9, h10, h12, h11⟩ := (HH.out.fresh hf13).open
        have c2 : w3.cell? ⟨t, 2, none⟩ = some (.pointer (some ⟨pp, 0, none⟩)) := by rw [h1.cell]; rfl
        have HP := Lib.hid (HT.out w3 Ap pp h11)
        have HFIN := Lib.hid (fun (w' : World) (Ap' : Nat → Prop) (fr : Int) (bk : List Int) (O : Int → Bool) (hm : Mut Ap w3 w') (hg : Gr Ap w3 w' Ap') (hp : PoolAt w' Ap' pp fr bk O (q + 1)) => TreeAt.pooled h1 h2 h3 h4 h5 h6 h7 h8 h9 h10 h12 hm hg hp)
        clear h1 h2 h3 h4 h5 h6 h7 h8 h9 h10 h12 h11 hApl
        go_wp2_with fail
        refine HP.out.mono ?_
        rintro e w4 ⟨k, fr, bk, Ap', hR, hk64, hm4, hg4, ⟨hk, rfl, hp4⟩ | ⟨hk, rfl, hp4⟩⟩
        · obtain ⟨t4, u4⟩ := HFIN.out _ _ _ _ _ hm4 hg4 hp4
          have HR := Lib.hid hR
          have HU4 := Lib.hid u4
          obtain ⟨gd, gf, pp, Md, Mf, Ap, hApl, h1, h2, h3, h4, h5, h6, h7, h8, h9, h10, h12, h11⟩ := t4.open
          have c0 : w4.cell? ⟨t, 0, none⟩ = some (.map (some gd)) := by rw [h1.cell]; rfl
          have c1 : w4.cell? ⟨t, 1, none⟩ = some (.map (some gf)) := by rw [h1.cell]; rfl
          have HZ4 := Lib.hid (And.intro hf13.size u4.size)
          have HF13 := Lib.hid hf13
          clear hR u4 hm4 hg4 hp4 t4 c2 hf13
          have HL4 : Hid (∀ l', (nodeT T isDir k fr bk).dirs d = some l' → l'.length ≤ 100000) := Lib.hid (by
            intro l' hl'
            unfold nodeT at hl'
            simp only at hl'
            cases isDir
            · have := HLL.out d l' hl'; omega
            · simp only [if_true] at hl'
              split at hl'
              · injection hl' with hl'; subst hl'; simp
              · have := HLL.out d l' hl'; omega)
          cases isDir
          · have HFN := Lib.hid (fun (w' : World) (m6 : MapAt w' gf (q + 1 + 1) (fun i => if i = k then some (.int .i64 1) else Mf i)) (u6 : Mut (fun j => j = gf) w4 w') => TreeAt.fileNew h1 h2 h3 h4 h5 h6 h7 h8 h9 h10 h12 h11 m6 u6)
            clear h1 h2 h3 h4 h5 h6 h8 h9 h10 h12 h11 hApl
            go_wp2_with (at_mapUpdate; refine wpList_storeI _ rfl _ _ _ 156 rfl 3 Tryz.underlying156 gf (q + 1) Mf rfl h7 (by omega) k rfl hk64 (.int .i64 1) rfl ?_; intro w5 m5 u5 z5)
            have HT5 := Lib.hid (HFN.out w5 m5 u5)
            have HZ5 := Lib.hid u5.size
            have HPU := Lib.hid (tput_any w5 _ t _ (q + 1 + 1) HT5.out.1 d hd ⟨name, k, false, 0, short⟩ (by omega) (by have := HL4.out; exact this) (by exact ⟨by have := hn.1; exact this, by have := hn.2; simp only; omega⟩))
            clear c0 c1 h7 m5 u5 HFN
            go_wp2_with fail
            refine HPU.out.mono ?_
            rintro e w6 ⟨A6, rfl, t6, u6, g6⟩
            have HT6 := Lib.hid t6
            have HJ := Lib.hid (link_join HF13.out HU4.out HT5.out.2 u6 g6)
            clear t6 u6 g6
            go_wp2
            go_ret2
            exact .inr ⟨HOK.out, k, fr, bk, A6, HR.out, HJ.out.1, HJ.out.2, .inl ⟨hk, rfl, HT6.out⟩⟩
          · have HFN := Lib.hid (fun (w' : World) (m6 : MapAt w' gd (q + 1 + 1) (fun i => if i = k then some (.slice none 0 0) else Md i)) (u6 : Mut (fun j => j = gd) w4 w') => TreeAt.dirNew h1 h2 h3 h4 h5 h6 h7 h8 h9 h10 h12 h11 m6 u6)
            clear h1 h2 h3 h4 h5 h7 h8 h9 h10 h12 h11 hApl
            go_wp2_with (at_mapUpdate; refine wpList_storeI _ rfl _ _ _ 155 rfl 83 Tryz.underlying155 gd (q + 1) Md rfl h6 (by omega) k rfl hk64 (.slice none 0 0) rfl ?_; intro w5 m5 u5 z5)
            have HT5 := Lib.hid (HFN.out w5 m5 u5)
            have HZ5 := Lib.hid u5.size
            have HPU := Lib.hid (tput_any w5 _ t _ (q + 1 + 1) HT5.out.1 d hd ⟨name, k, true, 0, short⟩ (by omega) (by have := HL4.out; exact this) (by exact ⟨by have := hn.1; exact this, by have := hn.2; simp only; omega⟩))
            clear c0 c1 h6 m5 u5 HFN
            go_wp2_with fail
            refine HPU.out.mono ?_
            rintro e w6 ⟨A6, rfl, t6, u6, g6⟩
            have HT6 := Lib.hid t6
            have HJ := Lib.hid (link_join HF13.out HU4.out HT5.out.2 u6 g6)
            clear t6 u6 g6
            go_wp2
            go_ret2
            exact .inr ⟨HOK.out, k, fr, bk, A6, HR.out, HJ.out.1, HJ.out.2, .inl ⟨hk, rfl, HT6.out⟩⟩
        · obtain ⟨t4, u4⟩ := HFIN.out _ _ _ _ _ hm4 hg4 hp4
          have HR := Lib.hid hR
          have HT4 := Lib.hid (t4.le (q' := q + 3) (by omega))
          have HJ : Hid (Mut A w w4 ∧ Gr A w w4 (ext A w3 w4)) := Lib.hid ⟨hf13.andMut u4, fun k hk => by
            rcases hk with h | h
            · exact .inl h
            · have := hf13.size; exact .inr ⟨by omega, h.2⟩⟩
          clear hR u4 hm4 hg4 hp4 t4 c2 hf13
          go_wp2
          go_ret2
          exact .inr ⟨HOK.out, k, fr, bk, _, HR.out, HJ.out.1, HJ.out.2, .inr ⟨hk, rfl, HT4.out⟩⟩
open Go.RowKit
def BldAt (w : World) (A : Nat → Prop) (b : Nat) (l : List UInt8) : Prop := A b ∧ ∃ p v, (p = .pointer none ∨ p = .pointer (some ⟨b, 0, none⟩)) ∧ Blk w b 302 #[p, v] ∧ OwnA w A 5 1 v l.length (Lib.byteCells l)
theorem BldAt.mut {S A : Nat → Prop} {w w' : World} {b : Nat} {l : List UInt8} (h : BldAt w A b l) (hf : Mut S w w') (hn : ∀ g, A g → ¬ S g) : BldAt w' A b l := by
  obtain ⟨hA, p, v, hp, hb, ho⟩ := h
  exact ⟨hA, p, v, hp, hb.mut hf (hn _ hA), ho.mut hf hn⟩
theorem BldAt.fresh {A : Nat → Prop} {w w' : World} {b : Nat} {l : List UInt8} (h : BldAt w A b l) (hf : Fresh w w') : BldAt w' A b l := h.mut (hf.mut fun _ => False) (fun _ _ q => q)
theorem BldAt.mono {A A' : Nat → Prop} {w : World} {b : Nat} {l : List UInt8} (h : BldAt w A b l) (ha : ∀ g, g < w.heap.size → A g → A' g) : BldAt w A' b l := by
  obtain ⟨hA, p, v, hp, hb, ho⟩ := h
  exact ⟨ha _ hb.lt hA, p, v, hp, hb, ho.mono ha⟩
theorem sizeBld : (Tryz.prog.info? 285).map (·.size) = some 2 := by kernel_rfl
theorem liesBld : liesAt Tryz.prog Tryz.prog.depth 302 (2 / Tryz.prog.cellsOf 302) 0 285 1 = true := by kernel_rfl
theorem infoU8 : (Tryz.prog.info? 5).map (fun i => (i.zero, i.size, i.bytes)) = some (some (.int .u8 0), 1, 1) := by kernel_rfl
set_option maxHeartbeats 1000000 in
set_option maxRecDepth 100000 in
theorem copyCheck_any (b : Nat) (p v : Value) (w : World) (hp : p = .pointer none ∨ p = .pointer (some ⟨b, 0, none⟩)) (hb : Blk w b 302 #[p, v]) :
    Calls Tryz.prog 295 #[.pointer (some ⟨b, 0, none⟩)] w fun e w' => e = .returned (.tuple #[]) ∧ Blk w' b 302 #[.pointer (some ⟨b, 0, none⟩), v] ∧ Mut (fun j => j = b) w w' := by
  rcases hp with rfl | rfl
  · obtain ⟨j, hj, hjs⟩ := Option.map_eq_some_iff.1 sizeBld
    have h0 : w.cell? ⟨b, 0, none⟩ = some (.pointer none) := by rw [hb.cell]; rfl
    have hsh : w.shape? b = some (302, 2) := by unfold Blk at hb; simp [World.shape?, hb]
    have hfz : w.frozen? ⟨b, 0, none⟩ = false := hb.frozen 0
    have HB := Lib.hid hb
    have u283 := Tryz.underlying283
    have u443 := Tryz.underlying443
    clear hb
    go_enter Tryz.func295, Tryz.ntmps295
    go_wp2
    rw [Lib.run_to_unsafe w ⟨b, 0, none⟩ u283 u443 hj (by rw [hjs]; decide) hsh (Nat.zero_lt_succ 1)]
    simp only [Result.andThen]
    rw [Oper.upon_value]
    go_wp2
    rw [run_callFunc_extern Tryz.func355 (by kernel_rfl) (by kernel_rfl) (by kernel_rfl) (e := Extern.AbiNoEscape.same) (by kernel_rfl)]
    rw [Lib.run_noEscape]
    simp only [Result.andThen]
    rw [Oper.upon_value]
    go_wp2
    rw [Lib.run_from_unsafe w ⟨b, 0, none⟩ u443 u283 hj hsh liesBld]
    simp only [Result.andThen]
    rw [Oper.upon_value]
    go_wp2
    go_end0
    exact ⟨rfl, HB.out.set (i := 0), (Mut.refl (fun j => j = b) w).setCell (p := ⟨b, 0, none⟩) (.inl rfl) _⟩
  · have h0 : w.cell? ⟨b, 0, none⟩ = some (.pointer (some ⟨b, 0, none⟩)) := by rw [hb.cell]; rfl
    go_enter Tryz.func295, Tryz.ntmps295
    obtain ⟨j, hj, hjs⟩ := Option.map_eq_some_iff.1 sizeBld
    go_wp2
    rw [Lib.run_neq_ptr_same w _ Tryz.underlying283 hj]
    go_wp2
    go_end0
    exact ⟨rfl, hb, Mut.refl _ _⟩
theorem bytes_cons (l : List UInt8) (x : UInt8) : Lib.byteCells (l ++ [x]) = Lib.byteCells l ++ [.int .u8 x.toNat] := by simp [Lib.byteCells]
set_option maxHeartbeats 1000000 in
set_option maxRecDepth 100000 in
theorem writeByte_any (A : Nat → Prop) (b : Nat) (l : List UInt8) (x : UInt8) (w : World) (h : BldAt w A b l) (hl : l.length ≤ 100000) :
    Calls Tryz.prog 307 #[.pointer (some ⟨b, 0, none⟩), .int .u8 x.toNat] w fun e w' => e = .returned .nilIface ∧ BldAt w' (ext A w w') b (l ++ [x]) ∧ Mut A w w' := by
  obtain ⟨hAb, p, v, hp, hb, ho⟩ := h
  obtain ⟨i0, hi0, hz0, hz1, hz2⟩ := info_partsG infoU8
  have HCC := Lib.hid (copyCheck_any b p v w hp hb)
  have HB := Lib.hid hb
  have HO := Lib.hid ho
  have hbl := hb.lt
  clear hp hb ho
  go_enter Tryz.func307, Tryz.ntmps307
  go_wp2_with fail
  refine HCC.out.mono ?_
  rintro e w1 ⟨rfl, hb1, hu1⟩
  have c1 : w1.cell? ⟨b, 1, none⟩ = some v := by rw [hb1.cell]; rfl
  have hne : v.ownBlock ≠ some b := HO.out.ne HB.out (by decide)
  have ho1 : OwnA w1 A 5 1 v l.length (Lib.byteCells l) := HO.out.mutB hu1 (fun g hg e => hne (by rw [hg, e]))
  have HB1 := Lib.hid hb1
  have HO1 := Lib.hid ho1
  have HU1 : Hid (Mut A w w1) := Lib.hid (hu1.mono (fun j _ e => by rw [e]; exact hAb))
  clear hb1 hu1
  go_wp2_with (at_builtin; refine wpList_append_ownA _ rfl _ _ 131 rfl A 5 i0 _ 1 1 Tryz.underlying131 hi0 hz0 hz1 hz2 rfl (by decide) _ _ _ rfl (ho1.fresh ((Fresh.refl _).alloc _)) ⟨w1.heap.size, 0, none⟩ 1 1 [.int .u8 x.toNat] rfl rfl (newCells _ _ _) (by intro u hu; simp at hu; subst hu; rfl) (by omega) (by decide) ?_; intro a' c' w' hown' hgrow; have hu2 : Mut (fun j => v.ownBlock = some j) w1 w' := Fresh.andMut ((Fresh.refl _).alloc _) hgrow; have hb2 := HB1.out.mut hu2 hne; have d1 : w'.cell? ⟨b, 1, none⟩ = some v := (by rw [hb2.cell]; rfl); have e1 : w'.frozen? ⟨b, 1, none⟩ = false := hb2.frozen 1)
  go_ret
  have hne2 := hown'.ne hb2 (by decide)
  have hs : Mut (fun j => j = b) w' (w'.setCell ⟨b, 1, none⟩ (.slice a' (l.length + 1) c')) := (Mut.refl (fun j => j = b) w').setCell (p := ⟨b, 1, none⟩) (.inl rfl) _
  have ho3 := hown'.mutB hs (fun g hg e => hne2 (by rw [hg, e]))
  have hz1 := HU1.out.size
  have hz2 := hu2.size
  have hz3 := hs.size
  refine ⟨rfl, ⟨.inl hAb, _, _, .inr rfl, hb2.set (i := 1), ?_⟩, ?_⟩
  · rw [List.length_append, bytes_cons]
    refine ho3.mono (fun g hg hh => ?_)
    rcases hh with q | q
    · exact .inl q
    · exact .inr ⟨by have := q.1; simp at this; omega, hg⟩
  · exact (HU1.out.trans2 hu2 (fun _ h => h) (fun j _ e => HO1.out.2 j e)).trans2 hs (fun _ h => h) (fun j _ e => by rw [e]; exact hAb)
open Go.RowKit
theorem cellsU8 : Tryz.prog.cellsOf 5 = 1 := by kernel_rfl
theorem Mut.freeze {S : Nat → Prop} {a b : World} (h : Mut S a b) {p : Addr} (hp : S p.block) (n : Nat) : Mut S a (b.freeze p n) := by
  have k : Mut (fun j => j = p.block) b (b.freeze p n) := by
    unfold World.freeze
    split
    · exact Mut.refl _ b
    · exact ⟨rfl, rfl, rfl, by simp, fun k hk hn => by
        simp only [Array.getElem?_modify]
        rw [if_neg (fun e => hn e.symm)]⟩
  exact h.trans2 k (fun _ h => h) (fun j _ e => by rw [e]; exact hp)
set_option maxHeartbeats 2000000 in
set_option maxRecDepth 100000 in
theorem bstring_any (A : Nat → Prop) (b : Nat) (l : List UInt8) (w : World) (h : BldAt w A b l) (h0 : l ≠ []) :
    Calls Tryz.prog 214 #[.pointer (some ⟨b, 0, none⟩)] w fun e w' => e = .returned (.string ⟨l.toArray⟩) ∧ Mut A w w' := by
  obtain ⟨hAb, p, v, hp, hbk, hownA⟩ := h
  have hown := hownA.1
  have hl0 : l.length ≠ 0 := by simpa using h0
  obtain ⟨g, cap, cur, rfl, hbg, hg, hnc, hcm, hcs, htake⟩ : ∃ g cap cur, v = .slice (some ⟨g, 0, none⟩) l.length cap ∧ 0 ≤ g ∧ w.heap[g]? = some (.cells cur 5 (0, 0)) ∧ l.length ≤ cap ∧ cap ≤ maxLen ∧ cur.size = cap * 1 ∧ cur.toList.take (l.length * 1) = Lib.byteCells l := by
    rcases hown.2 with ⟨_, hz⟩ | ⟨g, cap, cur, hv, r⟩
    · exact absurd hz hl0
    · exact ⟨g, cap, cur, hv, r⟩
  have c1 : w.drew.cell? ⟨b, 1, none⟩ = some (.slice (some ⟨g, 0, none⟩) l.length cap) := by
    have : Blk w.drew b 302 #[p, .slice (some ⟨g, 0, none⟩) l.length cap] := hbk
    rw [this.cell]; rfl
  have hSD : (Builtin.unsafeSliceData_ #[131] 383 #[.slice (some ⟨g, 0, none⟩) l.length cap]).run Tryz.prog w.drew = .ok (.pointer (some ⟨g, 0, none⟩)) w.drew :=
    Lib.run_unsafeSliceData_row _ _ _ _ _ _ (by omega)
  have hUS : (Builtin.unsafeString_ #[383, 3] 9 #[.pointer (some ⟨g, 0, none⟩), .int .i64 l.length]).run Tryz.prog w.drew = .ok (.string ⟨l.toArray⟩) (w.drew.freeze ⟨g, 0, none⟩ l.length) := by
    refine Lib.run_unsafeString_row w.drew 383 3 9 5 Tryz.underlying383 cellsU8 g cur.size (by have hg' : w.drew.heap[g]? = some (.cells cur 5 (0, 0)) := hg; simp [World.shape?, hg']) l h0 (by omega) (by unfold maxLen at hcm; omega) ?_
    intro j x hx
    have := hown.cells (g := g) rfl j (.int .u8 x.toNat) (by simp [Lib.byteCells, hx])
    exact this
  have mixed : Tryz.prog.follows Departure.mixedOrders = true := by kernel_rfl
  have hgA : A g := hownA.2 g rfl
  clear hbk hown hg htake hownA
  go_enter Tryz.func214, Tryz.ntmps214
  go_wp2
  go_region_o
  all_goals (go_wp2; go_ret; exact ⟨rfl, ((Mut.refl A w).drew).freeze (p := ⟨g, 0, none⟩) hgA _⟩)
def beB (n : Nat) : Nat → List UInt8
  | 0 => []
  | k + 1 => (n / 256 ^ k % 256).toUInt8 :: beB n k
theorem beB_len (n : Nat) : ∀ k, (beB n k).length = k
  | 0 => rfl
  | k + 1 => by simp [beB, beB_len n k]
theorem shr_byte (n j : Nat) : IntKind.u8.wrap ((n : Int) / 2 ^ (8 * ((j : Int) + 1) - 8).toNat) = ((n / 256 ^ j % 256).toUInt8.toNat : Nat) := by
  have e : (8 * ((j : Int) + 1) - 8).toNat = 8 * j := by omega
  have e2 : (2 : Int) ^ (8 * j) = ((256 ^ j : Nat) : Int) := by
    rw [Int.pow_mul, Int.natCast_pow]
    rfl
  rw [e, e2, ← Int.natCast_ediv]
  generalize n / 256 ^ j = m
  have : (m % 256).toUInt8.toNat = m % 256 := by simp
  rw [this]
  show ((m : Int) % 256) = _
  omega
set_option maxHeartbeats 2000000 in
set_option maxRecDepth 100000 in
theorem number_any (A : Nat → Prop) (b : Nat) (l : List UInt8) (n k : Nat) (hk : 1 ≤ k ∧ k ≤ 8) (hn : n < 18446744073709551616) (w : World) (h : BldAt w A b l) (hl : l.length ≤ 90000) :
    Calls Tryz.prog 228 #[.pointer (some ⟨b, 0, none⟩), .int .u64 n, .int .i64 k] w fun e w' => e = .returned (.tuple #[]) ∧ BldAt w' (ext A w w') b (l ++ beB n k) ∧ Mut A w w' := by
  have HB := Lib.hid h
  clear h
  go_enter Tryz.func228, Tryz.ntmps228
  go_wp2_with fail
  go_loopw [6] (fun i wr => ∃ j : Nat, i = .int .i64 (8 * (j : Int) - 8) ∧ j ≤ k ∧ Mut A w wr ∧ ∃ l', BldAt wr (ext A w wr) b l' ∧ l' ++ beB n j = l ++ beB n k) (fun i wr => (intOf i + 8).toNat)
  case atStart => exact ⟨k, by go_num, Nat.le_refl _, Mut.refl _ _, l, HB.out.mono (fun _ _ h => .inl h), rfl⟩
  case round =>
    obtain ⟨j, rfl, hj, hbl, l', hb, hll⟩ := hrel
    have HLL := Lib.hid hll
    cases j with
    | zero =>
      have hfin : BldAt wr (ext A w wr) b (l ++ beB n k) := by rw [← HLL.out]; simpa [beB] using hb
      clear hll hb
      have hc : ¬ (0 : Int) ≤ 8 * ((0 : Nat) : Int) - 8 := by omega
      go_wp2
      go_end0
      exact ⟨rfl, hfin, hbl⟩
    | succ j =>
      have hc : (0 : Int) ≤ 8 * ((j + 1 : Nat) : Int) - 8 := by omega
      have hc2 : (8 : Int) ≤ 8 * ((j : Int) + 1) := by omega
      have hlen : l'.length ≤ 100000 := by
        have := congrArg List.length hll
        simp [beB_len] at this
        omega
      have HW : Hid (∀ (W : World), Fresh wr W → Calls Tryz.prog 307 #[.pointer (some ⟨b, 0, none⟩), .int .u8 ((n / 256 ^ j % 256).toUInt8.toNat : Nat)] W fun e w' => e = .returned .nilIface ∧ BldAt w' (ext A w w') b (l' ++ [(n / 256 ^ j % 256).toUInt8]) ∧ Mut A w w') := Lib.hid (fun W hW => (writeByte_any _ b l' _ W (hb.fresh hW) hlen).mono fun e w' ⟨he, h1, h2⟩ => by
        have z1 := hbl.size
        have z2 := hW.size
        have z3 := h2.size
        refine ⟨he, h1.mono (fun g hg hh => ?_), (hbl.andFresh hW).trans2 h2 (fun _ h => h) (fun j hj hh => ?_)⟩
        · rcases hh with (q | q) | q
          · exact .inl q
          · exact .inr ⟨q.1, by omega⟩
          · exact .inr ⟨by omega, q.2⟩
        · rcases hh with q | q
          · exact q
          · omega)
      have HC : Hid (IntKind.u8.wrap ((n : Int) / 2 ^ (8 * ((j : Int) + 1) - 8).toNat) = ((n / 256 ^ j % 256).toUInt8.toNat : Nat)) := Lib.hid (shr_byte n j)
      clear hll hb
      go_wp2_with fail
      go_region_law (first
        | (go_simp; go_at_call 307; rw [HC.out]; refine (HW.out _ (by repeat (first | exact Fresh.refl _ | refine Fresh.drew ?_))).mono ?_; rintro e w2 ⟨rfl, hb2, hl2⟩))
      all_goals
        go_wp2
        refine ⟨⟨j, by go_num, by omega, hl2, _, hb2, by rw [← HLL.out]; simp [beB]⟩, by simp [intOf]; omega⟩
open Go.RowKit Go.Maps Go.Sort Go.Shelf
shelf_lay_g SlLaysZI.n7 Ggz 7 at Tryz 180 as Tryz.keysA
shelf_lay_g SlLaysZI.n6 Ggz 6 at Tryz 179 as Tryz.sortedA
shelf_lay_g SlLaysM.n5 Slgm 5 at Tryz 268 as Tryz.sortA
theorem sortsA (m : Nat) : AnyZI.SortsIn Tryz.prog Tryz.sortedA_ren Fence.wide m :=
  ⟨fun blk off cap ss W hH hblk hsz => callsIn_wide.2 (AnyM.slices_Sort_int Tryz.sortA blk off cap ss W hH hblk hsz),
   fun p cap W => callsIn_wide.2 (AnyM.slices_Sort_int_none Tryz.sortA p cap W)⟩
theorem intKeys_facts {w : World} {b n : Nat} {D0 : DataW Value} (hown : w.ownsMap Tryz.prog 3 heldR b n D0) : (intKeys D0).Nodup ∧ ∀ x, x ∈ intKeys D0 ↔ Maps.has D0 (.int .i64 x) = true := by
  obtain ⟨es, hD, hpw, _⟩ := hown.entries keyI
  obtain ⟨es', hD', hko⟩ := hown.keysOf
  obtain rfl : es = es' := by rw [hD] at hD'; simpa using hD'
  subst hD
  have hk : ∀ p ∈ es, ∃ x, p.1 = .int .i64 x := fun p hp => by obtain ⟨v, hv⟩ := hko p hp; obtain ⟨x, _, hx, _⟩ := Maps.keyOf_i64 Tryz.underlying3 hv; exact ⟨x, hx⟩
  refine ⟨?_, fun x => ?_⟩
  · show (es.map _).Nodup
    refine List.pairwise_map.2 (hpw.imp_of_mem fun {p q} hp' hq' hne e => hne ?_)
    obtain ⟨a, ha⟩ := hk p hp'
    obtain ⟨b, hb⟩ := hk q hq'
    rw [ha, hb] at e ⊢
    exact congrArg _ e
  · rw [has_eq, List.any_eq_true]
    unfold intKeys
    rw [List.mem_map]
    constructor
    · rintro ⟨p, hp', rfl⟩
      obtain ⟨a, ha⟩ := hk p hp'
      exact ⟨p, hp', by rw [ha]; simp [Lit.sameKey, Go.intOf]⟩
    · rintro ⟨p, hp', hs⟩
      obtain ⟨a, ha⟩ := hk p hp'
      rw [ha] at hs
      exact ⟨p, hp', by rw [ha]; simpa [Lit.sameKey, Go.intOf] using hs⟩
def DirsPost (T : TreS) (q : Nat) (w : World) (e : Ending) (w' : World) : Prop :=
  ∃ v ks, e = .returned v ∧ OwnA w' (fun g => w.heap.size ≤ g) 3 1 v ks.length (ints ks) ∧ ks.Pairwise (· < ·) ∧ (∀ i, i ∈ ks ↔ (T.dirs i).isSome = true) ∧ ks.length ≤ q ∧ Fresh w w'
set_option maxHeartbeats 1000000 in
theorem dirs_any (w : World) (A : Nat → Prop) (t : Nat) (T : TreS) (q : Nat) (h : TreeAt w A t T q) (hq : q ≤ 1000000) : Calls Tryz.prog 124 #[.pointer (some ⟨t, 0, none⟩)] w (DirsPost T q w) := by
  obtain ⟨gd, gf, pp, Md, Mf, Ap, h1, h2, h3, h4, h5, h6, h7, h8, h9, h10, h12, h11⟩ := h
  have c0 : w.cell? ⟨t, 0, none⟩ = some (.map (some gd)) := by rw [h1.cell]; rfl
  obtain ⟨D0, hown, hM⟩ := h6
  have hsize : Maps.size D0 ≤ q := hown.size_le
  have HF : Hid (∀ ss : List Int, ss.Perm (intKeys D0) → ((ss.mergeSort (fun x y => decide (x ≤ y))).Pairwise (· < ·) ∧ (∀ i, i ∈ ss.mergeSort (fun x y => decide (x ≤ y)) ↔ (T.dirs i).isSome = true)) ∧ (ss.mergeSort (fun x y => decide (x ≤ y))).length = ss.length ∧ ss.length ≤ q) := Lib.hid (fun ss hp => by
    obtain ⟨f1, f2⟩ := intKeys_facts hown
    have hpm := (List.mergeSort_perm ss (fun x y => decide (x ≤ y))).trans hp
    have hnd : (ss.mergeSort (fun x y => decide (x ≤ y))).Nodup := hpm.nodup_iff.2 f1
    have hle : (ss.mergeSort (fun x y => decide (x ≤ y))).Pairwise (fun x y => decide (x ≤ y) = true) := List.pairwise_mergeSort (fun a b c h1 h2 => by simp at *; omega) (fun a b => by simp; omega) ss
    refine ⟨⟨?_, fun i => ?_⟩, List.length_mergeSort _, ?_⟩
    · refine (hle.and hnd).imp fun {x y} hh => ?_
      have := hh.1
      simp at this
      have := hh.2
      omega
    · rw [hpm.mem_iff, f2]
      rw [show Maps.has D0 (.int .i64 i) = Maps.has D0 (kl i) from rfl, own_has hown, hM]
      cases hT : T.dirs i with
      | none => rw [h10 i hT]; simp
      | some l =>
        obtain ⟨v, hv, _⟩ := h9 i l hT
        rw [hv]
        rfl
    · have : ss.length = (intKeys D0).length := hp.length_eq
      rw [this]
      have e : (intKeys D0).length = Maps.size D0 := by
        obtain ⟨es, rfl⟩ := own_isMap hown
        simp [intKeys, Maps.size]
      omega)
  refine (callsIn_wide (n := 6)).1 ?_
  have hbl := hown.lt
  have hseq : SeqGives Fence.wide 2 Tryz.prog 269 #[.pointer (some ⟨w.heap.size, 0, none⟩)] encZ (fun ss => ss.Perm (intKeys D0)) (Maps.size D0) (w.alloc (.cells #[.map (some gd)] 155)) :=
    AnyZI.keys_gives (ρ := Tryz.keysA_ren) { Tryz.keysA with } Fence.wide _ trivial rfl (by omega) w.heap.size gd q D0 _ (by simp) (by simp) (by
      obtain ⟨es, clock, hb, Ft, hs, hD⟩ := hown
      exact ⟨es, clock, (Below.heap_alloc _ _ gd hbl).trans hb, Ft, hs, hD⟩)
  have cK : ∀ mb W, CallsIn Fence.wide 5 Tryz.prog 180 #[.map mb] W fun e w' => e = .returned (.func (.func 269) #[] #[.pointer (some ⟨W.heap.size, 0, none⟩)]) ∧ w' = W.alloc (.cells #[.map mb] 155) := fun mb W => AnyZI.keys_in Tryz.keysA Fence.wide 5 trivial rfl mb W
  have cS := AnyZI.sorted_in Tryz.sortedA Fence.wide 5 trivial trivial trivial trivial rfl (by omega) (sortsA _) (enters_of Tryz.func268 (by kernel_rfl) rfl) 269 #[.pointer (some ⟨w.heap.size, 0, none⟩)] trivial (enters_of Tryz.func269 (by kernel_rfl) rfl) _ _ (by unfold maxLen; omega) (by omega) _ hseq
  change CallsIn _ _ Tryz.prog 179 _ _ _ at cS
  have hfK : Fence.wide.fn 180 := trivial
  have hfS : Fence.wide.fn 179 := trivial
  clear h1 h2 h3 h4 h5 h7 h8 h9 h10 h11 h12 hseq hown hM
  refine callsIn_of_wp Tryz.func124 rfl trivial ?_ rfl
  simp only [Tryz.ntmps124, List.size_toArray, List.length_cons, List.length_nil, Nat.reduceAdd, Nat.reduceSub, Array.replicate_succ, Array.replicate_zero, List.push_toArray, List.append_toArray, List.nil_append, List.cons_append]
  gi_wp2_with (first
    | (gi_at_call 180; refine (cK _ _).mono ?_; rintro e w' ⟨rfl, rfl⟩)
    | (gi_at_call 179; refine cS.mono ?_; rintro e w' ⟨v, ss, rfl, hS, hrow, hnil, hb⟩))
  go_ret
  obtain ⟨⟨f1, f2⟩, f3, f4⟩ := HF.out ss hS
  refine ⟨v, _, rfl, ?_, f1, f2, by omega, ((Fresh.refl w).alloc _).trans hb⟩
  rw [f3]
  exact ⟨own_base hrow (Nat.zero_le _), fun g hg => by have := (hrow.lt g hg).1; simp at this; omega⟩
end Go.Proofs.YtpmlggjhfiljmaaGreatDoor
