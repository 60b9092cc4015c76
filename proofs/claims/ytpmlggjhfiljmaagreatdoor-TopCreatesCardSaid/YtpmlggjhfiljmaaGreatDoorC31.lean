/- Contracts that the law rests on, part 31 of 50 (TreD, ImgA). Each states its own conditions. -/
import Derived.Lib.Builder
import Derived.Shelf.Strings.Builder1
import Derived.Test.YtpmlggjhfiljmaaGreatDoorC30
/- Layer 10: Link. -/
namespace Go.Proofs.YtpmlggjhfiljmaaGreatDoor
open Go.RowKit
set_option linter.unusedVariables false
set_option linter.unnecessarySimpa false
set_option linter.unusedSimpArgs false
/-- what Take answers: R tells the number, and what the pool has behind it -/
def TakeG (R : Int → Int → List Int → Prop) (A : Nat → Prop) (p : Nat) (O : Int → Bool) (q : Nat) (w : World) (e : Ending) (w' : World) : Prop :=
  ∃ k fr bk A', R k fr bk ∧ I64 k ∧ Mut A w w' ∧ Gr A w w' A' ∧ ((k ≤ 200 ∧ e = .returned (.tuple #[.int .i64 k, .bool true]) ∧ PoolAt w' A' p fr bk (fun i => O i || decide (i = k)) (q + 1)) ∨ (200 < k ∧ e = .returned (.tuple #[.int .i64 0, .bool false]) ∧ PoolAt w' A' p fr bk O (q + 1)))
/-- the pool of a tree gives by R -/
def Takes (R : Int → Int → List Int → Prop) (T : TreS) (q : Nat) : Prop := ∀ W A p, PoolAt W A p T.fr T.bk T.out q → Calls Tryz.prog 341 #[.pointer (some ⟨p, 0, none⟩)] W (TakeG R A p T.out q W)
theorem TreeAt.pooled {w w' : World} {A Ap Ap' : Nat → Prop} {t gd gf pp q : Nat} {T : TreS} {Md Mf : Int → Option Value} {fr : Int} {bk : List Int} {O : Int → Bool} (h1 : Blk w t 159 #[.map (some gd), .map (some gf), .pointer (some ⟨pp, 0, none⟩), .int .i64 T.next]) (h2 : A t ∧ ¬ Ap t) (h3 : A gd ∧ ¬ Ap gd) (h4 : A gf ∧ ¬ Ap gf) (h5 : gd ≠ gf) (h6 : MapAt w gd q Md) (h7 : MapAt w gf q Mf) (h8 : ∀ i, Mf i = if T.files i = true then some (.int .i64 1) else none)
    (h9 : ∀ i l, T.dirs i = some l → ∃ v, Md i = some v ∧ OwnE w (fun g => A g ∧ ¬ Ap g) v l) (h10 : ∀ i, T.dirs i = none → Md i = none) (h12 : ∀ k, Ap k → A k) (hm : Mut Ap w w') (hg : Gr Ap w w' Ap') (hp : PoolAt w' Ap' pp fr bk O (q + 1)) :
    TreeAt w' (ext A w w') t { T with out := O, fr := fr, bk := bk } (q + 1) ∧ Mut A w w' := by
  have n : ∀ k, k < w.heap.size → ¬ Ap k → ¬ Ap' k := fun k h1 h2 h3 => by
    rcases hg k h3 with q | q
    · exact h2 q
    · omega
  refine ⟨⟨gd, gf, pp, Md, Mf, Ap', h1.mut hm h2.2, ⟨.inl h2.1, n _ h1.lt h2.2⟩, ⟨.inl h3.1, n _ h6.lt h3.2⟩, ⟨.inl h4.1, n _ h7.lt h4.2⟩, h5, (h6.mut hm h3.2).mono (by omega), (h7.mut hm h4.2).mono (by omega), h8, fun i l hi => ?_, h10, fun k hk => ?_, hp⟩, hm.mono (fun j _ h => h12 j h)⟩
  · obtain ⟨v, hv, ho⟩ := h9 i l hi
    have o2 : OwnE w (fun g => (A g ∧ ¬ Ap g) ∧ g < w.heap.size) v l := OwnA.mono ho (fun g hg hh => ⟨hh, hg⟩)
    have o3 : OwnE w' (fun g => (A g ∧ ¬ Ap g) ∧ g < w.heap.size) v l := OwnA.mut o2 hm (fun g hg => hg.1.2)
    exact ⟨v, hv, OwnA.mono o3 (fun g _ hg => ⟨.inl hg.1.1, n g hg.2 hg.1.2⟩)⟩
  · rcases hg k hk with q | q
    · exact .inl (h12 k q)
    · exact .inr q
theorem TreeAt.dirNew {w w' : World} {A Ap : Nat → Prop} {t gd gf pp q : Nat} {T : TreS} {Md Mf : Int → Option Value} {k : Int} (h1 : Blk w t 159 #[.map (some gd), .map (some gf), .pointer (some ⟨pp, 0, none⟩), .int .i64 T.next]) (h2 : A t ∧ ¬ Ap t) (h3 : A gd ∧ ¬ Ap gd) (h4 : A gf ∧ ¬ Ap gf) (h5 : gd ≠ gf) (h6 : MapAt w gd q Md) (h7 : MapAt w gf q Mf) (h8 : ∀ i, Mf i = if T.files i = true then some (.int .i64 1) else none)
    (h9 : ∀ i l, T.dirs i = some l → ∃ v, Md i = some v ∧ OwnE w (fun g => A g ∧ ¬ Ap g) v l) (h10 : ∀ i, T.dirs i = none → Md i = none) (h12 : ∀ k, Ap k → A k) (h11 : PoolAt w Ap pp T.fr T.bk T.out q)
    (m6 : MapAt w' gd (q + 1) (fun i => if i = k then some (.slice none 0 0) else Md i)) (u6 : Mut (fun j => j = gd) w w') :
    TreeAt w' A t { T with dirs := fun i => if i = k then some [] else T.dirs i } (q + 1) ∧ Mut A w w' := by
  have htd : t ≠ gd := h1.neMap h6
  refine ⟨⟨gd, gf, pp, _, Mf, Ap, h1.mut u6 htd, h2, h3, h4, h5, m6, (h7.mut u6 (fun e => h5 e.symm)).mono (by omega), h8, fun i l hi => ?_, fun i hi => ?_, h12, (h11.mut u6 (fun k hk e => h3.2 (e ▸ hk))).le (by omega)⟩, u6.mono (fun j _ e => by rw [e]; exact h3.1)⟩
  · simp only at hi
    by_cases e : i = k
    · rw [if_pos e] at hi
      injection hi with hi
      subst hi
      exact ⟨_, if_pos e, OwnA.nil _ _ _ _⟩
    · rw [if_neg e] at hi
      obtain ⟨v, hv, ho⟩ := h9 i l hi
      exact ⟨v, by rw [if_neg e]; exact hv, OwnA.mutB ho u6 (fun g hg e => OwnA.neMap ho h6 (by rw [hg, e]))⟩
  · simp only at hi
    by_cases e : i = k
    · rw [if_pos e] at hi; cases hi
    · rw [if_neg e] at hi; rw [if_neg e]; exact h10 i hi
theorem TreeAt.fileNew {w w' : World} {A Ap : Nat → Prop} {t gd gf pp q : Nat} {T : TreS} {Md Mf : Int → Option Value} {k : Int} (h1 : Blk w t 159 #[.map (some gd), .map (some gf), .pointer (some ⟨pp, 0, none⟩), .int .i64 T.next]) (h2 : A t ∧ ¬ Ap t) (h3 : A gd ∧ ¬ Ap gd) (h4 : A gf ∧ ¬ Ap gf) (h5 : gd ≠ gf) (h6 : MapAt w gd q Md) (h7 : MapAt w gf q Mf) (h8 : ∀ i, Mf i = if T.files i = true then some (.int .i64 1) else none)
    (h9 : ∀ i l, T.dirs i = some l → ∃ v, Md i = some v ∧ OwnE w (fun g => A g ∧ ¬ Ap g) v l) (h10 : ∀ i, T.dirs i = none → Md i = none) (h12 : ∀ k, Ap k → A k) (h11 : PoolAt w Ap pp T.fr T.bk T.out q)
    (m6 : MapAt w' gf (q + 1) (fun i => if i = k then some (.int .i64 1) else Mf i)) (u6 : Mut (fun j => j = gf) w w') :
    TreeAt w' A t { T with files := fun i => T.files i || decide (i = k) } (q + 1) ∧ Mut A w w' := by
  have htd : t ≠ gf := h1.neMap h7
  refine ⟨⟨gd, gf, pp, Md, _, Ap, h1.mut u6 htd, h2, h3, h4, h5, (h6.mut u6 h5).mono (by omega), m6, fun i => ?_, fun i l hi => ?_, h10, h12, (h11.mut u6 (fun k hk e => h4.2 (e ▸ hk))).le (by omega)⟩, u6.mono (fun j _ e => by rw [e]; exact h4.1)⟩
  · by_cases e : i = k
    · simp [e]
    · rw [if_neg e, h8]; simp [e]
  · obtain ⟨v, hv, ho⟩ := h9 i l hi
    exact ⟨v, hv, OwnA.mutB ho u6 (fun g hg e => OwnA.neMap ho h7 (by rw [hg, e]))⟩
def nodeT (T : TreS) (isDir : Bool) (k fr : Int) (bk : List Int) : TreS :=
  { T with dirs := if isDir = true then (fun i => if i = k then some [] else T.dirs i) else T.dirs, files := if isDir = true then T.files else (fun i => T.files i || decide (i = k)), out := fun i => T.out i || decide (i = k), fr := fr, bk := bk }
def linkT (T : TreS) (d : Int) (name : ByteArray) (isDir : Bool) (short k fr : Int) (bk : List Int) : TreS := putT (nodeT T isDir k fr bk) d ⟨name, k, isDir, 0, short⟩
/-- what is wrong with a new entry -/
def LinkErr (T : TreS) (d : Int) (name : ByteArray) (short r : Int) : Prop :=
  (T.dirs d = none ∧ r = if T.files d = true then 8 else 5) ∨ (∃ l, T.dirs d = some l ∧ ((¬ GoodN name ∧ r = 3) ∨ (GoodN name ∧ ¬ (0 ≤ short ∧ short ≤ 1000000) ∧ r = 1) ∨ (GoodN name ∧ 0 ≤ short ∧ short ≤ 1000000 ∧ 0 ≤ fidx (nameB name) l ∧ r = 6)))
def LinkOk (T : TreS) (d : Int) (name : ByteArray) (short : Int) : Prop := ∃ l, T.dirs d = some l ∧ GoodN name ∧ 0 ≤ short ∧ short ≤ 1000000 ∧ fidx (nameB name) l < 0
def LinkPost (R : Int → Int → List Int → Prop) (A : Nat → Prop) (t : Nat) (T : TreS) (q : Nat) (d : Int) (name : ByteArray) (isDir : Bool) (short : Int) (w : World) (e : Ending) (w' : World) : Prop :=
  (∃ r, LinkErr T d name short r ∧ e = .returned (.tuple #[.int .i64 0, .int .i64 r]) ∧ Fresh w w') ∨
  (LinkOk T d name short ∧ ∃ k fr bk A', R k fr bk ∧ Mut A w w' ∧ Gr A w w' A' ∧ ((k ≤ 200 ∧ e = .returned (.tuple #[.int .i64 k, .int .i64 0]) ∧ TreeAt w' A' t (linkT T d name isDir short k fr bk) (q + 3)) ∨ (200 < k ∧ e = .returned (.tuple #[.int .i64 0, .int .i64 12]) ∧ TreeAt w' A' t { T with fr := fr, bk := bk } (q + 3))))
theorem link_join {w w3 w4 w5 w6 : World} {A A6 : Nat → Prop} (hf : Fresh w w3) (u4 : Mut A w3 w4) (u5 : Mut (ext A w3 w4) w4 w5) (u6 : Mut (ext A w3 w4) w5 w6) (g6 : Gr (ext A w3 w4) w5 w6 A6) : Mut A w w6 ∧ Gr A w w6 A6 := by
  have z1 := hf.size
  have z2 := u4.size
  have z3 := u5.size
  have z4 := u6.size
  have hx : ∀ j, j < w.heap.size → ext A w3 w4 j → A j := fun j hj h => by
    rcases h with h | h
    · exact h
    · omega
  refine ⟨((hf.andMut u4).trans2 u5 (fun _ h => h) hx).trans2 u6 (fun _ h => h) hx, fun k hk => ?_⟩
  rcases g6 k hk with (h | h) | h
  · exact .inl h
  · exact .inr ⟨by omega, by omega⟩
  · exact .inr ⟨by omega, h.2⟩
set_option maxRecDepth 100000 in
set_option maxHeartbeats 3200000 in
theorem link_any (R : Int → Int → List Int → Prop) (w : World) (A : Nat → Prop) (t : Nat) (T : TreS) (q : Nat) (h : TreeAt w A t T q) (hT : Takes R T q) (d : Int) (hd : I64 d) (name : ByteArray) (isDir : Bool) (short : Int) (hq : q ≤ 100000) (hl : ∀ i l, T.dirs i = some l → l.length ≤ 10000) (hn : 0 ≤ T.next ∧ T.next ≤ 100000) :
    Calls Tryz.prog 272 #[.pointer (some ⟨t, 0, none⟩), .int .i64 d, .string name, .bool isDir, .int .i64 short] w (LinkPost R A t T q d name isDir short w) := by
  have HL := Lib.hid (tlist_any w A t T q h d hd (fun l hl2 => by have := hl d l hl2; omega))
  have HM := Lib.hid (fun W => tmay_any name short W)
  have HH := Lib.hid h
  have HLL := Lib.hid hl
  have HT := Lib.hid hT
  clear h hl hT
  go_enter Tryz.func272, Tryz.ntmps272
  go_wp2_with fail
  refine HL.out.mono ?_
  rintro e w1 (⟨l, v, hdl, rfl, ho, hf1⟩ | ⟨hdn, rfl, hf1⟩)
  case inr =>
    have hr : ∃ r : Int, (if T.files d = true then 8 else 5) = r ∧ r ≠ 0 ∧ LinkErr T d name short r := by
      cases hfl : T.files d
      · exact ⟨5, rfl, by omega, .inl ⟨hdn, by rw [hfl]; rfl⟩⟩
      · exact ⟨8, rfl, by omega, .inl ⟨hdn, by rw [hfl]; rfl⟩⟩
    obtain ⟨r, hr1, hr0, hre⟩ := hr
    rw [hr1]
    have HR := Lib.hid hre
    have hrb : (r == 0) = false := by simp [hr0]
    have hrb2 : (r != 0) = true := by simp [hr0]
    clear hre hdn hr1
    go_wp2
    go_ret2
    exact .inl ⟨r, HR.out, rfl, hf1⟩
  case inl =>
    have HO := Lib.hid ho
    have HDL := Lib.hid hdl
    have HIX := Lib.hid (fun W (hW : Fresh w1 W) => tindex_any W _ v l name ((OwnE.sl ho).fresh hW) (by have := HLL.out d l hdl; omega))
    clear ho hdl
    go_wp2_with fail
    refine (HM.out _).mono ?_
    rintro e w2 ⟨r, rfl, hr, hf2⟩
    by_cases hr0 : r = 0
    case neg =>
      have hre : LinkErr T d name short r := by
        rcases hr with q | q | q
        · exact absurd q.2.2.2 hr0
        · exact .inr ⟨l, HDL.out, .inl q⟩
        · exact .inr ⟨l, HDL.out, .inr (.inl q)⟩
      have HR := Lib.hid hre
      have hrb : (r == 0) = false := by simp [hr0]
      have hrb2 : (r != 0) = true := by simp [hr0]
      clear hr hre
      go_wp2
      go_ret2
      exact .inl ⟨r, HR.out, rfl, hf1.trans hf2⟩
    case pos =>
      subst hr0
      have hg : GoodN name ∧ 0 ≤ short ∧ short ≤ 1000000 := by
        rcases hr with q | q | q
        · exact ⟨q.1, q.2.1, q.2.2.1⟩
        · exact absurd q.2 (by omega)
        · exact absurd q.2.2 (by omega)
      have HG := Lib.hid hg
      clear hg hr
      go_wp2_with fail
      refine (HIX.out _ hf2).mono ?_
      rintro e w3 ⟨rfl, hf3⟩
      have hf13 := (hf1.trans hf2).trans hf3
      clear hf1 hf2 hf3
      by_cases hix : 0 ≤ fidx (nameB name) l
      · have HR : Hid (LinkErr T d name short 6) := Lib.hid (.inr ⟨l, HDL.out, .inr (.inr ⟨HG.out.1, HG.out.2.1, HG.out.2.2, hix, rfl⟩)⟩)
        go_wp2
        go_ret2
        exact .inl ⟨6, HR.out, rfl, hf13⟩
      · have HOK : Hid (LinkOk T d name short) := Lib.hid ⟨l, HDL.out, HG.out.1, HG.out.2.1, HG.out.2.2, by omega⟩
        obtain ⟨gd, gf, pp, Md, Mf, Ap, hApl, h1, h2, h3, h4, h5, h6, h7, h8, h9, h10, h12, h11⟩ := (HH.out.fresh hf13).open
        have c2 : w3.cell? ⟨t, 2, none⟩ = some (.pointer (some ⟨pp, 0, none⟩)) := by rw [h1.cell]; rfl
        have HP := Lib.hid (HT.out w3 Ap pp h11)
        have HFIN := Lib.hid (fun (w' : World) (Ap' : Nat → Prop) (fr : Int) (bk : List Int) (O : Int → Bool) (hm : Mut Ap w3 w') (hg : Gr Ap w3 w' Ap') (hp : PoolAt w' Ap' pp fr bk O (q + 1)) => TreeAt.pooled h1 h2 h3 h4 h5 h6 h7 h8 h9 h10 h12 hm hg hp)
        clear h1 h2 h3 h4 h5 h6 h7 h8 h9 h10 h12 h11 hApl
        go_wp2_with fail
        refine HP.out.mono ?_
        rintro e w4 ⟨k, fr, bk, Ap', hR, hk64, hm4, hg4, ⟨hk, rfl, hp4⟩ | ⟨hk, rfl, hp4⟩⟩
        · obtain ⟨t4, u4⟩ := HFIN.out _ _ _ _ _ hm4 hg4 hp4
          have HR := Lib.hid hR
          have HU4 := Lib.hid u4
          obtain ⟨gd, gf, pp, Md, Mf, Ap, hApl, h1, h2, h3, h4, h5, h6, h7, h8, h9, h10, h12, h11⟩ := t4.open
          have c0 : w4.cell? ⟨t, 0, none⟩ = some (.map (some gd)) := by rw [h1.cell]; rfl
          have c1 : w4.cell? ⟨t, 1, none⟩ = some (.map (some gf)) := by rw [h1.cell]; rfl
          have HZ4 := Lib.hid (And.intro hf13.size u4.size)
          have HF13 := Lib.hid hf13
          clear hR u4 hm4 hg4 hp4 t4 c2 hf13
          have HL4 : Hid (∀ l', (nodeT T isDir k fr bk).dirs d = some l' → l'.length ≤ 100000) := Lib.hid (by
            intro l' hl'
            unfold nodeT at hl'
            simp only at hl'
            cases isDir
            · have := HLL.out d l' hl'; omega
            · simp only [if_true] at hl'
              split at hl'
              · injection hl' with hl'; subst hl'; simp
              · have := HLL.out d l' hl'; omega)
          cases isDir
          · have HFN := Lib.hid (fun (w' : World) (m6 : MapAt w' gf (q + 1 + 1) (fun i => if i = k then some (.int .i64 1) else Mf i)) (u6 : Mut (fun j => j = gf) w4 w') => TreeAt.fileNew h1 h2 h3 h4 h5 h6 h7 h8 h9 h10 h12 h11 m6 u6)
            clear h1 h2 h3 h4 h5 h6 h8 h9 h10 h12 h11 hApl
            go_wp2_with (at_mapUpdate; refine wpList_storeI _ rfl _ _ _ 156 rfl 3 Tryz.underlying156 gf (q + 1) Mf rfl h7 (by omega) k rfl hk64 (.int .i64 1) rfl ?_; intro w5 m5 u5 z5)
            have HT5 := Lib.hid (HFN.out w5 m5 u5)
            have HZ5 := Lib.hid u5.size
            have HPU := Lib.hid (tput_any w5 _ t _ (q + 1 + 1) HT5.out.1 d hd ⟨name, k, false, 0, short⟩ (by omega) (by have := HL4.out; exact this) (by exact ⟨by have := hn.1; exact this, by have := hn.2; simp only; omega⟩))
            clear c0 c1 h7 m5 u5 HFN
            go_wp2_with fail
            refine HPU.out.mono ?_
            rintro e w6 ⟨A6, rfl, t6, u6, g6⟩
            have HT6 := Lib.hid t6
            have HJ := Lib.hid (link_join HF13.out HU4.out HT5.out.2 u6 g6)
            clear t6 u6 g6
            go_wp2
            go_ret2
            exact .inr ⟨HOK.out, k, fr, bk, A6, HR.out, HJ.out.1, HJ.out.2, .inl ⟨hk, rfl, HT6.out⟩⟩
          · have HFN := Lib.hid (fun (w' : World) (m6 : MapAt w' gd (q + 1 + 1) (fun i => if i = k then some (.slice none 0 0) else Md i)) (u6 : Mut (fun j => j = gd) w4 w') => TreeAt.dirNew h1 h2 h3 h4 h5 h6 h7 h8 h9 h10 h12 h11 m6 u6)
            clear h1 h2 h3 h4 h5 h7 h8 h9 h10 h12 h11 hApl
            go_wp2_with (at_mapUpdate; refine wpList_storeI _ rfl _ _ _ 155 rfl 83 Tryz.underlying155 gd (q + 1) Md rfl h6 (by omega) k rfl hk64 (.slice none 0 0) rfl ?_; intro w5 m5 u5 z5)
            have HT5 := Lib.hid (HFN.out w5 m5 u5)
            have HZ5 := Lib.hid u5.size
            have HPU := Lib.hid (tput_any w5 _ t _ (q + 1 + 1) HT5.out.1 d hd ⟨name, k, true, 0, short⟩ (by omega) (by have := HL4.out; exact this) (by exact ⟨by have := hn.1; exact this, by have := hn.2; simp only; omega⟩))
            clear c0 c1 h6 m5 u5 HFN
            go_wp2_with fail
            refine HPU.out.mono ?_
            rintro e w6 ⟨A6, rfl, t6, u6, g6⟩
            have HT6 := Lib.hid t6
            have HJ := Lib.hid (link_join HF13.out HU4.out HT5.out.2 u6 g6)
            clear t6 u6 g6
            go_wp2
            go_ret2
            exact .inr ⟨HOK.out, k, fr, bk, A6, HR.out, HJ.out.1, HJ.out.2, .inl ⟨hk, rfl, HT6.out⟩⟩
        · obtain ⟨t4, u4⟩ := HFIN.out _ _ _ _ _ hm4 hg4 hp4
          have HR := Lib.hid hR
          have HT4 := Lib.hid (t4.le (q' := q + 3) (by omega))
          have HJ : Hid (Mut A w w4 ∧ Gr A w w4 (ext A w3 w4)) := Lib.hid ⟨hf13.andMut u4, fun k hk => by
            rcases hk with h | h
            · exact .inl h
            · have := hf13.size; exact .inr ⟨by omega, h.2⟩⟩
          clear hR u4 hm4 hg4 hp4 t4 c2 hf13
          go_wp2
          go_ret2
          exact .inr ⟨HOK.out, k, fr, bk, _, HR.out, HJ.out.1, HJ.out.2, .inr ⟨hk, rfl, HT4.out⟩⟩
end Go.Proofs.YtpmlggjhfiljmaaGreatDoor
/- Layer 12: the image's writer: strings.Builder in a struct. -/
namespace Go.Proofs.YtpmlggjhfiljmaaGreatDoor
open Go.RowKit
set_option linter.unusedVariables false
set_option linter.unnecessarySimpa false
set_option linter.unusedSimpArgs false
/-- a writer at b, in blocks that meet A, that holds l -/
def BldAt (w : World) (A : Nat → Prop) (b : Nat) (l : List UInt8) : Prop := A b ∧ ∃ p v, (p = .pointer none ∨ p = .pointer (some ⟨b, 0, none⟩)) ∧ Blk w b 302 #[p, v] ∧ OwnA w A 5 1 v l.length (Lib.byteCells l)
theorem BldAt.mut {S A : Nat → Prop} {w w' : World} {b : Nat} {l : List UInt8} (h : BldAt w A b l) (hf : Mut S w w') (hn : ∀ g, A g → ¬ S g) : BldAt w' A b l := by
  obtain ⟨hA, p, v, hp, hb, ho⟩ := h
  exact ⟨hA, p, v, hp, hb.mut hf (hn _ hA), ho.mut hf hn⟩
theorem BldAt.fresh {A : Nat → Prop} {w w' : World} {b : Nat} {l : List UInt8} (h : BldAt w A b l) (hf : Fresh w w') : BldAt w' A b l := h.mut (hf.mut fun _ => False) (fun _ _ q => q)
theorem BldAt.mono {A A' : Nat → Prop} {w : World} {b : Nat} {l : List UInt8} (h : BldAt w A b l) (ha : ∀ g, g < w.heap.size → A g → A' g) : BldAt w A' b l := by
  obtain ⟨hA, p, v, hp, hb, ho⟩ := h
  exact ⟨ha _ hb.lt hA, p, v, hp, hb, ho.mono ha⟩
theorem sizeBld : (Tryz.prog.info? 285).map (·.size) = some 2 := by kernel_rfl
theorem liesBld : liesAt Tryz.prog Tryz.prog.depth 302 (2 / Tryz.prog.cellsOf 302) 0 285 1 = true := by kernel_rfl
theorem infoU8 : (Tryz.prog.info? 5).map (fun i => (i.zero, i.size, i.bytes)) = some (some (.int .u8 0), 1, 1) := by kernel_rfl
set_option maxHeartbeats 1000000 in
set_option maxRecDepth 100000 in
theorem copyCheck_any (b : Nat) (p v : Value) (w : World) (hp : p = .pointer none ∨ p = .pointer (some ⟨b, 0, none⟩)) (hb : Blk w b 302 #[p, v]) :
    Calls Tryz.prog 295 #[.pointer (some ⟨b, 0, none⟩)] w fun e w' => e = .returned (.tuple #[]) ∧ Blk w' b 302 #[.pointer (some ⟨b, 0, none⟩), v] ∧ Mut (fun j => j = b) w w' := by
  rcases hp with rfl | rfl
  · obtain ⟨j, hj, hjs⟩ := Option.map_eq_some_iff.1 sizeBld
    have h0 : w.cell? ⟨b, 0, none⟩ = some (.pointer none) := by rw [hb.cell]; rfl
    have hsh : w.shape? b = some (302, 2) := by unfold Blk at hb; simp [World.shape?, hb]
    have hfz : w.frozen? ⟨b, 0, none⟩ = false := hb.frozen 0
    have HB := Lib.hid hb
    have u283 := Tryz.underlying283
    have u443 := Tryz.underlying443
    clear hb
    go_enter Tryz.func295, Tryz.ntmps295
    go_wp2
    rw [Lib.run_to_unsafe w ⟨b, 0, none⟩ u283 u443 hj (by rw [hjs]; decide) hsh (Nat.zero_lt_succ 1)]
    simp only [Result.andThen]
    rw [Oper.upon_value]
    go_wp2
    rw [run_callFunc_extern Tryz.func355 (by kernel_rfl) (by kernel_rfl) (by kernel_rfl) (e := Extern.AbiNoEscape.same) (by kernel_rfl)]
    rw [Lib.run_noEscape]
    simp only [Result.andThen]
    rw [Oper.upon_value]
    go_wp2
    rw [Lib.run_from_unsafe w ⟨b, 0, none⟩ u443 u283 hj hsh liesBld]
    simp only [Result.andThen]
    rw [Oper.upon_value]
    go_wp2
    go_end0
    exact ⟨rfl, HB.out.set (i := 0), (Mut.refl (fun j => j = b) w).setCell (p := ⟨b, 0, none⟩) (.inl rfl) _⟩
  · have h0 : w.cell? ⟨b, 0, none⟩ = some (.pointer (some ⟨b, 0, none⟩)) := by rw [hb.cell]; rfl
    go_enter Tryz.func295, Tryz.ntmps295
    obtain ⟨j, hj, hjs⟩ := Option.map_eq_some_iff.1 sizeBld
    go_wp2
    rw [Lib.run_neq_ptr_same w _ Tryz.underlying283 hj]
    go_wp2
    go_end0
    exact ⟨rfl, hb, Mut.refl _ _⟩
theorem bytes_cons (l : List UInt8) (x : UInt8) : Lib.byteCells (l ++ [x]) = Lib.byteCells l ++ [.int .u8 x.toNat] := by simp [Lib.byteCells]
set_option maxHeartbeats 1000000 in
set_option maxRecDepth 100000 in
theorem writeByte_any (A : Nat → Prop) (b : Nat) (l : List UInt8) (x : UInt8) (w : World) (h : BldAt w A b l) (hl : l.length ≤ 100000) :
    Calls Tryz.prog 307 #[.pointer (some ⟨b, 0, none⟩), .int .u8 x.toNat] w fun e w' => e = .returned .nilIface ∧ BldAt w' (ext A w w') b (l ++ [x]) ∧ Mut A w w' := by
  obtain ⟨hAb, p, v, hp, hb, ho⟩ := h
  obtain ⟨i0, hi0, hz0, hz1, hz2⟩ := info_partsG infoU8
  have HCC := Lib.hid (copyCheck_any b p v w hp hb)
  have HB := Lib.hid hb
  have HO := Lib.hid ho
  have hbl := hb.lt
  clear hp hb ho
  go_enter Tryz.func307, Tryz.ntmps307
  go_wp2_with fail
  refine HCC.out.mono ?_
  rintro e w1 ⟨rfl, hb1, hu1⟩
  have c1 : w1.cell? ⟨b, 1, none⟩ = some v := by rw [hb1.cell]; rfl
  have hne : v.ownBlock ≠ some b := HO.out.ne HB.out (by decide)
  have ho1 : OwnA w1 A 5 1 v l.length (Lib.byteCells l) := HO.out.mutB hu1 (fun g hg e => hne (by rw [hg, e]))
  have HB1 := Lib.hid hb1
  have HO1 := Lib.hid ho1
  have HU1 : Hid (Mut A w w1) := Lib.hid (hu1.mono (fun j _ e => by rw [e]; exact hAb))
  clear hb1 hu1
  go_wp2_with (at_builtin; refine wpList_append_ownA _ rfl _ _ 131 rfl A 5 i0 _ 1 1 Tryz.underlying131 hi0 hz0 hz1 hz2 rfl (by decide) _ _ _ rfl (ho1.fresh ((Fresh.refl _).alloc _)) ⟨w1.heap.size, 0, none⟩ 1 1 [.int .u8 x.toNat] rfl rfl (newCells _ _ _) (by intro u hu; simp at hu; subst hu; rfl) (by omega) (by decide) ?_; intro a' c' w' hown' hgrow; have hu2 : Mut (fun j => v.ownBlock = some j) w1 w' := Fresh.andMut ((Fresh.refl _).alloc _) hgrow; have hb2 := HB1.out.mut hu2 hne; have d1 : w'.cell? ⟨b, 1, none⟩ = some v := (by rw [hb2.cell]; rfl); have e1 : w'.frozen? ⟨b, 1, none⟩ = false := hb2.frozen 1)
  go_ret
  have hne2 := hown'.ne hb2 (by decide)
  have hs : Mut (fun j => j = b) w' (w'.setCell ⟨b, 1, none⟩ (.slice a' (l.length + 1) c')) := (Mut.refl (fun j => j = b) w').setCell (p := ⟨b, 1, none⟩) (.inl rfl) _
  have ho3 := hown'.mutB hs (fun g hg e => hne2 (by rw [hg, e]))
  have hz1 := HU1.out.size
  have hz2 := hu2.size
  have hz3 := hs.size
  refine ⟨rfl, ⟨.inl hAb, _, _, .inr rfl, hb2.set (i := 1), ?_⟩, ?_⟩
  · rw [List.length_append, bytes_cons]
    refine ho3.mono (fun g hg hh => ?_)
    rcases hh with q | q
    · exact .inl q
    · exact .inr ⟨by have := q.1; simp at this; omega, hg⟩
  · exact (HU1.out.trans2 hu2 (fun _ h => h) (fun j _ e => HO1.out.2 j e)).trans2 hs (fun _ h => h) (fun j _ e => by rw [e]; exact hAb)
end Go.Proofs.YtpmlggjhfiljmaaGreatDoor
