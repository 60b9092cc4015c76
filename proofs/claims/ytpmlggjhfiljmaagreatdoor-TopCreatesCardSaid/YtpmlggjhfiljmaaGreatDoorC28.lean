/- Contracts that the law rests on, part 28 of 50 (IdsB, TreA). Each states its own conditions. -/
import Derived.Test.YtpmlggjhfiljmaaGreatDoorC27
/- Layer 9: Take where nothing was given back. -/
namespace Go.Proofs.YtpmlggjhfiljmaaGreatDoor
open Go.RowKit
set_option linter.unusedVariables false
set_option linter.unnecessarySimpa false
set_option linter.unusedSimpArgs false
theorem lenIS_any (a : Option Addr) (n c : Nat) (w : World) : Calls Tryz.prog 384 #[.slice a n c] w fun e w' => e = .returned (.int .i64 n) ∧ w = w' := by
  go_enter Tryz.func384, Tryz.ntmps384
  go_wp2
  go_ret
  exact ⟨rfl, rfl⟩
def frOf (w : World) (p : Nat) : Int := match w.cell? ⟨p, 1, none⟩ with | some (.int _ k) => k | _ => 0
/-- numbers that may be out -/
def OutOK (O : Int → Bool) : Prop := ∀ i, O i = true → 1 ≤ i ∧ i ≤ 200
/-- the next number -/
def NextIs (O : Int → Bool) (fr k : Int) : Prop := fr ≤ k ∧ O k = false ∧ ∀ i, fr ≤ i → i < k → O i = true
def TakePost (A : Nat → Prop) (p : Nat) (fr : Int) (O : Int → Bool) (q : Nat) (w : World) (e : Ending) (w' : World) : Prop :=
  ∃ k A', NextIs O fr k ∧ Mut A w w' ∧ Gr A w w' A' ∧ ((k ≤ 200 ∧ e = .returned (.tuple #[.int .i64 k, .bool true]) ∧ PoolAt w' A' p k [] (fun i => O i || decide (i = k)) (q + 1)) ∨ (200 < k ∧ e = .returned (.tuple #[.int .i64 0, .bool false]) ∧ PoolAt w' A' p k [] O q))
set_option maxRecDepth 100000 in
set_option maxHeartbeats 3200000 in
theorem take_new (w : World) (A : Nat → Prop) (p : Nat) (fr : Int) (O : Int → Bool) (q : Nat) (h : PoolAt w A p fr [] O q) (hO : OutOK O) (hf1 : 1 ≤ fr ∧ fr ≤ 201) (hq : q ≤ 1000000) : Calls Tryz.prog 341 #[.pointer (some ⟨p, 0, none⟩)] w (TakePost A p fr O q w) := by
  have HO := Lib.hid hO
  have HAp : A p := by obtain ⟨bv, go, M, h1, h2, _⟩ := h; exact h2
  have HP := Lib.hid h
  clear h hO
  go_enter Tryz.func341, Tryz.ntmps341
  go_wp2
  go_loopw [14] (fun _ wr => ∃ k, PoolAt wr A p k [] O q ∧ Mut (fun j => j = p) w wr ∧ fr ≤ k ∧ k ≤ 201 ∧ ∀ i, fr ≤ i → i < k → O i = true) (fun _ wr => (201 - frOf wr p).toNat)
  case atStart => exact ⟨fr, HP.out, Mut.refl _ _, by omega, by omega, fun i _ _ => by omega⟩
  case round =>
    obtain ⟨k, hp, hm, hk1, hk2, hall⟩ := hrel
    have HALL := Lib.hid hall
    obtain ⟨bv, go, M, h1, h2, h3, h4, h5, h6⟩ := hp
    have c0 : wr.cell? ⟨p, 0, none⟩ = some (.int .i64 200) := by rw [h1.cell]; rfl
    have c1 : wr.cell? ⟨p, 1, none⟩ = some (.int .i64 k) := by rw [h1.cell]; rfl
    have c2 : wr.cell? ⟨p, 2, none⟩ = some bv := by rw [h1.cell]; rfl
    have c3 : wr.cell? ⟨p, 3, none⟩ = some (.map (some go)) := by rw [h1.cell]; rfl
    have f1 : wr.frozen? ⟨p, 1, none⟩ = false := h1.frozen 1
    have hfrof : frOf wr p = k := by unfold frOf; rw [c1]
    have HFR := Lib.hid hfrof
    have H1 := Lib.hid h1
    have H5 := Lib.hid h5
    have H6 := Lib.hid h6
    clear hall h1 hfrof
    cases hOk : O k with
    | true =>
      have hk3 := HO.out k hOk
      have hlk := fun nq => (h4.drewN nq).look Tryz.underlying156 zeroI (k := k) (by unfold I64; omega) (r := .int .i64 1) (by rw [h5, hOk]; rfl)
      have HOk := Lib.hid hOk
      have HM4 := Lib.hid h4
      clear hOk h5 h6
      go_wp2_with fail
      go_quiet (fail)
      all_goals
        go_wp2
        have b1 := (show Blk (wr.drewN nq) p _ _ from H1.out).set (i := 1) (u := .int .i64 (k + 1))
        have u1 : Mut (fun j => j = p) wr ((wr.drewN nq).setCell ⟨p, 1, none⟩ (.int .i64 (k + 1))) := ((Mut.refl (fun j => j = p) wr).drewN nq).setCell (p := ⟨p, 1, none⟩) (.inl rfl) _
        have hpg := H1.out.neMap HM4.out
        refine ⟨⟨k + 1, ⟨bv, go, M, b1, h2, h3, HM4.out.mut u1 (fun e => hpg e.symm), H5.out, H6.out.mutB u1 (fun g hg e => H6.out.ne H1.out (by decide) (by rw [hg, e]))⟩, hm.trans u1, by omega, by omega, fun i h1 h2 => ?_⟩, ?_⟩
        · by_cases e : i = k
          · rw [e]; exact HOk.out
          · exact HALL.out i h1 (by omega)
        · have : frOf ((wr.drewN nq).setCell ⟨p, 1, none⟩ (.int .i64 (k + 1))) p = k + 1 := by
            unfold frOf
            rw [b1.cell]
            rfl
          rw [this, HFR.out]
          omega
    | false =>
      have hlk := fun nq => (h4.drewN nq).look Tryz.underlying156 zeroI (k := k) (by unfold I64; omega) (r := .int .i64 0) (by rw [h5, hOk]; rfl)
      have HOk := Lib.hid hOk
      have HM4 := Lib.hid h4
      obtain ⟨aB, cB, rfl⟩ := h6.shape
      clear hOk h5 h6
      go_wp2_with fail
      go_quiet (fail)
      all_goals
        clear hlk
        go_wp2_with fail
        refine (lenIS_any aB 0 cB _).mono ?_
        rintro e w2 ⟨rfl, rfl⟩
        by_cases hk200 : k ≤ 200
        · have hk3 : ¬ (200 : Int) < k := by omega
          have hmm : MapAt (wr.drewN nq) go q M := HM4.out
          go_wp2_with (at_mapUpdate; refine wpList_storeI _ rfl _ _ _ 156 rfl 3 Tryz.underlying156 go q M rfl hmm (by omega) k rfl (by unfold I64; omega) (.int .i64 1) rfl ?_; intro w3 m3 u3 z3)
          have hpg := H1.out.neMap HM4.out
          have hfin : PoolAt w3 A p k [] (fun i => O i || decide (i = k)) (q + 1) := ⟨_, go, _, (show Blk (wr.drewN nq) p _ _ from H1.out).mut u3 hpg, h2, h3, m3, fun i => by
            by_cases e : i = k
            · subst e; simp
            · rw [if_neg e, H5.out]; simp [e], (show OwnA (wr.drewN nq) A 3 1 _ _ _ from H6.out).mutB u3 (fun g hg e => H6.out.neMap HM4.out (by rw [hg, e]))⟩
          have hmu : Mut A w w3 := ((hm.mono (T := A) (fun j _ e => by rw [e]; exact h2)).drewN nq).trans2 u3 (fun _ h => h) (fun j _ e => by rw [e]; exact h3)
          clear m3 u3 hm hmm
          go_ret2
          exact ⟨k, A, ⟨hk1, HOk.out, HALL.out⟩, hmu, fun j h => .inl h, .inl ⟨hk200, rfl, hfin⟩⟩
        · have hk3 : (200 : Int) < k := by omega
          have hfin : PoolAt (wr.drewN nq) A p k [] O q := ⟨_, go, M, H1.out, h2, h3, HM4.out, H5.out, H6.out⟩
          have hmu : Mut A w (wr.drewN nq) := (hm.mono (T := A) (fun j _ e => by rw [e]; exact h2)).drewN nq
          clear hm
          go_wp2
          go_ret2
          exact ⟨k, A, ⟨hk1, HOk.out, HALL.out⟩, hmu, fun j h => .inl h, .inr ⟨by omega, rfl, hfin⟩⟩
end Go.Proofs.YtpmlggjhfiljmaaGreatDoor
/- Layer 10: the tree: New, List, index, Cookie. -/
namespace Go.Proofs.YtpmlggjhfiljmaaGreatDoor
open Go.RowKit
set_option linter.unusedVariables false
set_option linter.unnecessarySimpa false
set_option linter.unusedSimpArgs false
/-- a store into a map, as an equation -/
theorem MapAt.storeRun {w : World} {b n : Nat} {M : Int → Option Value} (h : MapAt w b n M) {t e : TypeId} (ht : Tryz.prog.underlying t = some (.map 3 e)) (hn : n ≤ 1000000000) {k : Int} (hk : I64 k) (val : Value) :
    ∃ w', (Instr.mapUpdate t (.map (some b)) (.int .i64 k) val).run Tryz.prog w = .ok () w' ∧ MapAt w' b (n + 1) (fun i => if i = k then some val else M i) ∧ Mut (fun j => j = b) w w' ∧ Hid (w'.heap.size = w.heap.size) := by
  obtain ⟨D, hown, hM⟩ := h
  have hi := own_isMap hown
  obtain ⟨w', hrun, h1, h2⟩ := hown.store keyI ht (by unfold maxLen; omega) (keyOfI hk) (d := .held val) (ps := []) rfl
  refine ⟨w', hrun, ⟨_, h1, fun i => by rw [mget_put hi, hM]⟩, ?_, Lib.hid ?_⟩
  · obtain ⟨es, clock, es', clock', hb, rfl⟩ := h2
    exact ⟨rfl, rfl, rfl, by simp [ChangeMaps.setBlock], fun j hj hn => ChangeMaps.heap_setBlock_other hb _ hn⟩
  · obtain ⟨es, clock, es', clock', hb, rfl⟩ := h2
    simp [ChangeMaps.setBlock]
theorem PoolAt.le {w : World} {A : Nat → Prop} {p : Nat} {fr : Int} {bk : List Int} {O : Int → Bool} {q q' : Nat} (h : PoolAt w A p fr bk O q) (hq : q ≤ q') : PoolAt w A p fr bk O q' := by
  obtain ⟨bv, go, M, q1, q2, q3, q4, q5⟩ := h
  exact ⟨bv, go, M, q1, q2, q3, q4.mono hq, q5⟩
/-- a tree -/
structure TreS where
  dirs : Int → Option (List Ent)
  files : Int → Bool
  out : Int → Bool
  fr : Int
  bk : List Int
  next : Int
def T0 : TreS := ⟨fun i => if i = 0 then some [] else none, fun _ => false, fun _ => false, 1, [], 1⟩
/-- T lies at t, in blocks that meet A; no map has more than q entries -/
def TreeAt (w : World) (A : Nat → Prop) (t : Nat) (T : TreS) (q : Nat) : Prop :=
  ∃ gd gf pp Md Mf Ap, Blk w t 159 #[.map (some gd), .map (some gf), .pointer (some ⟨pp, 0, none⟩), .int .i64 T.next] ∧ (A t ∧ ¬ Ap t) ∧ (A gd ∧ ¬ Ap gd) ∧ (A gf ∧ ¬ Ap gf) ∧ gd ≠ gf ∧ MapAt w gd q Md ∧ MapAt w gf q Mf ∧ (∀ i, Mf i = if T.files i = true then some (.int .i64 1) else none) ∧
    (∀ i l, T.dirs i = some l → ∃ v, Md i = some v ∧ OwnE w (fun g => A g ∧ ¬ Ap g) v l) ∧ (∀ i, T.dirs i = none → Md i = none) ∧ (∀ k, Ap k → A k) ∧ PoolAt w Ap pp T.fr T.bk T.out q
theorem TreeAt.mut {S A : Nat → Prop} {w w' : World} {t : Nat} {T : TreS} {q : Nat} (h : TreeAt w A t T q) (hf : Mut S w w') (hn : ∀ k, A k → ¬ S k) : TreeAt w' A t T q := by
  obtain ⟨gd, gf, pp, Md, Mf, Ap, h1, h2, h3, h4, h5, h6, h7, h8, h9, h10, h11, h12⟩ := h
  exact ⟨gd, gf, pp, Md, Mf, Ap, h1.mut hf (hn _ h2.1), h2, h3, h4, h5, h6.mut hf (hn _ h3.1), h7.mut hf (hn _ h4.1), h8, fun i l hi => by obtain ⟨v, hv, ho⟩ := h9 i l hi; exact ⟨v, hv, OwnA.mut ho hf (fun g hg => hn g hg.1)⟩, h10, h11, h12.mut hf (fun k hk => hn k (h11 k hk))⟩
theorem TreeAt.fresh {A : Nat → Prop} {w w' : World} {t : Nat} {T : TreS} {q : Nat} (h : TreeAt w A t T q) (hf : Fresh w w') : TreeAt w' A t T q := h.mut (hf.mut fun _ => False) (fun _ _ q => q)
theorem TreeAt.mono {A A' : Nat → Prop} {w : World} {t : Nat} {T : TreS} {q : Nat} (h : TreeAt w A t T q) (hA : ∀ k, k < w.heap.size → A k → A' k) : TreeAt w A' t T q := by
  obtain ⟨gd, gf, pp, Md, Mf, Ap, h1, h2, h3, h4, h5, h6, h7, h8, h9, h10, h11, h12⟩ := h
  exact ⟨gd, gf, pp, Md, Mf, fun k => Ap k ∧ k < w.heap.size, h1, ⟨hA _ h1.lt h2.1, fun q => h2.2 q.1⟩, ⟨hA _ h6.lt h3.1, fun q => h3.2 q.1⟩, ⟨hA _ h7.lt h4.1, fun q => h4.2 q.1⟩, h5, h6, h7, h8, fun i l hi => by obtain ⟨v, hv, ho⟩ := h9 i l hi; exact ⟨v, hv, OwnA.mono ho (fun g hg hh => ⟨hA g hg hh.1, fun q => hh.2 q.1⟩)⟩, h10, fun k hk => hA k hk.2 (h11 k hk.1), h12.mono (fun k hk hh => ⟨hh, hk⟩)⟩
theorem TreeAt.le {w : World} {A : Nat → Prop} {t : Nat} {T : TreS} {q q' : Nat} (h : TreeAt w A t T q) (hq : q ≤ q') : TreeAt w A t T q' := by
  obtain ⟨gd, gf, pp, Md, Mf, Ap, h1, h2, h3, h4, h5, h6, h7, h8, h9, h10, h11, h12⟩ := h
  exact ⟨gd, gf, pp, Md, Mf, Ap, h1, h2, h3, h4, h5, h6.mono hq, h7.mono hq, h8, h9, h10, h11, h12.le hq⟩
theorem zeroL (w : World) : (zeroValue 83).run Tryz.prog w = .ok (.slice none 0 0) w := by kernel_rfl
def TreeNew (T : TreS) (q : Nat) (w : World) (e : Ending) (w' : World) : Prop := ∃ t, e = .returned (.pointer (some ⟨t, 0, none⟩)) ∧ TreeAt w' (fun g => w.heap.size ≤ g) t T q ∧ Fresh w w'
set_option maxRecDepth 100000 in
set_option maxHeartbeats 1600000 in
theorem treeNew_any (w : World) : Calls Tryz.prog 144 #[] w (TreeNew T0 1 w) := by
  have hmm := @run_makeMap Tryz.prog
  obtain ⟨w1, hrun, m1, u1, z1⟩ := (MapAt.made w).storeRun Tryz.underlying155 (by omega) (k := 0) (by unfold I64; omega) (.slice none 0 0)
  have hf1 : Fresh w w1 := (Fresh.refl w |>.alloc (.map #[] 0)).mut2 u1 (fun j e => by omega)
  have HF1 := Lib.hid hf1
  have M1 := Lib.hid m1
  have HN := Lib.hid (idsNew_none (w1.alloc (.map #[] 0)) none 0)
  clear hf1 m1 u1
  go_enter Tryz.func144, Tryz.ntmps144
  go_wp2_with fail
  refine HN.out.mono ?_
  rintro e w2 ⟨pp, rfl, hp, hf2⟩
  have hz1 := z1.out
  simp only [World.size_alloc] at hz1
  have hs2 := hf2.size
  simp only [World.size_alloc] at hs2
  have hfin : Hid (TreeAt (w2.alloc (.cells #[.map (some w.heap.size), .map (some w1.heap.size), .pointer (some ⟨pp, 0, none⟩), .int .i64 1] 159)) (fun g => w.heap.size ≤ g) w2.heap.size T0 1) := Lib.hid ⟨w.heap.size, w1.heap.size, pp, _, _, fun k => w1.heap.size + 1 ≤ k ∧ k < w2.heap.size, Blk.new _ _ _, ⟨by omega, by omega⟩, ⟨Nat.le_refl _, by omega⟩, ⟨by omega, by omega⟩, by omega, (((M1.out.alloc _).fresh hf2).alloc _).mono (by omega), (((MapAt.made w1).fresh hf2).alloc _).mono (by omega), fun i => rfl, fun i l hi => by
      have h0 : i = 0 ∧ l = [] := by
        unfold T0 at hi
        simp only at hi
        split at hi
        · rename_i e; exact ⟨e, (by injection hi with hi; exact hi.symm)⟩
        · cases hi
      obtain ⟨rfl, rfl⟩ := h0
      exact ⟨_, if_pos rfl, OwnA.nil _ _ _ _⟩, fun i hi => by
      unfold T0 at hi
      simp only at hi
      split at hi
      · cases hi
      · rename_i e; rw [if_neg e], fun k hk => by omega, ((hp.mono (A' := fun k => w1.heap.size + 1 ≤ k ∧ k < w2.heap.size) (fun k hk1 hk2 => ⟨by simpa using hk2, hk1⟩)).fresh ((Fresh.refl _).alloc _)).le (by omega)⟩
  have hfin2 := Lib.hid (((HF1.out.alloc (.map #[] 0)).trans hf2).alloc (.cells #[.map (some w.heap.size), .map (some w1.heap.size), .pointer (some ⟨pp, 0, none⟩), .int .i64 1] 159))
  clear hp hf2 hz1 hs2
  go_wp2
  go_ret
  exact ⟨_, rfl, hfin.out, hfin2.out⟩
section
variable (w : World) (A : Nat → Prop) (t : Nat) (T : TreS) (q : Nat)
theorem cookie_any (h : TreeAt w A t T q) : Calls Tryz.prog 229 #[.pointer (some ⟨t, 0, none⟩)] w fun e w' => e = .returned (.int .i64 T.next) ∧ w = w' := by
  obtain ⟨gd, gf, pp, Md, Mf, Ap, h1, h2, h3, h4, h5, h6, h7, h8, h9, h10, h12, h11⟩ := h
  have c3 : w.cell? ⟨t, 3, none⟩ = some (.int .i64 T.next) := by rw [h1.cell]; rfl
  clear h1 h6 h7 h8 h9 h10 h11
  go_enter Tryz.func229, Tryz.ntmps229
  go_wp2
  go_ret
  exact ⟨rfl, rfl⟩
/-- what List answers -/
def ListPost (w : World) (T : TreS) (d : Int) (e : Ending) (w' : World) : Prop :=
  (∃ l v, T.dirs d = some l ∧ e = .returned (.tuple #[v, .int .i64 0]) ∧ OwnE w' (fun g => w.heap.size ≤ g) v l ∧ Fresh w w') ∨
  (T.dirs d = none ∧ e = .returned (.tuple #[.slice none 0 0, .int .i64 (if T.files d = true then 8 else 5)]) ∧ Fresh w w')
set_option maxRecDepth 100000 in
set_option maxHeartbeats 1600000 in
theorem tlist_any (h : TreeAt w A t T q) (d : Int) (hd : I64 d) (hl : ∀ l, T.dirs d = some l → l.length ≤ 1000000) : Calls Tryz.prog 35 #[.pointer (some ⟨t, 0, none⟩), .int .i64 d] w (ListPost w T d) := by
  obtain ⟨gd, gf, pp, Md, Mf, Ap, h1, h2, h3, h4, h5, h6, h7, h8, h9, h10, h12, h11⟩ := h
  have c0 : w.cell? ⟨t, 0, none⟩ = some (.map (some gd)) := by rw [h1.cell]; rfl
  have c1 : w.cell? ⟨t, 1, none⟩ = some (.map (some gf)) := by rw [h1.cell]; rfl
  cases hT : T.dirs d with
  | some l =>
    obtain ⟨v, hv, ho⟩ := h9 d l hT
    have HO := Lib.hid ho
    have HCL := Lib.hid (fun W hW => cloneE_any _ v l W ((OwnE.sl ho).fresh hW) (hl l hT))
    obtain ⟨a, c, rfl⟩ := ho.shape
    have HV := Lib.hid hv
    have HT := Lib.hid hT
    clear h1 h7 h8 h9 h10 h11 ho hv hT hl
    go_enter Tryz.func35, Tryz.ntmps35
    go_wp2_with (at_lookup; refine wpList_lookOkI _ rfl _ _ 155 rfl 83 Tryz.underlying155 _ (zeroL _) gd q Md rfl h6 d rfl hd (.slice a l.length c) (by rw [HV.out]; rfl) true (by rw [HV.out]; rfl) ?_)
    refine (HCL.out _ (Fresh.refl _)).mono ?_
    rintro e w2 ⟨v2, rfl, ho2, hf2⟩
    have HZ := Lib.hid (And.intro ho2 hf2)
    clear ho2 hf2
    go_wp2
    go_ret2
    exact .inl ⟨l, _, HT.out, rfl, HZ.out.1, HZ.out.2⟩
  | none =>
    have HT := Lib.hid hT
    have HM := Lib.hid (h10 d hT)
    have H8 := Lib.hid (h8 d)
    clear h1 h8 h9 h10 h11 hT hl
    cases hfl : T.files d with
    | true =>
      rw [hfl] at H8
      have HFL := Lib.hid hfl
      clear hfl
      go_enter Tryz.func35, Tryz.ntmps35
      go_wp2_with (first
        | (at_lookup; refine wpList_lookOkI _ rfl _ _ 155 rfl 83 Tryz.underlying155 _ (zeroL _) gd q Md rfl h6 d rfl hd (.slice none 0 0) (by rw [HM.out]; rfl) false (by rw [HM.out]; rfl) ?_)
        | (at_lookup; refine wpList_lookI _ rfl _ _ 156 rfl 3 Tryz.underlying156 _ (zeroI _) gf q Mf rfl h7 d rfl hd (.int .i64 1) (by rw [H8.out]; rfl) ?_))
      go_ret2
      exact .inr ⟨HT.out, by rw [HFL.out]; rfl, Fresh.refl _⟩
    | false =>
      rw [hfl] at H8
      have HFL := Lib.hid hfl
      clear hfl
      go_enter Tryz.func35, Tryz.ntmps35
      go_wp2_with (first
        | (at_lookup; refine wpList_lookOkI _ rfl _ _ 155 rfl 83 Tryz.underlying155 _ (zeroL _) gd q Md rfl h6 d rfl hd (.slice none 0 0) (by rw [HM.out]; rfl) false (by rw [HM.out]; rfl) ?_)
        | (at_lookup; refine wpList_lookI _ rfl _ _ 156 rfl 3 Tryz.underlying156 _ (zeroI _) gf q Mf rfl h7 d rfl hd (.int .i64 0) (by rw [H8.out]; rfl) ?_))
      go_ret2
      exact .inr ⟨HT.out, by rw [HFL.out]; rfl, Fresh.refl _⟩
end
theorem toList_inj {a b : ByteArray} : a.toList = b.toList ↔ a = b := by
  rw [ByteArray.toList_eq, ByteArray.toList_eq]
  exact ⟨fun h => ByteArray.ext (Array.toList_inj.1 h), fun h => by rw [h]⟩
def nameB (n : ByteArray) (e : Ent) : Bool := e.name.toList == n.toList
theorem enters383 : ∀ (args : Array Value) (W : World), Sem.run Tryz.prog (callFunc 383 args) W = .ok (.enter 383 args) W := by intro args w; go_simp
theorem index1_any (e : Ent) (b : Nat) (n : ByteArray) (w : World) (hb : w.cell? ⟨b, 0, none⟩ = some (.string n)) (hbl : b < w.heap.size) : Calls Tryz.prog 383 #[entV e, .pointer (some ⟨b, 0, none⟩)] w fun en w' => en = .returned (.bool (nameB n e)) ∧ Fresh w w' := by
  go_enter Tryz.func383, Tryz.ntmps383
  go_wp2
  go_ret
  exact ⟨rfl, (Fresh.refl _).alloc _⟩
theorem tindex_any (w : World) (A : Nat → Prop) (v : Value) (l : List Ent) (n : ByteArray) (h : SlE w A v l) (hl : l.length ≤ 1000000) : Calls Tryz.prog 340 #[v, .string n] w (NumF (fidx (nameB n) l) w) := by
  have hf : Fresh w (w.alloc (.cells #[.string n] 9)) := (Fresh.refl _).alloc _
  have HX := Lib.hid (indexFunc_any A v l _ (h.fresh hf) hl 383 #[] #[.pointer (some ⟨w.heap.size, 0, none⟩)] (nameB n) ⟨enters383, fun W hW e _ => index1_any e w.heap.size n W ((Below.cell hW (p := ⟨w.heap.size, 0, none⟩) (by simp)).trans (by go_simp)) (Nat.lt_of_lt_of_le (by simp) hW.size)⟩)
  clear h
  go_enter Tryz.func340, Tryz.ntmps340
  go_wp2_with fail
  refine HX.out.mono ?_
  rintro e w2 ⟨rfl, hf2⟩
  go_wp2
  go_ret
  exact ⟨rfl, hf.trans hf2⟩
end Go.Proofs.YtpmlggjhfiljmaaGreatDoor
