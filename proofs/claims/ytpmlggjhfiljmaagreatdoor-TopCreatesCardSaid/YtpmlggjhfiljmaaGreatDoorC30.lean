/- Contracts that the law rests on, part 30 of 50 (TreC). Each states its own conditions. -/
import Derived.Maps.AppendAt
import Derived.Test.YtpmlggjhfiljmaaGreatDoorC24
import Derived.Test.YtpmlggjhfiljmaaGreatDoorC29
namespace Go.Proofs.YtpmlggjhfiljmaaGreatDoor
open Go.RowKit
set_option linter.unusedVariables false
set_option linter.unnecessarySimpa false
set_option linter.unusedSimpArgs false
/-- what may answers -/
def MayPost (s : ByteArray) (k : Int) (w : World) (e : Ending) (w' : World) : Prop := ∃ r : Int, e = .returned (.int .i64 r) ∧ ((GoodN s ∧ 0 ≤ k ∧ k ≤ 1000000 ∧ r = 0) ∨ (¬ GoodN s ∧ r = 3) ∨ (GoodN s ∧ ¬ (0 ≤ k ∧ k ≤ 1000000) ∧ r = 1)) ∧ Fresh w w'
set_option maxHeartbeats 800000 in
theorem tmay_any (s : ByteArray) (k : Int) (w : World) : Calls Tryz.prog 339 #[.string s, .int .i64 k] w (MayPost s k w) := by
  have HG := Lib.hid (fun W => good_any s W)
  go_enter Tryz.func339, Tryz.ntmps339
  go_wp2_with fail
  refine (HG.out _).mono ?_
  rintro e w1 ⟨b, rfl, hb, hf⟩
  have HB := Lib.hid hb
  clear hb
  cases b
  · go_wp2
    go_ret
    exact ⟨_, rfl, .inr (.inl ⟨fun h => absurd (HB.out.2 h) (by simp), rfl⟩), hf⟩
  · by_cases h0 : k < 0
    · go_wp2
      go_ret
      exact ⟨_, rfl, .inr (.inr ⟨HB.out.1 (by first | rfl | trivial), by omega, rfl⟩), hf⟩
    · by_cases h1 : 1000000 < k
      · go_wp2
        go_ret
        exact ⟨_, rfl, .inr (.inr ⟨HB.out.1 (by first | rfl | trivial), by omega, rfl⟩), hf⟩
      · go_wp2
        go_ret
        exact ⟨_, rfl, .inl ⟨HB.out.1 (by first | rfl | trivial), by omega, by omega, rfl⟩, hf⟩
/-- 'append' of one entry, as an equation -/
theorem OwnE.appendRun {w : World} {A : Nat → Prop} {v : Value} {xs : List Ent} (h : OwnE w A v xs) (ty : TypeId) (e : Ent) (g : Nat) (hc : ∀ j u, (ec e)[j]? = some u → w.cell? ⟨g, j, none⟩ = some u) (hN : xs.length ≤ 100000) :
    ∃ a' c' w', (Builtin.append_ #[83, 83] ty #[v, .slice (some ⟨g, 0, none⟩) 1 1]).run Tryz.prog w = .ok (.slice a' (xs.length + 1) c') w' ∧ OwnE w' (ext A w w') (.slice a' (xs.length + 1) c') (xs ++ [e]) ∧ Mut (fun k => v.ownBlock = some k) w w' := by
  obtain ⟨i0, hi0, hz0, hz1, hz2⟩ := info_partsG infoEnt
  obtain ⟨v', w', h1, h2, h3, _, h5⟩ := run_append_own_at (P := Tryz.prog) w 0 83 ty 88 i0 _ 5 48 Tryz.underlying83 hi0 hz0 hz1 hz2 rfl (by decide) v _ _ h.1 ⟨g, 0, none⟩ 1 1 (ec e) rfl (fun j u hj => by rw [Addr.add_lit]; rw [Nat.zero_add]; exact hc j u hj) (fun u hu => ec_one [e] u (by simpa [ecs] using hu)) (by unfold maxLen; omega) (by omega) (Nat.zero_le _)
  have ho : OwnE w' (ext A w w') v' (xs ++ [e]) := by
    have e1 : ecs xs ++ ec e = ecs (xs ++ [e]) := by rw [ecs_append]; simp [ecs]
    have e2 : (xs ++ [e]).length = xs.length + 1 := by simp
    unfold OwnE
    rw [e2, ← e1]
    refine ⟨h2, fun k hk => ?_⟩
    rcases h5 with q | q
    · exact .inl (h.2 k (by rw [← q]; exact hk))
    · rw [q] at hk
      injection hk with hk
      exact .inr ⟨by omega, (h2.lt k (by rw [q, hk])).2⟩
  obtain ⟨a', c', rfl⟩ := ho.shape
  have e2 : (xs ++ [e]).length = xs.length + 1 := by simp
  rw [e2] at h1 ho
  exact ⟨a', c', w', h1, ho, ⟨h3.os, h3.tape, h3.output, h3.size, fun k hk hn => h3.block k hk fun e => hn e.symm⟩⟩
/-- 'append' of one entry, as a step of a region that draws -/
theorem step_append_ent {ops : Array Oper} {o : Oper} {a : Act} {w : World} {K : Act → World → Prop} {Q : Exit → Act → World → Prop} {E : Prop} (hg : o.guard = none) (s x : Operand)
    (ho : o.op = .call { callee := .builtin .append, args := #[s, x], argTypes := #[83, 83] })
    (A : Nat → Prop) (v : Value) (xs : List Ent) (e : Ent) (g : Nat) (hs : a.eval s = v) (hx : a.eval x = .slice (some ⟨g, 0, none⟩) 1 1) (hown : OwnE w A v xs) (hc : ∀ j u, (ec e)[j]? = some u → w.cell? ⟨g, j, none⟩ = some u) (hN : xs.length ≤ 100000)
    (hK : ∀ a' c' w', OwnE w' (ext A w w') (.slice a' (xs.length + 1) c') (xs ++ [e]) → Mut (fun k => v.ownBlock = some k) w w' → K (a.put o.dst (.slice a' (xs.length + 1) c')) w') :
    if Region.wanted o (yielded ops a.tmps) = true then Oper.wp Tryz.prog o a w K Q else E := by
  have hw : Region.wanted o (yielded ops a.tmps) = true := by simp [Region.wanted, hg]
  rw [if_pos hw]
  obtain ⟨a', c', w', hrun, h1, h2⟩ := hown.appendRun o.type e g hc hN
  unfold Oper.wp
  simp [execOp, ho, resolve, invoke, builtin, hs, hx, hrun, Result.andThen]
  exact hK _ _ _ h1 h2
theorem ec_new {w0 w : World} {e : Ent} (hf : Fresh (w0.alloc (.cells #[.string e.name, .int .i64 e.node, .bool e.dir, .int .i64 e.cookie, .int .i64 e.short] 88)) w) : ∀ j u, (ec e)[j]? = some u → w.cell? ⟨w0.heap.size, j, none⟩ = some u := by
  intro j u hj
  rw [Below.cell hf (p := ⟨w0.heap.size, j, none⟩) (by show w0.heap.size < _; simp), World.cell?_alloc_at _ _ _ _ rfl]
  simpa [ec] using hj
theorem TreeAt.open {A : Nat → Prop} {w : World} {t : Nat} {T : TreS} {q : Nat} (h : TreeAt w A t T q) :
    ∃ gd gf pp Md Mf Ap, (∀ k, Ap k → k < w.heap.size) ∧ Blk w t 159 #[.map (some gd), .map (some gf), .pointer (some ⟨pp, 0, none⟩), .int .i64 T.next] ∧ (A t ∧ ¬ Ap t) ∧ (A gd ∧ ¬ Ap gd) ∧ (A gf ∧ ¬ Ap gf) ∧ gd ≠ gf ∧ MapAt w gd q Md ∧ MapAt w gf q Mf ∧ (∀ i, Mf i = if T.files i = true then some (.int .i64 1) else none) ∧
    (∀ i l, T.dirs i = some l → ∃ v, Md i = some v ∧ OwnE w (fun g => A g ∧ ¬ Ap g) v l) ∧ (∀ i, T.dirs i = none → Md i = none) ∧ (∀ k, Ap k → A k) ∧ PoolAt w Ap pp T.fr T.bk T.out q := by
  obtain ⟨gd, gf, pp, Md, Mf, Ap, h1, h2, h3, h4, h5, h6, h7, h8, h9, h10, h11, h12⟩ := h
  exact ⟨gd, gf, pp, Md, Mf, fun k => Ap k ∧ k < w.heap.size, fun k hk => hk.2, h1, ⟨h2.1, fun q => h2.2 q.1⟩, ⟨h3.1, fun q => h3.2 q.1⟩, ⟨h4.1, fun q => h4.2 q.1⟩, h5, h6, h7, h8, fun i l hi => by obtain ⟨v, hv, ho⟩ := h9 i l hi; exact ⟨v, hv, OwnA.mono ho (fun g hg hh => ⟨hh.1, fun q => hh.2 q.1⟩)⟩, h10, fun k hk => h11 k hk.1, h12.mono (fun k hk hh => ⟨hh, hk⟩)⟩
def putT (T : TreS) (d : Int) (e : Ent) : TreS := { T with dirs := fun i => if i = d then some ((T.dirs d).getD [] ++ [{ e with cookie := T.next }]) else T.dirs i, next := T.next + 1 }
def PutPost (A : Nat → Prop) (t : Nat) (T : TreS) (q : Nat) (w : World) (e : Ending) (w' : World) : Prop := ∃ A', e = .returned (.tuple #[]) ∧ TreeAt w' A' t T q ∧ Mut A w w' ∧ Gr A w w' A'
theorem put_fin {w W5 w4 w6 : World} {A Ap : Nat → Prop} {t gd gf pp q : Nat} {T : TreS} {d : Int} {e : Ent} {Md Mf : Int → Option Value} {v4 : Value} {l0 : List Ent} (hApl : ∀ k, Ap k → k < w.heap.size) (h2 : A t ∧ ¬ Ap t) (h3 : A gd ∧ ¬ Ap gd) (h4 : A gf ∧ ¬ Ap gf) (h5 : gd ≠ gf) (h12 : ∀ k, Ap k → A k) (hl0 : (T.dirs d).getD [] = l0)
    (h8 : ∀ i, Mf i = if T.files i = true then some (.int .i64 1) else none) (h10 : ∀ i, T.dirs i = none → Md i = none) (hs5 : W5.heap.size = w.heap.size + 1)
    (PK : Blk W5 t 159 #[.map (some gd), .map (some gf), .pointer (some ⟨pp, 0, none⟩), .int .i64 (T.next + 1)] ∧ MapAt W5 gd q Md ∧ MapAt W5 gf q Mf ∧ PoolAt W5 Ap pp T.fr T.bk T.out q ∧ (∀ i l, T.dirs i = some l → ∃ v, Md i = some v ∧ OwnE W5 (fun g => A g ∧ ¬ Ap g) v l) ∧ Mut (fun j => j = t) w W5)
    (hf4 : Fresh W5 w4) (o4 : OwnE w4 (fun g => W5.heap.size ≤ g) v4 (l0 ++ [{ e with cookie := T.next }])) (m6 : MapAt w6 gd (q + 1) (fun i => if i = d then some v4 else Md i)) (u6 : Mut (fun j => j = gd) w4 w6) :
    TreeAt w6 (ext A w w6) t (putT T d e) (q + 1) ∧ Mut A w w6 := by
  obtain ⟨b5, m5, f5, p5, o5, u5⟩ := PK
  have hz4 := hf4.size
  have hz6 := u6.size
  have htd : t ≠ gd := b5.neMap m5
  have hw4 : MapAt w4 gd q Md := m5.fresh hf4
  have hmu : Mut A w w6 := ((u5.mono (T := A) (fun j _ e => by rw [e]; exact h2.1)).trans2 (hf4.mut A) (fun _ h => h) (fun _ _ h => h)).trans2 u6 (fun _ h => h) (fun j _ e => by rw [e]; exact h3.1)
  refine ⟨⟨gd, gf, pp, _, Mf, Ap, (b5.keep hf4).mut u6 htd, ⟨.inl h2.1, h2.2⟩, ⟨.inl h3.1, h3.2⟩, ⟨.inl h4.1, h4.2⟩, h5, m6, ((f5.fresh hf4).mut u6 (fun e => h5 e.symm)).mono (by omega), h8, fun i l hi => ?_, fun i hi => ?_, fun k hk => .inl (h12 k hk), ((p5.fresh hf4).mut u6 (fun k hk e => h3.2 (e ▸ hk))).le (by omega)⟩, hmu⟩
  · unfold putT at hi
    simp only at hi
    by_cases e : i = d
    · rw [if_pos e] at hi
      injection hi with hi
      subst hi
      refine ⟨v4, if_pos e, ?_⟩
      rw [hl0]
      have o6 : OwnE w6 (fun g => W5.heap.size ≤ g) v4 _ := OwnA.mutB o4 u6 (fun g hg e => OwnA.neMap o4 hw4 (by rw [hg, e]))
      exact OwnA.mono o6 (fun g hg hh => ⟨.inr ⟨by omega, hg⟩, fun q => by have := hApl g q; omega⟩)
    · rw [if_neg e] at hi
      obtain ⟨v, hv, ho⟩ := o5 i l hi
      refine ⟨v, by rw [if_neg e]; exact hv, ?_⟩
      have oa : OwnE w4 _ v l := OwnA.fresh ho hf4
      have o6 : OwnE w6 _ v l := OwnA.mutB oa u6 (fun g hg e => OwnA.neMap oa hw4 (by rw [hg, e]))
      exact OwnA.mono o6 (fun g hg hh => ⟨.inl hh.1, hh.2⟩)
  · unfold putT at hi
    simp only at hi
    by_cases e : i = d
    · rw [if_pos e] at hi; cases hi
    · rw [if_neg e] at hi; rw [if_neg e]; exact h10 i hi
set_option maxRecDepth 100000 in
set_option maxHeartbeats 3200000 in
theorem tput_any (w : World) (A : Nat → Prop) (t : Nat) (T : TreS) (q : Nat) (h : TreeAt w A t T q) (d : Int) (hd : I64 d) (e : Ent) (hq : q ≤ 1000000) (hl : ∀ l, T.dirs d = some l → l.length ≤ 100000) (hn : 0 ≤ T.next ∧ T.next ≤ 1000000) : Calls Tryz.prog 342 #[.pointer (some ⟨t, 0, none⟩), .int .i64 d, entV e] w (PutPost A t (putT T d e) (q + 1) w) := by
  obtain ⟨gd, gf, pp, Md, Mf, Ap, hApl, h1, h2, h3, h4, h5, h6, h7, h8, h9, h10, h12, h11⟩ := h.open
  have HAP := Lib.hid hApl
  have HA2 := Lib.hid h12
  clear hApl h
  have c3 : w.cell? ⟨t, 3, none⟩ = some (.int .i64 T.next) := by rw [h1.cell]; rfl
  have htl := h1.lt
  have f3 : w.frozen? ⟨t, 3, none⟩ = false := h1.frozen 3
  have H1 := Lib.hid h1
  clear h1
  go_enter Tryz.func342, Tryz.ntmps342
  go_wp2_with fail
  obtain ⟨W5, hW5⟩ : ∃ W5, ((w.setCell ⟨t, 3, none⟩ (.int .i64 (T.next + 1))).alloc (.cells #[.string e.name, .int .i64 e.node, .bool e.dir, .int .i64 T.next, .int .i64 e.short] 88)) = W5 := ⟨_, rfl⟩
  have hs0 : (w.setCell ⟨t, 3, none⟩ (.int .i64 (T.next + 1))).heap.size = w.heap.size := by simp
  have u0 : Mut (fun j => j = t) w (w.setCell ⟨t, 3, none⟩ (.int .i64 (T.next + 1))) := (Mut.refl (fun j => j = t) w).setCell (p := ⟨t, 3, none⟩) (.inl rfl) _
  have u5 : Mut (fun j => j = t) w W5 := by rw [← hW5]; exact u0.alloc _
  have hs5 : W5.heap.size = w.heap.size + 1 := by rw [← hW5]; simp
  have B5 : Blk W5 t 159 #[.map (some gd), .map (some gf), .pointer (some ⟨pp, 0, none⟩), .int .i64 (T.next + 1)] := by rw [← hW5]; exact (H1.out.set (i := 3) (u := .int .i64 (T.next + 1))).keep ((Fresh.refl _).alloc _)
  have X5 : Blk W5 w.heap.size 88 #[.string e.name, .int .i64 e.node, .bool e.dir, .int .i64 T.next, .int .i64 e.short] := by rw [← hW5, ← hs0]; exact Blk.new _ _ _
  have M5 : MapAt W5 gd q Md := h6.mut u5 (fun e => by have := H1.out.neMap h6; omega)
  have F5 : MapAt W5 gf q Mf := h7.mut u5 (fun e => by have := H1.out.neMap h7; omega)
  have P5 : PoolAt W5 Ap pp T.fr T.bk T.out q := h11.mut u5 (fun k hk e => h2.2 (e ▸ hk))
  have O5 : ∀ i l, T.dirs i = some l → ∃ v, Md i = some v ∧ OwnE W5 (fun g => A g ∧ ¬ Ap g) v l := fun i l hi => by
    obtain ⟨v, hv, ho⟩ := h9 i l hi
    exact ⟨v, hv, OwnA.mutB ho u5 (fun g hg e => OwnA.ne ho H1.out (by decide) (by rw [hg, e]))⟩
  obtain ⟨l0, hl0⟩ : ∃ l0, (T.dirs d).getD [] = l0 := ⟨_, rfl⟩
  have hl1 : l0.length ≤ 100000 := by
    rw [← hl0]
    cases hT : T.dirs d with
    | none => simp
    | some l => exact hl l hT
  obtain ⟨a0, c0, hv0, ho0⟩ : ∃ a0 c0, (Md d).getD (.slice none 0 0) = .slice a0 l0.length c0 ∧ OwnE W5 (fun g => A g ∧ ¬ Ap g) (.slice a0 l0.length c0) l0 := by
    rw [← hl0]
    cases hT : T.dirs d with
    | none => exact ⟨none, 0, by rw [h10 d hT]; rfl, OwnA.nil _ _ _ _⟩
    | some l =>
      obtain ⟨v, hv, ho⟩ := O5 d l hT
      obtain ⟨a, c, rfl⟩ := ho.shape
      exact ⟨a, c, by rw [hv]; rfl, ho⟩
  have HCL : Hid (∀ W, Fresh W5 W → Calls Tryz.prog 78 #[.slice a0 l0.length c0] W fun e w' => ∃ a c, e = .returned (.slice a l0.length c) ∧ OwnE w' (fun g => W5.heap.size ≤ g) (.slice a l0.length c) l0 ∧ Fresh W w' ∧ Fresh W5 w') := Lib.hid (fun W hW => (cloneE_any _ _ l0 W ((OwnE.sl ho0).fresh hW) (by omega)).mono fun e w' ⟨v, he, ho, hf⟩ => by
    obtain ⟨a, c, rfl⟩ := ho.shape
    exact ⟨a, c, he, OwnA.mono ho (fun g _ hg => Nat.le_trans hW.size hg), hf, hW.trans hf⟩)
  have htl5 := B5.lt
  have hxl5 := X5.lt
  have HSP : Hid (∀ W, Fresh W5 W → W.cell? ⟨t, 0, none⟩ = some (.map (some gd)) ∧ W.cell? ⟨w.heap.size, 0, none⟩ = some (.string e.name) ∧ W.cell? ⟨w.heap.size, 1, none⟩ = some (.int .i64 e.node) ∧ W.cell? ⟨w.heap.size, 2, none⟩ = some (.bool e.dir) ∧ W.cell? ⟨w.heap.size, 3, none⟩ = some (.int .i64 T.next) ∧ W.cell? ⟨w.heap.size, 4, none⟩ = some (.int .i64 e.short)) := Lib.hid (fun W hW => by
    refine ⟨?_, ?_, ?_, ?_, ?_, ?_⟩
    · exact (Below.cell hW (p := ⟨t, 0, none⟩) htl5).trans (by rw [B5.cell]; rfl)
    · exact (Below.cell hW (p := ⟨w.heap.size, 0, none⟩) hxl5).trans (by rw [X5.cell]; rfl)
    · exact (Below.cell hW (p := ⟨w.heap.size, 1, none⟩) hxl5).trans (by rw [X5.cell]; rfl)
    · exact (Below.cell hW (p := ⟨w.heap.size, 2, none⟩) hxl5).trans (by rw [X5.cell]; rfl)
    · exact (Below.cell hW (p := ⟨w.heap.size, 3, none⟩) hxl5).trans (by rw [X5.cell]; rfl)
    · exact (Below.cell hW (p := ⟨w.heap.size, 4, none⟩) hxl5).trans (by rw [X5.cell]; rfl))
  have HLK : Hid (∀ W, Fresh W5 W → (Instr.lookup 155 (.map (some gd)) (.int .i64 d) false).run Tryz.prog W = .ok (.slice a0 l0.length c0) W) := Lib.hid (fun W hW => (M5.fresh hW).look Tryz.underlying155 zeroL hd hv0)
  have HSM : Hid (∀ W W', Fresh W5 W → Mut (fun j => j = gd) W W' → W'.cell? ⟨t, 0, none⟩ = some (.map (some gd)) ∧ W'.cell? ⟨w.heap.size, 0, none⟩ = some (.string e.name) ∧ W'.cell? ⟨w.heap.size, 1, none⟩ = some (.int .i64 e.node) ∧ W'.cell? ⟨w.heap.size, 2, none⟩ = some (.bool e.dir) ∧ W'.cell? ⟨w.heap.size, 3, none⟩ = some (.int .i64 T.next) ∧ W'.cell? ⟨w.heap.size, 4, none⟩ = some (.int .i64 e.short)) := Lib.hid (fun W W' hW hm => by
    obtain ⟨s0, s1, s2, s3, s4, s5⟩ := HSP.out W hW
    have n1 : t ≠ gd := B5.neMap M5
    have n2 : w.heap.size ≠ gd := X5.neMap M5
    have hz := hW.size
    exact ⟨(hm.cell (p := ⟨t, 0, none⟩) (by show t < _; omega) n1).trans s0, (hm.cell (p := ⟨w.heap.size, 0, none⟩) (by show w.heap.size < _; omega) n2).trans s1, (hm.cell (p := ⟨w.heap.size, 1, none⟩) (by show w.heap.size < _; omega) n2).trans s2, (hm.cell (p := ⟨w.heap.size, 2, none⟩) (by show w.heap.size < _; omega) n2).trans s3, (hm.cell (p := ⟨w.heap.size, 3, none⟩) (by show w.heap.size < _; omega) n2).trans s4, (hm.cell (p := ⟨w.heap.size, 4, none⟩) (by show w.heap.size < _; omega) n2).trans s5⟩)
  have k0 := HLK.out _ (Fresh.refl W5)
  have k1 := HLK.out _ (Fresh.refl W5).drew
  have k2 := HLK.out _ (Fresh.refl W5).drew.drew
  have k3 := fun X => HLK.out _ ((Fresh.refl W5).alloc X)
  have k4 := fun X => HLK.out _ ((Fresh.refl W5).drew.alloc X)
  have k5 := fun X => HLK.out _ ((Fresh.refl W5).alloc X).drew
  have k6 := fun X => HLK.out _ ((Fresh.refl W5).drew.alloc X).drew
  rw [hW5]
  have h0 := HSP.out W5 (Fresh.refl _)
  have PK := Lib.hid (And.intro B5 (And.intro M5 (And.intro F5 (And.intro P5 (And.intro O5 u5)))))
  have H8 := Lib.hid h8
  have H10 := Lib.hid h10
  have HS5 := Lib.hid hs5
  have HL0 := Lib.hid hl0
  clear hl0
  clear B5 X5 M5 F5 P5 O5 u5 u0 hs0 hW5 ho0 hv0 h6 h7 h8 h9 h10 h11 c3 f3 htl5 hxl5 hs5 h12
  go_region_held3 (fun W => W.cell? ⟨t, 0, none⟩ = some (.map (some gd)) ∧ W.cell? ⟨w.heap.size, 0, none⟩ = some (.string e.name) ∧ W.cell? ⟨w.heap.size, 1, none⟩ = some (.int .i64 e.node) ∧ W.cell? ⟨w.heap.size, 2, none⟩ = some (.bool e.dir) ∧ W.cell? ⟨w.heap.size, 3, none⟩ = some (.int .i64 T.next) ∧ W.cell? ⟨w.heap.size, 4, none⟩ = some (.int .i64 e.short)) (first | assumption | exact HSP.out _ (by repeat (first | assumption | exact Fresh.refl _ | refine Fresh.alloc ?_ _ | refine Fresh.drew ?_))) (first
    | (go_at_call 78; refine (HCL.out _ (by repeat (first | assumption | exact Fresh.refl _ | refine Fresh.alloc ?_ _ | refine Fresh.drew ?_))).mono ?_; rintro en wA ⟨aA, cA, rfl, hoA, hfA, hfA5⟩)
    | (refine step_append_ent rfl _ _ rfl (fun g => W5.heap.size ≤ g) _ l0 { e with cookie := T.next } _ rfl rfl (by first | exact hoA | exact OwnA.fresh hoA ((Fresh.refl _).alloc _)) (ec_new (e := { e with cookie := T.next }) (by first | exact Fresh.refl _ | exact hfA | exact hfA.undr | exact hfA.undr.undr)) hl1 ?_; intro a4 c4 w4 o4 u4; have hf4 : Fresh W5 w4 := Fresh.mut2 (by first | exact hfA5 | exact hfA5.alloc _) u4 (fun j hj => hoA.2 j hj); obtain ⟨w6, hrun6, m6, u6, z6⟩ := (PK.out.2.1.fresh hf4).storeRun Tryz.underlying155 (by omega) hd (.slice a4 (l0.length + 1) c4); have hs6 := HSM.out w4 w6 hf4 u6; have o5 : OwnE w4 (fun g => W5.heap.size ≤ g) (.slice a4 (l0.length + 1) c4) (l0 ++ [{ e with cookie := T.next }]) := OwnA.mono o4 (fun g _ hg => hg.elim id (fun q => Nat.le_trans (Fresh.size (by first | exact hfA5 | exact hfA5.alloc _)) q.1))))
  all_goals
    have HE := Lib.hid (put_fin HAP.out h2 h3 h4 h5 HA2.out HL0.out H8.out H10.out HS5.out PK.out hf4 o5 m6 u6)
    clear o4 u4 o5 m6 u6 hf4 hs6 hoA hfA hfA5 hrun6
    go_wp2
    go_end0
    exact ⟨_, rfl, HE.out.1, HE.out.2, Gr.ext _ _ _⟩
end Go.Proofs.YtpmlggjhfiljmaaGreatDoor
