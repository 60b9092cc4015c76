/- Part 24 of what the law rests on. -/
import Derived.ArgAppend
import Derived.ChangeAlike
import Derived.Test.YtpmlggjhfiljmaaGreatDoorL23
set_option linter.all false
namespace Go.Proofs.YtpmlggjhfiljmaaGreatDoor
open Go.RowKit
def fmF : List FuncId := [224, 224, 225, 226]
def fmB (p : Nat) (m : Int) : List (Array Value) := [#[hfv p 0 m], #[hfv p m m], #[.pointer (some ⟨p, 0, none⟩)], #[hfv p m m]]
def fmD (D : Int → ByteArray) (m : Int) : List (Int → ByteArray) := [D, upd D 0 (labS 0), upd (upd D 0 (labS 0)) m (labS 0), upd (upd D 0 (labS 0)) m (labS 0), upd (upd D 0 (labS 0)) m (labS 0)]
def fmQ (q : Nat) : List Nat := [q, q + 1, q + 1 + 1, q + 1 + 1, q + 1 + 1]
section
variable (F : Nat → Prop) (p : Nat) (n : Int) (D : Int → ByteArray) (q : Nat) (w : World)
theorem may_any (h : DevAt w F p n D q) (hn : 4 ≤ n) : Calls Tryz.prog 220 #[.pointer (some ⟨p, 0, none⟩)] w fun e w' => e = .returned (.int .i64 0) ∧ Fresh w w' := by
  have HG := Lib.hid (get_out F p n D q w h (-1) (by omega) (by omega))
  have HS := Lib.hid (fun W (hf : Fresh w W) => devSize_any F p n D q W (h.fresh hf))
  go_enter Tryz.func220, Tryz.ntmps220
  go_wp2_with fail
  refine HG.out.mono ?_
  rintro e w1 ⟨rfl, hf⟩
  go_wp2_with fail
  refine (HS.out _ hf).mono ?_
  rintro e w2 ⟨rfl, rfl⟩
  go_wp2
  go_ret
  exact ⟨rfl, hf⟩
set_option maxRecDepth 100000 in
set_option maxHeartbeats 1600000 in
theorem fm_steps (g : Nat) (m : Nat) (h : DevAt w F p n D q) (hF : ∀ k, F k → k ≠ g) (hg : g < w.heap.size) (hm1 : 1 ≤ m) (hm2 : (m : Int) + m ≤ n) (hn : n ≤ 1000000) (hq : q ≤ 10000) (hz : ∀ i, (m : Int) + 1 ≤ i → i < m + m → D i = zer 64)
    (c0 : w.cell? ⟨g, 0, none⟩ = some (.func (.func 224) #[.agg #[.pointer (some ⟨p, 0, none⟩), .int .i64 0, .int .i64 m]] #[])) (c1 : w.cell? ⟨g, 1, none⟩ = some (.func (.func 224) #[.agg #[.pointer (some ⟨p, 0, none⟩), .int .i64 m, .int .i64 m]] #[]))
    (c2 : w.cell? ⟨g, 2, none⟩ = some (.func (.func 225) #[.pointer (some ⟨p, 0, none⟩)] #[])) (c3 : w.cell? ⟨g, 3, none⟩ = some (.func (.func 226) #[.agg #[.pointer (some ⟨p, 0, none⟩), .int .i64 m, .int .i64 m]] #[])) :
    Calls Tryz.prog 223 #[.slice (some ⟨g, 0, none⟩) 4 4] w fun e' w' => e' = .returned (.int .i64 0) ∧ DI F p n w (upd (upd D 0 (labS 0)) m (labS 0)) (q + 1 + 1) w' := by
  refine all_steps 4 g 0 4 (fun i => fmF.getD i 0) (fun i => (fmB p m).getD i #[]) (fun i => #[]) (fun i V => DI F p n w ((fmD D m).getD i D) ((fmQ q).getD i 0) V) (by omega) ?_ ?_ ?_ w (DI.start h)
  · intro i V hi ⟨F', _, hm, _⟩
    rw [hm.cell (p := ⟨g, 0 + i, none⟩) hg (fun q => hF g q rfl)]
    rcases (by omega : i = 0 ∨ i = 1 ∨ i = 2 ∨ i = 3) with rfl | rfl | rfl | rfl
    · exact c0
    · exact c1
    · exact c2
    · exact c3
  · intro i hi
    rcases (by omega : i = 0 ∨ i = 1 ∨ i = 2 ∨ i = 3) with rfl | rfl | rfl | rfl
    · exact enters224
    · exact enters224
    · exact enters225
    · exact enters226
  · intro i V hi hI
    obtain ⟨F', hd', hm, hg⟩ := hI
    rcases (by omega : i = 0 ∨ i = 1 ∨ i = 2 ∨ i = 3) with rfl | rfl | rfl | rfl
    · exact (blank_any F' p n _ _ V hd' 0 m (by omega) hn (by show q ≤ _; omega)).mono fun _ _ h => (by have h2 := DI.post (D := D) (q := q) hm hg h; exact h2)
    · exact (blank_any F' p n _ _ V hd' m m (by omega) hn (by show q + 1 ≤ _; omega)).mono fun _ _ h => (by have h2 := DI.post (D := D) (q := q) hm hg h; exact h2)
    · exact (flush_any F' p n _ _ V hd').mono fun _ _ h => (by have h2 := DI.post (D := D) (q := q) hm hg h; exact h2)
    · refine (hwipe_any F' p n _ _ V hd' m m (by omega) hm2 hm1 hn fun i a b => ?_).mono fun _ _ h => (by have h2 := DI.fresh hd' hm hg h.2; exact ⟨h.1, h2⟩)
      show upd (upd D 0 (labS 0)) m (labS 0) i = _
      unfold upd
      rw [if_neg (by omega), if_neg (by omega)]
      exact hz i a b
def newD (img : ByteArray) (m : Int) : Int → ByteArray := upd (wrD (upd (upd (upd (fun _ => zer 64) 0 (labS 0)) m (labS 0)) 0 (labS 0)) (0 + 1) img (kfr img.size)) 0 (labS 1)
set_option maxRecDepth 100000 in
set_option maxHeartbeats 1600000 in
theorem format_new (m : Nat) (h : DevAt w F p n (fun _ => zer 64) 0) (hF : FB F w) (hm : n / 2 = m) (hm1 : 4 ≤ m) (hn : n ≤ 1000000) (r : ByteArray) (hr : 1 ≤ r.size) (hr2 : r.size ≤ 62) :
    Calls Tryz.prog 142 #[.pointer (some ⟨p, 0, none⟩), .string r] w (DevPost F p n (newD r m) 5 w (.int .i64 0)) := by
  have hk : kfr r.size = 1 := by unfold kfr; rw [if_neg (by omega)]; omega
  have HD := Lib.hid h
  have HM := Lib.hid (may_any F p n _ 0 w h (by omega))
  have HH := Lib.hid (fun W (hf : Fresh w W) => halves_any F p n _ 0 W (h.fresh hf) (by omega))
  rw [hm] at HH
  clear h
  go_enter Tryz.func142, Tryz.ntmps142
  go_wp2_with fail
  refine HM.out.mono ?_
  rintro e w1 ⟨rfl, hf1⟩
  go_wp2_with fail
  refine (HH.out _ hf1).mono ?_
  rintro e w2 ⟨rfl, hf2⟩
  have HF2 := Lib.hid (hf1.trans hf2)
  clear hf1 hf2
  go_wp2_with fail
  refine (fits_any p _ 0 m 1 r (by omega) (by omega) hr (by omega) (by omega)).mono ?_
  rintro e w3 ⟨rfl, hf3⟩
  have hc3 : ∀ b o, b < _ → w3.cell? ⟨b, o, none⟩ = _ := fun b o h => Below.cell hf3 (p := ⟨b, o, none⟩) h
  have HF3 := Lib.hid (HF2.out.trans (((Fresh.refl w2).alloc _).trans hf3))
  have hz3 := hf3.size
  simp only [World.size_alloc] at hz3
  go_wp2_with fail
  refine (fm_steps F p n _ 0 _ w3.heap.size m (by exact HD.out.fresh (HF3.out.alloc _)) (fun k hk e => by have := hF k hk; have := HF3.out.size; omega) (by simp) (by omega) (by omega) hn (by omega) (fun i _ _ => rfl) (by go_simp) (by go_simp) (by go_simp) (by go_simp)).mono ?_
  rintro e w4 ⟨rfl, F4, hd4, hm4, hg4⟩
  have hz4 := hm4.size
  simp only [World.size_alloc] at hz4
  have hF2 := HF2.out.size
  have hc4 : ∀ o, w4.cell? ⟨w2.heap.size, o, none⟩ = w3.cell? ⟨w2.heap.size, o, none⟩ := fun o => (hm4.cell (p := ⟨w2.heap.size, o, none⟩) (by simp; omega) (fun q => by have := hF _ q; simp at this; omega)).trans (World.cell?_alloc_past _ _ _ (by omega))
  have hFB4 : FB F4 w4 := FB.gr (hF.later (by simp; omega)) hg4 hm4.size
  have HB := Lib.hid (begin_any F4 p n _ (0 + 1 + 1) w4 hd4 hFB4 0 m 1 r (by omega) (by omega) (by omega) hn hr (by omega) (by omega) (by omega) (by omega) (by omega) (fun i h1 h2 => by unfold upd; rw [if_neg (by omega), if_neg (by omega)]))
  have HFIN : Hid (∀ (e : Ending) (w' : World), DevPost F4 p n (upd (wrD (upd (upd (upd (fun _ => zer 64) 0 (labS 0)) m (labS 0)) 0 (labS 0)) (0 + 1) r (kfr r.size)) 0 (labS 1)) (0 + 1 + 1 + 1 + kfr r.size + 1) w4 (.int .i64 0) e w' → DevPost F p n (newD r m) 5 w (.int .i64 0) e w') := Lib.hid (fun e w' hp => by
    obtain ⟨he, F5, hd5, hm5, hg5⟩ := hp
    have h5 : 0 + 1 + 1 + 1 + kfr r.size + 1 = 5 := by omega
    rw [h5] at hd5
    refine ⟨he, F5, hd5, Fresh.andMut (HF3.out.alloc _) (hm4.trans2 hm5 (fun _ h => h) (fun j hj h => (hg4 j h).elim id (fun q => absurd q.1 (by omega)))), ((hg4.trans hg5 hm4.size hm5.size).ahead (by have := HF3.out.size; simp; omega))⟩)
  unfold hfv at HB
  clear hd4 hm4 hg4
  go_wp2_with fail
  refine HB.out.mono ?_
  intro e w5 hp
  have HR := Lib.hid (HFIN.out e w5 hp)
  obtain ⟨rfl, _⟩ := hp
  go_wp2
  go_ret
  exact HR.out
end
end Go.Proofs.YtpmlggjhfiljmaaGreatDoor
namespace Go.Proofs.YtpmlggjhfiljmaaGreatDoor
open Go.RowKit
def RecOK (w : World) (F : Nat → Prop) (v : Value) (k : Nat) : Prop :=
  ∃ a c, v = .slice a k c ∧ k ≤ c ∧ (c = 0 ∨ ∃ g off cs, a = some ⟨g, off, none⟩ ∧ F g ∧ w.heap[g]? = some (.cells cs 9 (0, 0)) ∧ off + c ≤ cs.size)
theorem RecOK.mut {S F : Nat → Prop} {w w' : World} {v : Value} {k : Nat} (h : RecOK w F v k) (hf : Mut S w w') (hn : ∀ g, F g → ¬ S g) : RecOK w' F v k := by
  obtain ⟨a, c, rfl, hk, h⟩ := h
  refine ⟨a, c, rfl, hk, h.imp id ?_⟩
  rintro ⟨g, off, cs, e, hF, hg, hs⟩
  have hlt : g < w.heap.size := by
    rcases Nat.lt_or_ge g w.heap.size with q | q
    · exact q
    · rw [Array.getElem?_eq_none q] at hg; cases hg
  exact ⟨g, off, cs, e, hF, (hf.block g hlt (hn g hF)).trans hg, hs⟩
theorem RecOK.mono {F F' : Nat → Prop} {w : World} {v : Value} {k : Nat} (h : RecOK w F v k) (hF : ∀ g, g < w.heap.size → F g → F' g) : RecOK w F' v k := by
  obtain ⟨a, c, rfl, hk, h⟩ := h
  refine ⟨a, c, rfl, hk, h.imp id ?_⟩
  rintro ⟨g, off, cs, e, hF1, hg, hs⟩
  have hlt : g < w.heap.size := by
    rcases Nat.lt_or_ge g w.heap.size with q | q
    · exact q
    · rw [Array.getElem?_eq_none q] at hg; cases hg
  exact ⟨g, off, cs, e, hF g hlt hF1, hg, hs⟩
theorem RecOK.fresh {F : Nat → Prop} {w w' : World} {v : Value} {k : Nat} (h : RecOK w F v k) (hf : Fresh w w') : RecOK w' F v k := h.mut (hf.mut fun _ => False) (fun _ _ q => q)
theorem RecOK.ofOwn {w : World} {F : Nat → Prop} {v : Value} {l : List ByteArray} (h : OwnL w F v l) : RecOK w F v l.length := by
  obtain ⟨h1, hF⟩ := h
  obtain ⟨_, ⟨rfl, hn⟩ | ⟨g, cap, cur, rfl, _, hg, hc1, _, hcs, _⟩⟩ := h1
  · rw [hn]; exact ⟨none, 0, rfl, Nat.le_refl _, .inl rfl⟩
  · exact ⟨_, cap, rfl, hc1, .inr ⟨g, 0, cur, rfl, hF g rfl, hg, by omega⟩⟩
theorem wpList_append_rec (w : World) {ops : Array Oper} {rest : List Oper} {o : Oper} {a : Act} {Q : Exit → Act → World → Prop} (hgd : o.guard = none) (s x : Operand)
    (ho : o.op = .call { callee := .builtin .append, args := #[s, x], argTypes := #[38, 38] })
    (F : Nat → Prop) (v : Value) (k : Nat) (hs : a.eval s = v) (h : RecOK w F v k) (g0 : Nat) (b : ByteArray) (hx : a.eval x = .slice (some ⟨g0, 0, none⟩) 1 1) (hc : w.cell? ⟨g0, 0, none⟩ = some (.string b)) (hk : k ≤ 1000000)
    (hK : ∀ a' c' w', RecOK w' (ext F w w') (.slice a' (k + 1) c') (k + 1) → Mut F w w' → wpList Tryz.prog ops Q rest (a.put o.dst (.slice a' (k + 1) c')) w') : wpList Tryz.prog ops Q (o :: rest) a w := by
  obtain ⟨i0, hi0, hz0, hz1, hz2⟩ := info_partsG infoStr
  have hnews : ∀ j u, [Value.string b][j]? = some u → w.cell? ((⟨g0, 0, none⟩ : Addr).add j) = some u := by
    intro j u hj
    cases j with
    | zero => rw [Addr.add_lit]; simp at hj; subst hj; exact hc
    | succ j => simp at hj
  have h1 : ∀ u ∈ [Value.string b], u.oneCell' = true := by intro u hu; simp at hu; subst hu; rfl
  obtain ⟨aa, c, rfl, hkc, hrec⟩ := h
  have grows : ∀ (v' : Value) (w' : World), w'.ownsRow w.heap.size 9 1 v' (k + 1) (([] : List Value)) ∨ True → True := fun _ _ _ => trivial
  by_cases hroom : k + 1 ≤ c
  · rcases hrec with rfl | ⟨g, off, cs, rfl, hF, hg, hsz⟩
    · omega
    · have hcell : ∀ j, j < 1 → (w.cell? ⟨g, off + k * i0.size + j, none⟩).isSome = true ∧ w.frozen? ⟨g, off + k * i0.size + j, none⟩ = false := by
        intro j hj
        rw [hz1, Nat.mul_one]
        constructor
        · simp only [World.cell?, hg]
          rw [Array.getElem?_eq_getElem (by omega)]
          rfl
        · simp [World.frozen?, hg]
      have hrun := run_append_room_cells (P := Tryz.prog) w 38 o.type 9 i0 Tryz.underlying38 hi0 g off k c ⟨g0, 0, none⟩ 1 1 [.string b] (by rw [hz1]; rfl) hnews h1 hroom (fun j hj => (hcell j hj).1) (fun j hj => (hcell j hj).2)
      refine wpList_plain hgd fun K hK' => ?_
      unfold Oper.wp
      simp [execOp, ho, resolve, invoke, builtin, hs, hx, hrun, Result.andThen]
      have hset : w.setCells g (off + k * i0.size) [.string b] = w.setCell ⟨g, off + k * i0.size, none⟩ (.string b) := rfl
      refine hK' _ _ (hK _ _ _ ⟨_, _, rfl, hroom, .inr ⟨g, off, cs.setIfInBounds (off + k * i0.size) (.string b), rfl, .inl hF, ?_, by rw [Array.size_setIfInBounds]; exact hsz⟩⟩ ?_)
      · rw [hset]
        simp [World.setCell, Array.getElem?_modify, hg]
      · rw [hset]
        exact (Mut.refl F w).setCell (p := ⟨g, off + k * i0.size, none⟩) (.inl hF) _
  · have hck : c = k := by omega
    subst hck
    cases aa with
    | none =>
      have hc0 : c = 0 := by
        rcases hrec with h | ⟨g, off, cs, e, _⟩
        · exact h
        · cases e
      subst hc0
      refine wpList_append_own2 w hgd s x 38 ho 0 9 i0 _ 1 16 Tryz.underlying38 hi0 hz0 hz1 hz2 rfl (by decide) (.slice none 0 0) 0 [] hs (World.ownsRow_nil _ _ _ _) ⟨g0, 0, none⟩ 1 1 [.string b] hx rfl hnews h1 (by unfold maxLen; omega) (by omega) (Nat.zero_le _) fun v' w' r1 r2 r3 => ?_
      have ho : OwnL w' (ext F w w') v' [b] := ⟨r1, fun g hg => (r3 g hg).elim (fun q => by cases q) (fun q => .inr ⟨q, (r1.lt g hg).2⟩)⟩
      obtain ⟨a', c', e, hr⟩ := RecOK.ofOwn ho
      subst e
      exact hK _ _ _ ⟨_, _, rfl, hr⟩ ⟨r2.os, r2.tape, r2.output, r2.size, fun j hj _ => r2.block j hj (by simp [Value.ownBlock])⟩
    | some ad =>
      have holds : ∃ olds : List Value, olds.length = c ∧ ∀ j u, olds[j]? = some u → w.cell? (ad.add j) = some u := by
        rcases hrec with h | ⟨g, off, cs, e, _, hg, hsz⟩
        · exact ⟨[], by simp [h], by simp⟩
        · injection e with e
          subst e
          refine ⟨(cs.toList.drop off).take c, by simp; omega, fun j u hj => ?_⟩
          rw [Addr.add_lit]
          simp only [World.cell?, hg]
          rw [List.getElem?_take] at hj
          split at hj
          · rw [List.getElem?_drop] at hj
            simpa using hj
          · cases hj
      obtain ⟨olds, hol, hold⟩ := holds
      obtain ⟨v', w', hrun, r1, r2⟩ := run_append_arg_grows (P := Tryz.prog) w 38 o.type 9 i0 _ 1 16 Tryz.underlying38 hi0 hz0 hz1 hz2 rfl (by decide) ad c c olds (by omega) hold ⟨g0, 0, none⟩ 1 1 [.string b] rfl hnews (by omega) (by unfold maxLen; omega) (by omega)
      refine wpList_plain hgd fun K hK' => ?_
      unfold Oper.wp
      simp [execOp, ho, resolve, invoke, builtin, hs, hx, hrun, Result.andThen]
      have hr : RecOK w' (ext F w w') v' (c + 1) := by
        obtain ⟨_, ⟨_, hn⟩ | ⟨g, cap, cur, rfl, hb, hg, hc1, _, hcs, _⟩⟩ := r1
        · omega
        · exact ⟨_, cap, rfl, hc1, .inr ⟨g, 0, cur, rfl, .inr ⟨hb, by
            rcases Nat.lt_or_ge g w'.heap.size with q | q
            · exact q
            · rw [Array.getElem?_eq_none q] at hg; cases hg⟩, hg, by omega⟩⟩
      obtain ⟨a', c', e, hr⟩ := hr
      subst e
      exact hK' _ _ (hK _ _ _ ⟨_, _, rfl, hr⟩ ⟨r2.os, r2.tape, r2.output, r2.size, fun j hj _ => r2.block j hj (by simp)⟩)
def VltAt (w : World) (F : Nat → Prop) (v p : Nat) (m n : Int) (img : ByteArray) (t k q : Nat) : Prop :=
  ∃ Fd rv D, Blk w v 332 #[.pointer (some ⟨p, 0, none⟩), .int .i64 0, .int .i64 m, .pointer (some ⟨p, 0, none⟩), .int .i64 m, .int .i64 m, .int .u64 1, .int .i64 t, .string img, rv, .bool false] ∧
    F v ∧ (∀ j, Fd j → F j) ∧ ¬ Fd v ∧ DevAt w Fd p n D q ∧ RecOK w (fun g => F g ∧ ¬ Fd g ∧ g ≠ v) rv k ∧ FB F w
theorem VltAt.mut {S F : Nat → Prop} {w w' : World} {v p : Nat} {m n : Int} {img : ByteArray} {t k q : Nat} (h : VltAt w F v p m n img t k q) (hf : Mut S w w') (hn : ∀ j, F j → ¬ S j) : VltAt w' F v p m n img t k q := by
  obtain ⟨Fd, rv, D, h1, h2, h3, h4, h5, h6, h7⟩ := h
  exact ⟨Fd, rv, D, h1.mut hf (hn _ h2), h2, h3, h4, h5.mut hf (fun j hj => hn j (h3 j hj)), h6.mut hf (fun j hj => hn j hj.1), h7.later hf.size⟩
theorem VltAt.fresh {F : Nat → Prop} {w w' : World} {v p : Nat} {m n : Int} {img : ByteArray} {t k q : Nat} (h : VltAt w F v p m n img t k q) (hf : Fresh w w') : VltAt w' F v p m n img t k q := h.mut (hf.mut fun _ => False) (fun _ _ q => q)
def VltPost (F : Nat → Prop) (v p : Nat) (m n : Int) (img : ByteArray) (t k q : Nat) (w : World) (r : Value) (e : Ending) (w' : World) : Prop := e = .returned r ∧ ∃ F', VltAt w' F' v p m n img t k q ∧ Mut F w w' ∧ Gr F w w' F'
open Go.RowKit
theorem OwnL.one {w : World} {A : Nat → Prop} {v : Value} {b : ByteArray} (h : OwnL w A v [b]) : ∃ g cap cs, v = .slice (some ⟨g, 0, none⟩) 1 cap ∧ 1 ≤ cap ∧ A g ∧ g < w.heap.size ∧ w.cell? ⟨g, 0, none⟩ = some (.string b) ∧ w.heap[g]? = some (.cells cs 9 (0, 0)) ∧ cap ≤ cs.size := by
  have hsl := h.sl
  obtain ⟨h1, hA⟩ := h
  obtain ⟨_, ⟨rfl, hn⟩ | ⟨g, cap, cur, rfl, _, hg, hc1, _, hcs, _⟩⟩ := h1
  · cases hn
  · obtain ⟨g', off, cap', e, hcap, hA', hg', hc⟩ := hsl.cons
    injection e with e1 e2 e3
    injection e1 with e1
    injection e1 with e1 e4
    subst e1 e3 e4
    exact ⟨g, cap, cur, rfl, hcap, hA', hg', hc, hg, by omega⟩
def OpenPost (F : Nat → Prop) (p : Nat) (m n : Int) (img : ByteArray) (q : Nat) (w : World) (e : Ending) (w' : World) : Prop :=
  ∃ v F', e = .returned (.tuple #[.pointer (some ⟨v, 0, none⟩), .int .i64 0]) ∧ VltAt w' F' v p m n img 2 0 q ∧ Mut F w w' ∧ Gr F w w' F'
theorem Fresh.undrew {w w' : World} (h : Fresh w.drew w') : Fresh w w' := ⟨h.os, h.tape, h.output, h.size, h.block⟩
abbrev openW (w5 : World) (v : Nat) (img : ByteArray) (rv : Value) : World := (((w5.setCell ⟨v, 7, none⟩ (.int .i64 2)).setCell ⟨v, 8, none⟩ (.string img)).setCell ⟨v, 9, none⟩ rv).drew
theorem open_mid {F : Nat → Prop} {w w5 : World} {v p : Nat} {m : Int} {img : ByteArray} {rv : Value} (hv : w.heap.size ≤ v) (b5 : Blk w5 v 332 #[.pointer (some ⟨p, 0, none⟩), .int .i64 0, .int .i64 m, .pointer (some ⟨p, 0, none⟩), .int .i64 m, .int .i64 m, .int .u64 1, .int .i64 0, .string ⟨#[]⟩, .slice none 0 0, .bool false]) (hf5 : Fresh w w5) (hr : RecOK w5 (fun g => v + 1 ≤ g) rv 0) :
    Blk (openW w5 v img rv) v 332 #[.pointer (some ⟨p, 0, none⟩), .int .i64 0, .int .i64 m, .pointer (some ⟨p, 0, none⟩), .int .i64 m, .int .i64 m, .int .u64 1, .int .i64 2, .string img, rv, .bool false] ∧ Fresh w (openW w5 v img rv) ∧ RecOK (openW w5 v img rv) (fun g => v + 1 ≤ g) rv 0 := by
  refine ⟨((b5.set (i := 7) (u := .int .i64 2)).set (i := 8) (u := .string img)).set (i := 9) (u := rv), (((hf5.setCell (p := ⟨v, 7, none⟩) hv _).setCell (p := ⟨v, 8, none⟩) hv _).setCell (p := ⟨v, 9, none⟩) hv _).drew, ?_⟩
  refine hr.mut (S := fun k => k = v) ((((Mut.refl (fun k => k = v) w5).setCell (p := ⟨v, 7, none⟩) (.inl rfl) _).setCell (p := ⟨v, 8, none⟩) (.inl rfl) _).setCell (p := ⟨v, 9, none⟩) (.inl rfl) _).drew fun g hg e => by omega
theorem open_close {F F' : Nat → Prop} {w W6 w7 w8 : World} {v p : Nat} {m n : Int} {D : Int → ByteArray} {q : Nat} {img : ByteArray} {rv : Value} (hF : FB F w) (hv : w.heap.size ≤ v) (b6 : Blk W6 v 332 #[.pointer (some ⟨p, 0, none⟩), .int .i64 0, .int .i64 m, .pointer (some ⟨p, 0, none⟩), .int .i64 m, .int .i64 m, .int .u64 1, .int .i64 2, .string img, rv, .bool false])
    (hf6 : Fresh w W6) (hr : RecOK W6 (fun g => v + 1 ≤ g) rv 0) (hf7 : Fresh W6 w7) (hm : Mut F w7 w8) (hg : Gr F w7 w8 F') (hd : DevAt w8 F' p n D q) : OpenPost F p m n img q w (.returned (.tuple #[.pointer (some ⟨v, 0, none⟩), .int .i64 0])) w8 := by
  have hv7 : v < w7.heap.size := Nat.lt_of_lt_of_le b6.lt hf7.size
  have hFn : ∀ k, w.heap.size ≤ k → ¬ F k := fun k hk h => by have := hF k h; omega
  have hw7 := hf6.size
  have hw77 := hf7.size
  have hw8 := hm.size
  have hF'n : ∀ k, w.heap.size ≤ k → k < w7.heap.size → ¬ F' k := fun k hk hk2 h => (hg k h).elim (hFn k hk) (fun q => by omega)
  have hr7 := hr.fresh hf7
  refine ⟨v, ext F w w8, rfl, ⟨F', rv, D, (b6.keep hf7).mut hm (hFn v hv), .inr ⟨hv, by omega⟩, fun j hj => ?_, hF'n v hv hv7, hd, ?_, fun k hk => ?_⟩, (hf6.trans hf7).andMut hm, Gr.ext _ _ _⟩
  · exact (hg j hj).elim .inl (fun q => .inr ⟨by omega, q.2⟩)
  · refine (hr7.mono (F' := fun g => w.heap.size ≤ g ∧ v + 1 ≤ g ∧ g < w7.heap.size) (fun g hg1 hg2 => ⟨by omega, hg2, hg1⟩)).mut hm (fun g hg => hFn g hg.1) |>.mono fun g hg1 hg2 => ⟨.inr ⟨hg2.1, by omega⟩, hF'n g hg2.1 hg2.2.2, by omega⟩
  · exact hk.elim (fun q => by have := hF k q; omega) (fun q => q.2)
section
variable (F : Nat → Prop) (p : Nat) (n : Int) (D : Int → ByteArray) (q : Nat) (w : World)
set_option maxRecDepth 100000 in
set_option maxHeartbeats 3200000 in
theorem open_new (m : Nat) (h : DevAt w F p n D q) (hF : FB F w) (hm : n / 2 = m) (hm1 : 4 ≤ m) (hn : n ≤ 1000000) (img : ByteArray) (hr : 1 ≤ img.size) (hr2 : img.size ≤ 62) (d0 : D 0 = labS 1) (dm : D m = labS 0) (d1 : D 1 = frS img) (dz : ∀ i : Int, 2 ≤ i → i < m → D i = zer 64) :
    Calls Tryz.prog 174 #[.pointer (some ⟨p, 0, none⟩)] w (OpenPost F p m n img q w) := by
  have HD := Lib.hid h
  have HM := Lib.hid (may_any F p n _ q w h (by omega))
  have HH := Lib.hid (fun W (hf : Fresh w W) => halves_any F p n _ q W (h.fresh hf) (by omega))
  rw [hm] at HH
  have HE0 := Lib.hid (fun W (hf : Fresh w W) => epoch_any F p n D q W (h.fresh hf) 0 1 (by omega) hn (.inr rfl) d0)
  have HEm := Lib.hid (fun W (hf : Fresh w W) => epoch_any F p n D q W (h.fresh hf) m 0 (by omega) hn (.inl rfl) dm)
  have HSC := Lib.hid (fun W (hf : Fresh w W) => scan_new F p n D q W (h.fresh hf) 0 m (by omega) (by omega) hn (by omega) img hr hr2 (by rw [show (0 : Int) + 1 = 1 from rfl]; exact d1) (by rw [show (0 : Int) + 2 = 2 from rfl]; exact dz 2 (by omega) (by omega)))
  have HWP := Lib.hid (fun W (hf : Fresh w W) => wipe_zero F p n D q W (h.fresh hf) 0 m 2 (by omega) (by omega) (by omega) hn (by omega) (by omega) (fun i a b => dz i (by omega) (by omega)))
  have HFL := Lib.hid (fun W (hf : Fresh w W) => flush_any F p n D q W (h.fresh hf))
  clear h d0 dm d1 dz hm
  go_enter Tryz.func174, Tryz.ntmps174
  go_wp2_with fail
  refine HM.out.mono ?_
  rintro e w1 ⟨rfl, hf1⟩
  go_wp2_with fail
  refine (HH.out _ hf1).mono ?_
  rintro e w2 ⟨rfl, hf2⟩
  have HF2 := Lib.hid (hf1.trans hf2)
  clear hf1 hf2
  go_wp2_with fail
  refine (HE0.out _ (by exact HF2.out.alloc _)).mono ?_
  rintro e w3 ⟨rfl, hf3⟩
  have hc3 : ∀ o, w3.cell? ⟨w2.heap.size, o, none⟩ = _ := fun o => Below.cell hf3 (p := ⟨w2.heap.size, o, none⟩) (by simp)
  have HF3 := Lib.hid (HF2.out.trans (((Fresh.refl w2).alloc _).trans hf3))
  have hz3 := hf3.size
  simp only [World.size_alloc] at hz3
  go_wp2_with fail
  refine (HEm.out _ (by exact HF3.out)).mono ?_
  rintro e w4 ⟨rfl, hf4⟩
  have hc4 : ∀ o, w4.cell? ⟨w2.heap.size, o, none⟩ = w3.cell? ⟨w2.heap.size, o, none⟩ := fun o => Below.cell hf4 (p := ⟨w2.heap.size, o, none⟩) hz3
  have HF4 := Lib.hid (HF3.out.trans hf4)
  have hz4 := hf4.size
  clear hf3 hf4
  go_wp2_with fail
  go_region_law (first
      | (go_simp; go_at_call 259; refine (HSC.out _ (by repeat (first | exact HF4.out | refine Fresh.drew ?_ | refine Fresh.alloc ?_ _))).mono ?_; rintro e w5 ⟨vs, rfl, hown5, hf5⟩; obtain ⟨g, cap, cs, rfl, hcap, hgA, hgl, hgc, hgh, hgs⟩ := hown5.one; have hb5 : Blk w5 w4.heap.size 332 _ := Blk.keep (Blk.new w4 _ _) (by first | exact hf5 | exact hf5.undrew); have hc5 : ∀ o, w5.cell? ⟨w4.heap.size, o, none⟩ = _ := fun o => Below.cell hf5 (p := ⟨w4.heap.size, o, none⟩) (by simp); have hfz5 : ∀ o, w5.frozen? ⟨w4.heap.size, o, none⟩ = _ := fun o => Below.frozen hf5 (p := ⟨w4.heap.size, o, none⟩) (by simp)))
  all_goals
    have HF5 : Hid (Fresh w w5) := Lib.hid (Fresh.trans (by repeat (first | exact HF4.out | refine Fresh.drew ?_ | refine Fresh.alloc ?_ _)) hf5)
    have hv0 : w.heap.size ≤ w4.heap.size := HF4.out.size
    have hgA2 : w4.heap.size + 1 ≤ g := by simpa using hgA
    have HMID := Lib.hid (fun rv hr => open_mid (F := F) (w := w) (w5 := w5) (v := w4.heap.size) (p := p) (m := m) (img := img) (rv := rv) hv0 hb5 HF5.out hr)
    have HR1 : Hid (RecOK w5 (fun g => w4.heap.size + 1 ≤ g) (.slice (some ⟨g, 0, none⟩) 0 0) 0) := Lib.hid ⟨_, 0, rfl, Nat.le_refl _, .inl rfl⟩
    have HR2 : Hid (RecOK w5 (fun g => w4.heap.size + 1 ≤ g) (.slice (some ⟨g, 1, none⟩) 0 (cap - 1)) 0) := Lib.hid ⟨_, _, rfl, Nat.zero_le _, .inr ⟨g, 1, cs, rfl, hgA2, hgh, by omega⟩⟩
    clear hown5 hf5 hgh hgs hb5 hgA hgA2
    go_wp2_with fail
    by_cases hcc : cap = 1
    · subst hcc
      go_region_law (fail)
      all_goals
        obtain ⟨b6, f6, r6⟩ := HMID.out _ HR1.out
        obtain ⟨W6, hW6⟩ : ∃ W6, openW w5 w4.heap.size img (.slice (some ⟨g, 0, none⟩) 0 0) = W6 := ⟨_, rfl⟩
        unfold openW at hW6
        rw [hW6]
        unfold openW at b6 f6 r6
        rw [hW6] at b6 f6 r6
        clear hW6
        have e1 : W6.cell? ⟨w4.heap.size, 1, none⟩ = some (.int .i64 0) := by rw [b6.cell]; rfl
        have e2 : W6.cell? ⟨w4.heap.size, 2, none⟩ = some (.int .i64 m) := by rw [b6.cell]; rfl
        have HC := Lib.hid (fun F' w7 w8 h1 h2 h3 h4 => open_close (F' := F') (w7 := w7) (w8 := w8) (n := n) (D := D) (q := q) hF hv0 b6 f6 r6 h1 h2 h3 h4)
        have H6 := Lib.hid f6
        clear b6 f6 r6 hc5 hfz5 hgc HMID HR1 HR2
        go_wp2_with fail
        go_region_law (first
          | (go_simp; go_at_call 260; refine (HWP.out _ (by repeat (first | exact H6.out | refine Fresh.drew ?_))).mono ?_; rintro e w7 ⟨rfl, hf7⟩))
        all_goals
          have hf77 : Fresh W6 w7 := by first | exact hf7 | exact hf7.undrew
          have HF7 := Lib.hid hf77
          clear hf7 hf77
          go_wp2_with fail
          refine (HFL.out _ (by repeat (first | exact H6.out.trans HF7.out | refine Fresh.drew ?_))).mono ?_
          rintro e w8 ⟨rfl, F', hd, hm, hg⟩
          have HZ := Lib.hid (HC.out F' _ w8 (by repeat (first | exact HF7.out | refine Fresh.drew ?_)) hm hg hd)
          clear hd hm hg
          go_wp2
          go_ret2
          exact HZ.out
    · skip
      go_region_law (fail)
      all_goals
        obtain ⟨b6, f6, r6⟩ := HMID.out _ HR2.out
        obtain ⟨W6, hW6⟩ : ∃ W6, openW w5 w4.heap.size img (.slice (some ⟨g, 1, none⟩) 0 (cap - 1)) = W6 := ⟨_, rfl⟩
        unfold openW at hW6
        rw [hW6]
        unfold openW at b6 f6 r6
        rw [hW6] at b6 f6 r6
        clear hW6
        have e1 : W6.cell? ⟨w4.heap.size, 1, none⟩ = some (.int .i64 0) := by rw [b6.cell]; rfl
        have e2 : W6.cell? ⟨w4.heap.size, 2, none⟩ = some (.int .i64 m) := by rw [b6.cell]; rfl
        have HC := Lib.hid (fun F' w7 w8 h1 h2 h3 h4 => open_close (F' := F') (w7 := w7) (w8 := w8) (n := n) (D := D) (q := q) hF hv0 b6 f6 r6 h1 h2 h3 h4)
        have H6 := Lib.hid f6
        clear b6 f6 r6 hc5 hfz5 hgc HMID HR1 HR2
        go_wp2_with fail
        go_region_law (first
          | (go_simp; go_at_call 260; refine (HWP.out _ (by repeat (first | exact H6.out | refine Fresh.drew ?_))).mono ?_; rintro e w7 ⟨rfl, hf7⟩))
        all_goals
          have hf77 : Fresh W6 w7 := by first | exact hf7 | exact hf7.undrew
          have HF7 := Lib.hid hf77
          clear hf7 hf77
          go_wp2_with fail
          refine (HFL.out _ (by repeat (first | exact H6.out.trans HF7.out | refine Fresh.drew ?_))).mono ?_
          rintro e w8 ⟨rfl, F', hd, hm, hg⟩
          have HZ := Lib.hid (HC.out F' _ w8 (by repeat (first | exact HF7.out | refine Fresh.drew ?_)) hm hg hd)
          clear hd hm hg
          go_wp2
          go_ret2
          exact HZ.out
end
end Go.Proofs.YtpmlggjhfiljmaaGreatDoor
namespace Go.Proofs.YtpmlggjhfiljmaaGreatDoor
open Go.RowKit
theorem vappend_close {F Fd Fd' : Nat → Prop} {w w3 w5 : World} {v p : Nat} {m n : Int} {img r : ByteArray} {t t' k q' : Nat} {x : Int} (hx : x = (t' : Int)) {D' : Int → ByteArray} {rv : Value} {a' : Option Addr} {c' : Nat}
    (b3 : Blk w3 v 332 #[.pointer (some ⟨p, 0, none⟩), .int .i64 0, .int .i64 m, .pointer (some ⟨p, 0, none⟩), .int .i64 m, .int .i64 m, .int .u64 1, .int .i64 t, .string img, rv, .bool false])
    (h2 : F v) (h3 : ∀ j, Fd j → F j) (h4 : ¬ Fd v) (h7 : FB F w) (hd3 : DevAt w3 Fd' p n D' q') (hm3 : Mut Fd w w3) (hg3 : Gr Fd w w3 Fd')
    (o5 : RecOK w5 (ext (fun g => F g ∧ ¬ Fd g ∧ g ≠ v) ((w3.setCell ⟨v, 7, none⟩ (.int .i64 x)).alloc (.cells #[.string r] 9)) w5) (.slice a' (k + 1) c') (k + 1)) (u5 : Mut (fun g => F g ∧ ¬ Fd g ∧ g ≠ v) ((w3.setCell ⟨v, 7, none⟩ (.int .i64 x)).alloc (.cells #[.string r] 9)) w5) :
    VltPost F v p m n img t' (k + 1) q' w (.int .i64 0) (.returned (.int .i64 0)) (w5.setCell ⟨v, 9, none⟩ (.slice a' (k + 1) c')) := by
  have hvl := h7 v h2
  have hFd' : ∀ j, Fd' j → j < w3.heap.size ∧ (F j ∨ w.heap.size ≤ j) ∧ j ≠ v := fun j hj => by
    rcases hg3 j hj with q | q
    · have := h7 j (h3 j q)
      exact ⟨Nat.lt_of_lt_of_le this hm3.size, .inl (h3 j q), fun e => h4 (e ▸ q)⟩
    · exact ⟨q.2, .inr q.1, fun e => by omega⟩
  have hdj : ∀ j, Fd' j → ¬ (F j ∧ ¬ Fd j ∧ j ≠ v) := fun j hj hx => by
    rcases hg3 j hj with q | q
    · exact hx.2.1 q
    · have := h7 j hx.1; omega
  have u37 : Mut (fun j => j = v) w3 ((w3.setCell ⟨v, 7, none⟩ (.int .i64 x)).alloc (.cells #[.string r] 9)) := ((Mut.refl (fun j => j = v) w3).setCell (p := ⟨v, 7, none⟩) (.inl rfl) _).alloc _
  have u6 : Mut (fun j => j = v) w5 (w5.setCell ⟨v, 9, none⟩ (.slice a' (k + 1) c')) := (Mut.refl (fun j => j = v) w5).setCell (p := ⟨v, 9, none⟩) (.inl rfl) _
  have hs4 : ((w3.setCell ⟨v, 7, none⟩ (.int .i64 x)).alloc (.cells #[.string r] 9)).heap.size = w3.heap.size + 1 := by simp [World.setCell]
  have hs6 : (w5.setCell ⟨v, 9, none⟩ (.slice a' (k + 1) c')).heap.size = w5.heap.size := by simp [World.setCell]
  have hs5 := u5.size
  have hs3 := hm3.size
  have b6 := ((((b3.set (i := 7) (u := .int .i64 x)).keep ((Fresh.refl _).alloc (.cells #[.string r] 9))).mut u5 (fun (q : F v ∧ ¬ Fd v ∧ v ≠ v) => q.2.2 rfl)).set (i := 9) (u := .slice a' (k + 1) c'))
  rw [hx] at b6
  have uA : Mut F w (w5.setCell ⟨v, 9, none⟩ (.slice a' (k + 1) c')) := by
    refine Mut.trans2 (S := F) (T := fun j => j = v) ?_ u6 (fun _ h => h) (fun j _ e => by rw [e]; exact h2)
    refine Mut.trans2 (S := F) (T := fun g => F g ∧ ¬ Fd g ∧ g ≠ v) ?_ u5 (fun _ h => h) (fun j _ h => h.1)
    exact Mut.trans2 (S := Fd) (T := fun j => j = v) hm3 u37 h3 (fun j _ e => by rw [e]; exact h2)
  refine ⟨rfl, ext F w (w5.setCell ⟨v, 9, none⟩ (.slice a' (k + 1) c')), ⟨Fd', _, D', b6, .inl h2, fun j hj => ?_, fun h => (hFd' v h).2.2 rfl, ?_, ?_, fun j hj => ?_⟩, uA, Gr.ext _ _ _⟩
  · obtain ⟨q1, q2, _⟩ := hFd' j hj
    exact q2.elim .inl (fun q => .inr ⟨q, by rw [hs6]; omega⟩)
  · exact ((hd3.mut u37 (fun j hj e => (hFd' j hj).2.2 e)).mut u5 hdj).mut u6 (fun j hj e => (hFd' j hj).2.2 e)
  · refine (o5.mut (S := fun j => j = v) u6 (fun g hg e => ?_)).mono fun g hgl hg => ?_
    · rcases hg with q | q
      · exact q.2.2 e
      · rw [hs4] at q; omega
    · rcases hg with q | q
      · exact ⟨.inl q.1, fun h => hdj g h q, q.2.2⟩
      · rw [hs4] at q
        exact ⟨.inr ⟨by omega, by rw [hs6]; exact q.2⟩, fun h => by have := (hFd' g h).1; omega, by omega⟩
  · rcases hj with q | q
    · have := h7 j q; rw [hs6]; omega
    · exact q.2
section
variable (F : Nat → Prop) (v p : Nat) (m n : Int) (img : ByteArray) (t k q : Nat) (w : World)
theorem image_any (h : VltAt w F v p m n img t k q) : Calls Tryz.prog 176 #[.pointer (some ⟨v, 0, none⟩)] w fun e w' => e = .returned (.string img) ∧ w = w' := by
  obtain ⟨Fd, rv, D, h1, h2, h3, h4, h5, h6, h7⟩ := h
  have c0 : w.cell? ⟨v, 8, none⟩ = some (.string img) := by rw [h1.cell]; rfl
  clear h1 h5 h6 h7
  go_enter Tryz.func176, Tryz.ntmps176
  go_wp2
  go_ret
  exact ⟨rfl, rfl⟩
theorem over_any (h : VltAt w F v p m n img t k q) : Calls Tryz.prog 181 #[.pointer (some ⟨v, 0, none⟩)] w fun e w' => e = .returned (.bool false) ∧ w = w' := by
  obtain ⟨Fd, rv, D, h1, h2, h3, h4, h5, h6, h7⟩ := h
  have c0 : w.cell? ⟨v, 10, none⟩ = some (.bool false) := by rw [h1.cell]; rfl
  clear h1 h5 h6 h7
  go_enter Tryz.func181, Tryz.ntmps181
  go_wp2
  go_ret
  exact ⟨rfl, rfl⟩
theorem records_none (h : VltAt w F v p m n img t 0 q) : Calls Tryz.prog 178 #[.pointer (some ⟨v, 0, none⟩)] w fun e w' => (∃ a c, e = .returned (.slice a 0 c)) ∧ Fresh w w' := by
  obtain ⟨Fd, rv, D, h1, h2, h3, h4, h5, h6, h7⟩ := h
  have c0 : w.cell? ⟨v, 9, none⟩ = some rv := by rw [h1.cell]; rfl
  obtain ⟨a, c, rfl, _, _⟩ := h6
  clear h1 h5 h7
  go_enter Tryz.func178, Tryz.ntmps178
  go_wp2_with fail
  cases a with
  | none =>
    refine (Tryz.slices_Clone_string_nil 0 c w).mono ?_
    rintro e w1 ⟨rfl, rfl⟩
    go_wp2
    go_ret
    exact ⟨⟨_, _, rfl⟩, Fresh.refl _⟩
  | some a =>
    refine (Tryz.slices_Clone_string_zero a c w).mono ?_
    rintro e w1 ⟨v', rfl, hown, _, hf⟩
    have hv : ∃ a c, v' = .slice a 0 c := by
      obtain ⟨_, ⟨rfl, _⟩ | ⟨g, cap, cur, rfl, _⟩⟩ := hown
      · exact ⟨_, _, rfl⟩
      · exact ⟨_, _, rfl⟩
    obtain ⟨a', c', rfl⟩ := hv
    clear hown
    go_wp2
    go_ret
    exact ⟨⟨_, _, rfl⟩, hf⟩
set_option maxRecDepth 100000 in
set_option maxHeartbeats 3200000 in
theorem vappend_any (h : VltAt w F v p m n img t k q) (r : ByteArray) (hm : 0 ≤ m ∧ m + m ≤ n) (hn : n ≤ 1000000) (ht : 1 ≤ t) (hr : 1 ≤ r.size) (hr2 : r.size ≤ 60000) (hfit : (t : Int) + kfr r.size ≤ m) (hq : q + kfr r.size ≤ 80000) (hk : k ≤ 1000000) :
    Calls Tryz.prog 187 #[.pointer (some ⟨v, 0, none⟩), .string r] w (VltPost F v p m n img (t + kfr r.size) (k + 1) (q + kfr r.size) w (.int .i64 0)) := by
  obtain ⟨Fd, rv, D, h1, h2, h3, h4, h5, h6, h7⟩ := h
  have c0 : w.cell? ⟨v, 0, none⟩ = some (.pointer (some ⟨p, 0, none⟩)) := by rw [h1.cell]; rfl
  have c1 : w.cell? ⟨v, 1, none⟩ = some (.int .i64 0) := by rw [h1.cell]; rfl
  have c2 : w.cell? ⟨v, 2, none⟩ = some (.int .i64 m) := by rw [h1.cell]; rfl
  have c7 : w.cell? ⟨v, 7, none⟩ = some (.int .i64 t) := by rw [h1.cell]; rfl
  have c10 : w.cell? ⟨v, 10, none⟩ = some (.bool false) := by rw [h1.cell]; rfl
  have hvl := h1.lt
  have HFT := Lib.hid (fun W => fits_any p W 0 m t r (by omega) (by omega) hr hr2 hfit)
  unfold hfv at HFT
  have HWR := Lib.hid (fun W (hf : Fresh w W) => hwrite_any Fd p n D q W (h5.fresh hf) 0 m t r (by omega) (by omega) (by omega) hn (by omega) hr hr2 hfit (by omega))
  unfold hfv at HWR
  have H1 := Lib.hid h1
  have H6 := Lib.hid h6
  clear h1 h5 h6
  go_enter Tryz.func187, Tryz.ntmps187
  go_wp2_with fail
  go_region_law (first
    | (go_simp; go_at_call 222; refine (HFT.out _).mono ?_; rintro e w2 ⟨rfl, hf2⟩))
  all_goals
    have hf22 : Fresh w w2 := by first | exact hf2 | exact hf2.undrew
    have HF2 := Lib.hid hf22
    have hc2 : ∀ o, w2.cell? ⟨v, o, none⟩ = w.cell? ⟨v, o, none⟩ := fun o => Below.cell hf22 (p := ⟨v, o, none⟩) hvl
    have d0 := (hc2 0).trans c0
    have d1 := (hc2 1).trans c1
    have d2 := (hc2 2).trans c2
    have d7 := (hc2 7).trans c7
    clear hf2 hf22 hc2
    go_wp2_with fail
    go_region_law (first
      | (go_simp; go_at_call 276; refine (HWR.out _ (by repeat (first | exact HF2.out | refine Fresh.drew ?_))).mono ?_; rintro e w3 ⟨rfl, Fd', hd3, hm3, hg3⟩))
    all_goals
      have hm33 : Mut Fd w2 w3 := by first | exact hm3 | exact ⟨hm3.os, hm3.tape, hm3.output, hm3.size, hm3.block⟩
      have hg33 : Gr Fd w2 w3 Fd' := hg3
      have b3 := (H1.out.keep HF2.out).mut hm33 h4
      have r3 := (H6.out.fresh HF2.out).mut hm33 (fun g hg => hg.2.1)
      have e7 : w3.cell? ⟨v, 7, none⟩ = some (.int .i64 t) := by rw [b3.cell]; rfl
      have e9 : w3.cell? ⟨v, 9, none⟩ = some rv := by rw [b3.cell]; rfl
      have g7 : w3.frozen? ⟨v, 7, none⟩ = false := b3.frozen 7
      have g9 : w3.frozen? ⟨v, 9, none⟩ = false := b3.frozen 9
      have hvl3 := b3.lt
      have HCL := Lib.hid (fun w5 a' c' o5 u5 => vappend_close (r := r) (w5 := w5) (k := k) (t' := t + kfr r.size) (a' := a') (c' := c') (x := (t : Int) + kfr r.size) (by omega) b3 h2 h3 h4 h7 hd3 (HF2.out.andMut hm33) (hg33.ahead HF2.out.size) o5 u5)
      have HU : Hid (Mut (fun j => j = v) w3 ((w3.setCell ⟨v, 7, none⟩ (.int .i64 ((t : Int) + kfr r.size))).alloc (.cells #[.string r] 9))) := Lib.hid (((Mut.refl (fun j => j = v) w3).setCell (p := ⟨v, 7, none⟩) (.inl rfl) _).alloc _)
      have HR3 := Lib.hid r3
      clear hd3 hm3 hg3 hm33 hg33 b3 r3
      go_wp2_with (at_builtin; go_loud (refine wpList_append_rec _ rfl _ _ rfl (fun g => F g ∧ ¬ Fd g ∧ g ≠ v) rv k rfl (HR3.out.mut HU.out (fun g hg => hg.2.2)) w3.heap.size r rfl (by go_simp) hk ?_; intro a' c' w5 o5 u5; have e9' : w5.cell? ⟨v, 9, none⟩ = some rv := (u5.cell (p := ⟨v, 9, none⟩) (by simp [World.setCell]; omega) (fun q => q.2.2 rfl)).trans (by go_simp); have g9' : w5.frozen? ⟨v, 9, none⟩ = false := (u5.frozen (p := ⟨v, 9, none⟩) (by simp [World.setCell]; omega) (fun q => q.2.2 rfl)).trans (by go_simp); have HZ := Lib.hid (HCL.out w5 a' c' o5 u5); clear o5 u5))
      go_ret
      exact HZ.out
end
end Go.Proofs.YtpmlggjhfiljmaaGreatDoor
