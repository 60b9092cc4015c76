/- Part 17 of what the law rests on. -/
import Derived.Test.YtpmlggjhfiljmaaGreatDoorL16
set_option linter.all false
namespace Go.Proofs.YtpmlggjhfiljmaaGreatDoor
open Go.RowKit
def Flushes (jf : Value) (J : List Int → List Int) : Prop := (∀ o, (J o).length ≤ o.length) ∧ ∀ (gw : Nat) (out : ByteArray) (o : List Int) (w : World), o.length ≤ 100000 → In32 o → out.size ≤ 10000000 → WrAt w gw out o jf →
  Calls Tryz.prog 110 #[.pointer (some ⟨gw, 0, none⟩)] w (WrPost gw w (out ++ joinS (J o)) [] jf)
theorem flushesA : Flushes jfA id := ⟨fun _ => Nat.le_refl _, fun gw out o w h1 _ h3 h4 => flushA_any gw out o w h1 h3 h4⟩
theorem flushesT : Flushes jfT tog := ⟨tog_len2, fun gw out o w h1 h2 h3 h4 => flushT_any gw out o w h1 h2 h3 h4⟩
theorem WrAt.mut {S : Nat → Prop} {w w' : World} {gw : Nat} {out : ByteArray} {o : List Int} {jf : Value} (h : WrAt w gw out o jf) (hf : Mut S w w') (hn : ∀ k, gw ≤ k → ¬ S k) : WrAt w' gw out o jf := by
  obtain ⟨v, h1, h2⟩ := h
  exact ⟨v, h1.mut hf (hn gw (Nat.le_refl _)), h2.mut hf fun k hk => hn k (by omega)⟩
theorem WrAt.fresh {w w' : World} {gw : Nat} {out : ByteArray} {o : List Int} {jf : Value} (h : WrAt w gw out o jf) (hf : Fresh w w') : WrAt w' gw out o jf := h.mut (hf.mut fun _ => False) (fun _ _ q => q)
theorem WrAt.set {w w' : World} {gw : Nat} {out : ByteArray} {o : List Int} {jf : Value} (h : WrAt w gw out o jf) (hf : Fresh w w') (out' : ByteArray) : WrAt (w'.setCell ⟨gw, 0, none⟩ (.string out')) gw out' o jf := by
  obtain ⟨v, h1, h2⟩ := h.fresh hf
  exact ⟨v, h1.set (i := 0) (u := .string out'), h2.mut ((Mut.refl (fun k => k = gw) _).setCell (p := ⟨gw, 0, none⟩) (.inl rfl) _) fun k hk => by omega⟩
theorem partcells (w : World) (p : Part) (n : Int) : Blk (w.alloc (.cells #[.int .i32 p.1, .int .i64 n, .string p.2.1, .bool p.2.2] 121)) w.heap.size 121 #[.int .i32 p.1, .int .i64 n, .string p.2.1, .bool p.2.2] := Blk.new _ _ _
theorem wr_keep4 {w w4 : World} {gw b1 : Nat} {a b : Value} (hg : gw < w.heap.size) (hb : b1 < w.heap.size) (c0 : w.cell? ⟨gw, 0, none⟩ = some a) (c1 : w.cell? ⟨b1, 2, none⟩ = some b) (f0 : w.frozen? ⟨gw, 0, none⟩ = false) (h : Fresh w.drew w4) :
    Fresh w w4 ∧ w4.cell? ⟨gw, 0, none⟩ = some a ∧ w4.cell? ⟨b1, 2, none⟩ = some b ∧ w4.frozen? ⟨gw, 0, none⟩ = false :=
  ⟨(Fresh.refl _).drew.trans h, (Below.cell h (p := ⟨gw, 0, none⟩) hg).trans c0, (Below.cell h (p := ⟨b1, 2, none⟩) hb).trans c1, (Below.frozen h (p := ⟨gw, 0, none⟩) hg).trans f0⟩
set_option maxHeartbeats 3200000 in
set_option maxRecDepth 100000 in
theorem hide_any (jf : Value) (J : List Int → List Int) (HF : Flushes jf J) (gw : Nat) (out : ByteArray) (o : List Int) (p : Part) (n : Int) (w : World) (ho : o.length ≤ 100000) (h32 : In32 o) (hs : out.size ≤ 10000000) (hp : p.2.1.size ≤ 100000) (h : WrAt w gw out o jf) :
    Calls Tryz.prog 109 #[.pointer (some ⟨gw, 0, none⟩), partV p n] w (WrPost gw w (out ++ joinS (J o) ++ joinS (esc p.2.1)) [] jf) := by
  obtain ⟨r, b, l⟩ := p
  unfold partV
  simp only at hp ⊢
  have hbx := partcells w (r, b, l) n
  simp only at hbx
  have hg : gw < w.heap.size := by obtain ⟨v, h1, _⟩ := h; exact h1.lt
  have HX := Lib.hid (HF.2 gw out o (w.alloc (.cells #[.int .i32 r, .int .i64 n, .string b, .bool l] 121)) ho h32 hs (h.fresh ((Fresh.refl _).alloc _)))
  have hjl := HF.1 o
  have hjs := joinS_sz2 (o := J o) (by omega)
  generalize hout : out ++ joinS (J o) = out1 at HX ⊢
  have hs1 : out1.size ≤ 10400000 := by rw [← hout, ByteArray.size_append]; omega
  have hes := joinS_size (esc b)
  rw [esc_len] at hes
  have HE := Lib.hid (fun W => escaped_any b hp W)
  generalize joinS (esc b) = E at HE hes ⊢
  have hns : ¬ 9223372036854775807 < out1.size + E.size := by omega
  clear hout hjs hjl HF h
  go_enter Tryz.func109, Tryz.ntmps109
  go_wp2_with fail
  refine HX.out.mono ?_
  rintro e w1 ⟨rfl, hat, hm⟩
  have HA := Lib.hid hat
  obtain ⟨v, hblk, hown⟩ := hat
  have hg1 := hblk.lt
  have c0 : w1.cell? ⟨gw, 0, none⟩ = some (.string out1) := by rw [hblk.cell]; rfl
  have f0 : w1.frozen? ⟨gw, 0, none⟩ = false := hblk.frozen 0
  have hb1 := hbx.mut hm (by show ¬ _ = gw; omega)
  have hbl1 := hb1.lt
  have c1 : w1.cell? ⟨w.heap.size, 2, none⟩ = some (.string b) := by rw [hb1.cell]; rfl
  clear hblk hown hb1 hbx
  go_wp2_with fail
  go_region_law (first
      | (go_simp; go_at_call 161; refine (HE.out _).mono ?_; rintro e w4 ⟨rfl, h4⟩; obtain ⟨h5, d0, d1, e0⟩ := wr_keep4 hg1 hbl1 c0 c1 f0 h4))
  all_goals
    have hd := HA.out.set h5 (out1 ++ E)
    have hf : Mut (fun k => k = gw) w (w4.setCell ⟨gw, 0, none⟩ (.string (out1 ++ E))) := (((((Fresh.refl w).alloc _).andMut hm).andFresh h5).setCell (p := ⟨gw, 0, none⟩) (.inl rfl) _)
    go_wp2
    go_end0
    exact ⟨rfl, hd, hf⟩
open Go.RowKit
def ShPost (gw : Nat) (w : World) (out : ByteArray) (o : List Int) (jf : Value) (e : Ending) (w' : World) : Prop := e = .returned (.tuple #[]) ∧ WrAt w' gw out o jf ∧ Below gw w w'
theorem WrPost.sh {gw : Nat} {w : World} {out : ByteArray} {o : List Int} {jf : Value} {e : Ending} {w' : World} (hg : gw ≤ w.heap.size) (h : WrPost gw w out o jf e w') : ShPost gw w out o jf e w' :=
  ⟨h.1, h.2.1, h.2.2.below hg fun k hk q => by have : k = gw := q; omega⟩
theorem own_slice {w : World} {B : Nat} {e : TypeId} {size : Nat} {v : Value} {n : Nat} {xs : List Value} (h : w.ownsRow B e size v n xs) (hn : 0 < n) : ∃ g cap, v = .slice (some ⟨g, 0, none⟩) n cap := by
  obtain ⟨_, ⟨_, h0⟩ | ⟨g, cap, cur, hv, _⟩⟩ := h
  · omega
  · exact ⟨g, cap, hv⟩
theorem show_keep {W W2 W' : World} {gw : Nat} {o : Obj} {v : Value} {xs : List Int} {cs : Array Value} (h1 : Blk W gw 115 cs) (h2 : OwnR W (gw + 1) v xs) (hf : Fresh (W.alloc o) W2) (hg : W2.grownBy W' v.ownBlock) : Blk W' gw 115 cs := by
  have h3 := (h1.keep ((Fresh.refl _).alloc o)).keep hf
  exact (hg.block gw h3.lt (fun e => by have := (h2.lt gw e.symm).1; omega)).trans h3
theorem show_below {w W W2 W' : World} {gw : Nat} {o : Obj} {v : Value} {xs : List Int} (h1 : Below gw w W) (hgw : gw < W.heap.size) (h2 : OwnR W (gw + 1) v xs) (hf : Fresh (W.alloc o) W2) (hg : W2.grownBy W' v.ownBlock) : Below gw w W' := by
  have h3 : Below gw w W2 := (h1.alloc (by omega) o).trans (hf.below.mono (by simp; omega))
  exact h3.grown hg (by have := hf.size; simp at this; omega) fun k hk => by have := (h2.lt k hk).1; omega
set_option maxHeartbeats 3200000 in
set_option maxRecDepth 100000 in
theorem show_any (jf : Value) (gw : Nat) (out : ByteArray) (o : List Int) (p : Part) (n : Int) (w : World) (ho : o.length ≤ 100000) (h : WrAt w gw out o jf) :
    Calls Tryz.prog 54 #[.pointer (some ⟨gw, 0, none⟩), partV p n] w (ShPost gw w out (o ++ [p.1]) jf) := by
  obtain ⟨i0, hi0, hz0, hz1, hz2⟩ := info_parts info32
  obtain ⟨r, b, l⟩ := p
  unfold partV
  simp only
  obtain ⟨v, hblk, hown⟩ := h
  have hg := hblk.lt
  have hblk1 := hblk.keep ((Fresh.refl w).alloc (.cells #[.int .i32 r, .int .i64 n, .string b, .bool l] 121))
  have hown1 := hown.keep ((Fresh.refl w).alloc (.cells #[.int .i32 r, .int .i64 n, .string b, .bool l] 121))
  have c1 : w.cell? ⟨gw, 1, none⟩ = some v := by rw [hblk.cell]; rfl
  have HB := Lib.hid hblk1
  have HO := Lib.hid hown1
  have hown3 := hown1
  unfold OwnR at hown3
  clear hblk hown hblk1 hown1
  go_enter Tryz.func54, Tryz.ntmps54
  go_wp2_with fail
  go_region_law (refine step_append_new rfl (.tmp 8) (.tmp 12) 50 rfl (w.alloc (.cells #[.int .i32 r, .int .i64 n, .string b, .bool l] 121)) (gw + 1) 21 i0 (.int .i32 0) 1 4 Tryz.underlying50 hi0 hz0 hz1 hz2 rfl (by decide) _ _ _ hown3 1 [.int .i32 r] rfl (by intro u hu; simp at hu; subst hu; rfl) (by unfold maxLen; omega) (by omega) (by simp; omega) (by simp [Act.eval, Act.put]) (by simp [Act.eval, Act.put]) (by repeat (first | exact Fresh.refl _ | refine Fresh.drew ?_)) ?_; intro v' w' hown' hgrow hblk; obtain ⟨g', cap', rfl⟩ := own_slice hown' (by omega); have hb2 := show_keep HB.out HO.out (by repeat (first | exact Fresh.refl _ | refine Fresh.drew ?_)) hgrow; have d1 : w'.cell? ⟨gw, 1, none⟩ = some v := (by rw [hb2.cell]; rfl); have e1 : w'.frozen? ⟨gw, 1, none⟩ = false := hb2.frozen 1)
  all_goals
    have hbel := show_below (w := w) ((Below.refl gw w).alloc (by omega) _) (by simp; omega) HO.out (by repeat (first | exact Fresh.refl _ | refine Fresh.drew ?_)) hgrow
    have hbe2 := hbel.setCell (p := ⟨gw, 1, none⟩) (Nat.le_refl _) (.slice (some ⟨g', 0, none⟩) (o.length + 1) cap')
    have hat : WrAt (w'.setCell ⟨gw, 1, none⟩ (.slice (some ⟨g', 0, none⟩) (o.length + 1) cap')) gw out (o ++ [r]) jf := ⟨_, hb2.set (i := 1), OwnR.mut (OwnR.push hown') ((Mut.refl (fun k => k = gw) _).setCell (p := ⟨gw, 1, none⟩) (.inl rfl) _) fun k hk q => by omega⟩
    go_wp2
    go_end0
    exact ⟨rfl, hat, hbe2⟩
open Go.RowKit
def stO (J : List Int → List Int) (hid : Bool) (out : ByteArray) (o : List Int) (p : Part) : ByteArray := if hid = true then out ++ joinS (J o) ++ joinS (esc p.2.1) else out
def stL (hid : Bool) (o : List Int) (p : Part) : List Int := if hid = true then [] else o ++ [p.1]
theorem WrAt.slice {w : World} {gw : Nat} {out : ByteArray} {o : List Int} {jf : Value} (h : WrAt w gw out o jf) : ∃ a cap, Blk w gw 115 #[.string out, .slice a o.length cap, jf] := by
  obtain ⟨v, h1, h2⟩ := h
  obtain ⟨h3, ⟨rfl, h4⟩ | ⟨g, cap, cur, rfl, _⟩⟩ := h2
  · exact ⟨none, 0, by rw [h4]; exact h1⟩
  · exact ⟨_, _, h1⟩
set_option maxHeartbeats 3200000 in
set_option maxRecDepth 100000 in
theorem mark_any (jf : Value) (J : List Int → List Int) (HF : Flushes jf J) (gw : Nat) (out : ByteArray) (o : List Int) (p : Part) (n : Int) (w : World) (ho : o.length ≤ 100000) (h32 : In32 o) (hs : out.size ≤ 10000000) (hp : p.2.1.size ≤ 100000) (h : WrAt w gw out o jf) :
    Calls Tryz.prog 57 #[.pointer (some ⟨gw, 0, none⟩), partV p n] w (ShPost gw w (stO J (o.isEmpty && decide (clsI p.1 ≠ 0)) out o p) (stL (o.isEmpty && decide (clsI p.1 ≠ 0)) o p) jf) := by
  have h1 := h.fresh ((Fresh.refl w).alloc (.cells #[.int .i32 p.1, .int .i64 n, .string p.2.1, .bool p.2.2] 121))
  have HH := Lib.hid (hide_any jf J HF gw out o p n _ ho h32 hs hp h1)
  have HS := Lib.hid (show_any jf gw out o p n _ ho h1)
  obtain ⟨a, cap, hblk⟩ := h.slice
  have hg := hblk.lt
  have c1 : w.cell? ⟨gw, 1, none⟩ = some (.slice a o.length cap) := by rw [hblk.cell]; rfl
  have hF1 : Below gw w (w.alloc (.cells #[.int .i32 p.1, .int .i64 n, .string p.2.1, .bool p.2.2] 121)) := (Below.refl gw w).alloc (by omega) _
  have HF1 := Lib.hid hF1
  obtain ⟨r, b, l⟩ := p
  unfold partV at HH HS ⊢
  simp only at HH HS HF1 ⊢
  clear h h1 hblk HF hF1
  cases o with
  | nil =>
    simp only [List.length_nil] at c1
    by_cases hc : clsI r = 0
    · have e1 : ((([] : List Int).isEmpty) && decide (clsI r ≠ 0)) = false := by simp [hc]
      rw [e1]
      clear e1
      go_enter Tryz.func57, Tryz.ntmps57
      go_wp2_with (first | (go_at_call 25; refine (class_any _ _).mono ?_; rw [hc]; rintro e w9 ⟨rfl, rfl⟩))
      refine HS.out.mono ?_
      rintro e w1 ⟨rfl, hat, hm⟩
      go_wp2
      go_end0
      exact ⟨rfl, hat, HF1.out.trans hm⟩
    · have e1 : ((([] : List Int).isEmpty) && decide (clsI r ≠ 0)) = true := by simp [hc]
      rw [e1]
      clear e1
      have hcb : (clsI r == 0) = false := by simp [hc]
      generalize hcc : clsI r = c at hcb hc
      have HC := Lib.hid hcc
      clear hcc
      go_enter Tryz.func57, Tryz.ntmps57
      go_wp2_with (first | (go_at_call 25; refine (class_any _ _).mono ?_; rw [HC.out]; rintro e w9 ⟨rfl, rfl⟩))
      refine HH.out.mono ?_
      intro e w1 hpost
      obtain ⟨rfl, hat, hm⟩ := hpost.sh (by simp; omega)
      go_wp2
      go_end0
      exact ⟨rfl, hat, HF1.out.trans hm⟩
  | cons x o =>
    have e1 : (((x :: o).isEmpty) && decide (clsI r ≠ 0)) = false := by simp
    rw [e1]
    clear e1
    have hz : (((x :: o).length : Int) == 0) = false := by simp; omega
    generalize (x :: o).length = m at c1 hz
    go_enter Tryz.func57, Tryz.ntmps57
    go_wp2_with fail
    refine HS.out.mono ?_
    rintro e w1 ⟨rfl, hat, hm⟩
    go_wp2
    go_end0
    exact ⟨rfl, hat, HF1.out.trans hm⟩
open Go.RowKit
theorem prL_step (J : List Int → List Int) (hid : Part → Bool) (mk : Bool) (out : ByteArray) (p : Part) (ps : List Part) (o : List Int) {c : Bool} (hc : (hid p || (mk && o.isEmpty && decide (clsI p.1 ≠ 0))) = c) :
    out ++ joinS (prL J hid mk (p :: ps) o) = stO J c out o p ++ joinS (prL J hid mk ps (stL c o p)) := by
  rw [prL, hc]
  cases c with
  | true => rw [if_pos rfl]; unfold stO stL; rw [if_pos rfl, if_pos rfl, joinS_append, joinS_append]; simp only [ByteArray.append_assoc]
  | false => rw [if_neg (by simp)]; unfold stO stL; rw [if_neg (by simp), if_neg (by simp)]
theorem stL_len (c : Bool) (o : List Int) (p : Part) : (stL c o p).length ≤ o.length + 1 := by unfold stL; split <;> simp
theorem stL_in32 (c : Bool) {o : List Int} {p : Part} (h : In32 o) (hp : -2147483648 ≤ p.1 ∧ p.1 < 2147483648) : In32 (stL c o p) := by
  unfold stL
  split
  · intro x hx; cases hx
  · intro x hx
    rcases List.mem_append.1 hx with q | q
    · exact h x q
    · simp at q; rw [q]; exact hp
def SlT (w : World) (B : Nat) (v : Value) (xs : List PN) : Prop := (xs = [] ∧ ∃ a cap, v = .slice a 0 cap) ∨ (0 < xs.length ∧ ∃ g cap, v = .slice (some ⟨g, 0, none⟩) xs.length cap ∧ g < B ∧
  ∀ j (hj : j < xs.length), w.cell? ⟨g, j * 4, none⟩ = some (.int .i32 (xs[j]).1.1) ∧ w.cell? ⟨g, j * 4 + 1, none⟩ = some (.int .i64 (xs[j]).2) ∧ w.cell? ⟨g, j * 4 + 2, none⟩ = some (.string (xs[j]).1.2.1) ∧ w.cell? ⟨g, j * 4 + 3, none⟩ = some (.bool (xs[j]).1.2.2))
theorem OwnT.sl {w : World} {B : Nat} {v : Value} {xs : List PN} (h : OwnT w B v xs) : SlT w w.heap.size v xs := by
  have h0 := h
  obtain ⟨h1, h2 | ⟨g, cap, cur, hv, hb, hh, h3⟩⟩ := h
  · obtain ⟨hv, hn⟩ := h2
    have : xs = [] := List.eq_nil_of_length_eq_zero hn
    subst this
    exact .inl ⟨rfl, none, 0, hv⟩
  · by_cases hz : 0 < xs.length
    · refine .inr ⟨hz, g, cap, hv, ?_, fun j hj => ?_⟩
      · rcases Nat.lt_or_ge g w.heap.size with q | q
        · exact q
        · rw [Array.getElem?_eq_none q] at hh; cases hh
      · subst hv
        have e0 := World.ownsRow.cellAt h0 (j * 4) (by omega)
        have e1 := World.ownsRow.cellAt h0 (j * 4 + 1) (by omega)
        have e2 := World.ownsRow.cellAt h0 (j * 4 + 2) (by omega)
        have e3 := World.ownsRow.cellAt h0 (j * 4 + 3) (by omega)
        have g0 := ptcs_get xs j hj 0 (by omega)
        have g1 := ptcs_get xs j hj 1 (by omega)
        have g2 := ptcs_get xs j hj 2 (by omega)
        have g3 := ptcs_get xs j hj 3 (by omega)
        rw [show j * 4 + 0 = j * 4 by omega] at g0
        rw [e0, g0, e1, g1, e2, g2, e3, g3]
        exact ⟨rfl, rfl, rfl, rfl⟩
    · have : xs = [] := List.eq_nil_of_length_eq_zero (by omega)
      subst this
      exact .inl ⟨rfl, _, _, hv⟩
theorem SlT.below {w w' : World} {B : Nat} {v : Value} {xs : List PN} (h : SlT w B v xs) (hf : Below B w w') : SlT w' B v xs := by
  rcases h with h | ⟨h0, g, cap, hv, hg, hc⟩
  · exact .inl h
  · refine .inr ⟨h0, g, cap, hv, hg, fun j hj => ?_⟩
    rw [Below.cell hf (p := ⟨g, j * 4, none⟩) hg, Below.cell hf (p := ⟨g, j * 4 + 1, none⟩) hg, Below.cell hf (p := ⟨g, j * 4 + 2, none⟩) hg, Below.cell hf (p := ⟨g, j * 4 + 3, none⟩) hg]
    exact hc j hj
def Enters (f : FuncId) : Prop := ∀ (args : Array Value) (w : World), Sem.run Tryz.prog (callFunc f args) w = .ok (.enter f args) w
theorem enters_hidden : Enters 53 := by intro args w; go_simp
theorem enters_strange : Enters 56 := by intro args w; go_simp
theorem enters_show : Enters 54 := by intro args w; go_simp
theorem enters_mark : Enters 57 := by intro args w; go_simp
def HidFn (fh : FuncId) (hid : Part → Bool) : Prop := ∀ (p : Part) (n : Int) (w : World), -2147483648 ≤ p.1 ∧ p.1 < 2147483648 → Calls Tryz.prog fh #[partV p n] w fun e w' => e = .returned (.bool (hid p)) ∧ Fresh w w'
def ShowFn (fs : FuncId) (jf : Value) (J : List Int → List Int) (mk : Bool) : Prop := ∀ (gw : Nat) (out : ByteArray) (o : List Int) (p : Part) (n : Int) (w : World), o.length ≤ 100000 → In32 o → out.size ≤ 10000000 → p.2.1.size ≤ 100000 → WrAt w gw out o jf →
  Calls Tryz.prog fs #[.pointer (some ⟨gw, 0, none⟩), partV p n] w (ShPost gw w (stO J (mk && o.isEmpty && decide (clsI p.1 ≠ 0)) out o p) (stL (mk && o.isEmpty && decide (clsI p.1 ≠ 0)) o p) jf)
def WAllRel (J : List Int → List Int) (hid : Part → Bool) (mk : Bool) (jf : Value) (gw : Nat) (xs : List PN) (T : ByteArray) (w : World) (i : Value) (wr : World) : Prop :=
  ∃ (l1 l2 : List PN) (out : ByteArray) (o : List Int), xs = l1 ++ l2 ∧ i = .int .i64 (l1.length : Nat) ∧ WrAt wr gw out o jf ∧ out ++ joinS (prL J hid mk (l2.map (·.1)) o) = T ∧ o.length ≤ l1.length ∧ In32 o ∧ Below gw w wr
def PartsOK (xs : List PN) : Prop := ∀ x ∈ xs, (-2147483648 ≤ x.1.1 ∧ x.1.1 < 2147483648) ∧ x.1.2.1.size ≤ 100000
set_option maxHeartbeats 3200000 in
set_option maxRecDepth 100000 in
theorem all_any (fh fs : FuncId) (hid : Part → Bool) (mk : Bool) (jf : Value) (J : List Int → List Int) (HF : Flushes jf J) (HH : HidFn fh hid) (HS : ShowFn fs jf J mk) (HEh : Enters fh) (HEs : Enters fs)
    (gw : Nat) (xs : List PN) (w : World) (hx : xs.length ≤ 100000) (hok : PartsOK xs) (T : ByteArray) (hT : joinS (prL J hid mk (xs.map (·.1)) []) = T) (hTs : T.size ≤ 10000000) (v : Value) (hsl : SlT w gw v xs) (h : WrAt w gw ByteArray.empty [] jf) :
    Calls Tryz.prog 52 #[.pointer (some ⟨gw, 0, none⟩), v, .func (.func fh) #[] #[], .func (.func fs) #[.pointer (some ⟨gw, 0, none⟩)] #[]] w fun e w' => e = .returned (.string T) ∧ Below gw w w' := by
  have hg : gw < w.heap.size := by obtain ⟨v, h1, _⟩ := h; exact h1.lt
  have HF0 := Lib.hid HF
  have HH0 := Lib.hid HH
  have HS0 := Lib.hid HS
  have HW := Lib.hid h
  have HOK := Lib.hid hok
  have HT := Lib.hid hT
  clear HF HH HS h hok hT
  unfold Enters at HEh HEs
  rcases hsl with ⟨rfl, a, cap, rfl⟩ | ⟨hxp, g, cap, rfl, hgB, hcell⟩
  · have HX := Lib.hid (HF0.out.2 gw ByteArray.empty [] w (by simp) (fun x hx => by cases hx) (by show (0 : Nat) ≤ _; omega) HW.out)
    go_enter Tryz.func52, Tryz.ntmps52
    go_wp2
    refine wp_loop_rounds 1 ?_
    rw [rounds_succ]
    go_wp2_with fail
    refine HX.out.mono ?_
    rintro e w1 ⟨rfl, ⟨v, hblk, _⟩, hm⟩
    have c0 : w1.cell? ⟨gw, 0, none⟩ = some (.string T) := by rw [hblk.cell, ← HT.out]; simp [prL]
    go_wp2
    go_ret
    exact ⟨rfl, hm.below (by omega) fun k hk q => by have : k = gw := q; omega⟩
  have HCELL := Lib.hid hcell
  obtain ⟨n, hn⟩ : ∃ n, xs.length = n := ⟨_, rfl⟩
  have HN := Lib.hid hn
  rw [hn] at hxp hx ⊢
  clear hcell hn
  go_enter Tryz.func52, Tryz.ntmps52
  go_wp2
  go_loopw [13] (fun i wr => WAllRel J hid mk jf gw xs T w i wr) (fun i _ => n - (intOf i).toNat)
  case atStart => exact ⟨[], xs, ByteArray.empty, [], rfl, rfl, HW.out, by rw [HT.out]; simp, Nat.zero_le _, (fun x hx => nomatch hx), Below.refl _ _⟩
  case round =>
    obtain ⟨l1, l2, out, o, hx12, rfl, hat, heq, hol, h32, hf⟩ := hrel
    have hgr : gw < wr.heap.size := Nat.lt_of_lt_of_le hg hf.size
    have hln : l1.length + l2.length = n := by rw [← HN.out, hx12]; simp
    have hos : out.size ≤ 10000000 := by have := congrArg ByteArray.size heq; rw [ByteArray.size_append] at this; omega
    have HX12 := Lib.hid hx12
    have HA := Lib.hid hat
    have HE := Lib.hid heq
    have H32 := Lib.hid h32
    clear hx12 hat heq h32
    cases l2 with
    | nil =>
      have hk0 : l1.length = n := by simpa using hln
      have hk1 : ¬ (l1.length : Int) < (n : Int) := by omega
      have HX := Lib.hid (HF0.out.2 gw out o wr (by omega) H32.out hos HA.out)
      clear hln
      go_wp2_with fail
      refine HX.out.mono ?_
      rintro e w1 ⟨rfl, ⟨v, hblk, _⟩, hm⟩
      have c0 : w1.cell? ⟨gw, 0, none⟩ = some (.string T) := by rw [hblk.cell, ← HE.out]; simp [prL]
      have HP := Lib.hid (hf.trans (hm.below (B := gw) (by omega) fun k hk q => by have : k = gw := q; omega))
      clear hblk
      go_wp2
      go_ret
      exact ⟨rfl, HP.out⟩
    | cons x l2 =>
      have hk : l1.length < n := by simp at hln; omega
      have hcc := HCELL.out l1.length (by rw [HN.out]; exact hk)
      have hxk : xs[l1.length]'(by rw [HN.out]; exact hk) = x := by
        have := HX12.out
        subst this
        simp
      rw [hxk] at hcc
      obtain ⟨⟨r, b, l⟩, m⟩ := x
      obtain ⟨cA, cB, cC, cD⟩ := hcc
      have dA := (Below.cell hf (p := ⟨g, l1.length * 4, none⟩) hgB).trans cA
      have dB := (Below.cell hf (p := ⟨g, l1.length * 4 + 1, none⟩) hgB).trans cB
      have dC := (Below.cell hf (p := ⟨g, l1.length * 4 + 2, none⟩) hgB).trans cC
      have dD := (Below.cell hf (p := ⟨g, l1.length * 4 + 3, none⟩) hgB).trans cD
      simp only at dA dB dC dD
      have hpk := HOK.out ((r, b, l), m) (by rw [HX12.out]; simp)
      simp only at hpk
      obtain ⟨k, hkk⟩ : ∃ k, l1.length = k := ⟨_, rfl⟩
      rw [hkk] at dA dB dC dD hk hol ⊢
      have HK := Lib.hid hkk
      have i1 : (0 : Int) ≤ (k : Int) := by omega
      have i2 : (k : Int) < (n : Int) := by omega
      have HP := Lib.hid hpk
      have HHp := Lib.hid (fun W => HH0.out (r, b, l) m W hpk.1)
      have hbx := partcells wr (r, b, l) m
      simp only at hbx
      unfold partV at HHp
      clear cA cB cC cD hxk hkk hln hpk
      have hre : ∀ W', Below gw (wr.alloc (.cells #[.int .i32 r, .int .i64 m, .string b, .bool l] 121)) W' → Below gw w W' := fun W' h' => (hf.alloc (by omega) _).trans h'
      have HRE := Lib.hid hre
      have hen : ∀ (c : Bool) (W' : World), (hid (r, b, l) || (mk && o.isEmpty && decide (clsI r ≠ 0))) = c → WrAt W' gw (stO J c out o (r, b, l)) (stL c o (r, b, l)) jf → Below gw (wr.alloc (.cells #[.int .i32 r, .int .i64 m, .string b, .bool l] 121)) W' → WAllRel J hid mk jf gw xs T w (.int .i64 ((k : Int) + 1)) W' := by
        intro c W' hc hat' hbel
        refine ⟨l1 ++ [((r, b, l), m)], l2, _, _, by rw [HX12.out]; simp, by rw [List.length_append, HK.out]; rfl, hat', ?_, ?_, stL_in32 c H32.out HP.out.1, HRE.out _ hbel⟩
        · rw [← prL_step J hid mk out (r, b, l) _ o hc]
          exact HE.out
        · have := stL_len c o (r, b, l)
          rw [List.length_append, HK.out]
          simp; omega
      have HEN := Lib.hid hen
      clear hre hen
      cases hh : hid (r, b, l) with
      | true =>
        rw [hh] at HHp
        have HC : Hid ((hid (r, b, l) || (mk && o.isEmpty && decide (clsI r ≠ 0))) = true) := Lib.hid (by rw [hh]; rfl)
        clear hh
        go_wp2_with fail
        refine (HHp.out _).mono ?_
        rintro e w2 ⟨rfl, hf2⟩
        have hb2 := hbx.keep hf2
        have c0 : w2.cell? ⟨wr.heap.size, 0, none⟩ = some (.int .i32 r) := by rw [hb2.cell]; rfl
        have c1 : w2.cell? ⟨wr.heap.size, 1, none⟩ = some (.int .i64 m) := by rw [hb2.cell]; rfl
        have c2 : w2.cell? ⟨wr.heap.size, 2, none⟩ = some (.string b) := by rw [hb2.cell]; rfl
        have c3 : w2.cell? ⟨wr.heap.size, 3, none⟩ = some (.bool l) := by rw [hb2.cell]; rfl
        have HX := Lib.hid (hide_any jf J HF0.out gw out o (r, b, l) m w2 (by omega) H32.out hos HP.out.2 ((HA.out.fresh ((Fresh.refl _).alloc _)).fresh hf2))
        unfold partV at HX
        simp only at HX
        have HB2 := Lib.hid (hf2.below.mono (B' := gw) (by simp; omega))
        have hg2 : gw < w2.heap.size := by have := hf2.size; simp at this; omega
        clear hb2 hbx
        go_wp2_with fail
        refine HX.out.mono ?_
        rintro e w3 ⟨rfl, hat3, hm3⟩
        have HR := Lib.hid (HEN.out true w3 HC.out hat3 (HB2.out.trans (hm3.below (by omega) fun k hk q => by have : k = gw := q; omega)))
        clear hat3 hm3
        go_wp2
        exact ⟨HR.out, by simp [intOf]; omega⟩
      | false =>
        rw [hh] at HHp
        obtain ⟨c, hc⟩ : ∃ c, (mk && o.isEmpty && decide (clsI r ≠ 0)) = c := ⟨_, rfl⟩
        have HC : Hid ((hid (r, b, l) || (mk && o.isEmpty && decide (clsI r ≠ 0))) = c) := Lib.hid (by rw [hh, hc]; rfl)
        have HCC := Lib.hid hc
        clear hh hc
        go_wp2_with fail
        refine (HHp.out _).mono ?_
        rintro e w2 ⟨rfl, hf2⟩
        have hb2 := hbx.keep hf2
        have c0 : w2.cell? ⟨wr.heap.size, 0, none⟩ = some (.int .i32 r) := by rw [hb2.cell]; rfl
        have c1 : w2.cell? ⟨wr.heap.size, 1, none⟩ = some (.int .i64 m) := by rw [hb2.cell]; rfl
        have c2 : w2.cell? ⟨wr.heap.size, 2, none⟩ = some (.string b) := by rw [hb2.cell]; rfl
        have c3 : w2.cell? ⟨wr.heap.size, 3, none⟩ = some (.bool l) := by rw [hb2.cell]; rfl
        have HX := Lib.hid (HS0.out gw out o (r, b, l) m w2 (by omega) H32.out hos HP.out.2 ((HA.out.fresh ((Fresh.refl _).alloc _)).fresh hf2))
        simp only at HX
        rw [HCC.out] at HX
        unfold partV at HX
        simp only at HX
        have HB2 := Lib.hid (hf2.below.mono (B' := gw) (by simp; omega))
        clear hb2 hbx
        go_wp2_with fail
        refine HX.out.mono ?_
        rintro e w3 ⟨rfl, hat3, hm3⟩
        have HR := Lib.hid (HEN.out c w3 HC.out hat3 (HB2.out.trans hm3))
        clear hat3 hm3
        go_wp2
        exact ⟨HR.out, by simp [intOf]; omega⟩
open Go.RowKit
def RgRel (xs : List PN) (w : World) (out i : Value) (wr : World) : Prop :=
  ∃ (l1 l2 : List PN), xs = l1 ++ l2 ∧ i = .int .i64 (l1.length : Nat) ∧ OwnR wr w.heap.size out (runesOf (l1.map (·.1))) ∧ (∀ x ∈ l1, 0 ≤ x.1.1) ∧ Fresh w wr
theorem regB_neg {l1 l2 : List PN} {x : PN} (h : x.1.1 < 0) : regB ((l1 ++ x :: l2).map (·.1)) = false := by
  unfold regB
  simp
  intro h2 h3
  omega
theorem regB_pos {xs : List PN} (h : ∀ x ∈ xs, 0 ≤ x.1.1) : regB (xs.map (·.1)) = decide (apt (runesOf (xs.map (·.1))) = runesOf (xs.map (·.1))) := by
  unfold regB
  have : (xs.map (·.1)).all (fun p => decide (0 ≤ p.1)) = true := by
    rw [List.all_eq_true]
    intro p hp
    rw [List.mem_map] at hp
    obtain ⟨x, hx, rfl⟩ := hp
    exact decide_eq_true (h x hx)
  rw [this, Bool.true_and]
theorem runes_in32 {xs : List PN} (h : PartsOK xs) : In32 (runesOf (xs.map (·.1))) := by
  intro r hr
  unfold runesOf at hr
  rw [List.mem_map] at hr
  obtain ⟨p, hp, rfl⟩ := hr
  rw [List.mem_map] at hp
  obtain ⟨x, hx, rfl⟩ := hp
  exact (h x hx).1
theorem runesOf_snoc (l1 : List PN) (x : PN) : runesOf ((l1 ++ [x]).map (·.1)) = runesOf (l1.map (·.1)) ++ [x.1.1] := by simp [runesOf]
theorem runesOf_len (l : List PN) : (runesOf (l.map (·.1))).length = l.length := by simp [runesOf]
set_option maxHeartbeats 3200000 in
set_option maxRecDepth 100000 in
theorem regular_any (xs : List PN) (w : World) (hx : xs.length ≤ 10000) (hok : PartsOK xs) (v : Value) (hsl : SlT w w.heap.size v xs) :
    Calls Tryz.prog 55 #[v] w fun e w' => e = .returned (.bool (regB (xs.map (·.1)))) ∧ Fresh w w' := by
  obtain ⟨i0, hi0, hz0, hz1, hz2⟩ := info_parts info32
  have HOK := Lib.hid hok
  have HST : Hid (∀ (u : Value) (W : World), Sl W u (runesOf (xs.map (·.1))) → Calls Tryz.prog 24 #[u] W (SamePost (apt (runesOf (xs.map (·.1)))) (runesOf (xs.map (·.1))) W)) := Lib.hid (fun u W h => cstable_any u _ W h (by rw [runesOf_len]; omega) (runes_in32 hok))
  clear hok
  rcases hsl with ⟨rfl, a, cap, rfl⟩ | ⟨hxp, g, cap, rfl, hgB, hcell⟩
  · have HX := Lib.hid (HST.out (.slice none 0 0) w (OwnR.nil w 0).sl)
    have HRB : Hid (regB (([] : List PN).map (·.1)) = decide (apt (runesOf (([] : List PN).map (·.1))) = runesOf (([] : List PN).map (·.1)))) := Lib.hid (regB_pos fun x hx => by cases hx)
    go_enter Tryz.func55, Tryz.ntmps55
    go_wp2
    refine wp_loop_rounds 1 ?_
    rw [rounds_succ]
    go_wp2_with fail
    refine HX.out.mono ?_
    rintro e w1 ⟨rfl, hf⟩
    go_wp2
    go_ret
    exact ⟨by rw [HRB.out]; rfl, hf⟩
  have HCELL := Lib.hid hcell
  obtain ⟨n, hn⟩ : ∃ n, xs.length = n := ⟨_, rfl⟩
  have HN := Lib.hid hn
  rw [hn] at hxp hx ⊢
  clear hcell hn
  go_enter Tryz.func55, Tryz.ntmps55
  go_wp2
  go_loopw [3, 8] (fun out i wr => RgRel xs w out i wr) (fun _ i _ => n - (intOf i).toNat)
  case atStart => exact ⟨[], xs, rfl, rfl, OwnR.nil _ _, (fun x hx => nomatch hx), Fresh.refl _⟩
  case round =>
    obtain ⟨l1, l2, hx12, rfl, hown, hpos, hf⟩ := hrel
    have hln : l1.length + l2.length = n := by rw [← HN.out, hx12]; simp
    have HX12 := Lib.hid hx12
    have HPOS := Lib.hid hpos
    clear hx12 hpos
    cases l2 with
    | nil =>
      have hk0 : l1.length = n := by simpa using hln
      have hk1 : ¬ (l1.length : Int) < (n : Int) := by omega
      have hxe : xs = l1 := by have := HX12.out; simpa using this
      have HX := Lib.hid (HST.out _ wr (by rw [hxe]; exact hown.sl))
      have HRB := Lib.hid (regB_pos (xs := xs) (by rw [hxe]; exact HPOS.out))
      clear hln hxe hown
      go_wp2_with fail
      refine HX.out.mono ?_
      rintro e w1 ⟨rfl, hf1⟩
      go_wp2
      go_ret
      exact ⟨by rw [HRB.out]; rfl, hf.trans hf1⟩
    | cons x l2 =>
      have hk : l1.length < n := by simp at hln; omega
      have hcc := HCELL.out l1.length (by rw [HN.out]; exact hk)
      have hxk : xs[l1.length]'(by rw [HN.out]; exact hk) = x := by
        have := HX12.out
        subst this
        simp
      rw [hxk] at hcc
      obtain ⟨⟨r, b, l⟩, m⟩ := x
      obtain ⟨cA, cB, cC, cD⟩ := hcc
      have dA := (Below.cell hf (p := ⟨g, l1.length * 4, none⟩) hgB).trans cA
      have dB := (Below.cell hf (p := ⟨g, l1.length * 4 + 1, none⟩) hgB).trans cB
      have dC := (Below.cell hf (p := ⟨g, l1.length * 4 + 2, none⟩) hgB).trans cC
      have dD := (Below.cell hf (p := ⟨g, l1.length * 4 + 3, none⟩) hgB).trans cD
      simp only at dA dB dC dD
      obtain ⟨k, hkk⟩ : ∃ k, l1.length = k := ⟨_, rfl⟩
      rw [hkk] at dA dB dC dD hk ⊢
      have HK := Lib.hid hkk
      have i1 : (0 : Int) ≤ (k : Int) := by omega
      have i2 : (k : Int) < (n : Int) := by omega
      clear cA cB cC cD hxk hkk hln
      by_cases hr : r < 0
      · have HRB : Hid (regB (xs.map (·.1)) = false) := Lib.hid (by rw [HX12.out]; exact regB_neg hr)
        clear hown
        go_wp2
        go_ret
        exact ⟨by rw [HRB.out]; rfl, hf.alloc _⟩
      · have HR0 : Hid (0 ≤ r) := Lib.hid (by omega)
        have hown3 := hown
        unfold OwnR at hown3
        rw [runesOf_len, HK.out] at hown3
        go_wp2_with (at_builtin; refine wpList_append_own2 _ rfl _ _ 50 rfl w.heap.size 21 i0 (.int .i32 0) 1 4 Tryz.underlying50 hi0 hz0 hz1 hz2 rfl (by decide) _ _ _ rfl ((hown3.alloc _).alloc _) ⟨wr.heap.size + 1, 0, none⟩ 1 1 [.int .i32 r] rfl rfl ?c1 ?c2 ?c3 ?c4 ?c5 ?_)
        case c2 => rfl
        case c3 => unfold maxLen; omega
        case c4 => omega
        case c5 => have := hf.size; omega
        intro v' w' hown' hgrow hblk
        have hf' : Fresh w w' := Below.grown ((hf.alloc _).alloc _) hgrow (by have := hf.size; simp; omega) (fun g hg => (hown.lt g hg).1)
        have hn' : OwnR w' w.heap.size v' (runesOf ((l1 ++ [((r, b, l), m)]).map (·.1))) := by
          rw [runesOf_snoc]
          refine OwnR.push ?_
          rw [runesOf_len, HK.out]
          exact hown'
        have HP : Hid (RgRel xs w v' (.int .i64 ((k : Int) + 1)) w') := Lib.hid ⟨l1 ++ [((r, b, l), m)], l2, by rw [HX12.out]; simp, by rw [List.length_append, HK.out]; rfl, hn', (fun x hx => by
          rcases List.mem_append.1 hx with q | q
          · exact HPOS.out x q
          · simp at q; rw [q]; exact HR0.out), hf'⟩
        clear hown' hgrow hblk hown hown3 hf' hn'
        go_wp2
        exact ⟨HP.out, by simp [intOf]; omega⟩
open Go.RowKit
def pcsF (enc : Int) (s : ByteArray) : Nat → Nat → List (Int × Int)
  | 0, _ => []
  | f + 1, p => if p < s.size then nextC enc s p :: pcsF enc s f (p + (nextC enc s p).2.toNat) else []
def pcsS (enc : Int) (s : ByteArray) : List (Int × Int) := pcsF enc s s.size 0
theorem pcsF_chain {enc : Int} {s : ByteArray} (h0 : 0 ≤ enc) (h8 : enc ≤ 8) : ∀ (f p : Nat), s.size - p ≤ f → p ≤ s.size → Chain enc s p (pcsF enc s f p) s.size
  | 0, p, h1, h2 => by
    have : p = s.size := by omega
    exact this
  | f + 1, p, h1, h2 => by
    unfold pcsF
    by_cases hp : p < s.size
    · rw [if_pos hp]
      have := next_step h0 h8 hp
      exact ⟨hp, rfl, pcsF_chain h0 h8 f _ (by omega) (by omega)⟩
    · rw [if_neg hp]
      have : p = s.size := by omega
      exact this
theorem pcs_chain {enc : Int} {s : ByteArray} (h0 : 0 ≤ enc) (h8 : enc ≤ 8) : Chain enc s 0 (pcsS enc s) s.size := pcsF_chain h0 h8 _ _ (by omega) (Nat.zero_le _)
theorem chain_unique {enc : Int} {s : ByteArray} : ∀ {xs ys : List (Int × Int)} {p : Nat}, Chain enc s p xs s.size → Chain enc s p ys s.size → xs = ys
  | [], [], _, _, _ => rfl
  | [], y :: ys, p, h, k => by
    have h : p = s.size := h
    have := k.1
    omega
  | x :: xs, [], p, h, k => by
    have k : p = s.size := k
    have := h.1
    omega
  | x :: xs, y :: ys, p, h, k => by
    have e : x = y := h.2.1.symm.trans k.2.1
    subst e
    rw [chain_unique h.2.2 k.2.2]
def presC (enc : Int) (s : ByteArray) : List Int := presL enc (prt s 0 (pcsS enc s))
def presS (enc : Int) (s : ByteArray) : ByteArray := joinS (presC enc s)
theorem chain_len {enc : Int} {s : ByteArray} (h0 : 0 ≤ enc) (h8 : enc ≤ 8) : ∀ {xs : List (Int × Int)} {p : Nat}, p ≤ s.size → Chain enc s p xs s.size → xs.length ≤ s.size - p
  | [], _, _, _ => Nat.zero_le _
  | x :: xs, p, hp, h => by
    have hs := next_step h0 h8 h.1
    rw [h.2.1] at hs
    have := chain_len h0 h8 (by omega) h.2.2
    rw [List.length_cons]
    omega
theorem prn_mem {s : ByteArray} : ∀ {xs : List (Int × Int)} {p : Nat} {x : PN}, x ∈ prn s p xs → x.1.2.1.size ≤ s.size
  | [], _, _, h => nomatch h
  | y :: ys, p, x, h => by
    rcases List.mem_cons.1 h with e | h
    · subst e
      simp only [ByteArray.size_extract]
      omega
    · exact prn_mem h
theorem prn_ok {enc : Int} {s : ByteArray} {xs : List (Int × Int)} (h0 : 0 ≤ enc) (h8 : enc ≤ 8) (hs : s.size ≤ 10000) (hc : Chain enc s 0 xs s.size) : PartsOK (prn s 0 xs) := by
  intro x hx
  have h1 := prn_mem hx
  have h2 : x.1 ∈ prt s 0 xs := by rw [← prn_fst]; exact List.mem_map_of_mem hx
  have h3 := (prt_ok h0 h8 xs 0 (Nat.zero_le _) hc).1 _ h2
  refine ⟨?_, by omega⟩
  rcases h3 with ⟨a, b, _⟩ | ⟨a, _⟩
  · have := isC_true b; omega
  · omega
theorem hidFn : HidFn 53 hidB := fun p n w h => hidden_any p n h w
theorem strFn : HidFn 56 strB := fun p n w h => strange_any p n h w
theorem showFn (J : List Int → List Int) (jf : Value) : ShowFn 54 jf J false := fun gw out o p n w h1 _ _ _ h => by
  have := show_any jf gw out o p n w h1 h
  simpa [stO, stL] using this
theorem markFn (J : List Int → List Int) (jf : Value) (HF : Flushes jf J) : ShowFn 57 jf J true := fun gw out o p n w h1 h2 h3 h4 h => by
  have := mark_any jf J HF gw out o p n w h1 h2 h3 h4 h
  simpa using this
end Go.Proofs.YtpmlggjhfiljmaaGreatDoor
