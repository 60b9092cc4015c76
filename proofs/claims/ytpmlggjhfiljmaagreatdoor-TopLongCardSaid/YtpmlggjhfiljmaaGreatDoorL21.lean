/- Part 21 of what the law rests on. -/
import Derived.Test.YtpmlggjhfiljmaaGreatDoorL20
set_option linter.all false
namespace Go.Proofs.YtpmlggjhfiljmaaGreatDoor
open Go.RowKit
def img0L : List UInt8 := (([] ++ beB 1 8) ++ beB 1 2 ++ beB 0 2) ++ beB 0 2
def img0 : ByteArray := ⟨img0L.toArray⟩
def IsT0 (T : TreS) : Prop := (∀ i, T.dirs i = if i = 0 then some [] else none) ∧ T.next = 1 ∧ (∀ i, T.files i = false) ∧ (∀ i, T.out i = false) ∧ T.fr = 1 ∧ T.bk = []
theorem isT0 : IsT0 T0 := ⟨fun _ => rfl, rfl, fun _ => rfl, fun _ => rfl, rfl, rfl⟩
theorem dirs0 {T : TreS} (h : IsT0 T) {ks : List Int} (h1 : ks.Pairwise (· < ·)) (h2 : ∀ i, i ∈ ks ↔ (T.dirs i).isSome = true) : ks = [0] := by
  have m : ∀ i, i ∈ ks ↔ i = 0 := fun i => by
    rw [h2, h.1]
    by_cases e : i = 0
    · simp [e]
    · simp [e]
  match ks, h1, m with
  | [], _, m => exact absurd ((m 0).2 rfl) (by simp)
  | [a], _, m => rw [(m a).1 (by simp)]
  | a :: b :: l, h1, m =>
    have e1 := (m a).1 (by simp)
    have e2 := (m b).1 (by simp)
    have := (List.pairwise_cons.1 h1).1 b (by simp)
    omega
set_option maxHeartbeats 2000000 in
set_option maxRecDepth 100000 in
theorem encode0_any (w : World) (A : Nat → Prop) (t : Nat) (T : TreS) (q : Nat) (h : TreeAt w A t T q) (hT : IsT0 T) (hq : q ≤ 1000000) : Calls Tryz.prog 143 #[.pointer (some ⟨t, 0, none⟩)] w fun e w' => e = .returned (.string img0) ∧ Fresh w w' := by
  have HT := Lib.hid hT
  have HTR := Lib.hid (fun W hW => h.fresh (w' := W) hW)
  have HCK := Lib.hid (fun W hW => cookie_any W A t T q (h.fresh hW))
  have HDR := Lib.hid (fun W hW => dirs_any W A t T q (h.fresh hW) hq)
  have HLS := Lib.hid (fun W hW => tlist_any W A t T q (h.fresh hW) 0 (by unfold I64; omega) (fun l hl => by rw [hT.1 0] at hl; injection hl with hl; subst hl; simp))
  have HN8 : Hid (∀ A b l W, BldAt W A b l → l.length ≤ 1000 → Calls Tryz.prog 228 #[.pointer (some ⟨b, 0, none⟩), .int .u64 1, .int .i64 8] W fun e w' => e = .returned (.tuple #[]) ∧ BldAt w' (ext A W w') b (l ++ beB 1 8) ∧ Mut A W w') := Lib.hid (fun A b l W h1 h2 => number_any A b l 1 8 (by omega) (by omega) W h1 (by omega))
  have HN2 : Hid (∀ A b l W, BldAt W A b l → l.length ≤ 1000 → Calls Tryz.prog 228 #[.pointer (some ⟨b, 0, none⟩), .int .u64 1, .int .i64 2] W fun e w' => e = .returned (.tuple #[]) ∧ BldAt w' (ext A W w') b (l ++ beB 1 2) ∧ Mut A W w') := Lib.hid (fun A b l W h1 h2 => number_any A b l 1 2 (by omega) (by omega) W h1 (by omega))
  have HN0 : Hid (∀ A b l W, BldAt W A b l → l.length ≤ 1000 → Calls Tryz.prog 228 #[.pointer (some ⟨b, 0, none⟩), .int .u64 0, .int .i64 2] W fun e w' => e = .returned (.tuple #[]) ∧ BldAt w' (ext A W w') b (l ++ beB 0 2) ∧ Mut A W w') := Lib.hid (fun A b l W h1 h2 => number_any A b l 0 2 (by omega) (by omega) W h1 (by omega))
  have HB0 : Hid (BldAt (w.alloc (.cells #[.pointer none, .slice none 0 0] 302)) (fun j => j = w.heap.size) w.heap.size []) := Lib.hid ⟨rfl, _, _, .inl rfl, Blk.new _ _ _, OwnA.nil _ _ _ _⟩
  clear h hT
  go_enter Tryz.func143, Tryz.ntmps143
  go_wp2_with fail
  refine (HCK.out _ ((Fresh.refl w).alloc _)).mono ?_
  rintro e w0 ⟨rfl, rfl⟩
  rw [HT.out.2.1]
  go_wp2_with fail
  refine (HN8.out _ _ _ _ HB0.out (by decide)).mono ?_
  rintro e w1 ⟨rfl, b1, u1⟩
  have hf1 : Fresh w w1 := Fresh.mut2 ((Fresh.refl w).alloc _) u1 (fun j e => by omega)
  have HB1 : Hid (BldAt w1 (fun j => w.heap.size ≤ j ∧ j < w1.heap.size) w.heap.size ([] ++ beB 1 8)) := Lib.hid (b1.mono (fun g hg hh => by
    rcases hh with q | q
    · exact ⟨by omega, hg⟩
    · exact ⟨by have := q.1; simp at this; omega, hg⟩))
  clear b1 u1
  go_wp2_with fail
  refine (HDR.out _ hf1).mono ?_
  rintro e w2 ⟨v, ks, rfl, hks, hk1, hk2, _, hf2⟩
  have hk := dirs0 HT.out hk1 hk2
  subst hk
  obtain ⟨a2, c2, rfl⟩ := hks.shape
  have HKS := Lib.hid hks
  have HB2 := Lib.hid (HB1.out.fresh hf2)
  have HF2 := Lib.hid (hf1.trans hf2)
  have z2 := hf2.size
  clear hks hk1 hk2 hf2 hf1
  go_wp2_with fail
  refine (HN2.out _ _ _ _ HB2.out (by simp [beB_len])).mono ?_
  rintro e w3 ⟨rfl, b3, u3⟩
  have hk3 := HKS.out.mut u3 (fun g hg hh => by omega)
  have HB3 := Lib.hid b3
  have HF3 : Hid (Fresh w w3) := Lib.hid (HF2.out.mut2 u3 (fun j h => h.1))
  obtain ⟨g, hg⟩ : ∃ g, a2 = some ⟨g, 0, none⟩ := by
    obtain ⟨_, ⟨q1, q2⟩ | ⟨g, cap, cur, q, _⟩⟩ := HKS.out.1
    · cases q2
    · injection q with q; exact ⟨g, q⟩
  subst hg
  have ck : w3.cell? ⟨g, 0, none⟩ = some (.int .i64 0) := by
    have := hk3.1.cells (g := g) rfl 0 (.int .i64 0) rfl
    exact this
  clear b3 u3 hk3
  go_wp2_with fail
  refine wp_loop_rounds 2 ?_
  rw [rounds_succ]
  go_wp2_with fail
  refine (HLS.out _ HF3.out).mono ?_
  rintro e w4 (⟨l4, v4, hl4, rfl, ho4, hf4⟩ | ⟨hn, _⟩)
  case inr => rw [HT.out.1 0] at hn; cases hn
  rw [HT.out.1 0] at hl4
  injection hl4 with hl4
  subst hl4
  obtain ⟨a4, c4, rfl⟩ := ho4.shape
  have HB4 := Lib.hid (HB3.out.fresh hf4)
  have HF4 := Lib.hid (HF3.out.trans hf4)
  clear ho4 hf4
  go_wp2_with fail
  refine (HN0.out _ _ _ _ HB4.out (by simp [beB_len])).mono ?_
  rintro e w5 ⟨rfl, b5, u5⟩
  have z3 : w.heap.size ≤ w2.heap.size := HF2.out.size
  have z4 : w.heap.size ≤ w4.heap.size := HF4.out.size
  have HF5 : Hid (Fresh w w5) := Lib.hid (HF4.out.mut2 u5 (fun j h => by
    rcases h with h | h
    · exact h.1
    · omega))
  have HB5 := Lib.hid b5
  clear b5 u5
  go_wp2_with fail
  refine (HN0.out _ _ _ _ HB5.out (by simp [beB_len])).mono ?_
  rintro e w6 ⟨rfl, b6, u6⟩
  have HF6 : Hid (Fresh w w6) := Lib.hid (HF5.out.mut2 u6 (fun j h => by
    rcases h with (h | h) | h
    · exact h.1
    · omega
    · omega))
  have HB6 := Lib.hid (bstring_any _ _ _ _ b6 (by
    intro e
    have := congrArg List.length e
    simp [beB_len] at this))
  have HFU : Hid (∀ w', Mut (ext (ext (ext (fun j => w.heap.size ≤ j ∧ j < w1.heap.size) w2 w3) w4 w5) w5 w6) w6 w' → Fresh w w') := Lib.hid (fun w' hm => HF6.out.mut2 hm (fun j h => by
    have z5 : w.heap.size ≤ w5.heap.size := HF5.out.size
    rcases h with ((h | h) | h) | h
    · exact h.1
    · omega
    · omega
    · omega))
  clear b6 u6
  go_wp2_with fail
  refine wp_loop_rounds 1 ?_
  rw [rounds_succ]
  go_wp2
  rw [rounds_succ]
  go_wp2_with fail
  refine HB6.out.mono ?_
  rintro e w7 ⟨rfl, hm⟩
  have HF7 := Lib.hid (HFU.out w7 hm)
  clear hm
  go_wp2
  go_ret
  exact ⟨rfl, HF7.out⟩
open Go.RowKit
def ImRd (w : World) (r : Nat) (S : ByteArray) : Prop := Blk w r 338 #[.string S, .bool false]
def TakeR (r : Nat) (S : ByteArray) (k : Nat) (w : World) (e : Ending) (w' : World) : Prop := e = .returned (.string (S.extract 0 k)) ∧ ImRd w' r (S.extract k S.size) ∧ Mut (fun j => j = r) w w'
set_option maxRecDepth 100000 in
set_option maxHeartbeats 1600000 in
theorem rtake_any (r : Nat) (S : ByteArray) (k : Nat) (hk : k ≤ S.size) (hS : S.size ≤ 100000) (w : World) (h : ImRd w r S) : Calls Tryz.prog 330 #[.pointer (some ⟨r, 0, none⟩), .int .i64 k] w (TakeR r S k w) := by
  have c0 : w.cell? ⟨r, 0, none⟩ = some (.string S) := by rw [h.cell]; rfl
  have c1 : w.cell? ⟨r, 1, none⟩ = some (.bool false) := by rw [h.cell]; rfl
  have f0 : w.frozen? ⟨r, 0, none⟩ = false := h.frozen 0
  have H := Lib.hid h
  have h1 : ¬ (S.size : Int) < (k : Int) := by omega
  have h2 : (k : Int) ≤ (S.size : Int) := by omega
  clear h hk
  go_enter Tryz.func330, Tryz.ntmps330
  go_wp2
  go_ret
  exact ⟨rfl, (show Blk w r _ _ from H.out).set (i := 0), (Mut.refl (fun j => j = r) w).setCell (p := ⟨r, 0, none⟩) (.inl rfl) _⟩
def NumR (r : Nat) (S : ByteArray) (k : Nat) (e : Int) (w : World) (en : Ending) (w' : World) : Prop := en = .returned (.int .u64 e) ∧ ImRd w' r (S.extract k S.size) ∧ Mut (fun j => j = r) w w'
def NumRel (n : Nat) (e : Int) (w : World) (m i : Value) (wr : World) : Prop := ∃ k : Nat, i = .int .i64 k ∧ ((k < n ∧ m = .int .u64 0) ∨ (k = n ∧ m = .int .u64 e)) ∧ Fresh w wr
set_option maxRecDepth 100000 in
set_option maxHeartbeats 1600000 in
theorem rnum_any (r : Nat) (S : ByteArray) (k : Nat) (e : Int) (hk0 : 1 ≤ k) (hk : k ≤ S.size) (hS : S.size ≤ 100000) (he : 0 ≤ e ∧ e < 256) (hor : bits .or .u64 0 e = e) (hB : ∀ j, j < k → B (S.extract 0 k) j = if j = k - 1 then e else 0) (w : World) (h : ImRd w r S) : Calls Tryz.prog 261 #[.pointer (some ⟨r, 0, none⟩), .int .i64 k] w (NumR r S k e w) := by
  have HTK := Lib.hid (rtake_any r S k hk hS w h)
  have hk100 : k ≤ 100000 := by omega
  obtain ⟨t, ht⟩ : ∃ t, S.extract 0 k = t := ⟨_, rfl⟩
  have hts : t.size = k := by rw [← ht, ByteArray.size_extract]; omega
  have HT := Lib.hid ht
  rw [ht] at hB
  have HTS := Lib.hid hts
  have HBB := Lib.hid hB
  have HOR := Lib.hid hor
  have hcv := fun W : World => Lib.run_convert_string_bytes (P := Tryz.prog) W 9 131 5 t Tryz.underlying9 Tryz.underlying131 Tryz.underlying5
  rw [hts] at hcv
  have HCELL := Lib.hid (fun (W : World) (j : Nat) (hj : j < t.size) => Lib.bytesWorld_cell W 5 t j hj)
  have HFW : Hid (∀ W : World, Fresh W (Lib.bytesWorld W 5 t)) := Lib.hid (fun W => fresh_bytes W _ _)
  have HLT : Hid (∀ W : World, W.heap.size < (Lib.bytesWorld W 5 t).heap.size) := Lib.hid (fun W => by rw [Lib.bytesWorld_size]; omega)
  clear hts hB hor h hk
  go_enter Tryz.func261, Tryz.ntmps261
  go_wp2_with fail
  refine HTK.out.mono ?_
  rintro e1 w1 ⟨rfl, hr1, hu1⟩
  rw [ht]
  have HR1 := Lib.hid hr1
  have HU1 := Lib.hid hu1
  clear ht hr1 hu1
  go_wp2
  go_loopw [5, 13] (fun m i wr => NumRel k e (Lib.bytesWorld w1 5 t) m i wr) (fun _ i _ => k - (intOf i).toNat)
  case atStart => exact ⟨0, rfl, .inl ⟨by omega, rfl⟩, Fresh.refl _⟩
  case round =>
    obtain ⟨i, rfl, hi, hf⟩ := hrel
    rcases hi with ⟨hi, rfl⟩ | ⟨rfl, rfl⟩
    · have c1 : wr.cell? ⟨w1.heap.size, i, none⟩ = some (.int .u8 (B t i)) := (Below.cell hf (p := ⟨w1.heap.size, i, none⟩) (HLT.out w1)).trans (HCELL.out w1 i (by rw [HTS.out]; exact hi))
      rw [HBB.out i hi] at c1
      have i1 : (i : Int) < (k : Int) := by omega
      have i2 : (i : Int) ≤ 100000 := by omega
      by_cases h7 : i = k - 1
      · rw [if_pos h7] at c1
        have HH7 := Lib.hid h7
        have hor := HOR.out
        clear h7
        go_wp2
        go_roundw
        case rel => exact ⟨i + 1, by go_num, .inr ⟨by have := HH7.out; omega, rfl⟩, hf⟩
        case measure => simp [intOf]; omega
      · rw [if_neg h7] at c1
        have hor : bits .or .u64 0 0 = 0 := by decide
        have hk7 : i < k - 1 := by omega
        clear h7
        go_wp2
        go_roundw
        case rel => exact ⟨i + 1, by go_num, .inl ⟨by omega, rfl⟩, hf⟩
        case measure => simp [intOf]; omega
    · go_wp2
      go_ret
      exact ⟨rfl, ((show Blk w1 r _ _ from HR1.out).keep ((HFW.out w1).trans hf)), HU1.out.andFresh ((HFW.out w1).trans hf)⟩
open Go.RowKit
def im (k : Nat) : ByteArray := img0.extract k 14
theorem im_facts : ((im 0 = img0 ∧ (im 0).extract 8 (im 0).size = im 8) ∧ (im 8).extract 2 (im 8).size = im 10 ∧ (im 10).extract 2 (im 10).size = im 12 ∧ (im 12).extract 2 (im 12).size = im 14) ∧ ((im 0).size = 14 ∧ (im 8).size = 6 ∧ (im 10).size = 4 ∧ (im 12).size = 2) := by decide +kernel
theorem im_b0 : ((List.range 8).all fun j => decide (B ((im 0).extract 0 8) j = if j = 8 - 1 then 1 else 0)) = true := by decide +kernel
theorem im_b8 : ((List.range 2).all fun j => decide (B ((im 8).extract 0 2) j = if j = 2 - 1 then 1 else 0)) = true := by decide +kernel
theorem im_b10 : ((List.range 2).all fun j => decide (B ((im 10).extract 0 2) j = if j = 2 - 1 then 0 else 0)) = true := by decide +kernel
theorem im_b12 : ((List.range 2).all fun j => decide (B ((im 12).extract 0 2) j = if j = 2 - 1 then 0 else 0)) = true := by decide +kernel
theorem all_of {n : Nat} {f : Nat → Prop} [DecidablePred f] (h : ((List.range n).all fun j => decide (f j)) = true) : ∀ j, j < n → f j := fun j hj => by
  have := List.all_eq_true.1 h j (List.mem_range.2 hj)
  simpa using this
def NumI (r k' : Nat) (e : Int) (w : World) (en : Ending) (w' : World) : Prop := en = .returned (.int .u64 e) ∧ ImRd w' r (im k') ∧ Mut (fun j => j = r) w w'
theorem num0 (r : Nat) (w : World) (h : ImRd w r img0) : Calls Tryz.prog 261 #[.pointer (some ⟨r, 0, none⟩), .int .i64 8] w (NumI r 8 1 w) := by
  rw [← im_facts.1.1.1] at h
  have := rnum_any r (im 0) 8 1 (by omega) (by rw [im_facts.2.1]; omega) (by rw [im_facts.2.1]; omega) (by omega) (by decide) (all_of im_b0) w h
  unfold NumR at this
  rw [im_facts.1.1.2] at this
  exact this
theorem num8 (r : Nat) (w : World) (h : ImRd w r (im 8)) : Calls Tryz.prog 261 #[.pointer (some ⟨r, 0, none⟩), .int .i64 2] w (NumI r 10 1 w) := by
  have := rnum_any r (im 8) 2 1 (by omega) (by rw [im_facts.2.2.1]; omega) (by rw [im_facts.2.2.1]; omega) (by omega) (by decide) (all_of im_b8) w h
  unfold NumR at this
  rw [im_facts.1.2.1] at this
  exact this
theorem num10 (r : Nat) (w : World) (h : ImRd w r (im 10)) : Calls Tryz.prog 261 #[.pointer (some ⟨r, 0, none⟩), .int .i64 2] w (NumI r 12 0 w) := by
  have := rnum_any r (im 10) 2 0 (by omega) (by rw [im_facts.2.2.2.1]; omega) (by rw [im_facts.2.2.2.1]; omega) (by omega) (by decide) (all_of im_b10) w h
  unfold NumR at this
  rw [im_facts.1.2.2.1] at this
  exact this
theorem num12 (r : Nat) (w : World) (h : ImRd w r (im 12)) : Calls Tryz.prog 261 #[.pointer (some ⟨r, 0, none⟩), .int .i64 2] w (NumI r 14 0 w) := by
  have := rnum_any r (im 12) 2 0 (by omega) (by rw [im_facts.2.2.2.2]; omega) (by rw [im_facts.2.2.2.2]; omega) (by omega) (by decide) (all_of im_b12) w h
  unfold NumR at this
  rw [im_facts.1.2.2.2] at this
  exact this
set_option maxRecDepth 100000 in
set_option maxHeartbeats 1600000 in
theorem sevE_any (r : Nat) (v : Value) (w : World) (h : ImRd w r (im 12)) : Calls Tryz.prog 331 #[.pointer (some ⟨r, 0, none⟩), v] w fun e w' => e = .returned (.slice none 0 0) ∧ ImRd w' r (im 14) ∧ Mut (fun j => j = r) w w' := by
  have HN := Lib.hid (num12 r w h)
  clear h
  go_enter Tryz.func331, Tryz.ntmps331
  go_wp2_with fail
  refine HN.out.mono ?_
  rintro e w1 ⟨rfl, h1, u1⟩
  have HF := Lib.hid (And.intro h1 u1)
  clear h1 u1
  go_wp2_with fail
  refine wp_loop_rounds 1 ?_
  rw [rounds_succ]
  go_wp2
  go_ret
  exact ⟨rfl, HF.out.1, HF.out.2⟩
theorem enters263 : ∀ (args : Array Value) (W : World), Sem.run Tryz.prog (callFunc 263 args) W = .ok (.enter 263 args) W := by intro args w; go_simp
theorem results_cell1 {fn : Func} {p : Tmp} {ty : TypeId} (h : fn.results = #[.cell p ty]) (tmps : Array Value) (P : Program) (w : World) :
    (results fn tmps).run P w = ((asAddr (tmps.getD p undef)).run P w).andThen fun a w₁ => (loadVar ty a).run P w₁ := by
  simp only [results, h]
  simp [Sem.run_bind, Result.andThen]
set_option maxRecDepth 100000 in
set_option maxHeartbeats 1600000 in
theorem rdir_any (r : Nat) (w : World) (h : ImRd w r (im 10)) : Calls Tryz.prog 263 #[.pointer (some ⟨r, 0, none⟩)] w fun e w' => e = .returned (.agg #[.int .i64 0, .slice none 0 0]) ∧ ImRd w' r (im 14) ∧ Mut (fun j => j = r) w w' := by
  have HN := Lib.hid (fun W hW => num10 r W ((show Blk w r _ _ from h).keep hW))
  have HS := Lib.hid (fun v W hW => sevE_any r v W hW)
  have hrl := (show Blk w r _ _ from h).lt
  clear h
  go_enter Tryz.func263, Tryz.ntmps263
  go_wp2_with fail
  refine (HN.out _ ((Fresh.refl w).alloc _)).mono ?_
  rintro e w1 ⟨rfl, h1, u1⟩
  have b1 : Blk w1 w.heap.size 343 #[.int .i64 0, .slice none 0 0] := (Blk.new w _ _).mut u1 (by omega)
  have U1 : Hid (Mut (fun j => j = r) w w1) := Lib.hid (Fresh.andMut ((Fresh.refl w).alloc _) u1)
  have B1 := Lib.hid b1
  have R1 := Lib.hid h1
  clear h1 u1 b1
  go_wp2_with fail
  refine (HS.out _ _ R1.out).mono ?_
  rintro e w2 ⟨rfl, h2, u2⟩
  have b2 : Blk w2 w.heap.size 343 #[.int .i64 0, .slice none 0 0] := B1.out.mut u2 (by omega)
  have c0 : w2.cell? ⟨w.heap.size, 0, none⟩ = some (.int .i64 0) := by rw [b2.cell]; rfl
  have c1 : w2.cell? ⟨w.heap.size, 1, none⟩ = some (.slice none 0 0) := by rw [b2.cell]; rfl
  have f0 : w2.frozen? ⟨w.heap.size, 0, none⟩ = false := b2.frozen 0
  have f1 : w2.frozen? ⟨w.heap.size, 1, none⟩ = false := b2.frozen 1
  have B2 := Lib.hid b2
  have HF := Lib.hid (And.intro h2 (U1.out.trans u2))
  have HZ := Lib.hid u2.size
  have HZ1 := Lib.hid U1.out.size
  clear h2 u2 b2
  go_wp2
  have b3 : Blk ((w2.setCell ⟨w.heap.size, 0, none⟩ (.int .i64 0)).setCell ⟨w.heap.size, 1, none⟩ (.slice none 0 0)) w.heap.size 343 #[.int .i64 0, .slice none 0 0] := (B2.out.set (i := 0) (u := .int .i64 0)).set (i := 1) (u := .slice none 0 0)
  have d0 : ((w2.setCell ⟨w.heap.size, 0, none⟩ (.int .i64 0)).setCell ⟨w.heap.size, 1, none⟩ (.slice none 0 0)).cell? ⟨w.heap.size, 0, none⟩ = some (.int .i64 0) := by rw [b3.cell]; rfl
  have d1 : ((w2.setCell ⟨w.heap.size, 0, none⟩ (.int .i64 0)).setCell ⟨w.heap.size, 1, none⟩ (.slice none 0 0)).cell? ⟨w.heap.size, 1, none⟩ = some (.slice none 0 0) := by rw [b3.cell]; rfl
  refine bodyPost_ret (v := .agg #[.int .i64 0, .slice none 0 0]) ?_ rfl ⟨rfl, ?_⟩
  · rw [results_cell1 rfl]
    go_simp
  · have hs : Mut (fun j => j = w.heap.size) w2 ((w2.setCell ⟨w.heap.size, 0, none⟩ (.int .i64 0)).setCell ⟨w.heap.size, 1, none⟩ (.slice none 0 0)) := ((Mut.refl (fun j => j = w.heap.size) w2).setCell (p := ⟨w.heap.size, 0, none⟩) (.inl rfl) _).setCell (p := ⟨w.heap.size, 1, none⟩) (.inl rfl) _
    exact ⟨(show Blk w2 r _ _ from HF.out.1).mut hs (by omega), HF.out.2.trans2 hs (fun _ h => h) (fun j hj e => by omega)⟩
theorem infoDir : (Tryz.prog.info? 343).map (fun i => (i.zero, i.size, i.bytes)) = some (some (.agg #[.int .i64 0, .slice none 0 0]), 2, 32) := by kernel_rfl
set_option maxRecDepth 100000 in
set_option maxHeartbeats 1600000 in
theorem sevD_any (r : Nat) (w : World) (h : ImRd w r (im 8)) : Calls Tryz.prog 262 #[.pointer (some ⟨r, 0, none⟩), .func (.func 263) #[.pointer (some ⟨r, 0, none⟩)] #[]] w fun e w' => (∃ g c, e = .returned (.slice (some ⟨g, 0, none⟩) 1 c) ∧ w'.cell? ⟨g, 0, none⟩ = some (.int .i64 0) ∧ w'.cell? ⟨g, 1, none⟩ = some (.slice none 0 0) ∧ w.heap.size ≤ g) ∧ ImRd w' r (im 14) ∧ Mut (fun j => j = r) w w' := by
  have HN := Lib.hid (num8 r w h)
  have HD := Lib.hid (fun W hW => rdir_any r W hW)
  have hrl := (show Blk w r _ _ from h).lt
  have hen := enters263
  clear h
  go_enter Tryz.func262, Tryz.ntmps262
  go_wp2_with fail
  refine HN.out.mono ?_
  rintro e w1 ⟨rfl, h1, u1⟩
  have c1 : w1.cell? ⟨r, 1, none⟩ = some (.bool false) := by rw [(show Blk w1 r _ _ from h1).cell]; rfl
  have HF := Lib.hid (And.intro h1 u1)
  clear h1 u1
  go_wp2_with fail
  refine wp_loop_rounds 2 ?_
  rw [rounds_succ]
  go_wp2_with fail
  refine (HD.out _ HF.out.1).mono ?_
  rintro e w2 ⟨rfl, h2, u2⟩
  have H2 := Lib.hid (And.intro h2 (HF.out.2.trans u2))
  have HZ : Hid (w.heap.size ≤ w2.heap.size) := Lib.hid (HF.out.2.trans u2).size
  clear h2 u2 c1
  obtain ⟨i0, hi0, hz0, hz1, hz2⟩ := info_partsG infoDir
  go_wp2_with (at_builtin; refine wpList_append_ownA _ rfl _ _ 340 rfl (fun g => w2.heap.size ≤ g) 343 i0 _ 2 32 Tryz.underlying340 hi0 hz0 hz1 hz2 rfl (by decide) (.slice none 0 0) 0 [] rfl (OwnA.nil _ _ _ _) ⟨w2.heap.size, 0, none⟩ 1 1 [.int .i64 0, .slice none 0 0] rfl rfl (newCells _ _ _) (by intro u hu; simp at hu; rcases hu with rfl | rfl <;> rfl) (by omega) (by decide) ?_; intro a' c' w' hown' hgrow)
  have hf3 : Fresh w2 w' := Fresh.mut2 ((Fresh.refl w2).alloc _) hgrow (fun j e => by cases e)
  have hg : ∃ g, a' = some ⟨g, 0, none⟩ := by
    obtain ⟨_, ⟨q1, q2⟩ | ⟨g, cap, cur, q, _⟩⟩ := hown'.1
    · cases q2
    · injection q with q; exact ⟨g, q⟩
  obtain ⟨g, rfl⟩ := hg
  have d0 : w'.cell? ⟨g, 0, none⟩ = some (.int .i64 0) := hown'.1.cells (g := g) rfl 0 (.int .i64 0) rfl
  have d1 : w'.cell? ⟨g, 1, none⟩ = some (.slice none 0 0) := hown'.1.cells (g := g) rfl 1 (.slice none 0 0) rfl
  have hgl : w.heap.size ≤ g := by
    have := HZ.out
    rcases hown'.2 g rfl with q | q
    · omega
    · have := q.1; simp at this; omega
  have HG := Lib.hid (And.intro d0 (And.intro d1 (And.intro hgl hf3)))
  clear hown' hgrow hf3 d0 d1 hgl
  go_wp2_with fail
  rw [rounds_succ]
  go_wp2
  go_ret
  exact ⟨⟨g, _, rfl, HG.out.1, HG.out.2.1, HG.out.2.2.1⟩, (show Blk w2 r _ _ from H2.out.1).keep HG.out.2.2.2, H2.out.2.andFresh HG.out.2.2.2⟩
open Go.RowKit
def MkAt (w : World) (m gd gc : Nat) (nm : Value) : Prop := Blk w m 420 #[.int .i64 1, .map (some gd), .slice none 0 0, .map (some gc), nm, .bool false]
theorem must_any (w : World) (m gd gc : Nat) (nm : Value) (h : MkAt w m gd gc nm) : Calls Tryz.prog 333 #[.pointer (some ⟨m, 0, none⟩), .bool true] w fun e w' => e = .returned (.tuple #[]) ∧ MkAt w' m gd gc nm ∧ Mut (fun j => j = m) w w' := by
  have c5 : w.cell? ⟨m, 5, none⟩ = some (.bool false) := by rw [h.cell]; rfl
  have f5 : w.frozen? ⟨m, 5, none⟩ = false := h.frozen 5
  have H := Lib.hid h
  clear h
  go_enter Tryz.func333, Tryz.ntmps333
  go_wp2
  go_end0
  exact ⟨rfl, (show Blk w m _ _ from H.out).set (i := 5), (Mut.refl (fun j => j = m) w).setCell (p := ⟨m, 5, none⟩) (.inl rfl) _⟩
theorem isSorted_nil (f : Value) (w : World) : Calls Tryz.prog 370 #[.slice none 0 0, f] w fun e w' => e = .returned (.bool true) ∧ w = w' := by
  go_enter Tryz.func370, Tryz.ntmps370
  go_wp2
  refine wp_loop_rounds 1 ?_
  rw [rounds_succ]
  go_wp2
  go_ret
  exact ⟨rfl, rfl⟩
set_option maxRecDepth 100000 in
set_option maxHeartbeats 1600000 in
theorem mdir_any (w : World) (m gd gc q : Nat) (Md : Int → Option Value) (h : MkAt w m gd gc (.map none)) (hm : MapAt w gd q Md) (h0 : Md 0 = some (.slice none 0 0)) : Calls Tryz.prog 334 #[.pointer (some ⟨m, 0, none⟩), .int .i64 0] w fun e w' => e = .returned (.tuple #[]) ∧ (∃ b, MkAt w' m gd gc (.map (some b))) ∧ Mut (fun j => j = m) w w' := by
  have hmm := @run_makeMap Tryz.prog
  have c1 : w.cell? ⟨m, 1, none⟩ = some (.map (some gd)) := by rw [h.cell]; rfl
  have c4 : w.cell? ⟨m, 4, none⟩ = some (.map none) := by rw [h.cell]; rfl
  have f4 : w.frozen? ⟨m, 4, none⟩ = false := h.frozen 4
  have hml := h.lt
  have u0 : Mut (fun j => j = m) w ((w.setCell ⟨m, 4, none⟩ (.map (some w.heap.size))).alloc (.map #[] 0)) := ((Mut.refl (fun j => j = m) w).setCell (p := ⟨m, 4, none⟩) (.inl rfl) _).alloc _
  have hM1 : MapAt ((w.setCell ⟨m, 4, none⟩ (.map (some w.heap.size))).alloc (.map #[] 0)) gd q Md := hm.mut u0 (fun e => h.neMap hm e.symm)
  have H1 : Hid (MkAt ((w.setCell ⟨m, 4, none⟩ (.map (some w.heap.size))).alloc (.map #[] 0)) m gd gc (.map (some w.heap.size))) := Lib.hid (((show Blk w m _ _ from h).set (i := 4)).keep ((Fresh.refl _).alloc _))
  have HMU := Lib.hid (fun W b hW => must_any W m gd gc (.map (some b)) hW)
  have U0 := Lib.hid u0
  have HIS := Lib.hid (fun f W => isSorted_nil f W)
  clear h hm u0
  go_enter Tryz.func334, Tryz.ntmps334
  go_wp2_with (first
    | (at_lookup; refine wpList_lookI _ rfl _ _ 155 rfl 83 Tryz.underlying155 _ (zeroL _) gd q Md rfl hM1 0 rfl (by unfold I64; omega) (.slice none 0 0) (by rw [h0]; rfl) ?_)
    | fail)
  refine (HIS.out _ _).mono ?_
  rintro e w1 ⟨rfl, rfl⟩
  go_wp2_with fail
  refine (HMU.out _ _ H1.out).mono ?_
  rintro e w2 ⟨rfl, h2, u2⟩
  have H2 := Lib.hid (And.intro h2 (U0.out.trans u2))
  clear h2 u2 hM1 c1 c4 f4
  go_wp2_with fail
  refine wp_loop_rounds 1 ?_
  rw [rounds_succ]
  go_wp2_with fail
  refine wp_loop_rounds 1 ?_
  rw [rounds_succ]
  go_wp2
  go_end0
  exact ⟨rfl, ⟨_, H2.out.1⟩, H2.out.2⟩
theorem MapAt.size {w : World} {b n : Nat} {M : Int → Option Value} (h : MapAt w b n M) {ks : List Int} (hk : ks.Nodup) (hm : ∀ i, i ∈ ks ↔ (M i).isSome = true) {t e : TypeId} (ht : Tryz.prog.underlying t = some (.map 3 e)) (ty : TypeId) : (Builtin.len_ #[t] ty #[.map (some b)]).run Tryz.prog w = .ok (.int .i64 ks.length) w := by
  obtain ⟨D, hown, hM⟩ := h
  rw [hown.len ht ty]
  obtain ⟨f1, f2⟩ := intKeys_facts hown
  have hp : ks.Perm (Go.intKeys D) := (List.perm_ext_iff_of_nodup hk f1).2 fun x => by
    rw [hm, f2]
    rw [show Maps.has D (.int .i64 x) = Maps.has D (kl x) from rfl, own_has hown, hM]
  have e2 : (Go.intKeys D).length = Maps.size D := by
    obtain ⟨es, rfl⟩ := own_isMap hown
    simp [Go.intKeys, Maps.size]
  rw [hp.length_eq, e2]
open Go.RowKit
def MakePost (w : World) (e : Ending) (w' : World) : Prop := ∃ t T q, e = .returned (.tuple #[.pointer (some ⟨t, 0, none⟩), .int .i64 0]) ∧ TreeAt w' (fun g => w.heap.size ≤ g) t T q ∧ q ≤ 10 ∧ IsT0 T ∧ Fresh w w'
set_option maxRecDepth 100000 in
set_option maxHeartbeats 3200000 in
theorem make0_any (w : World) (gd q : Nat) (Md : Int → Option Value) (hm : MapAt w gd q Md) (hq : q ≤ 1000) (h0 : ∀ i, Md i = if i = 0 then some (.slice none 0 0) else none) : Calls Tryz.prog 264 #[.int .i64 1, .map (some gd)] w (MakePost w) := by
  have hmm := @run_makeMap Tryz.prog
  have h00 : Md 0 = some (.slice none 0 0) := by rw [h0]; rfl
  have hgl := hm.lt
  have f2 : Fresh w ((w.alloc (.map #[] 0)).alloc (.cells #[.int .i64 1, .map (some gd), .slice none 0 0, .map (some w.heap.size), .map none, .bool false] 420)) := ((Fresh.refl w).alloc _).alloc _
  have hM2 : MapAt ((w.alloc (.map #[] 0)).alloc (.cells #[.int .i64 1, .map (some gd), .slice none 0 0, .map (some w.heap.size), .map none, .bool false] 420)) gd q Md := hm.fresh f2
  have HK2 : Hid (MkAt ((w.alloc (.map #[] 0)).alloc (.cells #[.int .i64 1, .map (some gd), .slice none 0 0, .map (some w.heap.size), .map none, .bool false] 420)) (w.heap.size + 1) gd w.heap.size (.map none)) := Lib.hid (by
    have := Blk.new (w.alloc (.map #[] 0)) 420 #[.int .i64 1, .map (some gd), .slice none 0 0, .map (some w.heap.size), .map none, .bool false]
    rw [World.size_alloc] at this
    exact this)
  have HF2 := Lib.hid f2
  have HM := Lib.hid hm
  have H0 := Lib.hid h0
  have HMU := Lib.hid (fun W m gd gc nm hW => must_any W m gd gc nm hW)
  have HMD := Lib.hid (fun W m gd gc q Md h1 h2 h3 => mdir_any W m gd gc q Md h1 h2 h3)
  have HTN := Lib.hid (fun W => treeNew_any W)
  clear f2 hm h0
  go_enter Tryz.func264, Tryz.ntmps264
  go_wp2_with (first
    | (at_lookup; refine wpList_lookOkI _ rfl _ _ 155 rfl 83 Tryz.underlying155 _ (zeroL _) gd q Md rfl hM2 0 rfl (by unfold I64; omega) (.slice none 0 0) (by rw [h00]; rfl) true (by rw [h00]; rfl) ?_)
    | fail)
  refine (HMU.out _ _ _ _ _ HK2.out).mono ?_
  rintro e w3 ⟨rfl, k3, u3⟩
  have c5 : w3.cell? ⟨w.heap.size + 1, 5, none⟩ = some (.bool false) := by rw [(show Blk w3 (w.heap.size + 1) _ _ from k3).cell]; rfl
  have HK3 := Lib.hid k3
  have HF3 : Hid (Fresh w w3) := Lib.hid (HF2.out.mut2 u3 (fun j e => by omega))
  clear k3 u3 hM2
  go_wp2_with fail
  refine (HMD.out _ _ _ _ _ _ HK3.out (HM.out.fresh HF3.out) h00).mono ?_
  rintro e w4 ⟨rfl, ⟨nb, k4⟩, u4⟩
  have HK4 := Lib.hid k4
  have HF4 : Hid (Fresh w w4) := Lib.hid (HF3.out.mut2 u4 (fun j e => by omega))
  clear k4 u4 c5
  go_wp2_with fail
  refine (HTN.out _).mono ?_
  rintro e w5 ⟨t, rfl, t5, f5⟩
  obtain ⟨gd2, gf2, pp2, Md2, Mf2, Ap2, hApl, h1, h2, h3, h4, h5, h6, h7, h8, h9, h10, h12, h11⟩ := t5.open
  have c3 : w5.cell? ⟨t, 3, none⟩ = some (.int .i64 1) := by rw [h1.cell]; rfl
  have e3 : w5.frozen? ⟨t, 3, none⟩ = false := h1.frozen 3
  have htl := h1.lt
  have z4 := HF4.out.size
  have htg : w4.heap.size ≤ t := h2.1
  have b6 : Blk (w5.setCell ⟨t, 3, none⟩ (.int .i64 1)) t 159 #[.map (some gd2), .map (some gf2), .pointer (some ⟨pp2, 0, none⟩), .int .i64 1] := h1.set (i := 3)
  have u6 : Mut (fun j => j = t) w5 (w5.setCell ⟨t, 3, none⟩ (.int .i64 1)) := (Mut.refl (fun j => j = t) w5).setCell (p := ⟨t, 3, none⟩) (.inl rfl) _
  obtain ⟨W6, hW6⟩ : ∃ W6, w5.setCell ⟨t, 3, none⟩ (.int .i64 1) = W6 := ⟨_, rfl⟩
  rw [hW6] at b6 u6
  have F6 : Fresh w W6 := (HF4.out.trans f5).mut2 u6 (fun j e => by omega)
  have K6 : MkAt W6 (w.heap.size + 1) gd w.heap.size (.map (some nb)) := ((show Blk w4 _ _ _ from HK4.out).keep f5).mut u6 (fun e => by have := (show Blk w4 _ _ _ from HK4.out).lt; omega)
  have m6 : MapAt W6 gd2 1 Md2 := h6.mut u6 (fun e => by have := h1.neMap h6; omega)
  have mf6 : MapAt W6 gf2 1 Mf2 := h7.mut u6 (fun e => by have := h1.neMap h7; omega)
  have hgd2 : w4.heap.size ≤ gd2 := h3.1
  have hgf2 : w4.heap.size ≤ gf2 := h4.1
  have HMf : Hid (∀ i, Mf2 i = none) := Lib.hid (fun i => by rw [h8]; rfl)
  have PK := Lib.hid (And.intro b6 (And.intro F6 (And.intro K6 (And.intro m6 (And.intro mf6 (HM.out.fresh F6))))))
  have HMd2 : Hid (∀ i, i ≠ 0 → Md2 i = none) := Lib.hid (fun i hi => h10 i (by unfold T0; simp only; rw [if_neg hi]))
  clear h1 h2 h3 h4 h6 h7 h8 h9 h10 h12 h11 b6 u6 F6 K6 m6 mf6 t5 f5 hApl
  have m6d : MapAt W6 gd q Md := PK.out.2.2.2.2.2
  have hgd : gd ≠ gd2 := by omega
  go_wp2_with (at_range; refine wpList_rangeI _ rfl _ 155 rfl 83 Tryz.underlying155 gd q Md rfl m6d ?_; intro w7 cnt7 rg7 hc7 f7 s7)
  go_frame
  have z6 : w.heap.size ≤ W6.heap.size := PK.out.2.1.size
  have htl6 : t < W6.heap.size := PK.out.1.lt
  have hgl2 : gd2 < W6.heap.size := PK.out.2.2.2.1.lt
  clear m6d c3 e3
  refine wp_loop_rounds 2 ?_
  rw [rounds_succ]
  go_wp2_with (at_next; refine wpList_nextI _ rfl _ rfl gd W6.heap.size q Md _ cnt7 rfl rg7 ?_ ?_)
  · intro hl
    have := hl 0
    rw [h00] at this
    cases this
  · intro x c w8 cnt8 hx hLx hMx rg8 hlt u8 z8 hen
    have hx0 : x = 0 := by
      rw [H0.out] at hMx
      by_cases e : x = 0
      · exact e
      · rw [if_neg e] at hMx; cases hMx
    subst hx0
    rw [h00] at hMx
    injection hMx with hMx
    subst hMx
    have hfm : Mut (fun j => j = W6.heap.size) W6 w8 := Fresh.andMut f7 u8
    have f8 : Fresh W6 w8 := f7.mut2 u8 (fun j e => by omega)
    have d0 : w8.cell? ⟨t, 0, none⟩ = some (.map (some gd2)) := ((PK.out.1.keep f8).cell 0).trans rfl
    have htl8 : t < w8.heap.size := Nat.lt_of_lt_of_le htl6 f8.size
    have HCL : Hid (∀ W, Fresh w8 W → Calls Tryz.prog 78 #[.slice none 0 0] W fun e w' => ∃ a c, e = .returned (.slice a 0 c) ∧ OwnE w' (fun g => w8.heap.size ≤ g) (.slice a 0 c) [] ∧ Fresh w8 w' ∧ (∀ o, w'.cell? ⟨t, o, none⟩ = w8.cell? ⟨t, o, none⟩)) := Lib.hid (fun W hW => (cloneE_any (fun _ => True) _ [] W (OwnE.sl (OwnA.nil _ _ _ _)) (by simp)).mono fun e w' ⟨v, he, ho, hf⟩ => by
      obtain ⟨a, c, rfl⟩ := ho.shape
      exact ⟨a, c, he, OwnA.mono ho (fun g _ hg => Nat.le_trans hW.size hg), hW.trans hf, fun o => Below.cell (hW.trans hf) (p := ⟨t, o, none⟩) htl8⟩)
    have HM8 : Hid (MapAt w8 gd2 1 Md2) := Lib.hid (PK.out.2.2.2.1.fresh f8)
    have RG8 := Lib.hid rg8
    have HF8 := Lib.hid f8
    have hz8 : W6.heap.size ≤ w8.heap.size := f8.size
    clear rg7 rg8 f7 u8 hfm f8
    go_wp2_with fail
    go_region_law (first
      | (go_simp; go_at_call 78; refine (HCL.out _ (by repeat (first | exact Fresh.refl _ | refine Fresh.drew ?_))).mono ?_; rintro e w9 ⟨a9, c9, rfl, ho9, hf9, hc9⟩; obtain ⟨w10, hrun10, m10, u10, z10⟩ := (HM8.out.fresh hf9).storeRun Tryz.underlying155 (by omega) hx (.slice a9 0 c9)))
    all_goals
      have hf9' : Fresh w8 w9 := by first | exact hf9 | exact hf9.undr
      have f69 : Fresh W6 w9 := HF8.out.trans hf9'
      have n1 : t ≠ gd2 := PK.out.1.neMap PK.out.2.2.2.1
      have n2 : w.heap.size + 1 ≠ gd2 := (show Blk W6 (w.heap.size + 1) _ _ from PK.out.2.2.1).neMap PK.out.2.2.2.1
      have rg10 : RangAt w10 gd W6.heap.size q Md (fun i => (Md i).isSome && !decide (i = 0)) cnt8 := (RG8.out.mut (hf9'.mut (fun _ => False)) (fun q => q) (fun q => q)).mut u10 hgd (by omega)
      have P10 : Hid (Blk w10 t 159 #[.map (some gd2), .map (some gf2), .pointer (some ⟨pp2, 0, none⟩), .int .i64 1] ∧ MkAt w10 (w.heap.size + 1) gd w.heap.size (.map (some nb)) ∧ MapAt w10 gd2 2 (fun i => if i = 0 then some (.slice a9 0 c9) else Md2 i) ∧ MapAt w10 gf2 1 Mf2 ∧ MapAt w10 gd q Md ∧ Fresh w w10 ∧ OwnE w10 (fun g => w8.heap.size ≤ g) (.slice a9 0 c9) []) := Lib.hid ⟨(PK.out.1.keep f69).mut u10 n1, ((show Blk W6 (w.heap.size + 1) _ _ from PK.out.2.2.1).keep f69).mut u10 n2, m10, (PK.out.2.2.2.2.1.fresh f69).mut u10 (fun e => h5 e.symm), rg10.map, (PK.out.2.1.trans f69).mut2 u10 (fun j e => by omega), OwnA.mutB ho9 u10 (fun g hg e => OwnA.neMap ho9 (HM8.out.fresh hf9') (by rw [hg, e]))⟩
      clear hc9 hrun10 u10 m10 ho9 hf9 hf9' f69 hen
      go_wp2_with fail
      refine wp_loop_rounds 1 ?_
      rw [rounds_succ]
      go_wp2_with fail
      rw [rounds_succ]
      go_wp2_with (at_next; refine wpList_nextI _ rfl _ rfl gd W6.heap.size q Md _ cnt8 rfl rg10 ?_ ?_)
      · intro _
        clear rg10
        obtain ⟨bt, bm, mgd2, mgf2, mgd, fw, oe⟩ := P10.out
        have e0 : w10.cell? ⟨w.heap.size + 1, 5, none⟩ = some (.bool false) := by rw [(show Blk w10 _ _ _ from bm).cell]; rfl
        have e2 : w10.cell? ⟨w.heap.size + 1, 2, none⟩ = some (.slice none 0 0) := by rw [(show Blk w10 _ _ _ from bm).cell]; rfl
        have hl1 : ∀ nq, (Builtin.len_ #[155] 3 #[.map (some gd)]).run Tryz.prog (w10.drewN nq) = .ok (.int .i64 1) (w10.drewN nq) := fun nq => (mgd.drewN nq).size (ks := [0]) (by simp) (fun i => by rw [H0.out]; by_cases e : i = 0 <;> simp [e]) Tryz.underlying155 _
        have hl2 : ∀ nq, (Builtin.len_ #[156] 3 #[.map (some gf2)]).run Tryz.prog (w10.drewN nq) = .ok (.int .i64 0) (w10.drewN nq) := fun nq => (mgf2.drewN nq).size (ks := []) (by simp) (fun i => by rw [HMf.out]; simp) Tryz.underlying156 _
        have t1 : w10.cell? ⟨t, 1, none⟩ = some (.map (some gf2)) := by rw [bt.cell]; rfl
        clear bt bm mgd2 mgf2 mgd fw oe
        go_wp2_with fail
        go_quiet (fail)
        all_goals
          go_wp2_with fail
          refine (idsNew_none _ none 0).mono ?_
          rintro e w11 ⟨pp, rfl, hp, hf11⟩
          obtain ⟨bt, bm, mgd2, mgf2, mgd, fw, oe⟩ := P10.out
          have f11 : Fresh w10 w11 := ⟨hf11.os, hf11.tape, hf11.output, hf11.size, hf11.block⟩
          have bt2 := bt.keep f11
          have z10 := fw.size
          have d2 : w11.cell? ⟨t, 2, none⟩ = some (.pointer (some ⟨pp2, 0, none⟩)) := by rw [bt2.cell]; rfl
          have e2 : w11.frozen? ⟨t, 2, none⟩ = false := bt2.frozen 2
          have htl10 := bt.lt
          have hgd10 := mgd2.lt
          have hgf10 := mgf2.lt
          have u12 : Mut (fun j => j = t) w11 (w11.setCell ⟨t, 2, none⟩ (.pointer (some ⟨pp, 0, none⟩))) := (Mut.refl (fun j => j = t) w11).setCell (p := ⟨t, 2, none⟩) (.inl rfl) _
          have bt3 : Blk (w11.setCell ⟨t, 2, none⟩ (.pointer (some ⟨pp, 0, none⟩))) t 159 #[.map (some gd2), .map (some gf2), .pointer (some ⟨pp, 0, none⟩), .int .i64 1] := bt2.set (i := 2)
          have hpn : ∀ k, (w10.drewN nq).heap.size ≤ k → k ≠ t := fun k hk => by have : w10.heap.size ≤ k := hk; omega
          have hfin : TreeAt (w11.setCell ⟨t, 2, none⟩ (.pointer (some ⟨pp, 0, none⟩))) (fun g => w.heap.size ≤ g) t T0 3 := by
            refine ⟨gd2, gf2, pp, _, Mf2, fun g => w10.heap.size ≤ g, bt3, ⟨by omega, by omega⟩, ⟨by omega, by omega⟩, ⟨by omega, by omega⟩, h5, ((mgd2.fresh f11).mut u12 (fun e => by have := bt.neMap mgd2; omega)).mono (by omega), ((mgf2.fresh f11).mut u12 (fun e => by have := bt.neMap mgf2; omega)).mono (by omega), fun i => by rw [HMf.out]; rfl, fun i l hi => ?_, fun i hi => ?_, fun k hk => by omega, ((show PoolAt w11 (fun g => w10.heap.size ≤ g) pp 1 [] (fun _ => false) 0 from hp).mut u12 (fun k hk e => by omega)).le (by omega)⟩
            · unfold T0 at hi
              simp only at hi
              by_cases e : i = 0
              · rw [if_pos e] at hi
                injection hi with hi
                subst hi
                have o11 := OwnA.fresh (OwnA.mono oe (fun g hg hh => (⟨hh, hg⟩ : w8.heap.size ≤ g ∧ g < w10.heap.size))) f11
                refine ⟨_, if_pos e, OwnA.mono (OwnA.mutB o11 u12 (fun g hg e => OwnA.ne o11 bt2 (by decide) (by rw [hg, e]))) (fun g hg hh => ⟨by omega, by omega⟩)⟩
              · rw [if_neg e] at hi; cases hi
            · unfold T0 at hi
              simp only at hi
              by_cases e : i = 0
              · rw [if_pos e] at hi; cases hi
              · rw [if_neg e]; exact HMd2.out i e
          have hfw : Fresh w (w11.setCell ⟨t, 2, none⟩ (.pointer (some ⟨pp, 0, none⟩))) := (fw.trans f11).mut2 u12 (fun j e => by omega)
          have HFIN := Lib.hid (And.intro hfin hfw)
          clear hfin hfw hp hf11 f11 bt2 bt3 u12 bt bm mgd2 mgf2 mgd fw oe
          go_wp2
          go_ret2
          exact ⟨t, T0, 3, rfl, HFIN.out.1, by omega, isT0, HFIN.out.2⟩
      · intro x c w11 cnt11 hx2 hLx2 hn hMx2
        rw [H0.out, if_neg hn] at hMx2
        cases hMx2
end Go.Proofs.YtpmlggjhfiljmaaGreatDoor
