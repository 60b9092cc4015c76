/- Contracts that the law rests on, part 47 of 50 (FsyB, FsyC). Each states its own conditions. -/
import Derived.Test.YtpmlggjhfiljmaaGreatDoorB46
/- Layer 17: asking: at. -/
namespace Go.Proofs.YtpmlggjhfiljmaaGreatDoor
open Go.RowKit
set_option linter.unusedVariables false
set_option linter.unnecessarySimpa false
set_option linter.unusedSimpArgs false
attribute [local go_sem ↓] Go.wp_at_zero Go.wp_at_succ

theorem splitP_ne {s : ByteArray} {k : Int} (h : splitP s = .inr k) : k ≠ 0 := by
  unfold splitP at h
  split at h
  · injection h with h; omega
  · split at h
    · injection h with h; omega
    · split at h
      · cases h
      · split at h
        · injection h with h; omega
        · split at h
          · injection h with h; omega
          · cases h
theorem stepT_ne {enc : Int} {T : TreS} {d : Int} {s : ByteArray} {k : Int} (h : stepT enc T d s = .inr k) : k ≠ 0 := by
  unfold stepT at h
  split at h
  · injection h with h; rw [← h]; split <;> omega
  · split at h
    · injection h with h; omega
    · cases h
theorem walkT_ne {enc : Int} {T : TreS} {k : Int} : ∀ {l : List ByteArray} {st : Int × Bool}, walkT enc T st l = .inr k → k ≠ 0
  | [], st, h => by unfold walkT at h; cases h
  | n :: l, st, h => by
    unfold walkT at h
    split at h
    · exact walkT_ne h
    · rename_i k' hk'
      injection h with h
      subst h
      exact stepT_ne hk'
theorem walkT_node {enc : Int} {T : TreS} (hT : TOK enc T) {st' : Int × Bool} : ∀ {l : List ByteArray} {st : Int × Bool}, I64 st.1 → walkT enc T st l = .inl st' → I64 st'.1
  | [], st, hi, h => by unfold walkT at h; injection h with h; subst h; exact hi
  | n :: l, st, hi, h => by
    unfold walkT at h
    split at h
    · rename_i e he
      exact walkT_node hT (stepT_node hT he) h
    · cases h
theorem i64_0 : I64 0 := ⟨by omega, by omega⟩
theorem pathT_ne {enc : Int} {T : TreS} {s : ByteArray} {k : Int} (h : pathT enc T s = .inr k) : k ≠ 0 := by
  unfold pathT at h
  split at h
  · rename_i k' hk
    injection h with h
    subst h
    exact splitP_ne hk
  · exact walkT_ne h
theorem pathT_node {enc : Int} {T : TreS} (hT : TOK enc T) {s : ByteArray} {st : Int × Bool} (h : pathT enc T s = .inl st) : I64 st.1 := by
  unfold pathT at h
  split at h
  · cases h
  · exact walkT_node hT (show I64 ((0 : Int), true).1 from i64_0) h
theorem parT_ne {enc : Int} {T : TreS} {s : ByteArray} {k : Int} (h : parT enc T s = .inr k) : k ≠ 0 := by
  unfold parT at h
  split at h
  · rename_i k' hk
    injection h with h
    subst h
    exact splitP_ne hk
  · split at h
    · injection h with h; omega
    · split at h
      · rename_i k' hk
        injection h with h
        subst h
        exact walkT_ne hk
      · split at h
        · cases h
        · injection h with h; omega
theorem parT_node {enc : Int} {T : TreS} (hT : TOK enc T) {s : ByteArray} {r : Int × ByteArray} (h : parT enc T s = .inl r) : I64 r.1 := by
  unfold parT at h
  split at h
  · cases h
  · split at h
    · cases h
    · split at h
      · cases h
      · rename_i st hst
        split at h
        · injection h with h
          subst h
          exact walkT_node hT (show I64 ((0 : Int), true).1 from i64_0) hst
        · cases h
/-- what 'at' answers -/
def atR (enc : Int) (T : TreS) (path : ByteArray) : Int × ByteArray × Ent × Int := match parT enc T path with
  | .inr k => (0, ⟨#[]⟩, ent0, k)
  | .inl r => match ((T.dirs r.1).getD []).find? (faceB enc r.2) with
    | none => (r.1, r.2, ent0, 5)
    | some e => (r.1, r.2, e, 0)
def AtF (r : Int × ByteArray × Ent × Int) (w : World) (e : Ending) (w' : World) : Prop := e = .returned (.tuple #[.int .i64 r.1, .string r.2.1, entV r.2.2.1, .int .i64 r.2.2.2]) ∧ Fresh w w'
section
variable (enc : Int) (A : Nat → Prop) (f s tr : Nat) (T : TreS) (q : Nat) (hT : TOK enc T) (w : World) (hv : FsV w f s enc tr) (h : TreeAt w A tr T q)
include hT hv h
set_option maxRecDepth 100000 in
set_option maxHeartbeats 3200000 in
theorem at_any2 (path : ByteArray) (hp : path.size ≤ 1000000) : Calls Tryz.prog 126 #[.pointer (some ⟨f, 0, none⟩), .string path] w (AtF (atR enc T path) w) := by
  have HP := Lib.hid (fun W (hW : Fresh w W) => (wpar_any enc A tr T q hT path hp W (h.fresh hW)).mono fun _ _ h => h.fn)
  have HLS := Lib.hid (fun d hd W (hW : Fresh w W) => ls_any (d := d) (h.fresh hW) hd hT)
  have HO := Lib.hid hT.of2
  have HLN := Lib.hid hT.len2
  have HS : Hid (∀ W, Fresh w W → W.cell? ⟨f, 1, none⟩ = some (.int .i64 enc) ∧ W.cell? ⟨f, 2, none⟩ = some (.pointer (some ⟨tr, 0, none⟩))) := Lib.hid (fun W hW => ⟨(Blk.keep hv hW).cell 1, (Blk.keep hv hW).cell 2⟩)
  have c1 : w.cell? ⟨f, 1, none⟩ = some (.int .i64 enc) := hv.cell 1
  have c2 : w.cell? ⟨f, 2, none⟩ = some (.pointer (some ⟨tr, 0, none⟩)) := hv.cell 2
  have hfl := Blk.lt hv
  obtain ⟨W0, hW0⟩ : ∃ W0, w.alloc (.cells #[.string ⟨#[]⟩, .int .i64 0, .bool false, .int .i64 0, .int .i64 0] 88) = W0 := ⟨_, rfl⟩
  have HW0 : Hid (Fresh w W0 ∧ Blk W0 w.heap.size 88 #[.string ⟨#[]⟩, .int .i64 0, .bool false, .int .i64 0, .int .i64 0]) := Lib.hid (by rw [← hW0]; exact ⟨(Fresh.refl _).alloc _, Blk.new _ _ _⟩)
  unfold atR
  cases hpt : parT enc T path with
  | inr k =>
    rw [hpt] at HP
    unfold pvR at HP
    simp only
    have hk := parT_ne hpt
    have hkb : (k != 0) = true := by simp [hk]
    obtain ⟨d1, d2⟩ := HS.out W0 HW0.out.1
    clear hv h hT hpt hk c1 c2
    go_enter Tryz.func126, Tryz.ntmps126
    go_wp2_with fail
    go_region_held3 (fun W => W.cell? ⟨f, 1, none⟩ = some (.int .i64 enc) ∧ W.cell? ⟨f, 2, none⟩ = some (.pointer (some ⟨tr, 0, none⟩))) (first | go_keep | exact HS.out _ (HW0.out.1.trans (by repeat (first | assumption | exact Fresh.refl _ | refine Fresh.alloc ?_ _ | refine Fresh.drew ?_)))) (first
      | (go_at_call 182; refine (HP.out _ (HW0.out.1.trans (by repeat (first | exact Fresh.refl _ | refine Fresh.drew ?_)))).mono ?_; rintro e w2 ⟨rfl, hf2⟩; have hf3 : Fresh W0 w2 := Fresh.trans (by repeat (first | exact Fresh.refl _ | refine Fresh.drew ?_)) hf2; clear hf2))
    all_goals
      have HF := Lib.hid (HW0.out.1.trans hf3)
      have hb := HW0.out.2.keep hf3
      have f0 : w2.frozen? ⟨w.heap.size, 0, none⟩ = false := hb.frozen 0
      have g0 : w2.cell? ⟨w.heap.size, 0, none⟩ = some (.string ⟨#[]⟩) := hb.cell 0
      have f1 : w2.frozen? ⟨w.heap.size, 1, none⟩ = false := hb.frozen 1
      have g1 : w2.cell? ⟨w.heap.size, 1, none⟩ = some (.int .i64 0) := hb.cell 1
      have f2 : w2.frozen? ⟨w.heap.size, 2, none⟩ = false := hb.frozen 2
      have g2 : w2.cell? ⟨w.heap.size, 2, none⟩ = some (.bool false) := hb.cell 2
      have f3 : w2.frozen? ⟨w.heap.size, 3, none⟩ = false := hb.frozen 3
      have g3 : w2.cell? ⟨w.heap.size, 3, none⟩ = some (.int .i64 0) := hb.cell 3
      have f4 : w2.frozen? ⟨w.heap.size, 4, none⟩ = false := hb.frozen 4
      have g4 : w2.cell? ⟨w.heap.size, 4, none⟩ = some (.int .i64 0) := hb.cell 4
      have HZ := Lib.hid (Blk.set5 hb (.string ⟨#[]⟩) (.int .i64 0) (.bool false) (.int .i64 0) (.int .i64 0))
      clear hW0 hf3 d1 d2 hb
      go_wp2
      have hz := HZ.out
      refine bodyPost_ret (v := .tuple #[.int .i64 0, .string ⟨#[]⟩, entV ent0, .int .i64 k]) ?_ rfl ?_
      · simp [results, Tryz.results126, go_sem, hz.cell 0, hz.cell 1, hz.cell 2, hz.cell 3, hz.cell 4]
        exact ⟨rfl, rfl, rfl, rfl, rfl⟩
      · exact ⟨rfl, Fresh.setCell (Fresh.setCell (Fresh.setCell (Fresh.setCell (Fresh.setCell HF.out (Nat.le_refl _) _) (Nat.le_refl _) _) (Nat.le_refl _) _) (Nat.le_refl _) _) (Nat.le_refl _) _⟩
  | inl r =>
    rw [hpt] at HP
    obtain ⟨d, nm⟩ := r
    unfold pvR at HP
    simp only
    have hd : I64 d := parT_node hT hpt
    have HL := Lib.hid (fun W (hW : Fresh w W) => HLS.out d hd W hW)
    have HOd := Lib.hid (HO.out d)
    have HLd := Lib.hid (HLN.out d)
    obtain ⟨l, hl⟩ : ∃ l, (T.dirs d).getD [] = l := ⟨_, rfl⟩
    rw [hl] at HL HOd HLd ⊢
    obtain ⟨x, hx⟩ : ∃ x, l.find? (faceB enc nm) = x := ⟨_, rfl⟩
    have HXX := Lib.hid hx
    rw [hx]
    obtain ⟨d1, d2⟩ := HS.out W0 HW0.out.1
    clear hv h hT hpt c1 c2 hd hl HLS HO HLN hx
    go_enter Tryz.func126, Tryz.ntmps126
    go_wp2_with fail
    go_region_held3 (fun W => W.cell? ⟨f, 1, none⟩ = some (.int .i64 enc) ∧ W.cell? ⟨f, 2, none⟩ = some (.pointer (some ⟨tr, 0, none⟩))) (first | go_keep | exact HS.out _ (HW0.out.1.trans (by repeat (first | assumption | exact Fresh.refl _ | refine Fresh.alloc ?_ _ | refine Fresh.drew ?_)))) (first
      | (go_at_call 182; refine (HP.out _ (HW0.out.1.trans (by repeat (first | exact Fresh.refl _ | refine Fresh.drew ?_)))).mono ?_; rintro e w2 ⟨rfl, hf2⟩; have hf3 : Fresh W0 w2 := Fresh.trans (by repeat (first | exact Fresh.refl _ | refine Fresh.drew ?_)) hf2; clear hf2))
    all_goals
      have HF := Lib.hid (And.intro hf3 (HW0.out.1.trans hf3))
      obtain ⟨e1, e2⟩ := HS.out w2 HF.out.2
      clear hW0 hf3 d1 d2
      go_wp2_with fail
      refine (HL.out _ HF.out.2).mono ?_
      rintro e w3 ⟨a, c, k, rfl, hsl, hf3⟩
      have HF3 := Lib.hid (And.intro (HF.out.1.trans hf3) (HF.out.2.trans hf3))
      have HFD := Lib.hid (ffind_any enc _ _ l nm w3 hsl (by have := HLd.out; omega) HOd.out)
      rw [HXX.out] at HFD
      obtain ⟨d1, d2⟩ := HS.out w3 HF3.out.2
      clear hsl hf3 e1 e2
      go_wp2_with fail
      refine HFD.out.mono ?_
      rintro e w4 ⟨rfl, hf4⟩
      have HF4 := Lib.hid (And.intro (HF3.out.1.trans hf4) (HF3.out.2.trans hf4))
      clear hf4 d1 d2
      cases x with
      | none =>
        simp only [Option.getD_none, Option.isSome_none]
        have h45 : Fresh w4 (w4.alloc (.cells #[.string ⟨#[]⟩, .int .i64 0, .bool false, .int .i64 0, .int .i64 0] 88)) := (Fresh.refl _).alloc _
        have HF5 := Lib.hid (HF4.out.2.trans h45)
        have hb := HW0.out.2.keep (HF4.out.1.trans h45)
        have f0 : (w4.alloc (.cells #[.string ⟨#[]⟩, .int .i64 0, .bool false, .int .i64 0, .int .i64 0] 88)).frozen? ⟨w.heap.size, 0, none⟩ = false := hb.frozen 0
        have g0 : (w4.alloc (.cells #[.string ⟨#[]⟩, .int .i64 0, .bool false, .int .i64 0, .int .i64 0] 88)).cell? ⟨w.heap.size, 0, none⟩ = some (.string ⟨#[]⟩) := hb.cell 0
        have f1 : (w4.alloc (.cells #[.string ⟨#[]⟩, .int .i64 0, .bool false, .int .i64 0, .int .i64 0] 88)).frozen? ⟨w.heap.size, 1, none⟩ = false := hb.frozen 1
        have g1 : (w4.alloc (.cells #[.string ⟨#[]⟩, .int .i64 0, .bool false, .int .i64 0, .int .i64 0] 88)).cell? ⟨w.heap.size, 1, none⟩ = some (.int .i64 0) := hb.cell 1
        have f2 : (w4.alloc (.cells #[.string ⟨#[]⟩, .int .i64 0, .bool false, .int .i64 0, .int .i64 0] 88)).frozen? ⟨w.heap.size, 2, none⟩ = false := hb.frozen 2
        have g2 : (w4.alloc (.cells #[.string ⟨#[]⟩, .int .i64 0, .bool false, .int .i64 0, .int .i64 0] 88)).cell? ⟨w.heap.size, 2, none⟩ = some (.bool false) := hb.cell 2
        have f3 : (w4.alloc (.cells #[.string ⟨#[]⟩, .int .i64 0, .bool false, .int .i64 0, .int .i64 0] 88)).frozen? ⟨w.heap.size, 3, none⟩ = false := hb.frozen 3
        have g3 : (w4.alloc (.cells #[.string ⟨#[]⟩, .int .i64 0, .bool false, .int .i64 0, .int .i64 0] 88)).cell? ⟨w.heap.size, 3, none⟩ = some (.int .i64 0) := hb.cell 3
        have f4 : (w4.alloc (.cells #[.string ⟨#[]⟩, .int .i64 0, .bool false, .int .i64 0, .int .i64 0] 88)).frozen? ⟨w.heap.size, 4, none⟩ = false := hb.frozen 4
        have g4 : (w4.alloc (.cells #[.string ⟨#[]⟩, .int .i64 0, .bool false, .int .i64 0, .int .i64 0] 88)).cell? ⟨w.heap.size, 4, none⟩ = some (.int .i64 0) := hb.cell 4
        have HZ := Lib.hid (Blk.set5 hb (.string ⟨#[]⟩) (.int .i64 0) (.bool false) (.int .i64 0) (.int .i64 0))
        clear h45 hb
        unfold ent0
        go_wp2
        have hz := HZ.out
        refine bodyPost_ret (v := .tuple #[.int .i64 d, .string nm, entV ent0, .int .i64 5]) ?_ rfl ?_
        · simp [results, Tryz.results126, go_sem, hz.cell 0, hz.cell 1, hz.cell 2, hz.cell 3, hz.cell 4]
          exact ⟨rfl, rfl, rfl, rfl, rfl⟩
        · exact ⟨rfl, Fresh.setCell (Fresh.setCell (Fresh.setCell (Fresh.setCell (Fresh.setCell HF5.out (Nat.le_refl _) _) (Nat.le_refl _) _) (Nat.le_refl _) _) (Nat.le_refl _) _) (Nat.le_refl _) _⟩
      | some y =>
        obtain ⟨yn, yd, yr, yc, ys⟩ := y
        simp only [Option.getD_some, Option.isSome_some]
        obtain ⟨W5, hW5⟩ : ∃ W5, w4.alloc (.cells #[.string yn, .int .i64 yd, .bool yr, .int .i64 yc, .int .i64 ys] 88) = W5 := ⟨_, rfl⟩
        have h45 : Fresh w4 W5 := by rw [← hW5]; exact (Fresh.refl _).alloc _
        have HF5 := Lib.hid (HF4.out.2.trans h45)
        have hb := HW0.out.2.keep (HF4.out.1.trans h45)
        have hc : Blk W5 w4.heap.size 88 #[.string yn, .int .i64 yd, .bool yr, .int .i64 yc, .int .i64 ys] := by rw [← hW5]; exact Blk.new _ _ _
        have hne : w.heap.size ≠ w4.heap.size := by have := HW0.out.2.lt; have := HF4.out.1.size; omega
        have f0 : W5.frozen? ⟨w.heap.size, 0, none⟩ = false := hb.frozen 0
        have g0 : W5.cell? ⟨w.heap.size, 0, none⟩ = some (.string ⟨#[]⟩) := hb.cell 0
        have f1 : W5.frozen? ⟨w.heap.size, 1, none⟩ = false := hb.frozen 1
        have g1 : W5.cell? ⟨w.heap.size, 1, none⟩ = some (.int .i64 0) := hb.cell 1
        have f2 : W5.frozen? ⟨w.heap.size, 2, none⟩ = false := hb.frozen 2
        have g2 : W5.cell? ⟨w.heap.size, 2, none⟩ = some (.bool false) := hb.cell 2
        have f3 : W5.frozen? ⟨w.heap.size, 3, none⟩ = false := hb.frozen 3
        have g3 : W5.cell? ⟨w.heap.size, 3, none⟩ = some (.int .i64 0) := hb.cell 3
        have f4 : W5.frozen? ⟨w.heap.size, 4, none⟩ = false := hb.frozen 4
        have g4 : W5.cell? ⟨w.heap.size, 4, none⟩ = some (.int .i64 0) := hb.cell 4
        have HZ := Lib.hid (Blk.set5 hb (.string yn) (.int .i64 yd) (.bool yr) (.int .i64 yc) (.int .i64 ys))
        obtain ⟨z, hz⟩ : ∃ z, w4.heap.size = z := ⟨_, rfl⟩
        rw [hz] at hc hne
        have HZZ := Lib.hid hz
        have e0 : W5.cell? ⟨z, 0, none⟩ = some (.string yn) := hc.cell 0
        have e1 : W5.cell? ⟨z, 1, none⟩ = some (.int .i64 yd) := hc.cell 1
        have e2 : W5.cell? ⟨z, 2, none⟩ = some (.bool yr) := hc.cell 2
        have e3 : W5.cell? ⟨z, 3, none⟩ = some (.int .i64 yc) := hc.cell 3
        have e4 : W5.cell? ⟨z, 4, none⟩ = some (.int .i64 ys) := hc.cell 4
        clear h45 hb hc
        go_wp2_with fail
        clear hW5
        go_region
        all_goals
          go_wp2
          have hzz := HZ.out
          refine bodyPost_ret (v := .tuple #[.int .i64 d, .string nm, entV ⟨yn, yd, yr, yc, ys⟩, .int .i64 0]) ?_ rfl ?_
          · simp [results, Tryz.results126, go_sem, hzz.cell 0, hzz.cell 1, hzz.cell 2, hzz.cell 3, hzz.cell 4]
          · exact ⟨rfl, Fresh.drew (Fresh.setCell (Fresh.setCell (Fresh.setCell (Fresh.setCell (Fresh.setCell HF5.out (Nat.le_refl _) _) (Nat.le_refl _) _) (Nat.le_refl _) _) (Nat.le_refl _) _) (Nat.le_refl _) _)⟩
end
end Go.Proofs.YtpmlggjhfiljmaaGreatDoor
/- Layer 17: asking: fresh, list. -/
namespace Go.Proofs.YtpmlggjhfiljmaaGreatDoor
open Go.RowKit
set_option linter.unusedVariables false
set_option linter.unnecessarySimpa false
set_option linter.unusedSimpArgs false
attribute [local go_sem ↓] Go.wp_at_zero Go.wp_at_succ

theorem splL_le : ∀ (l : List UInt8), ∀ x ∈ splL l, x.length ≤ l.length
  | [], x, hx => by simp [splL] at hx; simp [hx]
  | c :: l, x, hx => by
    have ih := splL_le l
    unfold splL at hx
    split at hx
    · rcases List.mem_cons.1 hx with rfl | hx
      · simp
      · have := ih x hx; simp; omega
    · split at hx
      · rename_i h t hq
        rw [hq] at ih
        rcases List.mem_cons.1 hx with rfl | hx
        · have := ih h (by simp); simp; omega
        · have := ih x (by simp [hx]); simp; omega
      · rename_i hq
        exact absurd hq (splL_ne l)
theorem splB_le (s : ByteArray) : ∀ x ∈ splB s, x.size ≤ s.size := by
  intro x hx
  unfold splB at hx
  obtain ⟨l, hl, rfl⟩ := List.mem_map.1 hx
  have := splL_le _ l hl
  have h2 : s.data.toList.length = s.size := Array.length_toList
  show l.toArray.size ≤ _
  simp
  omega
theorem splitP_le {s : ByteArray} {l : List ByteArray} (h : splitP s = .inl l) : ∀ x ∈ l, x.size ≤ s.size := by
  unfold splitP at h
  have hr : (restP s).size ≤ s.size := by unfold restP; rw [ByteArray.size_extract]; omega
  split at h
  · cases h
  · split at h
    · cases h
    · split at h
      · injection h with h; subst h; intro x hx; simp at hx
      · split at h
        · cases h
        · split at h
          · cases h
          · injection h with h
            subst h
            intro x hx
            have := splB_le _ x hx
            omega
theorem parT_le {enc : Int} {T : TreS} {s : ByteArray} {r : Int × ByteArray} (h : parT enc T s = .inl r) : r.2.size ≤ s.size := by
  unfold parT at h
  split at h
  · cases h
  · rename_i l hl
    split at h
    · cases h
    · rename_i hne
      split at h
      · cases h
      · split at h
        · injection h with h
          subst h
          refine splitP_le hl _ ?_
          simp only
          rw [List.getLastD_eq_getLast?, List.getLast?_eq_some_getLast hne]
          exact List.getLast_mem hne
        · cases h
theorem atR_le (enc : Int) (T : TreS) (s : ByteArray) : (atR enc T s).2.1.size ≤ s.size := by
  unfold atR
  split
  · exact Nat.zero_le _
  · rename_i r hr
    have := parT_le hr
    split <;> exact this
def freshR (enc : Int) (T : TreS) (path : ByteArray) : Int × ByteArray × Int :=
  if (atR enc T path).2.2.2 = 0 then (0, ⟨#[]⟩, 6) else if (atR enc T path).2.2.2 ≠ 5 ∨ (atR enc T path).2.1.size = 0 then (0, ⟨#[]⟩, (atR enc T path).2.2.2) else ((atR enc T path).1, (rawF enc (atR enc T path).2.1).1, (rawF enc (atR enc T path).2.1).2)
def listR (enc : Int) (T : TreS) (path : ByteArray) : Int × List Ent × Int :=
  let r := nvR (pathT enc T path)
  if r.2.2 ≠ 0 then (0, [], r.2.2) else if r.2.1 = false then (0, [], 8) else match T.dirs r.1 with
    | some l => (r.1, l, 0)
    | none => (r.1, [], if T.files r.1 = true then 8 else 5)
def ListF (r : Int × List Ent × Int) (w : World) (e : Ending) (w' : World) : Prop := ∃ a c, e = .returned (.tuple #[.int .i64 r.1, .slice a r.2.1.length c, .int .i64 r.2.2]) ∧ SlE w' (fun g => w.heap.size ≤ g) (.slice a r.2.1.length c) r.2.1 ∧ Fresh w w'
section
variable (enc : Int) (A : Nat → Prop) (f s tr : Nat) (T : TreS) (q : Nat) (hT : TOK enc T) (w : World) (hv : FsV w f s enc tr) (h : TreeAt w A tr T q)
include hT hv h
set_option maxRecDepth 100000 in
set_option maxHeartbeats 1600000 in
theorem fresh_any (path : ByteArray) (hp : path.size ≤ 1000000) (h0 : 0 ≤ enc) (h8 : enc ≤ 8) : Calls Tryz.prog 69 #[.pointer (some ⟨f, 0, none⟩), .string path] w (ParF (freshR enc T path) w) := by
  have HA := Lib.hid (at_any2 enc A f s tr T q hT w hv h path hp)
  have hle := atR_le enc T path
  have HV := Lib.hid hv
  unfold freshR
  obtain ⟨r, hr⟩ : ∃ r, atR enc T path = r := ⟨_, rfl⟩
  rw [hr] at HA hle ⊢
  obtain ⟨d, nm, ⟨yn, yd, yr, yc, ys⟩, k⟩ := r
  simp only at HA hle ⊢
  clear hv h hT hr
  by_cases hk : k = 0
  · subst hk
    rw [if_pos rfl]
    go_enter Tryz.func69, Tryz.ntmps69
    go_wp2_with fail
    refine HA.out.mono ?_
    rintro e w2 ⟨rfl, hf⟩
    have HF := Lib.hid (hf.alloc (.cells #[.string yn, .int .i64 yd, .bool yr, .int .i64 yc, .int .i64 ys] 88))
    clear hf
    go_wp2
    go_ret3
    exact ⟨rfl, HF.out⟩
  · rw [if_neg hk]
    have hkb : ((k == 0) : Bool) = false := by simp [hk]
    by_cases h5 : k ≠ 5 ∨ nm.size = 0
    · rw [if_pos h5]
      by_cases h51 : k = 5
      · subst h51
        have hz : nm = ⟨#[]⟩ := by
          have h0 : nm.size = 0 := by rcases h5 with h | h; exact absurd rfl h; exact h
          have : nm.data.toList = [] := List.eq_nil_of_length_eq_zero (by rw [Array.length_toList]; exact h0)
          exact bytes_inj.1 (by rw [ByteArray.toList_eq, ByteArray.toList_eq, this])
        subst hz
        clear h5 hk hkb
        go_enter Tryz.func69, Tryz.ntmps69
        go_wp2_with fail
        refine HA.out.mono ?_
        rintro e w2 ⟨rfl, hf⟩
        have HF := Lib.hid (hf.alloc (.cells #[.string yn, .int .i64 yd, .bool yr, .int .i64 yc, .int .i64 ys] 88))
        clear hf
        go_wp2
        go_ret3
        exact ⟨rfl, HF.out⟩
      · have h5b : (k != 5) = true := by simp [h51]
        clear h5 hk h51
        go_enter Tryz.func69, Tryz.ntmps69
        go_wp2_with fail
        refine HA.out.mono ?_
        rintro e w2 ⟨rfl, hf⟩
        have HF := Lib.hid (hf.alloc (.cells #[.string yn, .int .i64 yd, .bool yr, .int .i64 yc, .int .i64 ys] 88))
        clear hf
        go_wp2
        go_ret3
        exact ⟨rfl, HF.out⟩
    · rw [if_neg h5]
      have h51 : k = 5 := by
        rcases Decidable.em (k = 5) with h | h
        · exact h
        · exact absurd (.inl h) h5
      subst h51
      have hne : nm.toList.isEmpty = false := ne_str (by rcases Nat.eq_zero_or_pos nm.size with h | h; exact absurd (.inr h) h5; exact h)
      have HR := Lib.hid (fun W => fraw_any enc nm h0 h8 (by omega) W)
      unfold RawPost at HR
      obtain ⟨r, hr⟩ : ∃ r, rawF enc nm = r := ⟨_, rfl⟩
      rw [hr] at HR ⊢
      obtain ⟨raw, j⟩ := r
      clear h5 hk hkb hr
      go_enter Tryz.func69, Tryz.ntmps69
      go_wp2_with fail
      refine HA.out.mono ?_
      rintro e w2 ⟨rfl, hf⟩
      have hf2 := hf.alloc (.cells #[.string yn, .int .i64 yd, .bool yr, .int .i64 yc, .int .i64 ys] 88)
      have HF := Lib.hid hf2
      have c1 : (w2.alloc (.cells #[.string yn, .int .i64 yd, .bool yr, .int .i64 yc, .int .i64 ys] 88)).cell? ⟨f, 1, none⟩ = some (.int .i64 enc) := (Blk.keep HV.out hf2).cell 1
      clear hf hf2
      go_wp2_with fail
      refine (HR.out _).mono ?_
      rintro e w3 ⟨rfl, hf3⟩
      have HF3 := Lib.hid (HF.out.trans hf3)
      clear hf3 c1
      go_wp2
      go_ret3
      exact ⟨rfl, HF3.out⟩
end
end Go.Proofs.YtpmlggjhfiljmaaGreatDoor
