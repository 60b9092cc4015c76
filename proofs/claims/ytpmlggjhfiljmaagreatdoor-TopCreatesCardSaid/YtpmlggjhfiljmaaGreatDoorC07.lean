/- Contracts that the law rests on, part 7 of 50 (ChaC, ChaD, ChaE). Each states its own conditions. -/
import Derived.Test.YtpmlggjhfiljmaaGreatDoorC06
/- Shift_JIS: kana. -/
namespace Go.Proofs.YtpmlggjhfiljmaaGreatDoor
open Go.RowKit
set_option linter.unusedVariables false
set_option maxHeartbeats 1600000 in
theorem kana_two (s : ByteArray) (c d : Int) (h0 : 0 < s.size) (h1 : 1 < s.size) (hc : ((s[0]'h0).toNat : Int) = c) (hd : ((s[1]'h1).toNat : Int) = d) (hs : s.size ≤ 140737488351232)
    (hx : 128 ≤ c) (hy : c < 256) (hh : c < 161 ∨ 223 < c) (d0 : 0 ≤ d) (d1 : d < 256) (w : World) :
    Calls Tryz.prog 248 #[.string s] w (PieceIs (kanaP c d true) w) := by
  have HK : Hid (kanaP c d true = if 0 ≤ twoI c d then (twoI c d, 2) else (-1, 1)) := by
    unfold kanaP
    rw [if_neg (by omega), if_neg (by omega)]
    simp [Hid]
  go_enter Tryz.func248, Tryz.ntmps248
  rcases hh with hh | hh
  all_goals
    go_wp2_with fail
    refine (runs_any _).mono ?_
    rintro e w1 ⟨rfl, hf1, hblk⟩
    have hblk' : Blk w1 (w.heap.size + 1) 404 runCells.toArray := by simpa using hblk
    clear hblk
    have hbp := (Blk.new w 119 #[.int .i32 0, .int .i64 0]).keep hf1
    have hf0 : Fresh w w1 := ((Fresh.refl w).alloc _).trans hf1
    go_wp2
    go_loopw [33] (fun i wr => KanaRel c d w1 i wr) (fun i _ => 17 - (intOf i).toNat)
    case atStart => exact ⟨0, rfl, by omega, fun x hx => by simp at hx, Fresh.refl _⟩
    case round =>
      obtain ⟨k, rfl, hk, hm, hf⟩ := hrel
      have HM := Lib.hid hm
      clear hm
      have bp := hbp.keep hf
      have p0 : wr.cell? ⟨w.heap.size, 0, none⟩ = some (.int .i32 0) := bp.cell 0
      have p1 : wr.cell? ⟨w.heap.size, 1, none⟩ = some (.int .i64 0) := bp.cell 1
      have f0 : wr.frozen? ⟨w.heap.size, 0, none⟩ = false := bp.frozen 0
      have f1 : wr.frozen? ⟨w.heap.size, 1, none⟩ = false := bp.frozen 1
      have hne : w.heap.size < wr.heap.size := bp.lt
      by_cases hlt : k < 17
      · have hlt' : k < RT.length := hlt
        obtain ⟨t0, t1, t2, t3⟩ := run_cells hlt'
        have hb2 := hblk'.keep hf
        have HX := Lib.hid (RT_of (List.getElem_mem hlt')).1
        have HMM := Lib.hid (fun h => miss_more hlt' (p := fun x => hitB x c d) HM.out h)
        have HT : Hid (hitB RT[k] c d → twoI c d = (RT[k]).2.2.2 + (d - (RT[k]).2.1)) := fun h => two_of (List.getElem_mem hlt') h
        generalize RT[k] = x at t0 t1 t2 t3 HX HMM HT
        obtain ⟨x0, x1, x2, x3⟩ := x
        have c0 : wr.cell? ⟨w.heap.size + 1, k * 4, none⟩ = some (.int .u8 x0) := by rw [hb2.cell]; simpa using t0
        have c1 : wr.cell? ⟨w.heap.size + 1, k * 4 + 1, none⟩ = some (.int .u8 x1) := by rw [hb2.cell]; simpa using t1
        have c2 : wr.cell? ⟨w.heap.size + 1, k * 4 + 2, none⟩ = some (.int .u8 x2) := by rw [hb2.cell]; simpa using t2
        have c3 : wr.cell? ⟨w.heap.size + 1, k * 4 + 3, none⟩ = some (.int .i32 x3) := by rw [hb2.cell]; simpa using t3
        clear t0 t1 t2 t3 bp
        generalize hq : runCells.toArray = rc at hb2
        clear hb2 hq
        have hx0 := HX.out
        simp only at hx0
        obtain ⟨a1, a2, a3, a4, a5, a6, a7, a8⟩ := hx0
        by_cases e1 : x0 = c
        · have b1 : (x0 == c) = true := by simp [e1]
          have E1 := Lib.hid e1
          clear e1
          by_cases e2 : x1 ≤ d
          · by_cases e3 : d ≤ x2
            · have HZ : Hid (kanaP c d true = (x3 + (d - x1), 2)) := by
                have := HT.out ⟨E1.out, e2, e3⟩
                simp only at this
                rw [HK.out, this, if_pos (by omega)]
                exact rfl
              go_wp2
              go_quiet (fail)
              go_wp2
              have q1 : IntKind.u8.wrap (d - x1) = d - x1 := by rw [IntKind.wrap_u8]; omega
              have q2 : IntKind.i32.wrap (d - x1) = d - x1 := by rw [IntKind.wrap_i32]; omega
              have q3 : IntKind.i32.wrap (x3 + (d - x1)) = x3 + (d - x1) := by rw [IntKind.wrap_i32]; omega
              go_region
              clear q1 q2 q3
              go_wp2
              have d0 : (wr.alloc (.cells #[.int .u8 x0, .int .u8 x1, .int .u8 x2, .int .i32 x3] 404)).cell? ⟨w.heap.size, 0, none⟩ = some (.int .i32 0) := (World.cell?_alloc_lt wr _ _ hne).trans p0
              have d1 : (wr.alloc (.cells #[.int .u8 x0, .int .u8 x1, .int .u8 x2, .int .i32 x3] 404)).cell? ⟨w.heap.size, 1, none⟩ = some (.int .i64 0) := (World.cell?_alloc_lt wr _ _ hne).trans p1
              exact bodyPost_ret (v := .agg #[.int .i32 (x3 + (d - x1)), .int .i64 2]) (by simp [results, Tryz.results248, go_sem, d0, d1]) rfl (PieceIs.mk HZ.out ((((hf0.trans (hf.alloc _)).drewN _).setCell (Nat.le_refl _) _).setCell (Nat.le_refl _) _))
            · have g3 : decide (d ≤ x2) = false := decide_eq_false e3
              go_wp2
              go_quiet (fail)
              go_wp2
              exact ⟨⟨k + 1, by rw [Int.natCast_add]; rfl, by omega, HMM.out (fun h => by have h3 := h.2.2; simp only at h3; omega), (hf.alloc _).drewN _⟩, by simp [intOf]; omega⟩
          · have g2 : decide (x1 ≤ d) = false := decide_eq_false e2
            go_wp2
            go_quiet (fail)
            go_wp2
            exact ⟨⟨k + 1, by rw [Int.natCast_add]; rfl, by omega, HMM.out (fun h => by have h3 := h.2.1; simp only at h3; omega), (hf.alloc _).drewN _⟩, by simp [intOf]; omega⟩
        · have b1 : (x0 == c) = false := by simp [e1]
          have E1 := Lib.hid e1
          clear e1
          go_wp2
          go_quiet (fail)
          go_wp2
          exact ⟨⟨k + 1, by rw [Int.natCast_add]; rfl, by omega, HMM.out (fun h => E1.out h.1), (hf.alloc _).drewN _⟩, by simp [intOf]; omega⟩
      · have HZ : Hid (kanaP c d true = (-1, 1)) := by
          have : twoI c d = -1 := two_none (fun x hx => HM.out x (by rw [List.take_of_length_le (by show 17 ≤ k; omega)]; exact hx))
          rw [HK.out, this]
          exact rfl
        go_wp2
        exact bodyPost_ret (v := .agg #[.int .i32 (-1), .int .i64 1]) (by simp [results, Tryz.results248, go_sem, p0, p1]) rfl (PieceIs.mk HZ.out (((hf0.trans hf).setCell (Nat.le_refl _) _).setCell (Nat.le_refl _) _))
set_option maxHeartbeats 800000 in
theorem kana_one (s : ByteArray) (c : Int) (h0 : 0 < s.size) (hc : ((s[0]'h0).toNat : Int) = c) (hs : s.size ≤ 140737488351232)
    (hx : 0 ≤ c) (hy : c < 256) (hh : s.size = 1 ∨ c < 128 ∨ (161 ≤ c ∧ c ≤ 223)) (d : Int) (two : Bool) (ht : two = decide (1 < s.size)) (w : World) :
    Calls Tryz.prog 248 #[.string s] w (PieceIs (kanaP c d two) w) := by
  by_cases a1 : c < 128
  · have HZ : Hid (kanaP c d two = (c, 1)) := by unfold kanaP; rw [if_pos a1]; exact rfl
    clear hh ht
    go_enter Tryz.func248, Tryz.ntmps248
    go_wp2
    exact bodyPost_ret (v := .agg #[.int .i32 c, .int .i64 1]) (by simp [results, Tryz.results248, go_sem]) rfl (PieceIs.mk HZ.out ((Fresh.refl _).alloc _))
  by_cases a2 : 161 ≤ c ∧ c ≤ 223
  · have HZ : Hid (kanaP c d two = (65377 + (c - 161), 1)) := by unfold kanaP; rw [if_neg a1, if_pos a2]; exact rfl
    obtain ⟨a2, a3⟩ := a2
    clear hh ht
    go_enter Tryz.func248, Tryz.ntmps248
    go_wp2
    exact bodyPost_ret (v := .agg #[.int .i32 (65377 + (c - 161)), .int .i64 1]) (by simp [results, Tryz.results248, go_sem]) rfl (PieceIs.mk HZ.out ((Fresh.refl _).alloc _))
  · have h1 : s.size = 1 := by omega
    have HZ : Hid (kanaP c d two = (-1, 1)) := by unfold kanaP; rw [if_neg a1, if_neg a2, ht, h1, if_neg (by simp)]; exact rfl
    have h2 : s.size < 2 := by omega
    have h3 : c < 161 ∨ 223 < c := by omega
    clear hh ht h1 a2
    rcases h3 with h3 | h3
    · go_enter Tryz.func248, Tryz.ntmps248
      go_wp2
      exact bodyPost_ret (v := .agg #[.int .i32 (-1), .int .i64 1]) (by simp [results, Tryz.results248, go_sem]) rfl (PieceIs.mk HZ.out ((Fresh.refl _).alloc _))
    · go_enter Tryz.func248, Tryz.ntmps248
      go_wp2
      exact bodyPost_ret (v := .agg #[.int .i32 (-1), .int .i64 1]) (by simp [results, Tryz.results248, go_sem]) rfl (PieceIs.mk HZ.out ((Fresh.refl _).alloc _))
theorem kana_any (s : ByteArray) (h0 : 0 < s.size) (hs : s.size ≤ 140737488351232) (w : World) :
    Calls Tryz.prog 248 #[.string s] w (PieceIs (kanaP (B s 0) (B s 1) (decide (1 < s.size))) w) := by
  have b0 := B_range s 0
  have b1 := B_range s 1
  by_cases h : s.size = 1 ∨ B s 0 < 128 ∨ (161 ≤ B s 0 ∧ B s 0 ≤ 223)
  · exact kana_one s _ h0 (B_at s 0 h0) hs b0.1 b0.2 h _ _ rfl w
  · have h1 : 1 < s.size := by omega
    rw [decide_eq_true h1]
    exact kana_two s _ _ h0 h1 (B_at s 0 h0) (B_at s 1 h1) hs (by omega) b0.2 (by omega) b1.1 b1.2 w
end Go.Proofs.YtpmlggjhfiljmaaGreatDoor
/- fromKana, euro, single. -/
namespace Go.Proofs.YtpmlggjhfiljmaaGreatDoor
open Go.RowKit
set_option linter.unusedVariables false
/-- bytes, if there are any -/
def BytesIs (o : Option (List Int)) (w : World) (e : Ending) (w' : World) : Prop :=
  e = .returned (.tuple #[.string (match o with | some l => strOfNums l | none => ByteArray.empty), .bool o.isSome]) ∧ Fresh w w'
theorem BytesIs.yes {o : Option (List Int)} {l : List Int} {w w' : World} (h : o = some l) (hf : Fresh w w') : BytesIs o w (.returned (.tuple #[.string (strOfNums l), .bool true])) w' := ⟨by rw [h]; rfl, hf⟩
theorem BytesIs.no {o : Option (List Int)} {w w' : World} (h : o = none) (hf : Fresh w w') : BytesIs o w (.returned (.tuple #[.string ByteArray.empty, .bool false])) w' := ⟨by rw [h]; rfl, hf⟩
def encK (r : Int) : Option (List Int) :=
  if r < 128 then some [r] else if 65377 ≤ r ∧ r ≤ 65439 then some [161 + r - 65377] else (pairK r).map fun x => [x.1, x.2]
def FromRel (r : Int) (w : World) (i : Value) (wr : World) : Prop := ∃ k : Nat, i = .int .i64 k ∧ k ≤ 17 ∧ (∀ x ∈ RT.take k, ¬ hitR x r) ∧ Fresh w wr
theorem miss_more2 {k : Nat} (hk : k < RT.length) {p : Int × Int × Int × Int → Prop} (h : ∀ x ∈ RT.take k, ¬ p x) (h2 : ¬ p RT[k]) : ∀ x ∈ RT.take (k + 1), ¬ p x := by
  intro x hx
  rw [List.take_succ_eq_append_getElem hk, List.mem_append, List.mem_singleton] at hx
  rcases hx with hx | rfl
  · exact h x hx
  · exact h2
theorem pair_none {r : Int} (h : ∀ x ∈ RT, ¬ hitR x r) : pairK r = none := by
  rcases echain_mem (r := r) RT with ⟨x, hx, h1, _⟩ | ⟨_, h2⟩
  · exact absurd h1 (h x hx)
  · exact h2
set_option maxHeartbeats 1600000 in
theorem fromKana_any (r : Int) (h0 : 0 ≤ r) (h1 : r < 1114112) (w : World) :
    Calls Tryz.prog 253 #[.int .i32 r] w (BytesIs (encK r) w) := by
  have k1 := conv1
  have k2 : ∀ (a b : Int) (X : Obj) (W : World), (convert 131 9 (.slice (some ⟨W.heap.size + 1, 0, none⟩) 2 2)).run Tryz.prog ((W.alloc X).alloc (.cells #[.int .u8 a, .int .u8 b] 5)) = .ok (.string (strOfNums [a, b])) ((W.alloc X).alloc (.cells #[.int .u8 a, .int .u8 b] 5)) := fun a b X W => by
    have := conv2 a b (W.alloc X)
    simpa using this
  by_cases a1 : r < 128
  · have HZ : Hid (encK r = some [r]) := by unfold encK; rw [if_pos a1]; exact rfl
    go_enter Tryz.func253, Tryz.ntmps253
    go_wp2
    go_ret2
    exact BytesIs.yes HZ.out ((Fresh.refl _).alloc _)
  by_cases a2 : 65377 ≤ r ∧ r ≤ 65439
  · have HZ : Hid (encK r = some [161 + r - 65377]) := by unfold encK; rw [if_neg a1, if_pos a2]; exact rfl
    obtain ⟨a2, a3⟩ := a2
    go_enter Tryz.func253, Tryz.ntmps253
    go_wp2
    go_ret2
    exact BytesIs.yes HZ.out ((Fresh.refl _).alloc _)
  have HK : Hid (encK r = (pairK r).map fun x => [x.1, x.2]) := by unfold encK; rw [if_neg a1, if_neg a2]; exact rfl
  have a3 : r < 65377 ∨ 65439 < r := by omega
  clear a2
  go_enter Tryz.func253, Tryz.ntmps253
  rcases a3 with a3 | a3
  all_goals
    go_wp2_with fail
    refine (runs_any _).mono ?_
    rintro e w1 ⟨rfl, hf1, hblk⟩
    go_wp2
    go_loopw [29] (fun i wr => FromRel r w1 i wr) (fun i _ => 17 - (intOf i).toNat)
    case atStart => exact ⟨0, rfl, by omega, fun x hx => by simp at hx, Fresh.refl _⟩
    case round =>
      obtain ⟨k, rfl, hk, hm, hf⟩ := hrel
      have HM := Lib.hid hm
      clear hm
      by_cases hlt : k < 17
      · have hlt' : k < RT.length := hlt
        obtain ⟨t0, t1, t2, t3⟩ := run_cells hlt'
        have hb2 := hblk.keep hf
        have HX := Lib.hid (RT_of (List.getElem_mem hlt')).1
        have HMM := Lib.hid (fun h => miss_more2 hlt' (p := fun x => hitR x r) HM.out h)
        have HT : Hid (hitR RT[k] r → pairK r = some ((RT[k]).1, (RT[k]).2.1 + (r - (RT[k]).2.2.2))) := fun h => pair_of (List.getElem_mem hlt') h
        generalize RT[k] = x at t0 t1 t2 t3 HX HMM HT
        obtain ⟨x0, x1, x2, x3⟩ := x
        have c0 : wr.cell? ⟨w.heap.size, k * 4, none⟩ = some (.int .u8 x0) := by rw [hb2.cell]; simpa using t0
        have c1 : wr.cell? ⟨w.heap.size, k * 4 + 1, none⟩ = some (.int .u8 x1) := by rw [hb2.cell]; simpa using t1
        have c2 : wr.cell? ⟨w.heap.size, k * 4 + 2, none⟩ = some (.int .u8 x2) := by rw [hb2.cell]; simpa using t2
        have c3 : wr.cell? ⟨w.heap.size, k * 4 + 3, none⟩ = some (.int .i32 x3) := by rw [hb2.cell]; simpa using t3
        generalize hq : runCells.toArray = rc at hb2
        clear t0 t1 t2 t3 hb2 hq
        have hx0 := HX.out
        simp only at hx0
        obtain ⟨y1, y2, y3, y4, y5, y6, y7, y8⟩ := hx0
        by_cases e1 : 0 ≤ r - x3
        · by_cases e2 : r - x3 ≤ x2 - x1
          · have HZ : Hid (encK r = some [x0, x1 + (r - x3)]) := by
              have := HT.out ⟨e1, e2⟩
              rw [HK.out, this]
              exact rfl
            go_wp2
            go_ret2
            exact BytesIs.yes HZ.out (((hf1.trans hf).alloc _).alloc _)
          · go_wp2
            exact ⟨⟨k + 1, by rw [Int.natCast_add]; rfl, by omega, HMM.out (fun h => by have h3 := h.2; simp only at h3; omega), hf.alloc _⟩, by simp [intOf]; omega⟩
        · go_wp2
          exact ⟨⟨k + 1, by rw [Int.natCast_add]; rfl, by omega, HMM.out (fun h => by have h3 := h.1; simp only at h3; omega), hf.alloc _⟩, by simp [intOf]; omega⟩
      · have HZ : Hid (encK r = none) := by
          have : pairK r = none := pair_none (fun x hx => HM.out x (by rw [List.take_of_length_le (by show 17 ≤ k; omega)]; exact hx))
          rw [HK.out, this]
          exact rfl
        go_wp2
        go_ret2
        exact BytesIs.no HZ.out (hf1.trans hf)
end Go.Proofs.YtpmlggjhfiljmaaGreatDoor
/- euro, single. -/
namespace Go.Proofs.YtpmlggjhfiljmaaGreatDoor
open Go.RowKit
set_option linter.unusedVariables false
set_option maxHeartbeats 400000 in
theorem euro_any (w : World) :
    Calls Tryz.prog 320 #[] w fun e w' => e = .returned (.tuple #[.slice (some ⟨w.heap.size, 0, none⟩) 8 8, .slice (some ⟨w.heap.size + 1, 0, none⟩) 8 8]) ∧ Fresh w w' ∧
      Blk w' w.heap.size 5 (euB.map (Value.int .u8)).toArray ∧ Blk w' (w.heap.size + 1) 21 (euR.map (Value.int .i32)).toArray := by
  go_enter Tryz.func320, Tryz.ntmps320
  go_wp2
  go_ret2
  refine ⟨rfl, ((Fresh.refl _).alloc _).alloc _, (Blk.new w _ _).keep ((Fresh.refl _).alloc _), ?_⟩
  have := Blk.new (w.alloc (.cells (euB.map (Value.int .u8)).toArray 5)) 21 (euR.map (Value.int .i32)).toArray
  have e : (w.alloc (.cells (euB.map (Value.int .u8)).toArray 5)).heap.size = w.heap.size + 1 := by simp
  rw [e] at this
  exact this
def SingleIs (r : Int) (w : World) (e : Ending) (w' : World) : Prop := e = .returned (.int .i32 r) ∧ Fresh w w'
theorem SingleIs.mk {r a : Int} {w w' : World} (h : r = a) (hf : Fresh w w') : SingleIs r w (.returned (.int .i32 a)) w' := ⟨by rw [h], hf⟩
set_option maxHeartbeats 400000 in
theorem single_low (enc b : Int) (hb : 0 ≤ b) (hb2 : b < 256) (h : b < 128 ∨ enc = 1 ∨ (enc = 2 ∧ b < 160)) (w : World) :
    Calls Tryz.prog 249 #[.int .i64 enc, .int .u8 b] w (SingleIs (oneI enc b) w) := by
  have HZ : Hid (oneI enc b = b) := by
    unfold oneI
    by_cases h1 : b < 128 ∨ enc = 1
    · rw [if_pos h1]; exact rfl
    · rw [if_neg h1, if_pos (by omega), if_pos (by omega)]; exact rfl
  by_cases h1 : b < 128
  · clear h
    go_enter Tryz.func249, Tryz.ntmps249
    go_wp2_with fail
    refine (upper_any _ _).mono ?_
    rintro e w1 ⟨rfl, rfl⟩
    generalize rowS enc = R
    generalize fromI enc = f
    go_wp2
    go_ret
    exact SingleIs.mk HZ.out (Fresh.refl _)
  · rcases h with h | h | ⟨h, h2⟩
    · exact absurd h h1
    · subst h
      go_enter Tryz.func249, Tryz.ntmps249
      go_wp2_with fail
      refine (upper_any _ _).mono ?_
      rintro e w1 ⟨rfl, rfl⟩
      generalize rowS 1 = R
      generalize fromI 1 = f
      go_wp2
      go_ret
      exact SingleIs.mk HZ.out (Fresh.refl _)
    · subst h
      go_enter Tryz.func249, Tryz.ntmps249
      go_wp2_with fail
      refine (upper_any _ _).mono ?_
      rintro e w1 ⟨rfl, rfl⟩
      generalize rowS 2 = R
      generalize fromI 2 = f
      go_wp2
      go_ret
      exact SingleIs.mk HZ.out (Fresh.refl _)
theorem row_ne : (L2S.toList.isEmpty = false ∧ C4S.toList.isEmpty = false) ∧ C8S.toList.isEmpty = false := by decide +kernel
set_option maxHeartbeats 400000 in
theorem single_row (enc b f : Int) (R : ByteArray) (l : List Int) (hR : rowS enc = R) (hf : fromI enc = f) (hl : rowI enc = l) (hne : R.toList.isEmpty = false) (hb : 128 ≤ b) (hb2 : b < 256) (hfb : f ≤ b) (hf0 : 128 ≤ f)
    (e1 : (enc == 1) = false) (e2 : (enc == 2 && decide (b < 160)) = false) (h2 : enc ≠ 2 ∨ 160 ≤ b) (w : World) :
    Calls Tryz.prog 249 #[.int .i64 enc, .int .u8 b] w (SingleIs (l.getD (b - f).toNat (-1)) w) := by
  have hd := row_dec enc
  rw [hR, hl] at hd
  have HD := Lib.hid hd
  have HR := Lib.hid hR
  have HF := Lib.hid hf
  have hn2 : ¬ R.toList = [] := by intro h; rw [h] at hne; cases hne
  clear hd hR hf hl e2
  by_cases c2 : enc = 2
  · subst c2
    have c3 : 160 ≤ b := by omega
    clear h2 e1
    go_enter Tryz.func249, Tryz.ntmps249
    go_wp2_with fail
    refine (upper_any _ _).mono ?_
    rintro e w1 ⟨rfl, rfl⟩
    rw [HR.out, HF.out]
    go_wp2_with fail
    refine (at_any R l (b - f) _ HD.out (by omega) (by omega)).mono ?_
    rintro e w2 ⟨rfl, h2⟩
    go_wp2
    go_ret
    exact SingleIs.mk rfl h2
  · have c3 : (enc == 2) = false := by simp [c2]
    clear h2 c2
    go_enter Tryz.func249, Tryz.ntmps249
    go_wp2_with fail
    refine (upper_any _ _).mono ?_
    rintro e w1 ⟨rfl, rfl⟩
    rw [HR.out, HF.out]
    go_wp2_with fail
    refine (at_any R l (b - f) _ HD.out (by omega) (by omega)).mono ?_
    rintro e w2 ⟨rfl, h2⟩
    go_wp2
    go_ret
    exact SingleIs.mk rfl h2
def EuRel (b : Int) (w : World) (i : Value) (wr : World) : Prop := ∃ k : Nat, i = .int .i64 k ∧ k ≤ 8 ∧ euI euB euR b = euI (euB.drop k) (euR.drop k) b ∧ Fresh w wr
theorem eu_step {k : Nat} (hk : k < 8) (b : Int) : euI (euB.drop k) (euR.drop k) b = if euB.getD k 0 = b then euR.getD k 0 else euI (euB.drop (k + 1)) (euR.drop (k + 1)) b := by
  match k, hk with
  | 0, _ => rfl
  | 1, _ => rfl
  | 2, _ => rfl
  | 3, _ => rfl
  | 4, _ => rfl
  | 5, _ => rfl
  | 6, _ => rfl
  | 7, _ => rfl
set_option maxHeartbeats 800000 in
theorem single_three (b : Int) (hb : 128 ≤ b) (hb2 : b < 256) (w : World) :
    Calls Tryz.prog 249 #[.int .i64 3, .int .u8 b] w (SingleIs (oneI 3 b) w) := by
  have HO : Hid (oneI 3 b = euI euB euR b) := by unfold oneI; rw [if_neg (by omega), if_neg (by omega), if_pos rfl]; exact rfl
  have HR : Hid (rowS 3 = ByteArray.empty) := rfl
  have HF : Hid (fromI 3 = 0) := rfl
  go_enter Tryz.func249, Tryz.ntmps249
  go_wp2_with fail
  refine (upper_any _ _).mono ?_
  rintro e w1 ⟨rfl, rfl⟩
  rw [HR.out, HF.out]
  go_wp2_with fail
  refine (euro_any _).mono ?_
  rintro e w1 ⟨rfl, h1, hblk1, hblk2⟩
  go_wp2
  go_loopw [47] (fun i wr => EuRel b w1 i wr) (fun i _ => 8 - (intOf i).toNat)
  case atStart => exact ⟨0, rfl, by omega, rfl, Fresh.refl _⟩
  case round =>
    obtain ⟨k, rfl, hk, heu, hf⟩ := hrel
    have HEU := Lib.hid heu
    clear heu
    by_cases hlt : k < 8
    · have c1 : wr.cell? ⟨w.heap.size, k, none⟩ = some (.int .u8 (euB.getD k 0)) := by
        rw [(hblk1.keep hf).cell]
        have : k < euB.length := hlt
        simp [List.getD_eq_getElem?_getD, this]
      have c2 : wr.cell? ⟨w.heap.size + 1, k, none⟩ = some (.int .i32 (euR.getD k 0)) := by
        rw [(hblk2.keep hf).cell]
        have : k < euR.length := hlt
        simp [List.getD_eq_getElem?_getD, this]
      have HS := Lib.hid (eu_step hlt b)
      generalize euB.getD k 0 = x at c1 HS
      generalize euR.getD k 0 = y at c2 HS
      by_cases hx : x = b
      · have hb1 : (x == b) = true := by simp [hx]
        have HX := Lib.hid hx
        clear hx
        go_wp2
        go_ret
        exact SingleIs.mk (by rw [HO.out, HEU.out, HS.out, if_pos HX.out]) (h1.trans hf)
      · have hb1 : (x == b) = false := by simp [hx]
        have HX := Lib.hid hx
        clear hx
        go_wp2
        exact ⟨⟨k + 1, by rw [Int.natCast_add]; rfl, by omega, by rw [HEU.out, HS.out, if_neg HX.out], hf⟩, by simp [intOf]; omega⟩
    · have hk8 : k = 8 := by omega
      subst hk8
      go_wp2
      go_ret
      exact SingleIs.mk (by rw [HO.out, HEU.out]; rfl) (h1.trans hf)
set_option maxHeartbeats 400000 in
theorem single_zero (b : Int) (hb : 128 ≤ b) (hb2 : b < 256) (w : World) :
    Calls Tryz.prog 249 #[.int .i64 0, .int .u8 b] w (SingleIs (oneI 0 b) w) := by
  have HO : Hid (oneI 0 b = -1) := by unfold oneI; rw [if_neg (by omega), if_neg (by omega), if_neg (by omega), if_neg (by omega), if_neg (by omega), if_neg (by omega)]; exact rfl
  have HR : Hid (rowS 0 = ByteArray.empty) := rfl
  have HF : Hid (fromI 0 = 0) := rfl
  go_enter Tryz.func249, Tryz.ntmps249
  go_wp2_with fail
  refine (upper_any _ _).mono ?_
  rintro e w1 ⟨rfl, rfl⟩
  rw [HR.out, HF.out]
  go_wp2
  go_ret
  exact SingleIs.mk HO.out (Fresh.refl _)
theorem single_any (enc b : Int) (h0 : 0 ≤ enc) (h5 : enc ≤ 5) (hb : 0 ≤ b) (hb2 : b < 256) (w : World) :
    Calls Tryz.prog 249 #[.int .i64 enc, .int .u8 b] w (SingleIs (oneI enc b) w) := by
  by_cases h : b < 128 ∨ enc = 1 ∨ (enc = 2 ∧ b < 160)
  · exact single_low enc b hb hb2 h w
  by_cases e0 : enc = 0
  · subst e0; exact single_zero b (by omega) hb2 w
  by_cases e3 : enc = 3
  · subst e3; exact single_three b (by omega) hb2 w
  by_cases e2 : enc = 2
  · subst e2
    have e : oneI 2 b = L2I.getD (b - 160).toNat (-1) := by unfold oneI; rw [if_neg (by omega), if_pos rfl, if_neg (by omega)]
    rw [e]
    exact single_row 2 b 160 L2S L2I rfl rfl rfl row_ne.1.1 (by omega) hb2 (by omega) (by omega) rfl (by simp; omega) (by omega) w
  by_cases e4 : enc = 4
  · subst e4
    have e : oneI 4 b = C4I.getD (b - 128).toNat (-1) := by unfold oneI; rw [if_neg (by omega), if_neg (by omega), if_neg (by omega), if_pos rfl]
    rw [e]
    exact single_row 4 b 128 C4S C4I rfl rfl rfl row_ne.1.2 (by omega) hb2 (by omega) (by omega) rfl rfl (by omega) w
  · have e5 : enc = 5 := by omega
    subst e5
    have e : oneI 5 b = C8I.getD (b - 128).toNat (-1) := by unfold oneI; rw [if_neg (by omega), if_neg (by omega), if_neg (by omega), if_neg (by omega), if_pos rfl]
    rw [e]
    exact single_row 5 b 128 C8S C8I rfl rfl rfl row_ne.2 (by omega) hb2 (by omega) (by omega) rfl rfl (by omega) w
end Go.Proofs.YtpmlggjhfiljmaaGreatDoor
