/- Shift_JIS: kana. -/
import Derived.Test.YtakddihadfdkpaaChaB
namespace Go.Proofs.Ytakddihadfdkpaa
open Go.RowKit
set_option linter.unusedVariables false

set_option maxHeartbeats 1600000 in
theorem kana_two (s : ByteArray) (c d : Int) (h0 : 0 < s.size) (h1 : 1 < s.size) (hc : ((s[0]'h0).toNat : Int) = c) (hd : ((s[1]'h1).toNat : Int) = d) (hs : s.size ≤ 140737488351232)
    (hx : 128 ≤ c) (hy : c < 256) (hh : c < 161 ∨ 223 < c) (d0 : 0 ≤ d) (d1 : d < 256) (w : World) :
    Calls Try.prog 16 #[.string s] w (PieceIs (kanaP c d true) w) := by
  have HK : Hid (kanaP c d true = if 0 ≤ twoI c d then (twoI c d, 2) else (-1, 1)) := by
    unfold kanaP
    rw [if_neg (by omega), if_neg (by omega)]
    simp [Hid]
  go_enter Try.func16, Try.ntmps16
  rcases hh with hh | hh
  all_goals
    go_wp2_with fail
    refine (runs_any _).mono ?_
    rintro e w1 ⟨rfl, hf1, hblk⟩
    have hblk' : Blk w1 (w.heap.size + 1) 59 runCells.toArray := by simpa using hblk
    clear hblk
    have hbp := (Blk.new w 24 #[.int .i32 0, .int .i64 0]).keep hf1
    have hf0 : Fresh w w1 := ((Fresh.refl w).alloc _).trans hf1
    go_wp2
    go_loopw [33] (fun i wr => KanaRel c d w1 i wr) (fun i _ => 17 - (intOf i).toNat)
    case atStart => exact ⟨0, rfl, by omega, fun x hx => by simp at hx, Fresh.refl _⟩
    case round =>
      obtain ⟨k, rfl, hk, hm, hf⟩ := hrel
      have HM := Lib.hid hm
      clear hm
      have bp := hbp.keep hf
      have p0 : wr.cell? ⟨w.heap.size, 0, none⟩ = some (.int .i32 0) := bp.cell 0
      have p1 : wr.cell? ⟨w.heap.size, 1, none⟩ = some (.int .i64 0) := bp.cell 1
      have f0 : wr.frozen? ⟨w.heap.size, 0, none⟩ = false := bp.frozen 0
      have f1 : wr.frozen? ⟨w.heap.size, 1, none⟩ = false := bp.frozen 1
      have hne : w.heap.size < wr.heap.size := bp.lt
      by_cases hlt : k < 17
      · have hlt' : k < RT.length := hlt
        obtain ⟨t0, t1, t2, t3⟩ := run_cells hlt'
        have hb2 := hblk'.keep hf
        have HX := Lib.hid (RT_of (List.getElem_mem hlt')).1
        have HMM := Lib.hid (fun h => miss_more hlt' (p := fun x => hitB x c d) HM.out h)
        have HT : Hid (hitB RT[k] c d → twoI c d = (RT[k]).2.2.2 + (d - (RT[k]).2.1)) := fun h => two_of (List.getElem_mem hlt') h
        generalize RT[k] = x at t0 t1 t2 t3 HX HMM HT
        obtain ⟨x0, x1, x2, x3⟩ := x
        have c0 : wr.cell? ⟨w.heap.size + 1, k * 4, none⟩ = some (.int .u8 x0) := by rw [hb2.cell]; simpa using t0
        have c1 : wr.cell? ⟨w.heap.size + 1, k * 4 + 1, none⟩ = some (.int .u8 x1) := by rw [hb2.cell]; simpa using t1
        have c2 : wr.cell? ⟨w.heap.size + 1, k * 4 + 2, none⟩ = some (.int .u8 x2) := by rw [hb2.cell]; simpa using t2
        have c3 : wr.cell? ⟨w.heap.size + 1, k * 4 + 3, none⟩ = some (.int .i32 x3) := by rw [hb2.cell]; simpa using t3
        clear t0 t1 t2 t3 bp
        generalize hq : runCells.toArray = rc at hb2
        clear hb2 hq
        have hx0 := HX.out
        simp only at hx0
        obtain ⟨a1, a2, a3, a4, a5, a6, a7, a8⟩ := hx0
        by_cases e1 : x0 = c
        · have b1 : (x0 == c) = true := by simp [e1]
          have E1 := Lib.hid e1
          clear e1
          by_cases e2 : x1 ≤ d
          · by_cases e3 : d ≤ x2
            · have HZ : Hid (kanaP c d true = (x3 + (d - x1), 2)) := by
                have := HT.out ⟨E1.out, e2, e3⟩
                simp only at this
                rw [HK.out, this, if_pos (by omega)]
                exact rfl
              go_wp2
              go_quiet (fail)
              go_wp2
              have q1 : IntKind.u8.wrap (d - x1) = d - x1 := by rw [IntKind.wrap_u8]; omega
              have q2 : IntKind.i32.wrap (d - x1) = d - x1 := by rw [IntKind.wrap_i32]; omega
              have q3 : IntKind.i32.wrap (x3 + (d - x1)) = x3 + (d - x1) := by rw [IntKind.wrap_i32]; omega
              go_region
              clear q1 q2 q3
              go_wp2
              have d0 : (wr.alloc (.cells #[.int .u8 x0, .int .u8 x1, .int .u8 x2, .int .i32 x3] 59)).cell? ⟨w.heap.size, 0, none⟩ = some (.int .i32 0) := (World.cell?_alloc_lt wr _ _ hne).trans p0
              have d1 : (wr.alloc (.cells #[.int .u8 x0, .int .u8 x1, .int .u8 x2, .int .i32 x3] 59)).cell? ⟨w.heap.size, 1, none⟩ = some (.int .i64 0) := (World.cell?_alloc_lt wr _ _ hne).trans p1
              exact bodyPost_ret (v := .agg #[.int .i32 (x3 + (d - x1)), .int .i64 2]) (by simp [results, Try.results16, go_sem, d0, d1]) rfl (PieceIs.mk HZ.out ((((hf0.trans (hf.alloc _)).drewN _).setCell (Nat.le_refl _) _).setCell (Nat.le_refl _) _))
            · have g3 : decide (d ≤ x2) = false := decide_eq_false e3
              go_wp2
              go_quiet (fail)
              go_wp2
              exact ⟨⟨k + 1, by rw [Int.natCast_add]; rfl, by omega, HMM.out (fun h => by have h3 := h.2.2; simp only at h3; omega), (hf.alloc _).drewN _⟩, by simp [intOf]; omega⟩
          · have g2 : decide (x1 ≤ d) = false := decide_eq_false e2
            go_wp2
            go_quiet (fail)
            go_wp2
            exact ⟨⟨k + 1, by rw [Int.natCast_add]; rfl, by omega, HMM.out (fun h => by have h3 := h.2.1; simp only at h3; omega), (hf.alloc _).drewN _⟩, by simp [intOf]; omega⟩
        · have b1 : (x0 == c) = false := by simp [e1]
          have E1 := Lib.hid e1
          clear e1
          go_wp2
          go_quiet (fail)
          go_wp2
          exact ⟨⟨k + 1, by rw [Int.natCast_add]; rfl, by omega, HMM.out (fun h => E1.out h.1), (hf.alloc _).drewN _⟩, by simp [intOf]; omega⟩
      · have HZ : Hid (kanaP c d true = (-1, 1)) := by
          have : twoI c d = -1 := two_none (fun x hx => HM.out x (by rw [List.take_of_length_le (by show 17 ≤ k; omega)]; exact hx))
          rw [HK.out, this]
          exact rfl
        go_wp2
        exact bodyPost_ret (v := .agg #[.int .i32 (-1), .int .i64 1]) (by simp [results, Try.results16, go_sem, p0, p1]) rfl (PieceIs.mk HZ.out (((hf0.trans hf).setCell (Nat.le_refl _) _).setCell (Nat.le_refl _) _))

set_option maxHeartbeats 800000 in
theorem kana_one (s : ByteArray) (c : Int) (h0 : 0 < s.size) (hc : ((s[0]'h0).toNat : Int) = c) (hs : s.size ≤ 140737488351232)
    (hx : 0 ≤ c) (hy : c < 256) (hh : s.size = 1 ∨ c < 128 ∨ (161 ≤ c ∧ c ≤ 223)) (d : Int) (two : Bool) (ht : two = decide (1 < s.size)) (w : World) :
    Calls Try.prog 16 #[.string s] w (PieceIs (kanaP c d two) w) := by
  by_cases a1 : c < 128
  · have HZ : Hid (kanaP c d two = (c, 1)) := by unfold kanaP; rw [if_pos a1]; exact rfl
    clear hh ht
    go_enter Try.func16, Try.ntmps16
    go_wp2
    exact bodyPost_ret (v := .agg #[.int .i32 c, .int .i64 1]) (by simp [results, Try.results16, go_sem]) rfl (PieceIs.mk HZ.out ((Fresh.refl _).alloc _))
  by_cases a2 : 161 ≤ c ∧ c ≤ 223
  · have HZ : Hid (kanaP c d two = (65377 + (c - 161), 1)) := by unfold kanaP; rw [if_neg a1, if_pos a2]; exact rfl
    obtain ⟨a2, a3⟩ := a2
    clear hh ht
    go_enter Try.func16, Try.ntmps16
    go_wp2
    exact bodyPost_ret (v := .agg #[.int .i32 (65377 + (c - 161)), .int .i64 1]) (by simp [results, Try.results16, go_sem]) rfl (PieceIs.mk HZ.out ((Fresh.refl _).alloc _))
  · have h1 : s.size = 1 := by omega
    have HZ : Hid (kanaP c d two = (-1, 1)) := by unfold kanaP; rw [if_neg a1, if_neg a2, ht, h1, if_neg (by simp)]; exact rfl
    have h2 : s.size < 2 := by omega
    have h3 : c < 161 ∨ 223 < c := by omega
    clear hh ht h1 a2
    rcases h3 with h3 | h3
    · go_enter Try.func16, Try.ntmps16
      go_wp2
      exact bodyPost_ret (v := .agg #[.int .i32 (-1), .int .i64 1]) (by simp [results, Try.results16, go_sem]) rfl (PieceIs.mk HZ.out ((Fresh.refl _).alloc _))
    · go_enter Try.func16, Try.ntmps16
      go_wp2
      exact bodyPost_ret (v := .agg #[.int .i32 (-1), .int .i64 1]) (by simp [results, Try.results16, go_sem]) rfl (PieceIs.mk HZ.out ((Fresh.refl _).alloc _))
theorem kana_any (s : ByteArray) (h0 : 0 < s.size) (hs : s.size ≤ 140737488351232) (w : World) :
    Calls Try.prog 16 #[.string s] w (PieceIs (kanaP (B s 0) (B s 1) (decide (1 < s.size))) w) := by
  have b0 := B_range s 0
  have b1 := B_range s 1
  by_cases h : s.size = 1 ∨ B s 0 < 128 ∨ (161 ≤ B s 0 ∧ B s 0 ≤ 223)
  · exact kana_one s _ h0 (B_at s 0 h0) hs b0.1 b0.2 h _ _ rfl w
  · have h1 : 1 < s.size := by omega
    rw [decide_eq_true h1]
    exact kana_two s _ _ h0 h1 (B_at s 0 h0) (B_at s 1 h1) hs (by omega) b0.2 (by omega) b1.1 b1.2 w
end Go.Proofs.Ytakddihadfdkpaa
