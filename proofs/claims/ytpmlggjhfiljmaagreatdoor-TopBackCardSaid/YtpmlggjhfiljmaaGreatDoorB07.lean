/- Contracts that the law rests on, part 7 of 50 (ChaA, ChaB, ChaC, ChaD). Each states its own conditions. -/
import Derived.Laws.RangeAny
import Derived.Deep.RegionHeld3
import Derived.Deep.QuietTactic
import Derived.BigQuiet
import Derived.Test.YtpmlggjhfiljmaaGreatDoorB06
/- Contracts of layer 2's small functions. -/
namespace Go.Proofs.YtpmlggjhfiljmaaGreatDoor
open Go.RowKit
set_option linter.unusedVariables false

def rightB (enc : Int) : Bool := decide (0 ≤ enc ∧ enc ≤ 8)
set_option maxHeartbeats 400000 in
theorem right_any (enc : Int) (w : World) : Calls Tryz.prog 112 #[.int .i64 enc] w fun e w' => e = .returned (.bool (rightB enc)) ∧ w = w' := by
  go_enter Tryz.func112, Tryz.ntmps112
  go_wp2
  all_goals (go_ret; exact ⟨ret_bool (by unfold rightB; rw [Bool.eq_iff_iff]; simp only [decide_eq_true_eq, Bool.false_eq_true, false_iff]; omega), rfl⟩)
set_option maxHeartbeats 400000 in
theorem upper_any (enc : Int) (w : World) : Calls Tryz.prog 254 #[.int .i64 enc] w fun e w' => e = .returned (.tuple #[.string (rowS enc), .int .i64 (fromI enc)]) ∧ w = w' := by
  by_cases h2 : enc = 2
  · subst h2
    go_enter Tryz.func254, Tryz.ntmps254
    go_wp2
    go_ret2
    exact ⟨by kernel_rfl, rfl⟩
  by_cases h4 : enc = 4
  · subst h4
    go_enter Tryz.func254, Tryz.ntmps254
    go_wp2
    go_ret2
    exact ⟨by kernel_rfl, rfl⟩
  by_cases h5 : enc = 5
  · subst h5
    go_enter Tryz.func254, Tryz.ntmps254
    go_wp2
    go_ret2
    exact ⟨by kernel_rfl, rfl⟩
  have b2 : (enc == 2) = false := by simp [h2]
  have b4 : (enc == 4) = false := by simp [h4]
  have b5 : (enc == 5) = false := by simp [h5]
  have HE : Hid (Ending.returned (.tuple #[.string ByteArray.empty, .int .i64 0]) = .returned (.tuple #[.string (rowS enc), .int .i64 (fromI enc)])) := by
    unfold rowS fromI; rw [if_neg h2, if_neg h4, if_neg h5, if_neg h2, if_neg h4, if_neg h5]; exact rfl
  clear h2 h4 h5
  go_enter Tryz.func254, Tryz.ntmps254
  go_wp2
  go_ret2
  exact ⟨HE.out, rfl⟩

/-- how far a range over a string has come: k of the runes l are told, the iterator stands at p -/
def Ran (s : ByteArray) (l : List Int) (k p : Nat) : Prop := k ≤ l.length ∧ ∃ f, decR s f p = l.drop k ∧ s.size ≤ p + f
theorem Ran.start {s : ByteArray} {l : List Int} (h : decR s s.size 0 = l) : Ran s l 0 0 := ⟨Nat.zero_le _, s.size, by simpa using h, by omega⟩
theorem Ran.more {s : ByteArray} {l : List Int} {k p : Nat} (h : Ran s l k p) (hp : p < s.size) : k < l.length ∧ ((Utf8.decode s p).1 : Int) = l.getD k 0 ∧ Ran s l (k + 1) (p + (Utf8.decode s p).2) := by
  obtain ⟨hk, f, hd, hf⟩ := h
  obtain ⟨f, rfl⟩ : ∃ n, f = n + 1 := ⟨f - 1, by omega⟩
  simp only [decR] at hd
  rw [if_pos hp] at hd
  have hlt : k < l.length := by
    rcases Nat.lt_or_ge k l.length with q | q
    · exact q
    · rw [List.drop_eq_nil_of_le q] at hd; cases hd
  rw [List.drop_eq_getElem_cons hlt] at hd
  injection hd with h1 h2
  have := decode_w s p hp
  exact ⟨hlt, by rw [h1, List.getD_eq_getElem?_getD, List.getElem?_eq_getElem hlt]; rfl, hlt, f, h2, by omega⟩
theorem Ran.end_ {s : ByteArray} {l : List Int} {k p : Nat} (h : Ran s l k p) (hp : ¬ p < s.size) : k = l.length := by
  obtain ⟨hk, f, hd, hf⟩ := h
  cases f with
  | zero =>
    simp only [decR] at hd
    have := List.drop_eq_nil_iff.1 hd.symm
    omega
  | succ f =>
    simp only [decR] at hd
    rw [if_neg hp] at hd
    have := List.drop_eq_nil_iff.1 hd.symm
    omega
def AtRel (s : ByteArray) (l : List Int) (n0 : Int) (W : World) (n : Value) (wr : World) : Prop := ∃ k p : Nat, Ran s l k p ∧ n = .int .i64 (n0 - k) ∧ (k : Int) ≤ n0 ∧ wr = W.iter s p
set_option maxHeartbeats 800000 in
theorem at_any (s : ByteArray) (l : List Int) (n : Int) (w : World) (hd : decR s s.size 0 = l) (hn : 0 ≤ n) (hn2 : n ≤ 1000000) :
    Calls Tryz.prog 319 #[.string s, .int .i64 n] w fun e w' => e = .returned (.int .i32 (l.getD n.toNat (-1))) ∧ Fresh w w' := by
  have HR : Hid (Ran s l 0 0) := Ran.start hd
  clear hd
  go_enter Tryz.func319, Tryz.ntmps319
  go_wp2
  go_loopw [1] (fun m wr => AtRel s l n w m wr) (fun _ wr => s.size - wr.iterPos w.heap.size)
  case atStart => exact ⟨0, 0, HR.out, by simp, by omega, rfl⟩
  case round =>
    obtain ⟨k, p, hran, rfl, hkn, rfl⟩ := hrel
    by_cases hp : p < s.size
    · obtain ⟨h1, h2, h3⟩ := hran.more hp
      have hw := decode_w s p hp
      have hnx : ∀ ty, (Instr.next (.pointer (some ⟨w.heap.size, 0, none⟩)) true ty).run Tryz.prog (w.iter s p) = .ok (.tuple #[.bool true, .int .i64 p, .int .i32 (l.getD k 0)]) (w.iter s (p + (Utf8.decode s p).2)) := fun ty => by
        rw [← h2]; exact run_next_any w s p ty hp
      have H3 := Lib.hid h3
      clear h2 h3 hran
      generalize (Utf8.decode s p).2 = d at hw hnx H3
      generalize hq : l.getD k 0 = q at hnx
      have HQ := Lib.hid hq
      clear hq
      by_cases hk : n - k = 0
      · have hb : (n - (k : Int) == 0) = true := by simp [hk]
        have HK := Lib.hid hk
        clear hk
        go_wp2
        go_ret
        exact ⟨ret_int (by
          have := HK.out
          rw [show n.toNat = k by omega, ← HQ.out, List.getD_eq_getElem?_getD, List.getD_eq_getElem?_getD, List.getElem?_eq_getElem h1]; rfl), (Fresh.refl _).alloc _⟩
      · have hb : (n - (k : Int) == 0) = false := by simp [hk]
        have HK := Lib.hid hk
        clear hk
        go_wp2
        refine ⟨⟨k + 1, p + d, H3.out, by rw [show n - ((k + 1 : Nat) : Int) = n - k - 1 by omega], by have := HK.out; omega, rfl⟩, by simp; omega⟩
    · have hnx : ∀ ty, (Instr.next (.pointer (some ⟨w.heap.size, 0, none⟩)) true ty).run Tryz.prog (w.iter s p) = .ok (.tuple #[.bool false]) (w.iter s p) := fun ty => run_next_end w s p ty hp
      have HE := Lib.hid (hran.end_ hp)
      clear hran
      go_wp2
      go_ret
      exact ⟨ret_int (by have := HE.out; rw [List.getD_eq_getElem?_getD, List.getElem?_eq_none (by omega)]; rfl), (Fresh.refl _).alloc _⟩
def FindRel (s : ByteArray) (l : List Int) (r : Int) (W : World) (n : Value) (wr : World) : Prop := ∃ k p : Nat, Ran s l k p ∧ n = .int .i64 k ∧ (∀ j : Nat, j < k → l.getD j 0 ≠ r) ∧ wr = W.iter s p
def FindPost (l : List Int) (r : Int) (w : World) (e : Ending) (w' : World) : Prop := ∃ k, e = .returned (.int .i64 k) ∧ FirstAt l r k ∧ Fresh w w'
set_option maxHeartbeats 800000 in
theorem find_any (s : ByteArray) (l : List Int) (r : Int) (w : World) (hd : decR s s.size 0 = l) (hl : l.length ≤ 1000000) :
    Calls Tryz.prog 255 #[.string s, .int .i32 r] w (FindPost l r w) := by
  have HR : Hid (Ran s l 0 0) := Ran.start hd
  clear hd
  go_enter Tryz.func255, Tryz.ntmps255
  go_wp2
  go_loopw [5] (fun m wr => FindRel s l r w m wr) (fun _ wr => s.size - wr.iterPos w.heap.size)
  case atStart => exact ⟨0, 0, HR.out, rfl, fun j hj => absurd hj (Nat.not_lt_zero _), rfl⟩
  case round =>
    obtain ⟨k, p, hran, rfl, he, rfl⟩ := hrel
    have HE := Lib.hid he
    clear he
    by_cases hp : p < s.size
    · obtain ⟨h1, h2, h3⟩ := hran.more hp
      have hw := decode_w s p hp
      have hnx : ∀ ty, (Instr.next (.pointer (some ⟨w.heap.size, 0, none⟩)) true ty).run Tryz.prog (w.iter s p) = .ok (.tuple #[.bool true, .int .i64 p, .int .i32 (l.getD k 0)]) (w.iter s (p + (Utf8.decode s p).2)) := fun ty => by
        rw [← h2]; exact run_next_any w s p ty hp
      have H3 := Lib.hid h3
      clear h2 h3 hran
      generalize (Utf8.decode s p).2 = d at hw hnx H3
      generalize hq : l.getD k 0 = q at hnx
      have HQ := Lib.hid hq
      clear hq
      by_cases hk : q = r
      · have hb : (q == r) = true := by simp [hk]
        have HK := Lib.hid hk
        clear hk
        go_wp2
        go_ret
        exact ⟨k, rfl, .inl ⟨by omega, by omega, by rw [Int.toNat_natCast, HQ.out, HK.out], fun j hj => HE.out j (by omega)⟩, (Fresh.refl _).alloc _⟩
      · have hb : (q == r) = false := by simp [hk]
        have HK := Lib.hid hk
        clear hk
        go_wp2
        refine ⟨⟨k + 1, p + d, H3.out, by rw [Int.natCast_add]; rfl, fun j hj => ?_, rfl⟩, by simp; omega⟩
        by_cases hjk : j = k
        · rw [hjk, HQ.out]; exact HK.out
        · exact HE.out j (by omega)
    · have hnx : ∀ ty, (Instr.next (.pointer (some ⟨w.heap.size, 0, none⟩)) true ty).run Tryz.prog (w.iter s p) = .ok (.tuple #[.bool false]) (w.iter s p) := fun ty => run_next_end w s p ty hp
      have HN := Lib.hid (hran.end_ hp)
      clear hran
      go_wp2
      go_ret
      exact ⟨-1, rfl, .inr ⟨rfl, fun j hj => HE.out j (by have := HN.out; omega)⟩, (Fresh.refl _).alloc _⟩
end Go.Proofs.YtpmlggjhfiljmaaGreatDoor
/- Shift_JIS: runs, kana, fromKana. -/
namespace Go.Proofs.YtpmlggjhfiljmaaGreatDoor
open Go.RowKit
set_option linter.unusedVariables false

def runCells : List Value := RT.flatMap fun x => [.int .u8 x.1, .int .u8 x.2.1, .int .u8 x.2.2.1, .int .i32 x.2.2.2]
theorem flat4 {α β : Type} (f : α → List β) (h4 : ∀ x, (f x).length = 4) : ∀ (l : List α) (k : Nat) (hk : k < l.length) (j : Nat), j < 4 → (l.flatMap f)[k * 4 + j]? = (f (l[k]))[j]?
  | [], k, hk, _, _ => by simp at hk
  | x :: l, 0, _, j, hj => by simp [List.getElem?_append_left (show j < (f x).length by rw [h4]; exact hj)]
  | x :: l, k + 1, hk, j, hj => by
    have := flat4 f h4 l k (by simpa using hk) j hj
    rw [List.flatMap_cons, List.getElem?_append_right (by rw [h4]; omega), h4, show (k + 1) * 4 + j - 4 = k * 4 + j by omega, this]
    rfl
theorem run_cells {k : Nat} (h : k < RT.length) : runCells[k * 4]? = some (.int .u8 (RT[k]).1) ∧ runCells[k * 4 + 1]? = some (.int .u8 (RT[k]).2.1) ∧ runCells[k * 4 + 2]? = some (.int .u8 (RT[k]).2.2.1) ∧ runCells[k * 4 + 3]? = some (.int .i32 (RT[k]).2.2.2) :=
  ⟨flat4 _ (fun _ => rfl) RT k h 0 (by omega), flat4 _ (fun _ => rfl) RT k h 1 (by omega), flat4 _ (fun _ => rfl) RT k h 2 (by omega), flat4 _ (fun _ => rfl) RT k h 3 (by omega)⟩
set_option maxHeartbeats 800000 in
theorem runs_any (w : World) :
    Calls Tryz.prog 318 #[] w fun e w' => e = .returned (.slice (some ⟨w.heap.size, 0, none⟩) 17 17) ∧ Fresh w w' ∧ Blk w' w.heap.size 404 runCells.toArray := by
  go_enter Tryz.func318, Tryz.ntmps318
  go_wp2
  go_ret
  refine ⟨rfl, (Fresh.refl _).alloc _, ?_⟩
  exact heap_alloc_new w _

/-- the piece that some bytes begin with; two: there is a second one -/
def kanaP (c d : Int) (two : Bool) : Int × Int :=
  if c < 128 then (c, 1) else if 161 ≤ c ∧ c ≤ 223 then (65377 + (c - 161), 1) else if two = true ∧ 0 ≤ twoI c d then (twoI c d, 2) else (-1, 1)
def PieceIs (p : Int × Int) (w : World) (e : Ending) (w' : World) : Prop := e = .returned (.agg #[.int .i32 p.1, .int .i64 p.2]) ∧ Fresh w w'
theorem PieceIs.mk {p : Int × Int} {a b : Int} {w w' : World} (h : p = (a, b)) (hf : Fresh w w') : PieceIs p w (.returned (.agg #[.int .i32 a, .int .i64 b])) w' := ⟨by rw [h], hf⟩
def KanaRel (c d : Int) (w : World) (i : Value) (wr : World) : Prop := ∃ k : Nat, i = .int .i64 k ∧ k ≤ 17 ∧ (∀ x ∈ RT.take k, ¬ hitB x c d) ∧ Fresh w wr
theorem miss_more {k : Nat} (hk : k < RT.length) {p : Int × Int × Int × Int → Prop} (h : ∀ x ∈ RT.take k, ¬ p x) (h2 : ¬ p RT[k]) : ∀ x ∈ RT.take (k + 1), ¬ p x := by
  intro x hx
  rw [List.take_succ_eq_append_getElem hk, List.mem_append, List.mem_singleton] at hx
  rcases hx with hx | rfl
  · exact h x hx
  · exact h2
theorem two_none {c d : Int} (h : ∀ x ∈ RT, ¬ hitB x c d) : twoI c d = -1 := by
  rcases two_cases c d with ⟨x, hx, h1, _⟩ | ⟨_, h2⟩
  · exact absurd h1 (h x hx)
  · exact h2

end Go.Proofs.YtpmlggjhfiljmaaGreatDoor
/- Shift_JIS: kana. -/
namespace Go.Proofs.YtpmlggjhfiljmaaGreatDoor
open Go.RowKit
set_option linter.unusedVariables false

set_option maxHeartbeats 1600000 in
theorem kana_two (s : ByteArray) (c d : Int) (h0 : 0 < s.size) (h1 : 1 < s.size) (hc : ((s[0]'h0).toNat : Int) = c) (hd : ((s[1]'h1).toNat : Int) = d) (hs : s.size ≤ 140737488351232)
    (hx : 128 ≤ c) (hy : c < 256) (hh : c < 161 ∨ 223 < c) (d0 : 0 ≤ d) (d1 : d < 256) (w : World) :
    Calls Tryz.prog 248 #[.string s] w (PieceIs (kanaP c d true) w) := by
  have HK : Hid (kanaP c d true = if 0 ≤ twoI c d then (twoI c d, 2) else (-1, 1)) := by
    unfold kanaP
    rw [if_neg (by omega), if_neg (by omega)]
    simp [Hid]
  go_enter Tryz.func248, Tryz.ntmps248
  rcases hh with hh | hh
  all_goals
    go_wp2_with fail
    refine (runs_any _).mono ?_
    rintro e w1 ⟨rfl, hf1, hblk⟩
    have hblk' : Blk w1 (w.heap.size + 1) 404 runCells.toArray := by simpa using hblk
    clear hblk
    have hbp := (Blk.new w 119 #[.int .i32 0, .int .i64 0]).keep hf1
    have hf0 : Fresh w w1 := ((Fresh.refl w).alloc _).trans hf1
    go_wp2
    go_loopw [33] (fun i wr => KanaRel c d w1 i wr) (fun i _ => 17 - (intOf i).toNat)
    case atStart => exact ⟨0, rfl, by omega, fun x hx => by simp at hx, Fresh.refl _⟩
    case round =>
      obtain ⟨k, rfl, hk, hm, hf⟩ := hrel
      have HM := Lib.hid hm
      clear hm
      have bp := hbp.keep hf
      have p0 : wr.cell? ⟨w.heap.size, 0, none⟩ = some (.int .i32 0) := bp.cell 0
      have p1 : wr.cell? ⟨w.heap.size, 1, none⟩ = some (.int .i64 0) := bp.cell 1
      have f0 : wr.frozen? ⟨w.heap.size, 0, none⟩ = false := bp.frozen 0
      have f1 : wr.frozen? ⟨w.heap.size, 1, none⟩ = false := bp.frozen 1
      have hne : w.heap.size < wr.heap.size := bp.lt
      by_cases hlt : k < 17
      · have hlt' : k < RT.length := hlt
        obtain ⟨t0, t1, t2, t3⟩ := run_cells hlt'
        have hb2 := hblk'.keep hf
        have HX := Lib.hid (RT_of (List.getElem_mem hlt')).1
        have HMM := Lib.hid (fun h => miss_more hlt' (p := fun x => hitB x c d) HM.out h)
        have HT : Hid (hitB RT[k] c d → twoI c d = (RT[k]).2.2.2 + (d - (RT[k]).2.1)) := fun h => two_of (List.getElem_mem hlt') h
        generalize RT[k] = x at t0 t1 t2 t3 HX HMM HT
        obtain ⟨x0, x1, x2, x3⟩ := x
        have c0 : wr.cell? ⟨w.heap.size + 1, k * 4, none⟩ = some (.int .u8 x0) := by rw [hb2.cell]; simpa using t0
        have c1 : wr.cell? ⟨w.heap.size + 1, k * 4 + 1, none⟩ = some (.int .u8 x1) := by rw [hb2.cell]; simpa using t1
        have c2 : wr.cell? ⟨w.heap.size + 1, k * 4 + 2, none⟩ = some (.int .u8 x2) := by rw [hb2.cell]; simpa using t2
        have c3 : wr.cell? ⟨w.heap.size + 1, k * 4 + 3, none⟩ = some (.int .i32 x3) := by rw [hb2.cell]; simpa using t3
        clear t0 t1 t2 t3 bp
        generalize hq : runCells.toArray = rc at hb2
        clear hb2 hq
        have hx0 := HX.out
        simp only at hx0
        obtain ⟨a1, a2, a3, a4, a5, a6, a7, a8⟩ := hx0
        by_cases e1 : x0 = c
        · have b1 : (x0 == c) = true := by simp [e1]
          have E1 := Lib.hid e1
          clear e1
          by_cases e2 : x1 ≤ d
          · by_cases e3 : d ≤ x2
            · have HZ : Hid (kanaP c d true = (x3 + (d - x1), 2)) := by
                have := HT.out ⟨E1.out, e2, e3⟩
                simp only at this
                rw [HK.out, this, if_pos (by omega)]
                exact rfl
              go_wp2
              go_quiet (fail)
              go_wp2
              have q1 : IntKind.u8.wrap (d - x1) = d - x1 := by rw [IntKind.wrap_u8]; omega
              have q2 : IntKind.i32.wrap (d - x1) = d - x1 := by rw [IntKind.wrap_i32]; omega
              have q3 : IntKind.i32.wrap (x3 + (d - x1)) = x3 + (d - x1) := by rw [IntKind.wrap_i32]; omega
              go_region
              clear q1 q2 q3
              go_wp2
              have d0 : (wr.alloc (.cells #[.int .u8 x0, .int .u8 x1, .int .u8 x2, .int .i32 x3] 404)).cell? ⟨w.heap.size, 0, none⟩ = some (.int .i32 0) := (World.cell?_alloc_lt wr _ _ hne).trans p0
              have d1 : (wr.alloc (.cells #[.int .u8 x0, .int .u8 x1, .int .u8 x2, .int .i32 x3] 404)).cell? ⟨w.heap.size, 1, none⟩ = some (.int .i64 0) := (World.cell?_alloc_lt wr _ _ hne).trans p1
              exact bodyPost_ret (v := .agg #[.int .i32 (x3 + (d - x1)), .int .i64 2]) (by simp [results, Tryz.results248, go_sem, d0, d1]) rfl (PieceIs.mk HZ.out ((((hf0.trans (hf.alloc _)).drewN _).setCell (Nat.le_refl _) _).setCell (Nat.le_refl _) _))
            · have g3 : decide (d ≤ x2) = false := decide_eq_false e3
              go_wp2
              go_quiet (fail)
              go_wp2
              exact ⟨⟨k + 1, by rw [Int.natCast_add]; rfl, by omega, HMM.out (fun h => by have h3 := h.2.2; simp only at h3; omega), (hf.alloc _).drewN _⟩, by simp [intOf]; omega⟩
          · have g2 : decide (x1 ≤ d) = false := decide_eq_false e2
            go_wp2
            go_quiet (fail)
            go_wp2
            exact ⟨⟨k + 1, by rw [Int.natCast_add]; rfl, by omega, HMM.out (fun h => by have h3 := h.2.1; simp only at h3; omega), (hf.alloc _).drewN _⟩, by simp [intOf]; omega⟩
        · have b1 : (x0 == c) = false := by simp [e1]
          have E1 := Lib.hid e1
          clear e1
          go_wp2
          go_quiet (fail)
          go_wp2
          exact ⟨⟨k + 1, by rw [Int.natCast_add]; rfl, by omega, HMM.out (fun h => E1.out h.1), (hf.alloc _).drewN _⟩, by simp [intOf]; omega⟩
      · have HZ : Hid (kanaP c d true = (-1, 1)) := by
          have : twoI c d = -1 := two_none (fun x hx => HM.out x (by rw [List.take_of_length_le (by show 17 ≤ k; omega)]; exact hx))
          rw [HK.out, this]
          exact rfl
        go_wp2
        exact bodyPost_ret (v := .agg #[.int .i32 (-1), .int .i64 1]) (by simp [results, Tryz.results248, go_sem, p0, p1]) rfl (PieceIs.mk HZ.out (((hf0.trans hf).setCell (Nat.le_refl _) _).setCell (Nat.le_refl _) _))

set_option maxHeartbeats 800000 in
theorem kana_one (s : ByteArray) (c : Int) (h0 : 0 < s.size) (hc : ((s[0]'h0).toNat : Int) = c) (hs : s.size ≤ 140737488351232)
    (hx : 0 ≤ c) (hy : c < 256) (hh : s.size = 1 ∨ c < 128 ∨ (161 ≤ c ∧ c ≤ 223)) (d : Int) (two : Bool) (ht : two = decide (1 < s.size)) (w : World) :
    Calls Tryz.prog 248 #[.string s] w (PieceIs (kanaP c d two) w) := by
  by_cases a1 : c < 128
  · have HZ : Hid (kanaP c d two = (c, 1)) := by unfold kanaP; rw [if_pos a1]; exact rfl
    clear hh ht
    go_enter Tryz.func248, Tryz.ntmps248
    go_wp2
    exact bodyPost_ret (v := .agg #[.int .i32 c, .int .i64 1]) (by simp [results, Tryz.results248, go_sem]) rfl (PieceIs.mk HZ.out ((Fresh.refl _).alloc _))
  by_cases a2 : 161 ≤ c ∧ c ≤ 223
  · have HZ : Hid (kanaP c d two = (65377 + (c - 161), 1)) := by unfold kanaP; rw [if_neg a1, if_pos a2]; exact rfl
    obtain ⟨a2, a3⟩ := a2
    clear hh ht
    go_enter Tryz.func248, Tryz.ntmps248
    go_wp2
    exact bodyPost_ret (v := .agg #[.int .i32 (65377 + (c - 161)), .int .i64 1]) (by simp [results, Tryz.results248, go_sem]) rfl (PieceIs.mk HZ.out ((Fresh.refl _).alloc _))
  · have h1 : s.size = 1 := by omega
    have HZ : Hid (kanaP c d two = (-1, 1)) := by unfold kanaP; rw [if_neg a1, if_neg a2, ht, h1, if_neg (by simp)]; exact rfl
    have h2 : s.size < 2 := by omega
    have h3 : c < 161 ∨ 223 < c := by omega
    clear hh ht h1 a2
    rcases h3 with h3 | h3
    · go_enter Tryz.func248, Tryz.ntmps248
      go_wp2
      exact bodyPost_ret (v := .agg #[.int .i32 (-1), .int .i64 1]) (by simp [results, Tryz.results248, go_sem]) rfl (PieceIs.mk HZ.out ((Fresh.refl _).alloc _))
    · go_enter Tryz.func248, Tryz.ntmps248
      go_wp2
      exact bodyPost_ret (v := .agg #[.int .i32 (-1), .int .i64 1]) (by simp [results, Tryz.results248, go_sem]) rfl (PieceIs.mk HZ.out ((Fresh.refl _).alloc _))
theorem kana_any (s : ByteArray) (h0 : 0 < s.size) (hs : s.size ≤ 140737488351232) (w : World) :
    Calls Tryz.prog 248 #[.string s] w (PieceIs (kanaP (B s 0) (B s 1) (decide (1 < s.size))) w) := by
  have b0 := B_range s 0
  have b1 := B_range s 1
  by_cases h : s.size = 1 ∨ B s 0 < 128 ∨ (161 ≤ B s 0 ∧ B s 0 ≤ 223)
  · exact kana_one s _ h0 (B_at s 0 h0) hs b0.1 b0.2 h _ _ rfl w
  · have h1 : 1 < s.size := by omega
    rw [decide_eq_true h1]
    exact kana_two s _ _ h0 h1 (B_at s 0 h0) (B_at s 1 h1) hs (by omega) b0.2 (by omega) b1.1 b1.2 w
end Go.Proofs.YtpmlggjhfiljmaaGreatDoor
/- fromKana, euro, single. -/
namespace Go.Proofs.YtpmlggjhfiljmaaGreatDoor
open Go.RowKit
set_option linter.unusedVariables false

/-- bytes, if there are any -/
def BytesIs (o : Option (List Int)) (w : World) (e : Ending) (w' : World) : Prop :=
  e = .returned (.tuple #[.string (match o with | some l => strOfNums l | none => ByteArray.empty), .bool o.isSome]) ∧ Fresh w w'
theorem BytesIs.yes {o : Option (List Int)} {l : List Int} {w w' : World} (h : o = some l) (hf : Fresh w w') : BytesIs o w (.returned (.tuple #[.string (strOfNums l), .bool true])) w' := ⟨by rw [h]; rfl, hf⟩
theorem BytesIs.no {o : Option (List Int)} {w w' : World} (h : o = none) (hf : Fresh w w') : BytesIs o w (.returned (.tuple #[.string ByteArray.empty, .bool false])) w' := ⟨by rw [h]; rfl, hf⟩
def encK (r : Int) : Option (List Int) :=
  if r < 128 then some [r] else if 65377 ≤ r ∧ r ≤ 65439 then some [161 + r - 65377] else (pairK r).map fun x => [x.1, x.2]
def FromRel (r : Int) (w : World) (i : Value) (wr : World) : Prop := ∃ k : Nat, i = .int .i64 k ∧ k ≤ 17 ∧ (∀ x ∈ RT.take k, ¬ hitR x r) ∧ Fresh w wr
theorem miss_more2 {k : Nat} (hk : k < RT.length) {p : Int × Int × Int × Int → Prop} (h : ∀ x ∈ RT.take k, ¬ p x) (h2 : ¬ p RT[k]) : ∀ x ∈ RT.take (k + 1), ¬ p x := by
  intro x hx
  rw [List.take_succ_eq_append_getElem hk, List.mem_append, List.mem_singleton] at hx
  rcases hx with hx | rfl
  · exact h x hx
  · exact h2
theorem pair_none {r : Int} (h : ∀ x ∈ RT, ¬ hitR x r) : pairK r = none := by
  rcases echain_mem (r := r) RT with ⟨x, hx, h1, _⟩ | ⟨_, h2⟩
  · exact absurd h1 (h x hx)
  · exact h2
set_option maxHeartbeats 1600000 in
theorem fromKana_any (r : Int) (h0 : 0 ≤ r) (h1 : r < 1114112) (w : World) :
    Calls Tryz.prog 253 #[.int .i32 r] w (BytesIs (encK r) w) := by
  have k1 := conv1
  have k2 : ∀ (a b : Int) (X : Obj) (W : World), (convert 131 9 (.slice (some ⟨W.heap.size + 1, 0, none⟩) 2 2)).run Tryz.prog ((W.alloc X).alloc (.cells #[.int .u8 a, .int .u8 b] 5)) = .ok (.string (strOfNums [a, b])) ((W.alloc X).alloc (.cells #[.int .u8 a, .int .u8 b] 5)) := fun a b X W => by
    have := conv2 a b (W.alloc X)
    simpa using this
  by_cases a1 : r < 128
  · have HZ : Hid (encK r = some [r]) := by unfold encK; rw [if_pos a1]; exact rfl
    go_enter Tryz.func253, Tryz.ntmps253
    go_wp2
    go_ret2
    exact BytesIs.yes HZ.out ((Fresh.refl _).alloc _)
  by_cases a2 : 65377 ≤ r ∧ r ≤ 65439
  · have HZ : Hid (encK r = some [161 + r - 65377]) := by unfold encK; rw [if_neg a1, if_pos a2]; exact rfl
    obtain ⟨a2, a3⟩ := a2
    go_enter Tryz.func253, Tryz.ntmps253
    go_wp2
    go_ret2
    exact BytesIs.yes HZ.out ((Fresh.refl _).alloc _)
  have HK : Hid (encK r = (pairK r).map fun x => [x.1, x.2]) := by unfold encK; rw [if_neg a1, if_neg a2]; exact rfl
  have a3 : r < 65377 ∨ 65439 < r := by omega
  clear a2
  go_enter Tryz.func253, Tryz.ntmps253
  rcases a3 with a3 | a3
  all_goals
    go_wp2_with fail
    refine (runs_any _).mono ?_
    rintro e w1 ⟨rfl, hf1, hblk⟩
    go_wp2
    go_loopw [29] (fun i wr => FromRel r w1 i wr) (fun i _ => 17 - (intOf i).toNat)
    case atStart => exact ⟨0, rfl, by omega, fun x hx => by simp at hx, Fresh.refl _⟩
    case round =>
      obtain ⟨k, rfl, hk, hm, hf⟩ := hrel
      have HM := Lib.hid hm
      clear hm
      by_cases hlt : k < 17
      · have hlt' : k < RT.length := hlt
        obtain ⟨t0, t1, t2, t3⟩ := run_cells hlt'
        have hb2 := hblk.keep hf
        have HX := Lib.hid (RT_of (List.getElem_mem hlt')).1
        have HMM := Lib.hid (fun h => miss_more2 hlt' (p := fun x => hitR x r) HM.out h)
        have HT : Hid (hitR RT[k] r → pairK r = some ((RT[k]).1, (RT[k]).2.1 + (r - (RT[k]).2.2.2))) := fun h => pair_of (List.getElem_mem hlt') h
        generalize RT[k] = x at t0 t1 t2 t3 HX HMM HT
        obtain ⟨x0, x1, x2, x3⟩ := x
        have c0 : wr.cell? ⟨w.heap.size, k * 4, none⟩ = some (.int .u8 x0) := by rw [hb2.cell]; simpa using t0
        have c1 : wr.cell? ⟨w.heap.size, k * 4 + 1, none⟩ = some (.int .u8 x1) := by rw [hb2.cell]; simpa using t1
        have c2 : wr.cell? ⟨w.heap.size, k * 4 + 2, none⟩ = some (.int .u8 x2) := by rw [hb2.cell]; simpa using t2
        have c3 : wr.cell? ⟨w.heap.size, k * 4 + 3, none⟩ = some (.int .i32 x3) := by rw [hb2.cell]; simpa using t3
        generalize hq : runCells.toArray = rc at hb2
        clear t0 t1 t2 t3 hb2 hq
        have hx0 := HX.out
        simp only at hx0
        obtain ⟨y1, y2, y3, y4, y5, y6, y7, y8⟩ := hx0
        by_cases e1 : 0 ≤ r - x3
        · by_cases e2 : r - x3 ≤ x2 - x1
          · have HZ : Hid (encK r = some [x0, x1 + (r - x3)]) := by
              have := HT.out ⟨e1, e2⟩
              rw [HK.out, this]
              exact rfl
            go_wp2
            go_ret2
            exact BytesIs.yes HZ.out (((hf1.trans hf).alloc _).alloc _)
          · go_wp2
            exact ⟨⟨k + 1, by rw [Int.natCast_add]; rfl, by omega, HMM.out (fun h => by have h3 := h.2; simp only at h3; omega), hf.alloc _⟩, by simp [intOf]; omega⟩
        · go_wp2
          exact ⟨⟨k + 1, by rw [Int.natCast_add]; rfl, by omega, HMM.out (fun h => by have h3 := h.1; simp only at h3; omega), hf.alloc _⟩, by simp [intOf]; omega⟩
      · have HZ : Hid (encK r = none) := by
          have : pairK r = none := pair_none (fun x hx => HM.out x (by rw [List.take_of_length_le (by show 17 ≤ k; omega)]; exact hx))
          rw [HK.out, this]
          exact rfl
        go_wp2
        go_ret2
        exact BytesIs.no HZ.out (hf1.trans hf)
end Go.Proofs.YtpmlggjhfiljmaaGreatDoor
