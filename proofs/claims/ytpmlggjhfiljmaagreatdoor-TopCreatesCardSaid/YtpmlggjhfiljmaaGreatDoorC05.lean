/- Contracts that the law rests on, part 5 of 50 (UtfH, UtfJ, UtfK, UtfL, UtfM, UtfZ). Each states its own conditions. -/
import Derived.Laws.AppendOwn
import Derived.OwnWalk
import Derived.Deep.LoopGhost
import Derived.Lib.AppendStr
import Derived.Laws.BytesArg
import Derived.Test.YtpmlggjhfiljmaaGreatDoorC04
/- toponymref01.Next wherever it is asked; UtfNext: the walk. -/
namespace Go.Proofs.YtpmlggjhfiljmaaGreatDoor
open Go.RowKit
set_option linter.unusedVariables false
set_option maxHeartbeats 400000 in
theorem refNext_out (s : ByteArray) (i : Int) (h : i < 0 ∨ (s.size : Int) ≤ i) (hs : s.size ≤ 140737488351232) (w : World) :
    Calls Tryz.prog 58 #[.string s, .int .i64 i] w fun e w' => e = .returned (.tuple #[.int .i32 0, .int .i64 0]) ∧ Fresh w w' := by
  rcases h with h | h
  · go_enter Tryz.func58, Tryz.ntmps58
    go_wp2
    refine wp_loop_rounds 1 ?_
    rw [rounds_succ]
    go_wp2
    go_ret2
    exact ⟨rfl, Fresh.refl _⟩
  · have h0 : ¬ i < 0 := by omega
    go_enter Tryz.func58, Tryz.ntmps58
    go_wp2
    refine wp_loop_rounds 1 ?_
    rw [rounds_succ]
    go_wp2
    go_ret2
    exact ⟨rfl, Fresh.refl _⟩
theorem refNext_any (s : ByteArray) (i : Int) (hs : s.size ≤ 140737488351232) (w : World) :
    Calls Tryz.prog 58 #[.string s, .int .i64 i] w fun e w' => e = .returned (.tuple #[.int .i32 (nextI s i).1, .int .i64 (nextI s i).2]) ∧ Fresh w w' := by
  by_cases hi : 0 ≤ i ∧ i < (s.size : Int)
  · obtain ⟨p, rfl⟩ := Int.eq_ofNat_of_zero_le hi.1
    have e : nextI s (p : Int) = nxt s p := by unfold nextI; rw [if_pos hi]; rfl
    rw [e]
    exact refNext_in s p (by omega) hs w
  · have e : nextI s i = (0, 0) := by unfold nextI; rw [if_neg hi]
    rw [e]
    exact refNext_out s i (by omega) hs w
end Go.Proofs.YtpmlggjhfiljmaaGreatDoor
/- Plain words: all characters of a string; the bytes of a list of numbers. -/
namespace Go.Proofs.YtpmlggjhfiljmaaGreatDoor
open Go.RowKit
set_option linter.unusedVariables false
theorem nxt_pos {s : ByteArray} {p : Nat} (hp : p < s.size) (h : (nxt s p).2 ≠ 0) : 1 ≤ (nxt s p).2 ∧ (nxt s p).2 ≤ 4 ∧ (p : Int) + (nxt s p).2 ≤ s.size := by
  obtain ⟨h1, h2, h3, _⟩ := nxt_sound hp h
  have := encI_len (nxt s p).1
  rcases szI_cases (nxt s p).1 with q | q | q | q <;> omega
/-- all characters from a place on, with so many steps -/
def decN (s : ByteArray) : Nat → Nat → Option (List Int)
  | 0, p => if s.size ≤ p then some [] else none
  | f + 1, p => if s.size ≤ p then some [] else if (nxt s p).2 = 0 then none else (decN s f (p + (nxt s p).2.toNat)).map ((nxt s p).1 :: ·)
theorem decN_more (s : ByteArray) : ∀ (f p g : Nat), s.size - p ≤ f → s.size - p ≤ g → decN s f p = decN s g p := by
  intro f
  induction f with
  | zero =>
    intro p g h1 h2
    have : s.size ≤ p := by omega
    cases g <;> simp [decN, this]
  | succ f ih =>
    intro p g h1 h2
    cases g with
    | zero =>
      have : s.size ≤ p := by omega
      simp [decN, this]
    | succ g =>
      simp only [decN]
      by_cases hp : s.size ≤ p
      · simp [hp]
      · rw [if_neg hp, if_neg hp]
        by_cases h0 : (nxt s p).2 = 0
        · simp [h0]
        · rw [if_neg h0, if_neg h0]
          have := nxt_pos (by omega) h0
          rw [ih (p + (nxt s p).2.toNat) g (by omega) (by omega)]
def allFrom (s : ByteArray) (p : Nat) : Option (List Int) := decN s (s.size - p) p
theorem allFrom_end {s : ByteArray} {p : Nat} (h : s.size ≤ p) : allFrom s p = some [] := by
  unfold allFrom
  cases hn : s.size - p <;> simp [decN, h]
theorem allFrom_no {s : ByteArray} {p : Nat} (h : p < s.size) (h0 : (nxt s p).2 = 0) : allFrom s p = none := by
  unfold allFrom
  obtain ⟨n, hn⟩ : ∃ n, s.size - p = n + 1 := ⟨s.size - p - 1, by omega⟩
  rw [hn]
  simp [decN, h0, Nat.not_le.2 h]
theorem allFrom_yes {s : ByteArray} {p : Nat} (h : p < s.size) (h0 : (nxt s p).2 ≠ 0) : allFrom s p = (allFrom s (p + (nxt s p).2.toNat)).map ((nxt s p).1 :: ·) := by
  have hp := nxt_pos h h0
  unfold allFrom
  obtain ⟨n, hn⟩ : ∃ n, s.size - p = n + 1 := ⟨s.size - p - 1, by omega⟩
  rw [hn]
  simp only [decN]
  rw [if_neg (Nat.not_le.2 h), if_neg h0, decN_more s n _ (s.size - (p + (nxt s p).2.toNat)) (by omega) (by omega)]
/-- the bytes of those that are characters, one behind the other -/
def joinS : List Int → ByteArray
  | [] => ByteArray.empty
  | r :: l => encS r ++ joinS l
theorem joinS_append : ∀ (a b : List Int), joinS (a ++ b) = joinS a ++ joinS b
  | [], b => by simp [joinS]
  | r :: a, b => by simp [joinS, joinS_append a b, ByteArray.append_assoc]
theorem joinS_one (r : Int) : joinS [r] = encS r := by simp [joinS]
theorem encS_small (r : Int) : (encS r).size ≤ 4 := by
  cases hc : isC r with
  | true => have := size_enc hc; rcases szI_cases r with h | h | h | h <;> omega
  | false => rw [encS_none hc]; exact Nat.zero_le _
theorem joinS_size : ∀ l : List Int, (joinS l).size ≤ 4 * l.length
  | [] => Nat.le_refl _
  | r :: l => by
    have := encS_small r
    have := joinS_size l
    simp only [joinS, ByteArray.size_append, List.length_cons]
    omega
theorem B_append_left (a b : ByteArray) (i : Nat) (h : i < a.size) : B (a ++ b) i = B a i := by
  unfold B
  have hl : i < a.data.toList.length := by simpa using h
  have : (a ++ b).data.toList = a.data.toList ++ b.data.toList := by rw [ByteArray.data_append, Array.toList_append]
  rw [this, List.getD_eq_getElem?_getD, List.getD_eq_getElem?_getD, List.getElem?_append_left hl]
theorem B_append_right (a b : ByteArray) (i : Nat) : B (a ++ b) (a.size + i) = B b i := by
  unfold B
  have : (a ++ b).data.toList = a.data.toList ++ b.data.toList := by rw [ByteArray.data_append, Array.toList_append]
  have hl : a.data.toList.length = a.size := by simp
  rw [this, List.getD_eq_getElem?_getD, List.getD_eq_getElem?_getD, List.getElem?_append_right (by omega), show a.size + i - a.data.toList.length = i from by omega]
end Go.Proofs.YtpmlggjhfiljmaaGreatDoor
/- Contracts of All, the program's and the reference's. -/
namespace Go.Proofs.YtpmlggjhfiljmaaGreatDoor
open Go.RowKit
set_option linter.unusedVariables false
/-- a slice of runes of the call's own -/
def OwnR (w : World) (B : Nat) (v : Value) (xs : List Int) : Prop := w.ownsRow B 21 1 v xs.length (xs.map (Value.int .i32))
theorem OwnR.nil (w : World) (B : Nat) : OwnR w B (.slice none 0 0) [] := World.ownsRow_nil _ _ _ _
theorem OwnR.keep {w w' : World} {B : Nat} {v : Value} {xs : List Int} (h : OwnR w B v xs) (hf : Fresh w w') : OwnR w' B v xs := by
  refine World.ownsRow.kept (row := none) h ⟨hf.os, hf.tape, hf.output, hf.size, fun k hk _ => hf.block k hk⟩ ?_
  cases hv : v.ownBlock with
  | none => exact .inl rfl
  | some k => exact .inr (by simp)
theorem OwnR.push {w' : World} {B : Nat} {v' : Value} {acc : List Int} {r : Int} (h : w'.ownsRow B 21 1 v' (acc.length + 1) (acc.map (Value.int .i32) ++ [.int .i32 r])) : OwnR w' B v' (acc ++ [r]) := by
  unfold OwnR
  simpa using h
theorem OwnR.fresh {w w1 w' : World} {v : Value} {o : Obj} {e : TypeId} {n : Nat} {xs : List Value} (hf : Fresh w w1) (ho : w1.ownsRow w.heap.size e 1 v n xs) (hg : (w1.alloc o).grownBy w' v.ownBlock) : Fresh w w' :=
  Below.grown (hf.alloc o) hg (by have := hf.size; simp; omega) (fun k hk => (ho.lt k hk).1)
theorem cell_new1 (w : World) (v : Value) (t : TypeId) : ∀ (j : Nat) (u : Value), [v][j]? = some u → (w.alloc (.cells #[v] t)).cell? ((⟨w.heap.size, 0, none⟩ : Addr).add j) = some u := by
  intro j u hj
  match j, hj with
  | 0, hj => simp at hj; subst hj; simp [Addr.add]
theorem info32 : (Tryz.prog.info? 21).map (fun i => (i.zero, i.size, i.bytes)) = some (some (.int .i32 0), 1, 4) := by kernel_rfl
def AllRel (s : ByteArray) (w : World) (out at_ : Value) (wr : World) : Prop :=
  ∃ (p : Nat) (acc : List Int), at_ = .int .i64 p ∧ p ≤ s.size ∧ acc.length ≤ p ∧ OwnR wr w.heap.size out acc ∧ Fresh w wr ∧ allFrom s 0 = (allFrom s p).map (acc ++ ·)
def AllPost (s : ByteArray) (w : World) (e : Ending) (w' : World) : Prop :=
  ∃ v, e = .returned (.tuple #[v, .bool (allFrom s 0).isSome]) ∧ OwnR w' w.heap.size v ((allFrom s 0).getD []) ∧ Fresh w w'
theorem AllPost.yes {s : ByteArray} {w w' : World} {v : Value} {l : List Int} (h : allFrom s 0 = some l) (ho : OwnR w' w.heap.size v l) (hf : Fresh w w') : AllPost s w (.returned (.tuple #[v, .bool true])) w' :=
  ⟨v, by rw [h]; rfl, by rw [h]; exact ho, hf⟩
theorem AllPost.no {s : ByteArray} {w w' : World} (h : allFrom s 0 = none) (hf : Fresh w w') : AllPost s w (.returned (.tuple #[.slice none 0 0, .bool false])) w' :=
  ⟨_, by rw [h]; rfl, by rw [h]; exact OwnR.nil _ _, hf⟩
set_option maxHeartbeats 800000 in
theorem refAll_any (s : ByteArray) (hs : s.size ≤ 1000000) (w : World) : Calls Tryz.prog 17 #[.string s] w (AllPost s w) := by
  obtain ⟨i0, hi0, hz0, hz1, hz2⟩ := info_parts info32
  go_enter Tryz.func17, Tryz.ntmps17
  go_wp2
  go_loopw [4, 5] (fun out at_ wr => AllRel s w out at_ wr) (fun _ at_ _ => s.size - (intOf at_).toNat)
  case atStart => exact ⟨0, [], rfl, Nat.zero_le _, Nat.le_refl _, OwnR.nil _ _, Fresh.refl _, by cases allFrom s 0 <;> rfl⟩
  case round =>
    obtain ⟨p, acc, rfl, hp, hl, hown, hf, hall⟩ := hrel
    have HA := Lib.hid hall
    clear hall
    by_cases hlt : p < s.size
    · go_wp2_with fail
      refine (refNext_any _ _ (by omega) _).mono ?_
      rintro e w1 ⟨rfl, h1⟩
      have en : nextI s (p : Int) = nxt s p := by unfold nextI; rw [if_pos (by omega)]; rfl
      rw [en]
      by_cases h0 : (nxt s p).2 = 0
      · have hno : allFrom s 0 = none := by rw [HA.out, allFrom_no hlt h0]; rfl
        have HN := Lib.hid hno
        rw [h0]
        clear hno h0 en
        go_wp2
        go_ret2
        exact AllPost.no HN.out (hf.trans h1)
      · have hq := nxt_pos hlt h0
        have hy := allFrom_yes hlt h0
        have HY := Lib.hid hy
        clear hy en
        generalize hr : (nxt s p).1 = r at HY
        generalize hn : (nxt s p).2 = n at HY hq h0
        clear hr hn
        obtain ⟨hq1, hq2, hq3⟩ := hq
        have h00 : (n == 0) = false := by simp; exact h0
        have hown1 := hown.keep h1
        unfold OwnR at hown1
        go_wp2_with (at_builtin; refine wpList_append_own _ rfl _ _ 50 rfl w.heap.size 21 i0 (.int .i32 0) 1 4 Tryz.underlying50 hi0 hz0 hz1 hz2 rfl (by decide) _ _ _ rfl (hown1.alloc _) ⟨w1.heap.size, 0, none⟩ 1 1 [.int .i32 r] rfl rfl ?c1 ?c2 ?c3 ?c4 ?c5 ?_)
        case c1 => exact cell_new1 _ _ _
        case c2 => intro u hu; simp at hu; subst hu; rfl
        case c3 => unfold maxLen; omega
        case c4 => omega
        case c5 => have := (hf.trans h1).size; simp; omega
        intro v' w' hown' hgrow _
        have hn' := OwnR.push hown'
        have hf' := OwnR.fresh (hf.trans h1) hown1 hgrow
        clear hown' hgrow hown1 hown
        go_wp2
        go_roundw
        case rel =>
          refine ⟨p + n.toNat, acc ++ [r], by rw [Int.natCast_add, Int.toNat_of_nonneg (by omega)], by omega, by simp; omega, hn', hf', ?_⟩
          rw [HA.out, HY.out]
          cases allFrom s (p + n.toNat) <;> simp
        case measure => simp [intOf]; omega
    · have hy : allFrom s 0 = some acc := by rw [HA.out, allFrom_end (by omega)]; simp
      have HY := Lib.hid hy
      clear hy
      go_wp2
      go_ret2
      exact AllPost.yes HY.out hown hf
end Go.Proofs.YtpmlggjhfiljmaaGreatDoor
/- Slices that are read; Same; Join, the program's and the reference's. -/
namespace Go.Proofs.YtpmlggjhfiljmaaGreatDoor
open Go.RowKit
set_option linter.unusedVariables false
/-- a slice that reads as these numbers -/
def Sl (w : World) (v : Value) (xs : List Int) : Prop :=
  ∃ a cap, v = .slice a xs.length cap ∧ (xs = [] ∨ ∃ b off, a = some ⟨b, off, none⟩ ∧ b < w.heap.size ∧ ∀ j, j < xs.length → w.cell? ⟨b, off + j, none⟩ = some (.int .i32 (xs.getD j 0)))
theorem Sl.keep {w w' : World} {v : Value} {xs : List Int} (h : Sl w v xs) (hf : Fresh w w') : Sl w' v xs := by
  obtain ⟨a, cap, hv, h⟩ := h
  refine ⟨a, cap, hv, ?_⟩
  rcases h with h | ⟨b, off, ha, hb, hc⟩
  · exact .inl h
  · exact .inr ⟨b, off, ha, Nat.lt_of_lt_of_le hb hf.size, fun j hj => (Below.cell hf (p := ⟨b, off + j, none⟩) hb).trans (hc j hj)⟩
theorem OwnR.sl {w : World} {B : Nat} {v : Value} {xs : List Int} (h : OwnR w B v xs) : Sl w v xs := by
  have h0 := h
  obtain ⟨h1, h2 | ⟨g, cap, cur, hv, hb, hh, h3⟩⟩ := h
  · obtain ⟨hv, hn⟩ := h2
    have : xs = [] := List.eq_nil_of_length_eq_zero hn
    subst this
    exact ⟨none, 0, hv, .inl rfl⟩
  · refine ⟨some ⟨g, 0, none⟩, cap, hv, .inr ⟨g, 0, rfl, ?_, fun j hj => ?_⟩⟩
    · rcases Nat.lt_or_ge g w.heap.size with q | q
      · exact q
      · rw [Array.getElem?_eq_none q] at hh; cases hh
    · subst hv
      have := World.ownsRow.cellAt h0 j (by omega)
      rw [show 0 + j = j from by omega, this, List.getElem?_map, List.getElem?_eq_getElem hj, List.getD_eq_getElem?_getD, List.getElem?_eq_getElem hj]
      rfl
def SamePost (xs ys : List Int) (w : World) (e : Ending) (w' : World) : Prop := e = .returned (.bool (decide (xs = ys))) ∧ Fresh w w'
theorem SamePost.mk {xs ys : List Int} {w w' : World} {b : Bool} (h : b = decide (xs = ys)) (hf : Fresh w w') : SamePost xs ys w (.returned (.bool b)) w' := ⟨by rw [h], hf⟩
theorem take_eq_of {xs ys : List Int} (hl : xs.length = ys.length) (h : ∀ j, j < xs.length → xs.getD j 0 = ys.getD j 0) : xs = ys := by
  apply List.ext_getElem hl
  intro i h1 h2
  have := h i h1
  rwa [List.getD_eq_getElem?_getD, List.getD_eq_getElem?_getD, List.getElem?_eq_getElem h1, List.getElem?_eq_getElem h2] at this
def SameRel (xs ys : List Int) (w : World) (i : Value) (wr : World) : Prop := ∃ k : Nat, i = .int .i64 k ∧ k ≤ xs.length ∧ (∀ j, j < k → xs.getD j 0 = ys.getD j 0) ∧ Fresh w wr
theorem strOfNums_cells (s : ByteArray) : strOfNums (s.data.toList.map fun b => (b.toNat : Int)) = s := by
  unfold strOfNums
  rw [List.map_map]
  apply ByteArray.ext
  simp [Function.comp_def]
theorem info8 : (Tryz.prog.info? 5).map (fun i => (i.zero, i.size, i.bytes)) = some (some (.int .u8 0), 1, 1) := by kernel_rfl
/-- a row of bytes of the call's own, made a string -/
theorem conv_own {w : World} {B : Nat} {v : Value} {s : ByteArray} (h : w.ownsRow B 5 1 v s.size (Lib.strCells s)) :
    (convert 131 9 v).run Tryz.prog w = .ok (.string s) w := by
  have h0 := h
  obtain ⟨h1, h2 | ⟨g, cap, cur, hv, hb, hh, h3⟩⟩ := h
  · obtain ⟨hv, hn⟩ := h2
    subst hv
    rw [run_convert_bytes_nil w 131 5 Tryz.underlying131 Tryz.underlying5 0 0 9 Tryz.underlying9, empty_of hn]
  · subst hv
    have := run_convert_bytes_arg (P := Tryz.prog) w 131 5 Tryz.underlying131 Tryz.underlying5 g 0 s.size cap (s.data.toList.map fun b => (b.toNat : Int)) (by simp) (fun i hi => by
      have hi' : i < s.data.toList.length := by simpa using hi
      have := World.ownsRow.cellAt h0 i (by omega)
      rw [show 0 + i = i from by omega, this]
      unfold Lib.strCells
      simp [List.getD_eq_getElem?_getD, hi]) 9 Tryz.underlying9
    rw [this, strOfNums_cells]
theorem strCells_append (a b : ByteArray) : Lib.strCells (a ++ b) = Lib.strCells a ++ Lib.strCells b := by
  unfold Lib.strCells
  rw [ByteArray.data_append, Array.toList_append, List.map_append]
theorem take_succ_getD (xs : List Int) (k : Nat) (h : k < xs.length) : xs.take (k + 1) = xs.take k ++ [xs.getD k 0] := by
  rw [List.take_succ_eq_append_getElem h, List.getD_eq_getElem?_getD, List.getElem?_eq_getElem h]; rfl
def JoinRel (xs : List Int) (w : World) (out i : Value) (wr : World) : Prop :=
  ∃ k : Nat, i = .int .i64 k ∧ k ≤ xs.length ∧ wr.ownsRow w.heap.size 5 1 out (joinS (xs.take k)).size (Lib.strCells (joinS (xs.take k))) ∧ Fresh w wr
set_option maxHeartbeats 800000 in
theorem utfJoin_any (u : Value) (xs : List Int) (w : World) (hu : Sl w u xs) (hx : xs.length ≤ 1000000) :
    Calls Tryz.prog 162 #[u] w fun e w' => e = .returned (.string (joinS xs)) ∧ Fresh w w' := by
  obtain ⟨a, ca, rfl, hu⟩ := hu
  obtain ⟨i0, hi0, hz0, hz1, hz2⟩ := info_parts info8
  rcases hu with rfl | ⟨b1, o1, rfl, hb1, hc1⟩
  · have hcv : ∀ W : World, (convert 131 9 (.slice none 0 0)).run Tryz.prog W = .ok (.string ByteArray.empty) W := fun W =>
      run_convert_bytes_nil W 131 5 Tryz.underlying131 Tryz.underlying5 0 0 9 Tryz.underlying9
    go_enter Tryz.func162, Tryz.ntmps162
    go_wp2
    refine wp_loop_rounds 1 ?_
    rw [rounds_succ]
    go_wp2
    go_ret
    exact ⟨rfl, Fresh.refl _⟩
  have H1 := Lib.hid hc1
  clear hc1
  generalize hn : xs.length = n at hx H1
  have HN := Lib.hid hn
  clear hn
  go_enter Tryz.func162, Tryz.ntmps162
  go_wp2
  go_loopw [3, 8] (fun out i wr => JoinRel xs w out i wr) (fun _ i _ => n - (intOf i).toNat)
  case atStart => exact ⟨0, rfl, Nat.zero_le _, World.ownsRow_nil _ _ _ _, Fresh.refl _⟩
  case round =>
    obtain ⟨k, rfl, hk, hown, hf⟩ := hrel
    have hk' : k ≤ n := by have := HN.out; omega
    by_cases hlt : k < n
    · have c1 : wr.cell? ⟨b1, o1 + k, none⟩ = some (.int .i32 (xs.getD k 0)) := (Below.cell hf (p := ⟨b1, o1 + k, none⟩) hb1).trans (H1.out k hlt)
      have ht := take_succ_getD xs k (by have := HN.out; omega)
      have HT := Lib.hid ht
      generalize hp : xs.getD k 0 = p at c1 HT
      clear hp ht
      have hsz := joinS_size (xs.take k)
      have hsl : (xs.take k).length ≤ k := List.length_take_le _ _
      have hps := encS_small p
      go_wp2_with fail
      refine (utfBytes_any _ _).mono ?_
      rintro e w1 ⟨rfl, h1⟩
      have hown1 : w1.ownsRow w.heap.size 5 1 u3 (joinS (xs.take k)).size (Lib.strCells (joinS (xs.take k))) :=
        World.ownsRow.kept (row := none) hown ⟨h1.os, h1.tape, h1.output, h1.size, fun k hk _ => h1.block k hk⟩ (by cases hv : u3.ownBlock with | none => exact .inl rfl | some k => exact .inr (by simp))
      clear hown
      go_wp2_with (at_builtin; refine Lib.wpList_append_own_string _ rfl _ _ 131 9 rfl w.heap.size 5 i0 Tryz.underlying131 Tryz.underlying9 hi0 hz0 hz1 hz2 _ _ _ rfl hown1 (encS p) rfl ?c3 ?c4 ?c5 ?_)
      case c3 => unfold maxLen; omega
      case c4 => omega
      case c5 => exact (hf.trans h1).size
      intro v' w' hown' hgrow _
      have hf' : Fresh w w' := Below.grown (hf.trans h1) hgrow (hf.trans h1).size (fun k hk => (hown1.lt k hk).1)
      have hown2 : w'.ownsRow w.heap.size 5 1 v' (joinS (xs.take (k + 1))).size (Lib.strCells (joinS (xs.take (k + 1)))) := by
        rw [HT.out, joinS_append, joinS_one, strCells_append, ByteArray.size_append]; exact hown'
      clear hown' hgrow hown1
      go_wp2
      go_roundw
      case rel => exact ⟨k + 1, by rw [Int.natCast_add]; rfl, by have := HN.out; omega, hown2, hf'⟩
      case measure => simp [intOf]; omega
    · have hkn : xs.take k = xs := List.take_of_length_le (by have := HN.out; omega)
      rw [hkn] at hown
      have hcv := conv_own hown
      clear hkn hk
      go_wp2
      go_ret
      exact ⟨rfl, hf⟩
end Go.Proofs.YtpmlggjhfiljmaaGreatDoor
/- The reference's Join; what a slice argument is told as. -/
namespace Go.Proofs.YtpmlggjhfiljmaaGreatDoor
open Go.RowKit
set_option linter.unusedVariables false
def JoinRel2 (xs : List Int) (w : World) (out i : Value) (wr : World) : Prop :=
  ∃ k : Nat, i = .int .i64 k ∧ k ≤ xs.length ∧ out = .string (joinS (xs.take k)) ∧ Fresh w wr
set_option maxHeartbeats 800000 in
theorem refJoin_any (u : Value) (xs : List Int) (w : World) (hu : Sl w u xs) (hx : xs.length ≤ 1000000) :
    Calls Tryz.prog 26 #[u] w fun e w' => e = .returned (.string (joinS xs)) ∧ Fresh w w' := by
  obtain ⟨a, ca, rfl, hu⟩ := hu
  rcases hu with rfl | ⟨b1, o1, rfl, hb1, hc1⟩
  · go_enter Tryz.func26, Tryz.ntmps26
    go_wp2
    refine wp_loop_rounds 1 ?_
    rw [rounds_succ]
    go_wp2
    go_ret
    exact ⟨rfl, Fresh.refl _⟩
  have H1 := Lib.hid hc1
  clear hc1
  generalize hn : xs.length = n at hx H1
  have HN := Lib.hid hn
  clear hn
  go_enter Tryz.func26, Tryz.ntmps26
  go_wp2
  go_loopw [3, 4] (fun out i wr => JoinRel2 xs w out i wr) (fun _ i _ => n - (intOf i).toNat)
  case atStart => exact ⟨0, rfl, Nat.zero_le _, rfl, Fresh.refl _⟩
  case round =>
    obtain ⟨k, rfl, hk, rfl, hf⟩ := hrel
    have hk' : k ≤ n := by have := HN.out; omega
    by_cases hlt : k < n
    · have c1 : wr.cell? ⟨b1, o1 + k, none⟩ = some (.int .i32 (xs.getD k 0)) := (Below.cell hf (p := ⟨b1, o1 + k, none⟩) hb1).trans (H1.out k hlt)
      have ht := take_succ_getD xs k (by have := HN.out; omega)
      have HT := Lib.hid ht
      generalize hp : xs.getD k 0 = p at c1 HT
      clear hp ht
      have hsz := joinS_size (xs.take k)
      have hsl : (xs.take k).length ≤ k := List.length_take_le _ _
      have hps := encS_small p
      have HJ := Lib.hid (show joinS (xs.take (k + 1)) = joinS (xs.take k) ++ encS p by rw [HT.out, joinS_append, joinS_one])
      generalize joinS (xs.take k) = j at hsz HJ
      go_wp2_with fail
      refine (refIs_any _ _).mono ?_
      rintro e w1 ⟨rfl, rfl⟩
      cases hc : isC p with
      | true =>
        have HC := Lib.hid hc
        clear hc
        go_wp2_with fail
        have c2 : wr.cell? ⟨b1, o1 + k, none⟩ = some (.int .i32 p) := c1
        refine (refBytes_any _ HC.out _).mono ?_
        rintro e w2 ⟨rfl, h2⟩
        clear c1 c2
        go_wp2
        go_roundw
        case rel => exact ⟨k + 1, by rw [Int.natCast_add]; rfl, by have := HN.out; omega, by rw [HJ.out], hf.trans h2⟩
        case measure => simp [intOf]; omega
      | false =>
        have HE := Lib.hid (encS_none hc)
        clear hc c1
        go_wp2
        go_roundw
        case rel => exact ⟨k + 1, by rw [Int.natCast_add]; rfl, by have := HN.out; omega, by rw [HJ.out, HE.out, ByteArray.append_empty], hf⟩
        case measure => simp [intOf]; omega
    · have hkn : xs.take k = xs := List.take_of_length_le (by have := HN.out; omega)
      rw [hkn]
      clear hkn hk
      go_wp2
      go_ret
      exact ⟨rfl, hf⟩
/-- what a slice of whole numbers that came in is told as -/
def IsRow (k : IntKind) (w : World) (a : Option Addr) (len cap : Nat) (zs : List Int) : Prop :=
  (a = none ∧ len = 0 ∧ cap = 0 ∧ zs = []) ∨
  ∃ x, a = some x ∧ len ≤ cap ∧ cap ≤ maxLen ∧ zs.length = cap ∧ (∀ i, i < zs.length → w.cell? (x.add i) = some (.int k (zs.getD i 0))) ∧ ∀ n ∈ zs, (Lit.int k n).wf = true
theorem IsRow.sl {w : World} {a : Option Addr} {len cap : Nat} {zs : List Int} (h : IsRow .i32 w a len cap zs) : Sl w (.slice a len cap) (zs.take len) ∧ (zs.take len).length = len ∧ ∀ n ∈ zs.take len, -2147483648 ≤ n ∧ n < 2147483648 := by
  rcases h with ⟨rfl, rfl, rfl, rfl⟩ | ⟨x, rfl, hl, hm, hz, hcell, hwz⟩
  · exact ⟨⟨none, 0, rfl, .inl rfl⟩, rfl, fun n hn => by simp at hn⟩
  · have hlen : (zs.take len).length = len := by rw [List.length_take]; omega
    refine ⟨⟨some x, cap, by rw [hlen], ?_⟩, hlen, fun n hn => ?_⟩
    · by_cases h0 : len = 0
      · left; subst h0; simp
      · right
        obtain ⟨b, off, spot⟩ := x
        have hc := hcell 0 (by omega)
        have hspot : spot = none := by simpa [Addr.add] using World.cell?_spot hc
        subst hspot
        refine ⟨b, off, rfl, ?_, fun j hj => ?_⟩
        · rcases Nat.lt_or_ge b w.heap.size with q | q
          · exact q
          · simp [World.cell?, Addr.add, Array.getElem?_eq_none q] at hc
        · rw [hlen] at hj
          have := hcell j (by omega)
          rw [List.getD_eq_getElem?_getD, List.getElem?_take, if_pos hj, ← List.getD_eq_getElem?_getD, ← this]
          unfold Addr.add
          split
          · rename_i q; subst q; rfl
          · rfl
    · have := hwz n (List.mem_of_mem_take hn)
      simp [Lit.wf, IntKind.min, IntKind.max, IntKind.bits, IntKind.signed] at this
      omega
end Go.Proofs.YtpmlggjhfiljmaaGreatDoor
/- What layers 2 and 3 share: a block that is known whole; where a number is first. -/
namespace Go.Proofs.YtpmlggjhfiljmaaGreatDoor
open Go.RowKit
set_option linter.unusedVariables false
/-- a block that is known whole -/
def Blk (w : World) (g : Nat) (t : TypeId) (cs : Array Value) : Prop := w.heap[g]? = some (.cells cs t (0, 0))
theorem Blk.lt {w : World} {g : Nat} {t : TypeId} {cs : Array Value} (h : Blk w g t cs) : g < w.heap.size := by
  rcases Nat.lt_or_ge g w.heap.size with q | q
  · exact q
  · unfold Blk at h; rw [Array.getElem?_eq_none q] at h; cases h
theorem Blk.keep {w w' : World} {g : Nat} {t : TypeId} {cs : Array Value} (h : Blk w g t cs) (hf : Fresh w w') : Blk w' g t cs := (hf.block g h.lt).trans h
theorem Blk.cell {w : World} {g : Nat} {t : TypeId} {cs : Array Value} (h : Blk w g t cs) (i : Nat) : w.cell? ⟨g, i, none⟩ = cs[i]? := by unfold Blk at h; simp [World.cell?, h]
theorem Blk.frozen {w : World} {g : Nat} {t : TypeId} {cs : Array Value} (h : Blk w g t cs) (i : Nat) : w.frozen? ⟨g, i, none⟩ = false := by unfold Blk at h; simp [World.frozen?, h]
theorem Blk.new (w : World) (t : TypeId) (cs : Array Value) : Blk (w.alloc (.cells cs t)) w.heap.size t cs := heap_alloc_new w _
/-- where a number is first: at k; or nowhere, -1 -/
def FirstAt (xs : List Int) (r k : Int) : Prop := (0 ≤ k ∧ k < xs.length ∧ xs.getD k.toNat 0 = r ∧ ∀ j : Nat, (j : Int) < k → xs.getD j 0 ≠ r) ∨ (k = -1 ∧ ∀ j : Nat, j < xs.length → xs.getD j 0 ≠ r)
theorem OwnR.sl2 {w : World} {B : Nat} {v : Value} {xs : List Int} (h : OwnR w B v xs) (hx : 0 < xs.length) : ∃ g cap, v = .slice (some ⟨g, 0, none⟩) xs.length cap ∧ g < w.heap.size ∧ ∀ j, j < xs.length → w.cell? ⟨g, j, none⟩ = some (.int .i32 (xs.getD j 0)) := by
  obtain ⟨a, cap, hv, h0 | ⟨b, off, ha, hb, hc⟩⟩ := h.sl
  · subst h0; simp at hx
  · obtain ⟨_, ⟨_, hn⟩ | ⟨g, cap', cur, hv', _⟩⟩ := h
    · omega
    · rw [hv] at hv'
      injection hv' with h1 h2 h3
      subst h1
      injection ha with ha
      injection ha with h4 h5
      subst h4 h5
      exact ⟨g, cap, hv, hb, fun j hj => by have := hc j hj; rwa [show 0 + j = j from by omega] at this⟩
end Go.Proofs.YtpmlggjhfiljmaaGreatDoor
