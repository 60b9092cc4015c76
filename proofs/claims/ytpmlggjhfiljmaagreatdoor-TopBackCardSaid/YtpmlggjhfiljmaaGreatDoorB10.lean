/- Contracts that the law rests on, part 10 of 50 (ChaO, ComP). Each states its own conditions. -/
import Derived.Laws.OwnMore
import GoSem.Conv.StringToRunes
import Derived.KernelRfl
import Derived.Test.YtpmlggjhfiljmaaGreatDoorB05
import Derived.Test.YtpmlggjhfiljmaaGreatDoorB09
/- charset.Pieces. -/
namespace Go.Proofs.YtpmlggjhfiljmaaGreatDoor
open Go.RowKit
set_option linter.unusedVariables false

def pc (x : Int × Int) : List Value := [.int .i32 x.1, .int .i64 x.2]
def pcs (xs : List (Int × Int)) : List Value := xs.flatMap pc
theorem pcs_len (xs : List (Int × Int)) : (pcs xs).length = xs.length * 2 := by
  induction xs with
  | nil => rfl
  | cons x l ih => unfold pcs at *; rw [List.flatMap_cons, List.length_append, ih]; simp [pc]; omega
theorem pcs_get : ∀ (xs : List (Int × Int)) (k : Nat) (hk : k < xs.length) (j : Nat), j < 2 → (pcs xs)[k * 2 + j]? = (pc xs[k])[j]?
  | [], k, hk, _, _ => by simp at hk
  | x :: l, 0, _, j, hj => by
    unfold pcs
    rw [List.flatMap_cons, List.getElem?_append_left (by simp [pc]; omega)]
    simp
  | x :: l, k + 1, hk, j, hj => by
    have ih := pcs_get l k (by simpa using hk) j hj
    unfold pcs at *
    rw [List.flatMap_cons, List.getElem?_append_right (by simp [pc]; omega)]
    have : (k + 1) * 2 + j - (pc x).length = k * 2 + j := by simp [pc]; omega
    rw [this, ih]
    simp
/-- a slice of pieces of the call's own -/
def OwnP (w : World) (B : Nat) (v : Value) (xs : List (Int × Int)) : Prop := w.ownsRow B 119 2 v xs.length (pcs xs)
theorem OwnP.nil (w : World) (B : Nat) : OwnP w B (.slice none 0 0) [] := World.ownsRow_nil _ _ _ _
theorem OwnP.keep {w w' : World} {B : Nat} {v : Value} {xs : List (Int × Int)} (h : OwnP w B v xs) (hf : Fresh w w') : OwnP w' B v xs := by
  refine World.ownsRow.kept (row := none) h ⟨hf.os, hf.tape, hf.output, hf.size, fun k hk _ => hf.block k hk⟩ ?_
  cases hv : v.ownBlock with
  | none => exact .inl rfl
  | some k => exact .inr (by simp)
theorem OwnP.push {w' : World} {B : Nat} {v' : Value} {acc : List (Int × Int)} {x : Int × Int} (h : w'.ownsRow B 119 2 v' (acc.length + 1) (pcs acc ++ [.int .i32 x.1, .int .i64 x.2])) : OwnP w' B v' (acc ++ [x]) := by
  unfold OwnP
  have : pcs (acc ++ [x]) = pcs acc ++ [.int .i32 x.1, .int .i64 x.2] := by unfold pcs; rw [List.flatMap_append]; simp [pc]
  rw [this]
  simpa using h
theorem OwnP.fresh {w w1 w' : World} {v : Value} {o : Obj} {e : TypeId} {n : Nat} {xs : List Value} (hf : Fresh w w1) (ho : w1.ownsRow w.heap.size e 2 v n xs) (hg : (w1.alloc o).grownBy w' v.ownBlock) : Fresh w w' :=
  Below.grown (hf.alloc o) hg (by have := hf.size; simp; omega) (fun k hk => (ho.lt k hk).1)
theorem cell_new2 (w : World) (u v : Value) (t : TypeId) : ∀ (j : Nat) (x : Value), [u, v][j]? = some x → (w.alloc (.cells #[u, v] t)).cell? ((⟨w.heap.size, 0, none⟩ : Addr).add j) = some x := by
  intro j x hj
  match j, hj with
  | 0, hj => simp at hj; subst hj; simp [Addr.add]
  | 1, hj => simp at hj; subst hj; simp [Addr.add]
theorem infoP : (Tryz.prog.info? 119).map (fun i => (i.zero, i.size, i.bytes)) = some (some (.agg #[.int .i32 0, .int .i64 0]), 2, 16) := by kernel_rfl
theorem info_partsP {i : Option TypeInfo} {z : Value} {s b : Nat} (h : i.map (fun i => (i.zero, i.size, i.bytes)) = some (some z, s, b)) : ∃ i0, i = some i0 ∧ i0.zero = some z ∧ i0.size = s ∧ i0.bytes = b := by
  cases i with
  | none => cases h
  | some i0 => simp at h; exact ⟨i0, rfl, h.1, h.2.1, h.2.2⟩
/-- the pieces from a place to another -/
def Chain (enc : Int) (s : ByteArray) : Nat → List (Int × Int) → Nat → Prop
  | p, [], q => p = q
  | p, x :: l, q => p < s.size ∧ nextC enc s p = x ∧ Chain enc s (p + x.2.toNat) l q
theorem Chain.push {enc : Int} {s : ByteArray} : ∀ {xs : List (Int × Int)} {p q : Nat}, Chain enc s p xs q → q < s.size → Chain enc s p (xs ++ [nextC enc s q]) (q + (nextC enc s q).2.toNat)
  | [], p, q, h, hq => by
    have h : p = q := h
    subst h
    exact ⟨hq, rfl, rfl⟩
  | x :: l, p, q, h, hq => ⟨h.1, h.2.1, Chain.push h.2.2 hq⟩
theorem next_step {enc : Int} {s : ByteArray} {p : Nat} (h0 : 0 ≤ enc) (h8 : enc ≤ 8) (hp : p < s.size) : 1 ≤ (nextC enc s p).2 ∧ (nextC enc s p).2 ≤ 4 ∧ (p : Int) + (nextC enc s p).2 ≤ s.size := by
  rcases next_back h0 h8 hp with ⟨r, l, e, _, hl, hs⟩ | ⟨e, _⟩
  · have := encC_bytes hl
    have h2 := hs.1
    rw [e]; simp only; omega
  · rw [e]; simp only; omega
def PcsRel (enc : Int) (s : ByteArray) (w : World) (out at_ : Value) (wr : World) : Prop :=
  ∃ (p : Nat) (acc : List (Int × Int)), at_ = .int .i64 p ∧ p ≤ s.size ∧ acc.length ≤ p ∧ OwnP wr w.heap.size out acc ∧ Fresh w wr ∧ Chain enc s 0 acc p
def PcsPost (enc : Int) (s : ByteArray) (w : World) (e : Ending) (w' : World) : Prop :=
  ∃ v xs, e = .returned v ∧ OwnP w' w.heap.size v xs ∧ Chain enc s 0 xs s.size ∧ xs.length ≤ s.size ∧ Fresh w w'
set_option maxHeartbeats 1600000 in
theorem pieces_any (enc : Int) (s : ByteArray) (h0 : 0 ≤ enc) (h8 : enc ≤ 8) (hs : s.size ≤ 1000000) (w : World) : Calls Tryz.prog 108 #[.int .i64 enc, .string s] w (PcsPost enc s w) := by
  obtain ⟨i0, hi0, hz0, hz1, hz2⟩ := info_partsP infoP
  have HR : Hid (rightB enc = true) := by unfold rightB; exact decide_eq_true ⟨h0, h8⟩
  go_enter Tryz.func108, Tryz.ntmps108
  go_wp2
  go_loopw [5, 6] (fun out at_ wr => PcsRel enc s w out at_ wr) (fun _ at_ _ => s.size - (intOf at_).toNat)
  case atStart => exact ⟨0, [], rfl, Nat.zero_le _, Nat.le_refl _, OwnP.nil _ _, Fresh.refl _, rfl⟩
  case round =>
    obtain ⟨p, acc, rfl, hp, hl, hown, hf, hch⟩ := hrel
    have HA := Lib.hid hch
    clear hch
    by_cases hlt : p < s.size
    · have HC := Lib.hid (HA.out.push hlt)
      obtain ⟨n1, n4, n2⟩ := next_step h0 h8 hlt
      have HN := Lib.hid (chNext_any enc s p (by omega))
      generalize nextC enc s p = x at HC n1 n2 n4 HN
      obtain ⟨r, n⟩ := x
      simp only at n1 n2 n4
      go_wp2_with ((go_at_call 112; refine (right_any _ _).mono ?_; rintro e w1 ⟨rfl, rfl⟩; rw [HR.out]))
      refine (HN.out _).mono ?_
      rintro e w1 ⟨rfl, h1⟩
      have hown1 := hown.keep (h1.alloc (.cells #[.int .i32 r, .int .i64 n] 119))
      unfold OwnP at hown1
      have hf1 := (hf.trans h1).alloc (.cells #[.int .i32 r, .int .i64 n] 119)
      go_wp2_with (at_builtin; refine wpList_append_own _ rfl _ _ 177 rfl w.heap.size 119 i0 (.agg #[.int .i32 0, .int .i64 0]) 2 16 Tryz.underlying177 hi0 hz0 hz1 hz2 rfl (by decide) _ _ _ rfl (hown1.alloc _) ⟨w1.heap.size + 1, 0, none⟩ 1 1 [.int .i32 r, .int .i64 n] rfl rfl ?c1 ?c2 ?c3 ?c4 ?c5 ?_)
      case c1 =>
        have := cell_new2 (w1.alloc (.cells #[.int .i32 r, .int .i64 n] 119)) (.int .i32 r) (.int .i64 n) 119
        simpa using this
      case c2 => intro u hu; simp at hu; rcases hu with rfl | rfl <;> rfl
      case c3 => unfold maxLen; omega
      case c4 => omega
      case c5 => have := hf1.size; simp at this ⊢; omega
      intro v' w' hown' hgrow _
      have hb : Blk w' w1.heap.size 119 #[.int .i32 r, .int .i64 n] := by
        have hb0 := Blk.new w1 119 #[.int .i32 r, .int .i64 n]
        have hb1 := hb0.keep ((Fresh.refl _).alloc (.cells #[.int .i32 r, .int .i64 n] 119))
        refine (hgrow.block _ (by simp; omega) ?_).trans hb1
        intro e
        have := ((hown.keep h1).lt _ e.symm).2
        omega
      obtain ⟨c0, c1, _, _, l⟩ := piece_facts hb (Fresh.refl _)
      have hn' := OwnP.push (x := (r, n)) hown'
      have hf' := OwnP.fresh hf1 hown1 hgrow
      clear hown' hgrow hown1 hown hb
      go_wp2
      go_roundw
      case rel => exact ⟨p + n.toNat, acc ++ [(r, n)], by rw [Int.natCast_add, Int.toNat_of_nonneg (by omega)], by omega, by simp; omega, hn', hf', HC.out⟩
      case measure => simp [intOf]; omega
    · have hps : p = s.size := by omega
      go_wp2
      go_ret
      exact ⟨_, _, rfl, hown, by rw [← hps]; exact HA.out, by omega, hf⟩
set_option maxHeartbeats 400000 in
theorem pieces_out (enc : Int) (s : ByteArray) (h : ¬ (0 ≤ enc ∧ enc ≤ 8)) (hs : s.size ≤ 1000000) (w : World) : Calls Tryz.prog 108 #[.int .i64 enc, .string s] w fun e w' => e = .returned (.slice none 0 0) ∧ Fresh w w' := by
  have HR : Hid (rightB enc = false) := by unfold rightB; exact decide_eq_false h
  by_cases hz : 0 < s.size
  · have hz2 : (0 : Int) < (s.size : Int) := by omega
    go_enter Tryz.func108, Tryz.ntmps108
    go_wp2
    refine wp_loop_rounds 1 ?_
    rw [rounds_succ]
    go_wp2_with ((go_at_call 112; refine (right_any _ _).mono ?_; rintro e w1 ⟨rfl, rfl⟩; rw [HR.out]))
    go_ret
    exact ⟨rfl, Fresh.refl _⟩
  · have hz2 : s.size = 0 := by omega
    go_enter Tryz.func108, Tryz.ntmps108
    go_wp2
    refine wp_loop_rounds 1 ?_
    rw [rounds_succ]
    go_wp2_with ((go_at_call 112; refine (right_any _ _).mono ?_; rintro e w1 ⟨rfl, rfl⟩; rw [HR.out]))
    go_ret
    exact ⟨rfl, Fresh.refl _⟩
theorem OwnP.sl {w : World} {B : Nat} {v : Value} {xs : List (Int × Int)} (h : OwnP w B v xs) :
    (xs = [] ∧ ∃ a cap, v = .slice a 0 cap) ∨ (0 < xs.length ∧ ∃ g cap, v = .slice (some ⟨g, 0, none⟩) xs.length cap ∧ g < w.heap.size ∧
      ∀ j (hj : j < xs.length), w.cell? ⟨g, j * 2, none⟩ = some (.int .i32 (xs[j]).1) ∧ w.cell? ⟨g, j * 2 + 1, none⟩ = some (.int .i64 (xs[j]).2)) := by
  have h0 := h
  obtain ⟨h1, h2 | ⟨g, cap, cur, hv, hb, hh, h3⟩⟩ := h
  · obtain ⟨hv, hn⟩ := h2
    have : xs = [] := List.eq_nil_of_length_eq_zero hn
    subst this
    exact .inl ⟨rfl, none, 0, hv⟩
  · by_cases hz : 0 < xs.length
    · refine .inr ⟨hz, g, cap, hv, ?_, fun j hj => ?_⟩
      · rcases Nat.lt_or_ge g w.heap.size with q | q
        · exact q
        · rw [Array.getElem?_eq_none q] at hh; cases hh
      · subst hv
        have e0 := World.ownsRow.cellAt h0 (j * 2) (by omega)
        have e1 := World.ownsRow.cellAt h0 (j * 2 + 1) (by omega)
        have g0 := pcs_get xs j hj 0 (by omega)
        have g1 := pcs_get xs j hj 1 (by omega)
        rw [show j * 2 + 0 = j * 2 by omega] at g0
        rw [e0, g0, e1, g1]
        exact ⟨rfl, rfl⟩
    · have : xs = [] := List.eq_nil_of_length_eq_zero (by omega)
      subst this
      exact .inl ⟨rfl, _, cap, hv⟩
theorem Chain.more {enc : Int} {s : ByteArray} {xs : List (Int × Int)} {p k : Nat} (h : Chain enc s p (xs.drop k) s.size) (hk : k < xs.length) : p < s.size ∧ nextC enc s p = xs[k] ∧ Chain enc s (p + (xs[k]).2.toNat) (xs.drop (k + 1)) s.size := by
  rw [List.drop_eq_getElem_cons hk] at h
  exact h
theorem Chain.done {enc : Int} {s : ByteArray} {xs : List (Int × Int)} {p k : Nat} (h : Chain enc s p (xs.drop k) s.size) (hk : ¬ k < xs.length) : p = s.size := by
  rw [List.drop_eq_nil_of_le (by omega)] at h
  exact h
end Go.Proofs.YtpmlggjhfiljmaaGreatDoor
/- Plain words of layer 3: the table of marks, what two make, what one is made of. -/
namespace Go.Proofs.YtpmlggjhfiljmaaGreatDoor
open Go.RowKit
set_option linter.unusedVariables false

def mkI : Nat → Int
  | 0 => 768
  | 1 => 769
  | 2 => 770
  | 3 => 771
  | 4 => 772
  | 5 => 774
  | 6 => 775
  | 7 => 776
  | 8 => 778
  | 9 => 779
  | 10 => 780
  | 11 => 807
  | 12 => 808
  | _ => 0
def lsS : Nat → ByteArray
  | 0 => ⟨#[65, 69, 73, 79, 85, 97, 101, 105, 111, 117]⟩
  | 1 => ⟨#[65, 69, 73, 79, 85, 89, 97, 101, 105, 111, 117, 121, 67, 99, 76, 108, 78, 110, 82, 114, 83, 115, 90, 122]⟩
  | 2 => ⟨#[65, 69, 73, 79, 85, 97, 101, 105, 111, 117, 67, 99, 71, 103, 72, 104, 74, 106, 83, 115, 87, 119, 89, 121]⟩
  | 3 => ⟨#[65, 78, 79, 97, 110, 111, 73, 105, 85, 117]⟩
  | 4 => ⟨#[65, 97, 69, 101, 73, 105, 79, 111, 85, 117]⟩
  | 5 => ⟨#[65, 97, 69, 101, 71, 103, 73, 105, 79, 111, 85, 117]⟩
  | 6 => ⟨#[67, 99, 69, 101, 71, 103, 73, 90, 122]⟩
  | 7 => ⟨#[65, 69, 73, 79, 85, 97, 101, 105, 111, 117, 121, 89]⟩
  | 8 => ⟨#[65, 97, 85, 117]⟩
  | 9 => ⟨#[79, 111, 85, 117]⟩
  | 10 => ⟨#[67, 99, 68, 100, 69, 101, 78, 110, 82, 114, 83, 115, 84, 116, 90, 122]⟩
  | 11 => ⟨#[67, 99, 71, 103, 75, 107, 76, 108, 78, 110, 82, 114, 83, 115, 84, 116]⟩
  | 12 => ⟨#[65, 97, 69, 101, 73, 105, 85, 117]⟩
  | _ => ByteArray.empty
def msS : Nat → ByteArray
  | 0 => ⟨#[195, 128, 195, 136, 195, 140, 195, 146, 195, 153, 195, 160, 195, 168, 195, 172, 195, 178, 195, 185]⟩
  | 1 => ⟨#[195, 129, 195, 137, 195, 141, 195, 147, 195, 154, 195, 157, 195, 161, 195, 169, 195, 173, 195, 179, 195, 186, 195, 189, 196, 134, 196, 135, 196, 185, 196, 186, 197, 131, 197, 132, 197, 148, 197, 149, 197, 154, 197, 155, 197, 185, 197, 186]⟩
  | 2 => ⟨#[195, 130, 195, 138, 195, 142, 195, 148, 195, 155, 195, 162, 195, 170, 195, 174, 195, 180, 195, 187, 196, 136, 196, 137, 196, 156, 196, 157, 196, 164, 196, 165, 196, 180, 196, 181, 197, 156, 197, 157, 197, 180, 197, 181, 197, 182, 197, 183]⟩
  | 3 => ⟨#[195, 131, 195, 145, 195, 149, 195, 163, 195, 177, 195, 181, 196, 168, 196, 169, 197, 168, 197, 169]⟩
  | 4 => ⟨#[196, 128, 196, 129, 196, 146, 196, 147, 196, 170, 196, 171, 197, 140, 197, 141, 197, 170, 197, 171]⟩
  | 5 => ⟨#[196, 130, 196, 131, 196, 148, 196, 149, 196, 158, 196, 159, 196, 172, 196, 173, 197, 142, 197, 143, 197, 172, 197, 173]⟩
  | 6 => ⟨#[196, 138, 196, 139, 196, 150, 196, 151, 196, 160, 196, 161, 196, 176, 197, 187, 197, 188]⟩
  | 7 => ⟨#[195, 132, 195, 139, 195, 143, 195, 150, 195, 156, 195, 164, 195, 171, 195, 175, 195, 182, 195, 188, 195, 191, 197, 184]⟩
  | 8 => ⟨#[195, 133, 195, 165, 197, 174, 197, 175]⟩
  | 9 => ⟨#[197, 144, 197, 145, 197, 176, 197, 177]⟩
  | 10 => ⟨#[196, 140, 196, 141, 196, 142, 196, 143, 196, 154, 196, 155, 197, 135, 197, 136, 197, 152, 197, 153, 197, 160, 197, 161, 197, 164, 197, 165, 197, 189, 197, 190]⟩
  | 11 => ⟨#[195, 135, 195, 167, 196, 162, 196, 163, 196, 182, 196, 183, 196, 187, 196, 188, 197, 133, 197, 134, 197, 150, 197, 151, 197, 158, 197, 159, 197, 162, 197, 163]⟩
  | 12 => ⟨#[196, 132, 196, 133, 196, 152, 196, 153, 196, 174, 196, 175, 197, 178, 197, 179]⟩
  | _ => ByteArray.empty
def liI : Nat → List Int
  | 0 => [65, 69, 73, 79, 85, 97, 101, 105, 111, 117]
  | 1 => [65, 69, 73, 79, 85, 89, 97, 101, 105, 111, 117, 121, 67, 99, 76, 108, 78, 110, 82, 114, 83, 115, 90, 122]
  | 2 => [65, 69, 73, 79, 85, 97, 101, 105, 111, 117, 67, 99, 71, 103, 72, 104, 74, 106, 83, 115, 87, 119, 89, 121]
  | 3 => [65, 78, 79, 97, 110, 111, 73, 105, 85, 117]
  | 4 => [65, 97, 69, 101, 73, 105, 79, 111, 85, 117]
  | 5 => [65, 97, 69, 101, 71, 103, 73, 105, 79, 111, 85, 117]
  | 6 => [67, 99, 69, 101, 71, 103, 73, 90, 122]
  | 7 => [65, 69, 73, 79, 85, 97, 101, 105, 111, 117, 121, 89]
  | 8 => [65, 97, 85, 117]
  | 9 => [79, 111, 85, 117]
  | 10 => [67, 99, 68, 100, 69, 101, 78, 110, 82, 114, 83, 115, 84, 116, 90, 122]
  | 11 => [67, 99, 71, 103, 75, 107, 76, 108, 78, 110, 82, 114, 83, 115, 84, 116]
  | 12 => [65, 97, 69, 101, 73, 105, 85, 117]
  | _ => []
def miI : Nat → List Int
  | 0 => [192, 200, 204, 210, 217, 224, 232, 236, 242, 249]
  | 1 => [193, 201, 205, 211, 218, 221, 225, 233, 237, 243, 250, 253, 262, 263, 313, 314, 323, 324, 340, 341, 346, 347, 377, 378]
  | 2 => [194, 202, 206, 212, 219, 226, 234, 238, 244, 251, 264, 265, 284, 285, 292, 293, 308, 309, 348, 349, 372, 373, 374, 375]
  | 3 => [195, 209, 213, 227, 241, 245, 296, 297, 360, 361]
  | 4 => [256, 257, 274, 275, 298, 299, 332, 333, 362, 363]
  | 5 => [258, 259, 276, 277, 286, 287, 300, 301, 334, 335, 364, 365]
  | 6 => [266, 267, 278, 279, 288, 289, 304, 379, 380]
  | 7 => [196, 203, 207, 214, 220, 228, 235, 239, 246, 252, 255, 376]
  | 8 => [197, 229, 366, 367]
  | 9 => [336, 337, 368, 369]
  | 10 => [268, 269, 270, 271, 282, 283, 327, 328, 344, 345, 352, 353, 356, 357, 381, 382]
  | 11 => [199, 231, 290, 291, 310, 311, 315, 316, 325, 326, 342, 343, 350, 351, 354, 355]
  | 12 => [260, 261, 280, 281, 302, 303, 370, 371]
  | _ => []

theorem forK {p : Nat → Prop} (h : ∀ k : Fin 13, p k.val) {k : Nat} (hk : k < 13) : p k := h ⟨k, hk⟩
theorem ls_all {k : Nat} (h : k < 13) : allFrom (lsS k) 0 = some (liI k) := forK (p := fun k => allFrom (lsS k) 0 = some (liI k)) (by decide +kernel) h
theorem ms_all {k : Nat} (h : k < 13) : allFrom (msS k) 0 = some (miI k) := forK (p := fun k => allFrom (msS k) 0 = some (miI k)) (by decide +kernel) h
theorem ls_size {k : Nat} (h : k < 13) : (lsS k).size = (liI k).length ∧ (miI k).length = (liI k).length ∧ (liI k).length ≤ 24 ∧ (msS k).size ≤ 48 :=
  forK (p := fun k => (lsS k).size = (liI k).length ∧ (miI k).length = (liI k).length ∧ (liI k).length ≤ 24 ∧ (msS k).size ≤ 48) (by decide +kernel) h
theorem ls_dec {k : Nat} (h : k < 13) : ∀ i : Nat, i < (liI k).length → Utf8.decode (lsS k) i = (((liI k).getD i 0).toNat, 1) ∧ 0 ≤ (liI k).getD i 0 :=
  forK (p := fun k => ∀ i : Nat, i < (liI k).length → Utf8.decode (lsS k) i = (((liI k).getD i 0).toNat, 1) ∧ 0 ≤ (liI k).getD i 0) (by decide +kernel) h
theorem ms_runes_0 : Conv.runesFrom (msS 0) (msS 0).size 0 #[] = ((miI 0).map (Value.int .i32)).toArray := by kernel_rfl
theorem ms_runes_1 : Conv.runesFrom (msS 1) (msS 1).size 0 #[] = ((miI 1).map (Value.int .i32)).toArray := by kernel_rfl
theorem ms_runes_2 : Conv.runesFrom (msS 2) (msS 2).size 0 #[] = ((miI 2).map (Value.int .i32)).toArray := by kernel_rfl
theorem ms_runes_3 : Conv.runesFrom (msS 3) (msS 3).size 0 #[] = ((miI 3).map (Value.int .i32)).toArray := by kernel_rfl
theorem ms_runes_4 : Conv.runesFrom (msS 4) (msS 4).size 0 #[] = ((miI 4).map (Value.int .i32)).toArray := by kernel_rfl
theorem ms_runes_5 : Conv.runesFrom (msS 5) (msS 5).size 0 #[] = ((miI 5).map (Value.int .i32)).toArray := by kernel_rfl
theorem ms_runes_6 : Conv.runesFrom (msS 6) (msS 6).size 0 #[] = ((miI 6).map (Value.int .i32)).toArray := by kernel_rfl
theorem ms_runes_7 : Conv.runesFrom (msS 7) (msS 7).size 0 #[] = ((miI 7).map (Value.int .i32)).toArray := by kernel_rfl
theorem ms_runes_8 : Conv.runesFrom (msS 8) (msS 8).size 0 #[] = ((miI 8).map (Value.int .i32)).toArray := by kernel_rfl
theorem ms_runes_9 : Conv.runesFrom (msS 9) (msS 9).size 0 #[] = ((miI 9).map (Value.int .i32)).toArray := by kernel_rfl
theorem ms_runes_10 : Conv.runesFrom (msS 10) (msS 10).size 0 #[] = ((miI 10).map (Value.int .i32)).toArray := by kernel_rfl
theorem ms_runes_11 : Conv.runesFrom (msS 11) (msS 11).size 0 #[] = ((miI 11).map (Value.int .i32)).toArray := by kernel_rfl
theorem ms_runes_12 : Conv.runesFrom (msS 12) (msS 12).size 0 #[] = ((miI 12).map (Value.int .i32)).toArray := by kernel_rfl
theorem ms_runes {k : Nat} (h : k < 13) : Conv.runesFrom (msS k) (msS k).size 0 #[] = ((miI k).map (Value.int .i32)).toArray := by
  match k, h with
  | 0, _ => exact ms_runes_0
  | 1, _ => exact ms_runes_1
  | 2, _ => exact ms_runes_2
  | 3, _ => exact ms_runes_3
  | 4, _ => exact ms_runes_4
  | 5, _ => exact ms_runes_5
  | 6, _ => exact ms_runes_6
  | 7, _ => exact ms_runes_7
  | 8, _ => exact ms_runes_8
  | 9, _ => exact ms_runes_9
  | 10, _ => exact ms_runes_10
  | 11, _ => exact ms_runes_11
  | 12, _ => exact ms_runes_12
theorem ls_runes_0 : Conv.runesFrom (lsS 0) (lsS 0).size 0 #[] = ((liI 0).map (Value.int .i32)).toArray := by kernel_rfl
theorem ls_runes_1 : Conv.runesFrom (lsS 1) (lsS 1).size 0 #[] = ((liI 1).map (Value.int .i32)).toArray := by kernel_rfl
theorem ls_runes_2 : Conv.runesFrom (lsS 2) (lsS 2).size 0 #[] = ((liI 2).map (Value.int .i32)).toArray := by kernel_rfl
theorem ls_runes_3 : Conv.runesFrom (lsS 3) (lsS 3).size 0 #[] = ((liI 3).map (Value.int .i32)).toArray := by kernel_rfl
theorem ls_runes_4 : Conv.runesFrom (lsS 4) (lsS 4).size 0 #[] = ((liI 4).map (Value.int .i32)).toArray := by kernel_rfl
theorem ls_runes_5 : Conv.runesFrom (lsS 5) (lsS 5).size 0 #[] = ((liI 5).map (Value.int .i32)).toArray := by kernel_rfl
theorem ls_runes_6 : Conv.runesFrom (lsS 6) (lsS 6).size 0 #[] = ((liI 6).map (Value.int .i32)).toArray := by kernel_rfl
theorem ls_runes_7 : Conv.runesFrom (lsS 7) (lsS 7).size 0 #[] = ((liI 7).map (Value.int .i32)).toArray := by kernel_rfl
theorem ls_runes_8 : Conv.runesFrom (lsS 8) (lsS 8).size 0 #[] = ((liI 8).map (Value.int .i32)).toArray := by kernel_rfl
theorem ls_runes_9 : Conv.runesFrom (lsS 9) (lsS 9).size 0 #[] = ((liI 9).map (Value.int .i32)).toArray := by kernel_rfl
theorem ls_runes_10 : Conv.runesFrom (lsS 10) (lsS 10).size 0 #[] = ((liI 10).map (Value.int .i32)).toArray := by kernel_rfl
theorem ls_runes_11 : Conv.runesFrom (lsS 11) (lsS 11).size 0 #[] = ((liI 11).map (Value.int .i32)).toArray := by kernel_rfl
theorem ls_runes_12 : Conv.runesFrom (lsS 12) (lsS 12).size 0 #[] = ((liI 12).map (Value.int .i32)).toArray := by kernel_rfl
theorem ls_runes {k : Nat} (h : k < 13) : Conv.runesFrom (lsS k) (lsS k).size 0 #[] = ((liI k).map (Value.int .i32)).toArray := by
  match k, h with
  | 0, _ => exact ls_runes_0
  | 1, _ => exact ls_runes_1
  | 2, _ => exact ls_runes_2
  | 3, _ => exact ls_runes_3
  | 4, _ => exact ls_runes_4
  | 5, _ => exact ls_runes_5
  | 6, _ => exact ls_runes_6
  | 7, _ => exact ls_runes_7
  | 8, _ => exact ls_runes_8
  | 9, _ => exact ls_runes_9
  | 10, _ => exact ls_runes_10
  | 11, _ => exact ls_runes_11
  | 12, _ => exact ls_runes_12

/-- the table's rows: a letter, a mark, what both make -/
def rowT (k : Nat) : List (Int × Int × Int) := ((liI k).zip (miI k)).map fun x => (x.1, mkI k, x.2)
def uptoT (k : Nat) : List (Int × Int × Int) := (List.range k).flatMap rowT
theorem uptoT_succ (k : Nat) : uptoT (k + 1) = uptoT k ++ rowT k := by simp [uptoT, List.range_succ]
theorem uptoT_prefix {k n : Nat} (h : k ≤ n) : ∃ r, uptoT n = uptoT k ++ r := by
  induction n with
  | zero => exact ⟨[], by obtain rfl : k = 0 := by omega
                          simp⟩
  | succ n ih =>
    by_cases e : k = n + 1
    · exact ⟨[], by subst e; simp⟩
    · obtain ⟨r, hr⟩ := ih (by omega)
      exact ⟨r ++ rowT n, by rw [uptoT_succ, hr, List.append_assoc]⟩
def T : List (Int × Int × Int) := uptoT 13
def isAB (a b : Int) (t : Int × Int × Int) : Bool := t.1 == a && t.2.1 == b
def isR (r : Int) (t : Int × Int × Int) : Bool := t.2.2 == r
def hanI (a b : Int) : Option Int :=
  if 4352 ≤ a ∧ a < 4371 ∧ 4449 ≤ b ∧ b < 4470 then some (44032 + (a - 4352) * 588 + (b - 4449) * 28)
  else if 44032 ≤ a ∧ a < 55204 ∧ (a - 44032) % 28 = 0 ∧ 4520 ≤ b ∧ b < 4547 then some (a + b - 4520 + 1) else none
def hanS (r : Int) : Option (Int × Int) :=
  if 44032 ≤ r ∧ r < 55204 then
    if 0 < (r - 44032) % 28 then some (r - (r - 44032) % 28, 4520 + (r - 44032) % 28 - 1)
    else some (4352 + (r - 44032) / 588, 4449 + (r - 44032) % 588 / 28)
  else none
/-- what two make -/
def pairI (a b : Int) : Option Int := match T.find? (isAB a b) with
  | some t => some t.2.2
  | none => hanI a b
/-- the pair that makes one -/
def splitI (r : Int) : Option (Int × Int) := match T.find? (isR r) with
  | some t => some (t.1, t.2.1)
  | none => hanS r
def clsI (r : Int) : Int := if (768 ≤ r ∧ r ≤ 772) ∨ (774 ≤ r ∧ r ≤ 776) ∨ (778 ≤ r ∧ r ≤ 780) then 230 else if r = 807 ∨ r = 808 then 202 else 0

theorem T_facts : (T.all fun t => T.find? (isR t.2.2) == some t && T.find? (isAB t.1 t.2.1) == some t && decide (0 < t.2.2) && decide (t.2.2 < 4352) && decide (0 ≤ t.1) && decide (t.1 < 128) && decide (768 ≤ t.2.1) && decide (t.2.1 < 809) && decide (clsI t.2.2 = 0) && decide (clsI t.1 = 0) && decide (clsI t.2.1 ≠ 0) && decide (128 ≤ t.2.2)) = true := by decide +kernel
theorem T_of {t : Int × Int × Int} (h : t ∈ T) : T.find? (isR t.2.2) = some t ∧ T.find? (isAB t.1 t.2.1) = some t ∧ 0 < t.2.2 ∧ t.2.2 < 4352 ∧ 0 ≤ t.1 ∧ t.1 < 128 ∧ 768 ≤ t.2.1 ∧ t.2.1 < 809 ∧ clsI t.2.2 = 0 ∧ clsI t.1 = 0 ∧ clsI t.2.1 ≠ 0 ∧ 128 ≤ t.2.2 := by
  have := List.all_eq_true.1 T_facts t h
  simpa [and_assoc] using this

theorem find_row_none {k : Nat} {a b : Int} (h : mkI k ≠ b) : (rowT k).find? (isAB a b) = none := by
  rw [List.find?_eq_none]
  intro t ht
  simp only [rowT, List.mem_map] at ht
  obtain ⟨x, _, rfl⟩ := ht
  simp [isAB, h]
theorem find_zip {p : Int → Bool} {f : Int × Int → Int × Int × Int} (l m : List Int) (q : Int × Int × Int → Bool) (hq : ∀ x, q (f x) = p x.1) :
    ∀ i, i < l.length → l.length = m.length → (∀ j, j < i → p (l.getD j 0) = false) → p (l.getD i 0) = true → ((l.zip m).map f).find? q = some (f (l.getD i 0, m.getD i 0)) := by
  induction l generalizing m with
  | nil => intro i hi; simp at hi
  | cons x l ih =>
    intro i hi hl hj hp
    cases m with
    | nil => simp at hl
    | cons y m =>
      cases i with
      | zero => simp at hp; simp [hq, hp]
      | succ i =>
        have h0 := hj 0 (by omega)
        simp at h0 hp hi hl
        simp only [List.zip_cons_cons, List.map_cons, List.find?_cons, hq, h0, List.getD_cons_succ]
        exact ih m i hi hl (fun j hj' => by have := hj (j + 1) (by omega); simpa using this) (by simpa using hp)
theorem find_zip_none {p : Int → Bool} {f : Int × Int → Int × Int × Int} (l m : List Int) (q : Int × Int × Int → Bool) (hq : ∀ x, q (f x) = p x.1)
    (hj : ∀ j, j < l.length → p (l.getD j 0) = false) : ((l.zip m).map f).find? q = none := by
  rw [List.find?_eq_none]
  intro t ht
  simp only [List.mem_map] at ht
  obtain ⟨x, hx, rfl⟩ := ht
  rw [hq]
  have := List.of_mem_zip hx
  obtain ⟨i, hi, he⟩ := List.getElem_of_mem this.1
  have h2 := hj i hi
  rw [List.getD_eq_getElem?_getD, List.getElem?_eq_getElem hi, Option.getD_some, he] at h2
  simp [h2]
end Go.Proofs.YtpmlggjhfiljmaaGreatDoor
