/- charset.Pieces. -/
import Derived.Test.YtakddihadfdkpaaChaM
import Derived.Laws.OwnMore
namespace Go.Proofs.Ytakddihadfdkpaa
open Go.RowKit
set_option linter.unusedVariables false

def pc (x : Int × Int) : List Value := [.int .i32 x.1, .int .i64 x.2]
def pcs (xs : List (Int × Int)) : List Value := xs.flatMap pc
theorem pcs_len (xs : List (Int × Int)) : (pcs xs).length = xs.length * 2 := by
  induction xs with
  | nil => rfl
  | cons x l ih => unfold pcs at *; rw [List.flatMap_cons, List.length_append, ih]; simp [pc]; omega
theorem pcs_get : ∀ (xs : List (Int × Int)) (k : Nat) (hk : k < xs.length) (j : Nat), j < 2 → (pcs xs)[k * 2 + j]? = (pc xs[k])[j]?
  | [], k, hk, _, _ => by simp at hk
  | x :: l, 0, _, j, hj => by
    unfold pcs
    rw [List.flatMap_cons, List.getElem?_append_left (by simp [pc]; omega)]
    simp
  | x :: l, k + 1, hk, j, hj => by
    have ih := pcs_get l k (by simpa using hk) j hj
    unfold pcs at *
    rw [List.flatMap_cons, List.getElem?_append_right (by simp [pc]; omega)]
    have : (k + 1) * 2 + j - (pc x).length = k * 2 + j := by simp [pc]; omega
    rw [this, ih]
    simp
/-- a slice of pieces of the call's own -/
def OwnP (w : World) (B : Nat) (v : Value) (xs : List (Int × Int)) : Prop := w.ownsRow B 24 2 v xs.length (pcs xs)
theorem OwnP.nil (w : World) (B : Nat) : OwnP w B (.slice none 0 0) [] := World.ownsRow_nil _ _ _ _
theorem OwnP.keep {w w' : World} {B : Nat} {v : Value} {xs : List (Int × Int)} (h : OwnP w B v xs) (hf : Fresh w w') : OwnP w' B v xs := by
  refine World.ownsRow.kept (row := none) h ⟨hf.os, hf.tape, hf.output, hf.size, fun k hk _ => hf.block k hk⟩ ?_
  cases hv : v.ownBlock with
  | none => exact .inl rfl
  | some k => exact .inr (by simp)
theorem OwnP.push {w' : World} {B : Nat} {v' : Value} {acc : List (Int × Int)} {x : Int × Int} (h : w'.ownsRow B 24 2 v' (acc.length + 1) (pcs acc ++ [.int .i32 x.1, .int .i64 x.2])) : OwnP w' B v' (acc ++ [x]) := by
  unfold OwnP
  have : pcs (acc ++ [x]) = pcs acc ++ [.int .i32 x.1, .int .i64 x.2] := by unfold pcs; rw [List.flatMap_append]; simp [pc]
  rw [this]
  simpa using h
theorem OwnP.fresh {w w1 w' : World} {v : Value} {o : Obj} {e : TypeId} {n : Nat} {xs : List Value} (hf : Fresh w w1) (ho : w1.ownsRow w.heap.size e 2 v n xs) (hg : (w1.alloc o).grownBy w' v.ownBlock) : Fresh w w' :=
  Below.grown (hf.alloc o) hg (by have := hf.size; simp; omega) (fun k hk => (ho.lt k hk).1)
theorem cell_new2 (w : World) (u v : Value) (t : TypeId) : ∀ (j : Nat) (x : Value), [u, v][j]? = some x → (w.alloc (.cells #[u, v] t)).cell? ((⟨w.heap.size, 0, none⟩ : Addr).add j) = some x := by
  intro j x hj
  match j, hj with
  | 0, hj => simp at hj; subst hj; simp [Addr.add]
  | 1, hj => simp at hj; subst hj; simp [Addr.add]
theorem infoP : (Try.prog.info? 24).map (fun i => (i.zero, i.size, i.bytes)) = some (some (.agg #[.int .i32 0, .int .i64 0]), 2, 16) := by kernel_rfl
theorem info_partsP {i : Option TypeInfo} {z : Value} {s b : Nat} (h : i.map (fun i => (i.zero, i.size, i.bytes)) = some (some z, s, b)) : ∃ i0, i = some i0 ∧ i0.zero = some z ∧ i0.size = s ∧ i0.bytes = b := by
  cases i with
  | none => cases h
  | some i0 => simp at h; exact ⟨i0, rfl, h.1, h.2.1, h.2.2⟩
/-- the pieces from a place to another -/
def Chain (enc : Int) (s : ByteArray) : Nat → List (Int × Int) → Nat → Prop
  | p, [], q => p = q
  | p, x :: l, q => p < s.size ∧ nextC enc s p = x ∧ Chain enc s (p + x.2.toNat) l q
theorem Chain.push {enc : Int} {s : ByteArray} : ∀ {xs : List (Int × Int)} {p q : Nat}, Chain enc s p xs q → q < s.size → Chain enc s p (xs ++ [nextC enc s q]) (q + (nextC enc s q).2.toNat)
  | [], p, q, h, hq => by
    have h : p = q := h
    subst h
    exact ⟨hq, rfl, rfl⟩
  | x :: l, p, q, h, hq => ⟨h.1, h.2.1, Chain.push h.2.2 hq⟩
theorem next_step {enc : Int} {s : ByteArray} {p : Nat} (h0 : 0 ≤ enc) (h8 : enc ≤ 8) (hp : p < s.size) : 1 ≤ (nextC enc s p).2 ∧ (nextC enc s p).2 ≤ 4 ∧ (p : Int) + (nextC enc s p).2 ≤ s.size := by
  rcases next_back h0 h8 hp with ⟨r, l, e, _, hl, hs⟩ | ⟨e, _⟩
  · have := encC_bytes hl
    have h2 := hs.1
    rw [e]; simp only; omega
  · rw [e]; simp only; omega
def PcsRel (enc : Int) (s : ByteArray) (w : World) (out at_ : Value) (wr : World) : Prop :=
  ∃ (p : Nat) (acc : List (Int × Int)), at_ = .int .i64 p ∧ p ≤ s.size ∧ acc.length ≤ p ∧ OwnP wr w.heap.size out acc ∧ Fresh w wr ∧ Chain enc s 0 acc p
def PcsPost (enc : Int) (s : ByteArray) (w : World) (e : Ending) (w' : World) : Prop :=
  ∃ v xs, e = .returned v ∧ OwnP w' w.heap.size v xs ∧ Chain enc s 0 xs s.size ∧ xs.length ≤ s.size ∧ Fresh w w'
set_option maxHeartbeats 1600000 in
theorem pieces_any (enc : Int) (s : ByteArray) (h0 : 0 ≤ enc) (h8 : enc ≤ 8) (hs : s.size ≤ 1000000) (w : World) : Calls Try.prog 14 #[.int .i64 enc, .string s] w (PcsPost enc s w) := by
  obtain ⟨i0, hi0, hz0, hz1, hz2⟩ := info_partsP infoP
  have HR : Hid (rightB enc = true) := by unfold rightB; exact decide_eq_true ⟨h0, h8⟩
  go_enter Try.func14, Try.ntmps14
  go_wp2
  go_loopw [5, 6] (fun out at_ wr => PcsRel enc s w out at_ wr) (fun _ at_ _ => s.size - (intOf at_).toNat)
  case atStart => exact ⟨0, [], rfl, Nat.zero_le _, Nat.le_refl _, OwnP.nil _ _, Fresh.refl _, rfl⟩
  case round =>
    obtain ⟨p, acc, rfl, hp, hl, hown, hf, hch⟩ := hrel
    have HA := Lib.hid hch
    clear hch
    by_cases hlt : p < s.size
    · have HC := Lib.hid (HA.out.push hlt)
      obtain ⟨n1, n4, n2⟩ := next_step h0 h8 hlt
      have HN := Lib.hid (chNext_any enc s p (by omega))
      generalize nextC enc s p = x at HC n1 n2 n4 HN
      obtain ⟨r, n⟩ := x
      simp only at n1 n2 n4
      go_wp2_with ((go_at_call 10; refine (right_any _ _).mono ?_; rintro e w1 ⟨rfl, rfl⟩; rw [HR.out]))
      refine (HN.out _).mono ?_
      rintro e w1 ⟨rfl, h1⟩
      have hown1 := hown.keep (h1.alloc (.cells #[.int .i32 r, .int .i64 n] 24))
      unfold OwnP at hown1
      have hf1 := (hf.trans h1).alloc (.cells #[.int .i32 r, .int .i64 n] 24)
      go_wp2_with (at_builtin; refine wpList_append_own _ rfl _ _ 36 rfl w.heap.size 24 i0 (.agg #[.int .i32 0, .int .i64 0]) 2 16 Try.underlying36 hi0 hz0 hz1 hz2 rfl (by decide) _ _ _ rfl (hown1.alloc _) ⟨w1.heap.size + 1, 0, none⟩ 1 1 [.int .i32 r, .int .i64 n] rfl rfl ?c1 ?c2 ?c3 ?c4 ?c5 ?_)
      case c1 =>
        have := cell_new2 (w1.alloc (.cells #[.int .i32 r, .int .i64 n] 24)) (.int .i32 r) (.int .i64 n) 24
        simpa using this
      case c2 => intro u hu; simp at hu; rcases hu with rfl | rfl <;> rfl
      case c3 => unfold maxLen; omega
      case c4 => omega
      case c5 => have := hf1.size; simp at this ⊢; omega
      intro v' w' hown' hgrow _
      have hb : Blk w' w1.heap.size 24 #[.int .i32 r, .int .i64 n] := by
        have hb0 := Blk.new w1 24 #[.int .i32 r, .int .i64 n]
        have hb1 := hb0.keep ((Fresh.refl _).alloc (.cells #[.int .i32 r, .int .i64 n] 24))
        refine (hgrow.block _ (by simp; omega) ?_).trans hb1
        intro e
        have := ((hown.keep h1).lt _ e.symm).2
        omega
      obtain ⟨c0, c1, _, _, l⟩ := piece_facts hb (Fresh.refl _)
      have hn' := OwnP.push (x := (r, n)) hown'
      have hf' := OwnP.fresh hf1 hown1 hgrow
      clear hown' hgrow hown1 hown hb
      go_wp2
      go_roundw
      case rel => exact ⟨p + n.toNat, acc ++ [(r, n)], by rw [Int.natCast_add, Int.toNat_of_nonneg (by omega)], by omega, by simp; omega, hn', hf', HC.out⟩
      case measure => simp [intOf]; omega
    · have hps : p = s.size := by omega
      go_wp2
      go_ret
      exact ⟨_, _, rfl, hown, by rw [← hps]; exact HA.out, by omega, hf⟩
set_option maxHeartbeats 400000 in
theorem pieces_out (enc : Int) (s : ByteArray) (h : ¬ (0 ≤ enc ∧ enc ≤ 8)) (hs : s.size ≤ 1000000) (w : World) : Calls Try.prog 14 #[.int .i64 enc, .string s] w fun e w' => e = .returned (.slice none 0 0) ∧ Fresh w w' := by
  have HR : Hid (rightB enc = false) := by unfold rightB; exact decide_eq_false h
  by_cases hz : 0 < s.size
  · have hz2 : (0 : Int) < (s.size : Int) := by omega
    go_enter Try.func14, Try.ntmps14
    go_wp2
    refine wp_loop_rounds 1 ?_
    rw [rounds_succ]
    go_wp2_with ((go_at_call 10; refine (right_any _ _).mono ?_; rintro e w1 ⟨rfl, rfl⟩; rw [HR.out]))
    go_ret
    exact ⟨rfl, Fresh.refl _⟩
  · have hz2 : s.size = 0 := by omega
    go_enter Try.func14, Try.ntmps14
    go_wp2
    refine wp_loop_rounds 1 ?_
    rw [rounds_succ]
    go_wp2_with ((go_at_call 10; refine (right_any _ _).mono ?_; rintro e w1 ⟨rfl, rfl⟩; rw [HR.out]))
    go_ret
    exact ⟨rfl, Fresh.refl _⟩
end Go.Proofs.Ytakddihadfdkpaa
