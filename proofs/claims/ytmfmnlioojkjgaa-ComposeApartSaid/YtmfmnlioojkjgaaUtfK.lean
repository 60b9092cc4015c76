/- Contracts of All, the program's and the reference's. -/
import Derived.Test.YtmfmnlioojkjgaaUtfH
import Derived.Test.YtmfmnlioojkjgaaUtfJ
import Derived.OwnWalk
import Derived.Deep.LoopGhost
namespace Go.Proofs.Ytmfmnlioojkjgaa
open Go.RowKit
set_option linter.unusedVariables false

/-- a slice of runes of the call's own -/
def OwnR (w : World) (B : Nat) (v : Value) (xs : List Int) : Prop := w.ownsRow B 21 1 v xs.length (xs.map (Value.int .i32))
theorem OwnR.nil (w : World) (B : Nat) : OwnR w B (.slice none 0 0) [] := World.ownsRow_nil _ _ _ _
theorem OwnR.keep {w w' : World} {B : Nat} {v : Value} {xs : List Int} (h : OwnR w B v xs) (hf : Fresh w w') : OwnR w' B v xs := by
  refine World.ownsRow.kept (row := none) h ⟨hf.os, hf.tape, hf.output, hf.size, fun k hk _ => hf.block k hk⟩ ?_
  cases hv : v.ownBlock with
  | none => exact .inl rfl
  | some k => exact .inr (by simp)
theorem OwnR.push {w' : World} {B : Nat} {v' : Value} {acc : List Int} {r : Int} (h : w'.ownsRow B 21 1 v' (acc.length + 1) (acc.map (Value.int .i32) ++ [.int .i32 r])) : OwnR w' B v' (acc ++ [r]) := by
  unfold OwnR
  simpa using h
theorem OwnR.fresh {w w1 w' : World} {v : Value} {o : Obj} {e : TypeId} {n : Nat} {xs : List Value} (hf : Fresh w w1) (ho : w1.ownsRow w.heap.size e 1 v n xs) (hg : (w1.alloc o).grownBy w' v.ownBlock) : Fresh w w' :=
  Below.grown (hf.alloc o) hg (by have := hf.size; simp; omega) (fun k hk => (ho.lt k hk).1)
theorem cell_new1 (w : World) (v : Value) (t : TypeId) : ∀ (j : Nat) (u : Value), [v][j]? = some u → (w.alloc (.cells #[v] t)).cell? ((⟨w.heap.size, 0, none⟩ : Addr).add j) = some u := by
  intro j u hj
  match j, hj with
  | 0, hj => simp at hj; subst hj; simp [Addr.add]
theorem info32 : (Try.prog.info? 21).map (fun i => (i.zero, i.size, i.bytes)) = some (some (.int .i32 0), 1, 4) := by kernel_rfl

def AllRel (s : ByteArray) (w : World) (out at_ : Value) (wr : World) : Prop :=
  ∃ (p : Nat) (acc : List Int), at_ = .int .i64 p ∧ p ≤ s.size ∧ acc.length ≤ p ∧ OwnR wr w.heap.size out acc ∧ Fresh w wr ∧ allFrom s 0 = (allFrom s p).map (acc ++ ·)
def AllPost (s : ByteArray) (w : World) (e : Ending) (w' : World) : Prop :=
  ∃ v, e = .returned (.tuple #[v, .bool (allFrom s 0).isSome]) ∧ OwnR w' w.heap.size v ((allFrom s 0).getD []) ∧ Fresh w w'
theorem AllPost.yes {s : ByteArray} {w w' : World} {v : Value} {l : List Int} (h : allFrom s 0 = some l) (ho : OwnR w' w.heap.size v l) (hf : Fresh w w') : AllPost s w (.returned (.tuple #[v, .bool true])) w' :=
  ⟨v, by rw [h]; rfl, by rw [h]; exact ho, hf⟩
theorem AllPost.no {s : ByteArray} {w w' : World} (h : allFrom s 0 = none) (hf : Fresh w w') : AllPost s w (.returned (.tuple #[.slice none 0 0, .bool false])) w' :=
  ⟨_, by rw [h]; rfl, by rw [h]; exact OwnR.nil _ _, hf⟩
set_option maxHeartbeats 800000 in
theorem refAll_any (s : ByteArray) (hs : s.size ≤ 1000000) (w : World) : Calls Try.prog 27 #[.string s] w (AllPost s w) := by
  obtain ⟨i0, hi0, hz0, hz1, hz2⟩ := info_parts info32
  go_enter Try.func27, Try.ntmps27
  go_wp2
  go_loopw [4, 5] (fun out at_ wr => AllRel s w out at_ wr) (fun _ at_ _ => s.size - (intOf at_).toNat)
  case atStart => exact ⟨0, [], rfl, Nat.zero_le _, Nat.le_refl _, OwnR.nil _ _, Fresh.refl _, by cases allFrom s 0 <;> rfl⟩
  case round =>
    obtain ⟨p, acc, rfl, hp, hl, hown, hf, hall⟩ := hrel
    have HA := Lib.hid hall
    clear hall
    by_cases hlt : p < s.size
    · go_wp2_with fail
      refine (refNext_any _ _ (by omega) _).mono ?_
      rintro e w1 ⟨rfl, h1⟩
      have en : nextI s (p : Int) = nxt s p := by unfold nextI; rw [if_pos (by omega)]; rfl
      rw [en]
      by_cases h0 : (nxt s p).2 = 0
      · have hno : allFrom s 0 = none := by rw [HA.out, allFrom_no hlt h0]; rfl
        have HN := Lib.hid hno
        rw [h0]
        clear hno h0 en
        go_wp2
        go_ret2
        exact AllPost.no HN.out (hf.trans h1)
      · have hq := nxt_pos hlt h0
        have hy := allFrom_yes hlt h0
        have HY := Lib.hid hy
        clear hy en
        generalize hr : (nxt s p).1 = r at HY
        generalize hn : (nxt s p).2 = n at HY hq h0
        clear hr hn
        obtain ⟨hq1, hq2, hq3⟩ := hq
        have h00 : (n == 0) = false := by simp; exact h0
        have hown1 := hown.keep h1
        unfold OwnR at hown1
        go_wp2_with (at_builtin; refine wpList_append_own _ rfl _ _ 30 rfl w.heap.size 21 i0 (.int .i32 0) 1 4 Try.underlying30 hi0 hz0 hz1 hz2 rfl (by decide) _ _ _ rfl (hown1.alloc _) ⟨w1.heap.size, 0, none⟩ 1 1 [.int .i32 r] rfl rfl ?c1 ?c2 ?c3 ?c4 ?c5 ?_)
        case c1 => exact cell_new1 _ _ _
        case c2 => intro u hu; simp at hu; subst hu; rfl
        case c3 => unfold maxLen; omega
        case c4 => omega
        case c5 => have := (hf.trans h1).size; simp; omega
        intro v' w' hown' hgrow _
        have hn' := OwnR.push hown'
        have hf' := OwnR.fresh (hf.trans h1) hown1 hgrow
        clear hown' hgrow hown1 hown
        go_wp2
        go_roundw
        case rel =>
          refine ⟨p + n.toNat, acc ++ [r], by rw [Int.natCast_add, Int.toNat_of_nonneg (by omega)], by omega, by simp; omega, hn', hf', ?_⟩
          rw [HA.out, HY.out]
          cases allFrom s (p + n.toNat) <;> simp
        case measure => simp [intOf]; omega
    · have hy : allFrom s 0 = some acc := by rw [HA.out, allFrom_end (by omega)]; simp
      have HY := Lib.hid hy
      clear hy
      go_wp2
      go_ret2
      exact AllPost.yes HY.out hown hf
end Go.Proofs.Ytmfmnlioojkjgaa
