/- Contracts of layer 2's small functions. -/
import Derived.Test.YtakddihadfdkpaaUtfM
import Derived.Test.YtakddihadfdkpaaChaP
import Derived.Laws.RangeAny
namespace Go.Proofs.Ytakddihadfdkpaa
open Go.RowKit
set_option linter.unusedVariables false

def rightB (enc : Int) : Bool := decide (0 ≤ enc ∧ enc ≤ 8)
set_option maxHeartbeats 400000 in
theorem right_any (enc : Int) (w : World) : Calls Try.prog 10 #[.int .i64 enc] w fun e w' => e = .returned (.bool (rightB enc)) ∧ w = w' := by
  go_enter Try.func10, Try.ntmps10
  go_wp2
  all_goals (go_ret; exact ⟨ret_bool (by unfold rightB; rw [Bool.eq_iff_iff]; simp only [decide_eq_true_eq, Bool.false_eq_true, false_iff]; omega), rfl⟩)
set_option maxHeartbeats 400000 in
theorem upper_any (enc : Int) (w : World) : Calls Try.prog 24 #[.int .i64 enc] w fun e w' => e = .returned (.tuple #[.string (rowS enc), .int .i64 (fromI enc)]) ∧ w = w' := by
  by_cases h2 : enc = 2
  · subst h2
    go_enter Try.func24, Try.ntmps24
    go_wp2
    go_ret2
    exact ⟨by kernel_rfl, rfl⟩
  by_cases h4 : enc = 4
  · subst h4
    go_enter Try.func24, Try.ntmps24
    go_wp2
    go_ret2
    exact ⟨by kernel_rfl, rfl⟩
  by_cases h5 : enc = 5
  · subst h5
    go_enter Try.func24, Try.ntmps24
    go_wp2
    go_ret2
    exact ⟨by kernel_rfl, rfl⟩
  have b2 : (enc == 2) = false := by simp [h2]
  have b4 : (enc == 4) = false := by simp [h4]
  have b5 : (enc == 5) = false := by simp [h5]
  have HE : Hid (Ending.returned (.tuple #[.string ByteArray.empty, .int .i64 0]) = .returned (.tuple #[.string (rowS enc), .int .i64 (fromI enc)])) := by
    unfold rowS fromI; rw [if_neg h2, if_neg h4, if_neg h5, if_neg h2, if_neg h4, if_neg h5]; exact rfl
  clear h2 h4 h5
  go_enter Try.func24, Try.ntmps24
  go_wp2
  go_ret2
  exact ⟨HE.out, rfl⟩

/-- how far a range over a string has come: k of the runes l are told, the iterator stands at p -/
def Ran (s : ByteArray) (l : List Int) (k p : Nat) : Prop := k ≤ l.length ∧ ∃ f, decR s f p = l.drop k ∧ s.size ≤ p + f
theorem Ran.start {s : ByteArray} {l : List Int} (h : decR s s.size 0 = l) : Ran s l 0 0 := ⟨Nat.zero_le _, s.size, by simpa using h, by omega⟩
theorem Ran.more {s : ByteArray} {l : List Int} {k p : Nat} (h : Ran s l k p) (hp : p < s.size) : k < l.length ∧ ((Utf8.decode s p).1 : Int) = l.getD k 0 ∧ Ran s l (k + 1) (p + (Utf8.decode s p).2) := by
  obtain ⟨hk, f, hd, hf⟩ := h
  obtain ⟨f, rfl⟩ : ∃ n, f = n + 1 := ⟨f - 1, by omega⟩
  simp only [decR] at hd
  rw [if_pos hp] at hd
  have hlt : k < l.length := by
    rcases Nat.lt_or_ge k l.length with q | q
    · exact q
    · rw [List.drop_eq_nil_of_le q] at hd; cases hd
  rw [List.drop_eq_getElem_cons hlt] at hd
  injection hd with h1 h2
  have := decode_w s p hp
  exact ⟨hlt, by rw [h1, List.getD_eq_getElem?_getD, List.getElem?_eq_getElem hlt]; rfl, hlt, f, h2, by omega⟩
theorem Ran.end_ {s : ByteArray} {l : List Int} {k p : Nat} (h : Ran s l k p) (hp : ¬ p < s.size) : k = l.length := by
  obtain ⟨hk, f, hd, hf⟩ := h
  cases f with
  | zero =>
    simp only [decR] at hd
    have := List.drop_eq_nil_iff.1 hd.symm
    omega
  | succ f =>
    simp only [decR] at hd
    rw [if_neg hp] at hd
    have := List.drop_eq_nil_iff.1 hd.symm
    omega
def AtRel (s : ByteArray) (l : List Int) (n0 : Int) (W : World) (n : Value) (wr : World) : Prop := ∃ k p : Nat, Ran s l k p ∧ n = .int .i64 (n0 - k) ∧ (k : Int) ≤ n0 ∧ wr = W.iter s p
set_option maxHeartbeats 800000 in
theorem at_any (s : ByteArray) (l : List Int) (n : Int) (w : World) (hd : decR s s.size 0 = l) (hn : 0 ≤ n) (hn2 : n ≤ 1000000) :
    Calls Try.prog 32 #[.string s, .int .i64 n] w fun e w' => e = .returned (.int .i32 (l.getD n.toNat (-1))) ∧ Fresh w w' := by
  have HR : Hid (Ran s l 0 0) := Ran.start hd
  clear hd
  go_enter Try.func32, Try.ntmps32
  go_wp2
  go_loopw [1] (fun m wr => AtRel s l n w m wr) (fun _ wr => s.size - wr.iterPos w.heap.size)
  case atStart => exact ⟨0, 0, HR.out, by simp, by omega, rfl⟩
  case round =>
    obtain ⟨k, p, hran, rfl, hkn, rfl⟩ := hrel
    by_cases hp : p < s.size
    · obtain ⟨h1, h2, h3⟩ := hran.more hp
      have hw := decode_w s p hp
      have hnx : ∀ ty, (Instr.next (.pointer (some ⟨w.heap.size, 0, none⟩)) true ty).run Try.prog (w.iter s p) = .ok (.tuple #[.bool true, .int .i64 p, .int .i32 (l.getD k 0)]) (w.iter s (p + (Utf8.decode s p).2)) := fun ty => by
        rw [← h2]; exact run_next_any w s p ty hp
      have H3 := Lib.hid h3
      clear h2 h3 hran
      generalize (Utf8.decode s p).2 = d at hw hnx H3
      generalize hq : l.getD k 0 = q at hnx
      have HQ := Lib.hid hq
      clear hq
      by_cases hk : n - k = 0
      · have hb : (n - (k : Int) == 0) = true := by simp [hk]
        have HK := Lib.hid hk
        clear hk
        go_wp2
        go_ret
        exact ⟨ret_int (by
          have := HK.out
          rw [show n.toNat = k by omega, ← HQ.out, List.getD_eq_getElem?_getD, List.getD_eq_getElem?_getD, List.getElem?_eq_getElem h1]; rfl), (Fresh.refl _).alloc _⟩
      · have hb : (n - (k : Int) == 0) = false := by simp [hk]
        have HK := Lib.hid hk
        clear hk
        go_wp2
        refine ⟨⟨k + 1, p + d, H3.out, by rw [show n - ((k + 1 : Nat) : Int) = n - k - 1 by omega], by have := HK.out; omega, rfl⟩, by simp; omega⟩
    · have hnx : ∀ ty, (Instr.next (.pointer (some ⟨w.heap.size, 0, none⟩)) true ty).run Try.prog (w.iter s p) = .ok (.tuple #[.bool false]) (w.iter s p) := fun ty => run_next_end w s p ty hp
      have HE := Lib.hid (hran.end_ hp)
      clear hran
      go_wp2
      go_ret
      exact ⟨ret_int (by have := HE.out; rw [List.getD_eq_getElem?_getD, List.getElem?_eq_none (by omega)]; rfl), (Fresh.refl _).alloc _⟩
def FindRel (s : ByteArray) (l : List Int) (r : Int) (W : World) (n : Value) (wr : World) : Prop := ∃ k p : Nat, Ran s l k p ∧ n = .int .i64 k ∧ (∀ j : Nat, j < k → l.getD j 0 ≠ r) ∧ wr = W.iter s p
/-- where a number is first: at k; or nowhere, -1 -/
def FirstAt (xs : List Int) (r k : Int) : Prop := (0 ≤ k ∧ k < xs.length ∧ xs.getD k.toNat 0 = r ∧ ∀ j : Nat, (j : Int) < k → xs.getD j 0 ≠ r) ∨ (k = -1 ∧ ∀ j : Nat, j < xs.length → xs.getD j 0 ≠ r)
def FindPost (l : List Int) (r : Int) (w : World) (e : Ending) (w' : World) : Prop := ∃ k, e = .returned (.int .i64 k) ∧ FirstAt l r k ∧ Fresh w w'
set_option maxHeartbeats 800000 in
theorem find_any (s : ByteArray) (l : List Int) (r : Int) (w : World) (hd : decR s s.size 0 = l) (hl : l.length ≤ 1000000) :
    Calls Try.prog 25 #[.string s, .int .i32 r] w (FindPost l r w) := by
  have HR : Hid (Ran s l 0 0) := Ran.start hd
  clear hd
  go_enter Try.func25, Try.ntmps25
  go_wp2
  go_loopw [5] (fun m wr => FindRel s l r w m wr) (fun _ wr => s.size - wr.iterPos w.heap.size)
  case atStart => exact ⟨0, 0, HR.out, rfl, fun j hj => absurd hj (Nat.not_lt_zero _), rfl⟩
  case round =>
    obtain ⟨k, p, hran, rfl, he, rfl⟩ := hrel
    have HE := Lib.hid he
    clear he
    by_cases hp : p < s.size
    · obtain ⟨h1, h2, h3⟩ := hran.more hp
      have hw := decode_w s p hp
      have hnx : ∀ ty, (Instr.next (.pointer (some ⟨w.heap.size, 0, none⟩)) true ty).run Try.prog (w.iter s p) = .ok (.tuple #[.bool true, .int .i64 p, .int .i32 (l.getD k 0)]) (w.iter s (p + (Utf8.decode s p).2)) := fun ty => by
        rw [← h2]; exact run_next_any w s p ty hp
      have H3 := Lib.hid h3
      clear h2 h3 hran
      generalize (Utf8.decode s p).2 = d at hw hnx H3
      generalize hq : l.getD k 0 = q at hnx
      have HQ := Lib.hid hq
      clear hq
      by_cases hk : q = r
      · have hb : (q == r) = true := by simp [hk]
        have HK := Lib.hid hk
        clear hk
        go_wp2
        go_ret
        exact ⟨k, rfl, .inl ⟨by omega, by omega, by rw [Int.toNat_natCast, HQ.out, HK.out], fun j hj => HE.out j (by omega)⟩, (Fresh.refl _).alloc _⟩
      · have hb : (q == r) = false := by simp [hk]
        have HK := Lib.hid hk
        clear hk
        go_wp2
        refine ⟨⟨k + 1, p + d, H3.out, by rw [Int.natCast_add]; rfl, fun j hj => ?_, rfl⟩, by simp; omega⟩
        by_cases hjk : j = k
        · rw [hjk, HQ.out]; exact HK.out
        · exact HE.out j (by omega)
    · have hnx : ∀ ty, (Instr.next (.pointer (some ⟨w.heap.size, 0, none⟩)) true ty).run Try.prog (w.iter s p) = .ok (.tuple #[.bool false]) (w.iter s p) := fun ty => run_next_end w s p ty hp
      have HN := Lib.hid (hran.end_ hp)
      clear hran
      go_wp2
      go_ret
      exact ⟨-1, rfl, .inr ⟨rfl, fun j hj => HE.out j (by have := HN.out; omega)⟩, (Fresh.refl _).alloc _⟩
end Go.Proofs.Ytakddihadfdkpaa
