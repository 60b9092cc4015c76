/- Contracts that the law rests on, part 9 of 50 (ChaM, ChaO). Each states its own conditions. -/
import Derived.Laws.OwnMore
import Derived.Test.YtpmlggjhfiljmaaGreatDoorC08
/- Plain words of layer 2: a character's bytes are read again, and what is read is written so. -/
namespace Go.Proofs.YtpmlggjhfiljmaaGreatDoor
open Go.RowKit
set_option linter.unusedVariables false
/-- these bytes stand at a place -/
def Stands (s : ByteArray) (p : Nat) (l : List Int) : Prop := p + l.length ≤ s.size ∧ ∀ i, i < l.length → B s (p + i) = l.getD i 0
theorem strOfNums_size (l : List Int) : (strOfNums l).size = l.length := by simp [strOfNums, ByteArray.size]
theorem B_strOfNums {l : List Int} (h : ∀ x ∈ l, 0 ≤ x ∧ x < 256) {i : Nat} (hi : i < l.length) : B (strOfNums l) i = l.getD i 0 := by
  have := getD_bytesOf l h i hi
  unfold B strOfNums
  simpa [bytesOf] using this
theorem stands_eq {s : ByteArray} {p : Nat} {l : List Int} (hl : ∀ x ∈ l, 0 ≤ x ∧ x < 256) (h : Stands s p l) : strOfNums l = s.extract p (p + l.length) := by
  apply ByteArray.ext
  apply Array.toList_inj.1
  have e1 : (s.extract p (p + l.length)).data.toList.length = l.length := by
    have := h.1
    simp
    omega
  apply List.ext_getElem
  · rw [e1]; simp [strOfNums]
  · intro i h1 h2
    have hi : i < l.length := by omega
    have g1 := getD_bytesOf l hl i hi
    have g2 := h.2 i hi
    have g3 := B_extract s p (p + l.length) i h.1 (by omega)
    rw [← g2, ← g3] at g1
    have h1' : i < (bytesOf l).length := by simpa [bytesOf] using hi
    rw [List.getD_eq_getElem?_getD, List.getD_eq_getElem?_getD, List.getElem?_eq_getElem h1', List.getElem?_eq_getElem h2] at g1
    apply UInt8.toNat_inj.1
    have e2 : ((strOfNums l).data.toList[i]'h1).toNat = ((bytesOf l)[i]'h1').toNat := by simp [strOfNums, bytesOf]
    exact e2.trans (by have := Int.ofNat.inj (by simpa using g1); simpa using this)
theorem nextC_utf {enc : Int} {s : ByteArray} {p : Nat} (h7 : 7 ≤ enc) (h8 : enc ≤ 8) (hp : p < s.size) : nextC enc s p = if 0 < (nxt s p).2 then nxt s p else (-1, 1) := by
  unfold nextC; rw [if_pos (by omega), if_pos h7]; rfl
theorem nextC_one {enc : Int} {s : ByteArray} {p : Nat} (h0 : 0 ≤ enc) (h5 : enc ≤ 5) (hp : p < s.size) : nextC enc s p = (oneI enc (B s p), 1) := by
  unfold nextC; rw [if_pos (by omega), if_neg (by omega), if_neg (by omega)]; rfl
theorem nextC_six {s : ByteArray} {p : Nat} (hp : p < s.size) : nextC 6 s p = if p + 1 < s.size ∧ 0 ≤ twoI (B s p) (B s (p + 1)) then (twoI (B s p) (B s (p + 1)), 2) else (oneI 6 (B s p), 1) := by
  obtain ⟨b0, b1⟩ := B_range s p
  unfold nextC
  rw [if_pos (by omega), if_neg (by omega), if_pos rfl]
  simp only [Int.toNat_natCast]
  rw [kanaP_ref _ _ _ b0 b1]
  by_cases h : p + 1 < s.size
  · simp [h]
  · simp [h]
theorem two_not_one {b r : Int} (h1 : twoI b r ≥ 0) : oneI 6 b = -1 := by
  have hr : 130 ≤ b ∧ b ≤ 132 := Classical.byContradiction fun h => by rw [two_neg h] at h1; omega
  unfold oneI
  rw [if_neg (by omega), if_neg (by omega), if_neg (by omega), if_neg (by omega), if_neg (by omega), if_pos rfl, if_neg (by omega)]
/-- the bytes are bytes -/
theorem encC_bytes {enc r : Int} {l : List Int} (h : encC enc r = some l) : (∀ x ∈ l, 0 ≤ x ∧ x < 256) ∧ 1 ≤ l.length ∧ l.length ≤ 4 := by
  unfold encC at h
  by_cases hc : isC r = true
  · rw [if_pos hc] at h
    by_cases h7 : 7 ≤ enc
    · rw [if_pos h7, Option.some.injEq] at h
      subst h
      have := encI_len r
      exact ⟨encI_range hc, by rcases szI_cases r with h | h | h | h <;> omega, by rcases szI_cases r with h | h | h | h <;> omega⟩
    rw [if_neg h7] at h
    cases hf : firstB enc r with
    | some b =>
      rw [hf] at h
      have := firstB_sound hf
      simp only [Option.some.injEq] at h
      subst h
      exact ⟨fun x hx => by simp at hx; omega, by simp, by simp⟩
    | none =>
      rw [hf] at h
      simp only at h
      by_cases h6 : enc = 6
      · rw [if_pos h6, Option.map_eq_some_iff] at h
        obtain ⟨⟨a, b⟩, hp, rfl⟩ := h
        have := pair_two hp
        exact ⟨fun x hx => by simp at hx; omega, by simp, by simp⟩
      · rw [if_neg h6] at h; cases h
  · rw [if_neg hc] at h; cases h
/-- a character's bytes are read as that character -/
theorem next_enc {enc r : Int} {l : List Int} {s : ByteArray} {p : Nat} (h0 : 0 ≤ enc) (h8 : enc ≤ 8) (h : encC enc r = some l) (hs : Stands s p l) : nextC enc s p = (r, (l.length : Int)) := by
  have hb := encC_bytes h
  have hp : p < s.size := by have := hs.1; omega
  unfold encC at h
  by_cases hc : isC r = true
  · have hr := isC_true hc
    rw [if_pos hc] at h
    by_cases h7 : 7 ≤ enc
    · rw [if_pos h7, Option.some.injEq] at h
      subst h
      have hn := nxt_of hc (show At s p r from hs)
      rw [nextC_utf h7 h8 hp, hn, encI_len, if_pos]
      show 0 < szI r
      rcases szI_cases r with h | h | h | h <;> omega
    rw [if_neg h7] at h
    cases hf : firstB enc r with
    | some b =>
      rw [hf] at h
      obtain ⟨f0, f1, f2⟩ := firstB_sound hf
      simp only [Option.some.injEq] at h
      subst h
      have hB : B s p = b := by have := hs.2 0 (by simp); simpa using this
      by_cases h6 : enc = 6
      · subst h6
        rw [nextC_six hp, hB, if_neg, f2]
        · rfl
        · rintro ⟨_, h2⟩
          have := two_not_one h2
          omega
      · rw [nextC_one h0 (by omega) hp, hB, f2]; rfl
    | none =>
      rw [hf] at h
      simp only at h
      by_cases h6 : enc = 6
      · rw [if_pos h6, Option.map_eq_some_iff] at h
        obtain ⟨⟨a, b⟩, hp2, rfl⟩ := h
        have ht := pair_two hp2
        have hB : B s p = a := by have := hs.2 0 (by simp); simpa using this
        have hB1 : B s (p + 1) = b := by have := hs.2 1 (by simp); simpa using this
        have hz := hs.1
        simp at hz
        rw [h6, nextC_six hp, hB, hB1, ht.1, if_pos ⟨by omega, by omega⟩]
        rfl
      · rw [if_neg h6] at h; cases h
  · rw [if_neg hc] at h; cases h
theorem one_char_dec : (List.range 7).all (fun e => (List.range 256).all fun b => decide (oneI (e : Int) (b : Int) = -1) || isC (oneI (e : Int) (b : Int))) = true := by decide +kernel
theorem one_char {enc b : Int} (h0 : 0 ≤ enc) (h6 : enc ≤ 6) (hb : 0 ≤ b) (hb2 : b < 256) : oneI enc b = -1 ∨ isC (oneI enc b) = true := by
  have h := one_char_dec
  rw [List.all_eq_true] at h
  have h := h enc.toNat (List.mem_range.2 (by omega))
  rw [List.all_eq_true] at h
  have h := h b.toNat (List.mem_range.2 (by omega))
  rw [Int.toNat_of_nonneg h0, Int.toNat_of_nonneg hb] at h
  simpa using h
def chk : List Int → Nat → Bool
  | [], _ => true
  | x :: l, m => if x < 0 then chk l m else !m.testBit x.toNat && chk l (m ||| (1 <<< x.toNat))
theorem chk_law : ∀ (l : List Int) (m : Nat), chk l m = true → (∀ x ∈ l, 0 ≤ x → m.testBit x.toNat = false) ∧ l.Pairwise (fun a b => a = b → a < 0)
  | [], _, _ => ⟨fun _ h => by simp at h, List.Pairwise.nil⟩
  | x :: l, m, h => by
    unfold chk at h
    by_cases hx : x < 0
    · rw [if_pos hx] at h
      have ⟨i1, i2⟩ := chk_law l m h
      exact ⟨fun y hy h0 => by rcases List.mem_cons.1 hy with rfl | hy; omega; exact i1 y hy h0, List.Pairwise.cons (fun y hy e => hx) i2⟩
    · rw [if_neg hx, Bool.and_eq_true] at h
      have ⟨i1, i2⟩ := chk_law l _ h.2
      refine ⟨fun y hy h0 => ?_, List.Pairwise.cons (fun y hy e => ?_) i2⟩
      · rcases List.mem_cons.1 hy with rfl | hy
        · simpa using h.1
        · have := i1 y hy h0
          rw [Nat.testBit_or, Bool.or_eq_false_iff] at this
          exact this.1
      · subst e
        have := i1 x hy (by omega)
        rw [Nat.testBit_or, Bool.or_eq_false_iff] at this
        have h2 := this.2
        rw [Nat.testBit_shiftLeft] at h2
        simp at h2
theorem one_once_dec : (List.range 7).all (fun e => chk ((List.range 256).map fun b : Nat => oneI (e : Int) (b : Int)) 0) = true := by decide +kernel
theorem one_once {enc : Int} {b c : Nat} (h0 : 0 ≤ enc) (h6 : enc ≤ 6) (hbc : b < c) (hc : c < 256) (e : oneI enc (b : Int) = oneI enc (c : Int)) : oneI enc (b : Int) < 0 := by
  have h := one_once_dec
  rw [List.all_eq_true] at h
  have h := (chk_law _ _ (h enc.toNat (List.mem_range.2 (by omega)))).2
  rw [Int.toNat_of_nonneg h0, List.pairwise_iff_getElem] at h
  have := h b c (by simp; omega) (by simpa using hc) hbc
  simp at this
  exact this e
theorem first_one {enc b : Int} (h0 : 0 ≤ enc) (h6 : enc ≤ 6) (hb : 0 ≤ b) (hb2 : b < 256) (h : 0 ≤ oneI enc b) : firstB enc (oneI enc b) = some b := by
  obtain ⟨n, rfl⟩ := Int.eq_ofNat_of_zero_le hb
  exact firstB_of (by omega) rfl fun j hj e => by
    have := one_once h0 h6 hj (by omega) e
    omega
/-- what is read is a character, whose bytes stand there; or no character -/
theorem next_back {enc : Int} {s : ByteArray} {p : Nat} (h0 : 0 ≤ enc) (h8 : enc ≤ 8) (hp : p < s.size) :
    (∃ r l, nextC enc s p = (r, (l.length : Int)) ∧ 0 ≤ r ∧ encC enc r = some l ∧ Stands s p l) ∨ (nextC enc s p = (-1, 1) ∧ encC enc (-1) = none) := by
  have hm : encC enc (-1) = none := by unfold encC; rw [if_neg (by decide)]
  have hone : ∀ b, b = B s p → enc ≤ 6 → nextC enc s p = (oneI enc b, 1) → (∃ r l, nextC enc s p = (r, (l.length : Int)) ∧ 0 ≤ r ∧ encC enc r = some l ∧ Stands s p l) ∨ (nextC enc s p = (-1, 1) ∧ encC enc (-1) = none) := by
    intro b hb h6 hn
    obtain ⟨b0, b1⟩ := B_range s p
    rcases one_char (enc := enc) (b := b) h0 h6 (by omega) (by omega) with h | h
    · right; rw [hn, h]; exact ⟨rfl, hm⟩
    · left
      have hr := isC_true h
      refine ⟨oneI enc b, [b], hn, hr.1, encC_first h h6 (first_one h0 h6 (by omega) (by omega) hr.1), by simp; omega, fun i hi => ?_⟩
      have : i = 0 := by simpa using hi
      subst this
      simp [hb]
  by_cases h7 : 7 ≤ enc
  · by_cases hz : (nxt s p).2 = 0
    · right
      rw [nextC_utf h7 h8 hp, if_neg (by omega)]
      exact ⟨rfl, hm⟩
    · left
      have hq := nxt_pos hp hz
      obtain ⟨hc, h2, h3⟩ := nxt_sound hp hz
      refine ⟨(nxt s p).1, encI (nxt s p).1, ?_, (isC_true hc).1, ?_, h3⟩
      · rw [nextC_utf h7 h8 hp, if_pos (by omega), encI_len, ← h2]
      · unfold encC; rw [if_pos hc, if_pos h7]
  by_cases h6 : enc = 6
  · subst h6
    have e := nextC_six hp
    by_cases ht : p + 1 < s.size ∧ 0 ≤ twoI (B s p) (B s (p + 1))
    · rw [if_pos ht] at e
      left
      have hpr := two_pair rfl ht.2
      have hpt := pair_two hpr
      have hc : isC (twoI (B s p) (B s (p + 1))) = true := by
        rcases two_cases (B s p) (B s (p + 1)) with ⟨x, hx, hh, h2⟩ | ⟨_, h2⟩
        · rw [h2]
          have h3 := List.all_eq_true.1 (show (RT.all fun x => decide (x.2.2.2 + (x.2.2.1 - x.2.1) < 55296 ∨ 57343 < x.2.2.2)) = true by decide +kernel) x hx
          have h3 := of_decide_eq_true h3
          have h4 := (RT_of hx).1
          unfold hitB at hh
          exact isC_of (by omega)
        · omega
      refine ⟨_, [B s p, B s (p + 1)], e, ht.2, ?_, by simp; omega, fun i hi => ?_⟩
      · rw [encC_kana hc]
        unfold encK
        rw [if_neg (by omega), if_neg (by omega), hpr]
        rfl
      · have : i = 0 ∨ i = 1 := by simp at hi; omega
        rcases this with rfl | rfl <;> simp
    · rw [if_neg ht] at e
      exact hone _ rfl (by omega) e
  · exact hone _ rfl (by omega) (nextC_one h0 (by omega) hp)
end Go.Proofs.YtpmlggjhfiljmaaGreatDoor
/- charset.Pieces. -/
namespace Go.Proofs.YtpmlggjhfiljmaaGreatDoor
open Go.RowKit
set_option linter.unusedVariables false
def pc (x : Int × Int) : List Value := [.int .i32 x.1, .int .i64 x.2]
def pcs (xs : List (Int × Int)) : List Value := xs.flatMap pc
theorem pcs_get : ∀ (xs : List (Int × Int)) (k : Nat) (hk : k < xs.length) (j : Nat), j < 2 → (pcs xs)[k * 2 + j]? = (pc xs[k])[j]?
  | [], k, hk, _, _ => by simp at hk
  | x :: l, 0, _, j, hj => by
    unfold pcs
    rw [List.flatMap_cons, List.getElem?_append_left (by simp [pc]; omega)]
    simp
  | x :: l, k + 1, hk, j, hj => by
    have ih := pcs_get l k (by simpa using hk) j hj
    unfold pcs at *
    rw [List.flatMap_cons, List.getElem?_append_right (by simp [pc]; omega)]
    have : (k + 1) * 2 + j - (pc x).length = k * 2 + j := by simp [pc]; omega
    rw [this, ih]
    simp
/-- a slice of pieces of the call's own -/
def OwnP (w : World) (B : Nat) (v : Value) (xs : List (Int × Int)) : Prop := w.ownsRow B 119 2 v xs.length (pcs xs)
theorem OwnP.nil (w : World) (B : Nat) : OwnP w B (.slice none 0 0) [] := World.ownsRow_nil _ _ _ _
theorem OwnP.keep {w w' : World} {B : Nat} {v : Value} {xs : List (Int × Int)} (h : OwnP w B v xs) (hf : Fresh w w') : OwnP w' B v xs := by
  refine World.ownsRow.kept (row := none) h ⟨hf.os, hf.tape, hf.output, hf.size, fun k hk _ => hf.block k hk⟩ ?_
  cases hv : v.ownBlock with
  | none => exact .inl rfl
  | some k => exact .inr (by simp)
theorem OwnP.push {w' : World} {B : Nat} {v' : Value} {acc : List (Int × Int)} {x : Int × Int} (h : w'.ownsRow B 119 2 v' (acc.length + 1) (pcs acc ++ [.int .i32 x.1, .int .i64 x.2])) : OwnP w' B v' (acc ++ [x]) := by
  unfold OwnP
  have : pcs (acc ++ [x]) = pcs acc ++ [.int .i32 x.1, .int .i64 x.2] := by unfold pcs; rw [List.flatMap_append]; simp [pc]
  rw [this]
  simpa using h
theorem OwnP.fresh {w w1 w' : World} {v : Value} {o : Obj} {e : TypeId} {n : Nat} {xs : List Value} (hf : Fresh w w1) (ho : w1.ownsRow w.heap.size e 2 v n xs) (hg : (w1.alloc o).grownBy w' v.ownBlock) : Fresh w w' :=
  Below.grown (hf.alloc o) hg (by have := hf.size; simp; omega) (fun k hk => (ho.lt k hk).1)
theorem cell_new2 (w : World) (u v : Value) (t : TypeId) : ∀ (j : Nat) (x : Value), [u, v][j]? = some x → (w.alloc (.cells #[u, v] t)).cell? ((⟨w.heap.size, 0, none⟩ : Addr).add j) = some x := by
  intro j x hj
  match j, hj with
  | 0, hj => simp at hj; subst hj; simp [Addr.add]
  | 1, hj => simp at hj; subst hj; simp [Addr.add]
theorem infoP : (Tryz.prog.info? 119).map (fun i => (i.zero, i.size, i.bytes)) = some (some (.agg #[.int .i32 0, .int .i64 0]), 2, 16) := by kernel_rfl
theorem info_partsP {i : Option TypeInfo} {z : Value} {s b : Nat} (h : i.map (fun i => (i.zero, i.size, i.bytes)) = some (some z, s, b)) : ∃ i0, i = some i0 ∧ i0.zero = some z ∧ i0.size = s ∧ i0.bytes = b := by
  cases i with
  | none => cases h
  | some i0 => simp at h; exact ⟨i0, rfl, h.1, h.2.1, h.2.2⟩
/-- the pieces from a place to another -/
def Chain (enc : Int) (s : ByteArray) : Nat → List (Int × Int) → Nat → Prop
  | p, [], q => p = q
  | p, x :: l, q => p < s.size ∧ nextC enc s p = x ∧ Chain enc s (p + x.2.toNat) l q
theorem Chain.push {enc : Int} {s : ByteArray} : ∀ {xs : List (Int × Int)} {p q : Nat}, Chain enc s p xs q → q < s.size → Chain enc s p (xs ++ [nextC enc s q]) (q + (nextC enc s q).2.toNat)
  | [], p, q, h, hq => by
    have h : p = q := h
    subst h
    exact ⟨hq, rfl, rfl⟩
  | x :: l, p, q, h, hq => ⟨h.1, h.2.1, Chain.push h.2.2 hq⟩
theorem next_step {enc : Int} {s : ByteArray} {p : Nat} (h0 : 0 ≤ enc) (h8 : enc ≤ 8) (hp : p < s.size) : 1 ≤ (nextC enc s p).2 ∧ (nextC enc s p).2 ≤ 4 ∧ (p : Int) + (nextC enc s p).2 ≤ s.size := by
  rcases next_back h0 h8 hp with ⟨r, l, e, _, hl, hs⟩ | ⟨e, _⟩
  · have := encC_bytes hl
    have h2 := hs.1
    rw [e]; simp only; omega
  · rw [e]; simp only; omega
def PcsRel (enc : Int) (s : ByteArray) (w : World) (out at_ : Value) (wr : World) : Prop :=
  ∃ (p : Nat) (acc : List (Int × Int)), at_ = .int .i64 p ∧ p ≤ s.size ∧ acc.length ≤ p ∧ OwnP wr w.heap.size out acc ∧ Fresh w wr ∧ Chain enc s 0 acc p
def PcsPost (enc : Int) (s : ByteArray) (w : World) (e : Ending) (w' : World) : Prop :=
  ∃ v xs, e = .returned v ∧ OwnP w' w.heap.size v xs ∧ Chain enc s 0 xs s.size ∧ xs.length ≤ s.size ∧ Fresh w w'
set_option maxHeartbeats 1600000 in
theorem pieces_any (enc : Int) (s : ByteArray) (h0 : 0 ≤ enc) (h8 : enc ≤ 8) (hs : s.size ≤ 1000000) (w : World) : Calls Tryz.prog 108 #[.int .i64 enc, .string s] w (PcsPost enc s w) := by
  obtain ⟨i0, hi0, hz0, hz1, hz2⟩ := info_partsP infoP
  have HR : Hid (rightB enc = true) := by unfold rightB; exact decide_eq_true ⟨h0, h8⟩
  go_enter Tryz.func108, Tryz.ntmps108
  go_wp2
  go_loopw [5, 6] (fun out at_ wr => PcsRel enc s w out at_ wr) (fun _ at_ _ => s.size - (intOf at_).toNat)
  case atStart => exact ⟨0, [], rfl, Nat.zero_le _, Nat.le_refl _, OwnP.nil _ _, Fresh.refl _, rfl⟩
  case round =>
    obtain ⟨p, acc, rfl, hp, hl, hown, hf, hch⟩ := hrel
    have HA := Lib.hid hch
    clear hch
    by_cases hlt : p < s.size
    · have HC := Lib.hid (HA.out.push hlt)
      obtain ⟨n1, n4, n2⟩ := next_step h0 h8 hlt
      have HN := Lib.hid (chNext_any enc s p (by omega))
      generalize nextC enc s p = x at HC n1 n2 n4 HN
      obtain ⟨r, n⟩ := x
      simp only at n1 n2 n4
      go_wp2_with ((go_at_call 112; refine (right_any _ _).mono ?_; rintro e w1 ⟨rfl, rfl⟩; rw [HR.out]))
      refine (HN.out _).mono ?_
      rintro e w1 ⟨rfl, h1⟩
      have hown1 := hown.keep (h1.alloc (.cells #[.int .i32 r, .int .i64 n] 119))
      unfold OwnP at hown1
      have hf1 := (hf.trans h1).alloc (.cells #[.int .i32 r, .int .i64 n] 119)
      go_wp2_with (at_builtin; refine wpList_append_own _ rfl _ _ 177 rfl w.heap.size 119 i0 (.agg #[.int .i32 0, .int .i64 0]) 2 16 Tryz.underlying177 hi0 hz0 hz1 hz2 rfl (by decide) _ _ _ rfl (hown1.alloc _) ⟨w1.heap.size + 1, 0, none⟩ 1 1 [.int .i32 r, .int .i64 n] rfl rfl ?c1 ?c2 ?c3 ?c4 ?c5 ?_)
      case c1 =>
        have := cell_new2 (w1.alloc (.cells #[.int .i32 r, .int .i64 n] 119)) (.int .i32 r) (.int .i64 n) 119
        simpa using this
      case c2 => intro u hu; simp at hu; rcases hu with rfl | rfl <;> rfl
      case c3 => unfold maxLen; omega
      case c4 => omega
      case c5 => have := hf1.size; simp at this ⊢; omega
      intro v' w' hown' hgrow _
      have hb : Blk w' w1.heap.size 119 #[.int .i32 r, .int .i64 n] := by
        have hb0 := Blk.new w1 119 #[.int .i32 r, .int .i64 n]
        have hb1 := hb0.keep ((Fresh.refl _).alloc (.cells #[.int .i32 r, .int .i64 n] 119))
        refine (hgrow.block _ (by simp; omega) ?_).trans hb1
        intro e
        have := ((hown.keep h1).lt _ e.symm).2
        omega
      obtain ⟨c0, c1, _, _, l⟩ := piece_facts hb (Fresh.refl _)
      have hn' := OwnP.push (x := (r, n)) hown'
      have hf' := OwnP.fresh hf1 hown1 hgrow
      clear hown' hgrow hown1 hown hb
      go_wp2
      go_roundw
      case rel => exact ⟨p + n.toNat, acc ++ [(r, n)], by rw [Int.natCast_add, Int.toNat_of_nonneg (by omega)], by omega, by simp; omega, hn', hf', HC.out⟩
      case measure => simp [intOf]; omega
    · have hps : p = s.size := by omega
      go_wp2
      go_ret
      exact ⟨_, _, rfl, hown, by rw [← hps]; exact HA.out, by omega, hf⟩
theorem OwnP.sl {w : World} {B : Nat} {v : Value} {xs : List (Int × Int)} (h : OwnP w B v xs) :
    (xs = [] ∧ ∃ a cap, v = .slice a 0 cap) ∨ (0 < xs.length ∧ ∃ g cap, v = .slice (some ⟨g, 0, none⟩) xs.length cap ∧ g < w.heap.size ∧
      ∀ j (hj : j < xs.length), w.cell? ⟨g, j * 2, none⟩ = some (.int .i32 (xs[j]).1) ∧ w.cell? ⟨g, j * 2 + 1, none⟩ = some (.int .i64 (xs[j]).2)) := by
  have h0 := h
  obtain ⟨h1, h2 | ⟨g, cap, cur, hv, hb, hh, h3⟩⟩ := h
  · obtain ⟨hv, hn⟩ := h2
    have : xs = [] := List.eq_nil_of_length_eq_zero hn
    subst this
    exact .inl ⟨rfl, none, 0, hv⟩
  · by_cases hz : 0 < xs.length
    · refine .inr ⟨hz, g, cap, hv, ?_, fun j hj => ?_⟩
      · rcases Nat.lt_or_ge g w.heap.size with q | q
        · exact q
        · rw [Array.getElem?_eq_none q] at hh; cases hh
      · subst hv
        have e0 := World.ownsRow.cellAt h0 (j * 2) (by omega)
        have e1 := World.ownsRow.cellAt h0 (j * 2 + 1) (by omega)
        have g0 := pcs_get xs j hj 0 (by omega)
        have g1 := pcs_get xs j hj 1 (by omega)
        rw [show j * 2 + 0 = j * 2 by omega] at g0
        rw [e0, g0, e1, g1]
        exact ⟨rfl, rfl⟩
    · have : xs = [] := List.eq_nil_of_length_eq_zero (by omega)
      subst this
      exact .inl ⟨rfl, _, cap, hv⟩
theorem Chain.more {enc : Int} {s : ByteArray} {xs : List (Int × Int)} {p k : Nat} (h : Chain enc s p (xs.drop k) s.size) (hk : k < xs.length) : p < s.size ∧ nextC enc s p = xs[k] ∧ Chain enc s (p + (xs[k]).2.toNat) (xs.drop (k + 1)) s.size := by
  rw [List.drop_eq_getElem_cons hk] at h
  exact h
theorem Chain.done {enc : Int} {s : ByteArray} {xs : List (Int × Int)} {p k : Nat} (h : Chain enc s p (xs.drop k) s.size) (hk : ¬ k < xs.length) : p = s.size := by
  rw [List.drop_eq_nil_of_le (by omega)] at h
  exact h
end Go.Proofs.YtpmlggjhfiljmaaGreatDoor
