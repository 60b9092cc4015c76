/- Plain words: all characters of a string; the bytes of a list of numbers. -/
import Derived.Test.YtmfmnlioojkjgaaUtfE
import Derived.Laws.AppendOwn
namespace Go.Proofs.Ytmfmnlioojkjgaa
open Go.RowKit
set_option linter.unusedVariables false

theorem nxt_pos {s : ByteArray} {p : Nat} (hp : p < s.size) (h : (nxt s p).2 ≠ 0) : 1 ≤ (nxt s p).2 ∧ (nxt s p).2 ≤ 4 ∧ (p : Int) + (nxt s p).2 ≤ s.size := by
  obtain ⟨h1, h2, h3, _⟩ := nxt_sound hp h
  have := encI_len (nxt s p).1
  rcases szI_cases (nxt s p).1 with q | q | q | q <;> omega

/-- all characters from a place on, with so many steps -/
def decN (s : ByteArray) : Nat → Nat → Option (List Int)
  | 0, p => if s.size ≤ p then some [] else none
  | f + 1, p => if s.size ≤ p then some [] else if (nxt s p).2 = 0 then none else (decN s f (p + (nxt s p).2.toNat)).map ((nxt s p).1 :: ·)
theorem decN_more (s : ByteArray) : ∀ (f p g : Nat), s.size - p ≤ f → s.size - p ≤ g → decN s f p = decN s g p := by
  intro f
  induction f with
  | zero =>
    intro p g h1 h2
    have : s.size ≤ p := by omega
    cases g <;> simp [decN, this]
  | succ f ih =>
    intro p g h1 h2
    cases g with
    | zero =>
      have : s.size ≤ p := by omega
      simp [decN, this]
    | succ g =>
      simp only [decN]
      by_cases hp : s.size ≤ p
      · simp [hp]
      · rw [if_neg hp, if_neg hp]
        by_cases h0 : (nxt s p).2 = 0
        · simp [h0]
        · rw [if_neg h0, if_neg h0]
          have := nxt_pos (by omega) h0
          rw [ih (p + (nxt s p).2.toNat) g (by omega) (by omega)]
def allFrom (s : ByteArray) (p : Nat) : Option (List Int) := decN s (s.size - p) p
theorem allFrom_end {s : ByteArray} {p : Nat} (h : s.size ≤ p) : allFrom s p = some [] := by
  unfold allFrom
  cases hn : s.size - p <;> simp [decN, h]
theorem allFrom_no {s : ByteArray} {p : Nat} (h : p < s.size) (h0 : (nxt s p).2 = 0) : allFrom s p = none := by
  unfold allFrom
  obtain ⟨n, hn⟩ : ∃ n, s.size - p = n + 1 := ⟨s.size - p - 1, by omega⟩
  rw [hn]
  simp [decN, h0, Nat.not_le.2 h]
theorem allFrom_yes {s : ByteArray} {p : Nat} (h : p < s.size) (h0 : (nxt s p).2 ≠ 0) : allFrom s p = (allFrom s (p + (nxt s p).2.toNat)).map ((nxt s p).1 :: ·) := by
  have hp := nxt_pos h h0
  unfold allFrom
  obtain ⟨n, hn⟩ : ∃ n, s.size - p = n + 1 := ⟨s.size - p - 1, by omega⟩
  rw [hn]
  simp only [decN]
  rw [if_neg (Nat.not_le.2 h), if_neg h0, decN_more s n _ (s.size - (p + (nxt s p).2.toNat)) (by omega) (by omega)]

/-- the bytes of those that are characters, one behind the other -/
def joinS : List Int → ByteArray
  | [] => ByteArray.empty
  | r :: l => encS r ++ joinS l
theorem joinS_append : ∀ (a b : List Int), joinS (a ++ b) = joinS a ++ joinS b
  | [], b => by simp [joinS]
  | r :: a, b => by simp [joinS, joinS_append a b, ByteArray.append_assoc]
theorem joinS_one (r : Int) : joinS [r] = encS r := by simp [joinS]
theorem encS_small (r : Int) : (encS r).size ≤ 4 := by
  cases hc : isC r with
  | true => have := size_enc hc; rcases szI_cases r with h | h | h | h <;> omega
  | false => rw [encS_none hc]; exact Nat.zero_le _
theorem joinS_size : ∀ l : List Int, (joinS l).size ≤ 4 * l.length
  | [] => Nat.le_refl _
  | r :: l => by
    have := encS_small r
    have := joinS_size l
    simp only [joinS, ByteArray.size_append, List.length_cons]
    omega

theorem B_append_left (a b : ByteArray) (i : Nat) (h : i < a.size) : B (a ++ b) i = B a i := by
  unfold B
  have hl : i < a.data.toList.length := by simpa using h
  have : (a ++ b).data.toList = a.data.toList ++ b.data.toList := by rw [ByteArray.data_append, Array.toList_append]
  rw [this, List.getD_eq_getElem?_getD, List.getD_eq_getElem?_getD, List.getElem?_append_left hl]
theorem B_append_right (a b : ByteArray) (i : Nat) : B (a ++ b) (a.size + i) = B b i := by
  unfold B
  have : (a ++ b).data.toList = a.data.toList ++ b.data.toList := by rw [ByteArray.data_append, Array.toList_append]
  have hl : a.data.toList.length = a.size := by simp
  rw [this, List.getD_eq_getElem?_getD, List.getD_eq_getElem?_getD, List.getElem?_append_right (by omega), show a.size + i - a.data.toList.length = i from by omega]

/-- what is joined is read again -/
theorem all_join_from : ∀ (l : List Int) (a : ByteArray), allFrom (a ++ joinS l) a.size = some (l.filter isC)
  | [], a => by
    rw [allFrom_end]
    · rfl
    · simp [joinS]
  | r :: l, a => by
    cases hc : isC r with
    | false =>
      rw [List.filter_cons_of_neg (by simp [hc]), joinS, encS_none hc, ByteArray.empty_append]
      exact all_join_from l a
    | true =>
      rw [List.filter_cons_of_pos hc, joinS]
      have hsz := size_enc hc
      have hat : At (a ++ (encS r ++ joinS l)) a.size r := by
        have := At_enc hc
        refine ⟨by rw [← encS_size hc]; simp only [ByteArray.size_append]; omega, fun i hi => ?_⟩
        rw [B_append_right, B_append_left _ _ _ (by rw [encS_size hc]; exact hi), ← this.2 i hi, show 0 + i = i from by omega]
      have hn := nxt_of hc hat
      have h1 : (nxt (a ++ (encS r ++ joinS l)) a.size).2 ≠ 0 := by rw [hn]; rcases szI_cases r with q | q | q | q <;> (simp only; omega)
      rw [allFrom_yes (by simp only [ByteArray.size_append]; rcases szI_cases r with q | q | q | q <;> omega) h1, hn]
      simp only
      have h2 : a.size + (szI r).toNat = (a ++ encS r).size := by simp only [ByteArray.size_append]; omega
      rw [h2, ← ByteArray.append_assoc, all_join_from l (a ++ encS r)]
      rfl
theorem all_join (l : List Int) : allFrom (joinS l) 0 = some (l.filter isC) := by
  have := all_join_from l ByteArray.empty
  rwa [ByteArray.empty_append] at this

theorem extract_of_at {s : ByteArray} {p : Nat} {r : Int} (hc : isC r = true) (h : At s p r) : s.extract p (p + (szI r).toNat) = encS r := by
  obtain ⟨hl, hb⟩ := h
  have hz := encI_len r
  have e1 : (szI r).toNat = (encI r).length := by omega
  apply ByteArray.ext
  apply Array.toList_inj.1
  have e4 : (encS r).data.toList = bytesOf (encI r) := by rw [← ByteArray.toList_eq, encS_list hc]
  rw [e4, e1]
  apply List.ext_getElem
  · have := extract_size s p (p + (encI r).length) hl
    have e2 : (s.extract p (p + (encI r).length)).data.toList.length = (s.extract p (p + (encI r).length)).size := rfl
    have e3 : (bytesOf (encI r)).length = (encI r).length := by simp [bytesOf]
    rw [e2, this, e3]; omega
  · intro i h1 h2
    have hi : i < (encI r).length := by simpa [bytesOf] using h2
    have g1 := getD_bytesOf (encI r) (encI_range hc) i hi
    have g2 := hb i hi
    have g3 := B_extract s p (p + (encI r).length) i hl (by omega)
    rw [← g2, ← g3] at g1
    rw [List.getD_eq_getElem?_getD, List.getD_eq_getElem?_getD, List.getElem?_eq_getElem h1, List.getElem?_eq_getElem h2] at g1
    simp only [Option.getD_some] at g1
    apply UInt8.toNat_inj.1
    omega
theorem join_all_from (s : ByteArray) : ∀ (f p : Nat) (l : List Int), s.size - p ≤ f → p ≤ s.size → allFrom s p = some l → joinS l = s.extract p s.size := by
  intro f
  induction f with
  | zero =>
    intro p l hf hp h
    have : s.size = p := by omega
    rw [allFrom_end (by omega)] at h
    obtain rfl : [] = l := by simpa using h
    rw [this]; simp [joinS]
  | succ f ih =>
    intro p l hf hp h
    by_cases he : s.size ≤ p
    · rw [allFrom_end he] at h
      obtain rfl : [] = l := by simpa using h
      have : s.size = p := by omega
      rw [this]; simp [joinS]
    · by_cases h0 : (nxt s p).2 = 0
      · rw [allFrom_no (by omega) h0] at h; cases h
      · have hq := nxt_pos (by omega) h0
        obtain ⟨hc, hz, hat⟩ := nxt_sound (by omega) h0
        rw [allFrom_yes (by omega) h0] at h
        cases ht : allFrom s (p + (nxt s p).2.toNat) with
        | none => rw [ht] at h; cases h
        | some t =>
          rw [ht] at h
          simp only [Option.map_some, Option.some.injEq] at h
          subst h
          have hj := ih (p + (nxt s p).2.toNat) t (by omega) (by omega) ht
          have e := extract_of_at hc hat
          rw [← hz] at e
          show encS (nxt s p).1 ++ joinS t = _
          rw [hj]
          have hq2 : p + (nxt s p).2.toNat ≤ s.size := by omega
          generalize (nxt s p).2.toNat = k at e hq2
          generalize encS (nxt s p).1 = x at e
          subst e
          rw [ByteArray.extract_append_extract, Nat.min_eq_left (by omega), Nat.max_eq_right (by omega)]
theorem join_all {s : ByteArray} {l : List Int} (h : allFrom s 0 = some l) : joinS l = s := by
  have := join_all_from s s.size 0 l (by omega) (by omega) h
  rw [this]; simp
theorem all_len (s : ByteArray) : ∀ (f p : Nat) (l : List Int), s.size - p ≤ f → allFrom s p = some l → l.length ≤ s.size - p := by
  intro f
  induction f with
  | zero =>
    intro p l hf h
    rw [allFrom_end (by omega)] at h
    obtain rfl : [] = l := by simpa using h
    simp
  | succ f ih =>
    intro p l hf h
    by_cases he : s.size ≤ p
    · rw [allFrom_end he] at h
      obtain rfl : [] = l := by simpa using h
      simp
    · by_cases h0 : (nxt s p).2 = 0
      · rw [allFrom_no (by omega) h0] at h; cases h
      · have hq := nxt_pos (by omega) h0
        rw [allFrom_yes (by omega) h0] at h
        cases ht : allFrom s (p + (nxt s p).2.toNat) with
        | none => rw [ht] at h; cases h
        | some t =>
          rw [ht] at h
          simp only [Option.map_some, Option.some.injEq] at h
          subst h
          have := ih (p + (nxt s p).2.toNat) t (by omega) ht
          simp only [List.length_cons]
          omega
end Go.Proofs.Ytmfmnlioojkjgaa
