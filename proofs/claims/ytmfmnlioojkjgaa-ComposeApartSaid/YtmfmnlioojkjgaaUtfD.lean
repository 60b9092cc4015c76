/- utf.Next: the walks, by how many bytes the first one says. -/
import Derived.Test.YtmfmnlioojkjgaaUtfB
import Derived.Lib.ConvBytes
namespace Go.Proofs.Ytmfmnlioojkjgaa
open Go.RowKit
set_option linter.unusedVariables false

theorem empty_of {t : ByteArray} (h : t.size = 0) : t = ByteArray.empty := by
  apply ByteArray.ext; exact Array.eq_empty_of_size_eq_zero h
def ct (c : Int) : Bool := (bits .andNot .u8 c 63 != 128) == false
theorem ct_no {c : Int} (h : (bits .andNot .u8 c 63 != 128) = true) : ct c = false := by unfold ct; rw [h]; rfl
theorem ct_yes {c : Int} (h : (bits .andNot .u8 c 63 != 128) = false) : ct c = true := by unfold ct; rw [h]; rfl
def finN (r n : Int) : Int × Int := if (isC r && szI r == n) = true then (r, n) else (0, 0)
theorem ret_two {a b : Int × Int} (h : a = b) : Ending.returned (.tuple #[.int .i32 a.1, .int .i64 a.2]) = .returned (.tuple #[.int .i32 b.1, .int .i64 b.2]) := by rw [h]
theorem fin_no1 {r n : Int} (h : ¬isC r = true) : finN r n = (0, 0) := by unfold finN; rw [if_neg]; simp [h]
theorem fin_no2 {r n : Int} (h : (szI r != n) = true) : finN r n = (0, 0) := by
  unfold finN; rw [if_neg]; simp at h; simp [h]
theorem fin_yes {r n : Int} (h1 : isC r = true) (h2 : (szI r != n) = false) : finN r n = (r, n) := by
  unfold finN; rw [if_pos]; simp at h2; simp [h1, h2]


/-- what comes of 1 bytes -/
def nx1 (c0  : Int) : Int × Int := if (true) = true then finN c0 1 else (0, 0)


/-- what comes of 2 bytes -/
def nx2 (c1 r1 : Int) : Int × Int := if (true && ct c1) = true then finN r1 2 else (0, 0)


/-- what comes of 3 bytes -/
def nx3 (c1 c2 r1 r2 : Int) : Int × Int := if (true && ct c1 && ct c2) = true then finN r2 3 else (0, 0)


/-- what comes of 4 bytes -/
def nx4 (c1 c2 c3 r1 r2 r3 : Int) : Int × Int := if (true && ct c1 && ct c2 && ct c3) = true then finN r3 4 else (0, 0)


/-- the i-th byte of a string -/
def B (s : ByteArray) (i : Nat) : Int := ((s.data.toList.getD i 0).toNat : Int)
theorem B_range (s : ByteArray) (i : Nat) : 0 ≤ B s i ∧ B s i < 256 := by unfold B; have := (s.data.toList.getD i 0).toNat_lt; omega
theorem B_at (s : ByteArray) (p : Nat) (h : p < s.size) : ((s[p]'h).toNat : Int) = B s p := by
  unfold B
  have : s.data.toList.getD p 0 = s[p]'h := by
    have hl : p < s.data.toList.length := by simpa using h
    rw [List.getD_eq_getElem?_getD, List.getElem?_eq_getElem hl]; rfl
  rw [this]
theorem B_extract (s : ByteArray) (a b j : Nat) (hb : b ≤ s.size) (hj : a + j < b) : (((s.extract a b).data.toList.getD j 0).toNat : Int) = B s (a + j) := by
  unfold B
  have : (s.extract a b).data.toList.getD j 0 = s.data.toList.getD (a + j) 0 := by
    rw [List.getD_eq_getElem?_getD, List.getD_eq_getElem?_getD, ByteArray.data_extract, Array.toList_extract, List.extract_eq_take_drop, List.getElem?_take, if_pos (by omega), List.getElem?_drop]
  rw [this]
theorem extract_size (s : ByteArray) (a b : Nat) (hb : b ≤ s.size) : (s.extract a b).size = b - a := by
  rw [ByteArray.size_extract]; omega

/-- the character whose bytes stand at a place; (0, 0): none's do -/
def nxt (s : ByteArray) (p : Nat) : Int × Int :=
  let c0 := B s p; let c1 := B s (p + 1); let c2 := B s (p + 2); let c3 := B s (p + 3)
  if c0 < 128 then (c0, 1)
  else if 192 ≤ c0 ∧ c0 < 224 ∧ p + 2 ≤ s.size then nx2 c1 (c0 % 32 * 64 + c1 % 64)
  else if 224 ≤ c0 ∧ c0 < 240 ∧ p + 3 ≤ s.size then nx3 c1 c2 (c0 % 16 * 64 + c1 % 64) ((c0 % 16 * 64 + c1 % 64) * 64 + c2 % 64)
  else if 240 ≤ c0 ∧ c0 < 248 ∧ p + 4 ≤ s.size then nx4 c1 c2 c3 (c0 % 8 * 64 + c1 % 64) ((c0 % 8 * 64 + c1 % 64) * 64 + c2 % 64) (((c0 % 8 * 64 + c1 % 64) * 64 + c2 % 64) * 64 + c3 % 64)
  else (0, 0)
def nextI (s : ByteArray) (i : Int) : Int × Int := if 0 ≤ i ∧ i < (s.size : Int) then nxt s i.toNat else (0, 0)
theorem nx1_is {c : Int} (h0 : 0 ≤ c) (h1 : c < 128) : nx1 c = (c, 1) := by
  unfold nx1; rw [if_pos rfl]; refine fin_yes ?_ ?_
  · unfold isC; simp; omega
  · unfold szI; rw [if_pos h1]; rfl
theorem or6 {x y : Int} (h0 : 0 ≤ x) (h1 : x < 33554432) (hy : 0 ≤ y ∧ y < 256) : bits .or .i32 (x * 64) (y % 64) = x * 64 + y % 64 :=
  i32_or6 _ _ (by omega) (by omega) (by omega) (by omega) (by omega)


end Go.Proofs.Ytmfmnlioojkjgaa
