/- Plain facts of layer 1: no character's bytes begin with another one's. -/
import Derived.Test.YtmfmnlioojkjgaaUtfP
import Derived.Laws.Strings
import Derived.Lib.Split
namespace Go.Proofs.Ytmfmnlioojkjgaa
open Go.RowKit

theorem encI_range {r : Int} (hc : isC r = true) : ∀ x ∈ encI r, 0 ≤ x ∧ x < 256 := by
  have h := isC_true hc
  intro x hx
  unfold encI at hx
  by_cases h1 : r < 128
  · rw [if_pos h1] at hx; simp at hx; omega
  rw [if_neg h1] at hx
  by_cases h2 : r < 2048
  · rw [if_pos h2] at hx; simp at hx; omega
  rw [if_neg h2] at hx
  by_cases h3 : r < 65536
  · rw [if_pos h3] at hx; simp at hx; omega
  rw [if_neg h3] at hx; simp at hx; omega

def bytesOf (xs : List Int) : List UInt8 := xs.map fun n => UInt8.ofNat n.toNat
theorem byte_inj {x y : Int} (hx : 0 ≤ x ∧ x < 256) (hy : 0 ≤ y ∧ y < 256) (h : UInt8.ofNat x.toNat = UInt8.ofNat y.toNat) : x = y := by
  have := congrArg UInt8.toNat h
  simp [UInt8.toNat_ofNat'] at this
  omega
theorem bytesOf_inj : ∀ {xs ys : List Int}, (∀ x ∈ xs, 0 ≤ x ∧ x < 256) → (∀ x ∈ ys, 0 ≤ x ∧ x < 256) → bytesOf xs = bytesOf ys → xs = ys
  | [], [], _, _, _ => rfl
  | [], _ :: _, _, _, h => by simp [bytesOf] at h
  | _ :: _, [], _, _, h => by simp [bytesOf] at h
  | x :: xs, y :: ys, hx, hy, h => by
    simp only [bytesOf, List.map_cons, List.cons.injEq] at h
    have e := byte_inj (hx x (by simp)) (hy y (by simp)) h.1
    have t := bytesOf_inj (fun z hz => hx z (by simp [hz])) (fun z hz => hy z (by simp [hz])) h.2
    rw [e, t]
theorem encS_list {r : Int} (hc : isC r = true) : (encS r).toList = bytesOf (encI r) := by
  unfold encS; rw [if_pos hc, ByteArray.toList_eq]; rfl
theorem encS_none {r : Int} (hc : isC r = false) : encS r = ByteArray.empty := by unfold encS; rw [hc]; rfl
theorem encS_nil {r : Int} (h : (encS r).toList ≠ []) : isC r = true := by
  cases hc : isC r with
  | true => rfl
  | false => rw [encS_none hc] at h; exact absurd (by decide +kernel) h
theorem take_map {f : Int → UInt8} (xs : List Int) (n : Nat) : (xs.map f).take n = (xs.take n).map f := by simp
theorem encS_size {r : Int} (hc : isC r = true) : (encS r).size = (encI r).length := by
  unfold encS; rw [if_pos hc]; exact strOfNums_size _

theorem encI_first {a b : Int} (ha : isC a = true) (hb : isC b = true) (h : (encI b).take (encI a).length = encI a) : a = b := by
  have pa := isC_true ha
  have pb := isC_true hb
  unfold encI at h
  by_cases a1 : a < 128
  · simp only [if_pos a1] at h
    by_cases b1 : b < 128
    · simp [if_pos b1] at h; omega
    simp only [if_neg b1] at h
    by_cases b2 : b < 2048
    · simp [if_pos b2] at h; omega
    simp only [if_neg b2] at h
    by_cases b3 : b < 65536
    · simp [if_pos b3] at h; omega
    simp [if_neg b3] at h; omega
  simp only [if_neg a1] at h
  by_cases a2 : a < 2048
  · simp only [if_pos a2] at h
    by_cases b1 : b < 128
    · simp [if_pos b1] at h
    simp only [if_neg b1] at h
    by_cases b2 : b < 2048
    · simp [if_pos b2] at h; omega
    simp only [if_neg b2] at h
    by_cases b3 : b < 65536
    · simp [if_pos b3] at h; omega
    simp [if_neg b3] at h; omega
  simp only [if_neg a2] at h
  by_cases a3 : a < 65536
  · simp only [if_pos a3] at h
    by_cases b1 : b < 128
    · simp [if_pos b1] at h
    simp only [if_neg b1] at h
    by_cases b2 : b < 2048
    · simp [if_pos b2] at h
    simp only [if_neg b2] at h
    by_cases b3 : b < 65536
    · simp [if_pos b3] at h; omega
    simp [if_neg b3] at h; omega
  simp only [if_neg a3] at h
  by_cases b1 : b < 128
  · simp [if_pos b1] at h
  simp only [if_neg b1] at h
  by_cases b2 : b < 2048
  · simp [if_pos b2] at h
  simp only [if_neg b2] at h
  by_cases b3 : b < 65536
  · simp [if_pos b3] at h
  simp [if_neg b3] at h; omega

theorem first_pure {a b : Int} (hne : ¬ a = b) (h1 : ¬ (encS a).toList = []) (h2 : (encS a).size ≤ (encS b).size) :
    ((encS b).extract 0 (encS a).size).toList ≠ (encS a).toList := by
  intro h
  have ha := encS_nil h1
  have hb : isC b = true := by
    cases hc : isC b with
    | true => rfl
    | false =>
      exfalso
      rw [encS_none hc, encS_size ha] at h2
      apply h1
      rw [encS_list ha]
      have : (encI a).length = 0 := by have : ByteArray.empty.size = 0 := rfl; omega
      rw [List.eq_nil_of_length_eq_zero this]; rfl
  rw [ByteArray.toList_eq, Lib.extract_from_zero, ← ByteArray.toList_eq, encS_list hb, encS_list ha, encS_size ha] at h
  unfold bytesOf at h
  rw [take_map] at h
  exact hne (encI_first ha hb (bytesOf_inj (fun x hx => encI_range hb x (List.mem_of_mem_take hx)) (encI_range ha) h))
end Go.Proofs.Ytmfmnlioojkjgaa
