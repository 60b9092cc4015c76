/- Contracts that the law rests on, part 3 of 50 (UtfQ, UtfE). Each states its own conditions. -/
import Derived.Laws.Strings
import Derived.Lib.Split
import Derived.Test.YtpmlggjhfiljmaaGreatDoorB01
import Derived.Test.YtpmlggjhfiljmaaGreatDoorB02
/- Plain facts of layer 1: no character's bytes begin with another one's. -/
namespace Go.Proofs.YtpmlggjhfiljmaaGreatDoor
open Go.RowKit

theorem encI_range {r : Int} (hc : isC r = true) : ∀ x ∈ encI r, 0 ≤ x ∧ x < 256 := by
  have h := isC_true hc
  intro x hx
  unfold encI at hx
  by_cases h1 : r < 128
  · rw [if_pos h1] at hx; simp at hx; omega
  rw [if_neg h1] at hx
  by_cases h2 : r < 2048
  · rw [if_pos h2] at hx; simp at hx; omega
  rw [if_neg h2] at hx
  by_cases h3 : r < 65536
  · rw [if_pos h3] at hx; simp at hx; omega
  rw [if_neg h3] at hx; simp at hx; omega

def bytesOf (xs : List Int) : List UInt8 := xs.map fun n => UInt8.ofNat n.toNat
theorem byte_inj {x y : Int} (hx : 0 ≤ x ∧ x < 256) (hy : 0 ≤ y ∧ y < 256) (h : UInt8.ofNat x.toNat = UInt8.ofNat y.toNat) : x = y := by
  have := congrArg UInt8.toNat h
  simp [UInt8.toNat_ofNat'] at this
  omega
theorem bytesOf_inj : ∀ {xs ys : List Int}, (∀ x ∈ xs, 0 ≤ x ∧ x < 256) → (∀ x ∈ ys, 0 ≤ x ∧ x < 256) → bytesOf xs = bytesOf ys → xs = ys
  | [], [], _, _, _ => rfl
  | [], _ :: _, _, _, h => by simp [bytesOf] at h
  | _ :: _, [], _, _, h => by simp [bytesOf] at h
  | x :: xs, y :: ys, hx, hy, h => by
    simp only [bytesOf, List.map_cons, List.cons.injEq] at h
    have e := byte_inj (hx x (by simp)) (hy y (by simp)) h.1
    have t := bytesOf_inj (fun z hz => hx z (by simp [hz])) (fun z hz => hy z (by simp [hz])) h.2
    rw [e, t]
theorem encS_list {r : Int} (hc : isC r = true) : (encS r).toList = bytesOf (encI r) := by
  unfold encS; rw [if_pos hc, ByteArray.toList_eq]; rfl
theorem encS_none {r : Int} (hc : isC r = false) : encS r = ByteArray.empty := by unfold encS; rw [hc]; rfl
theorem encS_nil {r : Int} (h : (encS r).toList ≠ []) : isC r = true := by
  cases hc : isC r with
  | true => rfl
  | false => rw [encS_none hc] at h; exact absurd (by decide +kernel) h
theorem take_map {f : Int → UInt8} (xs : List Int) (n : Nat) : (xs.map f).take n = (xs.take n).map f := by simp
theorem encS_size {r : Int} (hc : isC r = true) : (encS r).size = (encI r).length := by
  unfold encS; rw [if_pos hc]; exact strOfNums_size _

theorem encI_first {a b : Int} (ha : isC a = true) (hb : isC b = true) (h : (encI b).take (encI a).length = encI a) : a = b := by
  have pa := isC_true ha
  have pb := isC_true hb
  unfold encI at h
  by_cases a1 : a < 128
  · simp only [if_pos a1] at h
    by_cases b1 : b < 128
    · simp [if_pos b1] at h; omega
    simp only [if_neg b1] at h
    by_cases b2 : b < 2048
    · simp [if_pos b2] at h; omega
    simp only [if_neg b2] at h
    by_cases b3 : b < 65536
    · simp [if_pos b3] at h; omega
    simp [if_neg b3] at h; omega
  simp only [if_neg a1] at h
  by_cases a2 : a < 2048
  · simp only [if_pos a2] at h
    by_cases b1 : b < 128
    · simp [if_pos b1] at h
    simp only [if_neg b1] at h
    by_cases b2 : b < 2048
    · simp [if_pos b2] at h; omega
    simp only [if_neg b2] at h
    by_cases b3 : b < 65536
    · simp [if_pos b3] at h; omega
    simp [if_neg b3] at h; omega
  simp only [if_neg a2] at h
  by_cases a3 : a < 65536
  · simp only [if_pos a3] at h
    by_cases b1 : b < 128
    · simp [if_pos b1] at h
    simp only [if_neg b1] at h
    by_cases b2 : b < 2048
    · simp [if_pos b2] at h
    simp only [if_neg b2] at h
    by_cases b3 : b < 65536
    · simp [if_pos b3] at h; omega
    simp [if_neg b3] at h; omega
  simp only [if_neg a3] at h
  by_cases b1 : b < 128
  · simp [if_pos b1] at h
  simp only [if_neg b1] at h
  by_cases b2 : b < 2048
  · simp [if_pos b2] at h
  simp only [if_neg b2] at h
  by_cases b3 : b < 65536
  · simp [if_pos b3] at h
  simp [if_neg b3] at h; omega

theorem first_pure {a b : Int} (hne : ¬ a = b) (h1 : ¬ (encS a).toList = []) (h2 : (encS a).size ≤ (encS b).size) :
    ((encS b).extract 0 (encS a).size).toList ≠ (encS a).toList := by
  intro h
  have ha := encS_nil h1
  have hb : isC b = true := by
    cases hc : isC b with
    | true => rfl
    | false =>
      exfalso
      rw [encS_none hc, encS_size ha] at h2
      apply h1
      rw [encS_list ha]
      have : (encI a).length = 0 := by have : ByteArray.empty.size = 0 := rfl; omega
      rw [List.eq_nil_of_length_eq_zero this]; rfl
  rw [ByteArray.toList_eq, Lib.extract_from_zero, ← ByteArray.toList_eq, encS_list hb, encS_list ha, encS_size ha] at h
  unfold bytesOf at h
  rw [take_map] at h
  exact hne (encI_first ha hb (bytesOf_inj (fun x hx => encI_range hb x (List.mem_of_mem_take hx)) (encI_range ha) h))
end Go.Proofs.YtpmlggjhfiljmaaGreatDoor
/- Plain facts on reading a character: what is written is read, what is read was written. -/
namespace Go.Proofs.YtpmlggjhfiljmaaGreatDoor
open Go.RowKit
set_option linter.unusedVariables false

theorem ct_fin : ∀ c : Fin 256, ct (c.val : Int) = decide (128 ≤ c.val ∧ c.val < 192) := by decide +kernel
theorem ct_iff {c : Int} (h : 0 ≤ c ∧ c < 256) : ct c = true ↔ 128 ≤ c ∧ c < 192 := by
  obtain ⟨n, rfl⟩ := Int.eq_ofNat_of_zero_le h.1
  have := ct_fin ⟨n, by omega⟩
  simp only at this
  rw [this, decide_eq_true_eq]
  omega
theorem nx2_iff {c1 r : Int} (h1 : 0 ≤ c1 ∧ c1 < 256) : nx2 c1 r = if (128 ≤ c1 ∧ c1 < 192) ∧ isC r = true ∧ szI r = 2 then (r, 2) else (0, 0) := by
  unfold nx2 finN
  by_cases a : 128 ≤ c1 ∧ c1 < 192
  · have := (ct_iff h1).2 a
    simp [this, a]
  · have : ct c1 = false := by cases h : ct c1 with | false => rfl | true => exact absurd ((ct_iff h1).1 h) a
    simp [this]
    intro b c; omega
theorem nx3_iff {c1 c2 r1 r : Int} (h1 : 0 ≤ c1 ∧ c1 < 256) (h2 : 0 ≤ c2 ∧ c2 < 256) :
    nx3 c1 c2 r1 r = if (128 ≤ c1 ∧ c1 < 192) ∧ (128 ≤ c2 ∧ c2 < 192) ∧ isC r = true ∧ szI r = 3 then (r, 3) else (0, 0) := by
  unfold nx3 finN
  by_cases a : (128 ≤ c1 ∧ c1 < 192) ∧ (128 ≤ c2 ∧ c2 < 192)
  · have := (ct_iff h1).2 a.1
    have := (ct_iff h2).2 a.2
    simp [*]
  · have : (true && ct c1 && ct c2) = false := by
      cases h : (true && ct c1 && ct c2) with
      | false => rfl
      | true => simp at h; exact absurd ⟨(ct_iff h1).1 h.1, (ct_iff h2).1 h.2⟩ a
    rw [this, if_neg (by simp), if_neg (by intro q; exact a ⟨q.1, q.2.1⟩)]
theorem nx4_iff {c1 c2 c3 r1 r2 r : Int} (h1 : 0 ≤ c1 ∧ c1 < 256) (h2 : 0 ≤ c2 ∧ c2 < 256) (h3 : 0 ≤ c3 ∧ c3 < 256) :
    nx4 c1 c2 c3 r1 r2 r = if (128 ≤ c1 ∧ c1 < 192) ∧ (128 ≤ c2 ∧ c2 < 192) ∧ (128 ≤ c3 ∧ c3 < 192) ∧ isC r = true ∧ szI r = 4 then (r, 4) else (0, 0) := by
  unfold nx4 finN
  by_cases a : (128 ≤ c1 ∧ c1 < 192) ∧ (128 ≤ c2 ∧ c2 < 192) ∧ (128 ≤ c3 ∧ c3 < 192)
  · have := (ct_iff h1).2 a.1
    have := (ct_iff h2).2 a.2.1
    have := (ct_iff h3).2 a.2.2
    simp [*]
  · have : (true && ct c1 && ct c2 && ct c3) = false := by
      cases h : (true && ct c1 && ct c2 && ct c3) with
      | false => rfl
      | true => simp at h; exact absurd ⟨(ct_iff h1).1 h.1.1, (ct_iff h2).1 h.1.2, (ct_iff h3).1 h.2⟩ a
    rw [this, if_neg (by simp), if_neg (by intro q; exact a ⟨q.1, q.2.1, q.2.2.1⟩)]

/-- the bytes of r stand at p -/
def At (s : ByteArray) (p : Nat) (r : Int) : Prop := p + (encI r).length ≤ s.size ∧ ∀ i, i < (encI r).length → B s (p + i) = (encI r).getD i 0

theorem isC_of {r : Int} (h : 0 ≤ r ∧ r ≤ 1114111 ∧ (r < 55296 ∨ 57343 < r)) : isC r = true := by unfold isC; simp; omega
theorem szI_cases (r : Int) : (r < 128 ∧ szI r = 1) ∨ (128 ≤ r ∧ r < 2048 ∧ szI r = 2) ∨ (2048 ≤ r ∧ r < 65536 ∧ szI r = 3) ∨ (65536 ≤ r ∧ szI r = 4) := by
  unfold szI; repeat' split
  all_goals omega
theorem encI_len (r : Int) : ((encI r).length : Int) = szI r := by unfold encI szI; repeat' split
                                                                   all_goals simp

theorem nxt_of {s : ByteArray} {p : Nat} {r : Int} (hc : isC r = true) (h : At s p r) : nxt s p = (r, szI r) := by
  have hr := isC_true hc
  obtain ⟨hl, hb⟩ := h
  have b1 := B_range s (p + 1)
  have b2 := B_range s (p + 2)
  have b3 := B_range s (p + 3)
  rcases szI_cases r with ⟨a, e⟩ | ⟨a, a', e⟩ | ⟨a, a', e⟩ | ⟨a, e⟩
  · have q : encI r = [r] := by unfold encI; rw [if_pos a]
    rw [q] at hl hb
    have h0 := hb 0 (by simp)
    simp at h0
    unfold nxt
    simp only [h0]
    rw [if_pos a, e]
  · have q : encI r = [192 + r / 64, 128 + r % 64] := by unfold encI; rw [if_neg (by omega), if_pos (by omega)]
    rw [q] at hl hb
    have h0 := hb 0 (by simp)
    have h1 := hb 1 (by simp)
    simp at h0 h1 hl
    unfold nxt
    simp only
    rw [nx2_iff b1, h0, h1, if_neg (by omega), if_pos (by omega)]
    have : (192 + r / 64) % 32 * 64 + (128 + r % 64) % 64 = r := by omega
    rw [this, if_pos ⟨by omega, hc, e⟩, e]
  · have q : encI r = [224 + r / 4096, 128 + r / 64 % 64, 128 + r % 64] := by unfold encI; rw [if_neg (by omega), if_neg (by omega), if_pos (by omega)]
    rw [q] at hl hb
    have h0 := hb 0 (by simp)
    have h1 := hb 1 (by simp)
    have h2 := hb 2 (by simp)
    simp at h0 h1 h2 hl
    unfold nxt
    simp only
    rw [nx3_iff b1 b2, h0, h1, h2, if_neg (by omega), if_neg (by omega), if_pos (by omega)]
    have : ((224 + r / 4096) % 16 * 64 + (128 + r / 64 % 64) % 64) * 64 + (128 + r % 64) % 64 = r := by omega
    rw [this, if_pos ⟨by omega, by omega, hc, e⟩, e]
  · have q : encI r = [240 + r / 262144, 128 + r / 4096 % 64, 128 + r / 64 % 64, 128 + r % 64] := by unfold encI; rw [if_neg (by omega), if_neg (by omega), if_neg (by omega)]
    rw [q] at hl hb
    have h0 := hb 0 (by simp)
    have h1 := hb 1 (by simp)
    have h2 := hb 2 (by simp)
    have h3 := hb 3 (by simp)
    simp at h0 h1 h2 h3 hl
    unfold nxt
    simp only
    rw [nx4_iff b1 b2 b3, h0, h1, h2, h3, if_neg (by omega), if_neg (by omega), if_neg (by omega), if_pos (by omega)]
    have : (((240 + r / 262144) % 8 * 64 + (128 + r / 4096 % 64) % 64) * 64 + (128 + r / 64 % 64) % 64) * 64 + (128 + r % 64) % 64 = r := by omega
    rw [this, if_pos ⟨by omega, by omega, by omega, hc, e⟩, e]

theorem nxt_sound {s : ByteArray} {p : Nat} (hp : p < s.size) (h : (nxt s p).2 ≠ 0) : isC (nxt s p).1 = true ∧ (nxt s p).2 = szI (nxt s p).1 ∧ At s p (nxt s p).1 := by
  have b0 := B_range s p
  have b1 := B_range s (p + 1)
  have b2 := B_range s (p + 2)
  have b3 := B_range s (p + 3)
  generalize hn : nxt s p = v at h ⊢
  unfold nxt at hn
  simp only at hn
  by_cases a1 : B s p < 128
  · rw [if_pos a1] at hn
    subst hn
    refine ⟨isC_of (by simp only; omega), by simp only; unfold szI; rw [if_pos a1], ?_⟩
    simp only
    have q : encI (B s p) = [B s p] := by unfold encI; rw [if_pos a1]
    unfold At
    rw [q]
    exact ⟨by simp; omega, fun i hi => by simp at hi; subst hi; rfl⟩
  rw [if_neg a1] at hn
  by_cases a2 : 192 ≤ B s p ∧ B s p < 224 ∧ p + 2 ≤ s.size
  · rw [if_pos a2, nx2_iff b1] at hn
    split at hn
    · rename_i g
      subst hn
      simp only at h ⊢
      refine ⟨g.2.1, g.2.2.symm, ?_⟩
      generalize hr : B s p % 32 * 64 + B s (p + 1) % 64 = r at g ⊢
      rcases szI_cases r with ⟨a, e⟩ | ⟨a, a', e⟩ | ⟨a, a', e⟩ | ⟨a, e⟩ <;> try (exfalso; omega)
      have q : encI r = [192 + r / 64, 128 + r % 64] := by unfold encI; rw [if_neg (by omega), if_pos (by omega)]
      unfold At
      rw [q]
      refine ⟨by simp; omega, fun i hi => ?_⟩
      simp at hi
      match i, hi with
      | 0, _ => simp; omega
      | 1, _ => simp; omega
    · subst hn; exact absurd rfl h
  rw [if_neg a2] at hn
  by_cases a3 : 224 ≤ B s p ∧ B s p < 240 ∧ p + 3 ≤ s.size
  · rw [if_pos a3, nx3_iff b1 b2] at hn
    split at hn
    · rename_i g
      subst hn
      simp only at h ⊢
      refine ⟨g.2.2.1, g.2.2.2.symm, ?_⟩
      generalize hr : (B s p % 16 * 64 + B s (p + 1) % 64) * 64 + B s (p + 2) % 64 = r at g ⊢
      rcases szI_cases r with ⟨a, e⟩ | ⟨a, a', e⟩ | ⟨a, a', e⟩ | ⟨a, e⟩ <;> try (exfalso; omega)
      have q : encI r = [224 + r / 4096, 128 + r / 64 % 64, 128 + r % 64] := by unfold encI; rw [if_neg (by omega), if_neg (by omega), if_pos (by omega)]
      unfold At
      rw [q]
      refine ⟨by simp; omega, fun i hi => ?_⟩
      simp at hi
      match i, hi with
      | 0, _ => simp; omega
      | 1, _ => simp; omega
      | 2, _ => simp; omega
    · subst hn; exact absurd rfl h
  rw [if_neg a3] at hn
  by_cases a4 : 240 ≤ B s p ∧ B s p < 248 ∧ p + 4 ≤ s.size
  · rw [if_pos a4, nx4_iff b1 b2 b3] at hn
    split at hn
    · rename_i g
      subst hn
      simp only at h ⊢
      refine ⟨g.2.2.2.1, g.2.2.2.2.symm, ?_⟩
      generalize hr : ((B s p % 8 * 64 + B s (p + 1) % 64) * 64 + B s (p + 2) % 64) * 64 + B s (p + 3) % 64 = r at g ⊢
      rcases szI_cases r with ⟨a, e⟩ | ⟨a, a', e⟩ | ⟨a, a', e⟩ | ⟨a, e⟩ <;> try (exfalso; omega)
      have q : encI r = [240 + r / 262144, 128 + r / 4096 % 64, 128 + r / 64 % 64, 128 + r % 64] := by unfold encI; rw [if_neg (by omega), if_neg (by omega), if_neg (by omega)]
      unfold At
      rw [q]
      refine ⟨by simp; omega, fun i hi => ?_⟩
      simp at hi
      match i, hi with
      | 0, _ => simp; omega
      | 1, _ => simp; omega
      | 2, _ => simp; omega
      | 3, _ => simp; omega
    · subst hn; exact absurd rfl h
  rw [if_neg a4] at hn
  subst hn
  exact absurd rfl h

theorem nxt_zero {s : ByteArray} {p : Nat} (h : (nxt s p).2 = 0) : nxt s p = (0, 0) := by
  generalize hn : nxt s p = v at h ⊢
  unfold nxt at hn
  simp only at hn
  have b1 := B_range s (p + 1)
  have b2 := B_range s (p + 2)
  have b3 := B_range s (p + 3)
  rw [nx2_iff b1, nx3_iff b1 b2, nx4_iff b1 b2 b3] at hn
  split at hn
  · subst hn; simp at h
  split at hn
  · split at hn <;> subst hn <;> simp at h ⊢
  split at hn
  · split at hn <;> subst hn <;> simp at h ⊢
  split at hn
  · split at hn <;> subst hn <;> simp at h ⊢
  · exact hn.symm

theorem getD_bytesOf (xs : List Int) (h : ∀ x ∈ xs, 0 ≤ x ∧ x < 256) (i : Nat) (hi : i < xs.length) : (((bytesOf xs).getD i 0).toNat : Int) = xs.getD i 0 := by
  unfold bytesOf
  rw [List.getD_eq_getElem?_getD, List.getD_eq_getElem?_getD, List.getElem?_map, List.getElem?_eq_getElem hi]
  have := h _ (List.getElem_mem hi)
  simp [UInt8.toNat_ofNat']
  omega
/-- a character's bytes stand at their beginning, whatever comes ahead and behind -/
theorem At_enc {r : Int} (hc : isC r = true) : At (encS r) 0 r := by
  refine ⟨by rw [encS_size hc]; omega, fun i hi => ?_⟩
  unfold B
  rw [show 0 + i = i from by omega, ← ByteArray.toList_eq, encS_list hc]
  exact getD_bytesOf _ (encI_range hc) i hi
theorem nextI_enc {r : Int} (hc : isC r = true) : nextI (encS r) 0 = (r, szI r) := by
  unfold nextI
  have : 0 < (encS r).size := by rw [encS_size hc]; have := encI_len r; rcases szI_cases r with h | h | h | h <;> omega
  rw [if_pos (by omega)]
  exact nxt_of hc (At_enc hc)
theorem size_enc {r : Int} (hc : isC r = true) : ((encS r).size : Int) = szI r := by rw [encS_size hc, encI_len]
end Go.Proofs.YtpmlggjhfiljmaaGreatDoor
