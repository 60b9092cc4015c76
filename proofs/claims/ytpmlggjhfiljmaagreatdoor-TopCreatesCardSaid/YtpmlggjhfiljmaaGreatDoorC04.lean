/- Contracts that the law rests on, part 4 of 50 (UtfE, UtfG). Each states its own conditions. -/
import Derived.Deep.RegionHeld3
import Derived.Deep.QuietTactic
import Derived.BigQuiet
import Derived.Test.YtpmlggjhfiljmaaGreatDoorC03
/- Plain facts on reading a character: what is written is read, what is read was written. -/
namespace Go.Proofs.YtpmlggjhfiljmaaGreatDoor
open Go.RowKit
set_option linter.unusedVariables false
theorem ct_fin : ∀ c : Fin 256, ct (c.val : Int) = decide (128 ≤ c.val ∧ c.val < 192) := by decide +kernel
theorem ct_iff {c : Int} (h : 0 ≤ c ∧ c < 256) : ct c = true ↔ 128 ≤ c ∧ c < 192 := by
  obtain ⟨n, rfl⟩ := Int.eq_ofNat_of_zero_le h.1
  have := ct_fin ⟨n, by omega⟩
  simp only at this
  rw [this, decide_eq_true_eq]
  omega
theorem nx2_iff {c1 r : Int} (h1 : 0 ≤ c1 ∧ c1 < 256) : nx2 c1 r = if (128 ≤ c1 ∧ c1 < 192) ∧ isC r = true ∧ szI r = 2 then (r, 2) else (0, 0) := by
  unfold nx2 finN
  by_cases a : 128 ≤ c1 ∧ c1 < 192
  · have := (ct_iff h1).2 a
    simp [this, a]
  · have : ct c1 = false := by cases h : ct c1 with | false => rfl | true => exact absurd ((ct_iff h1).1 h) a
    simp [this]
    intro b c; omega
theorem nx3_iff {c1 c2 r1 r : Int} (h1 : 0 ≤ c1 ∧ c1 < 256) (h2 : 0 ≤ c2 ∧ c2 < 256) :
    nx3 c1 c2 r1 r = if (128 ≤ c1 ∧ c1 < 192) ∧ (128 ≤ c2 ∧ c2 < 192) ∧ isC r = true ∧ szI r = 3 then (r, 3) else (0, 0) := by
  unfold nx3 finN
  by_cases a : (128 ≤ c1 ∧ c1 < 192) ∧ (128 ≤ c2 ∧ c2 < 192)
  · have := (ct_iff h1).2 a.1
    have := (ct_iff h2).2 a.2
    simp [*]
  · have : (true && ct c1 && ct c2) = false := by
      cases h : (true && ct c1 && ct c2) with
      | false => rfl
      | true => simp at h; exact absurd ⟨(ct_iff h1).1 h.1, (ct_iff h2).1 h.2⟩ a
    rw [this, if_neg (by simp), if_neg (by intro q; exact a ⟨q.1, q.2.1⟩)]
theorem nx4_iff {c1 c2 c3 r1 r2 r : Int} (h1 : 0 ≤ c1 ∧ c1 < 256) (h2 : 0 ≤ c2 ∧ c2 < 256) (h3 : 0 ≤ c3 ∧ c3 < 256) :
    nx4 c1 c2 c3 r1 r2 r = if (128 ≤ c1 ∧ c1 < 192) ∧ (128 ≤ c2 ∧ c2 < 192) ∧ (128 ≤ c3 ∧ c3 < 192) ∧ isC r = true ∧ szI r = 4 then (r, 4) else (0, 0) := by
  unfold nx4 finN
  by_cases a : (128 ≤ c1 ∧ c1 < 192) ∧ (128 ≤ c2 ∧ c2 < 192) ∧ (128 ≤ c3 ∧ c3 < 192)
  · have := (ct_iff h1).2 a.1
    have := (ct_iff h2).2 a.2.1
    have := (ct_iff h3).2 a.2.2
    simp [*]
  · have : (true && ct c1 && ct c2 && ct c3) = false := by
      cases h : (true && ct c1 && ct c2 && ct c3) with
      | false => rfl
      | true => simp at h; exact absurd ⟨(ct_iff h1).1 h.1.1, (ct_iff h2).1 h.1.2, (ct_iff h3).1 h.2⟩ a
    rw [this, if_neg (by simp), if_neg (by intro q; exact a ⟨q.1, q.2.1, q.2.2.1⟩)]
/-- the bytes of r stand at p -/
def At (s : ByteArray) (p : Nat) (r : Int) : Prop := p + (encI r).length ≤ s.size ∧ ∀ i, i < (encI r).length → B s (p + i) = (encI r).getD i 0
theorem isC_of {r : Int} (h : 0 ≤ r ∧ r ≤ 1114111 ∧ (r < 55296 ∨ 57343 < r)) : isC r = true := by unfold isC; simp; omega
theorem szI_cases (r : Int) : (r < 128 ∧ szI r = 1) ∨ (128 ≤ r ∧ r < 2048 ∧ szI r = 2) ∨ (2048 ≤ r ∧ r < 65536 ∧ szI r = 3) ∨ (65536 ≤ r ∧ szI r = 4) := by
  unfold szI; repeat' split
  all_goals omega
theorem encI_len (r : Int) : ((encI r).length : Int) = szI r := by unfold encI szI; repeat' split
                                                                   all_goals simp
theorem nxt_of {s : ByteArray} {p : Nat} {r : Int} (hc : isC r = true) (h : At s p r) : nxt s p = (r, szI r) := by
  have hr := isC_true hc
  obtain ⟨hl, hb⟩ := h
  have b1 := B_range s (p + 1)
  have b2 := B_range s (p + 2)
  have b3 := B_range s (p + 3)
  rcases szI_cases r with ⟨a, e⟩ | ⟨a, a', e⟩ | ⟨a, a', e⟩ | ⟨a, e⟩
  · have q : encI r = [r] := by unfold encI; rw [if_pos a]
    rw [q] at hl hb
    have h0 := hb 0 (by simp)
    simp at h0
    unfold nxt
    simp only [h0]
    rw [if_pos a, e]
  · have q : encI r = [192 + r / 64, 128 + r % 64] := by unfold encI; rw [if_neg (by omega), if_pos (by omega)]
    rw [q] at hl hb
    have h0 := hb 0 (by simp)
    have h1 := hb 1 (by simp)
    simp at h0 h1 hl
    unfold nxt
    simp only
    rw [nx2_iff b1, h0, h1, if_neg (by omega), if_pos (by omega)]
    have : (192 + r / 64) % 32 * 64 + (128 + r % 64) % 64 = r := by omega
    rw [this, if_pos ⟨by omega, hc, e⟩, e]
  · have q : encI r = [224 + r / 4096, 128 + r / 64 % 64, 128 + r % 64] := by unfold encI; rw [if_neg (by omega), if_neg (by omega), if_pos (by omega)]
    rw [q] at hl hb
    have h0 := hb 0 (by simp)
    have h1 := hb 1 (by simp)
    have h2 := hb 2 (by simp)
    simp at h0 h1 h2 hl
    unfold nxt
    simp only
    rw [nx3_iff b1 b2, h0, h1, h2, if_neg (by omega), if_neg (by omega), if_pos (by omega)]
    have : ((224 + r / 4096) % 16 * 64 + (128 + r / 64 % 64) % 64) * 64 + (128 + r % 64) % 64 = r := by omega
    rw [this, if_pos ⟨by omega, by omega, hc, e⟩, e]
  · have q : encI r = [240 + r / 262144, 128 + r / 4096 % 64, 128 + r / 64 % 64, 128 + r % 64] := by unfold encI; rw [if_neg (by omega), if_neg (by omega), if_neg (by omega)]
    rw [q] at hl hb
    have h0 := hb 0 (by simp)
    have h1 := hb 1 (by simp)
    have h2 := hb 2 (by simp)
    have h3 := hb 3 (by simp)
    simp at h0 h1 h2 h3 hl
    unfold nxt
    simp only
    rw [nx4_iff b1 b2 b3, h0, h1, h2, h3, if_neg (by omega), if_neg (by omega), if_neg (by omega), if_pos (by omega)]
    have : (((240 + r / 262144) % 8 * 64 + (128 + r / 4096 % 64) % 64) * 64 + (128 + r / 64 % 64) % 64) * 64 + (128 + r % 64) % 64 = r := by omega
    rw [this, if_pos ⟨by omega, by omega, by omega, hc, e⟩, e]
theorem nxt_sound {s : ByteArray} {p : Nat} (hp : p < s.size) (h : (nxt s p).2 ≠ 0) : isC (nxt s p).1 = true ∧ (nxt s p).2 = szI (nxt s p).1 ∧ At s p (nxt s p).1 := by
  have b0 := B_range s p
  have b1 := B_range s (p + 1)
  have b2 := B_range s (p + 2)
  have b3 := B_range s (p + 3)
  generalize hn : nxt s p = v at h ⊢
  unfold nxt at hn
  simp only at hn
  by_cases a1 : B s p < 128
  · rw [if_pos a1] at hn
    subst hn
    refine ⟨isC_of (by simp only; omega), by simp only; unfold szI; rw [if_pos a1], ?_⟩
    simp only
    have q : encI (B s p) = [B s p] := by unfold encI; rw [if_pos a1]
    unfold At
    rw [q]
    exact ⟨by simp; omega, fun i hi => by simp at hi; subst hi; rfl⟩
  rw [if_neg a1] at hn
  by_cases a2 : 192 ≤ B s p ∧ B s p < 224 ∧ p + 2 ≤ s.size
  · rw [if_pos a2, nx2_iff b1] at hn
    split at hn
    · rename_i g
      subst hn
      simp only at h ⊢
      refine ⟨g.2.1, g.2.2.symm, ?_⟩
      generalize hr : B s p % 32 * 64 + B s (p + 1) % 64 = r at g ⊢
      rcases szI_cases r with ⟨a, e⟩ | ⟨a, a', e⟩ | ⟨a, a', e⟩ | ⟨a, e⟩ <;> try (exfalso; omega)
      have q : encI r = [192 + r / 64, 128 + r % 64] := by unfold encI; rw [if_neg (by omega), if_pos (by omega)]
      unfold At
      rw [q]
      refine ⟨by simp; omega, fun i hi => ?_⟩
      simp at hi
      match i, hi with
      | 0, _ => simp; omega
      | 1, _ => simp; omega
    · subst hn; exact absurd rfl h
  rw [if_neg a2] at hn
  by_cases a3 : 224 ≤ B s p ∧ B s p < 240 ∧ p + 3 ≤ s.size
  · rw [if_pos a3, nx3_iff b1 b2] at hn
    split at hn
    · rename_i g
      subst hn
      simp only at h ⊢
      refine ⟨g.2.2.1, g.2.2.2.symm, ?_⟩
      generalize hr : (B s p % 16 * 64 + B s (p + 1) % 64) * 64 + B s (p + 2) % 64 = r at g ⊢
      rcases szI_cases r with ⟨a, e⟩ | ⟨a, a', e⟩ | ⟨a, a', e⟩ | ⟨a, e⟩ <;> try (exfalso; omega)
      have q : encI r = [224 + r / 4096, 128 + r / 64 % 64, 128 + r % 64] := by unfold encI; rw [if_neg (by omega), if_neg (by omega), if_pos (by omega)]
      unfold At
      rw [q]
      refine ⟨by simp; omega, fun i hi => ?_⟩
      simp at hi
      match i, hi with
      | 0, _ => simp; omega
      | 1, _ => simp; omega
      | 2, _ => simp; omega
    · subst hn; exact absurd rfl h
  rw [if_neg a3] at hn
  by_cases a4 : 240 ≤ B s p ∧ B s p < 248 ∧ p + 4 ≤ s.size
  · rw [if_pos a4, nx4_iff b1 b2 b3] at hn
    split at hn
    · rename_i g
      subst hn
      simp only at h ⊢
      refine ⟨g.2.2.2.1, g.2.2.2.2.symm, ?_⟩
      generalize hr : ((B s p % 8 * 64 + B s (p + 1) % 64) * 64 + B s (p + 2) % 64) * 64 + B s (p + 3) % 64 = r at g ⊢
      rcases szI_cases r with ⟨a, e⟩ | ⟨a, a', e⟩ | ⟨a, a', e⟩ | ⟨a, e⟩ <;> try (exfalso; omega)
      have q : encI r = [240 + r / 262144, 128 + r / 4096 % 64, 128 + r / 64 % 64, 128 + r % 64] := by unfold encI; rw [if_neg (by omega), if_neg (by omega), if_neg (by omega)]
      unfold At
      rw [q]
      refine ⟨by simp; omega, fun i hi => ?_⟩
      simp at hi
      match i, hi with
      | 0, _ => simp; omega
      | 1, _ => simp; omega
      | 2, _ => simp; omega
      | 3, _ => simp; omega
    · subst hn; exact absurd rfl h
  rw [if_neg a4] at hn
  subst hn
  exact absurd rfl h
theorem nxt_zero {s : ByteArray} {p : Nat} (h : (nxt s p).2 = 0) : nxt s p = (0, 0) := by
  generalize hn : nxt s p = v at h ⊢
  unfold nxt at hn
  simp only at hn
  have b1 := B_range s (p + 1)
  have b2 := B_range s (p + 2)
  have b3 := B_range s (p + 3)
  rw [nx2_iff b1, nx3_iff b1 b2, nx4_iff b1 b2 b3] at hn
  split at hn
  · subst hn; simp at h
  split at hn
  · split at hn <;> subst hn <;> simp at h ⊢
  split at hn
  · split at hn <;> subst hn <;> simp at h ⊢
  split at hn
  · split at hn <;> subst hn <;> simp at h ⊢
  · exact hn.symm
theorem getD_bytesOf (xs : List Int) (h : ∀ x ∈ xs, 0 ≤ x ∧ x < 256) (i : Nat) (hi : i < xs.length) : (((bytesOf xs).getD i 0).toNat : Int) = xs.getD i 0 := by
  unfold bytesOf
  rw [List.getD_eq_getElem?_getD, List.getD_eq_getElem?_getD, List.getElem?_map, List.getElem?_eq_getElem hi]
  have := h _ (List.getElem_mem hi)
  simp [UInt8.toNat_ofNat']
  omega
/-- a character's bytes stand at their beginning, whatever comes ahead and behind -/
theorem At_enc {r : Int} (hc : isC r = true) : At (encS r) 0 r := by
  refine ⟨by rw [encS_size hc]; omega, fun i hi => ?_⟩
  unfold B
  rw [show 0 + i = i from by omega, ← ByteArray.toList_eq, encS_list hc]
  exact getD_bytesOf _ (encI_range hc) i hi
theorem size_enc {r : Int} (hc : isC r = true) : ((encS r).size : Int) = szI r := by rw [encS_size hc, encI_len]
end Go.Proofs.YtpmlggjhfiljmaaGreatDoor
/- toponymref01.Next: the walk. -/
namespace Go.Proofs.YtpmlggjhfiljmaaGreatDoor
open Go.RowKit
set_option linter.unusedVariables false
theorem refIs_w (c : Int) (b : Bool) (hw : IntKind.i32.wrap c = c) (hc : isC c = b) (w : World) :
    Calls Tryz.prog 61 #[.int .i32 (IntKind.i32.wrap c)] w fun e w' => e = .returned (.bool b) ∧ w = w' := by
  rw [hw, ← hc]; exact refIs_any c w
theorem refIs_q (c : Int) (b : Bool) (hc : isC c = b) (w : World) :
    Calls Tryz.prog 61 #[.int .i32 c] w fun e w' => e = .returned (.bool b) ∧ w' = w := by
  rw [← hc]; exact (refIs_any c w).mono fun _ _ ⟨he, hw⟩ => ⟨he, hw.symm⟩
theorem refBytes_w (c : Int) (hw : IntKind.i32.wrap c = c) (hc : isC c = true) (w : World) :
    Calls Tryz.prog 62 #[.int .i32 (IntKind.i32.wrap c)] w fun e w' => e = .returned (.string (encS c)) ∧ Fresh w w' := by
  rw [hw]; exact refBytes_any c hc w
/-- the number that k bytes say -/
def cand (s : ByteArray) (p : Nat) (k : Int) : Int :=
  if k = 1 then B s p else if k = 2 then B s p % 32 * 64 + B s (p + 1) % 64
  else if k = 3 then (B s p % 16 * 64 + B s (p + 1) % 64) * 64 + B s (p + 2) % 64
  else ((B s p % 8 * 64 + B s (p + 1) % 64) * 64 + B s (p + 2) % 64) * 64 + B s (p + 3) % 64
def mat (s : ByteArray) (p : Nat) (k : Int) : Bool := isC (cand s p k) && (encS (cand s p k)).toList == (s.extract p (p + k.toNat)).toList
/-- none of fewer bytes match -/
def NoM (s : ByteArray) (p : Nat) (k : Int) : Prop := ∀ j : Int, 1 ≤ j → j < k → mat s p j = false
def RefRel (s : ByteArray) (p : Nat) (w : World) (sz : Value) (wr : World) : Prop := ∃ k : Int, 1 ≤ k ∧ k ≤ 5 ∧ sz = .int .i64 k ∧ Fresh w wr ∧ NoM s p k
theorem RefRel.mk {s : ByteArray} {p : Nat} {w wr : World} {sz : Value} (k : Int) (h1 : 1 ≤ k) (h2 : k ≤ 5) (h3 : sz = .int .i64 k) (h4 : Fresh w wr) (h5 : NoM s p k) : RefRel s p w sz wr := ⟨k, h1, h2, h3, h4, h5⟩
theorem NoM.next {s : ByteArray} {p : Nat} {k : Int} (h : NoM s p k) (hm : mat s p k = false) : NoM s p (k + 1) := fun j h1 h2 => by
  by_cases e : j = k
  · rw [e]; exact hm
  · exact h j h1 (by omega)
theorem mat_cand {s : ByteArray} {p : Nat} {k : Int} {c : Int} (e : cand s p k = c) : mat s p k = (isC c && (encS c).toList == (s.extract p (p + k.toNat)).toList) := by unfold mat; rw [e]
theorem cand_hit {s : ByteArray} {p : Nat} {k : Int} (h1 : 1 ≤ k) (h4 : k ≤ 4) (hp : p + k.toNat ≤ s.size) (hm : mat s p k = true) : nxt s p = (cand s p k, k) := by
  unfold mat at hm
  simp only [Bool.and_eq_true, beq_iff_eq] at hm
  obtain ⟨hc, he⟩ := hm
  have hsz : (encS (cand s p k)).size = k.toNat := by
    have : (encS (cand s p k)).toList.length = (s.extract p (p + k.toNat)).toList.length := by rw [he]
    rw [ByteArray.toList_eq, ByteArray.toList_eq] at this
    have e2 := extract_size s p (p + k.toNat) hp
    simp only [Array.length_toList] at this
    have : (encS (cand s p k)).size = (s.extract p (p + k.toNat)).size := this
    omega
  have hlen : (encI (cand s p k)).length = k.toNat := by rw [← encS_size hc]; exact hsz
  have hat : At s p (cand s p k) := by
    refine ⟨by omega, fun i hi => ?_⟩
    have hB := (At_enc hc).2 i hi
    rw [← hB, show 0 + i = i from by omega]
    unfold B
    have e3 := B_extract s p (p + k.toNat) i hp (by omega)
    unfold B at e3
    rw [← e3]
    rw [ByteArray.toList_eq, ByteArray.toList_eq] at he
    rw [he]
  rw [nxt_of hc hat]
  have := encI_len (cand s p k)
  congr 1
  omega
theorem cand_miss {s : ByteArray} {p : Nat} {k : Int} (hp : p < s.size) (hn : NoM s p k) (hk : k = 5 ∨ (s.size : Int) - p < k) : nxt s p = (0, 0) := by
  by_cases h0 : (nxt s p).2 = 0
  · exact nxt_zero h0
  · exfalso
    obtain ⟨hc, hz, ha⟩ := nxt_sound hp h0
    obtain ⟨hl, hb⟩ := ha
    generalize hv : (nxt s p).1 = r at hc hz hl hb
    have b1 := B_range s (p + 1)
    have b2 := B_range s (p + 2)
    have b3 := B_range s (p + 3)
    have hlen := encI_len r
    have key : cand s p (szI r) = r := by
      have hr := isC_true hc
      rcases szI_cases r with ⟨a, e⟩ | ⟨a, a', e⟩ | ⟨a, a', e⟩ | ⟨a, e⟩
      · have q : encI r = [r] := by unfold encI; rw [if_pos a]
        rw [q] at hb
        have h0 := hb 0 (by simp)
        simp at h0
        unfold cand
        rw [e, if_pos rfl, h0]
      · have q : encI r = [192 + r / 64, 128 + r % 64] := by unfold encI; rw [if_neg (by omega), if_pos (by omega)]
        rw [q] at hb
        have h0 := hb 0 (by simp)
        have h1 := hb 1 (by simp)
        simp at h0 h1
        unfold cand
        rw [e, if_neg (by omega), if_pos rfl, h0, h1]; omega
      · have q : encI r = [224 + r / 4096, 128 + r / 64 % 64, 128 + r % 64] := by unfold encI; rw [if_neg (by omega), if_neg (by omega), if_pos (by omega)]
        rw [q] at hb
        have h0 := hb 0 (by simp)
        have h1 := hb 1 (by simp)
        have h2 := hb 2 (by simp)
        simp at h0 h1 h2
        unfold cand
        rw [e, if_neg (by omega), if_neg (by omega), if_pos rfl, h0, h1, h2]; omega
      · have q : encI r = [240 + r / 262144, 128 + r / 4096 % 64, 128 + r / 64 % 64, 128 + r % 64] := by unfold encI; rw [if_neg (by omega), if_neg (by omega), if_neg (by omega)]
        rw [q] at hb
        have h0 := hb 0 (by simp)
        have h1 := hb 1 (by simp)
        have h2 := hb 2 (by simp)
        have h3 := hb 3 (by simp)
        simp at h0 h1 h2 h3
        unfold cand
        rw [e, if_neg (by omega), if_neg (by omega), if_neg (by omega), h0, h1, h2, h3]; omega
    have hm := hn (szI r) (by rcases szI_cases r with h | h | h | h <;> omega) (by rcases szI_cases r with h | h | h | h <;> omega)
    rw [mat_cand key, hc] at hm
    simp only [Bool.true_and, beq_eq_false_iff_ne] at hm
    apply hm
    have e1 : (szI r).toNat = (encI r).length := by omega
    rw [encS_list hc, ByteArray.toList_eq, e1]
    apply List.ext_getElem
    · have := extract_size s p (p + (encI r).length) hl
      have e2 : (s.extract p (p + (encI r).length)).data.toList.length = (s.extract p (p + (encI r).length)).size := rfl
      have e3 : (bytesOf (encI r)).length = (encI r).length := by simp [bytesOf]
      exact e3.trans (by rw [e2, this]; omega)
    · intro i h1 h2
      have hi : i < (encI r).length := by simpa [bytesOf] using h1
      have g1 := getD_bytesOf (encI r) (encI_range hc) i hi
      have g2 := hb i hi
      have g3 := B_extract s p (p + (encI r).length) i hl (by omega)
      rw [← g2, ← g3] at g1
      rw [List.getD_eq_getElem?_getD, List.getD_eq_getElem?_getD, List.getElem?_eq_getElem h1, List.getElem?_eq_getElem h2] at g1
      simp only [Option.getD_some] at g1
      apply UInt8.toNat_inj.1
      omega
theorem cand_small (s : ByteArray) (p : Nat) (k : Int) : 0 ≤ cand s p k ∧ cand s p k < 2147483648 := by
  have b0 := B_range s p
  have b1 := B_range s (p + 1)
  have b2 := B_range s (p + 2)
  have b3 := B_range s (p + 3)
  unfold cand
  repeat' split
  all_goals omega
set_option maxHeartbeats 4000000 in
set_option maxRecDepth 100000 in
theorem refNext_in (s : ByteArray) (p : Nat) (hlt : p < s.size) (hs : s.size ≤ 140737488351232) (w : World) :
    Calls Tryz.prog 58 #[.string s, .int .i64 p] w fun e w' => e = .returned (.tuple #[.int .i32 (nxt s p).1, .int .i64 (nxt s p).2]) ∧ Fresh w w' := by
  go_enter Tryz.func58, Tryz.ntmps58
  go_wp2
  go_loopw [6] (fun sz wr => RefRel s p w sz wr) (fun sz _ => 5 - (intOf sz).toNat)
  case atStart => exact RefRel.mk 1 (by omega) (by omega) rfl (Fresh.refl _) (fun j h1 h2 => by omega)
  case round =>
    obtain ⟨k, hk1, hk2, rfl, hf, hno⟩ := hrel
    have HF := Lib.hid hf
    have HN := Lib.hid hno
    clear hf hno
    by_cases hex : k = 5 ∨ (s.size : Int) - p < k
    · have hz : nxt s p = (0, 0) := cand_miss hlt HN.out hex
      have HZ := Lib.hid hz
      clear hz
      by_cases h5 : k = 5
      · subst h5
        go_wp2
        go_ret2
        exact ⟨ret_two (a := (0, 0)) HZ.out.symm, HF.out⟩
      · have h6 : (s.size : Int) - p < k := by omega
        clear hex
        go_wp2
        go_ret2
        exact ⟨ret_two (a := (0, 0)) HZ.out.symm, HF.out⟩
    by_cases hq : k = 1
    · subst hq
      have hb0 := B_at s p hlt
      have hr0 := B_range s p
      have ecd : cand s p 1 = B s p := by unfold cand; rw [if_pos rfl]
      have hsm := cand_small s p 1
      rw [ecd] at hsm
      generalize hg0 : B s p = c0 at hb0 hr0 ecd hsm
      clear hg0
      obtain ⟨hx, hy⟩ := hsm
      obtain ⟨hx0, hy0⟩ := hr0
      have hw : IntKind.i32.wrap (c0) = c0 := by rw [IntKind.wrap_i32]; omega
      have HW := Lib.hid hw
      clear hw
      have HM := Lib.hid (mat_cand ecd)
      have HE := Lib.hid ecd
      clear ecd
      by_cases hc : isC (c0) = true
      · have HC := Lib.hid hc
        clear hc
        go_wp2
        refine wp_loop_rounds 1 ?_
        rw [rounds_succ]
        go_wp2
        have q1 : IntKind.i64.wrap ((p : Int) + 1) = (p : Int) + 1 := by rw [IntKind.wrap_i64]; omega
        have q2 : (0 : Int) ≤ (p : Int) + 1 := by omega
        have q3 : ((p : Int) + 1).toNat = p + 1 := by omega
        have q4 : (p : Int) ≤ (p : Int) + 1 := by omega
        have q5 : (p : Int) + 1 ≤ (s.size : Int) := by omega
        have q6 : p + 1 ≤ s.size := by omega
        have q7 : p ≤ p + 1 := by omega
        have q8 : (0 : Int) ≤ (p : Int) := by omega
        go_region_held3 (fun _ => True) (go_keep)
          (first
            | (go_at_call 61; refine (refIs_w _ true HW.out HC.out _).mono ?_; rintro e w3 ⟨rfl, rfl⟩)
            | (go_at_call 62; refine (refBytes_w _ HW.out HC.out _).mono ?_; rintro e w4 ⟨rfl, h4⟩))
        clear q1 q2 q3 q4 q5 q6 q7 q8
        go_wp2
        · have hm : mat s p 1 = true := by rw [HM.out, HC.out]; simpa using ‹((encS (c0)).toList == (s.extract p (p + 1)).toList) = true›
          have hz : nxt s p = (c0, 1) := by rw [cand_hit (by omega) (by omega) (by simp; omega) hm, HE.out]
          go_ret2
          exact ⟨ret_two (a := (c0, 1)) hz.symm, HF.out.drew.trans h4⟩
        · have hm : mat s p 1 = false := by rw [HM.out, HC.out]; simpa using ‹((encS (c0)).toList == (s.extract p (p + 1)).toList) = false›
          exact ⟨RefRel.mk 2 (by omega) (by omega) rfl (HF.out.drew.trans h4) (HN.out.next hm), by simp [intOf]⟩
      · replace hc : isC (c0) = false := by simpa using hc
        have HC := Lib.hid hc
        clear hc
        go_wp2
        refine wp_loop_rounds 1 ?_
        rw [rounds_succ]
        go_wp2
        have q1 : IntKind.i64.wrap ((p : Int) + 1) = (p : Int) + 1 := by rw [IntKind.wrap_i64]; omega
        have q2 : (0 : Int) ≤ (p : Int) + 1 := by omega
        have q3 : ((p : Int) + 1).toNat = p + 1 := by omega
        have q4 : (p : Int) ≤ (p : Int) + 1 := by omega
        have q5 : (p : Int) + 1 ≤ (s.size : Int) := by omega
        have q6 : p + 1 ≤ s.size := by omega
        have q7 : p ≤ p + 1 := by omega
        have q8 : (0 : Int) ≤ (p : Int) := by omega
        go_quiet ((go_at_call 61; exact Calls.quiet_of_same (refIs_q _ false HC.out _)))
        clear q1 q2 q3 q4 q5 q6 q7 q8
        go_wp2
        have hm : mat s p 1 = false := by rw [HM.out, HC.out]; rfl
        exact ⟨RefRel.mk 2 (by omega) (by omega) rfl (HF.out.drewN _) (HN.out.next hm), by simp [intOf]⟩
    by_cases hq : k = 2
    · subst hq
      have hb0 := B_at s p hlt
      have hr0 := B_range s p
      have hb1 := B_at s (p + 1) (by omega)
      have hr1 := B_range s (p + 1)
      have ecd : cand s p 2 = B s p % 32 * 64 + B s (p + 1) % 64 := by unfold cand; rw [if_neg (by omega)]; rw [if_pos rfl]
      have hsm := cand_small s p 2
      rw [ecd] at hsm
      generalize hg0 : B s p = c0 at hb0 hr0 ecd hsm
      clear hg0
      generalize hg1 : B s (p + 1) = c1 at hb1 hr1 ecd hsm
      clear hg1
      obtain ⟨hx, hy⟩ := hsm
      obtain ⟨hx0, hy0⟩ := hr0
      obtain ⟨hx1, hy1⟩ := hr1
      have hw : IntKind.i32.wrap (c0 % 32 * 64 + c1 % 64) = c0 % 32 * 64 + c1 % 64 := by rw [IntKind.wrap_i32]; omega
      have HW := Lib.hid hw
      clear hw
      have HM := Lib.hid (mat_cand ecd)
      have HE := Lib.hid ecd
      clear ecd
      have ix : ∀ w, (Instr.index 179 (.agg #[.int .i64 0, .int .i64 0, .int .i64 32, .int .i64 16, .int .i64 8]) (.int .i64 2)).run Tryz.prog w = .ok (.int .i64 32) w := fun _ => by kernel_rfl
      by_cases hc : isC (c0 % 32 * 64 + c1 % 64) = true
      · have HC := Lib.hid hc
        clear hc
        go_wp2
        refine wp_loop_rounds 2 ?_
        rw [rounds_succ]
        go_wp2
        rw [rounds_succ]
        go_wp2
        have q1 : IntKind.i64.wrap ((p : Int) + 2) = (p : Int) + 2 := by rw [IntKind.wrap_i64]; omega
        have q2 : (0 : Int) ≤ (p : Int) + 2 := by omega
        have q3 : ((p : Int) + 2).toNat = p + 2 := by omega
        have q4 : (p : Int) ≤ (p : Int) + 2 := by omega
        have q5 : (p : Int) + 2 ≤ (s.size : Int) := by omega
        have q6 : p + 2 ≤ s.size := by omega
        have q7 : p ≤ p + 2 := by omega
        have q8 : (0 : Int) ≤ (p : Int) := by omega
        go_region_held3 (fun _ => True) (go_keep)
          (first
            | (go_at_call 61; refine (refIs_w _ true HW.out HC.out _).mono ?_; rintro e w3 ⟨rfl, rfl⟩)
            | (go_at_call 62; refine (refBytes_w _ HW.out HC.out _).mono ?_; rintro e w4 ⟨rfl, h4⟩))
        clear q1 q2 q3 q4 q5 q6 q7 q8
        go_wp2
        · have hm : mat s p 2 = true := by rw [HM.out, HC.out]; simpa using ‹((encS (c0 % 32 * 64 + c1 % 64)).toList == (s.extract p (p + 2)).toList) = true›
          have hz : nxt s p = (c0 % 32 * 64 + c1 % 64, 2) := by rw [cand_hit (by omega) (by omega) (by simp; omega) hm, HE.out]
          go_ret2
          exact ⟨ret_two (a := (c0 % 32 * 64 + c1 % 64, 2)) hz.symm, HF.out.drew.trans h4⟩
        · have hm : mat s p 2 = false := by rw [HM.out, HC.out]; simpa using ‹((encS (c0 % 32 * 64 + c1 % 64)).toList == (s.extract p (p + 2)).toList) = false›
          exact ⟨RefRel.mk 3 (by omega) (by omega) rfl (HF.out.drew.trans h4) (HN.out.next hm), by simp [intOf]⟩
      · replace hc : isC (c0 % 32 * 64 + c1 % 64) = false := by simpa using hc
        have HC := Lib.hid hc
        clear hc
        go_wp2
        refine wp_loop_rounds 2 ?_
        rw [rounds_succ]
        go_wp2
        rw [rounds_succ]
        go_wp2
        have q1 : IntKind.i64.wrap ((p : Int) + 2) = (p : Int) + 2 := by rw [IntKind.wrap_i64]; omega
        have q2 : (0 : Int) ≤ (p : Int) + 2 := by omega
        have q3 : ((p : Int) + 2).toNat = p + 2 := by omega
        have q4 : (p : Int) ≤ (p : Int) + 2 := by omega
        have q5 : (p : Int) + 2 ≤ (s.size : Int) := by omega
        have q6 : p + 2 ≤ s.size := by omega
        have q7 : p ≤ p + 2 := by omega
        have q8 : (0 : Int) ≤ (p : Int) := by omega
        go_quiet ((go_at_call 61; exact Calls.quiet_of_same (refIs_q _ false HC.out _)))
        clear q1 q2 q3 q4 q5 q6 q7 q8
        go_wp2
        have hm : mat s p 2 = false := by rw [HM.out, HC.out]; rfl
        exact ⟨RefRel.mk 3 (by omega) (by omega) rfl (HF.out.drewN _) (HN.out.next hm), by simp [intOf]⟩
    by_cases hq : k = 3
    · subst hq
      have hb0 := B_at s p hlt
      have hr0 := B_range s p
      have hb1 := B_at s (p + 1) (by omega)
      have hr1 := B_range s (p + 1)
      have hb2 := B_at s (p + 2) (by omega)
      have hr2 := B_range s (p + 2)
      have ecd : cand s p 3 = (B s p % 16 * 64 + B s (p + 1) % 64) * 64 + B s (p + 2) % 64 := by unfold cand; rw [if_neg (by omega)]; rw [if_neg (by omega)]; rw [if_pos rfl]
      have hsm := cand_small s p 3
      rw [ecd] at hsm
      generalize hg0 : B s p = c0 at hb0 hr0 ecd hsm
      clear hg0
      generalize hg1 : B s (p + 1) = c1 at hb1 hr1 ecd hsm
      clear hg1
      generalize hg2 : B s (p + 2) = c2 at hb2 hr2 ecd hsm
      clear hg2
      obtain ⟨hx, hy⟩ := hsm
      obtain ⟨hx0, hy0⟩ := hr0
      obtain ⟨hx1, hy1⟩ := hr1
      obtain ⟨hx2, hy2⟩ := hr2
      have hw : IntKind.i32.wrap ((c0 % 16 * 64 + c1 % 64) * 64 + c2 % 64) = (c0 % 16 * 64 + c1 % 64) * 64 + c2 % 64 := by rw [IntKind.wrap_i32]; omega
      have HW := Lib.hid hw
      clear hw
      have HM := Lib.hid (mat_cand ecd)
      have HE := Lib.hid ecd
      clear ecd
      have ix : ∀ w, (Instr.index 179 (.agg #[.int .i64 0, .int .i64 0, .int .i64 32, .int .i64 16, .int .i64 8]) (.int .i64 3)).run Tryz.prog w = .ok (.int .i64 16) w := fun _ => by kernel_rfl
      by_cases hc : isC ((c0 % 16 * 64 + c1 % 64) * 64 + c2 % 64) = true
      · have HC := Lib.hid hc
        clear hc
        go_wp2
        refine wp_loop_rounds 3 ?_
        rw [rounds_succ]
        go_wp2
        rw [rounds_succ]
        go_wp2
        rw [rounds_succ]
        go_wp2
        have q1 : IntKind.i64.wrap ((p : Int) + 3) = (p : Int) + 3 := by rw [IntKind.wrap_i64]; omega
        have q2 : (0 : Int) ≤ (p : Int) + 3 := by omega
        have q3 : ((p : Int) + 3).toNat = p + 3 := by omega
        have q4 : (p : Int) ≤ (p : Int) + 3 := by omega
        have q5 : (p : Int) + 3 ≤ (s.size : Int) := by omega
        have q6 : p + 3 ≤ s.size := by omega
        have q7 : p ≤ p + 3 := by omega
        have q8 : (0 : Int) ≤ (p : Int) := by omega
        go_region_held3 (fun _ => True) (go_keep)
          (first
            | (go_at_call 61; refine (refIs_w _ true HW.out HC.out _).mono ?_; rintro e w3 ⟨rfl, rfl⟩)
            | (go_at_call 62; refine (refBytes_w _ HW.out HC.out _).mono ?_; rintro e w4 ⟨rfl, h4⟩))
        clear q1 q2 q3 q4 q5 q6 q7 q8
        go_wp2
        · have hm : mat s p 3 = true := by rw [HM.out, HC.out]; simpa using ‹((encS ((c0 % 16 * 64 + c1 % 64) * 64 + c2 % 64)).toList == (s.extract p (p + 3)).toList) = true›
          have hz : nxt s p = ((c0 % 16 * 64 + c1 % 64) * 64 + c2 % 64, 3) := by rw [cand_hit (by omega) (by omega) (by simp; omega) hm, HE.out]
          go_ret2
          exact ⟨ret_two (a := ((c0 % 16 * 64 + c1 % 64) * 64 + c2 % 64, 3)) hz.symm, HF.out.drew.trans h4⟩
        · have hm : mat s p 3 = false := by rw [HM.out, HC.out]; simpa using ‹((encS ((c0 % 16 * 64 + c1 % 64) * 64 + c2 % 64)).toList == (s.extract p (p + 3)).toList) = false›
          exact ⟨RefRel.mk 4 (by omega) (by omega) rfl (HF.out.drew.trans h4) (HN.out.next hm), by simp [intOf]⟩
      · replace hc : isC ((c0 % 16 * 64 + c1 % 64) * 64 + c2 % 64) = false := by simpa using hc
        have HC := Lib.hid hc
        clear hc
        go_wp2
        refine wp_loop_rounds 3 ?_
        rw [rounds_succ]
        go_wp2
        rw [rounds_succ]
        go_wp2
        rw [rounds_succ]
        go_wp2
        have q1 : IntKind.i64.wrap ((p : Int) + 3) = (p : Int) + 3 := by rw [IntKind.wrap_i64]; omega
        have q2 : (0 : Int) ≤ (p : Int) + 3 := by omega
        have q3 : ((p : Int) + 3).toNat = p + 3 := by omega
        have q4 : (p : Int) ≤ (p : Int) + 3 := by omega
        have q5 : (p : Int) + 3 ≤ (s.size : Int) := by omega
        have q6 : p + 3 ≤ s.size := by omega
        have q7 : p ≤ p + 3 := by omega
        have q8 : (0 : Int) ≤ (p : Int) := by omega
        go_quiet ((go_at_call 61; exact Calls.quiet_of_same (refIs_q _ false HC.out _)))
        clear q1 q2 q3 q4 q5 q6 q7 q8
        go_wp2
        have hm : mat s p 3 = false := by rw [HM.out, HC.out]; rfl
        exact ⟨RefRel.mk 4 (by omega) (by omega) rfl (HF.out.drewN _) (HN.out.next hm), by simp [intOf]⟩
    by_cases hq : k = 4
    · subst hq
      have hb0 := B_at s p hlt
      have hr0 := B_range s p
      have hb1 := B_at s (p + 1) (by omega)
      have hr1 := B_range s (p + 1)
      have hb2 := B_at s (p + 2) (by omega)
      have hr2 := B_range s (p + 2)
      have hb3 := B_at s (p + 3) (by omega)
      have hr3 := B_range s (p + 3)
      have ecd : cand s p 4 = ((B s p % 8 * 64 + B s (p + 1) % 64) * 64 + B s (p + 2) % 64) * 64 + B s (p + 3) % 64 := by unfold cand; rw [if_neg (by omega)]; rw [if_neg (by omega)]; rw [if_neg (by omega)]
      have hsm := cand_small s p 4
      rw [ecd] at hsm
      generalize hg0 : B s p = c0 at hb0 hr0 ecd hsm
      clear hg0
      generalize hg1 : B s (p + 1) = c1 at hb1 hr1 ecd hsm
      clear hg1
      generalize hg2 : B s (p + 2) = c2 at hb2 hr2 ecd hsm
      clear hg2
      generalize hg3 : B s (p + 3) = c3 at hb3 hr3 ecd hsm
      clear hg3
      obtain ⟨hx, hy⟩ := hsm
      obtain ⟨hx0, hy0⟩ := hr0
      obtain ⟨hx1, hy1⟩ := hr1
      obtain ⟨hx2, hy2⟩ := hr2
      obtain ⟨hx3, hy3⟩ := hr3
      have hw : IntKind.i32.wrap (((c0 % 8 * 64 + c1 % 64) * 64 + c2 % 64) * 64 + c3 % 64) = ((c0 % 8 * 64 + c1 % 64) * 64 + c2 % 64) * 64 + c3 % 64 := by rw [IntKind.wrap_i32]; omega
      have HW := Lib.hid hw
      clear hw
      have HM := Lib.hid (mat_cand ecd)
      have HE := Lib.hid ecd
      clear ecd
      have ix : ∀ w, (Instr.index 179 (.agg #[.int .i64 0, .int .i64 0, .int .i64 32, .int .i64 16, .int .i64 8]) (.int .i64 4)).run Tryz.prog w = .ok (.int .i64 8) w := fun _ => by kernel_rfl
      by_cases hc : isC (((c0 % 8 * 64 + c1 % 64) * 64 + c2 % 64) * 64 + c3 % 64) = true
      · have HC := Lib.hid hc
        clear hc
        go_wp2
        refine wp_loop_rounds 4 ?_
        rw [rounds_succ]
        go_wp2
        rw [rounds_succ]
        go_wp2
        rw [rounds_succ]
        go_wp2
        rw [rounds_succ]
        go_wp2
        have q1 : IntKind.i64.wrap ((p : Int) + 4) = (p : Int) + 4 := by rw [IntKind.wrap_i64]; omega
        have q2 : (0 : Int) ≤ (p : Int) + 4 := by omega
        have q3 : ((p : Int) + 4).toNat = p + 4 := by omega
        have q4 : (p : Int) ≤ (p : Int) + 4 := by omega
        have q5 : (p : Int) + 4 ≤ (s.size : Int) := by omega
        have q6 : p + 4 ≤ s.size := by omega
        have q7 : p ≤ p + 4 := by omega
        have q8 : (0 : Int) ≤ (p : Int) := by omega
        go_region_held3 (fun _ => True) (go_keep)
          (first
            | (go_at_call 61; refine (refIs_w _ true HW.out HC.out _).mono ?_; rintro e w3 ⟨rfl, rfl⟩)
            | (go_at_call 62; refine (refBytes_w _ HW.out HC.out _).mono ?_; rintro e w4 ⟨rfl, h4⟩))
        clear q1 q2 q3 q4 q5 q6 q7 q8
        go_wp2
        · have hm : mat s p 4 = true := by rw [HM.out, HC.out]; simpa using ‹((encS (((c0 % 8 * 64 + c1 % 64) * 64 + c2 % 64) * 64 + c3 % 64)).toList == (s.extract p (p + 4)).toList) = true›
          have hz : nxt s p = (((c0 % 8 * 64 + c1 % 64) * 64 + c2 % 64) * 64 + c3 % 64, 4) := by rw [cand_hit (by omega) (by omega) (by simp; omega) hm, HE.out]
          go_ret2
          exact ⟨ret_two (a := (((c0 % 8 * 64 + c1 % 64) * 64 + c2 % 64) * 64 + c3 % 64, 4)) hz.symm, HF.out.drew.trans h4⟩
        · have hm : mat s p 4 = false := by rw [HM.out, HC.out]; simpa using ‹((encS (((c0 % 8 * 64 + c1 % 64) * 64 + c2 % 64) * 64 + c3 % 64)).toList == (s.extract p (p + 4)).toList) = false›
          exact ⟨RefRel.mk 5 (by omega) (by omega) rfl (HF.out.drew.trans h4) (HN.out.next hm), by simp [intOf]⟩
      · replace hc : isC (((c0 % 8 * 64 + c1 % 64) * 64 + c2 % 64) * 64 + c3 % 64) = false := by simpa using hc
        have HC := Lib.hid hc
        clear hc
        go_wp2
        refine wp_loop_rounds 4 ?_
        rw [rounds_succ]
        go_wp2
        rw [rounds_succ]
        go_wp2
        rw [rounds_succ]
        go_wp2
        rw [rounds_succ]
        go_wp2
        have q1 : IntKind.i64.wrap ((p : Int) + 4) = (p : Int) + 4 := by rw [IntKind.wrap_i64]; omega
        have q2 : (0 : Int) ≤ (p : Int) + 4 := by omega
        have q3 : ((p : Int) + 4).toNat = p + 4 := by omega
        have q4 : (p : Int) ≤ (p : Int) + 4 := by omega
        have q5 : (p : Int) + 4 ≤ (s.size : Int) := by omega
        have q6 : p + 4 ≤ s.size := by omega
        have q7 : p ≤ p + 4 := by omega
        have q8 : (0 : Int) ≤ (p : Int) := by omega
        go_quiet ((go_at_call 61; exact Calls.quiet_of_same (refIs_q _ false HC.out _)))
        clear q1 q2 q3 q4 q5 q6 q7 q8
        go_wp2
        have hm : mat s p 4 = false := by rw [HM.out, HC.out]; rfl
        exact ⟨RefRel.mk 5 (by omega) (by omega) rfl (HF.out.drewN _) (HN.out.next hm), by simp [intOf]⟩
    exfalso
    omega
end Go.Proofs.YtpmlggjhfiljmaaGreatDoor
