/- euro, single. -/
import Derived.Test.YtakddihadfdkpaaChaD
namespace Go.Proofs.Ytakddihadfdkpaa
open Go.RowKit
set_option linter.unusedVariables false

set_option maxHeartbeats 400000 in
theorem euro_any (w : World) :
    Calls Try.prog 33 #[] w fun e w' => e = .returned (.tuple #[.slice (some ⟨w.heap.size, 0, none⟩) 8 8, .slice (some ⟨w.heap.size + 1, 0, none⟩) 8 8]) ∧ Fresh w w' ∧
      Blk w' w.heap.size 5 (euB.map (Value.int .u8)).toArray ∧ Blk w' (w.heap.size + 1) 21 (euR.map (Value.int .i32)).toArray := by
  go_enter Try.func33, Try.ntmps33
  go_wp2
  go_ret2
  refine ⟨rfl, ((Fresh.refl _).alloc _).alloc _, (Blk.new w _ _).keep ((Fresh.refl _).alloc _), ?_⟩
  have := Blk.new (w.alloc (.cells (euB.map (Value.int .u8)).toArray 5)) 21 (euR.map (Value.int .i32)).toArray
  have e : (w.alloc (.cells (euB.map (Value.int .u8)).toArray 5)).heap.size = w.heap.size + 1 := by simp
  rw [e] at this
  exact this
def SingleIs (r : Int) (w : World) (e : Ending) (w' : World) : Prop := e = .returned (.int .i32 r) ∧ Fresh w w'
theorem SingleIs.mk {r a : Int} {w w' : World} (h : r = a) (hf : Fresh w w') : SingleIs r w (.returned (.int .i32 a)) w' := ⟨by rw [h], hf⟩
set_option maxHeartbeats 400000 in
theorem single_low (enc b : Int) (hb : 0 ≤ b) (hb2 : b < 256) (h : b < 128 ∨ enc = 1 ∨ (enc = 2 ∧ b < 160)) (w : World) :
    Calls Try.prog 17 #[.int .i64 enc, .int .u8 b] w (SingleIs (oneI enc b) w) := by
  have HZ : Hid (oneI enc b = b) := by
    unfold oneI
    by_cases h1 : b < 128 ∨ enc = 1
    · rw [if_pos h1]; exact rfl
    · rw [if_neg h1, if_pos (by omega), if_pos (by omega)]; exact rfl
  by_cases h1 : b < 128
  · clear h
    go_enter Try.func17, Try.ntmps17
    go_wp2_with fail
    refine (upper_any _ _).mono ?_
    rintro e w1 ⟨rfl, rfl⟩
    generalize rowS enc = R
    generalize fromI enc = f
    go_wp2
    go_ret
    exact SingleIs.mk HZ.out (Fresh.refl _)
  · rcases h with h | h | ⟨h, h2⟩
    · exact absurd h h1
    · subst h
      go_enter Try.func17, Try.ntmps17
      go_wp2_with fail
      refine (upper_any _ _).mono ?_
      rintro e w1 ⟨rfl, rfl⟩
      generalize rowS 1 = R
      generalize fromI 1 = f
      go_wp2
      go_ret
      exact SingleIs.mk HZ.out (Fresh.refl _)
    · subst h
      go_enter Try.func17, Try.ntmps17
      go_wp2_with fail
      refine (upper_any _ _).mono ?_
      rintro e w1 ⟨rfl, rfl⟩
      generalize rowS 2 = R
      generalize fromI 2 = f
      go_wp2
      go_ret
      exact SingleIs.mk HZ.out (Fresh.refl _)
theorem row_ne : (L2S.toList.isEmpty = false ∧ C4S.toList.isEmpty = false) ∧ C8S.toList.isEmpty = false := by decide +kernel
set_option maxHeartbeats 400000 in
theorem single_row (enc b f : Int) (R : ByteArray) (l : List Int) (hR : rowS enc = R) (hf : fromI enc = f) (hl : rowI enc = l) (hne : R.toList.isEmpty = false) (hb : 128 ≤ b) (hb2 : b < 256) (hfb : f ≤ b) (hf0 : 128 ≤ f)
    (e1 : (enc == 1) = false) (e2 : (enc == 2 && decide (b < 160)) = false) (h2 : enc ≠ 2 ∨ 160 ≤ b) (w : World) :
    Calls Try.prog 17 #[.int .i64 enc, .int .u8 b] w (SingleIs (l.getD (b - f).toNat (-1)) w) := by
  have hd := row_dec enc
  rw [hR, hl] at hd
  have HD := Lib.hid hd
  have HR := Lib.hid hR
  have HF := Lib.hid hf
  have hn2 : ¬ R.toList = [] := by intro h; rw [h] at hne; cases hne
  clear hd hR hf hl e2
  by_cases c2 : enc = 2
  · subst c2
    have c3 : 160 ≤ b := by omega
    clear h2 e1
    go_enter Try.func17, Try.ntmps17
    go_wp2_with fail
    refine (upper_any _ _).mono ?_
    rintro e w1 ⟨rfl, rfl⟩
    rw [HR.out, HF.out]
    go_wp2_with fail
    refine (at_any R l (b - f) _ HD.out (by omega) (by omega)).mono ?_
    rintro e w2 ⟨rfl, h2⟩
    go_wp2
    go_ret
    exact SingleIs.mk rfl h2
  · have c3 : (enc == 2) = false := by simp [c2]
    clear h2 c2
    go_enter Try.func17, Try.ntmps17
    go_wp2_with fail
    refine (upper_any _ _).mono ?_
    rintro e w1 ⟨rfl, rfl⟩
    rw [HR.out, HF.out]
    go_wp2_with fail
    refine (at_any R l (b - f) _ HD.out (by omega) (by omega)).mono ?_
    rintro e w2 ⟨rfl, h2⟩
    go_wp2
    go_ret
    exact SingleIs.mk rfl h2
def EuRel (b : Int) (w : World) (i : Value) (wr : World) : Prop := ∃ k : Nat, i = .int .i64 k ∧ k ≤ 8 ∧ euI euB euR b = euI (euB.drop k) (euR.drop k) b ∧ Fresh w wr
theorem eu_step {k : Nat} (hk : k < 8) (b : Int) : euI (euB.drop k) (euR.drop k) b = if euB.getD k 0 = b then euR.getD k 0 else euI (euB.drop (k + 1)) (euR.drop (k + 1)) b := by
  match k, hk with
  | 0, _ => rfl
  | 1, _ => rfl
  | 2, _ => rfl
  | 3, _ => rfl
  | 4, _ => rfl
  | 5, _ => rfl
  | 6, _ => rfl
  | 7, _ => rfl
set_option maxHeartbeats 800000 in
theorem single_three (b : Int) (hb : 128 ≤ b) (hb2 : b < 256) (w : World) :
    Calls Try.prog 17 #[.int .i64 3, .int .u8 b] w (SingleIs (oneI 3 b) w) := by
  have HO : Hid (oneI 3 b = euI euB euR b) := by unfold oneI; rw [if_neg (by omega), if_neg (by omega), if_pos rfl]; exact rfl
  have HR : Hid (rowS 3 = ByteArray.empty) := rfl
  have HF : Hid (fromI 3 = 0) := rfl
  go_enter Try.func17, Try.ntmps17
  go_wp2_with fail
  refine (upper_any _ _).mono ?_
  rintro e w1 ⟨rfl, rfl⟩
  rw [HR.out, HF.out]
  go_wp2_with fail
  refine (euro_any _).mono ?_
  rintro e w1 ⟨rfl, h1, hblk1, hblk2⟩
  go_wp2
  go_loopw [47] (fun i wr => EuRel b w1 i wr) (fun i _ => 8 - (intOf i).toNat)
  case atStart => exact ⟨0, rfl, by omega, rfl, Fresh.refl _⟩
  case round =>
    obtain ⟨k, rfl, hk, heu, hf⟩ := hrel
    have HEU := Lib.hid heu
    clear heu
    by_cases hlt : k < 8
    · have c1 : wr.cell? ⟨w.heap.size, k, none⟩ = some (.int .u8 (euB.getD k 0)) := by
        rw [(hblk1.keep hf).cell]
        have : k < euB.length := hlt
        simp [List.getD_eq_getElem?_getD, this]
      have c2 : wr.cell? ⟨w.heap.size + 1, k, none⟩ = some (.int .i32 (euR.getD k 0)) := by
        rw [(hblk2.keep hf).cell]
        have : k < euR.length := hlt
        simp [List.getD_eq_getElem?_getD, this]
      have HS := Lib.hid (eu_step hlt b)
      generalize euB.getD k 0 = x at c1 HS
      generalize euR.getD k 0 = y at c2 HS
      by_cases hx : x = b
      · have hb1 : (x == b) = true := by simp [hx]
        have HX := Lib.hid hx
        clear hx
        go_wp2
        go_ret
        exact SingleIs.mk (by rw [HO.out, HEU.out, HS.out, if_pos HX.out]) (h1.trans hf)
      · have hb1 : (x == b) = false := by simp [hx]
        have HX := Lib.hid hx
        clear hx
        go_wp2
        exact ⟨⟨k + 1, by rw [Int.natCast_add]; rfl, by omega, by rw [HEU.out, HS.out, if_neg HX.out], hf⟩, by simp [intOf]; omega⟩
    · have hk8 : k = 8 := by omega
      subst hk8
      go_wp2
      go_ret
      exact SingleIs.mk (by rw [HO.out, HEU.out]; rfl) (h1.trans hf)
set_option maxHeartbeats 400000 in
theorem single_zero (b : Int) (hb : 128 ≤ b) (hb2 : b < 256) (w : World) :
    Calls Try.prog 17 #[.int .i64 0, .int .u8 b] w (SingleIs (oneI 0 b) w) := by
  have HO : Hid (oneI 0 b = -1) := by unfold oneI; rw [if_neg (by omega), if_neg (by omega), if_neg (by omega), if_neg (by omega), if_neg (by omega), if_neg (by omega)]; exact rfl
  have HR : Hid (rowS 0 = ByteArray.empty) := rfl
  have HF : Hid (fromI 0 = 0) := rfl
  go_enter Try.func17, Try.ntmps17
  go_wp2_with fail
  refine (upper_any _ _).mono ?_
  rintro e w1 ⟨rfl, rfl⟩
  rw [HR.out, HF.out]
  go_wp2
  go_ret
  exact SingleIs.mk HO.out (Fresh.refl _)
theorem single_any (enc b : Int) (h0 : 0 ≤ enc) (h5 : enc ≤ 5) (hb : 0 ≤ b) (hb2 : b < 256) (w : World) :
    Calls Try.prog 17 #[.int .i64 enc, .int .u8 b] w (SingleIs (oneI enc b) w) := by
  by_cases h : b < 128 ∨ enc = 1 ∨ (enc = 2 ∧ b < 160)
  · exact single_low enc b hb hb2 h w
  by_cases e0 : enc = 0
  · subst e0; exact single_zero b (by omega) hb2 w
  by_cases e3 : enc = 3
  · subst e3; exact single_three b (by omega) hb2 w
  by_cases e2 : enc = 2
  · subst e2
    have e : oneI 2 b = L2I.getD (b - 160).toNat (-1) := by unfold oneI; rw [if_neg (by omega), if_pos rfl, if_neg (by omega)]
    rw [e]
    exact single_row 2 b 160 L2S L2I rfl rfl rfl row_ne.1.1 (by omega) hb2 (by omega) (by omega) rfl (by simp; omega) (by omega) w
  by_cases e4 : enc = 4
  · subst e4
    have e : oneI 4 b = C4I.getD (b - 128).toNat (-1) := by unfold oneI; rw [if_neg (by omega), if_neg (by omega), if_neg (by omega), if_pos rfl]
    rw [e]
    exact single_row 4 b 128 C4S C4I rfl rfl rfl row_ne.1.2 (by omega) hb2 (by omega) (by omega) rfl rfl (by omega) w
  · have e5 : enc = 5 := by omega
    subst e5
    have e : oneI 5 b = C8I.getD (b - 128).toNat (-1) := by unfold oneI; rw [if_neg (by omega), if_neg (by omega), if_neg (by omega), if_neg (by omega), if_pos rfl]
    rw [e]
    exact single_row 5 b 128 C8S C8I rfl rfl rfl row_ne.2 (by omega) hb2 (by omega) (by omega) rfl rfl (by omega) w
end Go.Proofs.Ytakddihadfdkpaa
