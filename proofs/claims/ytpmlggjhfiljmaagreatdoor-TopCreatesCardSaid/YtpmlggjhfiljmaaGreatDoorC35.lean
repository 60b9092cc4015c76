/- Contracts that the law rests on, part 35 of 50 (BnkA, BnkB, BnkC, BnkD). Each states its own conditions. -/
import Derived.Deep.RegionLaw
import Derived.Test.YtpmlggjhfiljmaaGreatDoorC34
/- Layer 7: heads and frames. -/
namespace Go.Proofs.YtpmlggjhfiljmaaGreatDoor
open Go.RowKit
set_option linter.unusedVariables false
set_option linter.unnecessarySimpa false
set_option linter.unusedSimpArgs false
def labB (n : Int) (k : Nat) : Int := n / 2 ^ (56 - 8 * k) % 256
def z64 : Array Value := Array.replicate 64 (.int .u8 0)
theorem make64 (w : World) : (Instr.makeSlice 131 (.int .i64 64) (.int .i64 64)).run Tryz.prog w = .ok (.slice (some ⟨w.heap.size, 0, none⟩) 64 64) (w.alloc (.cells z64 5)) := by kernel_rfl
def labA (n : Int) : Nat → Array Value
  | 0 => z64
  | k + 1 => ((labA n k).setIfInBounds k (.int .u8 (labB n k))).setIfInBounds (8 + k) (.int .u8 (255 - labB n k))
theorem labA_size (n : Int) : ∀ k, (labA n k).size = 64
  | 0 => by simp [labA, z64]
  | k + 1 => by simp [labA, labA_size n k]
def labL (n : Int) : List Int := (List.range 8).map (labB n) ++ (List.range 8).map (fun k => 255 - labB n k) ++ List.replicate 48 0
theorem labL_len (n : Int) : (labL n).length = 64 := by simp [labL]
theorem labA_8 (n : Int) : labA n 8 = ((labL n).map (Value.int .u8)).toArray := by
  apply Array.ext'
  simp only [labA, z64, Array.toList_setIfInBounds, Array.toList_replicate]
  rfl
def lab (n : Int) : ByteArray := strOfNums (labL n)
theorem lab_size (n : Int) : (lab n).size = 64 := by unfold lab; rw [strOfNums_size, labL_len]
theorem xor255_dec : ((List.range 256).all fun a => decide (bits BinOp.xor IntKind.u8 (if IntKind.u8.signed = true then -1 else IntKind.u8.max) (a : Int) = 255 - (a : Int))) = true := by decide +kernel
theorem xor255 {a : Int} (h : 0 ≤ a ∧ a < 256) : bits BinOp.xor IntKind.u8 (if IntKind.u8.signed = true then -1 else IntKind.u8.max) a = 255 - a := by
  have h1 := List.all_eq_true.1 xor255_dec a.toNat (List.mem_range.2 (by omega))
  simp only [decide_eq_true_eq] at h1
  rwa [Int.toNat_of_nonneg h.1] at h1
def LabIs (n : Int) (w : World) (e : Ending) (w' : World) : Prop := e = .returned (.string (lab n)) ∧ Fresh w w'
set_option maxRecDepth 100000 in
set_option maxHeartbeats 1600000 in
theorem label_pos (n : Int) (hn : 0 < n) (h64 : n < 18446744073709551616) (w : World) : Calls Tryz.prog 324 #[.int .u64 n] w (LabIs n w) := by
  have hmk := make64
  go_enter Tryz.func324, Tryz.ntmps324
  go_wp2
  go_loopw [4] (fun i wr => ∃ k : Nat, i = .int .i64 k ∧ k ≤ 8 ∧ Blk wr w.heap.size 5 (labA n k) ∧ Fresh w wr) (fun i _ => 8 - (intOf i).toNat)
  case atStart => exact ⟨0, rfl, by omega, Blk.new _ _ _, (Fresh.refl _).alloc _⟩
  case round =>
    obtain ⟨k, rfl, hk, hb, hf⟩ := hrel
    have HB := Lib.hid hb
    clear hb
    by_cases hlt : k < 8
    · have hsz := labA_size n k
      obtain ⟨v0, hv0⟩ : ∃ v, (labA n k)[k]? = some v := ⟨_, Array.getElem?_eq_getElem (by omega)⟩
      obtain ⟨v1, hv1⟩ : ∃ v, (labA n k)[8 + k]? = some v := ⟨_, Array.getElem?_eq_getElem (by omega)⟩
      have c0 : wr.cell? ⟨w.heap.size, k, none⟩ = some v0 := by rw [HB.out.cell, hv0]
      have c1 : wr.cell? ⟨w.heap.size, 8 + k, none⟩ = some v1 := by rw [HB.out.cell, hv1]
      have f0 : wr.frozen? ⟨w.heap.size, k, none⟩ = false := HB.out.frozen _
      have f1 : wr.frozen? ⟨w.heap.size, 8 + k, none⟩ = false := HB.out.frozen _
      clear hv0 hv1 hsz
      go_wp2
      refine ⟨⟨k + 1, rfl, by omega, ?_, ?_⟩, by simp [intOf]; omega⟩
      · rw [xor255 (by omega)]
        exact (HB.out.set (i := k) (u := .int .u8 (labB n k))).set (i := 8 + k) (u := .int .u8 (255 - labB n k))
      · exact (hf.setCell (p := ⟨w.heap.size, k, none⟩) (Nat.le_refl _) _).setCell (p := ⟨w.heap.size, 8 + k, none⟩) (Nat.le_refl _) _
    · have he : k = 8 := by omega
      subst he
      have HCV := run_convert_bytes_arg (P := Tryz.prog) wr 131 5 Tryz.underlying131 Tryz.underlying5 w.heap.size 0 64 64 (labL n) (by rw [labL_len]) (by
        intro i hi
        have hb := HB.out
        rw [labA_8] at hb
        rw [hb.cell]
        rw [List.getElem?_toArray, List.getElem?_map, List.getD_eq_getElem?_getD, Nat.zero_add, List.getElem?_eq_getElem (by rw [labL_len]; omega)]
        rfl) 9 Tryz.underlying9
      rw [show strOfNums (labL n) = lab n from rfl] at HCV
      go_wp2
      go_ret
      exact ⟨rfl, hf⟩
end Go.Proofs.YtpmlggjhfiljmaaGreatDoor
/- Layer 7: frames. -/
namespace Go.Proofs.YtpmlggjhfiljmaaGreatDoor
open Go.RowKit
set_option linter.unusedVariables false
set_option linter.unnecessarySimpa false
set_option linter.unusedSimpArgs false
def hd2 (n : Nat) : List Int := [(n : Int) / 256 % 256, (n : Int) % 256]
theorem hd2_size (n : Nat) : (strOfNums (hd2 n)).size = 2 := by rw [strOfNums_size]; rfl
/-- the frame of what is left -/
def frS (s : ByteArray) : ByteArray := strOfNums (hd2 s.size) ++ s.extract 0 (min s.size 62) ++ zer (62 - min s.size 62)
theorem frS_size (s : ByteArray) : (frS s).size = 64 := by
  unfold frS
  rw [ByteArray.size_append, ByteArray.size_append, hd2_size, zer_size, ByteArray.size_extract]
  omega
def FrIs (s : ByteArray) (w : World) (e : Ending) (w' : World) : Prop := e = .returned (.string (frS s)) ∧ Fresh w w'
set_option maxRecDepth 100000 in
set_option maxHeartbeats 1600000 in
theorem frame_any (s : ByteArray) (hs : s.size ≤ 100000) (w : World) : Calls Tryz.prog 369 #[.string s] w (FrIs s w) := by
  obtain ⟨hd, hhd⟩ : ∃ hd, strOfNums [IntKind.u8.wrap ((s.size : Int) / 256), IntKind.u8.wrap (s.size : Int)] = hd := ⟨_, rfl⟩
  have hhs : hd.size = 2 := by rw [← hhd, strOfNums_size]; rfl
  have hh2 : strOfNums (hd2 s.size) = hd := by rw [← hhd, IntKind.wrap_u8, IntKind.wrap_u8]; rfl
  have HCV := fun (W : World) (b : Nat) (h0 : W.cell? ⟨b, 0, none⟩ = some (.int .u8 (IntKind.u8.wrap ((s.size : Int) / 256)))) (h1 : W.cell? ⟨b, 1, none⟩ = some (.int .u8 (IntKind.u8.wrap (s.size : Int)))) => run_convert_bytes_arg (P := Tryz.prog) W 131 5 Tryz.underlying131 Tryz.underlying5 b 0 2 2 [IntKind.u8.wrap ((s.size : Int) / 256), IntKind.u8.wrap (s.size : Int)] rfl (by intro i hi; rcases (by omega : i = 0 ∨ i = 1) with rfl | rfl; exact h0; exact h1) 9 Tryz.underlying9
  rw [hhd] at HCV
  have HH2 := Lib.hid hh2
  have HHS := Lib.hid hhs
  clear hhd hh2 hhs
  go_enter Tryz.func369, Tryz.ntmps369
  go_wp2_with fail
  obtain ⟨m, hm⟩ : ∃ m : Nat, min s.size 62 = m := ⟨_, rfl⟩
  have hm2 : (min (s.size : Int) 62).toNat = m := by omega
  obtain ⟨pt, hpt⟩ : ∃ pt, s.extract 0 m = pt := ⟨_, rfl⟩
  have hps : pt.size = m := by rw [← hpt, ByteArray.size_extract]; omega
  rw [hm2, hpt]
  have w1 : IntKind.i64.wrap (62 - (pt.size : Int)) = ((62 - m : Nat) : Int) := by rw [IntKind.wrap_i64]; omega
  have HW := Lib.hid w1
  have HPT := Lib.hid hpt
  have HPS := Lib.hid hps
  have HM := Lib.hid hm
  have hm62 : m ≤ 62 := by omega
  have hn1 : ¬ 9223372036854775807 < hd.size + pt.size := by have := HHS.out; omega
  obtain ⟨zz, hzz⟩ : ∃ zz, zer (62 - m) = zz := ⟨_, rfl⟩
  have hzs : zz.size ≤ 62 := by rw [← hzz, zer_size]; omega
  have hn2 : ¬ 9223372036854775807 < hd.size + pt.size + zz.size := by have := HHS.out; omega
  have hn3 : ¬ 9223372036854775807 < (hd ++ pt).size + zz.size := by rw [ByteArray.size_append]; exact hn2
  have hfin : hd ++ pt ++ zz = frS s := by unfold frS; rw [HH2.out, hm, hpt, hzz]
  have HZZ := Lib.hid hzz
  have HFIN := Lib.hid hfin
  clear hm hm2 hpt hps w1 hzz hfin hzs
  go_region_law (first
      | (go_simp; go_at_call 138; rw [HW.out]; have hrp := repeat_any (62 - m); rw [HZZ.out] at hrp; refine (hrp _ (by omega)).mono ?_; rintro e w4 ⟨rfl, hf4⟩; have hc4 : ∀ b o, b < _ → w4.cell? ⟨b, o, none⟩ = _ := fun b o h => Below.cell hf4 (p := ⟨b, o, none⟩) h))
  all_goals
    go_wp2
    go_ret
    exact ⟨by rw [← HFIN.out]; rfl, by repeat (first | exact Fresh.refl _ | assumption | refine Fresh.drew ?_ | refine Fresh.alloc ?_ _ | refine Fresh.trans ?_ (by assumption))⟩
end Go.Proofs.YtpmlggjhfiljmaaGreatDoor
/- Layer 7: what is written. -/
namespace Go.Proofs.YtpmlggjhfiljmaaGreatDoor
open Go.RowKit
set_option linter.unusedVariables false
set_option linter.unnecessarySimpa false
set_option linter.unusedSimpArgs false
def labS (n : Int) : ByteArray := if n = 0 then zer 64 else lab n
theorem labS_size (n : Int) : (labS n).size = 64 := by unfold labS; split; exact zer_size _; exact lab_size _
set_option maxRecDepth 100000 in
set_option maxHeartbeats 1600000 in
theorem label_zero (w : World) : Calls Tryz.prog 324 #[.int .u64 0] w fun e w' => e = .returned (.string (zer 64)) ∧ Fresh w w' := by
  have hmk := make64
  have hb := Blk.new w 5 z64
  have HCV := fun (W : World) (h : W = w.alloc (.cells z64 5)) => run_convert_bytes_arg (P := Tryz.prog) W 131 5 Tryz.underlying131 Tryz.underlying5 w.heap.size 0 64 64 (List.replicate 64 0) (by simp) (by
    intro i hi
    rw [h, hb.cell]
    unfold z64
    rw [Nat.zero_add, Array.getElem?_replicate, if_pos hi, List.getD_eq_getElem?_getD, List.getElem?_replicate, if_pos hi]
    rfl) 9 Tryz.underlying9
  have HZ := HCV _ rfl
  have e : strOfNums (List.replicate 64 0) = zer 64 := by decide +kernel
  rw [e] at HZ
  clear HCV e hb
  go_enter Tryz.func324, Tryz.ntmps324
  go_wp2
  refine wp_loop_rounds 1 ?_
  rw [rounds_succ]
  go_wp2
  go_ret
  exact ⟨rfl, (Fresh.refl _).alloc _⟩
theorem label_any (n : Int) (h : 0 ≤ n) (h64 : n < 18446744073709551616) (w : World) : Calls Tryz.prog 324 #[.int .u64 n] w fun e w' => e = .returned (.string (labS n)) ∧ Fresh w w' := by
  by_cases e : n = 0
  · subst e
    exact label_zero w
  · have : labS n = lab n := by unfold labS; rw [if_neg e]
    rw [this]
    exact label_pos n (by omega) h64 w
/-- how many frames a record has -/
def kfr (n : Nat) : Nat := if n = 0 then 0 else (n - 1) / 62 + 1
set_option maxHeartbeats 800000 in
theorem frames1_any (n : Nat) (h : n ≤ 1000000) (w : World) : Calls Tryz.prog 278 #[.int .i64 n] w fun e w' => e = .returned (.int .i64 (kfr n)) ∧ w = w' := by
  by_cases e : n = 0
  · subst e
    go_enter Tryz.func278, Tryz.ntmps278
    go_wp2
    go_ret
    exact ⟨rfl, rfl⟩
  · have h1 : ¬ (n : Int) < 1 := by omega
    have h2 : (0 : Int) ≤ (n : Int) - 1 := by omega
    have hk : ((n : Int) - 1) / 62 + 1 = ((kfr n : Nat) : Int) := by unfold kfr; rw [if_neg e]; omega
    have HK := Lib.hid hk
    clear hk
    go_enter Tryz.func278, Tryz.ntmps278
    go_wp2
    go_ret
    exact ⟨ret_int HK.out, rfl⟩
section
variable (F : Nat → Prop) (p : Nat) (n : Int) (D : Int → ByteArray) (q : Nat) (w : World)
theorem power_any (h : DevAt w F p n D q) : Calls Tryz.prog 325 #[.pointer (some ⟨p, 0, none⟩)] w fun e w' => e = .returned (.int .i64 0) ∧ Fresh w w' := by
  have HG := Lib.hid (get_out F p n D q w h (-1) (by omega) (by omega))
  go_enter Tryz.func325, Tryz.ntmps325
  go_wp2_with fail
  refine HG.out.mono ?_
  rintro e w1 ⟨rfl, hf⟩
  go_wp2
  go_ret
  exact ⟨rfl, hf⟩
theorem on_any (h : DevAt w F p n D q) (f s : Int) (h1 : 1 ≤ s) (h2 : 0 ≤ f) (h3 : f + s ≤ n) (hn : n ≤ 1000000) : Calls Tryz.prog 326 #[.pointer (some ⟨p, 0, none⟩), .int .i64 f, .int .i64 s] w fun e w' => e = .returned (.bool true) ∧ w = w' := by
  have HS := Lib.hid (devSize_any F p n D q w h)
  have h4 : f ≤ n - s := by omega
  go_enter Tryz.func326, Tryz.ntmps326
  go_wp2_with fail
  refine HS.out.mono ?_
  rintro e w1 ⟨rfl, rfl⟩
  go_wp2
  go_ret
  exact ⟨rfl, rfl⟩
set_option maxHeartbeats 800000 in
theorem setEpoch_any (h : DevAt w F p n D q) (f e : Int) (hf : 0 ≤ f ∧ f < n) (hn : n ≤ 1000000) (hq : q ≤ 100000) (he : 0 ≤ e) (h64 : e < 18446744073709551616) :
    Calls Tryz.prog 303 #[.pointer (some ⟨p, 0, none⟩), .int .i64 f, .int .u64 e] w (DevPost F p n (upd D f (labS e)) (q + 1) w (.int .i64 0)) := by
  have HL := Lib.hid (label_any e he h64 w)
  have HD := Lib.hid h
  go_enter Tryz.func303, Tryz.ntmps303
  go_wp2_with fail
  refine HL.out.mono ?_
  rintro e1 w1 ⟨rfl, hf1⟩
  have HP := Lib.hid (put_any F p n D q w1 (HD.out.fresh hf1) f hf hn (labS e) (labS_size e) hq)
  go_wp2_with fail
  refine HP.out.mono ?_
  rintro e1 w2 ⟨rfl, F', hd, hm, hg⟩
  go_wp2
  go_ret
  exact ⟨rfl, F', hd, hf1.andMut hm, hg.ahead hf1.size⟩
set_option maxHeartbeats 1600000 in
theorem wipe_zero (h : DevAt w F p n D q) (f s a : Int) (h1 : 1 ≤ s) (h2 : 0 ≤ f) (h3 : f + s ≤ n) (hn : n ≤ 1000000) (ha : 1 ≤ a) (ha2 : a ≤ s) (hz : ∀ i, f + a ≤ i → i < f + s → D i = zer 64) :
    Calls Tryz.prog 260 #[.pointer (some ⟨p, 0, none⟩), .int .i64 f, .int .i64 s, .int .i64 a] w fun e w' => e = .returned (.int .i64 0) ∧ Fresh w w' := by
  have HD := Lib.hid h
  have HZ := Lib.hid hz
  have HP := Lib.hid (power_any F p n D q w h)
  clear h hz
  have hmx : max a 1 = a := by omega
  have HM := Lib.hid hmx
  clear hmx
  go_enter Tryz.func260, Tryz.ntmps260
  go_wp2_with fail
  refine HP.out.mono ?_
  rintro e w1 ⟨rfl, hf1⟩
  have HO := Lib.hid (on_any F p n D q w1 (HD.out.fresh hf1) f s h1 h2 h3 hn)
  go_wp2_with fail
  refine HO.out.mono ?_
  rintro e w2 ⟨rfl, rfl⟩
  go_wp2_with fail
  refine (repeat_any 64 _ (by omega)).mono ?_
  rintro e w2 ⟨rfl, hf2⟩
  have HF := Lib.hid (hf1.trans hf2)
  clear hf1 hf2
  go_wp2
  go_loopw [10] (fun i wr => ∃ k : Int, i = .int .i64 k ∧ a ≤ k ∧ k ≤ s ∧ Fresh w wr) (fun i _ => (s - intOf i).toNat)
  case atStart => exact ⟨a, by rw [HM.out], by omega, by omega, HF.out⟩
  case round =>
    obtain ⟨k, rfl, hk1, hk2, hf⟩ := hrel
    by_cases hlt : k < s
    · have HG := Lib.hid (get_any F p n D q wr (HD.out.fresh hf) (f + k) (by omega) hn)
      rw [HZ.out (f + k) (by omega) (by omega)] at HG
      go_wp2_with fail
      refine HG.out.mono ?_
      rintro e w3 ⟨rfl, hf3⟩
      have hf4 := hf.trans hf3
      go_wp2
      go_roundw
      case rel => exact ⟨k + 1, rfl, by omega, by omega, hf4⟩
      case measure => simp [intOf]; omega
    · go_wp2
      go_ret
      exact ⟨rfl, hf⟩
/-- the record's frames are written from b on -/
def wrD (D : Int → ByteArray) (b : Int) (r : ByteArray) : Nat → Int → ByteArray
  | 0 => D
  | k + 1 => upd (wrD D b r k) (b + k) (frS (r.extract (k * 62) r.size))
def WrittenPost (F : Nat → Prop) (p : Nat) (n : Int) (D : Int → ByteArray) (q : Nat) (w : World) (r : Int) (e : Ending) (w' : World) : Prop := e = .returned (.tuple #[.int .i64 r, .int .i64 0]) ∧ ∃ F', DevAt w' F' p n D q ∧ Mut F w w' ∧ Gr F w w' F'
set_option maxRecDepth 100000 in
set_option maxHeartbeats 1600000 in
theorem write_any (h : DevAt w F p n D q) (f s a : Int) (r : ByteArray) (h1 : 1 ≤ s) (h2 : 0 ≤ f) (h3 : f + s ≤ n) (hn : n ≤ 1000000) (ha : 1 ≤ a) (hr : 1 ≤ r.size) (hr2 : r.size ≤ 60000) (hfit : a + kfr r.size ≤ s) (hq : q + kfr r.size ≤ 90000) :
    Calls Tryz.prog 349 #[.pointer (some ⟨p, 0, none⟩), .int .i64 f, .int .i64 s, .int .i64 a, .string r] w (WrittenPost F p n (wrD D (f + a) r (kfr r.size)) (q + kfr r.size) w (a + kfr r.size)) := by
  have HD := Lib.hid h
  have HP := Lib.hid (fun W h => power_any F p n D q W h)
  have HK := Lib.hid (fun W => frames1_any r.size (by omega) W)
  obtain ⟨m, hm⟩ : ∃ m, kfr r.size = m := ⟨_, rfl⟩
  have hm1 : 1 ≤ m := by rw [← hm]; unfold kfr; split <;> omega
  have hm2 : (m - 1) * 62 < r.size := by rw [← hm]; unfold kfr; split <;> omega
  rw [hm] at HK hfit hq ⊢
  clear h hm
  have hmz : ((m : Int) == 0) = false := by simp only [beq_eq_false_iff_ne]; omega
  have hss : a ≤ s - m := by omega
  go_enter Tryz.func349, Tryz.ntmps349
  go_wp2_with fail
  refine (HK.out _).mono ?_
  rintro e w1 ⟨rfl, rfl⟩
  go_wp2_with fail
  refine (HP.out _ HD.out).mono ?_
  rintro e w1 ⟨rfl, hf1⟩
  have HO := Lib.hid (on_any F p n D q w1 (HD.out.fresh hf1) f s h1 h2 h3 hn)
  go_wp2_with fail
  refine HO.out.mono ?_
  rintro e w2 ⟨rfl, rfl⟩
  go_wp2
  go_loopw [47] (fun i wr => ∃ k : Nat, i = .int .i64 k ∧ k ≤ m ∧ ∃ F', DevAt wr F' p n (wrD D (f + a) r k) (q + k) ∧ Mut F w wr ∧ Gr F w wr F') (fun i _ => m - (intOf i).toNat)
  case atStart => exact ⟨0, rfl, by omega, F, HD.out.fresh hf1, hf1.mut _, fun k h => .inl h⟩
  case round =>
    obtain ⟨k, rfl, hk1, F', hd, hm, hg⟩ := hrel
    by_cases hlt : k < m
    · have hkr : k * 62 < r.size := by have : k * 62 ≤ (m - 1) * 62 := Nat.mul_le_mul_right _ (by omega); omega
      have HDk := Lib.hid hd
      go_wp2_with fail
      refine (frame_any _ (by rw [ByteArray.size_extract]; omega) _).mono ?_
      rintro e w3 ⟨rfl, hf3⟩
      have HPk := Lib.hid (fun b hb => put_any F' p n _ (q + k) w3 (HDk.out.fresh hf3) (f + a + k) (by omega) hn b hb (by omega))
      go_wp2_with fail
      refine (HPk.out _ (frS_size _)).mono ?_
      rintro e w4 ⟨rfl, F4, hd4, hm4, hg4⟩
      have HH := Lib.hid (And.intro (hm.andFresh hf3 |>.trans2 hm4 (fun _ h => h) (fun j hj h => (hg j h).elim id (fun q => absurd q.1 (by omega)))) (And.intro hg (And.intro hg4 (And.intro hf3.size (And.intro hm4.size hm.size)))))
      clear hm hg hm4 hg4 hd hf3
      go_wp2
      go_roundw
      case rel =>
        obtain ⟨g1, g2, g3, g4, g5, g6⟩ := HH.out
        exact ⟨k + 1, by go_num, by omega, F4, hd4, g1, (g2.later g4).trans g3 (by omega) g5⟩
      case measure => simp [intOf]; omega
    · have hkm : k = m := by omega
      subst hkm
      go_wp2
      go_ret2
      exact ⟨rfl, F', hd, hm, hg⟩
end
end Go.Proofs.YtpmlggjhfiljmaaGreatDoor
/- Layer 7: what is read. -/
namespace Go.Proofs.YtpmlggjhfiljmaaGreatDoor
open Go.RowKit
set_option linter.unusedVariables false
set_option linter.unnecessarySimpa false
set_option linter.unusedSimpArgs false
theorem infoStr : (Tryz.prog.info? 9).map (fun i => (i.zero, i.size, i.bytes)) = some (some (.string ByteArray.empty), 1, 16) := by kernel_rfl
def strs (l : List ByteArray) : List Value := l.map .string
theorem strs_len (l : List ByteArray) : (strs l).length = l.length := by simp [strs]
/-- one's own slice of strings -/
def OwnL (w : World) (A : Nat → Prop) (v : Value) (l : List ByteArray) : Prop := OwnA w A 9 1 v l.length (strs l)
/-- a slice of strings that is read -/
def SlS (w : World) (A : Nat → Prop) (v : Value) (l : List ByteArray) : Prop := SlG w A v 1 l.length (strs l)
theorem OwnL.sl {w : World} {A : Nat → Prop} {v : Value} {l : List ByteArray} (h : OwnL w A v l) : SlS w A v l := OwnA.sl h
def secs (D : Int → ByteArray) (f : Int) (k : Nat) : List ByteArray := (List.range k).map fun j : Nat => D (f + j)
theorem secs_len (D : Int → ByteArray) (f : Int) (k : Nat) : (secs D f k).length = k := by simp [secs]
theorem secs_succ (D : Int → ByteArray) (f : Int) (k : Nat) : secs D f (k + 1) = secs D f k ++ [D (f + k)] := by simp [secs, List.range_succ]
def FramesPost (l : List ByteArray) (w : World) (e : Ending) (w' : World) : Prop := ∃ v, e = .returned (.tuple #[v, .int .i64 0]) ∧ OwnL w' (fun g => w.heap.size ≤ g) v l ∧ Fresh w w'
section
variable (F : Nat → Prop) (p : Nat) (n : Int) (D : Int → ByteArray) (q : Nat) (w : World)
set_option maxRecDepth 100000 in
set_option maxHeartbeats 1600000 in
theorem frames_any (h : DevAt w F p n D q) (f : Int) (s : Nat) (h2 : 0 ≤ f) (h3 : f + s ≤ n) (hn : n ≤ 1000000) :
    Calls Tryz.prog 327 #[.pointer (some ⟨p, 0, none⟩), .int .i64 f, .int .i64 s] w (FramesPost (secs D f s) w) := by
  have HD := Lib.hid h
  clear h
  obtain ⟨i0, hi0, hz0, hz1, hz2⟩ := info_partsG infoStr
  go_enter Tryz.func327, Tryz.ntmps327
  go_wp2
  go_loopw [8, 13] (fun v i wr => ∃ k : Nat, i = .int .i64 k ∧ k ≤ s ∧ OwnL wr (fun g => w.heap.size ≤ g) v (secs D f k) ∧ Fresh w wr) (fun _ i _ => s - (intOf i).toNat)
  case atStart => exact ⟨0, rfl, by omega, OwnA.nil _ _ _ _, Fresh.refl _⟩
  case round =>
    obtain ⟨k, rfl, hk1, hown, hf⟩ := hrel
    by_cases hlt : k < s
    · have HG := Lib.hid (get_any F p n D q wr (HD.out.fresh hf) (f + k) (by omega) hn)
      unfold OwnL at hown
      rw [secs_len] at hown
      have hcl : (secs D f k).length = k := secs_len D f k
      go_wp2_with fail
      refine HG.out.mono ?_
      rintro e w3 ⟨rfl, hf3⟩
      have hf4 := Lib.hid (hf.trans hf3)
      go_wp2_with (at_builtin; refine wpList_append_ownA _ rfl _ _ 38 rfl (fun g => w.heap.size ≤ g) 9 i0 _ 1 16 Tryz.underlying38 hi0 hz0 hz1 hz2 rfl (by decide) _ k _ rfl (hown.fresh (hf3.alloc _)) ⟨w3.heap.size, 0, none⟩ 1 1 [.string (D (f + k))] rfl rfl (newCells _ _ _) (by intro u hu; simp at hu; rcases hu with rfl; rfl) (by omega) (by decide) ?_; intro a' c' w2 o2 u2)
      have HZ := Lib.hid (And.intro (OwnA.grew o2 (by have := hf4.out.size; simp; omega)) ((hf4.out.alloc _).mut2 u2 (fun j hj => hown.2 j hj)))
      clear o2 u2 hown
      go_roundw
      case rel =>
        obtain ⟨g1, g2⟩ := HZ.out
        refine ⟨k + 1, by go_num, by omega, ?_, g2⟩
        unfold OwnL
        rw [secs_len, secs_succ]
        unfold strs at *
        rw [List.map_append]
        exact g1
      case measure => simp [intOf]; omega
    · have hks : k = s := by omega
      subst hks
      go_wp2
      go_ret2
      exact ⟨_, rfl, hown, hf⟩
end
def EpPost (e : Int) (w : World) (en : Ending) (w' : World) : Prop := en = .returned (.tuple #[.int .u64 e, .int .i64 0]) ∧ Fresh w w'
def EpRel (e : Int) (w : World) (n i : Value) (wr : World) : Prop := ∃ k : Nat, i = .int .i64 k ∧ ((k < 8 ∧ n = .int .u64 0) ∨ (k = 8 ∧ n = .int .u64 e)) ∧ Fresh w wr
section
variable (F : Nat → Prop) (p : Nat) (n : Int) (D : Int → ByteArray) (q : Nat) (w : World)
set_option maxRecDepth 100000 in
set_option maxHeartbeats 1600000 in
theorem epoch_of (h : DevAt w F p n D q) (f e : Int) (h2 : 0 ≤ f ∧ f < n) (hn : n ≤ 1000000) (t : ByteArray) (ht : (D f).extract 0 8 = t) (hts : t.size = 8) (hB : ∀ j, j < 8 → B t j = if j = 7 then e else 0) (hl : labS e = D f) (he : 0 ≤ e ∧ e < 256) (hor : bits .or .u64 0 e = e) :
    Calls Tryz.prog 258 #[.pointer (some ⟨p, 0, none⟩), .int .i64 f] w (EpPost e w) := by
  have HG := Lib.hid (get_any F p n D q w h f h2 hn)
  have hDs : (D f).size = 64 := by rw [← hl]; exact labS_size e
  obtain ⟨b, hb⟩ : ∃ b, D f = b := ⟨_, rfl⟩
  rw [hb] at HG hl ht hDs
  have HL := Lib.hid hl
  have HT := Lib.hid ht
  have HTS := Lib.hid hts
  have HBB := Lib.hid hB
  have HOR := Lib.hid hor
  have hb8 : 8 ≤ b.size := by omega
  have hcv := fun W : World => Lib.run_convert_string_bytes (P := Tryz.prog) W 9 131 5 t Tryz.underlying9 Tryz.underlying131 Tryz.underlying5
  rw [hts] at hcv
  have HCELL := Lib.hid (fun (W : World) (j : Nat) (hj : j < t.size) => Lib.bytesWorld_cell W 5 t j hj)
  have HFW : Hid (∀ W : World, Fresh W (Lib.bytesWorld W 5 t)) := Lib.hid (fun W => fresh_bytes W _ _)
  have HLT : Hid (∀ W : World, W.heap.size < (Lib.bytesWorld W 5 t).heap.size) := Lib.hid (fun W => by rw [Lib.bytesWorld_size]; omega)
  clear hl hts hB hor hb hDs h
  go_enter Tryz.func258, Tryz.ntmps258
  go_wp2_with fail
  refine HG.out.mono ?_
  rintro e1 w1 ⟨rfl, hf1⟩
  go_wp2
  have HF1 := Lib.hid hf1
  clear hf1 ht
  go_loopw [8, 24] (fun m i wr => EpRel e (Lib.bytesWorld w1 5 t) m i wr) (fun _ i _ => 8 - (intOf i).toNat)
  case atStart => exact ⟨0, rfl, .inl ⟨by omega, rfl⟩, Fresh.refl _⟩
  case round =>
    obtain ⟨k, rfl, hk, hf⟩ := hrel
    rcases hk with ⟨hk, rfl⟩ | ⟨rfl, rfl⟩
    · have c1 : wr.cell? ⟨w1.heap.size, k, none⟩ = some (.int .u8 (B t k)) := (Below.cell hf (p := ⟨w1.heap.size, k, none⟩) (HLT.out w1)).trans (HCELL.out w1 k (by rw [HTS.out]; exact hk))
      rw [HBB.out k hk] at c1
      by_cases h7 : k = 7
      · subst h7
        rw [if_pos rfl] at c1
        have hor := HOR.out
        go_wp2
        go_roundw
        case rel => exact ⟨8, rfl, .inr ⟨rfl, rfl⟩, hf⟩
        case measure => simp [intOf]
      · rw [if_neg h7] at c1
        have hor : bits .or .u64 0 0 = 0 := by decide
        have hk7 : k < 7 := by omega
        clear h7
        go_wp2
        go_roundw
        case rel => exact ⟨k + 1, by go_num, .inl ⟨by omega, rfl⟩, hf⟩
        case measure => simp [intOf]; omega
    · have HLB := Lib.hid (fun W => label_any e he.1 (by omega) W)
      rw [HL.out] at HLB
      go_wp2_with fail
      refine (HLB.out _).mono ?_
      rintro e2 w2 ⟨rfl, hf2⟩
      go_wp2
      go_ret2
      exact ⟨rfl, HF1.out.trans ((HFW.out w1).trans (hf.trans hf2))⟩
end
theorem lab1_B : ((List.range 8).all fun j => decide (B ((labS 1).extract 0 8) j = if j = 7 then 1 else 0)) = true := by decide +kernel
theorem lab0_B : ((List.range 8).all fun j => decide (B ((labS 0).extract 0 8) j = if j = 7 then 0 else 0)) = true := by decide +kernel
theorem epoch_any (F : Nat → Prop) (p : Nat) (n : Int) (D : Int → ByteArray) (q : Nat) (w : World) (h : DevAt w F p n D q) (f e : Int) (h2 : 0 ≤ f ∧ f < n) (hn : n ≤ 1000000) (he : e = 0 ∨ e = 1) (hl : D f = labS e) :
    Calls Tryz.prog 258 #[.pointer (some ⟨p, 0, none⟩), .int .i64 f] w (EpPost e w) := by
  refine epoch_of F p n D q w h f e h2 hn _ rfl (by rw [ByteArray.size_extract, hl, labS_size]; decide) ?_ hl.symm (by omega) (by rcases he with rfl | rfl <;> decide)
  intro j hj
  rw [hl]
  rcases he with rfl | rfl
  · have := List.all_eq_true.1 lab0_B j (List.mem_range.2 hj); simpa using this
  · have := List.all_eq_true.1 lab1_B j (List.mem_range.2 hj); simpa using this
end Go.Proofs.YtpmlggjhfiljmaaGreatDoor
