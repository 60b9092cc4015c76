/- Contracts that the law rests on, part 2 of 50 (UtfP, UtfA, UtfB). Each states its own conditions. -/
import Derived.Laws.BytesArg
import Derived.Below
import Derived.Deep.Draws
import Derived.Lib.ConvBytes
import GoSem.Core.Utf8
import Derived.Test.YtpmlggjhfiljmaaGreatDoorRows
import Derived.WalkKit
import Derived.WalkSpells
import Derived.WalkLawsBesides
import Derived.Deep.QuietTactic
import Derived.BigQuiet
import Derived.Lib.Hide
import Derived.Laws.BitsLemmas
import Derived.Laws.BitsAllLaws
/- Plain words of layer 1: characters, their bytes, reading one; no program in sight. -/
namespace Go.Proofs.YtpmlggjhfiljmaaGreatDoor
open Go.RowKit
def isC (r : Int) : Bool := (decide (0 ≤ r) && decide (r ≤ 1114111)) && (decide (r < 55296) || decide (57343 < r))
def szI (r : Int) : Int := if r < 128 then 1 else if r < 2048 then 2 else if r < 65536 then 3 else 4
def encI (r : Int) : List Int :=
  if r < 128 then [r] else if r < 2048 then [192 + r / 64, 128 + r % 64] else if r < 65536 then [224 + r / 4096, 128 + r / 64 % 64, 128 + r % 64]
  else [240 + r / 262144, 128 + r / 4096 % 64, 128 + r / 64 % 64, 128 + r % 64]
def encS (r : Int) : ByteArray := if isC r then strOfNums (encI r) else ByteArray.empty
def hup (n : Int) : Int := if n = 1 then 0 else if n = 2 then 192 else if n = 3 then 224 else 240
def hbits (n : Int) : Int := if n = 1 then 1 else if n = 2 then 3 else if n = 3 then 4 else 5
def bgI (c : Int) : Int := if c < 128 then 1 else if 192 ≤ c ∧ c < 224 then 2 else if 224 ≤ c ∧ c < 240 then 3 else if 240 ≤ c ∧ c < 248 then 4 else 0
theorem isC_true {r : Int} (h : isC r = true) : 0 ≤ r ∧ r ≤ 1114111 ∧ (r < 55296 ∨ 57343 < r) := by
  unfold isC at h; simp at h; omega
/-- only new memory has been made -/
def Fresh (w w' : World) : Prop := Below w.heap.size w w'
theorem Fresh.refl (w : World) : Fresh w w := Below.refl _ _
theorem Fresh.trans {a b c : World} (h : Fresh a b) (k : Fresh b c) : Fresh a c := Below.trans h (Below.mono k h.size)
theorem Fresh.alloc {a b : World} (h : Fresh a b) (o : Obj) : Fresh a (b.alloc o) := Below.alloc h h.size o
theorem Fresh.drew {a b : World} (h : Fresh a b) : Fresh a b.drew := Below.drew h
theorem Fresh.drewN {a b : World} (h : Fresh a b) (n : Nat) : Fresh a (b.drewN n) := ⟨h.os, h.tape, h.output, h.size, h.block⟩
theorem Fresh.size {a b : World} (h : Fresh a b) : a.heap.size ≤ b.heap.size := Below.size h
theorem Fresh.setCell {a b : World} (h : Fresh a b) {p : Addr} (hp : a.heap.size ≤ p.block) (v : Value) : Fresh a (b.setCell p v) := Below.setCell h hp v
theorem fresh_bytes (W : World) (e : TypeId) (t : ByteArray) : Fresh W (Lib.bytesWorld W e t) := ⟨rfl, rfl, rfl, by rw [Lib.bytesWorld_size]; omega, fun k hk => Lib.bytesWorld_at_old W e t k hk⟩
theorem Fresh.below {a b : World} (h : Fresh a b) : Below a.heap.size a b := h
end Go.Proofs.YtpmlggjhfiljmaaGreatDoor
/- Contracts of the small functions of layer 1: Is (both), head, least, size, begins. -/
namespace Go.Proofs.YtpmlggjhfiljmaaGreatDoor
open Go.RowKit
theorem ret_bool {a b : Bool} (h : a = b) : Ending.returned (.bool a) = .returned (.bool b) := by rw [h]
theorem ret_int {k : IntKind} {a b : Int} (h : a = b) : Ending.returned (.int k a) = .returned (.int k b) := by rw [h]
set_option maxHeartbeats 400000 in
theorem utfIs_any (r : Int) (w : World) :
    Calls Tryz.prog 166 #[.int .i32 r] w fun e w' => e = .returned (.bool (isC r)) ∧ w = w' := by
  go_enter Tryz.func166, Tryz.ntmps166
  go_wp2
  all_goals (go_ret; exact ⟨ret_bool (by unfold isC; rw [Bool.eq_iff_iff]; simp only [Bool.or_eq_true, Bool.and_eq_true, decide_eq_true_eq, Bool.false_eq_true, true_iff, false_iff]; omega), rfl⟩)
set_option maxHeartbeats 400000 in
theorem refIs_any (r : Int) (w : World) :
    Calls Tryz.prog 61 #[.int .i32 r] w fun e w' => e = .returned (.bool (isC r)) ∧ w = w' := by
  go_enter Tryz.func61, Tryz.ntmps61
  go_wp2
  all_goals (go_ret; exact ⟨ret_bool (by unfold isC; rw [Bool.eq_iff_iff]; simp only [Bool.or_eq_true, Bool.and_eq_true, decide_eq_true_eq, Bool.false_eq_true, true_iff, false_iff]; omega), rfl⟩)
set_option maxHeartbeats 400000 in
theorem head_any (n : Int) (w : World) :
    Calls Tryz.prog 165 #[.int .i64 n] w fun e w' => e = .returned (.tuple #[.int .u8 (hup n), .int .i64 (hbits n)]) ∧ w = w' := by
  by_cases h1 : n = 1
  · subst h1
    go_enter Tryz.func165, Tryz.ntmps165
    go_wp2
    go_ret2
    exact ⟨rfl, rfl⟩
  · by_cases h2 : n = 2
    · subst h2
      go_enter Tryz.func165, Tryz.ntmps165
      go_wp2
      go_ret2
      exact ⟨rfl, rfl⟩
    · by_cases h3 : n = 3
      · subst h3
        go_enter Tryz.func165, Tryz.ntmps165
        go_wp2
        go_ret2
        exact ⟨rfl, rfl⟩
      · have e1 : (n == 1) = false := by simp [h1]
        have e2 : (n == 2) = false := by simp [h2]
        have e3 : (n == 3) = false := by simp [h3]
        have e4 : Ending.returned (.tuple #[.int .u8 240, .int .i64 5]) = Ending.returned (.tuple #[.int .u8 (hup n), .int .i64 (hbits n)]) := by unfold hup hbits; simp [h1, h2, h3]
        have E4 : Hid (Ending.returned (.tuple #[.int .u8 240, .int .i64 5]) = Ending.returned (.tuple #[.int .u8 (hup n), .int .i64 (hbits n)])) := e4
        clear h1 h2 h3 e4
        go_enter Tryz.func165, Tryz.ntmps165
        go_wp2
        go_ret2
        exact ⟨E4.out, rfl⟩
set_option maxHeartbeats 400000 in
theorem least_any (w : World) :
    Calls Tryz.prog 252 #[] w fun e w' => e = .returned (.agg #[.int .i32 0, .int .i32 0, .int .i32 128, .int .i32 2048, .int .i32 65536]) ∧ Fresh w w' := by
  go_enter Tryz.func252, Tryz.ntmps252
  go_wp2
  exact bodyPost_ret (v := .agg #[.int .i32 0, .int .i32 0, .int .i32 128, .int .i32 2048, .int .i32 65536]) (by simp [results, Tryz.results252, go_sem]) rfl ⟨rfl, (Fresh.refl _).alloc _⟩
set_option maxHeartbeats 400000 in
theorem size_any (r : Int) (w : World) :
    Calls Tryz.prog 167 #[.int .i32 r] w fun e w' => e = .returned (.int .i64 (szI r)) ∧ Fresh w w' := by
  have i2 : ∀ w, (Instr.index 322 (.agg #[.int .i32 0, .int .i32 0, .int .i32 128, .int .i32 2048, .int .i32 65536]) (.int .i64 2)).run Tryz.prog w = .ok (.int .i32 128) w := fun _ => by kernel_rfl
  have i3 : ∀ w, (Instr.index 322 (.agg #[.int .i32 0, .int .i32 0, .int .i32 128, .int .i32 2048, .int .i32 65536]) (.int .i64 3)).run Tryz.prog w = .ok (.int .i32 2048) w := fun _ => by kernel_rfl
  have i4 : ∀ w, (Instr.index 322 (.agg #[.int .i32 0, .int .i32 0, .int .i32 128, .int .i32 2048, .int .i32 65536]) (.int .i64 4)).run Tryz.prog w = .ok (.int .i32 65536) w := fun _ => by kernel_rfl
  go_enter Tryz.func167, Tryz.ntmps167
  go_wp2
  refine wp_loop_rounds 4 ?_
  rw [rounds_succ]
  go_wp2_with (go_at_call 252; refine (least_any _).mono ?_; rintro e w1 ⟨rfl, hb1⟩)
  · rw [rounds_succ]
    go_wp2_with (go_at_call 252; refine (least_any _).mono ?_; rintro e w2 ⟨rfl, hb2⟩)
    · rw [rounds_succ]
      go_wp2_with (go_at_call 252; refine (least_any _).mono ?_; rintro e w3 ⟨rfl, hb3⟩)
      · rw [rounds_succ]
        go_wp2
        go_ret
        exact ⟨ret_int (by unfold szI; repeat' split; all_goals omega), (hb1.trans hb2).trans hb3⟩
      · go_ret
        exact ⟨ret_int (by unfold szI; repeat' split; all_goals omega), (hb1.trans hb2).trans hb3⟩
    · go_ret
      exact ⟨ret_int (by unfold szI; repeat' split; all_goals omega), hb1.trans hb2⟩
  · go_ret
    exact ⟨ret_int (by unfold szI; repeat' split; all_goals omega), hb1⟩
set_option maxHeartbeats 400000 in
theorem begins_any (c : Int) (h0 : 0 ≤ c) (h1 : c ≤ 255) (w : World) :
    Calls Tryz.prog 164 #[.int .u8 c] w fun e w' => e = .returned (.int .i64 (bgI c)) ∧ Fresh w w' := by
  have hf : ∀ n, Fresh w (w.drewN n) := fun n => Fresh.drewN (Fresh.refl w) n
  have Hf := Lib.hid hf
  clear hf
  by_cases a1 : c < 128
  · have hb : bgI c = 1 := by unfold bgI; simp [a1]
    have HB := Lib.hid hb
    clear hb
    go_enter Tryz.func164, Tryz.ntmps164
    go_wp2
    refine wp_loop_rounds 5 ?_
    rw [rounds_succ]
    go_wp2
    go_quiet (fail)
    go_wp2
    go_ret
    exact ⟨ret_int HB.out.symm, by first | exact Hf.out _ | exact (Hf.out _).drewN _⟩
  by_cases a2 : 192 ≤ c ∧ c < 224
  · have hb : bgI c = 2 := by unfold bgI; rw [if_neg (by omega), if_pos a2]
    obtain ⟨a2, a3⟩ := a2
    have HB := Lib.hid hb
    clear hb
    go_enter Tryz.func164, Tryz.ntmps164
    go_wp2
    refine wp_loop_rounds 5 ?_
    rw [rounds_succ]
    go_wp2
    go_quiet (fail)
    go_wp2
    rw [rounds_succ]
    go_wp2
    go_quiet (fail)
    go_wp2
    go_ret
    exact ⟨ret_int HB.out.symm, by first | exact Hf.out _ | exact (Hf.out _).drewN _⟩
  by_cases a4 : 224 ≤ c ∧ c < 240
  · have hb : bgI c = 3 := by unfold bgI; rw [if_neg (by omega), if_neg (by omega), if_pos a4]
    obtain ⟨a4, a5⟩ := a4
    clear a2
    have HB := Lib.hid hb
    clear hb
    go_enter Tryz.func164, Tryz.ntmps164
    go_wp2
    refine wp_loop_rounds 5 ?_
    rw [rounds_succ]
    go_wp2
    go_quiet (fail)
    go_wp2
    rw [rounds_succ]
    go_wp2
    go_quiet (fail)
    go_wp2
    rw [rounds_succ]
    go_wp2
    go_quiet (fail)
    go_wp2
    go_ret
    exact ⟨ret_int HB.out.symm, by first | exact Hf.out _ | exact (Hf.out _).drewN _⟩
  by_cases a6 : 240 ≤ c ∧ c < 248
  · have hb : bgI c = 4 := by unfold bgI; rw [if_neg (by omega), if_neg (by omega), if_neg (by omega), if_pos a6]
    obtain ⟨a6, a7⟩ := a6
    clear a2 a4
    have HB := Lib.hid hb
    clear hb
    go_enter Tryz.func164, Tryz.ntmps164
    go_wp2
    refine wp_loop_rounds 5 ?_
    rw [rounds_succ]
    go_wp2
    go_quiet (fail)
    go_wp2
    rw [rounds_succ]
    go_wp2
    go_quiet (fail)
    go_wp2
    rw [rounds_succ]
    go_wp2
    go_quiet (fail)
    go_wp2
    rw [rounds_succ]
    go_wp2
    go_quiet (fail)
    go_wp2
    go_ret
    exact ⟨ret_int HB.out.symm, by first | exact Hf.out _ | exact (Hf.out _).drewN _⟩
  · have hb : bgI c = 0 := by unfold bgI; rw [if_neg (by omega), if_neg (by omega), if_neg (by omega), if_neg (by omega)]
    have e2 : (c / 32 == 6) = false := by simp; omega
    have e3 : (c / 16 == 14) = false := by simp; omega
    have e4 : (c / 8 == 30) = false := by simp; omega
    have HB := Lib.hid hb
    clear hb a2 a4 a6
    go_enter Tryz.func164, Tryz.ntmps164
    go_wp2
    refine wp_loop_rounds 5 ?_
    rw [rounds_succ]
    go_wp2
    go_quiet (fail)
    go_wp2
    rw [rounds_succ]
    go_wp2
    go_quiet (fail)
    go_wp2
    rw [rounds_succ]
    go_wp2
    go_quiet (fail)
    go_wp2
    rw [rounds_succ]
    go_wp2
    go_quiet (fail)
    go_wp2
    rw [rounds_succ]
    go_wp2
    go_ret
    exact ⟨ret_int HB.out.symm, by first | exact Hf.out _ | exact (Hf.out _).drewN _⟩
end Go.Proofs.YtpmlggjhfiljmaaGreatDoor
/- Contracts of layer 1's Bytes, the program's and the reference's, and of awake. -/
namespace Go.Proofs.YtpmlggjhfiljmaaGreatDoor
open Go.RowKit
/-- a row of bytes that has just been laid, made a string -/
theorem conv_new (xs : List Int) (w : World) (C : Array Value) (n : Nat) (hC : C = (xs.map (Value.int .u8)).toArray) (hn : n = xs.length) :
    (convert 131 9 (.slice (some ⟨w.heap.size, 0, none⟩) n n)).run Tryz.prog (w.alloc (.cells C 5)) = .ok (.string (strOfNums xs)) (w.alloc (.cells C 5)) := by
  subst hC hn
  exact run_convert_bytes_arg _ 131 5 Tryz.underlying131 Tryz.underlying5 _ 0 _ _ xs rfl (fun i hi => by
    rw [World.cell?_alloc_at _ _ _ _ rfl]; simp [List.getD, hi]) 9 Tryz.underlying9
theorem conv1 (a : Int) (w : World) : (convert 131 9 (.slice (some ⟨w.heap.size, 0, none⟩) 1 1)).run Tryz.prog (w.alloc (.cells #[.int .u8 a] 5)) = .ok (.string (strOfNums [a])) (w.alloc (.cells #[.int .u8 a] 5)) :=
  conv_new [a] w _ 1 rfl rfl
theorem conv2 (a b : Int) (w : World) : (convert 131 9 (.slice (some ⟨w.heap.size, 0, none⟩) 2 2)).run Tryz.prog (w.alloc (.cells #[.int .u8 a, .int .u8 b] 5)) = .ok (.string (strOfNums [a, b])) (w.alloc (.cells #[.int .u8 a, .int .u8 b] 5)) :=
  conv_new [a, b] w _ 2 rfl rfl
theorem conv3 (a b c : Int) (w : World) : (convert 131 9 (.slice (some ⟨w.heap.size, 0, none⟩) 3 3)).run Tryz.prog (w.alloc (.cells #[.int .u8 a, .int .u8 b, .int .u8 c] 5)) = .ok (.string (strOfNums [a, b, c])) (w.alloc (.cells #[.int .u8 a, .int .u8 b, .int .u8 c] 5)) :=
  conv_new [a, b, c] w _ 3 rfl rfl
theorem conv4 (a b c d : Int) (w : World) : (convert 131 9 (.slice (some ⟨w.heap.size, 0, none⟩) 4 4)).run Tryz.prog (w.alloc (.cells #[.int .u8 a, .int .u8 b, .int .u8 c, .int .u8 d] 5)) = .ok (.string (strOfNums [a, b, c, d])) (w.alloc (.cells #[.int .u8 a, .int .u8 b, .int .u8 c, .int .u8 d] 5)) :=
  conv_new [a, b, c, d] w _ 4 rfl rfl
theorem i32_and63 {x : Int} (h0 : 0 ≤ x) (h1 : x < 2147483648) : bits .and .i32 x 63 = x % 64 := bits_mask .i32 31 (by decide) wraps_i32 6 (by decide) x h0 h1
theorem tailb {x : Int} (h0 : 0 ≤ x) (h1 : x < 2147483648) : bits .or .u8 128 (bits .and .i32 x 63 % 256) = 128 + x % 64 := by
  rw [i32_and63 h0 h1, show x % 64 % 256 = x % 64 by omega, u8_or128 _ (by omega) (by omega)]
theorem headb1 {x : Int} (h0 : 0 ≤ x) (h1 : x < 128) : bits .or .u8 (hup 1) x = x := by
  have := u8_or_nat 0 x.toNat (by omega) (by omega); rw [Int.toNat_of_nonneg h0] at this; exact this.trans (by simp; omega)
theorem headb2 {x : Int} (h0 : 0 ≤ x) (h1 : x < 32) : bits .or .u8 (hup 2) x = 192 + x := u8_or192 _ h0 h1
theorem headb3 {x : Int} (h0 : 0 ≤ x) (h1 : x < 16) : bits .or .u8 (hup 3) x = 224 + x := u8_or224 _ h0 h1
theorem headb4 {x : Int} (h0 : 0 ≤ x) (h1 : x < 8) : bits .or .u8 (hup 4) x = 240 + x := u8_or240 _ h0 h1
theorem ret_str {a b : List Int} (h : a = b) : Ending.returned (.string (strOfNums a)) = .returned (.string (strOfNums b)) := by rw [h]
theorem encI_1 {r : Int} (h0 : 0 ≤ r) (h1 : r < 128) : encI r = [bits .or .u8 (hup 1) r] := by
  rw [headb1 h0 h1]; unfold encI; rw [if_pos h1]
theorem encI_2 {r : Int} (h0 : 128 ≤ r) (h1 : r < 2048) : encI r = [bits .or .u8 (hup 2) (r / 64), bits .or .u8 128 (bits .and .i32 r 63 % 256)] := by
  rw [headb2 (by omega) (by omega), tailb (by omega) (by omega)]; unfold encI; rw [if_neg (by omega), if_pos (by omega)]
theorem encI_3 {r : Int} (h0 : 2048 ≤ r) (h1 : r < 65536) :
    encI r = [bits .or .u8 (hup 3) (r / 64 / 64), bits .or .u8 128 (bits .and .i32 (r / 64) 63 % 256), bits .or .u8 128 (bits .and .i32 r 63 % 256)] := by
  rw [headb3 (by omega) (by omega), tailb (by omega) (by omega), tailb (by omega) (by omega)]; unfold encI; rw [if_neg (by omega), if_neg (by omega), if_pos (by omega), show r / 64 / 64 = r / 4096 by omega]
theorem encI_4 {r : Int} (h0 : 65536 ≤ r) (h1 : r < 1114112) :
    encI r = [bits .or .u8 (hup 4) (r / 64 / 64 / 64), bits .or .u8 128 (bits .and .i32 (r / 64 / 64) 63 % 256), bits .or .u8 128 (bits .and .i32 (r / 64) 63 % 256), bits .or .u8 128 (bits .and .i32 r 63 % 256)] := by
  rw [headb4 (by omega) (by omega), tailb (by omega) (by omega), tailb (by omega) (by omega), tailb (by omega) (by omega)]; unfold encI; rw [if_neg (by omega), if_neg (by omega), if_neg (by omega), show r / 64 / 64 / 64 = r / 262144 by omega, show r / 64 / 64 = r / 4096 by omega]
set_option maxHeartbeats 400000 in
theorem refBytes_1 (r : Int) (h0 : 0 ≤ r) (h1 : r < 128) (w : World) :
    Calls Tryz.prog 62 #[.int .i32 r] w fun e w' => e = .returned (.string (strOfNums (encI r))) ∧ Fresh w w' := by
  have k1 := conv1
  go_enter Tryz.func62, Tryz.ntmps62
  go_wp2
  go_ret
  exact ⟨ret_str (by unfold encI; rw [if_pos (by omega)]), (Fresh.refl _).alloc _⟩
set_option maxHeartbeats 400000 in
theorem refBytes_2 (r : Int) (h0 : 128 ≤ r) (h1 : r < 2048) (w : World) :
    Calls Tryz.prog 62 #[.int .i32 r] w fun e w' => e = .returned (.string (strOfNums (encI r))) ∧ Fresh w w' := by
  have k1 := conv2
  go_enter Tryz.func62, Tryz.ntmps62
  go_wp2
  go_ret
  exact ⟨ret_str (by unfold encI; rw [if_neg (by omega)]; rw [if_pos (by omega)]), (Fresh.refl _).alloc _⟩
set_option maxHeartbeats 400000 in
theorem refBytes_3 (r : Int) (h0 : 2048 ≤ r) (h1 : r < 65536) (w : World) :
    Calls Tryz.prog 62 #[.int .i32 r] w fun e w' => e = .returned (.string (strOfNums (encI r))) ∧ Fresh w w' := by
  have k1 := conv3
  go_enter Tryz.func62, Tryz.ntmps62
  go_wp2
  go_ret
  exact ⟨ret_str (by unfold encI; rw [if_neg (by omega)]; rw [if_neg (by omega)]; rw [if_pos (by omega)]), (Fresh.refl _).alloc _⟩
set_option maxHeartbeats 400000 in
theorem refBytes_4 (r : Int) (h0 : 65536 ≤ r) (h1 : r < 1114112) (w : World) :
    Calls Tryz.prog 62 #[.int .i32 r] w fun e w' => e = .returned (.string (strOfNums (encI r))) ∧ Fresh w w' := by
  have k1 := conv4
  go_enter Tryz.func62, Tryz.ntmps62
  go_wp2
  go_ret
  exact ⟨ret_str (by unfold encI; rw [if_neg (by omega)]; rw [if_neg (by omega)]; rw [if_neg (by omega)]), (Fresh.refl _).alloc _⟩
set_option maxHeartbeats 400000 in
theorem utfBytes_1 (r : Int) (h0 : 0 ≤ r) (h1 : r < 128) (hc : isC r = true) (w : World) :
    Calls Tryz.prog 250 #[.int .i32 r] w fun e w' => e = .returned (.string (strOfNums (encI r))) ∧ Fresh w w' := by
  have hs : szI r = 1 := by unfold szI; rw [if_pos (by omega)]
  have HS := Lib.hid hs
  clear hs
  have HC := Lib.hid hc
  clear hc
  have hmk : ∀ w, (Instr.makeSlice 131 (.int .i64 1) (.int .i64 1)).run Tryz.prog w = .ok (.slice (some ⟨w.heap.size, 0, none⟩) 1 1) (w.alloc (.cells #[.int .u8 0] 5)) := fun _ => by kernel_rfl
  have k1 := conv1
  go_enter Tryz.func250, Tryz.ntmps250
  go_wp2_with (first
   | (go_at_call 166; refine (utfIs_any _ _).mono ?_; rintro e w1 ⟨rfl, rfl⟩; rw [HC.out])
   | (go_at_call 167; refine (size_any _ _).mono ?_; rintro e w2 ⟨rfl, hb2⟩; rw [HS.out]))
  refine wp_loop_rounds 1 ?_
  rw [rounds_succ]
  go_wp2_with (go_at_call 165; refine (head_any _ _).mono ?_; rintro e w3 ⟨rfl, rfl⟩)
  go_ret
  exact ⟨ret_str (encI_1 h0 h1).symm, hb2.alloc _⟩
set_option maxHeartbeats 400000 in
theorem utfBytes_2 (r : Int) (h0 : 128 ≤ r) (h1 : r < 2048) (hc : isC r = true) (w : World) :
    Calls Tryz.prog 250 #[.int .i32 r] w fun e w' => e = .returned (.string (strOfNums (encI r))) ∧ Fresh w w' := by
  have hs : szI r = 2 := by unfold szI; rw [if_neg (by omega)]; rw [if_pos (by omega)]
  have HS := Lib.hid hs
  clear hs
  have HC := Lib.hid hc
  clear hc
  have hmk : ∀ w, (Instr.makeSlice 131 (.int .i64 2) (.int .i64 2)).run Tryz.prog w = .ok (.slice (some ⟨w.heap.size, 0, none⟩) 2 2) (w.alloc (.cells #[.int .u8 0, .int .u8 0] 5)) := fun _ => by kernel_rfl
  have k1 := conv2
  go_enter Tryz.func250, Tryz.ntmps250
  go_wp2_with (first
   | (go_at_call 166; refine (utfIs_any _ _).mono ?_; rintro e w1 ⟨rfl, rfl⟩; rw [HC.out])
   | (go_at_call 167; refine (size_any _ _).mono ?_; rintro e w2 ⟨rfl, hb2⟩; rw [HS.out]))
  refine wp_loop_rounds 2 ?_
  rw [rounds_succ]
  go_wp2
  rw [rounds_succ]
  go_wp2_with (go_at_call 165; refine (head_any _ _).mono ?_; rintro e w3 ⟨rfl, rfl⟩)
  go_ret
  exact ⟨ret_str (encI_2 h0 h1).symm, hb2.alloc _⟩
set_option maxHeartbeats 400000 in
theorem utfBytes_3 (r : Int) (h0 : 2048 ≤ r) (h1 : r < 65536) (hc : isC r = true) (w : World) :
    Calls Tryz.prog 250 #[.int .i32 r] w fun e w' => e = .returned (.string (strOfNums (encI r))) ∧ Fresh w w' := by
  have hs : szI r = 3 := by unfold szI; rw [if_neg (by omega)]; rw [if_neg (by omega)]; rw [if_pos (by omega)]
  have HS := Lib.hid hs
  clear hs
  have HC := Lib.hid hc
  clear hc
  have hmk : ∀ w, (Instr.makeSlice 131 (.int .i64 3) (.int .i64 3)).run Tryz.prog w = .ok (.slice (some ⟨w.heap.size, 0, none⟩) 3 3) (w.alloc (.cells #[.int .u8 0, .int .u8 0, .int .u8 0] 5)) := fun _ => by kernel_rfl
  have k1 := conv3
  go_enter Tryz.func250, Tryz.ntmps250
  go_wp2_with (first
   | (go_at_call 166; refine (utfIs_any _ _).mono ?_; rintro e w1 ⟨rfl, rfl⟩; rw [HC.out])
   | (go_at_call 167; refine (size_any _ _).mono ?_; rintro e w2 ⟨rfl, hb2⟩; rw [HS.out]))
  refine wp_loop_rounds 3 ?_
  rw [rounds_succ]
  go_wp2
  rw [rounds_succ]
  go_wp2
  rw [rounds_succ]
  go_wp2_with (go_at_call 165; refine (head_any _ _).mono ?_; rintro e w3 ⟨rfl, rfl⟩)
  go_ret
  exact ⟨ret_str (encI_3 h0 h1).symm, hb2.alloc _⟩
set_option maxHeartbeats 400000 in
theorem utfBytes_4 (r : Int) (h0 : 65536 ≤ r) (h1 : r < 1114112) (hc : isC r = true) (w : World) :
    Calls Tryz.prog 250 #[.int .i32 r] w fun e w' => e = .returned (.string (strOfNums (encI r))) ∧ Fresh w w' := by
  have hs : szI r = 4 := by unfold szI; rw [if_neg (by omega)]; rw [if_neg (by omega)]; rw [if_neg (by omega)]
  have HS := Lib.hid hs
  clear hs
  have HC := Lib.hid hc
  clear hc
  have hmk : ∀ w, (Instr.makeSlice 131 (.int .i64 4) (.int .i64 4)).run Tryz.prog w = .ok (.slice (some ⟨w.heap.size, 0, none⟩) 4 4) (w.alloc (.cells #[.int .u8 0, .int .u8 0, .int .u8 0, .int .u8 0] 5)) := fun _ => by kernel_rfl
  have k1 := conv4
  go_enter Tryz.func250, Tryz.ntmps250
  go_wp2_with (first
   | (go_at_call 166; refine (utfIs_any _ _).mono ?_; rintro e w1 ⟨rfl, rfl⟩; rw [HC.out])
   | (go_at_call 167; refine (size_any _ _).mono ?_; rintro e w2 ⟨rfl, hb2⟩; rw [HS.out]))
  refine wp_loop_rounds 4 ?_
  rw [rounds_succ]
  go_wp2
  rw [rounds_succ]
  go_wp2
  rw [rounds_succ]
  go_wp2
  rw [rounds_succ]
  go_wp2_with (go_at_call 165; refine (head_any _ _).mono ?_; rintro e w3 ⟨rfl, rfl⟩)
  go_ret
  exact ⟨ret_str (encI_4 h0 h1).symm, hb2.alloc _⟩
set_option maxHeartbeats 400000 in
theorem utfBytes_no (r : Int) (hc : isC r = false) (w : World) :
    Calls Tryz.prog 250 #[.int .i32 r] w fun e w' => e = .returned (.string ByteArray.empty) ∧ Fresh w w' := by
  have HC := Lib.hid hc
  clear hc
  go_enter Tryz.func250, Tryz.ntmps250
  go_wp2_with (go_at_call 166; refine (utfIs_any _ _).mono ?_; rintro e w1 ⟨rfl, rfl⟩; rw [HC.out])
  go_ret
  exact ⟨rfl, Fresh.refl _⟩
/-- what Bytes gives, whatever it is given -/
theorem utfBytes_any (r : Int) (w : World) :
    Calls Tryz.prog 250 #[.int .i32 r] w fun e w' => e = .returned (.string (encS r)) ∧ Fresh w w' := by
  by_cases hc : isC r = true
  · have hr := isC_true hc
    have e : encS r = strOfNums (encI r) := by unfold encS; rw [if_pos hc]
    rw [e]
    by_cases h1 : r < 128
    · exact utfBytes_1 r hr.1 h1 hc w
    by_cases h2 : r < 2048
    · exact utfBytes_2 r (by omega) h2 hc w
    by_cases h3 : r < 65536
    · exact utfBytes_3 r (by omega) h3 hc w
    · exact utfBytes_4 r (by omega) (by omega) hc w
  · have e : encS r = ByteArray.empty := by unfold encS; rw [if_neg hc]
    rw [e]
    exact utfBytes_no r (by simpa using hc) w
theorem refBytes_any (r : Int) (hc : isC r = true) (w : World) :
    Calls Tryz.prog 62 #[.int .i32 r] w fun e w' => e = .returned (.string (encS r)) ∧ Fresh w w' := by
  have hr := isC_true hc
  have e : encS r = strOfNums (encI r) := by unfold encS; rw [if_pos hc]
  rw [e]
  by_cases h1 : r < 128
  · exact refBytes_1 r hr.1 h1 w
  by_cases h2 : r < 2048
  · exact refBytes_2 r (by omega) h2 w
  by_cases h3 : r < 65536
  · exact refBytes_3 r (by omega) h3 w
  · exact refBytes_4 r (by omega) (by omega) w
end Go.Proofs.YtpmlggjhfiljmaaGreatDoor
