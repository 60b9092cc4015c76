/- Contracts of layer 1's Bytes, the program's and the reference's, and of awake. -/
import Derived.Test.YtmfmnlioojkjgaaUtfA
import Derived.Laws.BytesArg
import Derived.Laws.BitsLemmas
import Derived.Laws.BitsAllLaws
namespace Go.Proofs.Ytmfmnlioojkjgaa
open Go.RowKit

/-- a row of bytes that has just been laid, made a string -/
theorem conv_new (xs : List Int) (w : World) (C : Array Value) (n : Nat) (hC : C = (xs.map (Value.int .u8)).toArray) (hn : n = xs.length) :
    (convert 55 9 (.slice (some ⟨w.heap.size, 0, none⟩) n n)).run Try.prog (w.alloc (.cells C 5)) = .ok (.string (strOfNums xs)) (w.alloc (.cells C 5)) := by
  subst hC hn
  exact run_convert_bytes_arg _ 55 5 Try.underlying55 Try.underlying5 _ 0 _ _ xs rfl (fun i hi => by
    rw [World.cell?_alloc_at _ _ _ _ rfl]; simp [List.getD, hi]) 9 Try.underlying9
theorem conv1 (a : Int) (w : World) : (convert 55 9 (.slice (some ⟨w.heap.size, 0, none⟩) 1 1)).run Try.prog (w.alloc (.cells #[.int .u8 a] 5)) = .ok (.string (strOfNums [a])) (w.alloc (.cells #[.int .u8 a] 5)) :=
  conv_new [a] w _ 1 rfl rfl
theorem conv2 (a b : Int) (w : World) : (convert 55 9 (.slice (some ⟨w.heap.size, 0, none⟩) 2 2)).run Try.prog (w.alloc (.cells #[.int .u8 a, .int .u8 b] 5)) = .ok (.string (strOfNums [a, b])) (w.alloc (.cells #[.int .u8 a, .int .u8 b] 5)) :=
  conv_new [a, b] w _ 2 rfl rfl
theorem conv3 (a b c : Int) (w : World) : (convert 55 9 (.slice (some ⟨w.heap.size, 0, none⟩) 3 3)).run Try.prog (w.alloc (.cells #[.int .u8 a, .int .u8 b, .int .u8 c] 5)) = .ok (.string (strOfNums [a, b, c])) (w.alloc (.cells #[.int .u8 a, .int .u8 b, .int .u8 c] 5)) :=
  conv_new [a, b, c] w _ 3 rfl rfl
theorem conv4 (a b c d : Int) (w : World) : (convert 55 9 (.slice (some ⟨w.heap.size, 0, none⟩) 4 4)).run Try.prog (w.alloc (.cells #[.int .u8 a, .int .u8 b, .int .u8 c, .int .u8 d] 5)) = .ok (.string (strOfNums [a, b, c, d])) (w.alloc (.cells #[.int .u8 a, .int .u8 b, .int .u8 c, .int .u8 d] 5)) :=
  conv_new [a, b, c, d] w _ 4 rfl rfl
theorem i32_and63 {x : Int} (h0 : 0 ≤ x) (h1 : x < 2147483648) : bits .and .i32 x 63 = x % 64 := bits_mask .i32 31 (by decide) wraps_i32 6 (by decide) x h0 h1
theorem tailb {x : Int} (h0 : 0 ≤ x) (h1 : x < 2147483648) : bits .or .u8 128 (bits .and .i32 x 63 % 256) = 128 + x % 64 := by
  rw [i32_and63 h0 h1, show x % 64 % 256 = x % 64 by omega, u8_or128 _ (by omega) (by omega)]
theorem headb1 {x : Int} (h0 : 0 ≤ x) (h1 : x < 128) : bits .or .u8 (hup 1) x = x := by
  have := u8_or_nat 0 x.toNat (by omega) (by omega); rw [Int.toNat_of_nonneg h0] at this; exact this.trans (by simp; omega)
theorem headb2 {x : Int} (h0 : 0 ≤ x) (h1 : x < 32) : bits .or .u8 (hup 2) x = 192 + x := u8_or192 _ h0 h1
theorem headb3 {x : Int} (h0 : 0 ≤ x) (h1 : x < 16) : bits .or .u8 (hup 3) x = 224 + x := u8_or224 _ h0 h1
theorem headb4 {x : Int} (h0 : 0 ≤ x) (h1 : x < 8) : bits .or .u8 (hup 4) x = 240 + x := u8_or240 _ h0 h1
theorem ret_str {a b : List Int} (h : a = b) : Ending.returned (.string (strOfNums a)) = .returned (.string (strOfNums b)) := by rw [h]


theorem encI_1 {r : Int} (h0 : 0 ≤ r) (h1 : r < 128) : encI r = [bits .or .u8 (hup 1) r] := by
  rw [headb1 h0 h1]; unfold encI; rw [if_pos h1]
theorem encI_2 {r : Int} (h0 : 128 ≤ r) (h1 : r < 2048) : encI r = [bits .or .u8 (hup 2) (r / 64), bits .or .u8 128 (bits .and .i32 r 63 % 256)] := by
  rw [headb2 (by omega) (by omega), tailb (by omega) (by omega)]; unfold encI; rw [if_neg (by omega), if_pos (by omega)]
theorem encI_3 {r : Int} (h0 : 2048 ≤ r) (h1 : r < 65536) :
    encI r = [bits .or .u8 (hup 3) (r / 64 / 64), bits .or .u8 128 (bits .and .i32 (r / 64) 63 % 256), bits .or .u8 128 (bits .and .i32 r 63 % 256)] := by
  rw [headb3 (by omega) (by omega), tailb (by omega) (by omega), tailb (by omega) (by omega)]; unfold encI; rw [if_neg (by omega), if_neg (by omega), if_pos (by omega), show r / 64 / 64 = r / 4096 by omega]
theorem encI_4 {r : Int} (h0 : 65536 ≤ r) (h1 : r < 1114112) :
    encI r = [bits .or .u8 (hup 4) (r / 64 / 64 / 64), bits .or .u8 128 (bits .and .i32 (r / 64 / 64) 63 % 256), bits .or .u8 128 (bits .and .i32 (r / 64) 63 % 256), bits .or .u8 128 (bits .and .i32 r 63 % 256)] := by
  rw [headb4 (by omega) (by omega), tailb (by omega) (by omega), tailb (by omega) (by omega), tailb (by omega) (by omega)]; unfold encI; rw [if_neg (by omega), if_neg (by omega), if_neg (by omega), show r / 64 / 64 / 64 = r / 262144 by omega, show r / 64 / 64 = r / 4096 by omega]


set_option maxHeartbeats 400000 in
theorem refBytes_1 (r : Int) (h0 : 0 ≤ r) (h1 : r < 128) (w : World) :
    Calls Try.prog 36 #[.int .i32 r] w fun e w' => e = .returned (.string (strOfNums (encI r))) ∧ Fresh w w' := by
  have k1 := conv1
  go_enter Try.func36, Try.ntmps36
  go_wp2
  go_ret
  exact ⟨ret_str (by unfold encI; rw [if_pos (by omega)]), (Fresh.refl _).alloc _⟩

set_option maxHeartbeats 400000 in
theorem refBytes_2 (r : Int) (h0 : 128 ≤ r) (h1 : r < 2048) (w : World) :
    Calls Try.prog 36 #[.int .i32 r] w fun e w' => e = .returned (.string (strOfNums (encI r))) ∧ Fresh w w' := by
  have k1 := conv2
  go_enter Try.func36, Try.ntmps36
  go_wp2
  go_ret
  exact ⟨ret_str (by unfold encI; rw [if_neg (by omega)]; rw [if_pos (by omega)]), (Fresh.refl _).alloc _⟩

set_option maxHeartbeats 400000 in
theorem refBytes_3 (r : Int) (h0 : 2048 ≤ r) (h1 : r < 65536) (w : World) :
    Calls Try.prog 36 #[.int .i32 r] w fun e w' => e = .returned (.string (strOfNums (encI r))) ∧ Fresh w w' := by
  have k1 := conv3
  go_enter Try.func36, Try.ntmps36
  go_wp2
  go_ret
  exact ⟨ret_str (by unfold encI; rw [if_neg (by omega)]; rw [if_neg (by omega)]; rw [if_pos (by omega)]), (Fresh.refl _).alloc _⟩

set_option maxHeartbeats 400000 in
theorem refBytes_4 (r : Int) (h0 : 65536 ≤ r) (h1 : r < 1114112) (w : World) :
    Calls Try.prog 36 #[.int .i32 r] w fun e w' => e = .returned (.string (strOfNums (encI r))) ∧ Fresh w w' := by
  have k1 := conv4
  go_enter Try.func36, Try.ntmps36
  go_wp2
  go_ret
  exact ⟨ret_str (by unfold encI; rw [if_neg (by omega)]; rw [if_neg (by omega)]; rw [if_neg (by omega)]), (Fresh.refl _).alloc _⟩
theorem refBytes_any (r : Int) (hc : isC r = true) (w : World) :
    Calls Try.prog 36 #[.int .i32 r] w fun e w' => e = .returned (.string (encS r)) ∧ Fresh w w' := by
  have hr := isC_true hc
  have e : encS r = strOfNums (encI r) := by unfold encS; rw [if_pos hc]
  rw [e]
  by_cases h1 : r < 128
  · exact refBytes_1 r hr.1 h1 w
  by_cases h2 : r < 2048
  · exact refBytes_2 r (by omega) h2 w
  by_cases h3 : r < 65536
  · exact refBytes_3 r (by omega) h3 w
  · exact refBytes_4 r (by omega) (by omega) w


end Go.Proofs.Ytmfmnlioojkjgaa
