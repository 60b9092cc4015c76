/- Part 2 of what the law rests on. -/
import Derived.Test.YtpmlggjhfiljmaaGreatDoorRows
import Derived.WalkKit
import Derived.WalkSpells
import Derived.WalkLawsBesides
import Derived.Deep.QuietTactic
import Derived.BigQuiet
import Derived.Lib.Hide
import Derived.Laws.BytesArg
import Derived.Laws.BitsLemmas
import Derived.Laws.BitsAllLaws
import Derived.Lib.ConvBytes
import Derived.Test.YtpmlggjhfiljmaaGreatDoorS01
set_option linter.all false
namespace Go.Proofs.YtpmlggjhfiljmaaGreatDoor
open Go.RowKit
theorem ret_bool {a b:Bool} (h:a=b):Ending.returned (.bool a)=.returned (.bool b):=by rw [h]
theorem ret_int {k:IntKind} {a b:Int} (h:a=b):Ending.returned (.int k a)=.returned (.int k b):=by rw [h]
set_option maxHeartbeats 400000 in
theorem utfIs_any (r:Int) (w:World) :
    Calls Tryz.prog 166 #[.int .i32 r] w fun e w'=>e=.returned (.bool (isC r))∧w=w':=by
  go_enter Tryz.func166,Tryz.ntmps166
  go_wp2
  all_goals (go_ret;exact ⟨ret_bool (by unfold isC;rw [Bool.eq_iff_iff];simp only [Bool.or_eq_true,Bool.and_eq_true,decide_eq_true_eq,Bool.false_eq_true,true_iff,false_iff];omega),rfl⟩)
set_option maxHeartbeats 400000 in
theorem head_any (n:Int) (w:World) :
    Calls Tryz.prog 165 #[.int .i64 n] w fun e w'=>e=.returned (.tuple #[.int .u8 (hup n),.int .i64 (hbits n)])∧w=w':=by
  by_cases h1:n=1
  · subst h1
    go_enter Tryz.func165,Tryz.ntmps165
    go_wp2
    go_ret2
    exact ⟨rfl,rfl⟩
  · by_cases h2:n=2
    · subst h2
      go_enter Tryz.func165,Tryz.ntmps165
      go_wp2
      go_ret2
      exact ⟨rfl,rfl⟩
    · by_cases h3:n=3
      · subst h3
        go_enter Tryz.func165,Tryz.ntmps165
        go_wp2
        go_ret2
        exact ⟨rfl,rfl⟩
      · have e1:(n == 1)=false:=by simp [h1]
        have e2:(n == 2)=false:=by simp [h2]
        have e3:(n == 3)=false:=by simp [h3]
        have e4:Ending.returned (.tuple #[.int .u8 240,.int .i64 5])=Ending.returned (.tuple #[.int .u8 (hup n),.int .i64 (hbits n)]):=by unfold hup hbits;simp [h1,h2,h3]
        have E4:Hid (Ending.returned (.tuple #[.int .u8 240,.int .i64 5])=Ending.returned (.tuple #[.int .u8 (hup n),.int .i64 (hbits n)])):=e4
        clear h1 h2 h3 e4
        go_enter Tryz.func165,Tryz.ntmps165
        go_wp2
        go_ret2
        exact ⟨E4.out,rfl⟩
set_option maxHeartbeats 400000 in
theorem least_any (w:World) :
    Calls Tryz.prog 252 #[] w fun e w'=>e=.returned (.agg #[.int .i32 0,.int .i32 0,.int .i32 128,.int .i32 2048,.int .i32 65536])∧Fresh w w':=by
  go_enter Tryz.func252,Tryz.ntmps252
  go_wp2
  exact bodyPost_ret (v:=.agg #[.int .i32 0,.int .i32 0,.int .i32 128,.int .i32 2048,.int .i32 65536]) (by simp [results,Tryz.results252,go_sem]) rfl ⟨rfl,(Fresh.refl _).alloc _⟩
set_option maxHeartbeats 400000 in
theorem size_any (r:Int) (w:World) :
    Calls Tryz.prog 167 #[.int .i32 r] w fun e w'=>e=.returned (.int .i64 (szI r))∧Fresh w w':=by
  have i2:∀ w,(Instr.index 322 (.agg #[.int .i32 0,.int .i32 0,.int .i32 128,.int .i32 2048,.int .i32 65536]) (.int .i64 2)).run Tryz.prog w=.ok (.int .i32 128) w:=fun _=>by kernel_rfl
  have i3:∀ w,(Instr.index 322 (.agg #[.int .i32 0,.int .i32 0,.int .i32 128,.int .i32 2048,.int .i32 65536]) (.int .i64 3)).run Tryz.prog w=.ok (.int .i32 2048) w:=fun _=>by kernel_rfl
  have i4:∀ w,(Instr.index 322 (.agg #[.int .i32 0,.int .i32 0,.int .i32 128,.int .i32 2048,.int .i32 65536]) (.int .i64 4)).run Tryz.prog w=.ok (.int .i32 65536) w:=fun _=>by kernel_rfl
  go_enter Tryz.func167,Tryz.ntmps167
  go_wp2
  refine wp_loop_rounds 4 ?_
  rw [rounds_succ]
  go_wp2_with (go_at_call 252;refine (least_any _).mono ?_;rintro e w1 ⟨rfl,hb1⟩)
  · rw [rounds_succ]
    go_wp2_with (go_at_call 252;refine (least_any _).mono ?_;rintro e w2 ⟨rfl,hb2⟩)
    · rw [rounds_succ]
      go_wp2_with (go_at_call 252;refine (least_any _).mono ?_;rintro e w3 ⟨rfl,hb3⟩)
      · rw [rounds_succ]
        go_wp2
        go_ret
        exact ⟨ret_int (by unfold szI;repeat' split;all_goals omega),(hb1.trans hb2).trans hb3⟩
      · go_ret
        exact ⟨ret_int (by unfold szI;repeat' split;all_goals omega),(hb1.trans hb2).trans hb3⟩
    · go_ret
      exact ⟨ret_int (by unfold szI;repeat' split;all_goals omega),hb1.trans hb2⟩
  · go_ret
    exact ⟨ret_int (by unfold szI;repeat' split;all_goals omega),hb1⟩
set_option maxHeartbeats 400000 in
theorem begins_any (c:Int) (h0:0≤c) (h1:c≤255) (w:World) :
    Calls Tryz.prog 164 #[.int .u8 c] w fun e w'=>e=.returned (.int .i64 (bgI c))∧Fresh w w':=by
  have hf:∀ n,Fresh w (w.drewN n):=fun n=>Fresh.drewN (Fresh.refl w) n
  have Hf:=Lib.hid hf
  clear hf
  by_cases a1:c<128
  · have hb:bgI c=1:=by unfold bgI;simp [a1]
    have HB:=Lib.hid hb
    clear hb
    go_enter Tryz.func164,Tryz.ntmps164
    go_wp2
    refine wp_loop_rounds 5 ?_
    rw [rounds_succ]
    go_wp2
    go_quiet (fail)
    go_wp2
    go_ret
    exact ⟨ret_int HB.out.symm,by first | exact Hf.out _ | exact (Hf.out _).drewN _⟩
  by_cases a2:192≤c∧c<224
  · have hb:bgI c=2:=by unfold bgI;rw [if_neg (by omega),if_pos a2]
    obtain ⟨a2,a3⟩:=a2
    have HB:=Lib.hid hb
    clear hb
    go_enter Tryz.func164,Tryz.ntmps164
    go_wp2
    refine wp_loop_rounds 5 ?_
    rw [rounds_succ]
    go_wp2
    go_quiet (fail)
    go_wp2
    rw [rounds_succ]
    go_wp2
    go_quiet (fail)
    go_wp2
    go_ret
    exact ⟨ret_int HB.out.symm,by first | exact Hf.out _ | exact (Hf.out _).drewN _⟩
  by_cases a4:224≤c∧c<240
  · have hb:bgI c=3:=by unfold bgI;rw [if_neg (by omega),if_neg (by omega),if_pos a4]
    obtain ⟨a4,a5⟩:=a4
    clear a2
    have HB:=Lib.hid hb
    clear hb
    go_enter Tryz.func164,Tryz.ntmps164
    go_wp2
    refine wp_loop_rounds 5 ?_
    rw [rounds_succ]
    go_wp2
    go_quiet (fail)
    go_wp2
    rw [rounds_succ]
    go_wp2
    go_quiet (fail)
    go_wp2
    rw [rounds_succ]
    go_wp2
    go_quiet (fail)
    go_wp2
    go_ret
    exact ⟨ret_int HB.out.symm,by first | exact Hf.out _ | exact (Hf.out _).drewN _⟩
  by_cases a6:240≤c∧c<248
  · have hb:bgI c=4:=by unfold bgI;rw [if_neg (by omega),if_neg (by omega),if_neg (by omega),if_pos a6]
    obtain ⟨a6,a7⟩:=a6
    clear a2 a4
    have HB:=Lib.hid hb
    clear hb
    go_enter Tryz.func164,Tryz.ntmps164
    go_wp2
    refine wp_loop_rounds 5 ?_
    rw [rounds_succ]
    go_wp2
    go_quiet (fail)
    go_wp2
    rw [rounds_succ]
    go_wp2
    go_quiet (fail)
    go_wp2
    rw [rounds_succ]
    go_wp2
    go_quiet (fail)
    go_wp2
    rw [rounds_succ]
    go_wp2
    go_quiet (fail)
    go_wp2
    go_ret
    exact ⟨ret_int HB.out.symm,by first | exact Hf.out _ | exact (Hf.out _).drewN _⟩
  · have hb:bgI c=0:=by unfold bgI;rw [if_neg (by omega),if_neg (by omega),if_neg (by omega),if_neg (by omega)]
    have e2:(c / 32 == 6)=false:=by simp;omega
    have e3:(c / 16 == 14)=false:=by simp;omega
    have e4:(c / 8 == 30)=false:=by simp;omega
    have HB:=Lib.hid hb
    clear hb a2 a4 a6
    go_enter Tryz.func164,Tryz.ntmps164
    go_wp2
    refine wp_loop_rounds 5 ?_
    rw [rounds_succ]
    go_wp2
    go_quiet (fail)
    go_wp2
    rw [rounds_succ]
    go_wp2
    go_quiet (fail)
    go_wp2
    rw [rounds_succ]
    go_wp2
    go_quiet (fail)
    go_wp2
    rw [rounds_succ]
    go_wp2
    go_quiet (fail)
    go_wp2
    rw [rounds_succ]
    go_wp2
    go_ret
    exact ⟨ret_int HB.out.symm,by first | exact Hf.out _ | exact (Hf.out _).drewN _⟩
open Go.RowKit
theorem conv_new (xs:List Int) (w:World) (C:Array Value) (n:Nat) (hC:C=(xs.map (Value.int .u8)).toArray) (hn:n=xs.length) :
    (convert 131 9 (.slice (some ⟨w.heap.size,0,none⟩) n n)).run Tryz.prog (w.alloc (.cells C 5))=.ok (.string (strOfNums xs)) (w.alloc (.cells C 5)):=by
  subst hC hn
  exact run_convert_bytes_arg _ 131 5 Tryz.underlying131 Tryz.underlying5 _ 0 _ _ xs rfl (fun i hi=>by
    rw [World.cell?_alloc_at _ _ _ _ rfl];simp [List.getD,hi]) 9 Tryz.underlying9
theorem conv1 (a:Int) (w:World):(convert 131 9 (.slice (some ⟨w.heap.size,0,none⟩) 1 1)).run Tryz.prog (w.alloc (.cells #[.int .u8 a] 5))=.ok (.string (strOfNums [a])) (w.alloc (.cells #[.int .u8 a] 5)) :=
  conv_new [a] w _ 1 rfl rfl
theorem conv2 (a b:Int) (w:World):(convert 131 9 (.slice (some ⟨w.heap.size,0,none⟩) 2 2)).run Tryz.prog (w.alloc (.cells #[.int .u8 a,.int .u8 b] 5))=.ok (.string (strOfNums [a,b])) (w.alloc (.cells #[.int .u8 a,.int .u8 b] 5)) :=
  conv_new [a,b] w _ 2 rfl rfl
theorem conv3 (a b c:Int) (w:World):(convert 131 9 (.slice (some ⟨w.heap.size,0,none⟩) 3 3)).run Tryz.prog (w.alloc (.cells #[.int .u8 a,.int .u8 b,.int .u8 c] 5))=.ok (.string (strOfNums [a,b,c])) (w.alloc (.cells #[.int .u8 a,.int .u8 b,.int .u8 c] 5)) :=
  conv_new [a,b,c] w _ 3 rfl rfl
theorem conv4 (a b c d:Int) (w:World):(convert 131 9 (.slice (some ⟨w.heap.size,0,none⟩) 4 4)).run Tryz.prog (w.alloc (.cells #[.int .u8 a,.int .u8 b,.int .u8 c,.int .u8 d] 5))=.ok (.string (strOfNums [a,b,c,d])) (w.alloc (.cells #[.int .u8 a,.int .u8 b,.int .u8 c,.int .u8 d] 5)) :=
  conv_new [a,b,c,d] w _ 4 rfl rfl
theorem i32_and63 {x:Int} (h0:0≤x) (h1:x<2147483648):bits .and .i32 x 63=x % 64:=bits_mask .i32 31 (by decide) wraps_i32 6 (by decide) x h0 h1
theorem tailb {x:Int} (h0:0≤x) (h1:x<2147483648):bits .or .u8 128 (bits .and .i32 x 63 % 256)=128+x % 64:=by
  rw [i32_and63 h0 h1,show x % 64 % 256=x % 64 by omega,u8_or128 _ (by omega) (by omega)]
theorem headb1 {x:Int} (h0:0≤x) (h1:x<128):bits .or .u8 (hup 1) x=x:=by
  have:=u8_or_nat 0 x.toNat (by omega) (by omega);rw [Int.toNat_of_nonneg h0] at this;exact this.trans (by simp;omega)
theorem headb2 {x:Int} (h0:0≤x) (h1:x<32):bits .or .u8 (hup 2) x=192+x:=u8_or192 _ h0 h1
theorem headb3 {x:Int} (h0:0≤x) (h1:x<16):bits .or .u8 (hup 3) x=224+x:=u8_or224 _ h0 h1
theorem headb4 {x:Int} (h0:0≤x) (h1:x<8):bits .or .u8 (hup 4) x=240+x:=u8_or240 _ h0 h1
theorem ret_str {a b:List Int} (h:a=b):Ending.returned (.string (strOfNums a))=.returned (.string (strOfNums b)):=by rw [h]
theorem encI_1 {r:Int} (h0:0≤r) (h1:r<128):encI r=[bits .or .u8 (hup 1) r]:=by
  rw [headb1 h0 h1];unfold encI;rw [if_pos h1]
theorem encI_2 {r:Int} (h0:128≤r) (h1:r<2048):encI r=[bits .or .u8 (hup 2) (r / 64),bits .or .u8 128 (bits .and .i32 r 63 % 256)]:=by
  rw [headb2 (by omega) (by omega),tailb (by omega) (by omega)];unfold encI;rw [if_neg (by omega),if_pos (by omega)]
theorem encI_3 {r:Int} (h0:2048≤r) (h1:r<65536) :
    encI r=[bits .or .u8 (hup 3) (r / 64 / 64),bits .or .u8 128 (bits .and .i32 (r / 64) 63 % 256),bits .or .u8 128 (bits .and .i32 r 63 % 256)]:=by
  rw [headb3 (by omega) (by omega),tailb (by omega) (by omega),tailb (by omega) (by omega)];unfold encI;rw [if_neg (by omega),if_neg (by omega),if_pos (by omega),show r / 64 / 64=r / 4096 by omega]
theorem encI_4 {r:Int} (h0:65536≤r) (h1:r<1114112) :
    encI r=[bits .or .u8 (hup 4) (r / 64 / 64 / 64),bits .or .u8 128 (bits .and .i32 (r / 64 / 64) 63 % 256),bits .or .u8 128 (bits .and .i32 (r / 64) 63 % 256),bits .or .u8 128 (bits .and .i32 r 63 % 256)]:=by
  rw [headb4 (by omega) (by omega),tailb (by omega) (by omega),tailb (by omega) (by omega),tailb (by omega) (by omega)];unfold encI;rw [if_neg (by omega),if_neg (by omega),if_neg (by omega),show r / 64 / 64 / 64=r / 262144 by omega,show r / 64 / 64=r / 4096 by omega]
set_option maxHeartbeats 400000 in
theorem utfBytes_1 (r:Int) (h0:0≤r) (h1:r<128) (hc:isC r=true) (w:World) :
    Calls Tryz.prog 250 #[.int .i32 r] w fun e w'=>e=.returned (.string (strOfNums (encI r)))∧Fresh w w':=by
  have hs:szI r=1:=by unfold szI;rw [if_pos (by omega)]
  have HS:=Lib.hid hs
  clear hs
  have HC:=Lib.hid hc
  clear hc
  have hmk:∀ w,(Instr.makeSlice 131 (.int .i64 1) (.int .i64 1)).run Tryz.prog w=.ok (.slice (some ⟨w.heap.size,0,none⟩) 1 1) (w.alloc (.cells #[.int .u8 0] 5)):=fun _=>by kernel_rfl
  have k1:=conv1
  go_enter Tryz.func250,Tryz.ntmps250
  go_wp2_with (first
   | (go_at_call 166;refine (utfIs_any _ _).mono ?_;rintro e w1 ⟨rfl,rfl⟩;rw [HC.out])
   | (go_at_call 167;refine (size_any _ _).mono ?_;rintro e w2 ⟨rfl,hb2⟩;rw [HS.out]))
  refine wp_loop_rounds 1 ?_
  rw [rounds_succ]
  go_wp2_with (go_at_call 165;refine (head_any _ _).mono ?_;rintro e w3 ⟨rfl,rfl⟩)
  go_ret
  exact ⟨ret_str (encI_1 h0 h1).symm,hb2.alloc _⟩
set_option maxHeartbeats 400000 in
theorem utfBytes_2 (r:Int) (h0:128≤r) (h1:r<2048) (hc:isC r=true) (w:World) :
    Calls Tryz.prog 250 #[.int .i32 r] w fun e w'=>e=.returned (.string (strOfNums (encI r)))∧Fresh w w':=by
  have hs:szI r=2:=by unfold szI;rw [if_neg (by omega)];rw [if_pos (by omega)]
  have HS:=Lib.hid hs
  clear hs
  have HC:=Lib.hid hc
  clear hc
  have hmk:∀ w,(Instr.makeSlice 131 (.int .i64 2) (.int .i64 2)).run Tryz.prog w=.ok (.slice (some ⟨w.heap.size,0,none⟩) 2 2) (w.alloc (.cells #[.int .u8 0,.int .u8 0] 5)):=fun _=>by kernel_rfl
  have k1:=conv2
  go_enter Tryz.func250,Tryz.ntmps250
  go_wp2_with (first
   | (go_at_call 166;refine (utfIs_any _ _).mono ?_;rintro e w1 ⟨rfl,rfl⟩;rw [HC.out])
   | (go_at_call 167;refine (size_any _ _).mono ?_;rintro e w2 ⟨rfl,hb2⟩;rw [HS.out]))
  refine wp_loop_rounds 2 ?_
  rw [rounds_succ]
  go_wp2
  rw [rounds_succ]
  go_wp2_with (go_at_call 165;refine (head_any _ _).mono ?_;rintro e w3 ⟨rfl,rfl⟩)
  go_ret
  exact ⟨ret_str (encI_2 h0 h1).symm,hb2.alloc _⟩
set_option maxHeartbeats 400000 in
theorem utfBytes_3 (r:Int) (h0:2048≤r) (h1:r<65536) (hc:isC r=true) (w:World) :
    Calls Tryz.prog 250 #[.int .i32 r] w fun e w'=>e=.returned (.string (strOfNums (encI r)))∧Fresh w w':=by
  have hs:szI r=3:=by unfold szI;rw [if_neg (by omega)];rw [if_neg (by omega)];rw [if_pos (by omega)]
  have HS:=Lib.hid hs
  clear hs
  have HC:=Lib.hid hc
  clear hc
  have hmk:∀ w,(Instr.makeSlice 131 (.int .i64 3) (.int .i64 3)).run Tryz.prog w=.ok (.slice (some ⟨w.heap.size,0,none⟩) 3 3) (w.alloc (.cells #[.int .u8 0,.int .u8 0,.int .u8 0] 5)):=fun _=>by kernel_rfl
  have k1:=conv3
  go_enter Tryz.func250,Tryz.ntmps250
  go_wp2_with (first
   | (go_at_call 166;refine (utfIs_any _ _).mono ?_;rintro e w1 ⟨rfl,rfl⟩;rw [HC.out])
   | (go_at_call 167;refine (size_any _ _).mono ?_;rintro e w2 ⟨rfl,hb2⟩;rw [HS.out]))
  refine wp_loop_rounds 3 ?_
  rw [rounds_succ]
  go_wp2
  rw [rounds_succ]
  go_wp2
  rw [rounds_succ]
  go_wp2_with (go_at_call 165;refine (head_any _ _).mono ?_;rintro e w3 ⟨rfl,rfl⟩)
  go_ret
  exact ⟨ret_str (encI_3 h0 h1).symm,hb2.alloc _⟩
set_option maxHeartbeats 400000 in
theorem utfBytes_4 (r:Int) (h0:65536≤r) (h1:r<1114112) (hc:isC r=true) (w:World) :
    Calls Tryz.prog 250 #[.int .i32 r] w fun e w'=>e=.returned (.string (strOfNums (encI r)))∧Fresh w w':=by
  have hs:szI r=4:=by unfold szI;rw [if_neg (by omega)];rw [if_neg (by omega)];rw [if_neg (by omega)]
  have HS:=Lib.hid hs
  clear hs
  have HC:=Lib.hid hc
  clear hc
  have hmk:∀ w,(Instr.makeSlice 131 (.int .i64 4) (.int .i64 4)).run Tryz.prog w=.ok (.slice (some ⟨w.heap.size,0,none⟩) 4 4) (w.alloc (.cells #[.int .u8 0,.int .u8 0,.int .u8 0,.int .u8 0] 5)):=fun _=>by kernel_rfl
  have k1:=conv4
  go_enter Tryz.func250,Tryz.ntmps250
  go_wp2_with (first
   | (go_at_call 166;refine (utfIs_any _ _).mono ?_;rintro e w1 ⟨rfl,rfl⟩;rw [HC.out])
   | (go_at_call 167;refine (size_any _ _).mono ?_;rintro e w2 ⟨rfl,hb2⟩;rw [HS.out]))
  refine wp_loop_rounds 4 ?_
  rw [rounds_succ]
  go_wp2
  rw [rounds_succ]
  go_wp2
  rw [rounds_succ]
  go_wp2
  rw [rounds_succ]
  go_wp2_with (go_at_call 165;refine (head_any _ _).mono ?_;rintro e w3 ⟨rfl,rfl⟩)
  go_ret
  exact ⟨ret_str (encI_4 h0 h1).symm,hb2.alloc _⟩
set_option maxHeartbeats 400000 in
theorem utfBytes_no (r:Int) (hc:isC r=false) (w:World) :
    Calls Tryz.prog 250 #[.int .i32 r] w fun e w'=>e=.returned (.string ByteArray.empty)∧Fresh w w':=by
  have HC:=Lib.hid hc
  clear hc
  go_enter Tryz.func250,Tryz.ntmps250
  go_wp2_with (go_at_call 166;refine (utfIs_any _ _).mono ?_;rintro e w1 ⟨rfl,rfl⟩;rw [HC.out])
  go_ret
  exact ⟨rfl,Fresh.refl _⟩
theorem utfBytes_any (r:Int) (w:World) :
    Calls Tryz.prog 250 #[.int .i32 r] w fun e w'=>e=.returned (.string (encS r))∧Fresh w w':=by
  by_cases hc:isC r=true
  · have hr:=isC_true hc
    have e:encS r=strOfNums (encI r):=by unfold encS;rw [if_pos hc]
    rw [e]
    by_cases h1:r<128
    · exact utfBytes_1 r hr.1 h1 hc w
    by_cases h2:r<2048
    · exact utfBytes_2 r (by omega) h2 hc w
    by_cases h3:r<65536
    · exact utfBytes_3 r (by omega) h3 hc w
    · exact utfBytes_4 r (by omega) (by omega) hc w
  · have e:encS r=ByteArray.empty:=by unfold encS;rw [if_neg hc]
    rw [e]
    exact utfBytes_no r (by simpa using hc) w
open Go.RowKit
theorem empty_of {t:ByteArray} (h:t.size=0):t=ByteArray.empty:=by
  apply ByteArray.ext;exact Array.eq_empty_of_size_eq_zero h
def ct (c:Int):Bool:=(bits .andNot .u8 c 63 != 128) == false
theorem ct_no {c:Int} (h:(bits .andNot .u8 c 63 != 128)=true):ct c=false:=by unfold ct;rw [h];rfl
theorem ct_yes {c:Int} (h:(bits .andNot .u8 c 63 != 128)=false):ct c=true:=by unfold ct;rw [h];rfl
def finN (r n:Int):Int × Int:=if (isC r && szI r == n)=true then (r,n) else (0,0)
theorem ret_two {a b:Int × Int} (h:a=b):Ending.returned (.tuple #[.int .i32 a.1,.int .i64 a.2])=.returned (.tuple #[.int .i32 b.1,.int .i64 b.2]):=by rw [h]
theorem fin_no1 {r n:Int} (h:¬isC r=true):finN r n=(0,0):=by unfold finN;rw [if_neg];simp [h]
theorem fin_no2 {r n:Int} (h:(szI r != n)=true):finN r n=(0,0):=by
  unfold finN;rw [if_neg];simp at h;simp [h]
theorem fin_yes {r n:Int} (h1:isC r=true) (h2:(szI r != n)=false):finN r n=(r,n):=by
  unfold finN;rw [if_pos];simp at h2;simp [h1,h2]
def nx1 (c0 :Int):Int × Int:=if (true)=true then finN c0 1 else (0,0)
set_option maxHeartbeats 800000 in
theorem utfNext_1 (s:ByteArray) (p:Nat) (c0 :Int) (hp:p+1≤s.size) (hs:s.size≤140737488351232)
    (hx0:0≤c0) (hy0:c0<128)  (hlt:p<s.size) (hc0:((s[p]'hlt).toNat:Int)=c0)
    (t:ByteArray) (_ht:s.extract (p+1) (p+1)=t) (hts:t.size=0) 
     (w:World) :
    Calls Tryz.prog 113 #[.string s,.int .i64 p] w fun e w'=>e=.returned (.tuple #[.int .i32 (nx1 c0 ).1,.int .i64 (nx1 c0 ).2])∧Fresh w w':=by
  have hcv:∀ W:World,(convert 9 131 (.string t)).run Tryz.prog W=.ok (.slice (some ⟨W.heap.size,0,none⟩) 0 (grownCap W 0 0 5)) (Lib.bytesWorld W 5 t):=fun W=>by
    have:=Lib.run_convert_string_bytes (P:=Tryz.prog) W 9 131 5 t Tryz.underlying9 Tryz.underlying131 Tryz.underlying5
    rw [hts] at this
    exact this
  have hm:bits .and .u8 c0 127=c0:=by have:=bits_mask .u8 8 (by decide) wraps_u8 7 (by decide) c0 (by omega) (by omega);simp at this;rw [this];omega
  obtain rfl:t=ByteArray.empty:=empty_of hts
  have hbg:bgI c0=1:=by unfold bgI;rw [if_pos (by omega)]
  have HBG:=Lib.hid hbg
  clear hbg hts 
  have hfw:∀ W:World,Fresh W (Lib.bytesWorld W 5 ByteArray.empty):=fun W=>fresh_bytes W _ _
  have HFW:=Lib.hid hfw
  clear hfw
  go_enter Tryz.func113,Tryz.ntmps113
  go_wp2_with fail
  refine (begins_any _ (by omega) (by omega) _).mono ?_
  rintro e w1 ⟨rfl,h1⟩
  rw [HBG.out]
  go_wp2_with fail
  refine (head_any _ _).mono ?_
  rintro e w2 ⟨rfl,rfl⟩
  rw [show hup 1=0 from rfl,show hbits 1=1 from rfl]
  go_wp2
  go_quiet (fail)
  go_wp2
  refine wp_loop_rounds 1 ?_
  all_goals (rw [rounds_succ];go_wp2_with fail)
  · refine (utfIs_any _ _).mono ?_
    rintro e w3 ⟨rfl,rfl⟩
    go_wp2_with fail
    · refine (size_any _ _).mono ?_
      rintro e w4 ⟨rfl,h4⟩
      go_wp2
      · have hz:nx1 c0 =(0,0):=by unfold nx1;rw [if_pos (by simp)];exact fin_no2 ‹_›
        go_ret2
        exact ⟨ret_two (a:=(0,0)) hz.symm,((h1.drewN _).trans (HFW.out _)).trans h4⟩
      · have hz:nx1 c0 =(c0,1):=by unfold nx1;rw [if_pos (by simp)];exact fin_yes ‹_› ‹_›
        go_ret2
        exact ⟨ret_two (a:=(c0,1)) hz.symm,((h1.drewN _).trans (HFW.out _)).trans h4⟩
    · have hz:nx1 c0 =(0,0):=by unfold nx1;rw [if_pos (by simp)];exact fin_no1 ‹_›
      go_ret2
      exact ⟨ret_two (a:=(0,0)) hz.symm,(h1.drewN _).trans (HFW.out _)⟩
def nx2 (c1 r1:Int):Int × Int:=if (true && ct c1)=true then finN r1 2 else (0,0)
set_option maxHeartbeats 800000 in
theorem utfNext_2 (s:ByteArray) (p:Nat) (c0 c1 r1:Int) (hp:p+2≤s.size) (hs:s.size≤140737488351232)
    (hx0:192≤c0) (hy0:c0<224) (hx1:0≤c1) (hy1:c1<256) (hlt:p<s.size) (hc0:((s[p]'hlt).toNat:Int)=c0)
    (t:ByteArray) (ht:s.extract (p+1) (p+2)=t) (hts:t.size=1) (hc1:((t.data.toList.getD 0 0).toNat:Int)=c1)
    (hr1:bits .or .i32 (c0 % 32 * 64) (c1 % 64)=r1) (hp1:0≤r1) (hq1:r1<2048) (w:World) :
    Calls Tryz.prog 113 #[.string s,.int .i64 p] w fun e w'=>e=.returned (.tuple #[.int .i32 (nx2 c1 r1).1,.int .i64 (nx2 c1 r1).2])∧Fresh w w':=by
  have hcv:∀ W:World,(convert 9 131 (.string t)).run Tryz.prog W=.ok (.slice (some ⟨W.heap.size,0,none⟩) 1 (grownCap W 1 0 5)) (Lib.bytesWorld W 5 t):=fun W=>by
    have:=Lib.run_convert_string_bytes (P:=Tryz.prog) W 9 131 5 t Tryz.underlying9 Tryz.underlying131 Tryz.underlying5
    rw [hts] at this
    exact this
  have hcell1:∀ (W:World) (m:Nat),(Lib.bytesWorld (W.drewN m) 5 t).cell? ⟨W.heap.size,0,none⟩=some (.int .u8 c1):=fun W m=>by
    rw [← hc1];exact Lib.bytesWorld_cell (W.drewN m) 5 t 0 (by omega)
  have hbg:bgI c0=2:=by unfold bgI;rw [if_neg (by omega),if_pos ⟨hx0,hy0⟩]
  have HBG:=Lib.hid hbg
  clear hbg hts hc1
  have hfw:∀ W:World,Fresh W (Lib.bytesWorld W 5 t):=fun W=>fresh_bytes W _ _
  have HFW:=Lib.hid hfw
  clear hfw
  go_enter Tryz.func113,Tryz.ntmps113
  go_wp2_with fail
  refine (begins_any _ (by omega) (by omega) _).mono ?_
  rintro e w1 ⟨rfl,h1⟩
  rw [HBG.out]
  go_wp2_with fail
  refine (head_any _ _).mono ?_
  rintro e w2 ⟨rfl,rfl⟩
  rw [show hup 2=192 from rfl,show hbits 2=3 from rfl]
  go_wp2
  go_quiet (fail)
  go_wp2
  refine wp_loop_rounds 2 ?_
  all_goals (rw [rounds_succ];go_wp2_with fail)
  all_goals (try (rw [rounds_succ];go_wp2_with fail))
  · have hz:nx2 c1 r1=(0,0):=by unfold nx2;rw [if_neg];simp [ct_no ‹(bits .andNot .u8 c1 63 != 128)=true›]
    go_ret2
    exact ⟨ret_two (a:=(0,0)) hz.symm,(h1.drewN _).trans (HFW.out _)⟩
  · refine (utfIs_any _ _).mono ?_
    rintro e w3 ⟨rfl,rfl⟩
    go_wp2_with fail
    · refine (size_any _ _).mono ?_
      rintro e w4 ⟨rfl,h4⟩
      go_wp2
      · have hz:nx2 c1 r1=(0,0):=by unfold nx2;rw [if_pos (by simp [ct_yes ‹(bits .andNot .u8 c1 63 != 128)=false›])];exact fin_no2 ‹_›
        go_ret2
        exact ⟨ret_two (a:=(0,0)) hz.symm,((h1.drewN _).trans (HFW.out _)).trans h4⟩
      · have hz:nx2 c1 r1=(r1,2):=by unfold nx2;rw [if_pos (by simp [ct_yes ‹(bits .andNot .u8 c1 63 != 128)=false›])];exact fin_yes ‹_› ‹_›
        go_ret2
        exact ⟨ret_two (a:=(r1,2)) hz.symm,((h1.drewN _).trans (HFW.out _)).trans h4⟩
    · have hz:nx2 c1 r1=(0,0):=by unfold nx2;rw [if_pos (by simp [ct_yes ‹(bits .andNot .u8 c1 63 != 128)=false›])];exact fin_no1 ‹_›
      go_ret2
      exact ⟨ret_two (a:=(0,0)) hz.symm,(h1.drewN _).trans (HFW.out _)⟩
def nx3 (c1 c2 r1 r2:Int):Int × Int:=if (true && ct c1 && ct c2)=true then finN r2 3 else (0,0)
set_option maxHeartbeats 800000 in
theorem utfNext_3 (s:ByteArray) (p:Nat) (c0 c1 c2 r1 r2:Int) (hp:p+3≤s.size) (hs:s.size≤140737488351232)
    (hx0:224≤c0) (hy0:c0<240) (hx1:0≤c1) (hy1:c1<256) (hx2:0≤c2) (hy2:c2<256) (hlt:p<s.size) (hc0:((s[p]'hlt).toNat:Int)=c0)
    (t:ByteArray) (ht:s.extract (p+1) (p+3)=t) (hts:t.size=2) (hc1:((t.data.toList.getD 0 0).toNat:Int)=c1) (hc2:((t.data.toList.getD 1 0).toNat:Int)=c2)
    (hr1:bits .or .i32 (c0 % 16 * 64) (c1 % 64)=r1) (hp1:0≤r1) (hq1:r1<1024) (hr2:bits .or .i32 (r1 * 64) (c2 % 64)=r2) (hp2:0≤r2) (hq2:r2<65536) (w:World) :
    Calls Tryz.prog 113 #[.string s,.int .i64 p] w fun e w'=>e=.returned (.tuple #[.int .i32 (nx3 c1 c2 r1 r2).1,.int .i64 (nx3 c1 c2 r1 r2).2])∧Fresh w w':=by
  have hcv:∀ W:World,(convert 9 131 (.string t)).run Tryz.prog W=.ok (.slice (some ⟨W.heap.size,0,none⟩) 2 (grownCap W 2 0 5)) (Lib.bytesWorld W 5 t):=fun W=>by
    have:=Lib.run_convert_string_bytes (P:=Tryz.prog) W 9 131 5 t Tryz.underlying9 Tryz.underlying131 Tryz.underlying5
    rw [hts] at this
    exact this
  have hcell1:∀ (W:World) (m:Nat),(Lib.bytesWorld (W.drewN m) 5 t).cell? ⟨W.heap.size,0,none⟩=some (.int .u8 c1):=fun W m=>by
    rw [← hc1];exact Lib.bytesWorld_cell (W.drewN m) 5 t 0 (by omega)
  have hcell2:∀ (W:World) (m:Nat),(Lib.bytesWorld (W.drewN m) 5 t).cell? ⟨W.heap.size,1,none⟩=some (.int .u8 c2):=fun W m=>by
    rw [← hc2];exact Lib.bytesWorld_cell (W.drewN m) 5 t 1 (by omega)
  have hbg:bgI c0=3:=by unfold bgI;rw [if_neg (by omega),if_neg (by omega),if_pos ⟨hx0,hy0⟩]
  have HBG:=Lib.hid hbg
  clear hbg hts hc1 hc2
  have hfw:∀ W:World,Fresh W (Lib.bytesWorld W 5 t):=fun W=>fresh_bytes W _ _
  have HFW:=Lib.hid hfw
  clear hfw
  go_enter Tryz.func113,Tryz.ntmps113
  go_wp2_with fail
  refine (begins_any _ (by omega) (by omega) _).mono ?_
  rintro e w1 ⟨rfl,h1⟩
  rw [HBG.out]
  go_wp2_with fail
  refine (head_any _ _).mono ?_
  rintro e w2 ⟨rfl,rfl⟩
  rw [show hup 3=224 from rfl,show hbits 3=4 from rfl]
  go_wp2
  go_quiet (fail)
  go_wp2
  refine wp_loop_rounds 3 ?_
  all_goals (rw [rounds_succ];go_wp2_with fail)
  all_goals (try (rw [rounds_succ];go_wp2_with fail))
  all_goals (try (rw [rounds_succ];go_wp2_with fail))
  · have hz:nx3 c1 c2 r1 r2=(0,0):=by unfold nx3;rw [if_neg];simp [ct_no ‹(bits .andNot .u8 c1 63 != 128)=true›]
    go_ret2
    exact ⟨ret_two (a:=(0,0)) hz.symm,(h1.drewN _).trans (HFW.out _)⟩
  · have hz:nx3 c1 c2 r1 r2=(0,0):=by unfold nx3;rw [if_neg];simp [ct_no ‹(bits .andNot .u8 c2 63 != 128)=true›]
    go_ret2
    exact ⟨ret_two (a:=(0,0)) hz.symm,(h1.drewN _).trans (HFW.out _)⟩
  · refine (utfIs_any _ _).mono ?_
    rintro e w3 ⟨rfl,rfl⟩
    go_wp2_with fail
    · refine (size_any _ _).mono ?_
      rintro e w4 ⟨rfl,h4⟩
      go_wp2
      · have hz:nx3 c1 c2 r1 r2=(0,0):=by unfold nx3;rw [if_pos (by simp [ct_yes ‹(bits .andNot .u8 c1 63 != 128)=false›,ct_yes ‹(bits .andNot .u8 c2 63 != 128)=false›])];exact fin_no2 ‹_›
        go_ret2
        exact ⟨ret_two (a:=(0,0)) hz.symm,((h1.drewN _).trans (HFW.out _)).trans h4⟩
      · have hz:nx3 c1 c2 r1 r2=(r2,3):=by unfold nx3;rw [if_pos (by simp [ct_yes ‹(bits .andNot .u8 c1 63 != 128)=false›,ct_yes ‹(bits .andNot .u8 c2 63 != 128)=false›])];exact fin_yes ‹_› ‹_›
        go_ret2
        exact ⟨ret_two (a:=(r2,3)) hz.symm,((h1.drewN _).trans (HFW.out _)).trans h4⟩
    · have hz:nx3 c1 c2 r1 r2=(0,0):=by unfold nx3;rw [if_pos (by simp [ct_yes ‹(bits .andNot .u8 c1 63 != 128)=false›,ct_yes ‹(bits .andNot .u8 c2 63 != 128)=false›])];exact fin_no1 ‹_›
      go_ret2
      exact ⟨ret_two (a:=(0,0)) hz.symm,(h1.drewN _).trans (HFW.out _)⟩
def nx4 (c1 c2 c3 r1 r2 r3:Int):Int × Int:=if (true && ct c1 && ct c2 && ct c3)=true then finN r3 4 else (0,0)
set_option maxHeartbeats 800000 in
theorem utfNext_4 (s:ByteArray) (p:Nat) (c0 c1 c2 c3 r1 r2 r3:Int) (hp:p+4≤s.size) (hs:s.size≤140737488351232)
    (hx0:240≤c0) (hy0:c0<248) (hx1:0≤c1) (hy1:c1<256) (hx2:0≤c2) (hy2:c2<256) (hx3:0≤c3) (hy3:c3<256) (hlt:p<s.size) (hc0:((s[p]'hlt).toNat:Int)=c0)
    (t:ByteArray) (ht:s.extract (p+1) (p+4)=t) (hts:t.size=3) (hc1:((t.data.toList.getD 0 0).toNat:Int)=c1) (hc2:((t.data.toList.getD 1 0).toNat:Int)=c2) (hc3:((t.data.toList.getD 2 0).toNat:Int)=c3)
    (hr1:bits .or .i32 (c0 % 8 * 64) (c1 % 64)=r1) (hp1:0≤r1) (hq1:r1<512) (hr2:bits .or .i32 (r1 * 64) (c2 % 64)=r2) (hp2:0≤r2) (hq2:r2<32768) (hr3:bits .or .i32 (r2 * 64) (c3 % 64)=r3) (hp3:0≤r3) (hq3:r3<2097152) (w:World) :
    Calls Tryz.prog 113 #[.string s,.int .i64 p] w fun e w'=>e=.returned (.tuple #[.int .i32 (nx4 c1 c2 c3 r1 r2 r3).1,.int .i64 (nx4 c1 c2 c3 r1 r2 r3).2])∧Fresh w w':=by
  have hcv:∀ W:World,(convert 9 131 (.string t)).run Tryz.prog W=.ok (.slice (some ⟨W.heap.size,0,none⟩) 3 (grownCap W 3 0 5)) (Lib.bytesWorld W 5 t):=fun W=>by
    have:=Lib.run_convert_string_bytes (P:=Tryz.prog) W 9 131 5 t Tryz.underlying9 Tryz.underlying131 Tryz.underlying5
    rw [hts] at this
    exact this
  have hcell1:∀ (W:World) (m:Nat),(Lib.bytesWorld (W.drewN m) 5 t).cell? ⟨W.heap.size,0,none⟩=some (.int .u8 c1):=fun W m=>by
    rw [← hc1];exact Lib.bytesWorld_cell (W.drewN m) 5 t 0 (by omega)
  have hcell2:∀ (W:World) (m:Nat),(Lib.bytesWorld (W.drewN m) 5 t).cell? ⟨W.heap.size,1,none⟩=some (.int .u8 c2):=fun W m=>by
    rw [← hc2];exact Lib.bytesWorld_cell (W.drewN m) 5 t 1 (by omega)
  have hcell3:∀ (W:World) (m:Nat),(Lib.bytesWorld (W.drewN m) 5 t).cell? ⟨W.heap.size,2,none⟩=some (.int .u8 c3):=fun W m=>by
    rw [← hc3];exact Lib.bytesWorld_cell (W.drewN m) 5 t 2 (by omega)
  have hbg:bgI c0=4:=by unfold bgI;rw [if_neg (by omega),if_neg (by omega),if_neg (by omega),if_pos ⟨hx0,hy0⟩]
  have HBG:=Lib.hid hbg
  clear hbg hts hc1 hc2 hc3
  have hfw:∀ W:World,Fresh W (Lib.bytesWorld W 5 t):=fun W=>fresh_bytes W _ _
  have HFW:=Lib.hid hfw
  clear hfw
  go_enter Tryz.func113,Tryz.ntmps113
  go_wp2_with fail
  refine (begins_any _ (by omega) (by omega) _).mono ?_
  rintro e w1 ⟨rfl,h1⟩
  rw [HBG.out]
  go_wp2_with fail
  refine (head_any _ _).mono ?_
  rintro e w2 ⟨rfl,rfl⟩
  rw [show hup 4=240 from rfl,show hbits 4=5 from rfl]
  go_wp2
  go_quiet (fail)
  go_wp2
  refine wp_loop_rounds 4 ?_
  all_goals (rw [rounds_succ];go_wp2_with fail)
  all_goals (try (rw [rounds_succ];go_wp2_with fail))
  all_goals (try (rw [rounds_succ];go_wp2_with fail))
  all_goals (try (rw [rounds_succ];go_wp2_with fail))
  · have hz:nx4 c1 c2 c3 r1 r2 r3=(0,0):=by unfold nx4;rw [if_neg];simp [ct_no ‹(bits .andNot .u8 c1 63 != 128)=true›]
    go_ret2
    exact ⟨ret_two (a:=(0,0)) hz.symm,(h1.drewN _).trans (HFW.out _)⟩
  · have hz:nx4 c1 c2 c3 r1 r2 r3=(0,0):=by unfold nx4;rw [if_neg];simp [ct_no ‹(bits .andNot .u8 c2 63 != 128)=true›]
    go_ret2
    exact ⟨ret_two (a:=(0,0)) hz.symm,(h1.drewN _).trans (HFW.out _)⟩
  · have hz:nx4 c1 c2 c3 r1 r2 r3=(0,0):=by unfold nx4;rw [if_neg];simp [ct_no ‹(bits .andNot .u8 c3 63 != 128)=true›]
    go_ret2
    exact ⟨ret_two (a:=(0,0)) hz.symm,(h1.drewN _).trans (HFW.out _)⟩
  · refine (utfIs_any _ _).mono ?_
    rintro e w3 ⟨rfl,rfl⟩
    go_wp2_with fail
    · refine (size_any _ _).mono ?_
      rintro e w4 ⟨rfl,h4⟩
      go_wp2
      · have hz:nx4 c1 c2 c3 r1 r2 r3=(0,0):=by unfold nx4;rw [if_pos (by simp [ct_yes ‹(bits .andNot .u8 c1 63 != 128)=false›,ct_yes ‹(bits .andNot .u8 c2 63 != 128)=false›,ct_yes ‹(bits .andNot .u8 c3 63 != 128)=false›])];exact fin_no2 ‹_›
        go_ret2
        exact ⟨ret_two (a:=(0,0)) hz.symm,((h1.drewN _).trans (HFW.out _)).trans h4⟩
      · have hz:nx4 c1 c2 c3 r1 r2 r3=(r3,4):=by unfold nx4;rw [if_pos (by simp [ct_yes ‹(bits .andNot .u8 c1 63 != 128)=false›,ct_yes ‹(bits .andNot .u8 c2 63 != 128)=false›,ct_yes ‹(bits .andNot .u8 c3 63 != 128)=false›])];exact fin_yes ‹_› ‹_›
        go_ret2
        exact ⟨ret_two (a:=(r3,4)) hz.symm,((h1.drewN _).trans (HFW.out _)).trans h4⟩
    · have hz:nx4 c1 c2 c3 r1 r2 r3=(0,0):=by unfold nx4;rw [if_pos (by simp [ct_yes ‹(bits .andNot .u8 c1 63 != 128)=false›,ct_yes ‹(bits .andNot .u8 c2 63 != 128)=false›,ct_yes ‹(bits .andNot .u8 c3 63 != 128)=false›])];exact fin_no1 ‹_›
      go_ret2
      exact ⟨ret_two (a:=(0,0)) hz.symm,(h1.drewN _).trans (HFW.out _)⟩
set_option maxHeartbeats 400000 in
theorem utfNext_out (s:ByteArray) (i:Int) (h:i<0∨(s.size:Int)≤i) (hs:s.size≤140737488351232) (w:World) :
    Calls Tryz.prog 113 #[.string s,.int .i64 i] w fun e w'=>e=.returned (.tuple #[.int .i32 0,.int .i64 0])∧Fresh w w':=by
  rcases h with h | h
  · go_enter Tryz.func113,Tryz.ntmps113
    go_wp2
    go_ret2
    exact ⟨rfl,Fresh.refl _⟩
  · have h0:¬ i<0:=by omega
    go_enter Tryz.func113,Tryz.ntmps113
    go_wp2
    go_ret2
    exact ⟨rfl,Fresh.refl _⟩
set_option maxHeartbeats 400000 in
theorem utfNext_short (s:ByteArray) (p:Nat) (c0 k:Int) (hlt:p<s.size) (hc0:((s[p]'hlt).toNat:Int)=c0) (hx:0≤c0) (hy:c0<256)
    (hk:bgI c0=k) (h:k=0∨(s.size:Int) - p<k) (hs:s.size≤140737488351232) (w:World) :
    Calls Tryz.prog 113 #[.string s,.int .i64 p] w fun e w'=>e=.returned (.tuple #[.int .i32 0,.int .i64 0])∧Fresh w w':=by
  have HK:=Lib.hid hk
  clear hk
  rcases h with rfl | h
  · go_enter Tryz.func113,Tryz.ntmps113
    go_wp2_with fail
    refine (begins_any _ (by omega) (by omega) _).mono ?_
    rintro e w1 ⟨rfl,h1⟩
    rw [HK.out]
    go_wp2
    go_ret2
    exact ⟨rfl,h1⟩
  · have h2:(k == 0)=false:=by simp;omega
    go_enter Tryz.func113,Tryz.ntmps113
    go_wp2_with fail
    refine (begins_any _ (by omega) (by omega) _).mono ?_
    rintro e w1 ⟨rfl,h1⟩
    rw [HK.out]
    go_wp2
    go_ret2
    exact ⟨rfl,h1⟩
def B (s:ByteArray) (i:Nat):Int:=((s.data.toList.getD i 0).toNat:Int)
theorem B_range (s:ByteArray) (i:Nat):0≤B s i∧B s i<256:=by unfold B;have:=(s.data.toList.getD i 0).toNat_lt;omega
theorem B_at (s:ByteArray) (p:Nat) (h:p<s.size):((s[p]'h).toNat:Int)=B s p:=by
  unfold B
  have:s.data.toList.getD p 0=s[p]'h:=by
    have hl:p<s.data.toList.length:=by simpa using h
    rw [List.getD_eq_getElem?_getD,List.getElem?_eq_getElem hl];rfl
  rw [this]
theorem B_extract (s:ByteArray) (a b j:Nat) (hb:b≤s.size) (hj:a+j<b):(((s.extract a b).data.toList.getD j 0).toNat:Int)=B s (a+j):=by
  unfold B
  have:(s.extract a b).data.toList.getD j 0=s.data.toList.getD (a+j) 0:=by
    rw [List.getD_eq_getElem?_getD,List.getD_eq_getElem?_getD,ByteArray.data_extract,Array.toList_extract,List.extract_eq_take_drop,List.getElem?_take,if_pos (by omega),List.getElem?_drop]
  rw [this]
theorem extract_size (s:ByteArray) (a b:Nat) (hb:b≤s.size):(s.extract a b).size=b - a:=by
  rw [ByteArray.size_extract];omega
def nxt (s:ByteArray) (p:Nat):Int × Int :=
  let c0:=B s p;let c1:=B s (p+1);let c2:=B s (p+2);let c3:=B s (p+3)
  if c0<128 then (c0,1)
  else if 192≤c0∧c0<224∧p+2≤s.size then nx2 c1 (c0 % 32 * 64+c1 % 64)
  else if 224≤c0∧c0<240∧p+3≤s.size then nx3 c1 c2 (c0 % 16 * 64+c1 % 64) ((c0 % 16 * 64+c1 % 64) * 64+c2 % 64)
  else if 240≤c0∧c0<248∧p+4≤s.size then nx4 c1 c2 c3 (c0 % 8 * 64+c1 % 64) ((c0 % 8 * 64+c1 % 64) * 64+c2 % 64) (((c0 % 8 * 64+c1 % 64) * 64+c2 % 64) * 64+c3 % 64)
  else (0,0)
def nextI (s:ByteArray) (i:Int):Int × Int:=if 0≤i∧i<(s.size:Int) then nxt s i.toNat else (0,0)
theorem nx1_is {c:Int} (h0:0≤c) (h1:c<128):nx1 c=(c,1):=by
  unfold nx1;rw [if_pos rfl];refine fin_yes ?_ ?_
  · unfold isC;simp;omega
  · unfold szI;rw [if_pos h1];rfl
theorem or6 {x y:Int} (h0:0≤x) (h1:x<33554432) (hy:0≤y∧y<256):bits .or .i32 (x * 64) (y % 64)=x * 64+y % 64 :=
  i32_or6 _ _ (by omega) (by omega) (by omega) (by omega) (by omega)
theorem utfNext_any (s:ByteArray) (i:Int) (hs:s.size≤140737488351232) (w:World) :
    Calls Tryz.prog 113 #[.string s,.int .i64 i] w fun e w'=>e=.returned (.tuple #[.int .i32 (nextI s i).1,.int .i64 (nextI s i).2])∧Fresh w w':=by
  by_cases hi:0≤i∧i<(s.size:Int)
  · obtain ⟨p,rfl⟩:=Int.eq_ofNat_of_zero_le hi.1
    have hlt:p<s.size:=by omega
    have e:nextI s (p:Int)=nxt s p:=by unfold nextI;rw [if_pos hi];rfl
    rw [e]
    have hb:=B_at s p hlt
    have b0:=B_range s p
    have b1:=B_range s (p+1)
    have b2:=B_range s (p+2)
    have b3:=B_range s (p+3)
    by_cases a1:B s p<128
    · have e:nxt s p=nx1 (B s p):=by unfold nxt;simp only [if_pos a1];rw [nx1_is b0.1 a1]
      rw [e]
      exact utfNext_1 s p (B s p) (by omega) hs b0.1 a1 hlt hb (s.extract (p+1) (p+1)) rfl (by rw [extract_size _ _ _ (by omega)];omega) w
    by_cases a2:192≤B s p∧B s p<224
    · by_cases l2:p+2≤s.size
      · have e:nxt s p=nx2 (B s (p+1)) (B s p % 32 * 64+B s (p+1) % 64):=by unfold nxt;simp only [if_neg a1,if_pos (And.intro a2.1 (And.intro a2.2 l2))]
        rw [e]
        exact utfNext_2 s p (B s p) (B s (p+1)) _ (by omega) hs a2.1 a2.2 b1.1 b1.2 hlt hb (s.extract (p+1) (p+2)) rfl (by rw [extract_size _ _ _ (by omega)];omega)
          (B_extract _ _ _ _ (by omega) (by omega)) (or6 (by omega) (by omega) b1) (by omega) (by omega) w
      · have e:nxt s p=(0,0):=by unfold nxt;simp only [if_neg a1];rw [if_neg (by omega),if_neg (by omega),if_neg (by omega)]
        rw [e]
        exact utfNext_short s p _ 2 hlt hb b0.1 b0.2 (by unfold bgI;rw [if_neg (by omega),if_pos a2]) (by omega) hs w
    by_cases a3:224≤B s p∧B s p<240
    · by_cases l3:p+3≤s.size
      · have e:nxt s p=nx3 (B s (p+1)) (B s (p+2)) (B s p % 16 * 64+B s (p+1) % 64) ((B s p % 16 * 64+B s (p+1) % 64) * 64+B s (p+2) % 64):=by
          unfold nxt;simp only [if_neg a1];rw [if_neg (by omega),if_pos (And.intro a3.1 (And.intro a3.2 l3))]
        rw [e]
        exact utfNext_3 s p (B s p) (B s (p+1)) (B s (p+2)) _ _ (by omega) hs a3.1 a3.2 b1.1 b1.2 b2.1 b2.2 hlt hb (s.extract (p+1) (p+3)) rfl (by rw [extract_size _ _ _ (by omega)];omega)
          (B_extract _ _ _ _ (by omega) (by omega)) (B_extract _ _ _ _ (by omega) (by omega)) (or6 (by omega) (by omega) b1) (by omega) (by omega) (or6 (by omega) (by omega) b2) (by omega) (by omega) w
      · have e:nxt s p=(0,0):=by unfold nxt;simp only [if_neg a1];rw [if_neg (by omega),if_neg (by omega),if_neg (by omega)]
        rw [e]
        exact utfNext_short s p _ 3 hlt hb b0.1 b0.2 (by unfold bgI;rw [if_neg (by omega),if_neg (by omega),if_pos a3]) (by omega) hs w
    by_cases a4:240≤B s p∧B s p<248
    · by_cases l4:p+4≤s.size
      · have e:nxt s p=nx4 (B s (p+1)) (B s (p+2)) (B s (p+3)) (B s p % 8 * 64+B s (p+1) % 64) ((B s p % 8 * 64+B s (p+1) % 64) * 64+B s (p+2) % 64) (((B s p % 8 * 64+B s (p+1) % 64) * 64+B s (p+2) % 64) * 64+B s (p+3) % 64):=by
          unfold nxt;simp only [if_neg a1];rw [if_neg (by omega),if_neg (by omega),if_pos (And.intro a4.1 (And.intro a4.2 l4))]
        rw [e]
        exact utfNext_4 s p (B s p) (B s (p+1)) (B s (p+2)) (B s (p+3)) _ _ _ (by omega) hs a4.1 a4.2 b1.1 b1.2 b2.1 b2.2 b3.1 b3.2 hlt hb (s.extract (p+1) (p+4)) rfl (by rw [extract_size _ _ _ (by omega)];omega)
          (B_extract _ _ _ _ (by omega) (by omega)) (B_extract _ _ _ _ (by omega) (by omega)) (B_extract _ _ _ _ (by omega) (by omega)) (or6 (by omega) (by omega) b1) (by omega) (by omega) (or6 (by omega) (by omega) b2) (by omega) (by omega) (or6 (by omega) (by omega) b3) (by omega) (by omega) w
      · have e:nxt s p=(0,0):=by unfold nxt;simp only [if_neg a1];rw [if_neg (by omega),if_neg (by omega),if_neg (by omega)]
        rw [e]
        exact utfNext_short s p _ 4 hlt hb b0.1 b0.2 (by unfold bgI;rw [if_neg (by omega),if_neg (by omega),if_neg (by omega),if_pos a4]) (by omega) hs w
    · have e:nxt s p=(0,0):=by unfold nxt;simp only [if_neg a1];rw [if_neg (by omega),if_neg (by omega),if_neg (by omega)]
      rw [e]
      exact utfNext_short s p _ 0 hlt hb b0.1 b0.2 (by unfold bgI;rw [if_neg (by omega),if_neg (by omega),if_neg (by omega),if_neg (by omega)]) (by omega) hs w
  · have e:nextI s i=(0,0):=by unfold nextI;rw [if_neg hi]
    rw [e]
    exact utfNext_out s i (by omega) hs w
end Go.Proofs.YtpmlggjhfiljmaaGreatDoor
