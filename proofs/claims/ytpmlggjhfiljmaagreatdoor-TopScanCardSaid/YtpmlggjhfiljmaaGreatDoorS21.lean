/- Part 21 of what the law rests on. -/
import Derived.Deep.QuietTactic
import Derived.BigQuiet
import Derived.Test.YtpmlggjhfiljmaaGreatDoorS13
import Derived.Test.YtpmlggjhfiljmaaGreatDoorS20
set_option linter.all false
namespace Go.Proofs.YtpmlggjhfiljmaaGreatDoor
open Go.RowKit
def labS (n:Int):ByteArray:=if n=0 then zer 64 else lab n
theorem labS_size (n:Int):(labS n).size=64:=by unfold labS;split;exact zer_size _;exact lab_size _
set_option maxRecDepth 100000 in
set_option maxHeartbeats 1600000 in
theorem label_zero (w:World):Calls Tryz.prog 324 #[.int .u64 0] w fun e w'=>e=.returned (.string (zer 64))∧Fresh w w':=by
  have hmk:=make64
  have hb:=Blk.new w 5 z64
  have HCV:=fun (W:World) (h:W=w.alloc (.cells z64 5))=>run_convert_bytes_arg (P:=Tryz.prog) W 131 5 Tryz.underlying131 Tryz.underlying5 w.heap.size 0 64 64 (List.replicate 64 0) (by simp) (by
    intro i hi
    rw [h,hb.cell]
    unfold z64
    rw [Nat.zero_add,Array.getElem?_replicate,if_pos hi,List.getD_eq_getElem?_getD,List.getElem?_replicate,if_pos hi]
    rfl) 9 Tryz.underlying9
  have HZ:=HCV _ rfl
  have e:strOfNums (List.replicate 64 0)=zer 64:=by decide +kernel
  rw [e] at HZ
  clear HCV e hb
  go_enter Tryz.func324,Tryz.ntmps324
  go_wp2
  refine wp_loop_rounds 1 ?_
  rw [rounds_succ]
  go_wp2
  go_ret
  exact ⟨rfl,(Fresh.refl _).alloc _⟩
theorem label_any (n:Int) (h:0≤n) (h64:n<18446744073709551616) (w:World):Calls Tryz.prog 324 #[.int .u64 n] w fun e w'=>e=.returned (.string (labS n))∧Fresh w w':=by
  by_cases e:n=0
  · subst e
    exact label_zero w
  · have:labS n=lab n:=by unfold labS;rw [if_neg e]
    rw [this]
    exact label_pos n (by omega) h64 w
def kfr (n:Nat):Nat:=if n=0 then 0 else (n - 1) / 62+1
set_option maxHeartbeats 800000 in
theorem frames1_any (n:Nat) (h:n≤1000000) (w:World):Calls Tryz.prog 278 #[.int .i64 n] w fun e w'=>e=.returned (.int .i64 (kfr n))∧w=w':=by
  by_cases e:n=0
  · subst e
    go_enter Tryz.func278,Tryz.ntmps278
    go_wp2
    go_ret
    exact ⟨rfl,rfl⟩
  · have h1:¬ (n:Int)<1:=by omega
    have h2:(0:Int)≤(n:Int) - 1:=by omega
    have hk:((n:Int) - 1) / 62+1=((kfr n:Nat):Int):=by unfold kfr;rw [if_neg e];omega
    have HK:=Lib.hid hk
    clear hk
    go_enter Tryz.func278,Tryz.ntmps278
    go_wp2
    go_ret
    exact ⟨ret_int HK.out,rfl⟩
section
variable (F:Nat→Prop) (p:Nat) (n:Int) (D:Int→ByteArray) (q:Nat) (w:World)
theorem power_any (h:DevAt w F p n D q):Calls Tryz.prog 325 #[.pointer (some ⟨p,0,none⟩)] w fun e w'=>e=.returned (.int .i64 0)∧Fresh w w':=by
  have HG:=Lib.hid (get_out F p n D q w h (-1) (by omega) (by omega))
  go_enter Tryz.func325,Tryz.ntmps325
  go_wp2_with fail
  refine HG.out.mono ?_
  rintro e w1 ⟨rfl,hf⟩
  go_wp2
  go_ret
  exact ⟨rfl,hf⟩
theorem on_any (h:DevAt w F p n D q) (f s:Int) (h1:1≤s) (h2:0≤f) (h3:f+s≤n) (hn:n≤1000000):Calls Tryz.prog 326 #[.pointer (some ⟨p,0,none⟩),.int .i64 f,.int .i64 s] w fun e w'=>e=.returned (.bool true)∧w=w':=by
  have HS:=Lib.hid (devSize_any F p n D q w h)
  have h4:f≤n - s:=by omega
  go_enter Tryz.func326,Tryz.ntmps326
  go_wp2_with fail
  refine HS.out.mono ?_
  rintro e w1 ⟨rfl,rfl⟩
  go_wp2
  go_ret
  exact ⟨rfl,rfl⟩
set_option maxHeartbeats 800000 in
theorem setEpoch_any (h:DevAt w F p n D q) (f e:Int) (hf:0≤f∧f<n) (hn:n≤1000000) (hq:q≤100000) (he:0≤e) (h64:e<18446744073709551616) :
    Calls Tryz.prog 303 #[.pointer (some ⟨p,0,none⟩),.int .i64 f,.int .u64 e] w (DevPost F p n (upd D f (labS e)) (q+1) w (.int .i64 0)):=by
  have HL:=Lib.hid (label_any e he h64 w)
  have HD:=Lib.hid h
  go_enter Tryz.func303,Tryz.ntmps303
  go_wp2_with fail
  refine HL.out.mono ?_
  rintro e1 w1 ⟨rfl,hf1⟩
  have HP:=Lib.hid (put_any F p n D q w1 (HD.out.fresh hf1) f hf hn (labS e) (labS_size e) hq)
  go_wp2_with fail
  refine HP.out.mono ?_
  rintro e1 w2 ⟨rfl,F',hd,hm,hg⟩
  go_wp2
  go_ret
  exact ⟨rfl,F',hd,hf1.andMut hm,hg.ahead hf1.size⟩
set_option maxHeartbeats 1600000 in
theorem wipe_zero (h:DevAt w F p n D q) (f s a:Int) (h1:1≤s) (h2:0≤f) (h3:f+s≤n) (hn:n≤1000000) (ha:1≤a) (ha2:a≤s) (hz:∀ i,f+a≤i→i<f+s→D i=zer 64) :
    Calls Tryz.prog 260 #[.pointer (some ⟨p,0,none⟩),.int .i64 f,.int .i64 s,.int .i64 a] w fun e w'=>e=.returned (.int .i64 0)∧Fresh w w':=by
  have HD:=Lib.hid h
  have HZ:=Lib.hid hz
  have HP:=Lib.hid (power_any F p n D q w h)
  clear h hz
  have hmx:max a 1=a:=by omega
  have HM:=Lib.hid hmx
  clear hmx
  go_enter Tryz.func260,Tryz.ntmps260
  go_wp2_with fail
  refine HP.out.mono ?_
  rintro e w1 ⟨rfl,hf1⟩
  have HO:=Lib.hid (on_any F p n D q w1 (HD.out.fresh hf1) f s h1 h2 h3 hn)
  go_wp2_with fail
  refine HO.out.mono ?_
  rintro e w2 ⟨rfl,rfl⟩
  go_wp2_with fail
  refine (repeat_any 64 _ (by omega)).mono ?_
  rintro e w2 ⟨rfl,hf2⟩
  have HF:=Lib.hid (hf1.trans hf2)
  clear hf1 hf2
  go_wp2
  go_loopw [10] (fun i wr=>∃ k:Int,i=.int .i64 k∧a≤k∧k≤s∧Fresh w wr) (fun i _=>(s - intOf i).toNat)
  case atStart=>exact ⟨a,by rw [HM.out],by omega,by omega,HF.out⟩
  case round =>
    obtain ⟨k,rfl,hk1,hk2,hf⟩:=hrel
    by_cases hlt:k<s
    · have HG:=Lib.hid (get_any F p n D q wr (HD.out.fresh hf) (f+k) (by omega) hn)
      rw [HZ.out (f+k) (by omega) (by omega)] at HG
      go_wp2_with fail
      refine HG.out.mono ?_
      rintro e w3 ⟨rfl,hf3⟩
      have hf4:=hf.trans hf3
      go_wp2
      go_roundw
      case rel=>exact ⟨k+1,rfl,by omega,by omega,hf4⟩
      case measure=>simp [intOf];omega
    · go_wp2
      go_ret
      exact ⟨rfl,hf⟩
def wrD (D:Int→ByteArray) (b:Int) (r:ByteArray):Nat→Int→ByteArray
  | 0=>D
  | k+1=>upd (wrD D b r k) (b+k) (frS (r.extract (k * 62) r.size))
def WrittenPost (F:Nat→Prop) (p:Nat) (n:Int) (D:Int→ByteArray) (q:Nat) (w:World) (r:Int) (e:Ending) (w':World):Prop:=e=.returned (.tuple #[.int .i64 r,.int .i64 0])∧∃ F',DevAt w' F' p n D q∧Mut F w w'∧Gr F w w' F'
set_option maxRecDepth 100000 in
set_option maxHeartbeats 1600000 in
theorem write_any (h:DevAt w F p n D q) (f s a:Int) (r:ByteArray) (h1:1≤s) (h2:0≤f) (h3:f+s≤n) (hn:n≤1000000) (ha:1≤a) (hr:1≤r.size) (hr2:r.size≤60000) (hfit:a+kfr r.size≤s) (hq:q+kfr r.size≤90000) :
    Calls Tryz.prog 349 #[.pointer (some ⟨p,0,none⟩),.int .i64 f,.int .i64 s,.int .i64 a,.string r] w (WrittenPost F p n (wrD D (f+a) r (kfr r.size)) (q+kfr r.size) w (a+kfr r.size)):=by
  have HD:=Lib.hid h
  have HP:=Lib.hid (fun W h=>power_any F p n D q W h)
  have HK:=Lib.hid (fun W=>frames1_any r.size (by omega) W)
  obtain ⟨m,hm⟩:∃ m,kfr r.size=m:=⟨_,rfl⟩
  have hm1:1≤m:=by rw [← hm];unfold kfr;split <;> omega
  have hm2:(m - 1) * 62<r.size:=by rw [← hm];unfold kfr;split <;> omega
  rw [hm] at HK hfit hq ⊢
  clear h hm
  have hmz:((m:Int) == 0)=false:=by simp only [beq_eq_false_iff_ne];omega
  have hss:a≤s - m:=by omega
  go_enter Tryz.func349,Tryz.ntmps349
  go_wp2_with fail
  refine (HK.out _).mono ?_
  rintro e w1 ⟨rfl,rfl⟩
  go_wp2_with fail
  refine (HP.out _ HD.out).mono ?_
  rintro e w1 ⟨rfl,hf1⟩
  have HO:=Lib.hid (on_any F p n D q w1 (HD.out.fresh hf1) f s h1 h2 h3 hn)
  go_wp2_with fail
  refine HO.out.mono ?_
  rintro e w2 ⟨rfl,rfl⟩
  go_wp2
  go_loopw [47] (fun i wr=>∃ k:Nat,i=.int .i64 k∧k≤m∧∃ F',DevAt wr F' p n (wrD D (f+a) r k) (q+k)∧Mut F w wr∧Gr F w wr F') (fun i _=>m - (intOf i).toNat)
  case atStart=>exact ⟨0,rfl,by omega,F,HD.out.fresh hf1,hf1.mut _,fun k h=>.inl h⟩
  case round =>
    obtain ⟨k,rfl,hk1,F',hd,hm,hg⟩:=hrel
    by_cases hlt:k<m
    · have hkr:k * 62<r.size:=by have:k * 62≤(m - 1) * 62:=Nat.mul_le_mul_right _ (by omega);omega
      have HDk:=Lib.hid hd
      go_wp2_with fail
      refine (frame_any _ (by rw [ByteArray.size_extract];omega) _).mono ?_
      rintro e w3 ⟨rfl,hf3⟩
      have HPk:=Lib.hid (fun b hb=>put_any F' p n _ (q+k) w3 (HDk.out.fresh hf3) (f+a+k) (by omega) hn b hb (by omega))
      go_wp2_with fail
      refine (HPk.out _ (frS_size _)).mono ?_
      rintro e w4 ⟨rfl,F4,hd4,hm4,hg4⟩
      have HH:=Lib.hid (And.intro (hm.andFresh hf3 |>.trans2 hm4 (fun _ h=>h) (fun j hj h=>(hg j h).elim id (fun q=>absurd q.1 (by omega)))) (And.intro hg (And.intro hg4 (And.intro hf3.size (And.intro hm4.size hm.size)))))
      clear hm hg hm4 hg4 hd hf3
      go_wp2
      go_roundw
      case rel =>
        obtain ⟨g1,g2,g3,g4,g5,g6⟩:=HH.out
        exact ⟨k+1,by go_num,by omega,F4,hd4,g1,(g2.later g4).trans g3 (by omega) g5⟩
      case measure=>simp [intOf];omega
    · have hkm:k=m:=by omega
      subst hkm
      go_wp2
      go_ret2
      exact ⟨rfl,F',hd,hm,hg⟩
end
end Go.Proofs.YtpmlggjhfiljmaaGreatDoor
namespace Go.Proofs.YtpmlggjhfiljmaaGreatDoor
open Go.RowKit
theorem infoStr:(Tryz.prog.info? 9).map (fun i=>(i.zero,i.size,i.bytes))=some (some (.string ByteArray.empty),1,16):=by kernel_rfl
def strs (l:List ByteArray):List Value:=l.map .string
theorem strs_len (l:List ByteArray):(strs l).length=l.length:=by simp [strs]
def OwnL (w:World) (A:Nat→Prop) (v:Value) (l:List ByteArray):Prop:=OwnA w A 9 1 v l.length (strs l)
def SlS (w:World) (A:Nat→Prop) (v:Value) (l:List ByteArray):Prop:=SlG w A v 1 l.length (strs l)
theorem OwnL.sl {w:World} {A:Nat→Prop} {v:Value} {l:List ByteArray} (h:OwnL w A v l):SlS w A v l:=OwnA.sl h
def secs (D:Int→ByteArray) (f:Int) (k:Nat):List ByteArray:=(List.range k).map fun j:Nat=>D (f+j)
theorem secs_len (D:Int→ByteArray) (f:Int) (k:Nat):(secs D f k).length=k:=by simp [secs]
theorem secs_succ (D:Int→ByteArray) (f:Int) (k:Nat):secs D f (k+1)=secs D f k++[D (f+k)]:=by simp [secs,List.range_succ]
def FramesPost (l:List ByteArray) (w:World) (e:Ending) (w':World):Prop:=∃ v,e=.returned (.tuple #[v,.int .i64 0])∧OwnL w' (fun g=>w.heap.size≤g) v l∧Fresh w w'
section
variable (F:Nat→Prop) (p:Nat) (n:Int) (D:Int→ByteArray) (q:Nat) (w:World)
set_option maxRecDepth 100000 in
set_option maxHeartbeats 1600000 in
theorem frames_any (h:DevAt w F p n D q) (f:Int) (s:Nat) (h2:0≤f) (h3:f+s≤n) (hn:n≤1000000) :
    Calls Tryz.prog 327 #[.pointer (some ⟨p,0,none⟩),.int .i64 f,.int .i64 s] w (FramesPost (secs D f s) w):=by
  have HD:=Lib.hid h
  clear h
  obtain ⟨i0,hi0,hz0,hz1,hz2⟩:=info_partsG infoStr
  go_enter Tryz.func327,Tryz.ntmps327
  go_wp2
  go_loopw [8,13] (fun v i wr=>∃ k:Nat,i=.int .i64 k∧k≤s∧OwnL wr (fun g=>w.heap.size≤g) v (secs D f k)∧Fresh w wr) (fun _ i _=>s - (intOf i).toNat)
  case atStart=>exact ⟨0,rfl,by omega,OwnA.nil _ _ _ _,Fresh.refl _⟩
  case round =>
    obtain ⟨k,rfl,hk1,hown,hf⟩:=hrel
    by_cases hlt:k<s
    · have HG:=Lib.hid (get_any F p n D q wr (HD.out.fresh hf) (f+k) (by omega) hn)
      unfold OwnL at hown
      rw [secs_len] at hown
      have hcl:(secs D f k).length=k:=secs_len D f k
      go_wp2_with fail
      refine HG.out.mono ?_
      rintro e w3 ⟨rfl,hf3⟩
      have hf4:=Lib.hid (hf.trans hf3)
      go_wp2_with (at_builtin;refine wpList_append_ownA _ rfl _ _ 38 rfl (fun g=>w.heap.size≤g) 9 i0 _ 1 16 Tryz.underlying38 hi0 hz0 hz1 hz2 rfl (by decide) _ k _ rfl (hown.fresh (hf3.alloc _)) ⟨w3.heap.size,0,none⟩ 1 1 [.string (D (f+k))] rfl rfl (newCells _ _ _) (by intro u hu;simp at hu;rcases hu with rfl;rfl) (by omega) (by decide) ?_;intro a' c' w2 o2 u2)
      have HZ:=Lib.hid (And.intro (OwnA.grew o2 (by have:=hf4.out.size;simp;omega)) ((hf4.out.alloc _).mut2 u2 (fun j hj=>hown.2 j hj)))
      clear o2 u2 hown
      go_roundw
      case rel =>
        obtain ⟨g1,g2⟩:=HZ.out
        refine ⟨k+1,by go_num,by omega,?_,g2⟩
        unfold OwnL
        rw [secs_len,secs_succ]
        unfold strs at *
        rw [List.map_append]
        exact g1
      case measure=>simp [intOf];omega
    · have hks:k=s:=by omega
      subst hks
      go_wp2
      go_ret2
      exact ⟨_,rfl,hown,hf⟩
end
def EpPost (e:Int) (w:World) (en:Ending) (w':World):Prop:=en=.returned (.tuple #[.int .u64 e,.int .i64 0])∧Fresh w w'
def EpRel (e:Int) (w:World) (n i:Value) (wr:World):Prop:=∃ k:Nat,i=.int .i64 k∧((k<8∧n=.int .u64 0)∨(k=8∧n=.int .u64 e))∧Fresh w wr
section
variable (F:Nat→Prop) (p:Nat) (n:Int) (D:Int→ByteArray) (q:Nat) (w:World)
set_option maxRecDepth 100000 in
set_option maxHeartbeats 1600000 in
theorem epoch_of (h:DevAt w F p n D q) (f e:Int) (h2:0≤f∧f<n) (hn:n≤1000000) (t:ByteArray) (ht:(D f).extract 0 8=t) (hts:t.size=8) (hB:∀ j,j<8→B t j=if j=7 then e else 0) (hl:labS e=D f) (he:0≤e∧e<256) (hor:bits .or .u64 0 e=e) :
    Calls Tryz.prog 258 #[.pointer (some ⟨p,0,none⟩),.int .i64 f] w (EpPost e w):=by
  have HG:=Lib.hid (get_any F p n D q w h f h2 hn)
  have hDs:(D f).size=64:=by rw [← hl];exact labS_size e
  obtain ⟨b,hb⟩:∃ b,D f=b:=⟨_,rfl⟩
  rw [hb] at HG hl ht hDs
  have HL:=Lib.hid hl
  have HT:=Lib.hid ht
  have HTS:=Lib.hid hts
  have HBB:=Lib.hid hB
  have HOR:=Lib.hid hor
  have hb8:8≤b.size:=by omega
  have hcv:=fun W:World=>Lib.run_convert_string_bytes (P:=Tryz.prog) W 9 131 5 t Tryz.underlying9 Tryz.underlying131 Tryz.underlying5
  rw [hts] at hcv
  have HCELL:=Lib.hid (fun (W:World) (j:Nat) (hj:j<t.size)=>Lib.bytesWorld_cell W 5 t j hj)
  have HFW:Hid (∀ W:World,Fresh W (Lib.bytesWorld W 5 t)):=Lib.hid (fun W=>fresh_bytes W _ _)
  have HLT:Hid (∀ W:World,W.heap.size<(Lib.bytesWorld W 5 t).heap.size):=Lib.hid (fun W=>by rw [Lib.bytesWorld_size];omega)
  clear hl hts hB hor hb hDs h
  go_enter Tryz.func258,Tryz.ntmps258
  go_wp2_with fail
  refine HG.out.mono ?_
  rintro e1 w1 ⟨rfl,hf1⟩
  go_wp2
  have HF1:=Lib.hid hf1
  clear hf1 ht
  go_loopw [8,24] (fun m i wr=>EpRel e (Lib.bytesWorld w1 5 t) m i wr) (fun _ i _=>8 - (intOf i).toNat)
  case atStart=>exact ⟨0,rfl,.inl ⟨by omega,rfl⟩,Fresh.refl _⟩
  case round =>
    obtain ⟨k,rfl,hk,hf⟩:=hrel
    rcases hk with ⟨hk,rfl⟩ | ⟨rfl,rfl⟩
    · have c1:wr.cell? ⟨w1.heap.size,k,none⟩=some (.int .u8 (B t k)):=(Below.cell hf (p:=⟨w1.heap.size,k,none⟩) (HLT.out w1)).trans (HCELL.out w1 k (by rw [HTS.out];exact hk))
      rw [HBB.out k hk] at c1
      by_cases h7:k=7
      · subst h7
        rw [if_pos rfl] at c1
        have hor:=HOR.out
        go_wp2
        go_roundw
        case rel=>exact ⟨8,rfl,.inr ⟨rfl,rfl⟩,hf⟩
        case measure=>simp [intOf]
      · rw [if_neg h7] at c1
        have hor:bits .or .u64 0 0=0:=by decide
        have hk7:k<7:=by omega
        clear h7
        go_wp2
        go_roundw
        case rel=>exact ⟨k+1,by go_num,.inl ⟨by omega,rfl⟩,hf⟩
        case measure=>simp [intOf];omega
    · have HLB:=Lib.hid (fun W=>label_any e he.1 (by omega) W)
      rw [HL.out] at HLB
      go_wp2_with fail
      refine (HLB.out _).mono ?_
      rintro e2 w2 ⟨rfl,hf2⟩
      go_wp2
      go_ret2
      exact ⟨rfl,HF1.out.trans ((HFW.out w1).trans (hf.trans hf2))⟩
end
theorem lab1_B:((List.range 8).all fun j=>decide (B ((labS 1).extract 0 8) j=if j=7 then 1 else 0))=true:=by decide +kernel
theorem lab0_B:((List.range 8).all fun j=>decide (B ((labS 0).extract 0 8) j=if j=7 then 0 else 0))=true:=by decide +kernel
theorem epoch_any (F:Nat→Prop) (p:Nat) (n:Int) (D:Int→ByteArray) (q:Nat) (w:World) (h:DevAt w F p n D q) (f e:Int) (h2:0≤f∧f<n) (hn:n≤1000000) (he:e=0∨e=1) (hl:D f=labS e) :
    Calls Tryz.prog 258 #[.pointer (some ⟨p,0,none⟩),.int .i64 f] w (EpPost e w):=by
  refine epoch_of F p n D q w h f e h2 hn _ rfl (by rw [ByteArray.size_extract,hl,labS_size];decide) ?_ hl.symm (by omega) (by rcases he with rfl | rfl <;> decide)
  intro j hj
  rw [hl]
  rcases he with rfl | rfl
  · have:=List.all_eq_true.1 lab0_B j (List.mem_range.2 hj);simpa using this
  · have:=List.all_eq_true.1 lab1_B j (List.mem_range.2 hj);simpa using this
end Go.Proofs.YtpmlggjhfiljmaaGreatDoor
namespace Go.Proofs.YtpmlggjhfiljmaaGreatDoor
open Go.RowKit
theorem SlS.cons {w:World} {A:Nat→Prop} {v:Value} {f:ByteArray} {l:List ByteArray} (h:SlS w A v (f :: l)):∃ g off cap,v=.slice (some ⟨g,off,none⟩) (l.length+1) cap∧l.length+1≤cap∧A g∧g<w.heap.size∧w.cell? ⟨g,off,none⟩=some (.string f):=by
  obtain ⟨_,a,cap,rfl,hcap,h0 | ⟨g,off,rfl,hA,hg,hc⟩⟩:=h
  · simp at h0
  · refine ⟨g,off,cap,rfl,hcap,hA,hg,?_⟩
    have:=hc 0 (by simp)
    simpa [strs] using this
theorem or16z {a:Int} (ha:0≤a∧a<256):bits .or .i64 0 a=a:=by
  have h0:((List.range 256).all fun a=>decide (bits .or .i64 0 (a:Int)=(a:Int)))=true:=by decide +kernel
  have h1:=List.all_eq_true.1 h0 a.toNat (List.mem_range.2 (by omega))
  simp only [decide_eq_true_eq] at h1
  rwa [Int.toNat_of_nonneg ha.1] at h1
theorem eq_of_B {a b:ByteArray} (hs:a.size=b.size) (h:∀ i,i<a.size→B a i=B b i):a=b:=by
  apply ByteArray.ext
  apply Array.toList_inj.1
  apply List.ext_getElem
  · rw [Array.length_toList,Array.length_toList];exact hs
  · intro i h1 h2
    have hi:i<a.size:=by rw [Array.length_toList] at h1;exact h1
    have:=h i hi
    unfold B at this
    rw [List.getD_eq_getElem?_getD,List.getD_eq_getElem?_getD,List.getElem?_eq_getElem h1,List.getElem?_eq_getElem h2] at this
    simp only [Option.getD_some] at this
    exact UInt8.toNat_inj.1 (by omega)
theorem B_ex (s:ByteArray) (a b j:Nat) (hb:b≤s.size) (hj:a+j<b):B (s.extract a b) j=B s (a+j):=B_extract s a b j hb hj
theorem frS_head (r:ByteArray) (hr:r.size≤62):B (frS r) 0=0∧B (frS r) 1=r.size∧((frS r).extract 2 (frS r).size).extract 0 r.size=r:=by
  have hs:=frS_size r
  have hn:∀ x ∈ hd2 r.size,0≤x∧x<256:=by
    intro x hx
    unfold hd2 at hx
    simp at hx
    omega
  have e:frS r=strOfNums (hd2 r.size)++(r++zer (62 - r.size)):=by
    unfold frS
    rw [show min r.size 62=r.size by omega,ByteArray.append_assoc]
    simp
  refine ⟨?_,?_,?_⟩
  · rw [e,B_append_left _ _ _ (by rw [hd2_size];omega),B_strOfNums hn (by simp [hd2])]
    simp [hd2]
    omega
  · rw [e,B_append_left _ _ _ (by rw [hd2_size];omega),B_strOfNums hn (by simp [hd2])]
    simp [hd2]
    omega
  · apply eq_of_B
    · rw [ByteArray.size_extract,ByteArray.size_extract]
      omega
    · intro i hi
      have hi2:i<r.size:=by rw [ByteArray.size_extract] at hi;omega
      rw [B_ex _ _ _ _ (by rw [ByteArray.size_extract];omega) (by omega),B_ex _ _ _ _ (Nat.le_refl _) (by omega),e]
      have:=B_append_right (strOfNums (hd2 r.size)) (r++zer (62 - r.size)) (0+i)
      rw [hd2_size] at this
      rw [this,Nat.zero_add,B_append_left _ _ _ hi2]
def StIs (r:ByteArray) (w:World) (e:Ending) (w':World):Prop:=e=.returned (.string r)∧Fresh w w'
set_option maxRecDepth 100000 in
set_option maxHeartbeats 1600000 in
theorem stand_none (A:Nat→Prop) (v:Value) (f:ByteArray) (l:List ByteArray) (w:World) (h:SlS w A v (f :: l)) (hs:f.size=64) (h0:B f 0=0) (h1:B f 1=0) :
    Calls Tryz.prog 328 #[v] w (StIs ByteArray.empty w):=by
  obtain ⟨g,off,cap,rfl,hcap,hA,hg,hc⟩:=h.cons
  have i0:0<f.size:=by omega
  have i1:1<f.size:=by omega
  have g0:((f[0]'i0).toNat:Int)=B f 0:=B_at f 0 (by omega)
  have g1:((f[1]'i1).toNat:Int)=B f 1:=B_at f 1 (by omega)
  rw [h0] at g0
  rw [h1] at g1
  have j0:(0:Int)<(f.size:Int):=by omega
  have j1:(1:Int)<(f.size:Int):=by omega
  have hl0:(0:Int)<((l.length:Int)+1):=by omega
  have hor:bits .or .i64 0 0=0:=by decide
  clear h h0 h1 hs
  go_enter Tryz.func328,Tryz.ntmps328
  go_wp2_with fail
  go_quiet (fail)
  all_goals
    go_wp2_with fail
    refine (frames1_any 0 (by omega) _).mono ?_
    rintro e w1 ⟨rfl,rfl⟩
    go_wp2
    go_ret
    exact ⟨rfl,(Fresh.refl _).drewN _⟩
set_option maxRecDepth 100000 in
set_option maxHeartbeats 1600000 in
theorem stand_one (A:Nat→Prop) (v:Value) (r:ByteArray) (l:List ByteArray) (w:World) (h:SlS w A v (frS r :: l)) (hr:1≤r.size) (hr2:r.size≤62) (hl:l.length≤1000000) :
    Calls Tryz.prog 328 #[v] w (StIs r w):=by
  obtain ⟨g,off,cap,rfl,hcap,hA,hg,hc⟩:=h.cons
  obtain ⟨f,hf⟩:∃ f,frS r=f:=⟨_,rfl⟩
  have hs:f.size=64:=by rw [← hf];exact frS_size r
  obtain ⟨h0,h1,ht2⟩:=frS_head r hr2
  rw [hf] at h0 h1 ht2
  rw [hf] at hc
  have i0:0<f.size:=by omega
  have i1:1<f.size:=by omega
  have g0:((f[0]'i0).toNat:Int)=B f 0:=B_at f 0 (by omega)
  have g1:((f[1]'i1).toNat:Int)=B f 1:=B_at f 1 (by omega)
  rw [h0] at g0
  rw [h1] at g1
  have j0:(0:Int)<(f.size:Int):=by omega
  have j1:(1:Int)<(f.size:Int):=by omega
  have j2:2≤f.size:=by omega
  have hl0:(0:Int)<((l.length:Int)+1):=by omega
  obtain ⟨m,hm⟩:∃ m,r.size=m:=⟨_,rfl⟩
  have hor:bits .or .i64 0 (m:Int)=(m:Int):=by
    have:=or16z (a:=(m:Int)) (by omega)
    exact this
  have hk:kfr m=1:=by unfold kfr;rw [if_neg (by omega)];omega
  have HFR:=Lib.hid (fun W=>frame_any r (by omega) W)
  unfold FrIs at HFR
  rw [hf] at HFR
  rw [hm] at g1 hr hr2 ht2
  have HM:=Lib.hid hm
  have HF:=Lib.hid hf
  obtain ⟨t2,ht⟩:∃ t2,f.extract 2 f.size=t2:=⟨_,rfl⟩
  have ht2s:t2.size=62:=by rw [← ht,ByteArray.size_extract];omega
  rw [ht] at ht2
  have k1:(1:Int)≤(cap:Int):=by omega
  have k2:¬ (m:Int)<1:=by omega
  have k3:¬ (60000:Int)<(m:Int):=by omega
  have hcat:(ByteArray.mk #[])++t2=t2:=ByteArray.empty_append
  have hn1:¬ 9223372036854775807<t2.size:=by omega
  have hm2:m≤t2.size:=by omega
  have HT2S:=Lib.hid ht2s
  clear h h0 h1 hs hm hf ht2s
  go_enter Tryz.func328,Tryz.ntmps328
  go_wp2_with fail
  go_quiet (fail)
  all_goals
    go_wp2_with fail
    have hfk:=frames1_any m (by omega) (w.drewN nq)
    rw [hk] at hfk
    refine hfk.mono ?_
    rintro e w1 ⟨rfl,rfl⟩
    go_wp2
    refine wp_loop_rounds 2 ?_
    rw [rounds_succ]
    go_wp2
    rw [rounds_succ]
    go_wp2
    refine wp_loop_rounds 2 ?_
    rw [rounds_succ]
    go_wp2_with fail
    refine (HFR.out _).mono ?_
    rintro e w3 ⟨rfl,hf3⟩
    go_wp2
    rw [rounds_succ]
    go_wp2
    go_ret
    exact ⟨rfl,((Fresh.refl _).drewN _).trans hf3⟩
open Go.RowKit
theorem SlG.drop {w:World} {A:Nat→Prop} {g off n cap sz:Nat} {cs:List Value} (h:SlG w A (.slice (some ⟨g,off,none⟩) n cap) sz n cs) (k:Nat) (hk:k≤n):SlG w A (.slice (some ⟨g,off+k * sz,none⟩) (n - k) (cap - k)) sz (n - k) (cs.drop (k * sz)):=by
  obtain ⟨h1,a,c,e,hcap,h0⟩:=h
  injection e with e1 _ e2
  subst e1 e2
  have hkm:k * sz≤n * sz:=Nat.mul_le_mul_right _ hk
  refine ⟨by rw [List.length_drop,h1,Nat.sub_mul],_,_,rfl,by omega,?_⟩
  rcases h0 with h0 | ⟨g',off',e,hA,hg,hc⟩
  · exact .inl (by omega)
  · injection e with e
    injection e with e1 e2
    subst e1 e2
    refine .inr ⟨_,_,rfl,hA,hg,fun j hj=>?_⟩
    rw [Nat.sub_mul] at hj
    rw [List.getElem?_drop,Nat.add_assoc,hc (k * sz+j) (by omega)]
theorem SlS.drop {w:World} {A:Nat→Prop} {g off cap:Nat} {l:List ByteArray} (h:SlS w A (.slice (some ⟨g,off,none⟩) l.length cap) l) (k:Nat) (hk:k≤l.length):SlS w A (.slice (some ⟨g,off+k,none⟩) (l.length - k) (cap - k)) (l.drop k):=by
  have:=SlG.drop (sz:=1) h k hk
  rw [Nat.mul_one] at this
  unfold SlS strs at *
  rw [List.length_drop,List.map_drop]
  exact this
theorem ne_str {s:ByteArray} (h:1≤s.size):s.toList.isEmpty=false:=by
  rw [ByteArray.toList_eq]
  have:s.data.toList.length=s.size:=Array.length_toList
  cases hs:s.data.toList with
  | nil=>rw [hs] at this;simp at this;omega
  | cons a b=>rfl
def ScanPost (img:ByteArray) (w:World) (e:Ending) (w':World):Prop:=∃ v,e=.returned (.tuple #[v,.int .i64 2,.int .i64 0])∧OwnL w' (fun g=>w.heap.size≤g) v [img]∧Fresh w w'
section
variable (F:Nat→Prop) (p:Nat) (n:Int) (D:Int→ByteArray) (q:Nat) (w:World)
set_option maxRecDepth 100000 in
set_option maxHeartbeats 1600000 in
theorem scan_new (h:DevAt w F p n D q) (f:Int) (s:Nat) (h2:0≤f) (h3:f+s≤n) (hn:n≤1000000) (hs:3≤s) (img:ByteArray) (hi1:1≤img.size) (hi2:img.size≤62) (hd1:D (f+1)=frS img) (hd2:D (f+2)=zer 64) :
    Calls Tryz.prog 259 #[.pointer (some ⟨p,0,none⟩),.int .i64 f,.int .i64 s] w (ScanPost img w):=by
  have HD:=Lib.hid h
  have HP:=Lib.hid (power_any F p n D q w h)
  have hsec:∃ x l,secs D f s=x :: frS img :: zer 64 :: l∧l.length+3=s:=by
    refine ⟨D (f+0),(List.range (s - 3)).map (fun j:Nat=>D (f+((j+3:Nat):Int))),?_,by simp;omega⟩
    unfold secs
    rw [show s=(s - 3)+1+1+1 by omega,List.range_succ_eq_map,List.range_succ_eq_map,List.range_succ_eq_map]
    simp only [List.map_cons,List.map_map]
    rw [show D (f+((Nat.succ 0:Nat):Int))=frS img from hd1,show D (f+((Nat.succ (Nat.succ 0):Nat):Int))=zer 64 from hd2]
    rfl
  obtain ⟨x,l,hl,hll⟩:=hsec
  obtain ⟨i0,hi0,hz0,hz1,hz2⟩:=info_partsG infoStr
  have HL:=Lib.hid hl
  have HLL:=Lib.hid hll
  have HK:=Lib.hid (fun W=>frames1_any img.size (by omega) W)
  have hk1:kfr img.size=1:=by unfold kfr;rw [if_neg (by omega)];omega
  rw [hk1] at HK
  have hne:img.toList.isEmpty=false:=ne_str hi1
  clear h hl hll hd1 hd2 hk1
  go_enter Tryz.func259,Tryz.ntmps259
  go_wp2_with fail
  refine HP.out.mono ?_
  rintro e w1 ⟨rfl,hf1⟩
  have HO:=Lib.hid (on_any F p n D q w1 (HD.out.fresh hf1) f s (by omega) h2 h3 hn)
  go_wp2_with fail
  refine HO.out.mono ?_
  rintro e w2 ⟨rfl,rfl⟩
  have HFS:=Lib.hid (frames_any F p n D q w1 (HD.out.fresh hf1) f s h2 h3 hn)
  go_wp2_with fail
  refine HFS.out.mono ?_
  rintro e w2 ⟨v,rfl,hown,hf2⟩
  rw [HL.out] at hown
  have hsl:=hown.sl
  obtain ⟨g,off,cap,rfl,hcap,hA,hg,hc⟩:=hsl.cons
  have HS1:=Lib.hid (fun W hW=>stand_one _ _ img (zer 64 :: l) W ((SlS.drop hsl 1 (by simp)).fresh hW) hi1 hi2 (by have:=HLL.out;simp;omega))
  have HS2:=Lib.hid (fun W hW=>stand_none _ _ (zer 64) l W ((SlS.drop hsl 2 (by simp)).fresh hW) (zer_size _) (by decide +kernel) (by decide +kernel))
  simp only [List.length_cons] at HS1 HS2 hcap ⊢
  rw [show l.length+1+1+1 - 1=l.length+2 from rfl] at HS1
  rw [show l.length+1+1+1 - 2=l.length+1 from rfl] at HS2
  have HF:=Lib.hid (hf1.trans hf2)
  have k1:(1:Int)<(s:Int):=by omega
  have k2:(2:Int)<(s:Int):=by omega
  have k3:¬ cap=1:=by omega
  have k4:¬ cap=2:=by omega
  clear hown hsl hf1 hf2 hc
  go_wp2
  refine wp_loop_rounds 2 ?_
  rw [rounds_succ]
  go_wp2_with fail
  refine (HS1.out _ (Fresh.refl _)).mono ?_
  rintro e w3 ⟨rfl,hf3⟩
  have hf30:=hf3
  go_wp2_with (first
    | (at_builtin;refine wpList_append_ownA _ rfl _ _ 38 rfl (fun g=>w.heap.size≤g) 9 i0 _ 1 16 Tryz.underlying38 hi0 hz0 hz1 hz2 rfl (by decide) (.slice none 0 0) 0 [] rfl (OwnA.nil _ _ _ _) ⟨w3.heap.size,0,none⟩ 1 1 [.string img] rfl rfl (newCells _ _ _) (by intro u hu;simp at hu;rcases hu with rfl;rfl) (by omega) (by decide) ?_;intro a' c' w4 o4 u4)
    | fail)
  have HZ:=Lib.hid (And.intro (OwnA.grew o4 (by have:=HF.out.size;have:=hf3.size;simp;omega)) (((HF.out.trans hf3).alloc (.cells #[.string img] 9)).mut2 u4 (fun j hj=>by cases hj)))
  have hf4:=hf3.trans (((Fresh.refl w3).alloc (.cells #[.string img] 9)).mut2 u4 (fun j hj=>by cases hj))
  clear o4 u4
  refine (HK.out _).mono ?_
  rintro e w5 ⟨rfl,rfl⟩
  go_wp2
  rw [rounds_succ]
  go_wp2_with fail
  refine (HS2.out _ hf4).mono ?_
  rintro e w6 ⟨rfl,hf6⟩
  clear hf4 hf3 hf30
  go_wp2
  go_ret3
  exact ⟨_,rfl,HZ.out.1.fresh hf6,HZ.out.2.trans hf6⟩
end
end Go.Proofs.YtpmlggjhfiljmaaGreatDoor
namespace Go.Proofs.YtpmlggjhfiljmaaGreatDoor
open Go.RowKit
def EntersF (f:FuncId):Prop:=∀ (args:Array Value) (w:World),Sem.run Tryz.prog (callFunc f args) w=.ok (.enter f args) w
set_option maxRecDepth 100000 in
set_option maxHeartbeats 1600000 in
theorem all_steps (n g off cap:Nat) (fid:Nat→FuncId) (bd cp:Nat→Array Value) (I:Nat→World→Prop) (hn:n≤1000)
    (hcell:∀ i w,i<n→I i w→w.cell? ⟨g,off+i,none⟩=some (.func (.func (fid i)) (bd i) (cp i))) (hen:∀ i,i<n→EntersF (fid i))
    (hstep:∀ i w,i<n→I i w→Calls Tryz.prog (fid i) (bd i++cp i) w fun e w'=>e=.returned (.int .i64 0)∧I (i+1) w') (w:World) (h0:I 0 w) :
    Calls Tryz.prog 223 #[.slice (some ⟨g,off,none⟩) n cap] w fun e w'=>e=.returned (.int .i64 0)∧I n w':=by
  have HC:=Lib.hid hcell
  have HE:=Lib.hid hen
  have HS:=Lib.hid hstep
  clear hcell hen hstep
  go_enter Tryz.func223,Tryz.ntmps223
  go_wp2
  go_loopw [8] (fun i wr=>∃ k:Nat,i=.int .i64 k∧k≤n∧I k wr) (fun i _=>n - (intOf i).toNat)
  case atStart=>exact ⟨0,rfl,by omega,h0⟩
  case round =>
    obtain ⟨k,rfl,hk1,hI⟩:=hrel
    by_cases hlt:k<n
    · have c0:=HC.out k wr hlt hI
      have e0:=HE.out k hlt
      have HSk:=Lib.hid (HS.out k wr hlt hI)
      unfold EntersF at e0
      go_wp2_with fail
      refine HSk.out.mono ?_
      rintro e w1 ⟨rfl,hI1⟩
      clear c0 e0
      go_wp2
      go_roundw
      case rel=>exact ⟨k+1,by go_num,by omega,hI1⟩
      case measure=>simp [intOf];omega
    · have hkn:k=n:=by omega
      subst hkn
      go_wp2
      go_ret
      exact ⟨rfl,hI⟩
def hfv (p:Nat) (f s:Int):Value:=.agg #[.pointer (some ⟨p,0,none⟩),.int .i64 f,.int .i64 s]
theorem halves_any (F:Nat→Prop) (p:Nat) (n:Int) (D:Int→ByteArray) (q:Nat) (w:World) (h:DevAt w F p n D q) (hn:0≤n∧n≤1000000) :
    Calls Tryz.prog 221 #[.pointer (some ⟨p,0,none⟩)] w fun e w'=>e=.returned (.agg #[.pointer (some ⟨p,0,none⟩),.int .i64 0,.int .i64 (n / 2),.pointer (some ⟨p,0,none⟩),.int .i64 (n / 2),.int .i64 (n / 2)])∧Fresh w w':=by
  have HS:=Lib.hid (devSize_any F p n D q _ (h.fresh ((Fresh.refl w).alloc (.cells #[.pointer none,.int .i64 0,.int .i64 0,.pointer none,.int .i64 0,.int .i64 0] 297))))
  obtain ⟨hn0,hn1⟩:=hn
  clear h
  go_enter Tryz.func221,Tryz.ntmps221
  go_wp2_with fail
  refine HS.out.mono ?_
  rintro e w1 ⟨rfl,rfl⟩
  go_wp2
  exact bodyPost_ret (v:=.agg #[.pointer (some ⟨p,0,none⟩),.int .i64 0,.int .i64 (n / 2),.pointer (some ⟨p,0,none⟩),.int .i64 (n / 2),.int .i64 (n / 2)]) (by simp [results,Tryz.results221,go_sem]) rfl ⟨rfl,(Fresh.refl _).alloc _⟩
def FB (F:Nat→Prop) (w:World):Prop:=∀ k,F k→k<w.heap.size
theorem FB.gr {F F':Nat→Prop} {w w':World} (h:FB F w) (hg:Gr F w w' F') (hs:w.heap.size≤w'.heap.size):FB F' w':=fun k hk=>(hg k hk).elim (fun q=>Nat.lt_of_lt_of_le (h k q) hs) (fun q=>q.2)
theorem FB.later {F:Nat→Prop} {w w':World} (h:FB F w) (hs:w.heap.size≤w'.heap.size):FB F w':=fun k hk=>Nat.lt_of_lt_of_le (h k hk) hs
section
variable (F:Nat→Prop) (p:Nat) (n:Int) (D:Int→ByteArray) (q:Nat) (w:World)
set_option maxHeartbeats 800000 in
theorem blank_any (h:DevAt w F p n D q) (f s:Int) (hf:0≤f∧f<n) (hn:n≤1000000) (hq:q≤100000) :
    Calls Tryz.prog 224 #[hfv p f s] w (DevPost F p n (upd D f (labS 0)) (q+1) w (.int .i64 0)):=by
  have HS:=Lib.hid (setEpoch_any F p n D q _ (h.fresh ((Fresh.refl w).alloc (.cells #[.pointer (some ⟨p,0,none⟩),.int .i64 f,.int .i64 s] 296))) f 0 hf hn hq (by omega) (by omega))
  unfold hfv
  go_enter Tryz.func224,Tryz.ntmps224
  go_wp2_with fail
  refine HS.out.mono ?_
  rintro e w1 ⟨rfl,F',hd,hm,hg⟩
  go_wp2
  go_ret
  exact ⟨rfl,F',hd,((Fresh.refl w).alloc _).andMut hm,hg.ahead (by simp)⟩
set_option maxHeartbeats 800000 in
theorem hwipe_any (h:DevAt w F p n D q) (f:Int) (s:Nat) (hf:0≤f) (hfs:f+s≤n) (hs:1≤s) (hn:n≤1000000) (hz:∀ i,f+1≤i→i<f+s→D i=zer 64) :
    Calls Tryz.prog 226 #[hfv p f s] w fun e w'=>e=.returned (.int .i64 0)∧Fresh w w':=by
  have HS:=Lib.hid (wipe_zero F p n D q _ (h.fresh ((Fresh.refl w).alloc (.cells #[.pointer (some ⟨p,0,none⟩),.int .i64 f,.int .i64 s] 296))) f s 1 (by omega) hf hfs hn (by omega) (by omega) hz)
  unfold hfv
  go_enter Tryz.func226,Tryz.ntmps226
  go_wp2_with fail
  refine HS.out.mono ?_
  rintro e w1 ⟨rfl,hf1⟩
  go_wp2
  go_ret
  exact ⟨rfl,((Fresh.refl w).alloc _).trans hf1⟩
set_option maxHeartbeats 800000 in
theorem hwrite_any (h:DevAt w F p n D q) (f s a:Int) (r:ByteArray) (h1:1≤s) (h2:0≤f) (h3:f+s≤n) (hn:n≤1000000) (ha:1≤a) (hr:1≤r.size) (hr2:r.size≤60000) (hfit:a+kfr r.size≤s) (hq:q+kfr r.size≤90000) :
    Calls Tryz.prog 276 #[hfv p f s,.int .i64 a,.string r] w (WrittenPost F p n (wrD D (f+a) r (kfr r.size)) (q+kfr r.size) w (a+kfr r.size)):=by
  have HS:=Lib.hid (write_any F p n D q _ (h.fresh ((Fresh.refl w).alloc (.cells #[.pointer (some ⟨p,0,none⟩),.int .i64 f,.int .i64 s] 296))) f s a r h1 h2 h3 hn ha hr hr2 hfit hq)
  unfold hfv
  go_enter Tryz.func276,Tryz.ntmps276
  go_wp2_with fail
  refine HS.out.mono ?_
  rintro e w1 ⟨rfl,F',hd,hm,hg⟩
  go_wp2
  go_ret2
  exact ⟨rfl,F',hd,((Fresh.refl w).alloc _).andMut hm,hg.ahead (by simp)⟩
theorem frames1_q (n:Nat) (h:n≤1000000) (w:World):Calls Tryz.prog 278 #[.int .i64 n] w fun e w'=>e=.returned (.int .i64 (kfr n))∧w'=w:=(frames1_any n h w).mono fun _ _ ⟨a,b⟩=>⟨a,b.symm⟩
set_option maxHeartbeats 800000 in
theorem fits_any (f s a:Int) (r:ByteArray) (hs:s≤1000000) (ha:1≤a∧a≤1000000) (hr:1≤r.size) (hr2:r.size≤60000) (hfit:a+kfr r.size≤s) :
    Calls Tryz.prog 222 #[hfv p f s,.int .i64 a,.string r] w fun e w'=>e=.returned (.int .i64 0)∧Fresh w w':=by
  have k1:¬ (r.size:Int)<1:=by omega
  have k2:¬ (60000:Int)<(r.size:Int):=by omega
  have k3:¬ s - a<((kfr r.size:Nat):Int):=by omega
  have k4:IntKind.i64.wrap (s - a)=s - a:=by rw [IntKind.wrap_i64];omega
  have HQ:=Lib.hid (fun W=>frames1_q r.size (by omega) W)
  unfold hfv
  go_enter Tryz.func222,Tryz.ntmps222
  go_wp2_with fail
  go_quiet ((go_at_call 278;exact Calls.quiet_of_same (HQ.out _)))
  all_goals
    go_wp2
    go_ret
    exact ⟨rfl,by repeat (first | exact Fresh.refl _ | refine Fresh.drewN ?_ _ | refine Fresh.drew ?_ | refine Fresh.alloc ?_ _)⟩
end
end Go.Proofs.YtpmlggjhfiljmaaGreatDoor
