/- Part 31 of what the law rests on. -/
import Derived.Laws.MathBits
import Derived.Lib.ConvBytes
import Derived.Test.YtpmlggjhfiljmaaGreatDoorS05
import Derived.Test.YtpmlggjhfiljmaaGreatDoorS20
import Derived.Test.YtpmlggjhfiljmaaGreatDoorS23
import Derived.Test.YtpmlggjhfiljmaaGreatDoorS24
import Derived.Test.YtpmlggjhfiljmaaGreatDoorS27
import Derived.Test.YtpmlggjhfiljmaaGreatDoorS30
set_option linter.all false
namespace Go.Proofs.YtpmlggjhfiljmaaGreatDoor
open Go.RowKit
abbrev unlinkV (dir:Int) (name:ByteArray) (isDir:Bool):Value:=.agg #[.int .i64 2,.int .i64 dir,.int .i64 0,.string name,.string ⟨#[]⟩,.bool isDir,.int .i64 0]
set_option maxRecDepth 100000 in
set_option maxHeartbeats 1600000 in
theorem formedU_any (dir:Int) (name:ByteArray) (isDir:Bool) (hd:0≤dir∧dir≤65535) (hn:name.size≤255) (w:World):Calls Tryz.prog 271 #[unlinkV dir name isDir] w fun e w'=>e=.returned (.bool true)∧Fresh w w':=by
  have e0:(ByteArray.mk #[]).toList.isEmpty=true:=by decide +kernel
  have e1:(ByteArray.mk #[]).size=0:=rfl
  obtain ⟨hd0,hd1⟩:=hd
  have h1:(name.size:Int)≤255:=by omega
  clear hn
  go_enter Tryz.func271,Tryz.ntmps271
  go_wp2
  go_ret
  exact ⟨rfl,(Fresh.refl w).alloc _⟩
theorem u8_new2 (W:World):U8At (W.alloc (.cells #[.int .u8 (IntKind.u8.wrap 2)] 5)).drew (fun g=>W.heap.size≤g) (.slice (some ⟨W.heap.size,0,none⟩) 1 1) 1:=by
  refine ⟨[2],rfl,by simp,⟨rfl,.inr ⟨_,1,#[.int .u8 2],rfl,Nat.zero_le _,?_,Nat.le_refl _,by unfold maxLen;omega,rfl,rfl⟩⟩,fun g hg=>by have h2:=hg;simp [Value.ownBlock] at h2;omega⟩
  exact heap_alloc_new _ _
set_option maxRecDepth 100000 in
set_option maxHeartbeats 3200000 in
theorem bytesU_any (dir:Int) (name:ByteArray) (isDir:Bool) (hd:0≤dir∧dir≤65535) (hn:name.size≤255) (w:World):Calls Tryz.prog 275 #[unlinkV dir name isDir] w (StrIs (name.size+5) w):=by
  obtain ⟨W5,hW5⟩:∃ W5,(w.alloc (.cells #[.int .i64 2,.int .i64 dir,.int .i64 0,.string name,.string ⟨#[]⟩,.bool isDir,.int .i64 0] 142))=W5:=⟨_,rfl⟩
  have hs5:W5.heap.size=w.heap.size+1:=by rw [← hW5];simp
  have X5:Blk W5 w.heap.size 142 #[.int .i64 2,.int .i64 dir,.int .i64 0,.string name,.string ⟨#[]⟩,.bool isDir,.int .i64 0]:=by rw [← hW5];exact Blk.new _ _ _
  have HS5:=Lib.hid hs5
  have hf5:Fresh w W5:=by rw [← hW5];exact (Fresh.refl w).alloc _
  have HNU:=Lib.hid (fun a0 c0 k0 n hn k hk hk0 W hB h=>dnumber_b W5.heap.size a0 c0 k0 n hn k hk hk0 W hB h)
  have HNA:=Lib.hid (fun a0 c0 k0 s hs hk0 W hB h=>dname_any W5.heap.size a0 c0 k0 s hs hk0 W hB h)
  have HSP:Hid (∀ W,Fresh W5 W→W.cell? ⟨w.heap.size,0,none⟩=some (.int .i64 2)∧W.cell? ⟨w.heap.size,1,none⟩=some (.int .i64 dir)∧W.cell? ⟨w.heap.size,3,none⟩=some (.string name)∧W.cell? ⟨w.heap.size,5,none⟩=some (.bool isDir)∧W.cell? ⟨w.heap.size,6,none⟩=some (.int .i64 0)∧Fresh W5 W):=Lib.hid (fun W hW=>by
    have b:=X5.keep hW
    exact ⟨by rw [b.cell];rfl,by rw [b.cell];rfl,by rw [b.cell];rfl,by rw [b.cell];rfl,by rw [b.cell];rfl,hW⟩)
  have h0:=HSP.out W5 (Fresh.refl _)
  have HFR:=Lib.hid hf5
  clear hs5 hf5
  go_enter Tryz.func275,Tryz.ntmps275
  go_wp2_with fail
  try rw [hW5]
  clear hW5 X5
  go_region_held3 (fun W=>W.cell? ⟨w.heap.size,0,none⟩=some (.int .i64 2)∧W.cell? ⟨w.heap.size,1,none⟩=some (.int .i64 dir)∧W.cell? ⟨w.heap.size,3,none⟩=some (.string name)∧W.cell? ⟨w.heap.size,5,none⟩=some (.bool isDir)∧W.cell? ⟨w.heap.size,6,none⟩=some (.int .i64 0)∧Fresh W5 W) (exact HSP.out _ (by repeat (first | assumption | exact Fresh.refl _ | refine Fresh.alloc ?_ _ | refine Fresh.drew ?_))) (first
    | (go_at_call 348;refine (HNU.out _ _ 1 dir (by omega) 2 (by omega) (by omega) _ (by show W5.heap.size≤(W5.alloc _).heap.size;simp) (u8_new2 W5)).mono ?_;rintro e wA ⟨aA,cA,rfl,hoA,hbA⟩;have hfA:Fresh W5 wA:=(((Fresh.refl W5).alloc _).drew).trans3 hbA)
    | (go_at_call 347;refine (HNA.out _ _ 3 name (by omega) (by omega) _ hfA.size hoA).mono ?_;rintro e wB ⟨aB,cB,rfl,hoB,hbB⟩;have hfB:Fresh W5 wB:=hfA.trans3 hbB))
  all_goals
    obtain ⟨s0,s1,s3,s5,s6,_⟩:=HSP.out wB hfB
    obtain ⟨i0,hi0,hz0,hz1,hz2⟩:=info_partsG infoU8
    obtain ⟨l,hl1,hl2,ho⟩:=hoB
    have HL:=Lib.hid (And.intro hl1 hl2)
    clear hoA hbA hfA hbB hl1 hl2 h0
    cases isDir
    all_goals
      go_wp2_with (at_builtin;refine wpList_append_ownA _ rfl _ _ 131 rfl (fun g=>W5.heap.size≤g) 5 i0 _ 1 1 Tryz.underlying131 hi0 hz0 hz1 hz2 rfl (by decide) _ _ _ rfl (ho.fresh ((Fresh.refl _).alloc _)) ⟨wB.heap.size,0,none⟩ 1 1 [_] rfl rfl (newCells _ _ _) (by intro u hu;simp at hu;subst hu;rfl) (by omega) (by decide) ?_;intro aC cC wC ownC growC;have hfC:Fresh W5 wC:=((hfB.alloc _).mut2 growC (fun j e=>by have:=ho.2 j e;omega));obtain ⟨p0,p1,p3,p5,p6,_⟩:=HSP.out wC hfC;obtain ⟨st,hst1,hst2⟩:=conv_u8 (u8_push (ownC.mono (A':=fun g=>W5.heap.size≤g) (fun g _ hg=>hg.elim id (fun q=>by have q1:=q.1;have z:=hfB.size;simp at q1;omega))) (by omega) (by have hq:=HL.out;omega) HL.out.2) (by omega))
      have HST:=Lib.hid hst1
      have HFD:=Lib.hid (HFR.out.trans hfC)
      clear hst1
      go_ret
      exact ⟨st,rfl,by have:=HST.out;omega,HFD.out⟩
set_option maxRecDepth 100000 in
set_option maxHeartbeats 1600000 in
theorem dencodeU_any (dir:Int) (name:ByteArray) (isDir:Bool) (hd:0≤dir∧dir≤65535) (hn:name.size≤255) (w:World):Calls Tryz.prog 185 #[unlinkV dir name isDir] w (EncD (name.size+5) w):=by
  have HFO:=Lib.hid (fun W=>formedU_any dir name isDir hd hn W)
  have HBY:=Lib.hid (fun W=>bytesU_any dir name isDir hd hn W)
  have X:=Blk.new w 142 #[.int .i64 2,.int .i64 dir,.int .i64 0,.string name,.string ⟨#[]⟩,.bool isDir,.int .i64 0]
  have HX:=Lib.hid X
  clear X hd hn
  go_enter Tryz.func185,Tryz.ntmps185
  go_wp2_with fail
  refine (HFO.out _).mono ?_
  rintro e w1 ⟨rfl,hf1⟩
  have b1:=HX.out.keep hf1
  have c0:w1.cell? ⟨w.heap.size,0,none⟩=some (.int .i64 2):=by rw [b1.cell];rfl
  have c1:w1.cell? ⟨w.heap.size,1,none⟩=some (.int .i64 dir):=by rw [b1.cell];rfl
  have c2:w1.cell? ⟨w.heap.size,2,none⟩=some (.int .i64 0):=by rw [b1.cell];rfl
  have c3:w1.cell? ⟨w.heap.size,3,none⟩=some (.string name):=by rw [b1.cell];rfl
  have c4:w1.cell? ⟨w.heap.size,4,none⟩=some (.string ⟨#[]⟩):=by rw [b1.cell];rfl
  have c5:w1.cell? ⟨w.heap.size,5,none⟩=some (.bool isDir):=by rw [b1.cell];rfl
  have c6:w1.cell? ⟨w.heap.size,6,none⟩=some (.int .i64 0):=by rw [b1.cell];rfl
  have HF1:Hid (Fresh w w1):=Lib.hid (((Fresh.refl w).alloc _).trans hf1)
  clear b1 hf1
  go_wp2_with fail
  refine (HBY.out _).mono ?_
  rintro e w2 ⟨s,rfl,hs2,hf2⟩
  have HS2:=Lib.hid hs2
  clear hs2
  go_wp2
  go_ret2
  exact ⟨s,rfl,HS2.out,HF1.out.trans hf2⟩
def UnErr (T:TreS) (d:Int) (name:ByteArray) (isDir:Bool) (r:Int):Prop:=unlinkE T d name isDir ≠ 0∧r=unlinkE T d name isDir
def UnOk (T:TreS) (qt:Nat) (d:Int) (name:ByteArray) (isDir:Bool) (a:Int) (T2:TreS) (qt2:Nat):Prop :=
  unlinkE T d name isDir=0∧a=0∧qt2=qt+2∧∃ x l k bk2,findT T d name=some x∧T.dirs d=some l∧fidx (nameB name) l=(k:Nat)∧GiveR T.fr T.bk x.node bk2∧T2=unlinkT T d k x.node bk2
theorem enters_unlink:∀ (args:Array Value) (W:World),Sem.run Tryz.prog (callFunc 273 args) W=.ok (.enter 273 args) W:=by intro args w;go_simp
set_option maxRecDepth 100000 in
set_option maxHeartbeats 1600000 in
theorem ddoU_any (w:World) (A:Nat→Prop) (t:Nat) (T:TreS) (q:Nat) (h:TreeAt w A t T q) (dir:Int) (name:ByteArray) (isDir:Bool) (hd:0≤dir∧dir≤65535) (hn:name.size≤255) (hl:∀ i l,T.dirs i=some l→l.length≤10000) (hx:∀ x,findT T dir name=some x→I64 x.node∧T.out x.node=true) (hq:q≤100000) (hbl:T.bk.length+1≤100000) (hhp:Hp T.bk) :
    Calls Tryz.prog 184 #[.pointer (some ⟨t,0,none⟩),unlinkV dir name isDir] w (DoG (UnErr T dir name isDir) (UnOk T q dir name isDir) A t w):=by
  have HFO:=Lib.hid (fun W=>formedU_any dir name isDir hd hn W)
  have HLK:=Lib.hid (fun W (hW:Fresh w W)=>tunlink_any W A t T q (h.fresh hW) dir (by unfold I64;omega) name isDir hl hx hq hbl hhp)
  have HX:=Lib.hid (Blk.new w 142 #[.int .i64 2,.int .i64 dir,.int .i64 0,.string name,.string ⟨#[]⟩,.bool isDir,.int .i64 0])
  have hen:=enters_unlink
  clear h hd hn hl hx hhp
  go_enter Tryz.func184,Tryz.ntmps184
  go_wp2_with fail
  refine (HFO.out _).mono ?_
  rintro e w1 ⟨rfl,hf1⟩
  have b1:=HX.out.keep hf1
  have c0:w1.cell? ⟨w.heap.size,0,none⟩=some (.int .i64 2):=by rw [b1.cell];rfl
  have c1:w1.cell? ⟨w.heap.size,1,none⟩=some (.int .i64 dir):=by rw [b1.cell];rfl
  have c3:w1.cell? ⟨w.heap.size,3,none⟩=some (.string name):=by rw [b1.cell];rfl
  have c5:w1.cell? ⟨w.heap.size,5,none⟩=some (.bool isDir):=by rw [b1.cell];rfl
  have HF1:Hid (Fresh w w1):=Lib.hid (((Fresh.refl w).alloc _).trans hf1)
  clear b1 hf1
  go_wp2_with fail
  refine (HLK.out _ HF1.out).mono ?_
  rintro e w2 (⟨he,rfl,hf⟩ | ⟨he,x,l,k,bk2,A',h1,h2,h3,h4,rfl,ht,hm,hg⟩)
  · obtain ⟨r,hr⟩:∃ r,unlinkE T dir name isDir=r:=⟨_,rfl⟩
    have HP:Hid (DoG (UnErr T dir name isDir) (UnOk T q dir name isDir) A t w (.returned (.tuple #[.int .i64 0,.int .i64 r])) w2):=Lib.hid (.inl ⟨r,by rw [← hr];exact he,⟨he,hr.symm⟩,rfl,(HF1.out.trans hf).mut A⟩)
    rw [hr]
    clear he hf hr
    go_wp2
    go_ret2
    exact HP.out
  · have HP:Hid (DoG (UnErr T dir name isDir) (UnOk T q dir name isDir) A t w (.returned (.tuple #[.int .i64 0,.int .i64 0])) w2):=Lib.hid (.inr ⟨0,_,_,A',⟨he,rfl,rfl,x,l,k,bk2,h1,h2,h3,h4,rfl⟩,rfl,ht,HF1.out.andMut hm,hg.ahead HF1.out.size⟩)
    clear he h1 h2 h3 h4 ht hm hg
    go_wp2
    go_ret2
    exact HP.out
set_option maxRecDepth 100000 in
set_option maxHeartbeats 1600000 in
theorem ddoLong_any (w:World) (A:Nat→Prop) (t:Nat) (dir:Int) (name:ByteArray) (isDir:Bool) (short:Int) (hd:0≤dir∧dir≤65535) (hs:0≤short∧short≤1000000) (hn:255<name.size) :
    Calls Tryz.prog 184 #[.pointer (some ⟨t,0,none⟩),linkV dir name isDir short] w (DoG (fun r=>r=1) (fun _ _ _=>False) A t w):=by
  have HFO:=Lib.hid (fun W=>formedL_any dir name isDir short hd hs false (by simp;omega) W)
  clear hd hs hn
  go_enter Tryz.func184,Tryz.ntmps184
  go_wp2_with fail
  refine (HFO.out _).mono ?_
  rintro e w1 ⟨rfl,hf1⟩
  have HF1:Hid (Fresh w w1):=Lib.hid (((Fresh.refl w).alloc _).trans hf1)
  clear hf1
  go_wp2
  go_ret2
  exact .inl ⟨1,by omega,rfl,rfl,HF1.out.mut A⟩
open Go.RowKit
def hStep (h c:Int):Int:=bits .xor .u32 h c * 16777619 % 4294967296
def hashU (b:ByteArray) (k:Nat):Int:=(b.data.toList.take k).foldl (fun h c=>hStep h (c.toNat:Int)) 2166136261
theorem hashU_all (b:ByteArray):hashU b b.size=hashI b:=by
  unfold hashU hashI hStep
  rw [List.take_of_length_le (by rw [Array.length_toList];exact Nat.le_refl _)]
theorem hashU_succ (b:ByteArray) (k:Nat) (hk:k<b.size):hashU b (k+1)=hStep (hashU b k) (B b k):=by
  unfold hashU
  have hk2:k<b.data.toList.length:=by rw [Array.length_toList];exact hk
  rw [List.take_succ_eq_append_getElem hk2,List.foldl_append]
  simp [B,List.getD_eq_getElem?_getD,List.getElem?_eq_getElem hk2]
theorem hStep_range (h c:Int):0≤hStep h c∧hStep h c<4294967296:=⟨Int.emod_nonneg _ (by omega),Int.emod_lt_of_pos _ (by omega)⟩
theorem hashU_range (b:ByteArray) (k:Nat):0≤hashU b k∧hashU b k<4294967296:=by
  unfold hashU
  generalize b.data.toList.take k=l
  have:∀ (l:List UInt8) (h:Int),0≤h∧h<4294967296→0≤l.foldl (fun h c=>hStep h (c.toNat:Int)) h∧l.foldl (fun h c=>hStep h (c.toNat:Int)) h<4294967296:=by
    intro l
    induction l with
    | nil=>intro h hh;exact hh
    | cons c l ih=>intro h _;rw [List.foldl_cons];exact ih _ (hStep_range _ _)
  exact this l _ (by omega)
theorem hash_pos (b:ByteArray):0≤hashI b:=by rw [← hashU_all];exact (hashU_range b b.size).1
def HashRel (b:ByteArray) (w:World) (h i:Value) (wr:World):Prop:=∃ k:Nat,i=.int .i64 (k:Nat)∧k≤b.size∧h=.int .u32 (hashU b k)∧Fresh w wr
def HashPost (h:Int) (w:World) (e:Ending) (w':World):Prop:=e=.returned (.int .u32 h)∧Fresh w w'
set_option maxHeartbeats 1600000 in
set_option maxRecDepth 100000 in
theorem hash_any (b:ByteArray) (hb:b.size≤100000) (w:World):Calls Tryz.prog 86 #[.string b] w (HashPost (hashI b) w):=by
  have hcv:=fun W:World=>Lib.run_convert_string_bytes (P:=Tryz.prog) W 9 131 5 b Tryz.underlying9 Tryz.underlying131 Tryz.underlying5
  have HCELL:=Lib.hid (fun (W:World) (j:Nat) (hj:j<b.size)=>Lib.bytesWorld_cell W 5 b j hj)
  have HFW:Hid (∀ W:World,Fresh W (Lib.bytesWorld W 5 b)):=Lib.hid (fun W=>fresh_bytes W _ _)
  have HLT:Hid (w.heap.size<(Lib.bytesWorld w 5 b).heap.size):=Lib.hid (by rw [Lib.bytesWorld_size];omega)
  obtain ⟨n,hn⟩:∃ n,b.size=n:=⟨_,rfl⟩
  have HN:=Lib.hid hn
  rw [hn] at hb hcv
  clear hn
  go_enter Tryz.func86,Tryz.ntmps86
  go_wp2
  go_loopw [3,9] (fun h i wr=>HashRel b (Lib.bytesWorld w 5 b) h i wr) (fun _ i _=>n - (intOf i).toNat)
  case atStart=>exact ⟨0,rfl,Nat.zero_le _,rfl,Fresh.refl _⟩
  case round =>
    obtain ⟨k,rfl,hk,rfl,hf⟩:=hrel
    have hkn:k≤n:=by have:=HN.out;omega
    have hr:=hashU_range b k
    obtain ⟨h,hh⟩:∃ h,hashU b k=h:=⟨_,rfl⟩
    have HH:=Lib.hid hh
    rw [hh] at hr ⊢
    obtain ⟨hr0,hr1⟩:=hr
    clear hk hh
    by_cases hlt:k<n
    · have c1:wr.cell? ⟨w.heap.size,k,none⟩=some (.int .u8 (B b k)):=(Below.cell hf (p:=⟨w.heap.size,k,none⟩) HLT.out).trans (HCELL.out w k (by have:=HN.out;omega))
      have HS:=Lib.hid (hashU_succ b k (by have:=HN.out;omega))
      rw [HH.out] at HS
      have hbr:=B_range b k
      obtain ⟨c,hc⟩:∃ c,B b k=c:=⟨_,rfl⟩
      rw [hc] at c1 hbr HS
      obtain ⟨hc0,hc1⟩:=hbr
      have i1:(0:Int)≤(k:Int):=by omega
      have i2:(k:Int)<(n:Int):=by omega
      clear hc
      go_wp2
      go_roundw
      case rel=>exact ⟨k+1,by go_num,by have:=HN.out;omega,by rw [HS.out];rfl,hf⟩
      case measure=>simp [intOf];omega
    · have hkE:k=n:=by omega
      have hE:Hid (h=hashI b):=Lib.hid (by rw [← hashU_all,HN.out,← hkE];exact HH.out.symm)
      have hlt9:¬ (k:Int)<(n:Int):=by omega
      go_wp2
      go_ret
      exact ⟨by rw [hE.out];rfl,(HFW.out w).trans hf⟩
open Go.RowKit
theorem u64_and15 (z:Int) (h0:0≤z) (h1:z<18446744073709551616):bits .and .u64 z 15=z % 16:=by go_bits2
set_option maxRecDepth 100000 in
theorem tz16_any (w:World) (hGT:GT w):Calls Tryz.prog 354 #[.int .u64 16] w fun e w'=>e=.returned (.int .i64 4)∧w=w':=by
  have c:=hGT.1
  have h1:bits .and .u64 16 (IntKind.u64.wrap (-16))=16:=by decide
  have h2:IntKind.u64.wrap 4573923408821661840=4573923408821661840:=by decide
  have h3:IntKind.u64.wrap (16 * 285870213051353865)=4573923408821661840:=by decide
  go_enter Tryz.func354,Tryz.ntmps354
  go_wp2
  go_ret
  exact ⟨rfl,rfl⟩
def hexD:Nat→Nat→List Int
  | 0,_=>[]
  | f+1,v=>if v<16 then [hexI (v:Int)] else hexD f (v / 16)++[hexI ((v % 16:Nat):Int)]
structure HexAt (w:World) (g:Nat) (i:Nat) (ds:List Int):Prop where
  blk:∃ cs:Array Value,cs.size=65∧Blk w g 442 cs∧∀ k,k<ds.length→cs[i+k]?=some (.int .u8 (ds.getD k 0))
  len:i+ds.length=65
  by_:∀ x ∈ ds,0≤x∧x<256
theorem HexAt.push {w:World} {g i:Nat} {ds:List Int} (h:HexAt w g (i+1) ds) {x:Int} (hx:0≤x∧x<256):HexAt (w.setCell ⟨g,i,none⟩ (.int .u8 x)) g i (x :: ds):=by
  obtain ⟨⟨cs,h1,h2,h3⟩,h4,h5⟩:=h
  refine ⟨⟨cs.setIfInBounds i (.int .u8 x),by simpa using h1,(show Blk w g _ _ from h2).set,fun k hk=>?_⟩,by simp;omega,fun y hy=>?_⟩
  · cases k with
    | zero=>rw [Nat.add_zero,Array.getElem?_setIfInBounds_self_of_lt (by omega)];rfl
    | succ k =>
      rw [Array.getElem?_setIfInBounds_ne (by omega),show i+(k+1)=i+1+k by omega,h3 k (by simpa using hk)]
      rfl
  · rcases List.mem_cons.1 hy with rfl | hy
    · exact hx
    · exact h5 y hy
theorem HexAt.fresh {w w':World} {g i:Nat} {ds:List Int} (h:HexAt w g i ds) (hf:Fresh w w'):HexAt w' g i ds:=by
  obtain ⟨⟨cs,h1,h2,h3⟩,h4,h5⟩:=h
  exact ⟨⟨cs,h1,(show Blk w g _ _ from h2).keep hf,h3⟩,h4,h5⟩
theorem HexAt.new (w:World):HexAt (w.alloc (.cells Tryz.zeroCells442 442)) w.heap.size 65 [] :=
  ⟨⟨_,Tryz.zeroCells442_size,Blk.new _ _ _,fun k hk=>by simp at hk⟩,rfl,fun x hx=>by simp at hx⟩
theorem HexAt.conv {w:World} {g i:Nat} {ds:List Int} (h:HexAt w g i ds) (n c:Nat) (hn:ds.length=n):(convert 131 9 (.slice (some ⟨g,i,none⟩) n c)).run Tryz.prog w=.ok (.string (strOfNums ds)) w:=by
  subst hn
  obtain ⟨⟨cs,h1,h2,h3⟩,h4,h5⟩:=h
  exact run_convert_bytes_arg (P:=Tryz.prog) w 131 5 Tryz.underlying131 Tryz.underlying5 g i _ c ds rfl (fun k hk=>by rw [(show Blk w g _ _ from h2).cell];exact h3 k hk) 9 Tryz.underlying9
theorem hex_lit {d:Nat} (h:d<16) (H:ByteArray) (hs:d<H.size) (hH:H.data.toList.take 16=[48,49,50,51,52,53,54,55,56,57,97,98,99,100,101,102]):((H[d]'hs).toNat:Int)=hexI (d:Int):=by
  have e:H.data.toList[d]?=some (H[d]'hs):=by
    rw [List.getElem?_eq_getElem (show d<H.data.toList.length from by rw [Array.length_toList];exact hs)]
    rfl
  have e2:(H.data.toList.take 16)[d]?=some (H[d]'hs):=by rw [List.getElem?_take,if_pos h,e]
  rw [hH] at e2
  have:d=0∨d=1∨d=2∨d=3∨d=4∨d=5∨d=6∨d=7∨d=8∨d=9∨d=10∨d=11∨d=12∨d=13∨d=14∨d=15:=by omega
  generalize H[d]'hs=x at e2 ⊢
  rcases this with rfl | rfl | rfl | rfl | rfl | rfl | rfl | rfl | rfl | rfl | rfl | rfl | rfl | rfl | rfl | rfl <;> (injection e2 with e2;subst e2;rfl)
theorem hexI_u8 {d:Int} (h:0≤d∧d<16):0≤hexI d∧hexI d<256:=by unfold hexI;split <;> omega
theorem HexAt.at {w:World} {g i:Nat} {ds:List Int} (h:HexAt w g i ds) {j:Nat} (hj:j<65):(∃ v,w.cell? ⟨g,j,none⟩=some v)∧w.frozen? ⟨g,j,none⟩=false:=by
  obtain ⟨⟨cs,h1,h2,h3⟩,h4,h5⟩:=h
  have hb:Blk w g _ cs:=h2
  exact ⟨⟨cs[j]'(by omega),by rw [hb.cell,Array.getElem?_eq_getElem]⟩,hb.frozen j⟩
theorem hexD_step {u x:Nat} {ds:List Int} (h:hexD 8 u=hexD (8 - ds.length) x++ds) (hx:16≤x) (hl:ds.length≤6):hexD 8 u=hexD (8 - (hexI ((x % 16:Nat):Int) :: ds).length) (x / 16)++hexI ((x % 16:Nat):Int) :: ds:=by
  rw [h]
  obtain ⟨n,hn⟩:∃ n,8 - ds.length=n+1:=⟨7 - ds.length,by omega⟩
  rw [hn,show 8 - (hexI ((x % 16:Nat):Int) :: ds).length=n by simp;omega]
  conv=>lhs;unfold hexD
  rw [if_neg (by omega),List.append_assoc]
  rfl
theorem hexD_last {u x:Nat} {ds:List Int} (h:hexD 8 u=hexD (8 - ds.length) x++ds) (hx:x<16) (hl:ds.length≤7):hexD 8 u=hexI (x:Int) :: ds:=by
  rw [h]
  obtain ⟨n,hn⟩:∃ n,8 - ds.length=n+1:=⟨7 - ds.length,by omega⟩
  rw [hn]
  conv=>lhs;unfold hexD
  rw [if_pos hx]
  rfl
theorem fb_len0 {x u n:Nat} (h:x * 16 ^ n≤u) (h1:1≤x∨n=0) (hu:u<4294967296):n≤7:=by
  rcases h1 with h1 | h1
  · rcases Nat.lt_or_ge n 8 with q | q
    · omega
    · have h2:16 ^ 8≤16 ^ n:=Nat.pow_le_pow_right (by omega) q
      have h3:1 * 16 ^ 8≤x * 16 ^ n:=Nat.mul_le_mul h1 h2
      omega
  · omega
theorem hHexPush {w:World} {g j:Nat} {ds:List Int} (h:HexAt w g (j+1) ds) {d:Nat} (hd:d<16):HexAt (w.setCell ⟨g,j,none⟩ (.int .u8 (hexI (d:Int)))) g j (hexI (d:Int) :: ds):=h.push (hexI_u8 (by omega))
def FbRel (u:Nat) (g:Nat) (w:World) (v i:Value) (wr:World):Prop :=
  ∃ (x k:Nat) (ds:List Int),v=.int .u64 x∧i=.int .i64 k∧HexAt wr g k ds∧hexD 8 u=hexD (8 - ds.length) x++ds∧x * 16 ^ ds.length≤u∧(1≤x∨ds.length=0)∧Below g w wr
def FbPost (u:Nat) (w:World) (e:Ending) (w':World):Prop:=e=.returned (.tuple #[.slice none 0 0,.string (strOfNums (hexD 8 u))])∧Fresh w w'
theorem fb_len {x u n:Nat} (h:x * 16 ^ n≤u) (hx:16≤x) (hu:u<4294967296):n≤6:=by
  rcases Nat.lt_or_ge n 7 with q | q
  · omega
  · have h1:16 ^ 7≤16 ^ n:=Nat.pow_le_pow_right (by omega) q
    have h2:16 * 16 ^ 7≤x * 16 ^ n:=Nat.mul_le_mul hx h1
    omega
set_option maxRecDepth 100000 in
set_option maxHeartbeats 3200000 in
theorem fbits_any (u:Nat) (hu:u<4294967296) (w:World) (hGT:GT w):Calls Tryz.prog 291 #[.slice none 0 0,.int .u64 u,.int .i64 16,.bool false,.bool false] w (FbPost u w):=by
  have hp2:bits .and .i64 16 15=0:=by decide
  have HU:=Lib.hid hu
  have HG:=Lib.hid hGT
  have hz:=Tryz.zeroValue442
  clear hu hGT
  go_enter Tryz.func291,Tryz.ntmps291
  go_wp2_with (first
    | (go_at_call 354;refine (tz16_any _ (HG.out.fresh ((Fresh.refl _).alloc _))).mono ?_;rintro e w1 ⟨rfl,rfl⟩)
    | go_in)
  have HN:=Lib.hid (HexAt.new w)
  go_loopw [1,13] (fun v i wr=>FbRel u w.heap.size (w.alloc (.cells Tryz.zeroCells442 442)) v i wr) (fun _ i _=>(intOf i).toNat)
  case atStart=>exact ⟨u,65,[],rfl,rfl,HN.out,by simp,by simp,.inr rfl,Below.refl _ _⟩
  case round =>
    obtain ⟨x,k,ds,rfl,rfl,hat,hd,hle,h10,hb⟩:=hrel
    have hl7:=fb_len0 hle h10 HU.out
    obtain ⟨j,rfl⟩:∃ j,k=j+1:=⟨k - 1,by have:=hat.len;omega⟩
    have hkd:=hat.len
    have hj65:j<65:=by omega
    obtain ⟨⟨v0,c0⟩,f0⟩:=hat.at hj65
    have hxu:x<4294967296:=by
      have h1:x * 1≤x * 16 ^ ds.length:=Nat.mul_le_mul_left _ (Nat.pow_pos (by omega))
      have:=HU.out
      omega
    have HH:=Lib.hid (And.intro hat (And.intro hd (And.intro hle (And.intro h10 hb))))
    clear hat hd hle hb h10
    by_cases hx:16≤x
    · have hl6:=fb_len HH.out.2.2.1 hx HU.out
      have hand:bits .and .u64 (x:Int) 15=((x % 16:Nat):Int):=(u64_and15 _ (by omega) (by omega)).trans (by omega)
      obtain ⟨d,hd⟩:∃ d,x % 16=d:=⟨_,rfl⟩
      have hd16:d<16:=by omega
      have HD:=Lib.hid hd
      rw [hd] at hand
      clear hd
      have HP:=Lib.hid (hHexPush HH.out.1 (d:=d) (by omega))
      go_wp2
      rw [hex_lit hd16]
      case hH=>rfl
      refine ⟨⟨x / 16,j,hexI ((x % 16:Nat):Int) :: ds,by go_num,rfl,?_,hexD_step HH.out.2.1 hx hl6,?_,.inl (by omega),?_⟩,by simp [intOf]⟩
      · rw [HD.out];exact HP.out
      · have h1:=HH.out.2.2.1
        rw [List.length_cons,Nat.pow_succ]
        have h2:x / 16 * (16 ^ ds.length * 16)=(x / 16 * 16) * 16 ^ ds.length:=by rw [Nat.mul_comm (16 ^ ds.length) 16,Nat.mul_assoc]
        have h3:x / 16 * 16 * 16 ^ ds.length≤x * 16 ^ ds.length:=Nat.mul_le_mul_right _ (by omega)
        omega
      · exact HH.out.2.2.2.2.setCell (Nat.le_refl _) _
    · have hx2:x<16:=by omega
      have hsl:∀ W,(Instr.sliceAt 442 (.pointer (some ⟨w.heap.size,0,none⟩)) (some (.int .i64 (j:Int))) none none).run Tryz.prog W=.ok (.slice (some ⟨w.heap.size,j,none⟩) (65 - j) (65 - j)) W:=fun W=>by
        have hal:Tryz.prog.arrayLen 442=65:=by simp [Program.arrayLen,Tryz.underlying442]
        have hne:¬ 65=j:=by omega
        rw [run_sliceAt_array_l W 442 ⟨w.heap.size,0,none⟩ (by simp [Program.arrayLen,Program.elem,Tryz.underlying442]) .i64 (j:Int) (by omega) (by rw [hal];omega),hal]
        go_simp
      have HP:=Lib.hid (hHexPush HH.out.1 (d:=x) (by omega))
      have HCV:=Lib.hid ((hHexPush HH.out.1 (d:=x) (by omega)).conv (65 - j) (65 - j) (by simp;omega))
      have hcv:=HCV.out
      go_wp2_with (rw [hex_lit hx2];case hH=>rfl)
      go_ret2
      refine ⟨by rw [hexD_last HH.out.2.1 hx2 hl7];rfl,?_⟩
      have hb:Below w.heap.size (w.alloc (.cells Tryz.zeroCells442 442)) (wr.setCell ⟨w.heap.size,j,none⟩ (.int .u8 (hexI (x:Int)))):=HH.out.2.2.2.2.setCell (Nat.le_refl _) _
      exact Below.trans ((Fresh.refl w).alloc _) hb
def HexPost (u:Nat) (w:World) (e:Ending) (w':World):Prop:=e=.returned (.string (strOfNums (hexD 8 u)))∧Fresh w w'
set_option maxRecDepth 100000 in
theorem fuint_any (u:Nat) (hu:u<4294967296) (w:World) (hGT:GT w):Calls Tryz.prog 137 #[.int .u64 u,.int .i64 16] w (HexPost u w):=by
  have HF:=Lib.hid (fbits_any u hu w hGT)
  obtain ⟨S,hS⟩:∃ S,strOfNums (hexD 8 u)=S:=⟨_,rfl⟩
  unfold FbPost at HF
  unfold HexPost
  rw [hS] at HF ⊢
  clear hS hGT
  go_enter Tryz.func137,Tryz.ntmps137
  go_wp2_with (first
    | (go_at_call 291;refine HF.out.mono ?_;rintro e w1 ⟨rfl,hf⟩)
    | go_in)
  go_ret
  exact ⟨rfl,hf⟩
open Go.RowKit
def hexP:Nat→Nat→List Int
  | 0,_=>[]
  | n+1,v=>hexP n (v / 16)++[hexI ((v % 16:Nat):Int)]
theorem hexP_zero:∀ n,hexP n 0=List.replicate n 48
  | 0=>rfl
  | n+1=>by
    rw [hexP,Nat.zero_div,hexP_zero n,List.replicate_succ']
    rfl
theorem hexP_eq:∀ (n f v:Nat),n≤f→1≤n→v<16 ^ n→hexP n v=List.replicate (n - (hexD f v).length) 48++hexD f v
  | 0,f,v,_,h,_=>by omega
  | n+1,0,v,h,_,_=>by omega
  | n + 1,f+1,v,hnf,_,hv=>by
    rw [hexP]
    conv=>rhs;unfold hexD
    by_cases hx:v<16
    · rw [if_pos hx,Nat.div_eq_of_lt hx,hexP_zero,Nat.mod_eq_of_lt hx]
      simp
    · have hn:1≤n:=by
        rcases Nat.eq_zero_or_pos n with q | q
        · subst q;simp at hv;omega
        · exact q
      have hv2:v / 16<16 ^ n:=by rw [Nat.div_lt_iff_lt_mul (by omega),← Nat.pow_succ];exact hv
      rw [if_neg hx,hexP_eq n f (v / 16) (by omega) hn hv2,List.append_assoc]
      simp
theorem hexD_len:∀ (f v:Nat),(hexD f v).length≤f
  | 0,v=>by simp [hexD]
  | f+1,v=>by
    have ih:=hexD_len f (v / 16)
    unfold hexD
    split
    · simp
    · simp;omega
theorem hexL_P (u:Nat):hexL (u:Int)=hexP 8 u:=by
  unfold hexL
  simp only [hexP,List.nil_append,List.cons_append]
  have e1:(u:Int) / 268435456 % 16=((u / 16 / 16 / 16 / 16 / 16 / 16 / 16 % 16:Nat):Int):=by omega
  have e2:(u:Int) / 16777216 % 16=((u / 16 / 16 / 16 / 16 / 16 / 16 % 16:Nat):Int):=by omega
  have e3:(u:Int) / 1048576 % 16=((u / 16 / 16 / 16 / 16 / 16 % 16:Nat):Int):=by omega
  have e4:(u:Int) / 65536 % 16=((u / 16 / 16 / 16 / 16 % 16:Nat):Int):=by omega
  have e5:(u:Int) / 4096 % 16=((u / 16 / 16 / 16 % 16:Nat):Int):=by omega
  have e6:(u:Int) / 256 % 16=((u / 16 / 16 % 16:Nat):Int):=by omega
  have e7:(u:Int) / 16 % 16=((u / 16 % 16:Nat):Int):=by omega
  have e8:(u:Int) % 16=((u % 16:Nat):Int):=by omega
  rw [e1,e2,e3,e4,e5,e6,e7,e8]
theorem rep_str (c:Nat):(⟨(Lib.repeatL [48] c).toArray⟩:ByteArray)=strOfNums (List.replicate c 48):=by
  have:Lib.repeatL [48] c=(List.replicate c (48:Int)).map fun x=>UInt8.ofNat x.toNat:=by
    induction c with
    | zero=>rfl
    | succ c ih=>rw [Lib.repeatL,ih,List.replicate_succ];rfl
  rw [this]
  rfl
theorem dec_str_dec:((List.range 100).all fun i=>(⟨(Lib.decDigits i).toArray⟩:ByteArray).toList == (strOfNums (decL (i:Int))).toList)=true:=by decide +kernel
theorem dec_str {i:Nat} (h:i<100):(⟨(Lib.decDigits i).toArray⟩:ByteArray)=strOfNums (decL (i:Int)):=by
  have:=List.all_eq_true.1 dec_str_dec i (List.mem_range.2 h)
  exact toList_inj.1 (by simpa using this)
theorem name_str {u i:Nat} (hu:u<4294967296) (hi:1≤i∧i<100):(⟨#[37,126]⟩:ByteArray)++strOfNums (List.replicate (8 - (hexD 8 u).length) 48)++strOfNums (hexD 8 u)++⟨#[45]⟩++strOfNums (decL (i:Int))=nameS (u:Int) (i:Int):=by
  have e1:(⟨#[37,126]⟩:ByteArray)=strOfNums [37,126]:=rfl
  have e2:(⟨#[45]⟩:ByteArray)=strOfNums [45]:=rfl
  rw [e1,e2,← strOfNums_append,← strOfNums_append,← strOfNums_append,← strOfNums_append]
  unfold nameS
  rw [if_neg (by omega),hexL_P,hexP_eq 8 8 u (Nat.le_refl _) (by omega) (by omega),List.append_assoc [37,126]]
def NamePost (h n:Int) (w:World) (e:Ending) (w':World):Prop:=e=.returned (.string (nameS h n))∧Fresh w w'
set_option maxRecDepth 100000 in
set_option maxHeartbeats 1600000 in
theorem sname_any (u i:Nat) (hu:u<4294967296) (hi:1≤i∧i<100) (w:World) (hGT:GT w):Calls Tryz.prog 85 #[.int .u32 u,.int .i64 i] w (NamePost u i w):=by
  have HF:=Lib.hid (fuint_any u hu w hGT)
  have hlen:=hexD_len 8 u
  have HIT:=Lib.hid (fun W=>Tryz.strconv_Itoa_small i (by omega) W)
  have HNS:=Lib.hid (name_str hu hi)
  have hsz:(strOfNums (hexD 8 u)).size=(hexD 8 u).length:=strOfNums_size _
  obtain ⟨m,hm⟩:∃ m,(hexD 8 u).length=m:=⟨_,rfl⟩
  rw [hm] at hsz hlen HNS
  have HRP:Hid (∀ W,Calls Tryz.prog 138 #[.string ⟨#[48]⟩,.int .i64 (8 - (m:Int))] W fun e w'=>e=.returned (.string (strOfNums (List.replicate (8 - m) 48)))∧Fresh W w'):=Lib.hid (fun W=>by
    have x:=Tryz.strings_Repeat ⟨#[48]⟩ (8 - m) W (by omega) (by show 1 * (8 - m)≤_;omega)
    rw [show ((8 - m:Nat):Int)=8 - (m:Int) by omega] at x
    refine x.mono fun e w' ⟨he,hb⟩=>⟨?_,hb⟩
    rw [he,← rep_str])
  have hrs:(strOfNums (List.replicate (8 - m) 48)).size≤8:=by rw [strOfNums_size];simp
  have hds:(strOfNums (decL (i:Int))).size≤2:=by rw [strOfNums_size];unfold decL;split <;> simp
  rw [dec_str (by omega)] at HIT
  unfold HexPost at HF
  unfold NamePost
  obtain ⟨S,hS⟩:∃ S,strOfNums (hexD 8 u)=S:=⟨_,rfl⟩
  obtain ⟨R,hR⟩:∃ R,strOfNums (List.replicate (8 - m) 48)=R:=⟨_,rfl⟩
  obtain ⟨D,hD⟩:∃ D,strOfNums (decL (i:Int))=D:=⟨_,rfl⟩
  obtain ⟨X,hX⟩:∃ X,nameS (u:Int) (i:Int)=X:=⟨_,rfl⟩
  rw [hS] at HF HNS hsz
  rw [hR] at HRP HNS hrs
  rw [hD] at HIT HNS hds
  rw [hX] at HNS ⊢
  have hs1:(S.size:Int)≤8:=by omega
  have hr1:(R.size:Int)≤8:=by omega
  have hd1:(D.size:Int)≤2:=by omega
  have HSZ:=Lib.hid hsz
  have hm8:(m:Int)≤8:=by omega
  obtain ⟨hi1,hi2⟩:=hi
  have i1:(1:Int)≤(i:Int):=by omega
  have i2:(i:Int)≤1000000:=by omega
  clear hS hR hD hX hm hsz hrs hds hGT
  go_enter Tryz.func85,Tryz.ntmps85
  go_wp2_with fail
  refine HF.out.mono ?_
  rintro e w1 ⟨rfl,h1⟩
  have H1:=Lib.hid h1
  clear h1
  have hsz:=HSZ.out
  go_wp2_with fail
  refine (HRP.out _).mono ?_
  rintro e w2 ⟨rfl,h2⟩
  have H2:=Lib.hid (H1.out.trans h2)
  clear h2
  go_wp2_with fail
  refine (HIT.out _).mono ?_
  rintro e w3 ⟨rfl,rfl⟩
  go_wp2
  go_ret
  exact ⟨by rw [← HNS.out];rfl,H2.out⟩
end Go.Proofs.YtpmlggjhfiljmaaGreatDoor
