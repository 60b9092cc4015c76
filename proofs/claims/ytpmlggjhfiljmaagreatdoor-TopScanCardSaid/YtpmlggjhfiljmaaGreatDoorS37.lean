/- Part 37 of what the law rests on. -/
import Derived.Test.YtpmlggjhfiljmaaGreatDoorS31
import Derived.Test.YtpmlggjhfiljmaaGreatDoorS34
import Derived.Test.YtpmlggjhfiljmaaGreatDoorS36
set_option linter.all false
namespace Go.Proofs.YtpmlggjhfiljmaaGreatDoor
open Go.RowKit
def MoveErr (T:TreS) (d:Int) (name:ByteArray) (dst:Int) (nw:ByteArray) (short r:Int):Prop :=
  (findT T d name=none∧r=findR T d name)∨∃ x,findT T d name=some x∧((T.dirs dst=none∧r=if T.files dst=true then 8 else 5)∨∃ l,T.dirs dst=some l∧((¬ GoodN nw∧r=3)∨(GoodN nw∧¬ (0≤short∧short≤1000000)∧r=1)∨(GoodN nw∧0≤short∧short≤1000000∧reachB T dst x.node=true∧r=10)∨(GoodN nw∧0≤short∧short≤1000000∧reachB T dst x.node=false∧0≤fidx (nameB nw) l∧r=6)))
def MoveOk (T:TreS) (d:Int) (name:ByteArray) (dst:Int) (nw:ByteArray) (short:Int) (x:Ent) (l l2:List Ent) (k:Nat):Prop :=
  findT T d name=some x∧T.dirs d=some l∧fidx (nameB name) l=(k:Int)∧T.dirs dst=some l2∧GoodN nw∧0≤short∧short≤1000000∧reachB T dst x.node=false∧fidx (nameB nw) l2<0
def MovePost (A:Nat→Prop) (t:Nat) (T:TreS) (q:Nat) (d:Int) (name:ByteArray) (dst:Int) (nw:ByteArray) (short:Int) (w:World) (e:Ending) (w':World):Prop :=
  (∃ r,r ≠ 0∧MoveErr T d name dst nw short r∧e=.returned (.int .i64 r)∧Fresh w w') ∨
  (∃ x l l2 k A',MoveOk T d name dst nw short x l l2 k∧e=.returned (.int .i64 0)∧TreeAt w' A' t (moveT T d k dst ⟨nw,x.node,x.dir,0,short⟩) (q+2)∧Mut A w w'∧Gr A w w' A')
theorem move_join {w w6 w7 w8:World} {A A0 A7 A8:Nat→Prop} (hA:∀ j,A0 j→A j) (hf:Fresh w w6) (u7:Mut A0 w6 w7) (g7:Gr A0 w6 w7 A7) (u8:Mut A7 w7 w8) (g8:Gr A7 w7 w8 A8):Mut A w w8∧Gr A w w8 A8:=by
  have z1:=hf.size
  have z2:=u7.size
  have z3:=u8.size
  have h7:∀ j,A7 j→A j∨(w.heap.size≤j∧j<w7.heap.size):=fun j h=>by
    rcases g7 j h with q | q
    · exact .inl (hA j q)
    · exact .inr ⟨by omega,q.2⟩
  refine ⟨(hf.andMut (u7.mono (T:=A) (fun j _ h=>hA j h))).trans2 u8 (fun _ h=>h) (fun j hj h=>?_),fun j h=>?_⟩
  · rcases h7 j h with q | q
    · exact q
    · omega
  · rcases g8 j h with q | q
    · rcases h7 j q with r | r
      · exact .inl r
      · exact .inr ⟨r.1,by omega⟩
    · exact .inr ⟨by omega,q.2⟩
theorem dropT_len {T:TreS} {d:Int} {k:Nat} {B:Nat} (h:∀ i l,T.dirs i=some l→l.length≤B):∀ i l,(dropT T d k).dirs i=some l→l.length≤B:=by
  intro i l hl
  unfold dropT at hl
  simp only at hl
  split at hl
  · injection hl with hl
    subst hl
    cases hd:T.dirs d with
    | none=>simp
    | some l' =>
      have:=h d l' hd
      simp
      omega
  · exact h i l hl
set_option maxRecDepth 100000 in
set_option maxHeartbeats 6400000 in
theorem tmove_any (w:World) (A:Nat→Prop) (t:Nat) (T:TreS) (q:Nat) (h:TreeAt w A t T q) (d:Int) (hd:I64 d) (name:ByteArray) (dst:Int) (hto:I64 dst) (nw:ByteArray) (short:Int) (hl:∀ i l,T.dirs i=some l→l.length≤10000) (hn:∀ i l,T.dirs i=some l→∀ e ∈ l,I64 e.node) (hacc:∀ a,Acc (childT T) a) (hq:q≤100000) (hnx:0≤T.next∧T.next≤100000) :
    Calls Tryz.prog 274 #[.pointer (some ⟨t,0,none⟩),.int .i64 d,.string name,.int .i64 dst,.string nw,.int .i64 short] w (MovePost A t T q d name dst nw short w):=by
  have HF:=Lib.hid (tfind_any w A t T q h d hd name hl)
  unfold TFindPost at HF
  cases hf:findT T d name with
  | none =>
    have hr0:=findR_none hf
    have HE:Hid (MoveErr T d name dst nw short (findR T d name)):=Lib.hid (.inl ⟨hf,rfl⟩)
    rw [hf] at HF
    obtain ⟨r,hr⟩:∃ r,findR T d name=r:=⟨_,rfl⟩
    rw [hr] at HF HE hr0
    have hrb:(r != 0)=true:=by simp [hr0]
    have HR0:=Lib.hid hr0
    unfold ent0 at HF
    simp only [Option.getD_none] at HF
    clear hr hf h hr0 hl hn hacc
    go_enter Tryz.func274,Tryz.ntmps274
    go_wp2_with fail
    refine HF.out.mono ?_
    rintro e w1 ⟨rfl,hf1⟩
    have HF1:=Lib.hid hf1
    clear hf1
    go_wp2
    go_ret
    exact .inl ⟨r,HR0.out,HE.out,rfl,HF1.out.alloc _⟩
  | some x =>
    have hr0:=findR_some hf
    obtain ⟨l,k,hdl,hfi,hkl,hlk⟩:=findT_at hf
    have hxn:I64 x.node:=hn d l hdl x (by rw [← hlk];exact List.getElem_mem _)
    rw [hf,hr0] at HF
    have HFT:=Lib.hid hf
    obtain ⟨nm,nd,dr,ck,sh⟩:=x
    simp only [Option.getD_some] at HF hxn
    have hAl:=h.lim w.heap.size (Nat.le_refl _)
    have HH:=Lib.hid hAl
    have HLS:=Lib.hid (fun W (hW:Fresh w W)=>tlist_any W _ t T q (h.fresh hW) dst hto (fun l hl2=>by have:=hl dst l hl2;omega))
    have HM:=Lib.hid (fun W=>tmay_any nw short W)
    have HBE:=Lib.hid (fun W (hW:Fresh w W)=>below_any W _ t T q dst nd (h.fresh hW) hl hn (hacc nd) hxn)
    have HLL:=Lib.hid hl
    have HDR:=Lib.hid (fun W (hW:Fresh w W)=>tdrop_any W _ t T q (HH.out.fresh hW) d hd name k l hdl (by have:=hl d l hdl;omega) hfi (by omega))
    have HDL:=Lib.hid (And.intro hdl hfi)
    obtain ⟨rb,hrb⟩:∃ rb,reachB T dst nd=rb:=⟨_,rfl⟩
    have HRB:=Lib.hid hrb
    rw [hrb] at HBE
    unfold BoolF at HBE
    clear h hAl hf hr0 hl hn hacc hdl hfi hkl hlk hrb
    go_enter Tryz.func274,Tryz.ntmps274
    go_wp2_with fail
    refine HF.out.mono ?_
    rintro e w1 ⟨rfl,hf1⟩
    obtain ⟨W2,hW2⟩:∃ W2,w1.alloc (.cells #[.string nm,.int .i64 nd,.bool dr,.int .i64 ck,.int .i64 sh] 88)=W2:=⟨_,rfl⟩
    have f2:Fresh w W2:=by rw [← hW2];exact hf1.alloc _
    have bx:Blk W2 w1.heap.size 88 #[.string nm,.int .i64 nd,.bool dr,.int .i64 ck,.int .i64 sh]:=by rw [← hW2];exact Blk.new _ _ _
    have hwx:w.heap.size≤w1.heap.size:=hf1.size
    have HW2:=Lib.hid (And.intro f2 (And.intro bx hwx))
    clear hf1 f2 bx hwx
    go_wp2_with fail
    try rw [hW2]
    clear hW2
    refine (HLS.out _ HW2.out.1).mono ?_
    rintro e w3 (⟨l2,v2,hdl2,rfl,ho,hf3⟩ | ⟨hdn,rfl,hf3⟩)
    case inr =>
      have hr:∃ r:Int,(if T.files dst=true then 8 else 5)=r∧r ≠ 0∧MoveErr T d name dst nw short r:=by
        cases hfl:T.files dst
        · exact ⟨5,rfl,by omega,.inr ⟨_,HFT.out,.inl ⟨hdn,by rw [hfl];rfl⟩⟩⟩
        · exact ⟨8,rfl,by omega,.inr ⟨_,HFT.out,.inl ⟨hdn,by rw [hfl];rfl⟩⟩⟩
      obtain ⟨r,hr1,hr0,hre⟩:=hr
      rw [hr1]
      have HR:=Lib.hid (And.intro hre hr0)
      have hrb:(r == 0)=false:=by simp [hr0]
      have hrb2:(r != 0)=true:=by simp [hr0]
      clear hre hdn hr1 hr0
      go_wp2
      go_ret
      exact .inl ⟨r,HR.out.2,HR.out.1,rfl,HW2.out.1.trans hf3⟩
    case inl =>
      have HO:=Lib.hid (And.intro ho (And.intro hdl2 hf3))
      clear ho hdl2 hf3
      go_wp2_with fail
      refine (HM.out _).mono ?_
      rintro e w4 ⟨r,rfl,hr,hf4⟩
      by_cases hr0:r=0
      case neg =>
        have hre:MoveErr T d name dst nw short r:=by
          rcases hr with q | q | q
          · exact absurd q.2.2.2 hr0
          · exact .inr ⟨_,HFT.out,.inr ⟨l2,HO.out.2.1,.inl q⟩⟩
          · exact .inr ⟨_,HFT.out,.inr ⟨l2,HO.out.2.1,.inr (.inl q)⟩⟩
        have HR:=Lib.hid (And.intro hre hr0)
        have hrb:(r == 0)=false:=by simp [hr0]
        have hrb2:(r != 0)=true:=by simp [hr0]
        clear hr hre hr0
        go_wp2
        go_ret
        exact .inl ⟨r,HR.out.2,HR.out.1,rfl,HW2.out.1.trans (HO.out.2.2.trans hf4)⟩
      case pos =>
        subst hr0
        have hg:GoodN nw∧0≤short∧short≤1000000:=by
          rcases hr with q | q | q
          · exact ⟨q.1,q.2.1,q.2.2.1⟩
          · exact absurd q.2 (by omega)
          · exact absurd q.2.2 (by omega)
        have HG:=Lib.hid (And.intro hg (HO.out.2.2.trans hf4))
        have x1:w4.cell? ⟨w1.heap.size,1,none⟩=some (.int .i64 nd):=(HW2.out.2.1.keep HG.out.2).cell 1
        have HIX:=Lib.hid (fun W (hW:Fresh w3 W)=>tindex_any W _ v2 l2 nw ((OwnE.sl HO.out.1).fresh hW) (by have:=HLL.out dst l2 HO.out.2.1;omega))
        have HF34:=Lib.hid hf4
        clear hg hr hf4
        go_wp2_with fail
        refine (HBE.out _ (HW2.out.1.trans HG.out.2)).mono ?_
        rintro e w5 ⟨rfl,hf5⟩
        have HF5:=Lib.hid (And.intro (HG.out.2.trans hf5) (HF34.out.trans hf5))
        have x1:w5.cell? ⟨w1.heap.size,1,none⟩=some (.int .i64 nd):=(HW2.out.2.1.keep HF5.out.1).cell 1
        clear hf5
        cases rb with
        | true =>
          have HE:Hid (MoveErr T d name dst nw short 10):=Lib.hid (.inr ⟨_,HFT.out,.inr ⟨l2,HO.out.2.1,.inr (.inr (.inl ⟨HG.out.1.1,HG.out.1.2.1,HG.out.1.2.2,HRB.out,rfl⟩))⟩⟩)
          go_wp2
          go_ret
          exact .inl ⟨10,by omega,HE.out,rfl,HW2.out.1.trans HF5.out.1⟩
        | false =>
          go_wp2_with fail
          refine (HIX.out _ HF5.out.2).mono ?_
          rintro e w6 ⟨rfl,hf6⟩
          have HF6:=Lib.hid (HW2.out.1.trans (HF5.out.1.trans hf6))
          have HX6:=Lib.hid (HW2.out.2.1.keep (HF5.out.1.trans hf6))
          clear hf6 x1
          by_cases hix:0≤fidx (nameB nw) l2
          · have HE:Hid (MoveErr T d name dst nw short 6):=Lib.hid (.inr ⟨_,HFT.out,.inr ⟨l2,HO.out.2.1,.inr (.inr (.inr ⟨HG.out.1.1,HG.out.1.2.1,HG.out.1.2.2,HRB.out,hix,rfl⟩))⟩⟩)
            go_wp2
            go_ret
            exact .inl ⟨6,by omega,HE.out,rfl,HF6.out⟩
          · have HOK:Hid (MoveOk T d name dst nw short ⟨nm,nd,dr,ck,sh⟩ l l2 k):=Lib.hid ⟨HFT.out,HDL.out.1,HDL.out.2,HO.out.2.1,HG.out.1.1,HG.out.1.2.1,HG.out.1.2.2,HRB.out,by omega⟩
            go_wp2_with fail
            refine (HDR.out _ HF6.out).mono ?_
            rintro e w7 ⟨A7,rfl,t7,u7,g7⟩
            have hwx:=HW2.out.2.2
            have b7:Blk w7 w1.heap.size 88 _:=HX6.out.mut u7 (fun h=>by have:=h.2;omega)
            have x1:w7.cell? ⟨w1.heap.size,1,none⟩=some (.int .i64 nd):=b7.cell 1
            have x2:w7.cell? ⟨w1.heap.size,2,none⟩=some (.bool dr):=b7.cell 2
            have HPT:=Lib.hid (tput_any w7 A7 t (dropT T d k) (q+1) t7 dst hto ⟨nw,nd,dr,0,short⟩ (by omega) (fun l' h'=>by have:=dropT_len HLL.out dst l' h';omega) (by show 0≤T.next∧T.next≤1000000;omega))
            have H7:=Lib.hid (And.intro u7 g7)
            clear b7 t7 u7 g7 hwx
            go_wp2_with fail
            refine HPT.out.mono ?_
            rintro e w8 ⟨A8,rfl,t8,u8,g8⟩
            have HJ:=Lib.hid (And.intro t8 (move_join (A:=A) (fun j h=>h.1) HF6.out H7.out.1 H7.out.2 u8 g8))
            clear t8 u8 g8
            go_wp2
            go_ret
            exact .inr ⟨_,l,l2,k,A8,HOK.out,rfl,HJ.out.1,HJ.out.2.1,HJ.out.2.2⟩
open Go.RowKit
abbrev moveV (dir:Int) (name:ByteArray) (dst:Int) (nw:ByteArray) (short:Int):Value:=.agg #[.int .i64 3,.int .i64 dir,.int .i64 dst,.string name,.string nw,.bool false,.int .i64 short]
set_option maxRecDepth 100000 in
set_option maxHeartbeats 1600000 in
theorem formedM_any (dir:Int) (name:ByteArray) (dst:Int) (nw:ByteArray) (short:Int) (hd:0≤dir∧dir≤65535) (ht:0≤dst∧dst≤65535) (hn:name.size≤255) (hw:nw.size≤255) (hs:0≤short∧short≤1000000) (w:World):Calls Tryz.prog 271 #[moveV dir name dst nw short] w fun e w'=>e=.returned (.bool true)∧Fresh w w':=by
  obtain ⟨hd0,hd1⟩:=hd
  obtain ⟨ht0,ht1⟩:=ht
  obtain ⟨hs0,hs1⟩:=hs
  have h1:(name.size:Int)≤255:=by omega
  have h2:(nw.size:Int)≤255:=by omega
  clear hn hw
  go_enter Tryz.func271,Tryz.ntmps271
  go_wp2
  go_ret
  exact ⟨rfl,(Fresh.refl w).alloc _⟩
theorem u8_new3 (W:World):U8At (W.alloc (.cells #[.int .u8 (IntKind.u8.wrap 3)] 5)).drew (fun g=>W.heap.size≤g) (.slice (some ⟨W.heap.size,0,none⟩) 1 1) 1:=by
  refine ⟨[3],rfl,by simp,⟨rfl,.inr ⟨_,1,#[.int .u8 3],rfl,Nat.zero_le _,?_,Nat.le_refl _,by unfold maxLen;omega,rfl,rfl⟩⟩,fun g hg=>by have h2:=hg;simp [Value.ownBlock] at h2;omega⟩
  exact heap_alloc_new _ _
set_option maxRecDepth 100000 in
set_option maxHeartbeats 3200000 in
theorem bytesM_any (dir:Int) (name:ByteArray) (dst:Int) (nw:ByteArray) (short:Int) (hd:0≤dir∧dir≤65535) (ht:0≤dst∧dst≤65535) (hn:name.size≤255) (hw:nw.size≤255) (hs:0≤short∧short≤1000000) (w:World):Calls Tryz.prog 275 #[moveV dir name dst nw short] w (StrIs (name.size+nw.size+11) w):=by
  obtain ⟨W5,hW5⟩:∃ W5,(w.alloc (.cells #[.int .i64 3,.int .i64 dir,.int .i64 dst,.string name,.string nw,.bool false,.int .i64 short] 142))=W5:=⟨_,rfl⟩
  have hs5:W5.heap.size=w.heap.size+1:=by rw [← hW5];simp
  have X5:Blk W5 w.heap.size 142 #[.int .i64 3,.int .i64 dir,.int .i64 dst,.string name,.string nw,.bool false,.int .i64 short]:=by rw [← hW5];exact Blk.new _ _ _
  have HS5:=Lib.hid hs5
  have hf5:Fresh w W5:=by rw [← hW5];exact (Fresh.refl w).alloc _
  have HNU:=Lib.hid (fun a0 c0 k0 n hn k hk hk0 W hB h=>dnumber_b W5.heap.size a0 c0 k0 n hn k hk hk0 W hB h)
  have HNA:=Lib.hid (fun a0 c0 k0 s hs hk0 W hB h=>dname_any W5.heap.size a0 c0 k0 s hs hk0 W hB h)
  have HSP:Hid (∀ W,Fresh W5 W→W.cell? ⟨w.heap.size,0,none⟩=some (.int .i64 3)∧W.cell? ⟨w.heap.size,1,none⟩=some (.int .i64 dir)∧W.cell? ⟨w.heap.size,2,none⟩=some (.int .i64 dst)∧W.cell? ⟨w.heap.size,3,none⟩=some (.string name)∧W.cell? ⟨w.heap.size,4,none⟩=some (.string nw)∧W.cell? ⟨w.heap.size,5,none⟩=some (.bool false)∧W.cell? ⟨w.heap.size,6,none⟩=some (.int .i64 short)∧Fresh W5 W):=Lib.hid (fun W hW=>by
    have b:=X5.keep hW
    exact ⟨by rw [b.cell];rfl,by rw [b.cell];rfl,by rw [b.cell];rfl,by rw [b.cell];rfl,by rw [b.cell];rfl,by rw [b.cell];rfl,by rw [b.cell];rfl,hW⟩)
  have h0:=HSP.out W5 (Fresh.refl _)
  have HFR:=Lib.hid hf5
  clear hs5 hf5
  go_enter Tryz.func275,Tryz.ntmps275
  go_wp2_with fail
  try rw [hW5]
  clear hW5 X5
  go_region_held3 (fun W=>W.cell? ⟨w.heap.size,0,none⟩=some (.int .i64 3)∧W.cell? ⟨w.heap.size,1,none⟩=some (.int .i64 dir)∧W.cell? ⟨w.heap.size,2,none⟩=some (.int .i64 dst)∧W.cell? ⟨w.heap.size,3,none⟩=some (.string name)∧W.cell? ⟨w.heap.size,4,none⟩=some (.string nw)∧W.cell? ⟨w.heap.size,5,none⟩=some (.bool false)∧W.cell? ⟨w.heap.size,6,none⟩=some (.int .i64 short)∧Fresh W5 W) (exact HSP.out _ (by repeat (first | assumption | exact Fresh.refl _ | refine Fresh.alloc ?_ _ | refine Fresh.drew ?_))) (first
    | (go_at_call 348;refine (HNU.out _ _ 1 dir (by omega) 2 (by omega) (by omega) _ (by show W5.heap.size≤(W5.alloc _).heap.size;simp) (u8_new3 W5)).mono ?_;rintro e wA ⟨aA,cA,rfl,hoA,hbA⟩;have hfA:Fresh W5 wA:=(((Fresh.refl W5).alloc _).drew).trans3 hbA)
    | (go_at_call 347;refine (HNA.out _ _ 3 name (by omega) (by omega) _ hfA.size hoA).mono ?_;rintro e wB ⟨aB,cB,rfl,hoB,hbB⟩;have hfB:Fresh W5 wB:=hfA.trans3 hbB))
  all_goals
    have h0:=HSP.out wB hfB
    clear hoA hbA hbB
    go_wp2_with fail
    go_region_held3 (fun W=>W.cell? ⟨w.heap.size,0,none⟩=some (.int .i64 3)∧W.cell? ⟨w.heap.size,1,none⟩=some (.int .i64 dir)∧W.cell? ⟨w.heap.size,2,none⟩=some (.int .i64 dst)∧W.cell? ⟨w.heap.size,3,none⟩=some (.string name)∧W.cell? ⟨w.heap.size,4,none⟩=some (.string nw)∧W.cell? ⟨w.heap.size,5,none⟩=some (.bool false)∧W.cell? ⟨w.heap.size,6,none⟩=some (.int .i64 short)∧Fresh W5 W) (exact HSP.out _ (by repeat (first | assumption | exact Fresh.refl _ | refine Fresh.alloc ?_ _ | refine Fresh.drew ?_))) (first
      | (go_at_call 348;refine (HNU.out _ _ (4+name.size) dst (by omega) 2 (by omega) (by omega) wB.drew hfB.size (hoB.fresh (Fresh.refl _).drew)).mono ?_;rintro e wC ⟨aC,cC,rfl,hoC,hbC⟩;have hfC:Fresh W5 wC:=hfB.drew.trans3 hbC)
      | (go_at_call 347;refine (HNA.out _ _ (4+name.size+2) nw (by omega) (by omega) _ hfC.size hoC).mono ?_;rintro e wD ⟨aD,cD,rfl,hoD,hbD⟩;have hfD:Fresh W5 wD:=hfC.trans3 hbD))
    all_goals
      obtain ⟨s0,s1,s2,s3,s4,s5,s6,_⟩:=HSP.out wD hfD
      obtain ⟨n,hn2⟩:∃ n,4+name.size+2+1+nw.size=n:=⟨_,rfl⟩
      have HN:=Lib.hid hn2
      rw [hn2] at hoD ⊢
      have HOD:=Lib.hid hoD
      clear hoC hbC hbD h0 hoD hn2
      go_wp2_with fail
      refine (HNU.out _ _ n short (by omega) 4 (by omega) (by have:=HN.out;omega) _ hfD.size HOD.out).mono ?_
      rintro e wE ⟨aE,cE,rfl,huE,hbE⟩
      have hfE:Fresh W5 wE:=hfD.trans3 hbE
      obtain ⟨st,hst1,hst2⟩:=conv_u8 huE (by omega)
      have HST:=Lib.hid hst1
      have HFD:=Lib.hid (HFR.out.trans hfE)
      clear huE hbE hst1
      go_wp2
      go_ret
      exact ⟨st,rfl,by have:=HST.out;have:=HN.out;omega,HFD.out⟩
set_option maxRecDepth 100000 in
set_option maxHeartbeats 1600000 in
theorem dencodeM_any (dir:Int) (name:ByteArray) (dst:Int) (nw:ByteArray) (short:Int) (hd:0≤dir∧dir≤65535) (ht:0≤dst∧dst≤65535) (hn:name.size≤255) (hw:nw.size≤255) (hs:0≤short∧short≤1000000) (w:World):Calls Tryz.prog 185 #[moveV dir name dst nw short] w (EncD (name.size+nw.size+11) w):=by
  have HFO:=Lib.hid (fun W=>formedM_any dir name dst nw short hd ht hn hw hs W)
  have HBY:=Lib.hid (fun W=>bytesM_any dir name dst nw short hd ht hn hw hs W)
  have X:=Blk.new w 142 #[.int .i64 3,.int .i64 dir,.int .i64 dst,.string name,.string nw,.bool false,.int .i64 short]
  have HX:=Lib.hid X
  clear X hd ht hn hw hs
  go_enter Tryz.func185,Tryz.ntmps185
  go_wp2_with fail
  refine (HFO.out _).mono ?_
  rintro e w1 ⟨rfl,hf1⟩
  have b1:=HX.out.keep hf1
  have c0:w1.cell? ⟨w.heap.size,0,none⟩=some (.int .i64 3):=by rw [b1.cell];rfl
  have c1:w1.cell? ⟨w.heap.size,1,none⟩=some (.int .i64 dir):=by rw [b1.cell];rfl
  have c2:w1.cell? ⟨w.heap.size,2,none⟩=some (.int .i64 dst):=by rw [b1.cell];rfl
  have c3:w1.cell? ⟨w.heap.size,3,none⟩=some (.string name):=by rw [b1.cell];rfl
  have c4:w1.cell? ⟨w.heap.size,4,none⟩=some (.string nw):=by rw [b1.cell];rfl
  have c5:w1.cell? ⟨w.heap.size,5,none⟩=some (.bool false):=by rw [b1.cell];rfl
  have c6:w1.cell? ⟨w.heap.size,6,none⟩=some (.int .i64 short):=by rw [b1.cell];rfl
  have HF1:Hid (Fresh w w1):=Lib.hid (((Fresh.refl w).alloc _).trans hf1)
  clear b1 hf1
  go_wp2_with fail
  refine (HBY.out _).mono ?_
  rintro e w2 ⟨s,rfl,hs2,hf2⟩
  have HS2:=Lib.hid hs2
  clear hs2
  go_wp2
  go_ret2
  exact ⟨s,rfl,HS2.out,HF1.out.trans hf2⟩
def MvErr (T:TreS) (d:Int) (name:ByteArray) (dst:Int) (nw:ByteArray) (short r:Int):Prop:=r ≠ 0∧MoveErr T d name dst nw short r
def MvOk (T:TreS) (qt:Nat) (d:Int) (name:ByteArray) (dst:Int) (nw:ByteArray) (short a:Int) (T2:TreS) (qt2:Nat):Prop :=
  a=0∧qt2=qt+2∧∃ x l l2 k,MoveOk T d name dst nw short x l l2 k∧T2=moveT T d k dst ⟨nw,x.node,x.dir,0,short⟩
theorem enters_move:∀ (args:Array Value) (W:World),Sem.run Tryz.prog (callFunc 274 args) W=.ok (.enter 274 args) W:=by intro args w;go_simp
set_option maxRecDepth 100000 in
set_option maxHeartbeats 1600000 in
theorem ddoM_any (w:World) (A:Nat→Prop) (t:Nat) (T:TreS) (q:Nat) (h:TreeAt w A t T q) (dir:Int) (name:ByteArray) (dst:Int) (nw:ByteArray) (short:Int) (hd:0≤dir∧dir≤65535) (ht:0≤dst∧dst≤65535) (hn:name.size≤255) (hw:nw.size≤255) (hs:0≤short∧short≤1000000) (hl:∀ i l,T.dirs i=some l→l.length≤10000) (hx:∀ i l,T.dirs i=some l→∀ e ∈ l,I64 e.node) (hacc:∀ a,Acc (childT T) a) (hq:q≤100000) (hnx:0≤T.next∧T.next≤100000) :
    Calls Tryz.prog 184 #[.pointer (some ⟨t,0,none⟩),moveV dir name dst nw short] w (DoG (MvErr T dir name dst nw short) (MvOk T q dir name dst nw short) A t w):=by
  have HFO:=Lib.hid (fun W=>formedM_any dir name dst nw short hd ht hn hw hs W)
  have HLK:=Lib.hid (fun W (hW:Fresh w W)=>tmove_any W A t T q (h.fresh hW) dir (by unfold I64;omega) name dst (by unfold I64;omega) nw short hl hx hacc hq hnx)
  have HX:=Lib.hid (Blk.new w 142 #[.int .i64 3,.int .i64 dir,.int .i64 dst,.string name,.string nw,.bool false,.int .i64 short])
  have hen:=enters_move
  clear h hd ht hn hw hs hl hx hacc hnx
  go_enter Tryz.func184,Tryz.ntmps184
  go_wp2_with fail
  refine (HFO.out _).mono ?_
  rintro e w1 ⟨rfl,hf1⟩
  have b1:=HX.out.keep hf1
  have c0:w1.cell? ⟨w.heap.size,0,none⟩=some (.int .i64 3):=by rw [b1.cell];rfl
  have c1:w1.cell? ⟨w.heap.size,1,none⟩=some (.int .i64 dir):=by rw [b1.cell];rfl
  have c2:w1.cell? ⟨w.heap.size,2,none⟩=some (.int .i64 dst):=by rw [b1.cell];rfl
  have c3:w1.cell? ⟨w.heap.size,3,none⟩=some (.string name):=by rw [b1.cell];rfl
  have c4:w1.cell? ⟨w.heap.size,4,none⟩=some (.string nw):=by rw [b1.cell];rfl
  have c6:w1.cell? ⟨w.heap.size,6,none⟩=some (.int .i64 short):=by rw [b1.cell];rfl
  have HF1:Hid (Fresh w w1):=Lib.hid (((Fresh.refl w).alloc _).trans hf1)
  clear b1 hf1
  go_wp2_with fail
  refine (HLK.out _ HF1.out).mono ?_
  rintro e w2 (⟨r,h0,he,rfl,hf⟩ | ⟨x,l,l2,k,A',hok,rfl,ht,hm,hg⟩)
  · have HP:Hid (DoG (MvErr T dir name dst nw short) (MvOk T q dir name dst nw short) A t w (.returned (.tuple #[.int .i64 0,.int .i64 r])) w2):=Lib.hid (.inl ⟨r,h0,⟨h0,he⟩,rfl,(HF1.out.trans hf).mut A⟩)
    clear he hf h0
    go_wp2
    go_ret2
    exact HP.out
  · have HP:Hid (DoG (MvErr T dir name dst nw short) (MvOk T q dir name dst nw short) A t w (.returned (.tuple #[.int .i64 0,.int .i64 0])) w2):=Lib.hid (.inr ⟨0,_,_,A',⟨rfl,rfl,x,l,l2,k,hok,rfl⟩,rfl,ht,HF1.out.andMut hm,hg.ahead HF1.out.size⟩)
    clear hok ht hm hg
    go_wp2
    go_ret2
    exact HP.out
open Go.RowKit
def renR (enc:Int) (T:TreS) (a b:ByteArray):Int:=if (atR enc T a).2.2.2=0 then (freshR enc T b).2.2 else (atR enc T a).2.2.2
set_option maxRecDepth 100000 in
set_option maxHeartbeats 3200000 in
theorem frename_any (S:Int→Int→Nat→Nat→Nat→TreS→Nat→Prop) (F:Nat→Prop) (f:Nat) (enc:Int) (p:Nat) (m n:Int) (k t q:Nat) (T:TreS) (qt:Nat) (w:World) (h:FsAt w F f enc p m n k t q T qt) (hT:TOK enc T) (hGT:GT w) (path path2:ByteArray) (hp:path.size≤1000000) (hp2:path2.size≤1000000) (h0:0≤enc) (h8:enc≤8)
    (HS:(atR enc T path).2.2.2=0→(freshR enc T path2).2.2=0→∀ W Fs s,Fresh w W→StoAt W Fs s p m n k t q T qt→Calls Tryz.prog 127 #[.pointer (some ⟨s,0,none⟩),deedV 3 (atR enc T path).1 (freshR enc T path2).1 (atR enc T path).2.2.1.name (freshR enc T path2).2.1 false 0] W (SdoG S Fs s p m n W)) :
    Calls Tryz.prog 75 #[.pointer (some ⟨f,0,none⟩),.string path,.string path2] w (RemG S (renR enc T path path2) F f enc p m n w):=by
  have HO:=Lib.hid (fover_any F f enc p m n k t q T qt w h)
  have HTH:Hid (Calls Tryz.prog 71 #[.pointer (some ⟨f,0,none⟩),.string path] w (ThereF (atR enc T path) w)):=Lib.hid (by
    obtain ⟨s,tr,Fs,At,hb,hFf,hFs,hAt,hf1,hf2,hd,hs,ht,hF⟩:=h
    exact there_any enc At f s tr T qt hT w hb ht hGT path hp)
  have HFR:Hid (∀ W,Fresh w W→Calls Tryz.prog 69 #[.pointer (some ⟨f,0,none⟩),.string path2] W (ParF (freshR enc T path2) W)):=Lib.hid (fun W hW=>by
    obtain ⟨s,tr,Fs,At,hb,hFf,hFs,hAt,hf1,hf2,hd,hs,ht,hF⟩:=h.fresh hW
    exact fresh_any enc At f s tr T qt hT W hb ht (hGT.fresh hW) path2 hp2 h0 h8)
  have HDO:=Lib.hid (fun (hz:(atR enc T path).2.2.2=0) (hz2:(freshR enc T path2).2.2=0) W (hW:Fresh w W)=>fdo_any S 3 (atR enc T path).1 (freshR enc T path2).1 (atR enc T path).2.2.1.name (freshR enc T path2).2.1 false 0 F f enc p m n k t q T qt W (h.fresh hW) (fun W' Fs s hW' hs=>HS hz hz2 W' Fs s (hW.trans hW') hs))
  obtain ⟨r,hrr⟩:∃ r,atR enc T path=r:=⟨_,rfl⟩
  obtain ⟨r2,hrr2⟩:∃ r,freshR enc T path2=r:=⟨_,rfl⟩
  unfold renR
  rw [hrr] at HTH HDO ⊢
  rw [hrr2] at HFR HDO ⊢
  obtain ⟨d,nm,⟨yn,yd,yr,yc,ys⟩,j⟩:=r
  obtain ⟨d2,raw,j2⟩:=r2
  unfold ThereF at HTH
  unfold ParF at HFR
  simp only at HTH HDO HFR ⊢
  clear h HS hT hGT hrr hrr2
  by_cases hj:j=0
  · subst hj
    rw [if_pos rfl]
    have HX:=Lib.hid (fun w2=>Blk.new w2 88 #[.string yn,.int .i64 yd,.bool yr,.int .i64 yc,.int .i64 ys])
    by_cases hj2:j2=0
    · subst hj2
      have HDO2:=Lib.hid (HDO.out rfl rfl)
      clear HDO
      go_enter Tryz.func75,Tryz.ntmps75
      go_wp2_with fail
      refine HO.out.mono ?_
      rintro e w1 ⟨rfl,rfl⟩
      go_wp2_with fail
      refine HTH.out.mono ?_
      rintro e w2 ⟨rfl,hf2⟩
      have HF2:=Lib.hid (hf2.alloc (.cells #[.string yn,.int .i64 yd,.bool yr,.int .i64 yc,.int .i64 ys] 88))
      clear hf2
      go_wp2_with fail
      refine (HFR.out _ HF2.out).mono ?_
      rintro e w3 ⟨rfl,hf3⟩
      have c0:w3.cell? ⟨w2.heap.size,0,none⟩=some (.string yn):=((HX.out w2).keep hf3).cell 0
      have HF3:=Lib.hid (HF2.out.trans hf3)
      clear hf3
      go_wp2_with fail
      refine (HDO2.out _ HF3.out).mono ?_
      rintro e w4 ⟨a,b,k2,t2,q2,T2,qt2,F2,hS,rfl,hfs,hTB,hm,hg⟩
      have HFIN:Hid (RemG S 0 F f enc p m n w (.returned (.int .i64 b)) w4):=Lib.hid (.inr ⟨rfl,a,b,k2,t2,q2,T2,qt2,F2,hS,rfl,hfs,hTB,HF3.out.andMut hm,hg.ahead HF3.out.size⟩)
      clear hS hfs hTB hm hg
      go_wp2
      go_ret
      exact HFIN.out
    · have hjb:(j2 != 0)=true:=by simp [hj2]
      have HJ:=Lib.hid hj2
      clear hj2 HDO
      go_enter Tryz.func75,Tryz.ntmps75
      go_wp2_with fail
      refine HO.out.mono ?_
      rintro e w1 ⟨rfl,rfl⟩
      go_wp2_with fail
      refine HTH.out.mono ?_
      rintro e w2 ⟨rfl,hf2⟩
      have HF2:=Lib.hid (hf2.alloc (.cells #[.string yn,.int .i64 yd,.bool yr,.int .i64 yc,.int .i64 ys] 88))
      clear hf2
      go_wp2_with fail
      refine (HFR.out _ HF2.out).mono ?_
      rintro e w3 ⟨rfl,hf3⟩
      have HF3:=Lib.hid (HF2.out.trans hf3)
      clear hf3
      go_wp2
      go_ret
      exact .inl ⟨HJ.out,rfl,HF3.out⟩
  · have hjb:(j != 0)=true:=by simp [hj]
    have HJ:=Lib.hid hj
    rw [if_neg hj]
    clear hj HDO
    go_enter Tryz.func75,Tryz.ntmps75
    go_wp2_with fail
    refine HO.out.mono ?_
    rintro e w1 ⟨rfl,rfl⟩
    go_wp2_with fail
    refine HTH.out.mono ?_
    rintro e w2 ⟨rfl,hf2⟩
    have HF2:=Lib.hid (hf2.alloc (.cells #[.string yn,.int .i64 yd,.bool yr,.int .i64 yc,.int .i64 ys] 88))
    clear hf2
    go_wp2
    go_ret
    exact .inl ⟨HJ.out,rfl,HF2.out⟩
open Go.RowKit
theorem TR.rises {enc:Int} {L:List Item} {T:TreS} (h:TR enc L T):Rises T:=fun d l hl=>by
  obtain ⟨_,rfl⟩:=dirs_inL h hl
  unfold inL
  rw [List.pairwise_map]
  exact List.Pairwise.filter _ h.li.asc
theorem walk_dir {enc:Int} {L:List Item} {T:TreS} (h:TR enc L T):∀ {l:List ByteArray} {st st':Int × Bool},(st.2=true→dirL L st.1=true)→walkT enc T st l=.inl st'→st'.2=true→dirL L st'.1=true
  | [],st,st',h1,h2,h3=>by
    unfold walkT at h2
    injection h2 with h2
    subst h2
    exact h1 h3
  | x :: l,st,st',h1,h2,h3=>by
    unfold walkT at h2
    cases hs:stepT enc T st.1 x with
    | inr k=>rw [hs] at h2;cases h2
    | inl e =>
      rw [hs] at h2
      refine walk_dir h (fun q=>?_) h2 h3
      unfold stepT at hs
      split at hs
      · cases hs
      · rename_i l' hl'
        split at hs
        · cases hs
        · rename_i e' he'
          injection hs with hs
          subst hs
          obtain ⟨_,rfl⟩:=dirs_inL h hl'
          obtain ⟨X,hX,_,rfl⟩:=mem_inL.1 (List.mem_of_find?_eq_some he')
          exact dirL_iff.2 (.inr ⟨X,hX,rfl,q⟩)
theorem par_dir {enc:Int} {L:List Item} {T:TreS} (h:TR enc L T) {path:ByteArray} {r:Int × ByteArray} (hp:parT enc T path=.inl r):dirL L r.1=true:=by
  unfold parT at hp
  split at hp
  · cases hp
  · split at hp
    · cases hp
    · split at hp
      · cases hp
      · rename_i st hst
        split at hp
        · rename_i hb
          injection hp with hp
          subst hp
          exact walk_dir h (fun _=>dirL_iff.2 (.inl rfl)) hst hb
        · cases hp
theorem at_ok {enc:Int} {L:List Item} {T:TreS} (h:TR enc L T) {path:ByteArray} (h0:(atR enc T path).2.2.2=0):∃ X ∈ L,X.inn=(atR enc T path).1∧X.e=(atR enc T path).2.2.1:=by
  unfold atR at h0 ⊢
  cases hp:parT enc T path with
  | inr k=>rw [hp] at h0;exact absurd h0 (parT_ne hp)
  | inl r =>
    rw [hp] at h0
    simp only at h0 ⊢
    have hd:=par_dir h hp
    have hT:T.dirs r.1=some (inL L r.1):=by rw [h.dirs];unfold dirsL;rw [if_pos hd]
    rw [hT] at h0 ⊢
    simp only [Option.getD_some] at h0 ⊢
    cases hf:(inL L r.1).find? (faceB enc r.2) with
    | none=>rw [hf] at h0;simp at h0
    | some e =>
      simp only
      obtain ⟨X,hX,hi,he⟩:=mem_inL.1 (List.mem_of_find?_eq_some hf)
      exact ⟨X,hX,hi,he⟩
theorem fresh_ok {enc:Int} {L:List Item} {T:TreS} (h:TR enc L T) {path:ByteArray} (h0:(freshR enc T path).2.2=0):dirL L (freshR enc T path).1=true∧GoodN (freshR enc T path).2.1∧(presS enc (freshR enc T path).2.1).size≤255:=by
  unfold freshR at h0 ⊢
  split at h0
  · simp at h0
  · rename_i n1
    rw [if_neg n1]
    split at h0
    · exact absurd h0 n1
    · rename_i n2
      rw [if_neg n2]
      simp only at h0 ⊢
      have hd:dirL L (atR enc T path).1=true:=by
        unfold atR at n2 ⊢
        cases hp:parT enc T path with
        | inr k=>rw [hp] at n2;exact absurd (.inr rfl) n2
        | inl r =>
          have hd:=par_dir h hp
          simp only
          split <;> exact hd
      refine ⟨hd,?_⟩
      unfold rawF at h0 ⊢
      split at h0
      · simp at h0
      · rename_i hl
        rw [if_neg hl]
        obtain ⟨g1,g2⟩:=restF_ok h0
        exact ⟨g1,by rw [g2];omega⟩
theorem TR.acc {enc:Int} {L:List Item} {T:TreS} (h:TR enc L T):∀ d,Acc (childT T) d:=by
  intro d
  induction h.li.wf d with
  | intro p _ ih =>
    refine Acc.intro p fun c hc=>?_
    obtain ⟨l,hl,e,he,rfl⟩:=hc
    obtain ⟨_,rfl⟩:=dirs_inL h hl
    obtain ⟨X,hX,hi,rfl⟩:=mem_inL.1 he
    cases hd:X.e.dir with
    | true=>exact ih _ ⟨X,hX,hi,hd,rfl⟩
    | false =>
      refine Acc.intro _ fun y hy=>?_
      obtain ⟨l2,hl2,_⟩:=hy
      have:=(dirs_inL h hl2).1
      rw [h.li.file_dir hX hd] at this
      cases this
theorem under_reach {enc:Int} {L:List Item} {T:TreS} (h:TR enc L T) {a b:Int} (hu:Under L a b):∀ {n:Int},Reach T n b→Reach T n a:=by
  induction hu with
  | refl=>exact fun q=>q
  | step _ hc ih =>
    intro n q
    obtain ⟨X,hX,hi,_,rfl⟩:=hc
    refine ih (.down ⟨_,?_,X.e,mem_inL.2 ⟨X,hX,rfl,rfl⟩,rfl⟩ q)
    rw [← hi,h.dirs];unfold dirsL;rw [if_pos (h.li.home X hX)]
theorem TR.nodes {enc:Int} {L:List Item} {T:TreS} (h:TR enc L T):∀ i l,T.dirs i=some l→∀ e ∈ l,I64 e.node:=fun i l hl e he=>by
  obtain ⟨_,rfl⟩:=dirs_inL h hl
  obtain ⟨X,hX,_,rfl⟩:=mem_inL.1 he
  have:=h.li.node X hX
  exact ⟨by omega,by omega⟩
theorem TR.mvOk {enc:Int} {L:List Item} {T:TreS} (h:TR enc L T) {d dst:Int} {x:Item} (hx:x ∈ L) (hi:x.inn=d) {nw:ByteArray} (hf:(presS enc nw).size≤255) {qt qt2:Nat} {a:Int} {T2:TreS} (ho:MvOk T qt d x.e.name dst nw 0 a T2 qt2):TR enc (outOf L x.e.node++[⟨dst,⟨nw,x.e.node,x.e.dir,T.next,0⟩⟩]) T2∧T2.next=T.next+1∧T2.bk=T.bk:=by
  obtain ⟨_,_,y,l,l2,k,⟨hfy,hdl,hfi,hdl2,hg,_,_,hr,hn⟩,rfl⟩:=ho
  rw [findT_inL h hx hi] at hfy
  injection hfy with hfy
  subst hfy
  obtain ⟨l',k',hdl',hfi',hk',hl'⟩:=findT_at (findT_inL h hx hi)
  rw [hdl] at hdl'
  injection hdl' with e1
  subst e1
  have e2:k=k':=by omega
  subst e2
  have hl:=(dirs_inL h hdl).2
  subst hl
  obtain ⟨hd2,hl2⟩:=dirs_inL h hdl2
  subst hl2
  have hcn:=h.li.cook x hx
  refine ⟨h.move ⟨hx,hi,hk',hl'⟩ hd2 (fun hu=>?_) hg ⟨by omega,by omega⟩ ⟨fun _=>hf,fun _=>rfl⟩ (fun e he hne=>?_) (fun e he h0 hs=>absurd hs h0),rfl,rfl⟩
  · have:=reachB_iff.2 (under_reach h hu .here)
    rw [hr] at this;cases this
  · have:=fidx_neg hn e he
    rw [nameB_iff.2 hne] at this;cases this
open Go.RowKit
def t1 (T:TreS) (raw:ByteArray):TreS:=linkT T 0 raw false 0 1 1 []
def e1 (raw:ByteArray):Ent:=⟨raw,1,false,1,0⟩
theorem FsAt.raw {F:Nat→Prop} {w:World} {f:Nat} {enc:Int} {p:Nat} {m n:Int} {k t q:Nat} {T:TreS} {qt:Nat} (h:FsAt w F f enc p m n k t q T qt) (hT:TOK enc T) (hGT:GT w) (path:ByteArray) (hp:path.size≤1000000) :
    Calls Tryz.prog 30 #[.pointer (some ⟨f,0,none⟩),.string path] w fun e w'=>e=.returned (.tuple #[.string (atR enc T path).2.2.1.name,.int .i64 (atR enc T path).2.2.2])∧Fresh w w':=by
  obtain ⟨s,tr,Fs,At,hb,hFf,hFs,hAt,hf1,hf2,hd,hs,ht,hF⟩:=h
  exact fraw2_any enc At f s tr T qt hT w hb ht hGT path hp
theorem FsAt.list {F:Nat→Prop} {w:World} {f:Nat} {enc:Int} {p:Nat} {m n:Int} {k t q:Nat} {T:TreS} {qt:Nat} (h:FsAt w F f enc p m n k t q T qt) (hT:TOK enc T) (hR:Rises T) (hGT:GT w) (path:ByteArray) (hp:path.size≤1000000) (cur c:Int) :
    Calls Tryz.prog 31 #[.pointer (some ⟨f,0,none⟩),.string path,.int .i64 cur,.int .i64 c] w (FsListF (flistR enc T path cur c) w):=by
  obtain ⟨s,tr,Fs,At,hb,hFf,hFs,hAt,hf1,hf2,hd,hs,ht,hF⟩:=h
  exact fslist_any enc At f s tr T qt hT hR w hb ht hGT path hp cur c
end Go.Proofs.YtpmlggjhfiljmaaGreatDoor
