/- Part 13 of what the law rests on. -/
import Derived.Laws.OwnMore
import Derived.Test.YtpmlggjhfiljmaaGreatDoorS07
import Derived.Test.YtpmlggjhfiljmaaGreatDoorS12
set_option linter.all false
namespace Go.Proofs.YtpmlggjhfiljmaaGreatDoor
open Go.RowKit
def Stands (s:ByteArray) (p:Nat) (l:List Int):Prop:=p+l.length≤s.size∧∀ i,i<l.length→B s (p+i)=l.getD i 0
theorem strOfNums_size (l:List Int):(strOfNums l).size=l.length:=by simp [strOfNums,ByteArray.size]
theorem B_strOfNums {l:List Int} (h:∀ x ∈ l,0≤x∧x<256) {i:Nat} (hi:i<l.length):B (strOfNums l) i=l.getD i 0:=by
  have:=getD_bytesOf l h i hi
  unfold B strOfNums
  simpa [bytesOf] using this
theorem stands_eq {s:ByteArray} {p:Nat} {l:List Int} (hl:∀ x ∈ l,0≤x∧x<256) (h:Stands s p l):strOfNums l=s.extract p (p+l.length):=by
  apply ByteArray.ext
  apply Array.toList_inj.1
  have e1:(s.extract p (p+l.length)).data.toList.length=l.length:=by
    have:=h.1
    simp
    omega
  apply List.ext_getElem
  · rw [e1];simp [strOfNums]
  · intro i h1 h2
    have hi:i<l.length:=by omega
    have g1:=getD_bytesOf l hl i hi
    have g2:=h.2 i hi
    have g3:=B_extract s p (p+l.length) i h.1 (by omega)
    rw [← g2,← g3] at g1
    have h1':i<(bytesOf l).length:=by simpa [bytesOf] using hi
    rw [List.getD_eq_getElem?_getD,List.getD_eq_getElem?_getD,List.getElem?_eq_getElem h1',List.getElem?_eq_getElem h2] at g1
    apply UInt8.toNat_inj.1
    have e2:((strOfNums l).data.toList[i]'h1).toNat=((bytesOf l)[i]'h1').toNat:=by simp [strOfNums,bytesOf]
    exact e2.trans (by have:=Int.ofNat.inj (by simpa using g1);simpa using this)
theorem nextC_utf {enc:Int} {s:ByteArray} {p:Nat} (h7:7≤enc) (h8:enc≤8) (hp:p<s.size):nextC enc s p=if 0<(nxt s p).2 then nxt s p else (-1,1):=by
  unfold nextC;rw [if_pos (by omega),if_pos h7];rfl
theorem nextC_one {enc:Int} {s:ByteArray} {p:Nat} (h0:0≤enc) (h5:enc≤5) (hp:p<s.size):nextC enc s p=(oneI enc (B s p),1):=by
  unfold nextC;rw [if_pos (by omega),if_neg (by omega),if_neg (by omega)];rfl
theorem nextC_six {s:ByteArray} {p:Nat} (hp:p<s.size):nextC 6 s p=if p+1<s.size∧0≤twoI (B s p) (B s (p+1)) then (twoI (B s p) (B s (p+1)),2) else (oneI 6 (B s p),1):=by
  obtain ⟨b0,b1⟩:=B_range s p
  unfold nextC
  rw [if_pos (by omega),if_neg (by omega),if_pos rfl]
  simp only [Int.toNat_natCast]
  rw [kanaP_ref _ _ _ b0 b1]
  by_cases h:p+1<s.size
  · simp [h]
  · simp [h]
theorem encC_bytes {enc r:Int} {l:List Int} (h:encC enc r=some l):(∀ x ∈ l,0≤x∧x<256)∧1≤l.length∧l.length≤4:=by
  unfold encC at h
  by_cases hc:isC r=true
  · rw [if_pos hc] at h
    by_cases h7:7≤enc
    · rw [if_pos h7,Option.some.injEq] at h
      subst h
      have:=encI_len r
      exact ⟨encI_range hc,by rcases szI_cases r with h | h | h | h <;> omega,by rcases szI_cases r with h | h | h | h <;> omega⟩
    rw [if_neg h7] at h
    cases hf:firstB enc r with
    | some b =>
      rw [hf] at h
      have:=firstB_sound hf
      simp only [Option.some.injEq] at h
      subst h
      exact ⟨fun x hx=>by simp at hx;omega,by simp,by simp⟩
    | none =>
      rw [hf] at h
      simp only at h
      by_cases h6:enc=6
      · rw [if_pos h6,Option.map_eq_some_iff] at h
        obtain ⟨⟨a,b⟩,hp,rfl⟩:=h
        have:=pair_two hp
        exact ⟨fun x hx=>by simp at hx;omega,by simp,by simp⟩
      · rw [if_neg h6] at h;cases h
  · rw [if_neg hc] at h;cases h
theorem one_char_dec:(List.range 7).all (fun e=>(List.range 256).all fun b=>decide (oneI (e:Int) (b:Int)=-1) || isC (oneI (e:Int) (b:Int)))=true:=by decide +kernel
theorem one_char {enc b:Int} (h0:0≤enc) (h6:enc≤6) (hb:0≤b) (hb2:b<256):oneI enc b=-1∨isC (oneI enc b)=true:=by
  have h:=one_char_dec
  rw [List.all_eq_true] at h
  have h:=h enc.toNat (List.mem_range.2 (by omega))
  rw [List.all_eq_true] at h
  have h:=h b.toNat (List.mem_range.2 (by omega))
  rw [Int.toNat_of_nonneg h0,Int.toNat_of_nonneg hb] at h
  simpa using h
def chk:List Int→Nat→Bool
  | [],_=>true
  | x :: l,m=>if x<0 then chk l m else !m.testBit x.toNat && chk l (m ||| (1 <<< x.toNat))
theorem chk_law:∀ (l:List Int) (m:Nat),chk l m=true→(∀ x ∈ l,0≤x→m.testBit x.toNat=false)∧l.Pairwise (fun a b=>a=b→a<0)
  | [],_,_=>⟨fun _ h=>by simp at h,List.Pairwise.nil⟩
  | x :: l,m,h=>by
    unfold chk at h
    by_cases hx:x<0
    · rw [if_pos hx] at h
      have ⟨i1,i2⟩:=chk_law l m h
      exact ⟨fun y hy h0=>by rcases List.mem_cons.1 hy with rfl | hy;omega;exact i1 y hy h0,List.Pairwise.cons (fun y hy e=>hx) i2⟩
    · rw [if_neg hx,Bool.and_eq_true] at h
      have ⟨i1,i2⟩:=chk_law l _ h.2
      refine ⟨fun y hy h0=>?_,List.Pairwise.cons (fun y hy e=>?_) i2⟩
      · rcases List.mem_cons.1 hy with rfl | hy
        · simpa using h.1
        · have:=i1 y hy h0
          rw [Nat.testBit_or,Bool.or_eq_false_iff] at this
          exact this.1
      · subst e
        have:=i1 x hy (by omega)
        rw [Nat.testBit_or,Bool.or_eq_false_iff] at this
        have h2:=this.2
        rw [Nat.testBit_shiftLeft] at h2
        simp at h2
theorem one_once_dec:(List.range 7).all (fun e=>chk ((List.range 256).map fun b:Nat=>oneI (e:Int) (b:Int)) 0)=true:=by decide +kernel
theorem one_once {enc:Int} {b c:Nat} (h0:0≤enc) (h6:enc≤6) (hbc:b<c) (hc:c<256) (e:oneI enc (b:Int)=oneI enc (c:Int)):oneI enc (b:Int)<0:=by
  have h:=one_once_dec
  rw [List.all_eq_true] at h
  have h:=(chk_law _ _ (h enc.toNat (List.mem_range.2 (by omega)))).2
  rw [Int.toNat_of_nonneg h0,List.pairwise_iff_getElem] at h
  have:=h b c (by simp;omega) (by simpa using hc) hbc
  simp at this
  exact this e
theorem first_one {enc b:Int} (h0:0≤enc) (h6:enc≤6) (hb:0≤b) (hb2:b<256) (h:0≤oneI enc b):firstB enc (oneI enc b)=some b:=by
  obtain ⟨n,rfl⟩:=Int.eq_ofNat_of_zero_le hb
  exact firstB_of (by omega) rfl fun j hj e=>by
    have:=one_once h0 h6 hj (by omega) e
    omega
theorem next_back {enc:Int} {s:ByteArray} {p:Nat} (h0:0≤enc) (h8:enc≤8) (hp:p<s.size) :
    (∃ r l,nextC enc s p=(r,(l.length:Int))∧0≤r∧encC enc r=some l∧Stands s p l)∨(nextC enc s p=(-1,1)∧encC enc (-1)=none):=by
  have hm:encC enc (-1)=none:=by unfold encC;rw [if_neg (by decide)]
  have hone:∀ b,b=B s p→enc≤6→nextC enc s p=(oneI enc b,1)→(∃ r l,nextC enc s p=(r,(l.length:Int))∧0≤r∧encC enc r=some l∧Stands s p l)∨(nextC enc s p=(-1,1)∧encC enc (-1)=none):=by
    intro b hb h6 hn
    obtain ⟨b0,b1⟩:=B_range s p
    rcases one_char (enc:=enc) (b:=b) h0 h6 (by omega) (by omega) with h | h
    · right;rw [hn,h];exact ⟨rfl,hm⟩
    · left
      have hr:=isC_true h
      refine ⟨oneI enc b,[b],hn,hr.1,encC_first h h6 (first_one h0 h6 (by omega) (by omega) hr.1),by simp;omega,fun i hi=>?_⟩
      have:i=0:=by simpa using hi
      subst this
      simp [hb]
  by_cases h7:7≤enc
  · by_cases hz:(nxt s p).2=0
    · right
      rw [nextC_utf h7 h8 hp,if_neg (by omega)]
      exact ⟨rfl,hm⟩
    · left
      have hq:=nxt_pos hp hz
      obtain ⟨hc,h2,h3⟩:=nxt_sound hp hz
      refine ⟨(nxt s p).1,encI (nxt s p).1,?_,(isC_true hc).1,?_,h3⟩
      · rw [nextC_utf h7 h8 hp,if_pos (by omega),encI_len,← h2]
      · unfold encC;rw [if_pos hc,if_pos h7]
  by_cases h6:enc=6
  · subst h6
    have e:=nextC_six hp
    by_cases ht:p+1<s.size∧0≤twoI (B s p) (B s (p+1))
    · rw [if_pos ht] at e
      left
      have hpr:=two_pair rfl ht.2
      have hpt:=pair_two hpr
      have hc:isC (twoI (B s p) (B s (p+1)))=true:=by
        rcases two_cases (B s p) (B s (p+1)) with ⟨x,hx,hh,h2⟩ | ⟨_,h2⟩
        · rw [h2]
          have h3:=List.all_eq_true.1 (show (RT.all fun x=>decide (x.2.2.2+(x.2.2.1 - x.2.1)<55296∨57343<x.2.2.2))=true by decide +kernel) x hx
          have h3:=of_decide_eq_true h3
          have h4:=(RT_of hx).1
          unfold hitB at hh
          exact isC_of (by omega)
        · omega
      refine ⟨_,[B s p,B s (p+1)],e,ht.2,?_,by simp;omega,fun i hi=>?_⟩
      · rw [encC_kana hc]
        unfold encK
        rw [if_neg (by omega),if_neg (by omega),hpr]
        rfl
      · have:i=0∨i=1:=by simp at hi;omega
        rcases this with rfl | rfl <;> simp
    · rw [if_neg ht] at e
      exact hone _ rfl (by omega) e
  · exact hone _ rfl (by omega) (nextC_one h0 (by omega) hp)
open Go.RowKit
def pc (x:Int × Int):List Value:=[.int .i32 x.1,.int .i64 x.2]
def pcs (xs:List (Int × Int)):List Value:=xs.flatMap pc
theorem pcs_get:∀ (xs:List (Int × Int)) (k:Nat) (hk:k<xs.length) (j:Nat),j<2→(pcs xs)[k * 2+j]?=(pc xs[k])[j]?
  | [],k,hk,_,_=>by simp at hk
  | x :: l,0,_,j,hj=>by
    unfold pcs
    rw [List.flatMap_cons,List.getElem?_append_left (by simp [pc];omega)]
    simp
  | x :: l,k+1,hk,j,hj=>by
    have ih:=pcs_get l k (by simpa using hk) j hj
    unfold pcs at *
    rw [List.flatMap_cons,List.getElem?_append_right (by simp [pc];omega)]
    have:(k+1) * 2+j - (pc x).length=k * 2+j:=by simp [pc];omega
    rw [this,ih]
    simp
def OwnP (w:World) (B:Nat) (v:Value) (xs:List (Int × Int)):Prop:=w.ownsRow B 119 2 v xs.length (pcs xs)
theorem OwnP.nil (w:World) (B:Nat):OwnP w B (.slice none 0 0) []:=World.ownsRow_nil _ _ _ _
theorem OwnP.keep {w w':World} {B:Nat} {v:Value} {xs:List (Int × Int)} (h:OwnP w B v xs) (hf:Fresh w w'):OwnP w' B v xs:=by
  refine World.ownsRow.kept (row:=none) h ⟨hf.os,hf.tape,hf.output,hf.size,fun k hk _=>hf.block k hk⟩ ?_
  cases hv:v.ownBlock with
  | none=>exact .inl rfl
  | some k=>exact .inr (by simp)
theorem OwnP.push {w':World} {B:Nat} {v':Value} {acc:List (Int × Int)} {x:Int × Int} (h:w'.ownsRow B 119 2 v' (acc.length+1) (pcs acc++[.int .i32 x.1,.int .i64 x.2])):OwnP w' B v' (acc++[x]):=by
  unfold OwnP
  have:pcs (acc++[x])=pcs acc++[.int .i32 x.1,.int .i64 x.2]:=by unfold pcs;rw [List.flatMap_append];simp [pc]
  rw [this]
  simpa using h
theorem OwnP.fresh {w w1 w':World} {v:Value} {o:Obj} {e:TypeId} {n:Nat} {xs:List Value} (hf:Fresh w w1) (ho:w1.ownsRow w.heap.size e 2 v n xs) (hg:(w1.alloc o).grownBy w' v.ownBlock):Fresh w w' :=
  Below.grown (hf.alloc o) hg (by have:=hf.size;simp;omega) (fun k hk=>(ho.lt k hk).1)
theorem cell_new2 (w:World) (u v:Value) (t:TypeId):∀ (j:Nat) (x:Value),[u,v][j]?=some x→(w.alloc (.cells #[u,v] t)).cell? ((⟨w.heap.size,0,none⟩:Addr).add j)=some x:=by
  intro j x hj
  match j,hj with
  | 0,hj=>simp at hj;subst hj;simp [Addr.add]
  | 1,hj=>simp at hj;subst hj;simp [Addr.add]
theorem infoP:(Tryz.prog.info? 119).map (fun i=>(i.zero,i.size,i.bytes))=some (some (.agg #[.int .i32 0,.int .i64 0]),2,16):=by kernel_rfl
theorem info_partsP {i:Option TypeInfo} {z:Value} {s b:Nat} (h:i.map (fun i=>(i.zero,i.size,i.bytes))=some (some z,s,b)):∃ i0,i=some i0∧i0.zero=some z∧i0.size=s∧i0.bytes=b:=by
  cases i with
  | none=>cases h
  | some i0=>simp at h;exact ⟨i0,rfl,h.1,h.2.1,h.2.2⟩
def Chain (enc:Int) (s:ByteArray):Nat→List (Int × Int)→Nat→Prop
  | p,[],q=>p=q
  | p,x :: l,q=>p<s.size∧nextC enc s p=x∧Chain enc s (p+x.2.toNat) l q
theorem Chain.push {enc:Int} {s:ByteArray}:∀ {xs:List (Int × Int)} {p q:Nat},Chain enc s p xs q→q<s.size→Chain enc s p (xs++[nextC enc s q]) (q+(nextC enc s q).2.toNat)
  | [],p,q,h,hq=>by
    have h:p=q:=h
    subst h
    exact ⟨hq,rfl,rfl⟩
  | x :: l,p,q,h,hq=>⟨h.1,h.2.1,Chain.push h.2.2 hq⟩
theorem next_step {enc:Int} {s:ByteArray} {p:Nat} (h0:0≤enc) (h8:enc≤8) (hp:p<s.size):1≤(nextC enc s p).2∧(nextC enc s p).2≤4∧(p:Int)+(nextC enc s p).2≤s.size:=by
  rcases next_back h0 h8 hp with ⟨r,l,e,_,hl,hs⟩ | ⟨e,_⟩
  · have:=encC_bytes hl
    have h2:=hs.1
    rw [e];simp only;omega
  · rw [e];simp only;omega
def PcsRel (enc:Int) (s:ByteArray) (w:World) (out at_:Value) (wr:World):Prop :=
  ∃ (p:Nat) (acc:List (Int × Int)),at_=.int .i64 p∧p≤s.size∧acc.length≤p∧OwnP wr w.heap.size out acc∧Fresh w wr∧Chain enc s 0 acc p
def PcsPost (enc:Int) (s:ByteArray) (w:World) (e:Ending) (w':World):Prop :=
  ∃ v xs,e=.returned v∧OwnP w' w.heap.size v xs∧Chain enc s 0 xs s.size∧xs.length≤s.size∧Fresh w w'
set_option maxHeartbeats 1600000 in
theorem pieces_any (enc:Int) (s:ByteArray) (h0:0≤enc) (h8:enc≤8) (hs:s.size≤1000000) (w:World):Calls Tryz.prog 108 #[.int .i64 enc,.string s] w (PcsPost enc s w):=by
  obtain ⟨i0,hi0,hz0,hz1,hz2⟩:=info_partsP infoP
  have HR:Hid (rightB enc=true):=by unfold rightB;exact decide_eq_true ⟨h0,h8⟩
  go_enter Tryz.func108,Tryz.ntmps108
  go_wp2
  go_loopw [5,6] (fun out at_ wr=>PcsRel enc s w out at_ wr) (fun _ at_ _=>s.size - (intOf at_).toNat)
  case atStart=>exact ⟨0,[],rfl,Nat.zero_le _,Nat.le_refl _,OwnP.nil _ _,Fresh.refl _,rfl⟩
  case round =>
    obtain ⟨p,acc,rfl,hp,hl,hown,hf,hch⟩:=hrel
    have HA:=Lib.hid hch
    clear hch
    by_cases hlt:p<s.size
    · have HC:=Lib.hid (HA.out.push hlt)
      obtain ⟨n1,n4,n2⟩:=next_step h0 h8 hlt
      have HN:=Lib.hid (chNext_any enc s p (by omega))
      generalize nextC enc s p=x at HC n1 n2 n4 HN
      obtain ⟨r,n⟩:=x
      simp only at n1 n2 n4
      go_wp2_with ((go_at_call 112;refine (right_any _ _).mono ?_;rintro e w1 ⟨rfl,rfl⟩;rw [HR.out]))
      refine (HN.out _).mono ?_
      rintro e w1 ⟨rfl,h1⟩
      have hown1:=hown.keep (h1.alloc (.cells #[.int .i32 r,.int .i64 n] 119))
      unfold OwnP at hown1
      have hf1:=(hf.trans h1).alloc (.cells #[.int .i32 r,.int .i64 n] 119)
      go_wp2_with (at_builtin;refine wpList_append_own _ rfl _ _ 177 rfl w.heap.size 119 i0 (.agg #[.int .i32 0,.int .i64 0]) 2 16 Tryz.underlying177 hi0 hz0 hz1 hz2 rfl (by decide) _ _ _ rfl (hown1.alloc _) ⟨w1.heap.size+1,0,none⟩ 1 1 [.int .i32 r,.int .i64 n] rfl rfl ?c1 ?c2 ?c3 ?c4 ?c5 ?_)
      case c1 =>
        have:=cell_new2 (w1.alloc (.cells #[.int .i32 r,.int .i64 n] 119)) (.int .i32 r) (.int .i64 n) 119
        simpa using this
      case c2=>intro u hu;simp at hu;rcases hu with rfl | rfl <;> rfl
      case c3=>unfold maxLen;omega
      case c4=>omega
      case c5=>have:=hf1.size;simp at this ⊢;omega
      intro v' w' hown' hgrow _
      have hb:Blk w' w1.heap.size 119 #[.int .i32 r,.int .i64 n]:=by
        have hb0:=Blk.new w1 119 #[.int .i32 r,.int .i64 n]
        have hb1:=hb0.keep ((Fresh.refl _).alloc (.cells #[.int .i32 r,.int .i64 n] 119))
        refine (hgrow.block _ (by simp;omega) ?_).trans hb1
        intro e
        have:=((hown.keep h1).lt _ e.symm).2
        omega
      obtain ⟨c0,c1,_,_,l⟩:=piece_facts hb (Fresh.refl _)
      have hn':=OwnP.push (x:=(r,n)) hown'
      have hf':=OwnP.fresh hf1 hown1 hgrow
      clear hown' hgrow hown1 hown hb
      go_wp2
      go_roundw
      case rel=>exact ⟨p+n.toNat,acc++[(r,n)],by rw [Int.natCast_add,Int.toNat_of_nonneg (by omega)],by omega,by simp;omega,hn',hf',HC.out⟩
      case measure=>simp [intOf];omega
    · have hps:p=s.size:=by omega
      go_wp2
      go_ret
      exact ⟨_,_,rfl,hown,by rw [← hps];exact HA.out,by omega,hf⟩
theorem OwnP.sl {w:World} {B:Nat} {v:Value} {xs:List (Int × Int)} (h:OwnP w B v xs) :
    (xs=[]∧∃ a cap,v=.slice a 0 cap)∨(0<xs.length∧∃ g cap,v=.slice (some ⟨g,0,none⟩) xs.length cap∧g<w.heap.size ∧
      ∀ j (hj:j<xs.length),w.cell? ⟨g,j * 2,none⟩=some (.int .i32 (xs[j]).1)∧w.cell? ⟨g,j * 2+1,none⟩=some (.int .i64 (xs[j]).2)):=by
  have h0:=h
  obtain ⟨h1,h2 | ⟨g,cap,cur,hv,hb,hh,h3⟩⟩:=h
  · obtain ⟨hv,hn⟩:=h2
    have:xs=[]:=List.eq_nil_of_length_eq_zero hn
    subst this
    exact .inl ⟨rfl,none,0,hv⟩
  · by_cases hz:0<xs.length
    · refine .inr ⟨hz,g,cap,hv,?_,fun j hj=>?_⟩
      · rcases Nat.lt_or_ge g w.heap.size with q | q
        · exact q
        · rw [Array.getElem?_eq_none q] at hh;cases hh
      · subst hv
        have e0:=World.ownsRow.cellAt h0 (j * 2) (by omega)
        have e1:=World.ownsRow.cellAt h0 (j * 2+1) (by omega)
        have g0:=pcs_get xs j hj 0 (by omega)
        have g1:=pcs_get xs j hj 1 (by omega)
        rw [show j * 2+0=j * 2 by omega] at g0
        rw [e0,g0,e1,g1]
        exact ⟨rfl,rfl⟩
    · have:xs=[]:=List.eq_nil_of_length_eq_zero (by omega)
      subst this
      exact .inl ⟨rfl,_,cap,hv⟩
theorem Chain.more {enc:Int} {s:ByteArray} {xs:List (Int × Int)} {p k:Nat} (h:Chain enc s p (xs.drop k) s.size) (hk:k<xs.length):p<s.size∧nextC enc s p=xs[k]∧Chain enc s (p+(xs[k]).2.toNat) (xs.drop (k+1)) s.size:=by
  rw [List.drop_eq_getElem_cons hk] at h
  exact h
theorem Chain.done {enc:Int} {s:ByteArray} {xs:List (Int × Int)} {p k:Nat} (h:Chain enc s p (xs.drop k) s.size) (hk:¬ k<xs.length):p=s.size:=by
  rw [List.drop_eq_nil_of_le (by omega)] at h
  exact h
abbrev TS:=List Int × Option Int × List Int
def tO:TS→List Int
  | (P,none,Q)=>P++Q
  | (P,some c,Q)=>P++c :: Q
def tB:TS→Int
  | (_,none,_)=>-1
  | (P,some _,_)=>(P.length:Nat)
def mkO (c:Int) (Q:List Int) (r:Int):Option Int:=if Q=[]∨clsI (Q.getLastD 0)<clsI r then pairI c r else none
def tpush (P:List Int) (c:Option Int) (Q:List Int) (r:Int):TS:=if clsI r=0 then (tO (P,c,Q),some r,[]) else (P,c,Q++[r])
def tstep:TS→Int→TS
  | (P,none,Q),r=>tpush P none Q r
  | (P,some c,Q),r=>match mkO c Q r with
    | some x=>(P,some x,Q)
    | none=>tpush P (some c) Q r
def trun (l:List Int):TS:=l.foldl tstep ([],none,[])
def tog (l:List Int):List Int:=tO (trun l)
theorem trun_snoc (l:List Int) (r:Int):trun (l++[r])=tstep (trun l) r:=by unfold trun;rw [List.foldl_append];rfl
theorem tO_push (P:List Int) (c:Option Int) (Q:List Int) (r:Int):tO (tpush P c Q r)=tO (P,c,Q)++[r]:=by
  unfold tpush
  split
  · simp [tO]
  · cases c <;> simp [tO]
theorem tO_step_len (s:TS) (r:Int):(tO (tstep s r)).length≤(tO s).length+1:=by
  obtain ⟨P,c,Q⟩:=s
  cases c with
  | none=>show (tO (tpush P none Q r)).length≤_;rw [tO_push];simp
  | some c =>
    unfold tstep
    simp only
    split
    · simp [tO]
    · rw [tO_push];simp
theorem trun_len (l:List Int):(tO (trun l)).length≤l.length:=by
  have key:∀ (m:List Int) (s:TS),(tO (m.foldl tstep s)).length≤(tO s).length+m.length:=by
    intro m
    induction m with
    | nil=>intro s;simp
    | cons x m ih=>intro s;have:=ih (tstep s x);have:=tO_step_len s x;simp only [List.foldl_cons,List.length_cons];omega
  have:=key l ([],none,[])
  simpa [trun,tO] using this
/-! ### facts of pairs -/
/-! ### put together twice -/
/-! ### put together,and taken apart -/
/-! ### what is in it -/
theorem tog_mem {p:Int→Prop} (hp:∀ c r x,pairI c r=some x→p x) {l:List Int} (hl:∀ x ∈ l,p x):∀ x ∈ tO (trun l),p x:=by
  have key:∀ (m:List Int) (s:TS),(∀ x ∈ m,p x)→(∀ x ∈ tO s,p x)→∀ x ∈ tO (m.foldl tstep s),p x:=by
    intro m
    induction m with
    | nil=>intro s _ h;exact h
    | cons r m ih =>
      intro s hm h
      refine ih (tstep s r) (fun x hx=>hm x (by simp [hx])) ?_
      have hr:=hm r (by simp)
      obtain ⟨P,c,Q⟩:=s
      have hpush:∀ x ∈ tO (tpush P c Q r),p x:=by
        rw [tO_push]
        intro x hx
        rcases List.mem_append.1 hx with hx | hx
        · exact h x hx
        · simp at hx;rw [hx];exact hr
      cases c with
      | none=>exact hpush
      | some c =>
        cases hm2:mkO c Q r with
        | none =>
          have e2:tstep (P,some c,Q) r=tpush P (some c) Q r:=by unfold tstep;simp only [hm2]
          rw [e2];exact hpush
        | some x =>
          have e2:tstep (P,some c,Q) r=(P,some x,Q):=by unfold tstep;simp only [hm2]
          rw [e2]
          have hp2:pairI c r=some x:=by
            unfold mkO at hm2
            split at hm2
            · exact hm2
            · cases hm2
          intro y hy
          have hy:y ∈ P++x :: Q:=hy
          rcases List.mem_append.1 hy with hy | hy
          · exact h y (by show y ∈ P++c :: Q;simp [hy])
          · rcases List.mem_cons.1 hy with e | hy
            · rw [e];exact hp _ _ _ hp2
            · exact h y (by show y ∈ P++c :: Q;simp [hy])
  exact key l ([],none,[]) hl (fun x hx=>by simp [tO] at hx)
abbrev Part:=Int × ByteArray × Bool
def bl (b:ByteArray):List Int:=b.data.toList.map fun x=>(x.toNat:Int)
def hexI (d:Int):Int:=if d<10 then 48+d else 87+d
def digitI (c:Int):Int:=if 48≤c∧c≤57 then c - 48 else if 97≤c∧c≤102 then c - 87 else -1
def escI (c:Int):List Int:=[37,hexI (c / 16),hexI (c % 16)]
def esc (b:ByteArray):List Int:=(bl b).flatMap escI
def reservedL:List Int:=[34,37,42,47,58,60,62,63,92,124]
def resB (r:Int):Bool:=(decide (0≤r) && decide (r<32)) || decide (r=127) || reservedL.contains r
def hidB (p:Part):Bool:=decide (p.1<0) || resB p.1 || (p.2.2 && (decide (p.1=46) || decide (p.1=32)))
def strB (p:Part):Bool:=hidB p || decide (128≤p.1)
def prL (J:List Int→List Int) (hid:Part→Bool) (mk:Bool):List Part→List Int→List Int
  | [],o=>J o
  | p :: ps,o=>if (hid p || (mk && o.isEmpty && decide (clsI p.1 ≠ 0)))=true then J o++(esc p.2.1++prL J hid mk ps []) else prL J hid mk ps (o++[p.1])
def runesOf (ps:List Part):List Int:=ps.map (·.1)
def regB (ps:List Part):Bool:=ps.all (fun p=>decide (0≤p.1)) && decide (apt (runesOf ps)=runesOf ps)
def presL (enc:Int) (ps:List Part):List Int :=
  if enc ≠ 8 then prL id hidB false ps [] else if regB ps=true then prL tog hidB true ps [] else prL id strB false ps []
def prt (s:ByteArray):Nat→List (Int × Int)→List Part
  | _,[]=>[]
  | p,x :: l=>(x.1,s.extract p (p+x.2.toNat),decide (p+x.2.toNat=s.size)) :: prt s (p+x.2.toNat) l
def catB:List Part→ByteArray
  | []=>ByteArray.empty
  | p :: ps=>p.2.1++catB ps
/-! ### taken again -/
def encB (enc r:Int):ByteArray:=match encC enc r with
  | some l=>strOfNums l
  | none=>ByteArray.empty
def encL (enc:Int):List Int→ByteArray
  | []=>ByteArray.empty
  | r :: o=>encB enc r++encL enc o
def encAll (enc:Int) (o:List Int):Bool:=o.all fun r=>(encC enc r).isSome
def opn (enc:Int) (o:List Int):List Int:=if enc=8 then apt o else o
def flB (enc:Int) (o:List Int):ByteArray:=encL enc (opn enc o)
def flK (enc:Int) (o:List Int):Bool:=encAll enc (opn enc o)
def byteS (c:Int):ByteArray:=strOfNums [c]
def escOK (s:ByteArray) (p:Nat):Prop:=p+2≤s.size∧0≤digitI (B s p)∧0≤digitI (B s (p+1))
instance (s:ByteArray) (p:Nat):Decidable (escOK s p):=by unfold escOK;infer_instance
def rsS (enc:Int) (s:ByteArray):Nat→Nat→List Int→ByteArray→Bool→ByteArray × Bool
  | 0,_,o,raw,ok=>(raw++flB enc o,ok && flK enc o)
  | f + 1,p,o,raw,ok =>
    if p < s.size∧ok=true then
      if (nxt s p).2=0 then rsS enc s f p o raw false
      else if (nxt s p).1=37 then
        (if escOK s (p+1) then rsS enc s f (p+3) [] (raw++flB enc o++byteS (digitI (B s (p+1)) * 16+digitI (B s (p+2)))) (flK enc o)
         else rsS enc s f (p+3) o raw false)
      else rsS enc s f (p+(nxt s p).2.toNat) (o++[(nxt s p).1]) raw true
    else (raw++flB enc o,ok && flK enc o)
theorem hex_facts {d:Int} (h:0≤d∧d<16):digitI (hexI d)=d∧isC (hexI d)=true∧hexI d<128∧0≤hexI d∧hexI d ≠ 37∧clsI (hexI d)=0:=by
  have hh:48≤hexI d∧hexI d≤102:=by unfold hexI;split <;> omega
  refine ⟨?_,isC_of (by omega),by omega,by omega,by omega,?_⟩
  · unfold digitI hexI;split
    · rw [if_pos (by omega)];omega
    · rw [if_neg (by omega),if_pos (by omega)];omega
  · unfold clsI;rw [if_neg (by omega),if_neg (by omega)]
theorem strOfNums_append (a b:List Int):strOfNums (a++b)=strOfNums a++strOfNums b:=by
  unfold strOfNums
  rw [List.map_append]
  apply ByteArray.ext
  simp
def PartOK (enc:Int) (p:Part):Prop:=(0≤p.1∧isC p.1=true∧(encC enc p.1).isSome=true∧p.2.1=encB enc p.1∧1≤p.2.1.size)∨(p.1=-1∧p.2.1.size=1)
theorem encC_isC {enc r:Int} {l:List Int} (h:encC enc r=some l):isC r=true:=by
  unfold encC at h
  split at h
  · assumption
  · cases h
theorem extract_full (s:ByteArray):s.extract 0 s.size=s:=by simp
theorem extract_cat (s:ByteArray) {p q:Nat} (h1:p≤q) (h2:q≤s.size):s.extract p q++s.extract q s.size=s.extract p s.size:=by
  rw [ByteArray.extract_append_extract]
  congr 1 <;> omega
theorem prt_ok {enc:Int} {s:ByteArray} (h0:0≤enc) (h8:enc≤8):∀ (xs:List (Int × Int)) (p:Nat),p≤s.size→Chain enc s p xs s.size→(∀ q ∈ prt s p xs,PartOK enc q)∧catB (prt s p xs)=s.extract p s.size
  | [],p,hp,h=>by
    have h:p=s.size:=h
    subst h
    refine ⟨fun q hq=>by simp [prt] at hq,?_⟩
    simp [prt,catB]
  | x :: l,p,hp,h=>by
    obtain ⟨hlt,hx,hc⟩:=h
    rcases next_back h0 h8 hlt with ⟨r,m,e,hr,hm,hs⟩ | ⟨e,_⟩
    · have hb:=encC_bytes hm
      rw [hx] at e
      subst e
      simp only at hc
      have hq:p+((m.length:Nat):Int).toNat=p+m.length:=by rw [Int.toNat_natCast]
      rw [hq] at hc
      have ih:=prt_ok h0 h8 l (p+m.length) hs.1 hc
      have hex:s.extract p (p+m.length)=strOfNums m:=(stands_eq hb.1 hs).symm
      have hsz:(strOfNums m).size=m.length:=strOfNums_size m
      refine ⟨fun q hq2=>?_,?_⟩
      · simp only [prt,hq] at hq2
        rcases List.mem_cons.1 hq2 with e | hq2
        · subst e
          left
          refine ⟨hr,encC_isC hm,by rw [hm];rfl,?_,?_⟩
          · simp only [hex,encB,hm]
          · simp only [hex];omega
        · exact ih.1 q hq2
      · simp only [prt,hq,catB,ih.2]
        exact extract_cat s (by omega) hs.1
    · rw [hx] at e
      subst e
      have hc:Chain enc s (p+1) l s.size:=hc
      have ih:=prt_ok h0 h8 l (p+1) (by omega) hc
      have hsz:(s.extract p (p+1)).size=1:=by rw [ByteArray.size_extract];omega
      refine ⟨fun q hq2=>?_,?_⟩
      · have hq2:q ∈ (-1,s.extract p (p+1),decide (p+1=s.size)) :: prt s (p+1) l:=hq2
        rcases List.mem_cons.1 hq2 with e | hq2
        · subst e;right;exact ⟨rfl,hsz⟩
        · exact ih.1 q hq2
      · have:catB (prt s p ((-1,1) :: l))=s.extract p (p+1)++catB (prt s (p+1) l):=rfl
        rw [this,ih.2]
        exact extract_cat s (by omega) (by omega)
theorem part_size {enc:Int} {p:Part} (hp:PartOK enc p):1≤p.2.1.size:=by
  rcases hp with h | h
  · exact h.2.2.2.2
  · omega
/-! ### as put together as can be -/
theorem tog_len2 (o:List Int):(tog o).length≤o.length:=trun_len o
theorem esc_len (b:ByteArray):(esc b).length=3 * b.size:=by
  have hel:∀ l:List Int,(l.flatMap escI).length=3 * l.length:=by
    intro l
    induction l with
    | nil=>rfl
    | cons x l ih=>rw [List.flatMap_cons,List.length_append,ih];simp [escI];omega
  unfold esc
  rw [hel]
  simp [bl]
theorem pres_len {enc:Int} {s:ByteArray} {xs:List (Int × Int)} (h0:0≤enc) (h8:enc≤8) (hc:Chain enc s 0 xs s.size):(presL enc (prt s 0 xs)).length≤3 * s.size:=by
  obtain ⟨hok,hcat⟩:=prt_ok h0 h8 xs 0 (Nat.zero_le _) hc
  rw [extract_full] at hcat
  have hsz:s.size=(catB (prt s 0 xs)).size:=by rw [hcat]
  rw [hsz]
  clear hsz hcat
  generalize prt s 0 xs=ps at hok
  have key:∀ (J:List Int→List Int) (hid:Part→Bool) (mk:Bool),(∀ o,(J o).length≤o.length) →
      ∀ (ps:List Part) (o:List Int),(∀ p ∈ ps,PartOK enc p)→(prL J hid mk ps o).length≤o.length+3 * (catB ps).size:=by
    intro J hid mk hJ ps
    induction ps with
    | nil=>intro o _;exact Nat.le_trans (hJ o) (by omega)
    | cons p ps ih =>
      intro o hp
      have h1:=part_size (hp p (by simp))
      rw [prL]
      simp only [catB,ByteArray.size_append]
      split
      · have:=ih [] fun q hq=>hp q (by simp [hq])
        have:=hJ o
        have:=esc_len p.2.1
        simp only [List.length_append,List.length_nil] at *
        omega
      · have:=ih (o++[p.1]) fun q hq=>hp q (by simp [hq])
        simp only [List.length_append,List.length_singleton] at this
        omega
  unfold presL
  split
  · have:=key id hidB false (fun o=>Nat.le_refl _) ps [] hok;simpa using this
  split
  · have:=key tog hidB true tog_len2 ps [] hok;simpa using this
  · have:=key id strB false (fun o=>Nat.le_refl _) ps [] hok;simpa using this
end Go.Proofs.YtpmlggjhfiljmaaGreatDoor
