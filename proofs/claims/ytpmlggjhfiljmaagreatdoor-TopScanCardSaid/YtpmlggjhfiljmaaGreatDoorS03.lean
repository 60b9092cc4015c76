/- Part 3 of what the law rests on. -/
import Derived.Laws.Strings
import Derived.Lib.Split
import Derived.Deep.RegionHeld3
import Derived.Deep.QuietTactic
import Derived.BigQuiet
import Derived.Laws.AppendOwn
import Derived.OwnWalk
import Derived.Deep.LoopGhost
import Derived.Lib.AppendStr
import Derived.Laws.BytesArg
import Derived.Maps.RangeWalk
import Derived.Maps.OwnSet
import Derived.Maps.Ext
import Derived.Test.YtpmlggjhfiljmaaGreatDoorS01
import Derived.Test.YtpmlggjhfiljmaaGreatDoorS02
set_option linter.all false
namespace Go.Proofs.YtpmlggjhfiljmaaGreatDoor
open Go.RowKit
theorem encI_range {r:Int} (hc:isC r=true):∀ x ∈ encI r,0≤x∧x<256:=by
  have h:=isC_true hc
  intro x hx
  unfold encI at hx
  by_cases h1:r<128
  · rw [if_pos h1] at hx;simp at hx;omega
  rw [if_neg h1] at hx
  by_cases h2:r<2048
  · rw [if_pos h2] at hx;simp at hx;omega
  rw [if_neg h2] at hx
  by_cases h3:r<65536
  · rw [if_pos h3] at hx;simp at hx;omega
  rw [if_neg h3] at hx;simp at hx;omega
def bytesOf (xs:List Int):List UInt8:=xs.map fun n=>UInt8.ofNat n.toNat
theorem encS_none {r:Int} (hc:isC r=false):encS r=ByteArray.empty:=by unfold encS;rw [hc];rfl
theorem encS_size {r:Int} (hc:isC r=true):(encS r).size=(encI r).length:=by
  unfold encS;rw [if_pos hc];exact strOfNums_size _
open Go.RowKit
theorem ct_fin:∀ c:Fin 256,ct (c.val:Int)=decide (128≤c.val∧c.val<192):=by decide +kernel
theorem ct_iff {c:Int} (h:0≤c∧c<256):ct c=true ↔ 128≤c∧c<192:=by
  obtain ⟨n,rfl⟩:=Int.eq_ofNat_of_zero_le h.1
  have:=ct_fin ⟨n,by omega⟩
  simp only at this
  rw [this,decide_eq_true_eq]
  omega
theorem nx2_iff {c1 r:Int} (h1:0≤c1∧c1<256):nx2 c1 r=if (128≤c1∧c1<192)∧isC r=true∧szI r=2 then (r,2) else (0,0):=by
  unfold nx2 finN
  by_cases a:128≤c1∧c1<192
  · have:=(ct_iff h1).2 a
    simp [this,a]
  · have:ct c1=false:=by cases h:ct c1 with | false=>rfl | true=>exact absurd ((ct_iff h1).1 h) a
    simp [this]
    intro b c;omega
theorem nx3_iff {c1 c2 r1 r:Int} (h1:0≤c1∧c1<256) (h2:0≤c2∧c2<256) :
    nx3 c1 c2 r1 r=if (128≤c1∧c1<192)∧(128≤c2∧c2<192)∧isC r=true∧szI r=3 then (r,3) else (0,0):=by
  unfold nx3 finN
  by_cases a:(128≤c1∧c1<192)∧(128≤c2∧c2<192)
  · have:=(ct_iff h1).2 a.1
    have:=(ct_iff h2).2 a.2
    simp [*]
  · have:(true && ct c1 && ct c2)=false:=by
      cases h:(true && ct c1 && ct c2) with
      | false=>rfl
      | true=>simp at h;exact absurd ⟨(ct_iff h1).1 h.1,(ct_iff h2).1 h.2⟩ a
    rw [this,if_neg (by simp),if_neg (by intro q;exact a ⟨q.1,q.2.1⟩)]
theorem nx4_iff {c1 c2 c3 r1 r2 r:Int} (h1:0≤c1∧c1<256) (h2:0≤c2∧c2<256) (h3:0≤c3∧c3<256) :
    nx4 c1 c2 c3 r1 r2 r=if (128≤c1∧c1<192)∧(128≤c2∧c2<192)∧(128≤c3∧c3<192)∧isC r=true∧szI r=4 then (r,4) else (0,0):=by
  unfold nx4 finN
  by_cases a:(128≤c1∧c1<192)∧(128≤c2∧c2<192)∧(128≤c3∧c3<192)
  · have:=(ct_iff h1).2 a.1
    have:=(ct_iff h2).2 a.2.1
    have:=(ct_iff h3).2 a.2.2
    simp [*]
  · have:(true && ct c1 && ct c2 && ct c3)=false:=by
      cases h:(true && ct c1 && ct c2 && ct c3) with
      | false=>rfl
      | true=>simp at h;exact absurd ⟨(ct_iff h1).1 h.1.1,(ct_iff h2).1 h.1.2,(ct_iff h3).1 h.2⟩ a
    rw [this,if_neg (by simp),if_neg (by intro q;exact a ⟨q.1,q.2.1,q.2.2.1⟩)]
def At (s:ByteArray) (p:Nat) (r:Int):Prop:=p+(encI r).length≤s.size∧∀ i,i<(encI r).length→B s (p+i)=(encI r).getD i 0
theorem isC_of {r:Int} (h:0≤r∧r≤1114111∧(r<55296∨57343<r)):isC r=true:=by unfold isC;simp;omega
theorem szI_cases (r:Int):(r<128∧szI r=1)∨(128≤r∧r<2048∧szI r=2)∨(2048≤r∧r<65536∧szI r=3)∨(65536≤r∧szI r=4):=by
  unfold szI;repeat' split
  all_goals omega
theorem encI_len (r : Int) : ((encI r).length : Int) = szI r := by unfold encI szI;repeat' split
                                                                   all_goals simp
theorem nxt_sound {s:ByteArray} {p:Nat} (hp:p<s.size) (h:(nxt s p).2 ≠ 0):isC (nxt s p).1=true∧(nxt s p).2=szI (nxt s p).1∧At s p (nxt s p).1:=by
  have b0:=B_range s p
  have b1:=B_range s (p+1)
  have b2:=B_range s (p+2)
  have b3:=B_range s (p+3)
  generalize hn:nxt s p=v at h ⊢
  unfold nxt at hn
  simp only at hn
  by_cases a1:B s p<128
  · rw [if_pos a1] at hn
    subst hn
    refine ⟨isC_of (by simp only;omega),by simp only;unfold szI;rw [if_pos a1],?_⟩
    simp only
    have q:encI (B s p)=[B s p]:=by unfold encI;rw [if_pos a1]
    unfold At
    rw [q]
    exact ⟨by simp;omega,fun i hi=>by simp at hi;subst hi;rfl⟩
  rw [if_neg a1] at hn
  by_cases a2:192≤B s p∧B s p<224∧p+2≤s.size
  · rw [if_pos a2,nx2_iff b1] at hn
    split at hn
    · rename_i g
      subst hn
      simp only at h ⊢
      refine ⟨g.2.1,g.2.2.symm,?_⟩
      generalize hr:B s p % 32 * 64+B s (p+1) % 64=r at g ⊢
      rcases szI_cases r with ⟨a,e⟩ | ⟨a,a',e⟩ | ⟨a,a',e⟩ | ⟨a,e⟩ <;> try (exfalso;omega)
      have q:encI r=[192+r / 64,128+r % 64]:=by unfold encI;rw [if_neg (by omega),if_pos (by omega)]
      unfold At
      rw [q]
      refine ⟨by simp;omega,fun i hi=>?_⟩
      simp at hi
      match i,hi with
      | 0,_=>simp;omega
      | 1,_=>simp;omega
    · subst hn;exact absurd rfl h
  rw [if_neg a2] at hn
  by_cases a3:224≤B s p∧B s p<240∧p+3≤s.size
  · rw [if_pos a3,nx3_iff b1 b2] at hn
    split at hn
    · rename_i g
      subst hn
      simp only at h ⊢
      refine ⟨g.2.2.1,g.2.2.2.symm,?_⟩
      generalize hr:(B s p % 16 * 64+B s (p+1) % 64) * 64+B s (p+2) % 64=r at g ⊢
      rcases szI_cases r with ⟨a,e⟩ | ⟨a,a',e⟩ | ⟨a,a',e⟩ | ⟨a,e⟩ <;> try (exfalso;omega)
      have q:encI r=[224+r / 4096,128+r / 64 % 64,128+r % 64]:=by unfold encI;rw [if_neg (by omega),if_neg (by omega),if_pos (by omega)]
      unfold At
      rw [q]
      refine ⟨by simp;omega,fun i hi=>?_⟩
      simp at hi
      match i,hi with
      | 0,_=>simp;omega
      | 1,_=>simp;omega
      | 2,_=>simp;omega
    · subst hn;exact absurd rfl h
  rw [if_neg a3] at hn
  by_cases a4:240≤B s p∧B s p<248∧p+4≤s.size
  · rw [if_pos a4,nx4_iff b1 b2 b3] at hn
    split at hn
    · rename_i g
      subst hn
      simp only at h ⊢
      refine ⟨g.2.2.2.1,g.2.2.2.2.symm,?_⟩
      generalize hr:((B s p % 8 * 64+B s (p+1) % 64) * 64+B s (p+2) % 64) * 64+B s (p+3) % 64=r at g ⊢
      rcases szI_cases r with ⟨a,e⟩ | ⟨a,a',e⟩ | ⟨a,a',e⟩ | ⟨a,e⟩ <;> try (exfalso;omega)
      have q:encI r=[240+r / 262144,128+r / 4096 % 64,128+r / 64 % 64,128+r % 64]:=by unfold encI;rw [if_neg (by omega),if_neg (by omega),if_neg (by omega)]
      unfold At
      rw [q]
      refine ⟨by simp;omega,fun i hi=>?_⟩
      simp at hi
      match i,hi with
      | 0,_=>simp;omega
      | 1,_=>simp;omega
      | 2,_=>simp;omega
      | 3,_=>simp;omega
    · subst hn;exact absurd rfl h
  rw [if_neg a4] at hn
  subst hn
  exact absurd rfl h
theorem getD_bytesOf (xs:List Int) (h:∀ x ∈ xs,0≤x∧x<256) (i:Nat) (hi:i<xs.length):(((bytesOf xs).getD i 0).toNat:Int)=xs.getD i 0:=by
  unfold bytesOf
  rw [List.getD_eq_getElem?_getD,List.getD_eq_getElem?_getD,List.getElem?_map,List.getElem?_eq_getElem hi]
  have:=h _ (List.getElem_mem hi)
  simp [UInt8.toNat_ofNat']
  omega
theorem size_enc {r:Int} (hc:isC r=true):((encS r).size:Int)=szI r:=by rw [encS_size hc,encI_len]
open Go.RowKit
def cand (s:ByteArray) (p:Nat) (k:Int):Int :=
  if k=1 then B s p else if k=2 then B s p % 32 * 64+B s (p+1) % 64
  else if k=3 then (B s p % 16 * 64+B s (p+1) % 64) * 64+B s (p+2) % 64
  else ((B s p % 8 * 64+B s (p+1) % 64) * 64+B s (p+2) % 64) * 64+B s (p+3) % 64
def mat (s:ByteArray) (p:Nat) (k:Int):Bool:=isC (cand s p k) && (encS (cand s p k)).toList == (s.extract p (p+k.toNat)).toList
def NoM (s:ByteArray) (p:Nat) (k:Int):Prop:=∀ j:Int,1≤j→j<k→mat s p j=false
def RefRel (s:ByteArray) (p:Nat) (w:World) (sz:Value) (wr:World):Prop:=∃ k:Int,1≤k∧k≤5∧sz=.int .i64 k∧Fresh w wr∧NoM s p k
theorem RefRel.mk {s:ByteArray} {p:Nat} {w wr:World} {sz:Value} (k:Int) (h1:1≤k) (h2:k≤5) (h3:sz=.int .i64 k) (h4:Fresh w wr) (h5:NoM s p k):RefRel s p w sz wr:=⟨k,h1,h2,h3,h4,h5⟩
theorem NoM.next {s:ByteArray} {p:Nat} {k:Int} (h:NoM s p k) (hm:mat s p k=false):NoM s p (k+1):=fun j h1 h2=>by
  by_cases e:j=k
  · rw [e];exact hm
  · exact h j h1 (by omega)
open Go.RowKit
open Go.RowKit
theorem nxt_pos {s:ByteArray} {p:Nat} (hp:p<s.size) (h:(nxt s p).2 ≠ 0):1≤(nxt s p).2∧(nxt s p).2≤4∧(p:Int)+(nxt s p).2≤s.size:=by
  obtain ⟨h1,h2,h3,_⟩:=nxt_sound hp h
  have:=encI_len (nxt s p).1
  rcases szI_cases (nxt s p).1 with q | q | q | q <;> omega
def decN (s:ByteArray):Nat→Nat→Option (List Int)
  | 0,p=>if s.size≤p then some [] else none
  | f+1,p=>if s.size≤p then some [] else if (nxt s p).2=0 then none else (decN s f (p+(nxt s p).2.toNat)).map ((nxt s p).1 :: ·)
def allFrom (s:ByteArray) (p:Nat):Option (List Int):=decN s (s.size - p) p
def joinS:List Int→ByteArray
  | []=>ByteArray.empty
  | r :: l=>encS r++joinS l
theorem joinS_append:∀ (a b:List Int),joinS (a++b)=joinS a++joinS b
  | [],b=>by simp [joinS]
  | r :: a,b=>by simp [joinS,joinS_append a b,ByteArray.append_assoc]
theorem joinS_one (r:Int):joinS [r]=encS r:=by simp [joinS]
theorem encS_small (r:Int):(encS r).size≤4:=by
  cases hc:isC r with
  | true=>have:=size_enc hc;rcases szI_cases r with h | h | h | h <;> omega
  | false=>rw [encS_none hc];exact Nat.zero_le _
theorem joinS_size:∀ l:List Int,(joinS l).size≤4 * l.length
  | []=>Nat.le_refl _
  | r :: l=>by
    have:=encS_small r
    have:=joinS_size l
    simp only [joinS,ByteArray.size_append,List.length_cons]
    omega
theorem B_append_left (a b:ByteArray) (i:Nat) (h:i<a.size):B (a++b) i=B a i:=by
  unfold B
  have hl:i<a.data.toList.length:=by simpa using h
  have:(a++b).data.toList=a.data.toList++b.data.toList:=by rw [ByteArray.data_append,Array.toList_append]
  rw [this,List.getD_eq_getElem?_getD,List.getD_eq_getElem?_getD,List.getElem?_append_left hl]
theorem B_append_right (a b:ByteArray) (i:Nat):B (a++b) (a.size+i)=B b i:=by
  unfold B
  have:(a++b).data.toList=a.data.toList++b.data.toList:=by rw [ByteArray.data_append,Array.toList_append]
  have hl:a.data.toList.length=a.size:=by simp
  rw [this,List.getD_eq_getElem?_getD,List.getD_eq_getElem?_getD,List.getElem?_append_right (by omega),show a.size+i - a.data.toList.length=i from by omega]
open Go.RowKit
def OwnR (w:World) (B:Nat) (v:Value) (xs:List Int):Prop:=w.ownsRow B 21 1 v xs.length (xs.map (Value.int .i32))
theorem OwnR.nil (w:World) (B:Nat):OwnR w B (.slice none 0 0) []:=World.ownsRow_nil _ _ _ _
theorem OwnR.keep {w w':World} {B:Nat} {v:Value} {xs:List Int} (h:OwnR w B v xs) (hf:Fresh w w'):OwnR w' B v xs:=by
  refine World.ownsRow.kept (row:=none) h ⟨hf.os,hf.tape,hf.output,hf.size,fun k hk _=>hf.block k hk⟩ ?_
  cases hv:v.ownBlock with
  | none=>exact .inl rfl
  | some k=>exact .inr (by simp)
theorem OwnR.push {w':World} {B:Nat} {v':Value} {acc:List Int} {r:Int} (h:w'.ownsRow B 21 1 v' (acc.length+1) (acc.map (Value.int .i32)++[.int .i32 r])):OwnR w' B v' (acc++[r]):=by
  unfold OwnR
  simpa using h
theorem OwnR.fresh {w w1 w':World} {v:Value} {o:Obj} {e:TypeId} {n:Nat} {xs:List Value} (hf:Fresh w w1) (ho:w1.ownsRow w.heap.size e 1 v n xs) (hg:(w1.alloc o).grownBy w' v.ownBlock):Fresh w w' :=
  Below.grown (hf.alloc o) hg (by have:=hf.size;simp;omega) (fun k hk=>(ho.lt k hk).1)
theorem cell_new1 (w:World) (v:Value) (t:TypeId):∀ (j:Nat) (u:Value),[v][j]?=some u→(w.alloc (.cells #[v] t)).cell? ((⟨w.heap.size,0,none⟩:Addr).add j)=some u:=by
  intro j u hj
  match j,hj with
  | 0,hj=>simp at hj;subst hj;simp [Addr.add]
theorem info32:(Tryz.prog.info? 21).map (fun i=>(i.zero,i.size,i.bytes))=some (some (.int .i32 0),1,4):=by kernel_rfl
def AllPost (s:ByteArray) (w:World) (e:Ending) (w':World):Prop :=
  ∃ v,e=.returned (.tuple #[v,.bool (allFrom s 0).isSome])∧OwnR w' w.heap.size v ((allFrom s 0).getD [])∧Fresh w w'
theorem AllPost.yes {s:ByteArray} {w w':World} {v:Value} {l:List Int} (h:allFrom s 0=some l) (ho:OwnR w' w.heap.size v l) (hf:Fresh w w'):AllPost s w (.returned (.tuple #[v,.bool true])) w' :=
  ⟨v,by rw [h];rfl,by rw [h];exact ho,hf⟩
theorem AllPost.no {s:ByteArray} {w w':World} (h:allFrom s 0=none) (hf:Fresh w w'):AllPost s w (.returned (.tuple #[.slice none 0 0,.bool false])) w' :=
  ⟨_,by rw [h];rfl,by rw [h];exact OwnR.nil _ _,hf⟩
open Go.RowKit
def Sl (w:World) (v:Value) (xs:List Int):Prop :=
  ∃ a cap,v=.slice a xs.length cap∧(xs=[]∨∃ b off,a=some ⟨b,off,none⟩∧b<w.heap.size∧∀ j,j<xs.length→w.cell? ⟨b,off+j,none⟩=some (.int .i32 (xs.getD j 0)))
theorem Sl.keep {w w':World} {v:Value} {xs:List Int} (h:Sl w v xs) (hf:Fresh w w'):Sl w' v xs:=by
  obtain ⟨a,cap,hv,h⟩:=h
  refine ⟨a,cap,hv,?_⟩
  rcases h with h | ⟨b,off,ha,hb,hc⟩
  · exact .inl h
  · exact .inr ⟨b,off,ha,Nat.lt_of_lt_of_le hb hf.size,fun j hj=>(Below.cell hf (p:=⟨b,off+j,none⟩) hb).trans (hc j hj)⟩
theorem OwnR.sl {w:World} {B:Nat} {v:Value} {xs:List Int} (h:OwnR w B v xs):Sl w v xs:=by
  have h0:=h
  obtain ⟨h1,h2 | ⟨g,cap,cur,hv,hb,hh,h3⟩⟩:=h
  · obtain ⟨hv,hn⟩:=h2
    have:xs=[]:=List.eq_nil_of_length_eq_zero hn
    subst this
    exact ⟨none,0,hv,.inl rfl⟩
  · refine ⟨some ⟨g,0,none⟩,cap,hv,.inr ⟨g,0,rfl,?_,fun j hj=>?_⟩⟩
    · rcases Nat.lt_or_ge g w.heap.size with q | q
      · exact q
      · rw [Array.getElem?_eq_none q] at hh;cases hh
    · subst hv
      have:=World.ownsRow.cellAt h0 j (by omega)
      rw [show 0+j=j from by omega,this,List.getElem?_map,List.getElem?_eq_getElem hj,List.getD_eq_getElem?_getD,List.getElem?_eq_getElem hj]
      rfl
def SamePost (xs ys:List Int) (w:World) (e:Ending) (w':World):Prop:=e=.returned (.bool (decide (xs=ys)))∧Fresh w w'
theorem SamePost.mk {xs ys:List Int} {w w':World} {b:Bool} (h:b=decide (xs=ys)) (hf:Fresh w w'):SamePost xs ys w (.returned (.bool b)) w':=⟨by rw [h],hf⟩
theorem take_eq_of {xs ys:List Int} (hl:xs.length=ys.length) (h:∀ j,j<xs.length→xs.getD j 0=ys.getD j 0):xs=ys:=by
  apply List.ext_getElem hl
  intro i h1 h2
  have:=h i h1
  rwa [List.getD_eq_getElem?_getD,List.getD_eq_getElem?_getD,List.getElem?_eq_getElem h1,List.getElem?_eq_getElem h2] at this
def SameRel (xs ys:List Int) (w:World) (i:Value) (wr:World):Prop:=∃ k:Nat,i=.int .i64 k∧k≤xs.length∧(∀ j,j<k→xs.getD j 0=ys.getD j 0)∧Fresh w wr
theorem strOfNums_cells (s:ByteArray):strOfNums (s.data.toList.map fun b=>(b.toNat:Int))=s:=by
  unfold strOfNums
  rw [List.map_map]
  apply ByteArray.ext
  simp [Function.comp_def]
theorem info8:(Tryz.prog.info? 5).map (fun i=>(i.zero,i.size,i.bytes))=some (some (.int .u8 0),1,1):=by kernel_rfl
theorem conv_own {w:World} {B:Nat} {v:Value} {s:ByteArray} (h:w.ownsRow B 5 1 v s.size (Lib.strCells s)) :
    (convert 131 9 v).run Tryz.prog w=.ok (.string s) w:=by
  have h0:=h
  obtain ⟨h1,h2 | ⟨g,cap,cur,hv,hb,hh,h3⟩⟩:=h
  · obtain ⟨hv,hn⟩:=h2
    subst hv
    rw [run_convert_bytes_nil w 131 5 Tryz.underlying131 Tryz.underlying5 0 0 9 Tryz.underlying9,empty_of hn]
  · subst hv
    have:=run_convert_bytes_arg (P:=Tryz.prog) w 131 5 Tryz.underlying131 Tryz.underlying5 g 0 s.size cap (s.data.toList.map fun b=>(b.toNat:Int)) (by simp) (fun i hi=>by
      have hi':i<s.data.toList.length:=by simpa using hi
      have:=World.ownsRow.cellAt h0 i (by omega)
      rw [show 0+i=i from by omega,this]
      unfold Lib.strCells
      simp [List.getD_eq_getElem?_getD,hi]) 9 Tryz.underlying9
    rw [this,strOfNums_cells]
theorem strCells_append (a b:ByteArray):Lib.strCells (a++b)=Lib.strCells a++Lib.strCells b:=by
  unfold Lib.strCells
  rw [ByteArray.data_append,Array.toList_append,List.map_append]
theorem take_succ_getD (xs:List Int) (k:Nat) (h:k<xs.length):xs.take (k+1)=xs.take k++[xs.getD k 0]:=by
  rw [List.take_succ_eq_append_getElem h,List.getD_eq_getElem?_getD,List.getElem?_eq_getElem h];rfl
def JoinRel (xs:List Int) (w:World) (out i:Value) (wr:World):Prop :=
  ∃ k:Nat,i=.int .i64 k∧k≤xs.length∧wr.ownsRow w.heap.size 5 1 out (joinS (xs.take k)).size (Lib.strCells (joinS (xs.take k)))∧Fresh w wr
set_option maxHeartbeats 800000 in
theorem utfJoin_any (u:Value) (xs:List Int) (w:World) (hu:Sl w u xs) (hx:xs.length≤1000000) :
    Calls Tryz.prog 162 #[u] w fun e w'=>e=.returned (.string (joinS xs))∧Fresh w w':=by
  obtain ⟨a,ca,rfl,hu⟩:=hu
  obtain ⟨i0,hi0,hz0,hz1,hz2⟩:=info_parts info8
  rcases hu with rfl | ⟨b1,o1,rfl,hb1,hc1⟩
  · have hcv:∀ W:World,(convert 131 9 (.slice none 0 0)).run Tryz.prog W=.ok (.string ByteArray.empty) W:=fun W =>
      run_convert_bytes_nil W 131 5 Tryz.underlying131 Tryz.underlying5 0 0 9 Tryz.underlying9
    go_enter Tryz.func162,Tryz.ntmps162
    go_wp2
    refine wp_loop_rounds 1 ?_
    rw [rounds_succ]
    go_wp2
    go_ret
    exact ⟨rfl,Fresh.refl _⟩
  have H1:=Lib.hid hc1
  clear hc1
  generalize hn:xs.length=n at hx H1
  have HN:=Lib.hid hn
  clear hn
  go_enter Tryz.func162,Tryz.ntmps162
  go_wp2
  go_loopw [3,8] (fun out i wr=>JoinRel xs w out i wr) (fun _ i _=>n - (intOf i).toNat)
  case atStart=>exact ⟨0,rfl,Nat.zero_le _,World.ownsRow_nil _ _ _ _,Fresh.refl _⟩
  case round =>
    obtain ⟨k,rfl,hk,hown,hf⟩:=hrel
    have hk':k≤n:=by have:=HN.out;omega
    by_cases hlt:k<n
    · have c1:wr.cell? ⟨b1,o1+k,none⟩=some (.int .i32 (xs.getD k 0)):=(Below.cell hf (p:=⟨b1,o1+k,none⟩) hb1).trans (H1.out k hlt)
      have ht:=take_succ_getD xs k (by have:=HN.out;omega)
      have HT:=Lib.hid ht
      generalize hp:xs.getD k 0=p at c1 HT
      clear hp ht
      have hsz:=joinS_size (xs.take k)
      have hsl:(xs.take k).length≤k:=List.length_take_le _ _
      have hps:=encS_small p
      go_wp2_with fail
      refine (utfBytes_any _ _).mono ?_
      rintro e w1 ⟨rfl,h1⟩
      have hown1:w1.ownsRow w.heap.size 5 1 u3 (joinS (xs.take k)).size (Lib.strCells (joinS (xs.take k))) :=
        World.ownsRow.kept (row:=none) hown ⟨h1.os,h1.tape,h1.output,h1.size,fun k hk _=>h1.block k hk⟩ (by cases hv:u3.ownBlock with | none=>exact .inl rfl | some k=>exact .inr (by simp))
      clear hown
      go_wp2_with (at_builtin;refine Lib.wpList_append_own_string _ rfl _ _ 131 9 rfl w.heap.size 5 i0 Tryz.underlying131 Tryz.underlying9 hi0 hz0 hz1 hz2 _ _ _ rfl hown1 (encS p) rfl ?c3 ?c4 ?c5 ?_)
      case c3=>unfold maxLen;omega
      case c4=>omega
      case c5=>exact (hf.trans h1).size
      intro v' w' hown' hgrow _
      have hf':Fresh w w':=Below.grown (hf.trans h1) hgrow (hf.trans h1).size (fun k hk=>(hown1.lt k hk).1)
      have hown2:w'.ownsRow w.heap.size 5 1 v' (joinS (xs.take (k+1))).size (Lib.strCells (joinS (xs.take (k+1)))):=by
        rw [HT.out,joinS_append,joinS_one,strCells_append,ByteArray.size_append];exact hown'
      clear hown' hgrow hown1
      go_wp2
      go_roundw
      case rel=>exact ⟨k+1,by rw [Int.natCast_add];rfl,by have:=HN.out;omega,hown2,hf'⟩
      case measure=>simp [intOf];omega
    · have hkn:xs.take k=xs:=List.take_of_length_le (by have:=HN.out;omega)
      rw [hkn] at hown
      have hcv:=conv_own hown
      clear hkn hk
      go_wp2
      go_ret
      exact ⟨rfl,hf⟩
open Go.RowKit
def IsRow (k:IntKind) (w:World) (a:Option Addr) (len cap:Nat) (zs:List Int):Prop :=
  (a=none∧len=0∧cap=0∧zs=[]) ∨
  ∃ x,a=some x∧len≤cap∧cap≤maxLen∧zs.length=cap∧(∀ i,i<zs.length→w.cell? (x.add i)=some (.int k (zs.getD i 0)))∧∀ n ∈ zs,(Lit.int k n).wf=true
theorem IsRow.sl {w:World} {a:Option Addr} {len cap:Nat} {zs:List Int} (h:IsRow .i32 w a len cap zs):Sl w (.slice a len cap) (zs.take len)∧(zs.take len).length=len∧∀ n ∈ zs.take len,-2147483648≤n∧n<2147483648:=by
  rcases h with ⟨rfl,rfl,rfl,rfl⟩ | ⟨x,rfl,hl,hm,hz,hcell,hwz⟩
  · exact ⟨⟨none,0,rfl,.inl rfl⟩,rfl,fun n hn=>by simp at hn⟩
  · have hlen:(zs.take len).length=len:=by rw [List.length_take];omega
    refine ⟨⟨some x,cap,by rw [hlen],?_⟩,hlen,fun n hn=>?_⟩
    · by_cases h0:len=0
      · left;subst h0;simp
      · right
        obtain ⟨b,off,spot⟩:=x
        have hc:=hcell 0 (by omega)
        have hspot:spot=none:=by simpa [Addr.add] using World.cell?_spot hc
        subst hspot
        refine ⟨b,off,rfl,?_,fun j hj=>?_⟩
        · rcases Nat.lt_or_ge b w.heap.size with q | q
          · exact q
          · simp [World.cell?,Addr.add,Array.getElem?_eq_none q] at hc
        · rw [hlen] at hj
          have:=hcell j (by omega)
          rw [List.getD_eq_getElem?_getD,List.getElem?_take,if_pos hj,← List.getD_eq_getElem?_getD,← this]
          unfold Addr.add
          split
          · rename_i q;subst q;rfl
          · rfl
    · have:=hwz n (List.mem_of_mem_take hn)
      simp [Lit.wf,IntKind.min,IntKind.max,IntKind.bits,IntKind.signed] at this
      omega
open Go.RowKit
def Blk (w:World) (g:Nat) (t:TypeId) (cs:Array Value):Prop:=w.heap[g]?=some (.cells cs t (0,0))
theorem Blk.lt {w:World} {g:Nat} {t:TypeId} {cs:Array Value} (h:Blk w g t cs):g<w.heap.size:=by
  rcases Nat.lt_or_ge g w.heap.size with q | q
  · exact q
  · unfold Blk at h;rw [Array.getElem?_eq_none q] at h;cases h
theorem Blk.keep {w w':World} {g:Nat} {t:TypeId} {cs:Array Value} (h:Blk w g t cs) (hf:Fresh w w'):Blk w' g t cs:=(hf.block g h.lt).trans h
theorem Blk.cell {w:World} {g:Nat} {t:TypeId} {cs:Array Value} (h:Blk w g t cs) (i:Nat):w.cell? ⟨g,i,none⟩=cs[i]?:=by unfold Blk at h;simp [World.cell?,h]
theorem Blk.frozen {w:World} {g:Nat} {t:TypeId} {cs:Array Value} (h:Blk w g t cs) (i:Nat):w.frozen? ⟨g,i,none⟩=false:=by unfold Blk at h;simp [World.frozen?,h]
theorem Blk.new (w:World) (t:TypeId) (cs:Array Value):Blk (w.alloc (.cells cs t)) w.heap.size t cs:=heap_alloc_new w _
def FirstAt (xs:List Int) (r k:Int):Prop:=(0≤k∧k<xs.length∧xs.getD k.toNat 0=r∧∀ j:Nat,(j:Int)<k→xs.getD j 0 ≠ r)∨(k=-1∧∀ j:Nat,j<xs.length→xs.getD j 0 ≠ r)
theorem OwnR.sl2 {w:World} {B:Nat} {v:Value} {xs:List Int} (h:OwnR w B v xs) (hx:0<xs.length):∃ g cap,v=.slice (some ⟨g,0,none⟩) xs.length cap∧g<w.heap.size∧∀ j,j<xs.length→w.cell? ⟨g,j,none⟩=some (.int .i32 (xs.getD j 0)):=by
  obtain ⟨a,cap,hv,h0 | ⟨b,off,ha,hb,hc⟩⟩:=h.sl
  · subst h0;simp at hx
  · obtain ⟨_,⟨_,hn⟩ | ⟨g,cap',cur,hv',_⟩⟩:=h
    · omega
    · rw [hv] at hv'
      injection hv' with h1 h2 h3
      subst h1
      injection ha with ha
      injection ha with h4 h5
      subst h4 h5
      exact ⟨g,cap,hv,hb,fun j hj=>by have:=hc j hj;rwa [show 0+j=j from by omega] at this⟩
open Go.RowKit
structure Mut (S:Nat→Prop) (w w':World):Prop where
  os:w'.os=w.os
  tape:w'.tape=w.tape
  output:w'.output=w.output
  size:w.heap.size≤w'.heap.size
  block:∀ k,k<w.heap.size→¬ S k→w'.heap[k]?=w.heap[k]?
theorem Mut.refl (S:Nat→Prop) (w:World):Mut S w w:=⟨rfl,rfl,rfl,Nat.le_refl _,fun _ _ _=>rfl⟩
theorem Mut.trans2 {S T R:Nat→Prop} {a b c:World} (h:Mut S a b) (k:Mut T b c) (h1:∀ j,S j→R j) (h2:∀ j,j<a.heap.size→T j→R j):Mut R a c :=
  ⟨k.os.trans h.os,k.tape.trans h.tape,k.output.trans h.output,Nat.le_trans h.size k.size,fun i hi hn =>
    (k.block i (Nat.lt_of_lt_of_le hi h.size) (fun q=>hn (h2 i hi q))).trans (h.block i hi (fun q=>hn (h1 i q)))⟩
theorem Mut.trans {S:Nat→Prop} {a b c:World} (h:Mut S a b) (k:Mut S b c):Mut S a c:=h.trans2 k (fun _ q=>q) (fun _ _ q=>q)
theorem Mut.mono {S T:Nat→Prop} {a b:World} (h:Mut S a b) (hs:∀ j,j<a.heap.size→S j→T j):Mut T a b:=⟨h.os,h.tape,h.output,h.size,fun k hk hn=>h.block k hk fun q=>hn (hs k hk q)⟩
theorem Fresh.mut {a b:World} (h:Fresh a b) (S:Nat→Prop):Mut S a b:=⟨h.os,h.tape,h.output,h.size,fun k hk _=>h.block k hk⟩
theorem Mut.fresh {S:Nat→Prop} {a b:World} (h:Mut S a b) (hs:∀ k,k<a.heap.size→¬ S k):Fresh a b:=⟨h.os,h.tape,h.output,h.size,fun k hk=>h.block k hk (hs k hk)⟩
theorem Mut.andFresh {S:Nat→Prop} {a b c:World} (h:Mut S a b) (k:Fresh b c):Mut S a c:=h.trans (k.mut S)
theorem Fresh.andMut {S:Nat→Prop} {a b c:World} (h:Fresh a b) (k:Mut S b c):Mut S a c:=(h.mut S).trans k
theorem Mut.drew {S:Nat→Prop} {a b:World} (h:Mut S a b):Mut S a b.drew:=⟨h.os,h.tape,h.output,h.size,h.block⟩
theorem Mut.drewN {S:Nat→Prop} {a b:World} (h:Mut S a b) (n:Nat):Mut S a (b.drewN n):=⟨h.os,h.tape,h.output,h.size,h.block⟩
theorem Mut.alloc {S:Nat→Prop} {a b:World} (h:Mut S a b) (o:Obj):Mut S a (b.alloc o):=h.andFresh ((Fresh.refl _).alloc o)
theorem Mut.setCell {S:Nat→Prop} {a b:World} (h:Mut S a b) {p:Addr} (hp:S p.block∨a.heap.size≤p.block) (v:Value):Mut S a (b.setCell p v) :=
  ⟨h.os,h.tape,h.output,by simpa [World.setCell] using h.size,fun k hk hn=>(Below.heap_setCell b p v k (fun e=>hp.elim (fun q=>hn (e ▸ q)) (fun q=>by omega))).trans (h.block k hk hn)⟩
theorem Mut.grown {S:Nat→Prop} {a b c:World} {row:Option Nat} (h:Mut S a b) (k:b.grownBy c row) (hr:∀ j,row=some j→S j∨a.heap.size≤j):Mut S a c :=
  ⟨k.os.trans h.os,k.tape.trans h.tape,k.output.trans h.output,Nat.le_trans h.size k.size,fun i hi hn =>
    (k.block i (Nat.lt_of_lt_of_le hi h.size) (fun e=>(hr i e.symm).elim hn (fun q=>by omega))).trans (h.block i hi hn)⟩
theorem Mut.below {S:Nat→Prop} {a b:World} {B:Nat} (h:Mut S a b) (hB:B≤a.heap.size) (hs:∀ k,k<B→¬ S k):Below B a b:=⟨h.os,h.tape,h.output,h.size,fun k hk=>h.block k (by omega) (hs k hk)⟩
theorem Below.mut {a b:World} {B:Nat} (h:Below B a b):Mut (fun k=>B≤k) a b:=⟨h.os,h.tape,h.output,h.size,fun k hk hn=>h.block k (by omega)⟩
theorem Mut.cell {S:Nat→Prop} {a b:World} (h:Mut S a b) {p:Addr} (hp:p.block<a.heap.size) (hn:¬ S p.block):b.cell? p=a.cell? p:=World.cell?_of_block (w:=a) (h.block p.block hp hn)
theorem Mut.frozen {S:Nat→Prop} {a b:World} (h:Mut S a b) {p:Addr} (hp:p.block<a.heap.size) (hn:¬ S p.block):b.frozen? p=a.frozen? p:=World.frozen?_of_block (w:=a) (h.block p.block hp hn)
theorem Blk.mut {S:Nat→Prop} {w w':World} {g:Nat} {t:TypeId} {cs:Array Value} (h:Blk w g t cs) (hf:Mut S w w') (hn:¬ S g):Blk w' g t cs:=(hf.block g h.lt hn).trans h
theorem own_mut {S:Nat→Prop} {w w':World} {B:Nat} {e:TypeId} {size:Nat} {v:Value} {n:Nat} {xs:List Value} (h:w.ownsRow B e size v n xs) (hf:Mut S w w') (hn:∀ g,v.ownBlock=some g→¬ S g):w'.ownsRow B e size v n xs:=by
  obtain ⟨h1,h2 | ⟨g,cap,cur,rfl,hb,hgg,r⟩⟩:=h
  · exact ⟨h1,.inl h2⟩
  · have hlt:g<w.heap.size:=by
      rcases Nat.lt_or_ge g w.heap.size with q | q
      · exact q
      · rw [Array.getElem?_eq_none q] at hgg;cases hgg
    exact ⟨h1,.inr ⟨g,cap,cur,rfl,hb,(hf.block g hlt (hn g rfl)).trans hgg,r⟩⟩
theorem OwnR.mut {S:Nat→Prop} {w w':World} {B:Nat} {v:Value} {xs:List Int} (h:OwnR w B v xs) (hf:Mut S w w') (hn:∀ k,B≤k→¬ S k):OwnR w' B v xs :=
  own_mut h hf fun g hg=>hn g (h.lt g hg).1
open Go.RowKit
open Go.Maps (Keyed)
theorem keyI:Keyed Tryz.prog 3:=Maps.int_keyed Tryz.underlying3
def heldR (v:Value):Option (DataW Value × List MemPlace):=some (.held v,[])
abbrev kl (a:Int):Lit:=.int .i64 a
theorem kl_key (a:Int):WideAt.IsKeyLit (kl a):=trivial
theorem kl_ne {a b:Int} (h:a ≠ b):kl a ≠ kl b:=fun e=>h (by injection e)
def I64 (a:Int):Prop:=-9223372036854775808≤a∧a≤9223372036854775807
theorem I64.wf {a:Int} (h:I64 a):(Lit.int .i64 a).wf=true:=WalkArith.wf_i64 h
theorem keyOfI {a:Int} (h:I64 a):keyOf Tryz.prog 3 (.int .i64 a)=some (kl a):=Maps.keyOf_int_mk Tryz.underlying3 h.wf
theorem atKey_indep {D:DataW Value} {k:Lit} (h:Maps.has D k=true) (z z':DataW Value):D.atKey k z=D.atKey k z':=by
  cases D <;> try (cases h;done)
  rename_i es
  cases hf:es.find? (fun p=>p.1.sameKey k) with
  | some p=>simp [DataW.atKey,hf]
  | none =>
    exfalso
    rw [List.find?_eq_none] at hf
    obtain ⟨p,hp,hpk⟩:=List.any_eq_true.1 h
    exact hf p hp hpk
def mget (D:DataW Value) (a:Int):Option Value:=if Maps.has D (kl a)=true then (match D.atKey (kl a) .nil with | .held v=>some v | _=>none) else none
theorem mget_of_at {D:DataW Value} {a:Int} {z v:Value} (h:D.atKey (kl a) (.held z)=.held v):v=(mget D a).getD z:=by
  unfold mget
  cases hh:Maps.has D (kl a) with
  | false =>
    rw [Maps.atKey_of_not_has hh] at h
    injection h with h
    simp [h]
  | true =>
    rw [atKey_indep hh (.held z) .nil] at h
    simp [h]
theorem mget_has {D:DataW Value} {a:Int} {z v:Value} (h:D.atKey (kl a) (.held z)=.held v):Maps.has D (kl a)=(mget D a).isSome:=by
  unfold mget
  cases hh:Maps.has D (kl a) with
  | false=>simp
  | true =>
    rw [atKey_indep hh (.held z) .nil] at h
    simp [h]
theorem mget_put {D:DataW Value} (hD:Maps.IsMap D) (k:Int) (v:Value) (a:Int):mget (D.put (kl k) (.held v)) a=if a=k then some v else mget D a:=by
  unfold mget
  by_cases e:a=k
  · subst e
    rw [Maps.has_put_same hD (kl_key _),Maps.atKey_put_same hD (kl_key _)]
    simp
  · rw [Maps.has_put_other (kl_ne e),Maps.atKey_put_other (kl_ne e),if_neg e]
theorem mget_del (D:DataW Value) (k a:Int):mget (D.del (kl k)) a=if a=k then none else mget D a:=by
  unfold mget
  by_cases e:a=k
  · subst e
    rw [Maps.has_del_same]
    simp
  · rw [Maps.has_del_other (kl_ne e),Maps.atKey_del_other (kl_ne e),if_neg e]
def MapAt (w:World) (b n:Nat) (M:Int→Option Value):Prop:=∃ D:DataW Value,w.ownsMap Tryz.prog 3 heldR b n D∧∀ a,mget D a=M a
theorem own_isMap {w:World} {b n:Nat} {D:DataW Value} (h:w.ownsMap Tryz.prog 3 heldR b n D):Maps.IsMap D:=by
  obtain ⟨es,clock,_,_,_,hD⟩:=h
  exact ⟨_,hD⟩
theorem MapAt.lt {w:World} {b n:Nat} {M:Int→Option Value} (h:MapAt w b n M):b<w.heap.size:=by obtain ⟨D,h,_⟩:=h;exact h.lt
theorem MapAt.mono {w:World} {b n n':Nat} {M:Int→Option Value} (h:MapAt w b n M) (hn:n≤n'):MapAt w b n' M:=by obtain ⟨D,h,hM⟩:=h;exact ⟨D,h.mono hn,hM⟩
theorem MapAt.mut {S:Nat→Prop} {w w':World} {b n:Nat} {M:Int→Option Value} (h:MapAt w b n M) (hf:Mut S w w') (hn:¬ S b):MapAt w' b n M:=by
  obtain ⟨D,h,hM⟩:=h
  have hlt:=h.lt
  obtain ⟨es,clock,hb,r⟩:=h
  exact ⟨D,⟨es,clock,(hf.block b hlt hn).trans hb,r⟩,hM⟩
theorem MapAt.fresh {w w':World} {b n:Nat} {M:Int→Option Value} (h:MapAt w b n M) (hf:Fresh w w'):MapAt w' b n M:=h.mut (hf.mut fun _=>False) (fun q=>q)
theorem MapAt.alloc {w:World} {b n:Nat} {M:Int→Option Value} (h:MapAt w b n M) (o:Obj):MapAt (w.alloc o) b n M:=h.fresh ((Fresh.refl _).alloc o)
theorem MapAt.made (w:World):MapAt (w.alloc (.map #[] 0)) w.heap.size 0 (fun _=>none):=⟨_,World.ownsMap_made _ _ _ _,fun a=>by simp [mget,Maps.has]⟩
theorem MapAt.congr {w:World} {b n:Nat} {M M':Int→Option Value} (h:MapAt w b n M) (e:∀ a,M a=M' a):MapAt w b n M':=by obtain ⟨D,h,hM⟩:=h;exact ⟨D,h,fun a=>(hM a).trans (e a)⟩
theorem held_inv {v:Value} {d:DataW Value} {ps:List MemPlace} (h:heldR v=some (d,ps)):d=.held v:=by unfold heldR at h;injection h with h;injection h with h1 h2;exact h1.symm
theorem wf_I64 {a:Int} (h:(Lit.int .i64 a).wf=true):I64 a:=by
  unfold I64
  simp [Lit.wf,IntKind.min,IntKind.max,IntKind.signed,IntKind.bits] at h
  omega
theorem own_held {w:World} {b n:Nat} {D:DataW Value} (h:w.ownsMap Tryz.prog 3 heldR b n D) (i:Int) (hh:Maps.has D (kl i)=true):(mget D i).isSome=true∧I64 i:=by
  obtain ⟨es,clock,hb,F,hs,rfl⟩:=h
  have hall:∀ p ∈ (es.toList.map (WideElems.rg Tryz.prog 3 heldR)).foldr DataW.insert [],(∃ v,p.2=.held v)∧∃ key,keyOf Tryz.prog 3 key=some p.1:=by
    intro p hp
    have hp:=(WideShapes.sorted_perm _).mem_iff.1 hp
    obtain ⟨x,hx,rfl⟩:=List.mem_map.1 hp
    obtain ⟨y,hy⟩:=F.reads x hx
    obtain ⟨z,hz,hyz⟩:=WideElems.rd_val hy
    rw [WideElems.rg_of hy]
    have hz2:heldR x.val=some (z.1,z.2):=hz
    exact ⟨⟨x.val,by rw [hyz];exact held_inv hz2⟩,_,WideElems.rd_key hy⟩
  have h1:((es.toList.map (WideElems.rg Tryz.prog 3 heldR)).foldr DataW.insert []).any (fun p=>p.1.sameKey (kl i))=true:=hh
  obtain ⟨p,hp,hpk⟩:=List.any_eq_true.1 h1
  have hk:=WideAt.sameKey_eq hpk
  constructor
  · unfold mget
    rw [if_pos hh]
    cases hf:((es.toList.map (WideElems.rg Tryz.prog 3 heldR)).foldr DataW.insert []).find? (fun p=>p.1.sameKey (kl i)) with
    | none=>rw [List.find?_eq_none] at hf;exact absurd hpk (hf p hp)
    | some q =>
      obtain ⟨v,hv⟩:=(hall q (List.mem_of_find?_eq_some hf)).1
      simp [DataW.atKey,hf,hv]
  · obtain ⟨_,key,hkey⟩:=hall p hp
    rw [hk] at hkey
    obtain ⟨x,_,e2,hw⟩:=Maps.keyOf_int_inv Tryz.underlying3 hkey
    injection e2 with _ e2
    subst e2
    exact wf_I64 hw
theorem own_has {w:World} {b n:Nat} {D:DataW Value} (h:w.ownsMap Tryz.prog 3 heldR b n D) (i:Int):Maps.has D (kl i)=(mget D i).isSome:=by
  cases hh:Maps.has D (kl i) with
  | true=>exact (own_held h i hh).1.symm
  | false=>unfold mget;rw [hh];rfl
theorem MapAt.key {w:World} {b n:Nat} {M:Int→Option Value} (h:MapAt w b n M) {i:Int} {v:Value} (hv:M i=some v):I64 i:=by
  obtain ⟨D,h,hM⟩:=h
  exact (own_held h i (by rw [own_has h,hM,hv];rfl)).2
section
variable (w:World) {ops:Array Oper} {rest:List Oper} {o:Oper} {a:Act} {Q:Exit→Act→World→Prop}
theorem wpList_lookI (hg:o.guard=none) (m x:Operand) (t:TypeId) (hop:o.op=Op.lookup t m x false) (e:TypeId) (ht:Tryz.prog.underlying t=some (.map 3 e)) (z:Value) (hz:(zeroValue e).run Tryz.prog w=.ok z w)
    (b n:Nat) (M:Int→Option Value) (hm:a.eval m=.map (some b)) (h:MapAt w b n M) (k:Int) (hx:a.eval x=.int .i64 k) (hk:I64 k) (r:Value) (hr:(M k).getD z=r)
    (hK:wpList Tryz.prog ops Q rest (a.put o.dst r) w):wpList Tryz.prog ops Q (o :: rest) a w:=by
  refine wpList_plain hg fun K' hK'=>?_
  obtain ⟨D,hown,hM⟩:=h
  obtain ⟨v,ps,hrun,hv⟩:=hown.lookup keyI ht hz (zd:=.held z) (zp:=[]) rfl (keyOfI hk)
  have e1:=mget_of_at (held_inv hv)
  rw [hM,hr] at e1
  subst e1
  unfold Oper.wp
  simp [execOp,hop,hm,hx,hrun,Result.andThen]
  exact hK' _ _ hK
theorem wpList_lookOkI (hg:o.guard=none) (m x:Operand) (t:TypeId) (hop:o.op=Op.lookup t m x true) (e:TypeId) (ht:Tryz.prog.underlying t=some (.map 3 e)) (z:Value) (hz:(zeroValue e).run Tryz.prog w=.ok z w)
    (b n:Nat) (M:Int→Option Value) (hm:a.eval m=.map (some b)) (h:MapAt w b n M) (k:Int) (hx:a.eval x=.int .i64 k) (hk:I64 k) (r:Value) (hr:(M k).getD z=r) (c:Bool) (hc:(M k).isSome=c)
    (hK:wpList Tryz.prog ops Q rest (a.put o.dst (.tuple #[r,.bool c])) w):wpList Tryz.prog ops Q (o :: rest) a w:=by
  refine wpList_plain hg fun K' hK'=>?_
  obtain ⟨D,hown,hM⟩:=h
  obtain ⟨v,ps,hrun,hv⟩:=hown.look_ok keyI ht hz (zd:=.held z) (zp:=[]) rfl (keyOfI hk)
  have e1:=mget_of_at (held_inv hv)
  have e2:=mget_has (held_inv hv)
  rw [hM,hr] at e1
  rw [hM,hc] at e2
  subst e1
  rw [e2] at hrun
  unfold Oper.wp
  simp [execOp,hop,hm,hx,hrun,Result.andThen]
  exact hK' _ _ hK
theorem wpList_storeI (hg:o.guard=none) (m x v:Operand) (t:TypeId) (hop:o.op=Op.mapUpdate t m x v) (e:TypeId) (ht:Tryz.prog.underlying t=some (.map 3 e))
    (b n:Nat) (M:Int→Option Value) (hm:a.eval m=.map (some b)) (h:MapAt w b n M) (hn:n≤1000000000) (k:Int) (hx:a.eval x=.int .i64 k) (hk:I64 k) (val:Value) (hv:a.eval v=val)
    (hK:∀ w',MapAt w' b (n+1) (fun i=>if i=k then some val else M i)→Mut (fun j=>j=b) w w'→Hid (w'.heap.size=w.heap.size)→wpList Tryz.prog ops Q rest (a.put o.dst undef) w'):wpList Tryz.prog ops Q (o :: rest) a w:=by
  obtain ⟨D,hown,hM⟩:=h
  have hi:=own_isMap hown
  refine wpList_mapUpdate_in w hg m x v t hop 3 e keyI ht heldR b n D hm hown (by unfold maxLen;omega) (.int .i64 k) val (kl k) hx hv (keyOfI hk) (.held val) [] rfl fun w' h1 h2=>hK w' ⟨_,h1,fun i=>by rw [mget_put hi,hM]⟩ ?_ (Lib.hid ?_)
  · obtain ⟨es,clock,es',clock',hb,rfl⟩:=h2
    exact ⟨rfl,rfl,rfl,by simp [ChangeMaps.setBlock],fun j hj hn=>ChangeMaps.heap_setBlock_other hb _ hn⟩
  · obtain ⟨es,clock,es',clock',hb,rfl⟩:=h2
    simp [ChangeMaps.setBlock]
theorem wpList_delI (hg:o.guard=none) (m x:Operand) (t:TypeId) (hop:o.op=Op.call { callee:=Callee.builtin Builtin.delete,args:=#[m,x],argTypes:=#[t,3] }) (e:TypeId) (ht:Tryz.prog.underlying t=some (.map 3 e))
    (b n:Nat) (M:Int→Option Value) (hm:a.eval m=.map (some b)) (h:MapAt w b n M) (k:Int) (hx:a.eval x=.int .i64 k) (hk:I64 k)
    (hK:∀ w',MapAt w' b n (fun i=>if i=k then none else M i)→Mut (fun j=>j=b) w w'→Hid (w'.heap.size=w.heap.size)→wpList Tryz.prog ops Q rest (a.put o.dst (.tuple #[])) w'):wpList Tryz.prog ops Q (o :: rest) a w:=by
  obtain ⟨D,hown,hM⟩:=h
  refine wpList_delete_own w hg m x t 3 hop e keyI ht heldR b n D hm hown (.int .i64 k) (kl k) hx (keyOfI hk) fun w' h1 h2=>hK w' ⟨_,h1,fun i=>by rw [mget_del,hM]⟩ ?_ (Lib.hid ?_)
  · obtain ⟨es,clock,es',clock',hb,rfl⟩:=h2
    exact ⟨rfl,rfl,rfl,by simp [ChangeMaps.setBlock],fun j hj hn=>ChangeMaps.heap_setBlock_other hb _ hn⟩
  · obtain ⟨es,clock,es',clock',hb,rfl⟩:=h2
    simp [ChangeMaps.setBlock]
end
def RangAt (w:World) (b r n:Nat) (M:Int→Option Value) (L:Int→Bool) (cnt:Nat):Prop:=∃ (D:DataW Value) (left:Lit→Bool),w.ranges Tryz.prog 3 heldR b r n D left cnt∧(∀ a,mget D a=M a)∧∀ a,left (kl a)=L a
theorem RangAt.map {w:World} {b r n:Nat} {M:Int→Option Value} {L:Int→Bool} {cnt:Nat} (h:RangAt w b r n M L cnt):MapAt w b n M:=by
  obtain ⟨D,left,h1,h2,_⟩:=h
  exact ⟨D,h1.owns,h2⟩
section
variable (w:World) {ops:Array Oper} {rest:List Oper} {o:Oper} {a:Act} {Q:Exit→Act→World→Prop}
theorem held_some {D:DataW Value} {a:Int} {v:Value} (h:∀ zd,D.atKey (kl a) zd=.held v):mget D a=some v:=by
  have:=mget_of_at (z:=v) (h (.held v))
  unfold mget
  rw [Maps.has_true_of_atKey h,h]
  simp
theorem wpList_rangeI (hg:o.guard=none) (m:Operand) (t:TypeId) (hop:o.op=Op.range t m) (e:TypeId) (ht:Tryz.prog.underlying t=some (.map 3 e)) (b n:Nat) (M:Int→Option Value) (hm:a.eval m=.map (some b)) (h:MapAt w b n M)
    (hK:∀ w' cnt,RangAt w' b w.heap.size n M (fun i=>(M i).isSome) cnt→cnt≤n→Fresh w w'→Hid (w'.heap.size=w.heap.size+1)→wpList Tryz.prog ops Q rest (a.put o.dst (.pointer (some ⟨w.heap.size,0,none⟩))) w') :
    wpList Tryz.prog ops Q (o :: rest) a w:=by
  obtain ⟨D,hown,hM⟩:=h
  refine wpList_range_own w hg m t hop 3 e keyI ht heldR b n D hm hown fun w' h1 h2 h3=>hK w' _ ⟨D,_,h1,hM,fun i=>?_⟩ hown.size_le ⟨h2.os,h2.tape,h2.output,h2.size,fun k hk=>h2.block k hk (by simp)⟩ (Lib.hid h3)
  show _=(M i).isSome
  rw [← hM]
  exact own_has hown i
theorem wpList_nextI (hg:o.guard=none) (it:Operand) (hop:o.op=Op.next it false) (b r n:Nat) (M:Int→Option Value) (L:Int→Bool) (cnt:Nat) (hit:a.eval it=.pointer (some ⟨r,0,none⟩)) (h:RangAt w b r n M L cnt)
    (hDone:(∀ i,L i=false)→wpList Tryz.prog ops Q rest (a.put o.dst (.tuple #[.bool false])) w)
    (hMore:∀ (x:Int) (c:Value) (w':World) (cnt':Nat),I64 x→L x=true→M x=some c→RangAt w' b r n M (fun i=>L i && decide (i ≠ x)) cnt'→cnt'<cnt→Mut (fun j=>j=r) w w'→Hid (w'.heap.size=w.heap.size) →
      (Instr.entry (.pointer (some ⟨r,0,none⟩))).run Tryz.prog w'=.ok (.tuple #[.int .i64 x,c]) w'→wpList Tryz.prog ops Q rest (a.put o.dst (.tuple #[.bool true,.int .i64 x,c])) w') :
    wpList Tryz.prog ops Q (o :: rest) a w:=by
  obtain ⟨D,left,h1,hM,hL⟩:=h
  refine wpList_next_ranges w hg it hop 3 keyI heldR (fun x:Int=>Value.int .i64 x) (fun c:Value=>c) (fun key kl h=>by obtain ⟨x,rfl,_⟩:=Maps.keyOf_int_inv Tryz.underlying3 h;exact ⟨x,rfl⟩) (fun v y _=>⟨v,rfl⟩) b r n D left cnt hit h1 (fun _ hl=>hDone fun i=>by rw [← hL];exact hl _) ?_
  intro x c k y w' cnt' hk hl hy hat hr hlt hgr hsz hen
  obtain ⟨x',e1,e2,hw⟩:=Maps.keyOf_int_inv Tryz.underlying3 hk
  injection e1 with _ e1
  subst e1 e2
  have hy1:y.1=.held c:=held_inv (ps:=y.2) hy
  have hc:M x=some c:=by rw [← hM];exact held_some fun zd=>by rw [hat zd,hy1]
  refine hMore x c w' cnt' ?_ (by rw [← hL];exact hl) hc ⟨D,_,hr,hM,fun i=>?_⟩ hlt ⟨hgr.os,hgr.tape,hgr.output,hgr.size,fun k hk hn=>hgr.block k hk fun e=>hn (by injection e with e)⟩ (Lib.hid hsz) hen
  · exact wf_I64 hw
  · rw [hL]
    by_cases e:i=x
    · subst e
      rw [WideAt.sameKey_self (kl_key _)]
      simp
    · rw [Maps.sameKey_ne (kl_ne e)]
      simp [e]
end
end Go.Proofs.YtpmlggjhfiljmaaGreatDoor
