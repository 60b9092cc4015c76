/- Part 26 of what the law rests on. -/
import Derived.Deep.DrawnRows
import Derived.Deep.RegionHeld3
import Derived.Test.YtpmlggjhfiljmaaGreatDoorS25
set_option linter.all false
namespace Go.Proofs.YtpmlggjhfiljmaaGreatDoor
open Go.RowKit
structure TOK (enc:Int) (T:TreS):Prop where
  of:∀ d l,T.dirs d=some l→∀ e ∈ l,OfOK enc e
  len:∀ d l,T.dirs d=some l→l.length≤10000
  node:∀ d l,T.dirs d=some l→∀ e ∈ l,I64 e.node
def lsF (t:Nat):Value:=.func (.func 35) #[.pointer (some ⟨t,0,none⟩)] #[]
def WkAt (w:World) (g t:Nat) (d:Int) (b:Bool):Prop:=Blk w g 217 #[.int .i64 d,.bool b,lsF t]
theorem enters_list:∀ (args:Array Value) (W:World),Sem.run Tryz.prog (callFunc 35 args) W=.ok (.enter 35 args) W:=by intro args w;go_simp
def LsYes (l:List Ent) (w:World) (e:Ending) (w':World):Prop:=∃ a c,e=.returned (.tuple #[.slice a l.length c,.int .i64 0])∧OwnE w' (fun g=>w.heap.size≤g) (.slice a l.length c) l∧Fresh w w'
def LsNo (k:Int) (w:World) (e:Ending) (w':World):Prop:=e=.returned (.tuple #[.slice none 0 0,.int .i64 k])∧Fresh w w'
theorem ls_yes {A:Nat→Prop} {t:Nat} {T:TreS} {q:Nat} {d:Int} {l:List Ent} {w:World} (h:TreeAt w A t T q) (hd:I64 d) (hl:T.dirs d=some l) (hl2:l.length≤10000):Calls Tryz.prog 35 #[.pointer (some ⟨t,0,none⟩),.int .i64 d] w (LsYes l w):=by
  refine (tlist_any w A t T q h d hd (fun l' h'=>by rw [hl] at h';injection h' with h';rw [← h'];omega)).mono ?_
  rintro e w' (⟨l',v,h1,rfl,ho,hf⟩ | ⟨h1,_⟩)
  · rw [hl] at h1
    injection h1 with h1
    subst h1
    obtain ⟨a,c,rfl⟩:=ho.shape
    exact ⟨a,c,rfl,ho,hf⟩
  · rw [hl] at h1;cases h1
theorem ls_no {A:Nat→Prop} {t:Nat} {T:TreS} {q:Nat} {d:Int} {w:World} (h:TreeAt w A t T q) (hd:I64 d) (hl:T.dirs d=none):Calls Tryz.prog 35 #[.pointer (some ⟨t,0,none⟩),.int .i64 d] w (LsNo (if T.files d=true then 8 else 5) w):=by
  refine (tlist_any w A t T q h d hd (fun l' h'=>by rw [hl] at h';cases h')).mono ?_
  rintro e w' (⟨l',v,h1,_⟩ | ⟨h1,rfl,hf⟩)
  · rw [hl] at h1;cases h1
  · exact ⟨rfl,hf⟩
def stepR:Option Ent→Ent ⊕ Int
  | none=>.inr 5
  | some e=>.inl e
def StepPost (r:Ent ⊕ Int) (g t:Nat) (w:World) (e:Ending) (w':World):Prop :=
  (∃ k,k ≠ 0∧r=.inr k∧e=.returned (.int .i64 k)∧Fresh w w')∨(∃ x,r=.inl x∧e=.returned (.int .i64 0)∧WkAt w' g t x.node x.dir∧Mut (fun j=>j=g) w w')
set_option maxRecDepth 100000 in
set_option maxHeartbeats 1600000 in
theorem step_any (enc:Int) (A:Nat→Prop) (t:Nat) (T:TreS) (q:Nat) (hT:TOK enc T) (g:Nat) (d:Int) (b:Bool) (name:ByteArray) (w:World) (h:TreeAt w A t T q) (hw:WkAt w g t d b) (hd:I64 d) (hGT:GT w) :
    Calls Tryz.prog 219 #[.pointer (some ⟨g,0,none⟩),.int .i64 enc,.string name] w (StepPost (stepT enc T d name) g t w):=by
  have hen:=enters_list
  unfold WkAt at hw
  have HW:=Lib.hid hw
  have c0:w.cell? ⟨g,0,none⟩=some (.int .i64 d):=by rw [hw.cell];rfl
  have c2:w.cell? ⟨g,2,none⟩=some (.func (.func 35) #[.pointer (some ⟨t,0,none⟩)] #[]):=by rw [hw.cell];rfl
  cases hdl:T.dirs d with
  | none =>
    have HL:=Lib.hid (fun W (hW:Fresh w W)=>ls_no (h.fresh hW) hd hdl)
    obtain ⟨k,hk⟩:∃ k:Int,(if T.files d=true then 8 else 5)=k:=⟨_,rfl⟩
    have HS:Hid (stepT enc T d name=.inr k):=Lib.hid (by unfold stepT;rw [hdl];simp only;rw [hk])
    have hk0:k ≠ 0:=by rw [← hk];split <;> omega
    have hkb:(k != 0)=true:=by simp [hk0]
    rw [hk] at HL
    have HK:=Lib.hid hk0
    clear hw h hT hdl hk hk0
    go_enter Tryz.func219,Tryz.ntmps219
    go_wp2_with fail
    go_region_law (first
      | (go_simp;go_at_call 35;refine (HL.out _ (by repeat (first | exact Fresh.refl _ | refine Fresh.drew ?_))).mono ?_;rintro e w2 ⟨rfl,hf2⟩;have HF:Hid (Fresh w w2):=Lib.hid (Fresh.trans (by repeat (first | exact Fresh.refl _ | refine Fresh.drew ?_)) hf2);clear hf2))
    all_goals
      go_wp2
      go_ret
      exact .inl ⟨k,HK.out,HS.out,rfl,HF.out⟩
  | some l =>
    have HL:=Lib.hid (fun W (hW:Fresh w W)=>ls_yes (h.fresh hW) hd hdl (hT.len d l hdl))
    have HO:=Lib.hid (hT.of d l hdl)
    have HLN:=Lib.hid (hT.len d l hdl)
    obtain ⟨r,hr⟩:∃ r,l.find? (faceB enc name)=r:=⟨_,rfl⟩
    have HS:Hid (stepT enc T d name=stepR r):=Lib.hid (by rw [← hr];unfold stepT;rw [hdl];rfl)
    have HR:=Lib.hid hr
    clear hw h hT hdl hr
    go_enter Tryz.func219,Tryz.ntmps219
    go_wp2_with fail
    go_region_law (first
      | (go_simp;go_at_call 35;refine (HL.out _ (by repeat (first | exact Fresh.refl _ | refine Fresh.drew ?_))).mono ?_;rintro e w2 ⟨a,c,rfl,ho,hf2⟩;have HF:Hid (Fresh w w2):=Lib.hid (Fresh.trans (by repeat (first | exact Fresh.refl _ | refine Fresh.drew ?_)) hf2);have HOW:=Lib.hid ho;clear hf2 ho))
    all_goals
      have HFD:=Lib.hid (ffind_any enc _ _ l name w2 (OwnE.sl HOW.out) (by have:=HLN.out;omega) HO.out (hGT.fresh HF.out))
      rw [HR.out] at HFD
      go_wp2_with fail
      refine HFD.out.mono ?_
      rintro e w3 ⟨rfl,hf3⟩
      have HF3:=Lib.hid (HF.out.trans hf3)
      clear hf3
      cases r with
      | none =>
        have HR5:Hid (stepT enc T d name=.inr 5):=Lib.hid HS.out
        clear HS HR HFD
        simp only [Option.getD_none,Option.isSome_none,ent0]
        go_wp2
        go_ret
        exact .inl ⟨5,by omega,HR5.out,rfl,HF3.out.alloc _⟩
      | some x =>
        have HR5:Hid (stepT enc T d name=.inl x):=Lib.hid HS.out
        clear HS HR HFD
        obtain ⟨nm,nd,dr,ck,sh⟩:=x
        simp only [Option.getD_some,Option.isSome_some]
        have hb:=HW.out.keep HF3.out
        have f0:w3.frozen? ⟨g,0,none⟩=false:=hb.frozen 0
        have f1:w3.frozen? ⟨g,1,none⟩=false:=hb.frozen 1
        have d0:w3.cell? ⟨g,0,none⟩=some (.int .i64 d):=hb.cell 0
        have d1:w3.cell? ⟨g,1,none⟩=some (.bool b):=hb.cell 1
        have hgl:=hb.lt
        have HB:=Lib.hid hb
        clear hb c0 c2
        go_wp2
        have hf4:Fresh w3 (w3.alloc (.cells #[.string nm,.int .i64 nd,.bool dr,.int .i64 ck,.int .i64 sh] 88)):=(Fresh.refl _).alloc _
        have hb4:=HB.out.keep hf4
        have he4:=Blk.new w3 88 #[.string nm,.int .i64 nd,.bool dr,.int .i64 ck,.int .i64 sh]
        obtain ⟨z,hz⟩:∃ z,w3.heap.size=z:=⟨_,rfl⟩
        rw [hz] at he4 hgl ⊢
        have hne:g ≠ z:=by omega
        have HZ:=Lib.hid hz
        clear f0 f1 d0 d1 hz
        generalize w3.alloc (.cells #[.string nm,.int .i64 nd,.bool dr,.int .i64 ck,.int .i64 sh] 88)=W4 at hf4 hb4 he4 ⊢
        have f0:W4.frozen? ⟨g,0,none⟩=false:=hb4.frozen 0
        have f1:W4.frozen? ⟨g,1,none⟩=false:=hb4.frozen 1
        have d0:W4.cell? ⟨g,0,none⟩=some (.int .i64 d):=hb4.cell 0
        have d1:W4.cell? ⟨g,1,none⟩=some (.bool b):=hb4.cell 1
        have e1:W4.cell? ⟨z,1,none⟩=some (.int .i64 nd):=he4.cell 1
        have e2:W4.cell? ⟨z,2,none⟩=some (.bool dr):=he4.cell 2
        have HB4:=Lib.hid (And.intro hb4 (And.intro he4 (HF3.out.trans hf4)))
        clear hb4 he4 hf4
        have HQ1:Hid (WkAt ((W4.setCell ⟨g,0,none⟩ (.int .i64 nd)).setCell ⟨g,1,none⟩ (.bool dr)).drew g t nd dr∧Mut (fun j=>j=g) w ((W4.setCell ⟨g,0,none⟩ (.int .i64 nd)).setCell ⟨g,1,none⟩ (.bool dr)).drew):=Lib.hid (by
          obtain ⟨h1,_,h3⟩:=HB4.out
          have h4:Blk _ g 217 #[.int .i64 nd,.bool b,lsF t]:=h1.set (i:=0) (u:=.int .i64 nd)
          have h5:Blk _ g 217 #[.int .i64 nd,.bool dr,lsF t]:=h4.set (i:=1) (u:=.bool dr)
          exact ⟨h5.keep (Fresh.drew (Fresh.refl _)),(((h3.mut (fun j=>j=g)).setCell (p:=⟨g,0,none⟩) (.inl rfl) _).setCell (p:=⟨g,1,none⟩) (.inl rfl) _).drew⟩)
        have HQ2:Hid (WkAt ((W4.setCell ⟨g,1,none⟩ (.bool dr)).setCell ⟨g,0,none⟩ (.int .i64 nd)).drew g t nd dr∧Mut (fun j=>j=g) w ((W4.setCell ⟨g,1,none⟩ (.bool dr)).setCell ⟨g,0,none⟩ (.int .i64 nd)).drew):=Lib.hid (by
          obtain ⟨h1,_,h3⟩:=HB4.out
          have h4:Blk _ g 217 #[.int .i64 d,.bool dr,lsF t]:=h1.set (i:=1) (u:=.bool dr)
          have h5:Blk _ g 217 #[.int .i64 nd,.bool dr,lsF t]:=h4.set (i:=0) (u:=.int .i64 nd)
          exact ⟨h5.keep (Fresh.drew (Fresh.refl _)),(((h3.mut (fun j=>j=g)).setCell (p:=⟨g,1,none⟩) (.inl rfl) _).setCell (p:=⟨g,0,none⟩) (.inl rfl) _).drew⟩)
        go_region
        all_goals
          go_wp2
          go_ret
          first
          | exact .inr ⟨_,HR5.out,rfl,HQ1.out.1,HQ1.out.2⟩
          | exact .inr ⟨_,HR5.out,rfl,HQ2.out.1,HQ2.out.2⟩
open Go.RowKit
theorem splitP_len {s:ByteArray} {l:List ByteArray} (h:splitP s=.inl l):l.length≤16:=by
  unfold splitP at h
  split at h
  · cases h
  · split at h
    · cases h
    · split at h
      · injection h with h;subst h;simp
      · split at h
        · cases h
        · split at h
          · cases h
          · injection h with h;subst h;omega
def WallPost (r:(Int × Bool) ⊕ Int) (t:Nat) (w:World) (e:Ending) (w':World):Prop :=
  (∃ k,k ≠ 0∧r=.inr k∧e=.returned (.tuple #[.pointer none,.int .i64 k])∧Fresh w w')∨(∃ g n b,r=.inl (n,b)∧e=.returned (.tuple #[.pointer (some ⟨g,0,none⟩),.int .i64 0])∧WkAt w' g t n b∧I64 n∧Fresh w w')
def WaRel (enc:Int) (T:TreS) (l:List ByteArray) (g t:Nat) (w:World) (i:Value) (wr:World):Prop :=
  ∃ (k:Nat) (n:Int) (b:Bool),i=.int .i64 k∧k≤l.length∧walkT enc T (n,b) (l.drop k)=walkT enc T (0,true) l∧WkAt wr g t n b∧I64 n∧Fresh w wr
theorem stepT_node {enc:Int} {T:TreS} (hT:TOK enc T) {d:Int} {name:ByteArray} {x:Ent} (h:stepT enc T d name=.inl x):I64 x.node:=by
  unfold stepT at h
  split at h
  · cases h
  · rename_i l hl
    split at h
    · cases h
    · rename_i e he
      injection h with h
      subst h
      exact hT.node d l hl _ (List.mem_of_find?_eq_some he)
set_option maxRecDepth 100000 in
set_option maxHeartbeats 1600000 in
theorem wall_any (enc:Int) (A A2:Nat→Prop) (t:Nat) (T:TreS) (q:Nat) (hT:TOK enc T) (v:Value) (l:List ByteArray) (w:World) (h:TreeAt w A t T q) (hv:SlS w A2 v l) (hl:l.length≤1000000) (hGT:GT w) :
    Calls Tryz.prog 141 #[.int .i64 enc,.pointer (some ⟨t,0,none⟩),v] w (WallPost (walkT enc T (0,true) l) t w):=by
  have HST:=Lib.hid (fun g d b name W (hW:Fresh w W) hk hd=>step_any enc A t T q hT g d b name W (h.fresh hW) hk hd (hGT.fresh hW))
  have HTT:=Lib.hid hT
  obtain ⟨a,c,rfl⟩:∃ a c,v=.slice a l.length c:=by obtain ⟨_,a,c,q,_⟩:=hv;exact ⟨a,c,q⟩
  have HV:=Lib.hid hv.cases
  obtain ⟨n,hn⟩:∃ n,l.length=n:=⟨_,rfl⟩
  have HN:=Lib.hid hn
  rw [hn] at hl ⊢
  clear h hT hv hn
  go_enter Tryz.func141,Tryz.ntmps141
  go_wp2_with fail
  have HWK:=Lib.hid (Blk.new w 217 #[.int .i64 0,.bool true,lsF t])
  unfold lsF at HWK
  go_loopw [18] (fun i wr=>WaRel enc T l w.heap.size t w i wr) (fun i _=>n - (intOf i).toNat)
  case atStart=>exact ⟨0,0,true,rfl,Nat.zero_le _,rfl,HWK.out,⟨by omega,by omega⟩,(Fresh.refl _).alloc _⟩
  case round =>
    obtain ⟨k,nd,b,rfl,hk,hwk,hat,hi,hf⟩:=hrel
    obtain ⟨g,hg⟩:∃ g,w.heap.size=g:=⟨_,rfl⟩
    have HG:=Lib.hid hg
    rw [hg] at hat ⊢
    have HWL:=Lib.hid hwk
    have HAT:=Lib.hid hat
    have HF:=Lib.hid hf
    rw [HN.out] at hk
    clear hg hwk hat hf
    by_cases hlt:k<n
    · have i1:(k:Int)<(n:Int):=by omega
      have hkl:k<l.length:=by rw [HN.out];exact hlt
      rcases HV.out with ⟨h0,_⟩ | ⟨_,gs,off,cap,hv,_,_,hgs,hc⟩
      · rw [h0] at hkl;simp at hkl
      · injection hv with hv1 _ hv2
        subst hv1 hv2
        obtain ⟨name,hname⟩:∃ name,l[k]=name:=⟨_,rfl⟩
        have c0:=(Below.cell HF.out (p:=⟨gs,off+k,none⟩) hgs).trans (hc k hkl)
        rw [hname] at c0
        have HDR:Hid (l.drop k=name :: l.drop (k+1)):=Lib.hid (by rw [List.drop_eq_getElem_cons hkl,hname])
        have HS:=Lib.hid (HST.out g nd b name wr HF.out HAT.out hi)
        clear hc hname
        go_wp2_with fail
        refine HS.out.mono ?_
        rintro e w2 (⟨j,hj,hst,rfl,hf2⟩ | ⟨x,hst,rfl,hat2,hm2⟩)
        · have hjb:(j != 0)=true:=by simp [hj]
          have HR:Hid (walkT enc T (0,true) l=.inr j):=Lib.hid (by rw [← HWL.out,HDR.out];unfold walkT;rw [hst])
          have HF2:=Lib.hid (HF.out.trans hf2)
          have HJ:=Lib.hid hj
          clear hst hf2 hj c0
          go_wp2
          go_ret2
          exact .inl ⟨j,HJ.out,HR.out,rfl,HF2.out⟩
        · have HR:Hid (walkT enc T (x.node,x.dir) (l.drop (k+1))=walkT enc T (0,true) l):=Lib.hid (by
            rw [← HWL.out,HDR.out]
            conv=>rhs;unfold walkT
            rw [hst])
          have HI:=Lib.hid (stepT_node HTT.out hst)
          have HF2:=Lib.hid (HF.out.mut2 hm2 (fun j hj=>by have:=HG.out;omega))
          have HA2:=Lib.hid hat2
          clear hst hat2 hm2 c0
          go_wp2
          go_roundw
          case rel=>exact ⟨k+1,x.node,x.dir,by go_num,by have:=HN.out;omega,HR.out,HA2.out,HI.out,HF2.out⟩
          case measure=>simp [intOf];omega
    · have i1:¬ (k:Int)<(n:Int):=by omega
      have HR:Hid (walkT enc T (0,true) l=.inl (nd,b)):=Lib.hid (by rw [← HWL.out,List.drop_of_length_le (by have:=HN.out;omega)];rfl)
      go_wp2
      go_ret2
      exact .inr ⟨g,nd,b,HR.out,rfl,HAT.out,hi,HF.out⟩
def NodePost (r:(Int × Bool) ⊕ Int) (w:World) (e:Ending) (w':World):Prop :=
  (∃ k,k ≠ 0∧r=.inr k∧e=.returned (.tuple #[.int .i64 0,.bool false,.int .i64 k])∧Fresh w w')∨(∃ n b,r=.inl (n,b)∧I64 n∧e=.returned (.tuple #[.int .i64 n,.bool b,.int .i64 0])∧Fresh w w')
set_option maxRecDepth 100000 in
set_option maxHeartbeats 1600000 in
theorem wnode_any (enc:Int) (A:Nat→Prop) (t:Nat) (T:TreS) (q:Nat) (hT:TOK enc T) (s:ByteArray) (hs:s.size≤1000000) (w:World) (h:TreeAt w A t T q) (hGT:GT w) :
    Calls Tryz.prog 87 #[.int .i64 enc,.pointer (some ⟨t,0,none⟩),.string s] w (NodePost (pathT enc T s) w):=by
  have HSP:=Lib.hid (wsplit_any s hs w)
  have HTT:=Lib.hid (And.intro hT h)
  clear h hT
  go_enter Tryz.func87,Tryz.ntmps87
  go_wp2_with fail
  refine HSP.out.mono ?_
  rintro e w1 (⟨k,hk,hsp,rfl,hf⟩ | ⟨l,a,c,hsp,rfl,hsl,hf⟩)
  · have hkb:(k != 0)=true:=by simp [hk]
    have HR:Hid (pathT enc T s=.inr k):=Lib.hid (by unfold pathT;rw [hsp])
    have HK:=Lib.hid (And.intro hk hf)
    clear hk hsp hf
    go_wp2
    go_ret3
    exact .inl ⟨k,HK.out.1,HR.out,rfl,HK.out.2⟩
  · have HR:Hid (pathT enc T s=walkT enc T (0,true) l):=Lib.hid (by unfold pathT;rw [hsp])
    have hll:l.length≤1000000:=by have:=splitP_len hsp;omega
    have HW:=Lib.hid (wall_any enc A _ t T q HTT.out.1 _ l w1 (HTT.out.2.fresh hf) hsl hll (hGT.fresh hf))
    have HF:=Lib.hid hf
    clear hsp hsl hf hll
    go_wp2_with fail
    refine HW.out.mono ?_
    rintro e w2 (⟨k,hk,hwl,rfl,hf2⟩ | ⟨g,n,b,hwl,rfl,hat,hi,hf2⟩)
    · have hkb:(k != 0)=true:=by simp [hk]
      have HK:=Lib.hid (And.intro hk (And.intro (HR.out.trans hwl) (HF.out.trans hf2)))
      clear hk hwl hf2
      go_wp2
      go_ret3
      exact .inl ⟨k,HK.out.1,HK.out.2.1,rfl,HK.out.2.2⟩
    · have HK:=Lib.hid (And.intro hi (And.intro (HR.out.trans hwl) (HF.out.trans hf2)))
      have c0:w2.cell? ⟨g,0,none⟩=some (.int .i64 n):=hat.cell 0
      have c1:w2.cell? ⟨g,1,none⟩=some (.bool b):=hat.cell 1
      clear hat hi hwl hf2
      go_wp2_with fail
      go_region
      all_goals
        go_wp2
        go_ret3
        exact .inr ⟨n,b,HK.out.2.1,HK.out.1,rfl,HK.out.2.2.drew⟩
open Go.RowKit
theorem SlS.init {w:World} {A:Nat→Prop} {a:Option Addr} {c:Nat} {l:List ByteArray} (h:SlS w A (.slice a l.length c) l):SlS w A (.slice a (l.length - 1) c) l.dropLast:=by
  obtain ⟨h1,a',c',e,hcap,h2⟩:=h
  injection e with e1 _ e2
  subst e1 e2
  refine ⟨by rw [strs_len];simp,a,c,by simp,by simp;omega,?_⟩
  rcases h2 with h0 | ⟨g,off,rfl,hA,hg,hc⟩
  · exact .inl (by simp;omega)
  · refine .inr ⟨g,off,rfl,hA,hg,fun j hj=>?_⟩
    rw [hc j (by simp at hj;omega)]
    simp only [strs,List.getElem?_map]
    rw [List.getElem?_dropLast]
    rw [if_pos (by simp at hj;omega)]
def ParPost (r:(Int × ByteArray) ⊕ Int) (w:World) (e:Ending) (w':World):Prop :=
  (∃ k,k ≠ 0∧r=.inr k∧e=.returned (.tuple #[.int .i64 0,.string ⟨#[]⟩,.int .i64 k])∧Fresh w w')∨(∃ n s,r=.inl (n,s)∧I64 n∧e=.returned (.tuple #[.int .i64 n,.string s,.int .i64 0])∧Fresh w w')
set_option maxRecDepth 100000 in
set_option maxHeartbeats 1600000 in
theorem wpar_any (enc:Int) (A:Nat→Prop) (t:Nat) (T:TreS) (q:Nat) (hT:TOK enc T) (s:ByteArray) (hs:s.size≤1000000) (w:World) (h:TreeAt w A t T q) (hGT:GT w) :
    Calls Tryz.prog 182 #[.int .i64 enc,.pointer (some ⟨t,0,none⟩),.string s] w (ParPost (parT enc T s) w):=by
  have HSP:=Lib.hid (wsplit_any s hs w)
  have HTT:=Lib.hid (And.intro hT h)
  clear h hT
  go_enter Tryz.func182,Tryz.ntmps182
  go_wp2_with fail
  refine HSP.out.mono ?_
  rintro e w1 (⟨k,hk,hsp,rfl,hf⟩ | ⟨l,a,c,hsp,rfl,hsl,hf⟩)
  · have hkb:(k != 0)=true:=by simp [hk]
    have HR:Hid (parT enc T s=.inr k):=Lib.hid (by unfold parT;rw [hsp])
    have HK:=Lib.hid (And.intro hk hf)
    clear hk hsp hf
    go_wp2
    go_ret3
    exact .inl ⟨k,HK.out.1,HR.out,rfl,HK.out.2⟩
  · by_cases h0:l=[]
    · subst h0
      have HR:Hid (parT enc T s=.inr 1):=Lib.hid (by unfold parT;rw [hsp];simp)
      have HF:=Lib.hid hf
      clear hsp hsl hf
      go_wp2
      go_ret3
      exact .inl ⟨1,by omega,HR.out,rfl,HF.out⟩
    · have hl16:=splitP_len hsp
      have hl1:1≤l.length:=List.length_pos_iff.2 h0
      obtain ⟨n,hn⟩:∃ n,l.length=n+1:=⟨l.length - 1,by omega⟩
      have HR:Hid (parT enc T s=match walkT enc T (0,true) l.dropLast with
        | .inr k=>.inr k
        | .inl st=>if st.2=true then .inl (st.1,l.getLastD ByteArray.empty) else .inr 8):=Lib.hid (by
          conv=>lhs;unfold parT
          rw [hsp]
          simp only
          rw [if_neg h0]
          cases walkT enc T (0,true) l.dropLast <;> rfl)
      have hcs:=hsl.cases
      have hin:=SlS.init hsl
      have hcap:n+1≤c:=by
        obtain ⟨_,a',c',e,hc,_⟩:=hsl
        injection e with _ _ e2
        rw [e2];omega
      obtain ⟨last,hlast⟩:∃ last,l.getLastD ByteArray.empty=last:=⟨_,rfl⟩
      have hll:l[n]'(by omega)=last:=by
        rw [← hlast,List.getLastD_eq_getLast?,List.getLast?_eq_getElem?]
        rw [show l.length - 1=n by omega,List.getElem?_eq_getElem (by omega)]
        rfl
      rw [hn] at hin ⊢
      rw [show n+1 - 1=n by omega] at hin
      have hdl:l.dropLast.length=n:=by simp;omega
      have hin2:SlS w1 (fun g=>w.heap.size≤g) (.slice a l.dropLast.length c) l.dropLast:=by rw [hdl];exact hin
      have HW:=Lib.hid (wall_any enc A _ t T q HTT.out.1 _ l.dropLast w1 (HTT.out.2.fresh hf) hin2 (by omega) (hGT.fresh hf))
      rw [hdl] at HW
      rw [hlast] at HR
      have HF:=Lib.hid hf
      obtain ⟨g0,off,rfl,hg0,hcell⟩:∃ g off,a=some ⟨g,off,none⟩∧g<w1.heap.size∧w1.cell? ⟨g,off+n,none⟩=some (.string last):=by
        rcases hcs with ⟨q0,_⟩ | ⟨_,g,off,cap,hv,_,_,hg,hc⟩
        · exact absurd q0 h0
        · injection hv with hv1 _ _
          exact ⟨g,off,hv1,hg,by rw [← hll];exact hc n (by omega)⟩
      have i1:(n:Int)+1 - 1=n:=by omega
      have i2:(0:Int)≤(n:Int):=by omega
      have i3:(n:Int)≤(c:Int):=by omega
      have i4:(n:Int)<(n:Int)+1:=by omega
      have i5:n≤c:=by omega
      have HL16:n≤16:=by omega
      clear hsp hsl hf hin hin2 hdl hlast hll hcs h0 hl1 hn hl16 hcap
      go_wp2_with fail
      refine HW.out.mono ?_
      rintro e w2 (⟨k,hk,hwl,rfl,hf2⟩ | ⟨g,nd,b,hwl,rfl,hat,hi,hf2⟩)
      · have hkb:(k != 0)=true:=by simp [hk]
        have HK:=Lib.hid (And.intro hk (And.intro (HF.out.trans hf2) (show parT enc T s=.inr k by rw [HR.out,hwl])))
        clear hk hwl hf2
        go_wp2
        go_ret3
        exact .inl ⟨k,HK.out.1,HK.out.2.2,rfl,HK.out.2.1⟩
      · have c0:w2.cell? ⟨g,0,none⟩=some (.int .i64 nd):=hat.cell 0
        have c1:w2.cell? ⟨g,1,none⟩=some (.bool b):=hat.cell 1
        have c2:=(Below.cell hf2 (p:=⟨g0,off+n,none⟩) hg0).trans hcell
        have HQ:Hid (parT enc T s=if b=true then .inl (nd,last) else .inr 8):=Lib.hid (by rw [HR.out,hwl])
        have HK:=Lib.hid (And.intro hi (HF.out.trans hf2))
        clear hat hi hwl hf2 hcell hg0
        cases b with
        | false =>
          have HQ2:Hid (parT enc T s=.inr 8):=Lib.hid (by rw [HQ.out];rfl)
          go_wp2
          go_ret3
          exact .inl ⟨8,by omega,HQ2.out,rfl,HK.out.2⟩
        | true =>
          have HQ2:Hid (parT enc T s=.inl (nd,last)):=Lib.hid (by rw [HQ.out];rfl)
          go_wp2_with fail
          go_region
          all_goals
            go_wp2
            go_ret3
            exact .inr ⟨nd,last,HQ2.out,HK.out.1,rfl,HK.out.2.drew⟩
open Go.RowKit
attribute [local go_sem ↓] Go.wp_at_zero Go.wp_at_succ
def LsAny (l:List Ent) (w:World) (e:Ending) (w':World):Prop:=∃ a c k,e=.returned (.tuple #[.slice a l.length c,.int .i64 k])∧SlE w' (fun g=>w.heap.size≤g) (.slice a l.length c) l∧Fresh w w'
theorem ls_any {A:Nat→Prop} {t:Nat} {T:TreS} {q:Nat} {d:Int} {w:World} {enc:Int} (h:TreeAt w A t T q) (hd:I64 d) (hT:TOK enc T):Calls Tryz.prog 35 #[.pointer (some ⟨t,0,none⟩),.int .i64 d] w (LsAny ((T.dirs d).getD []) w):=by
  cases hl:T.dirs d with
  | some l =>
    refine (ls_yes h hd hl (hT.len d l hl)).mono ?_
    rintro e w' ⟨a,c,rfl,ho,hf⟩
    exact ⟨a,c,0,rfl,OwnE.sl ho,hf⟩
  | none =>
    refine (ls_no h hd hl).mono ?_
    rintro e w' ⟨rfl,hf⟩
    exact ⟨none,0,_,rfl,SlG.nil _ _ _,hf⟩
theorem TOK.of2 {enc:Int} {T:TreS} (hT:TOK enc T) (d:Int):∀ e ∈ (T.dirs d).getD [],OfOK enc e:=by
  cases hl:T.dirs d with
  | some l=>exact hT.of d l hl
  | none=>intro e he;simp at he
theorem TOK.len2 {enc:Int} {T:TreS} (hT:TOK enc T) (d:Int):((T.dirs d).getD []).length≤10000:=by
  cases hl:T.dirs d with
  | some l=>exact hT.len d l hl
  | none=>simp
def nvR:(Int × Bool) ⊕ Int→Int × Bool × Int
  | .inr k=>(0,false,k)
  | .inl (n,b)=>(n,b,0)
def pvR:(Int × ByteArray) ⊕ Int→Int × ByteArray × Int
  | .inr k=>(0,⟨#[]⟩,k)
  | .inl (n,s)=>(n,s,0)
def NodeF (r:Int × Bool × Int) (w:World) (e:Ending) (w':World):Prop:=e=.returned (.tuple #[.int .i64 r.1,.bool r.2.1,.int .i64 r.2.2])∧Fresh w w'
def ParF (r:Int × ByteArray × Int) (w:World) (e:Ending) (w':World):Prop:=e=.returned (.tuple #[.int .i64 r.1,.string r.2.1,.int .i64 r.2.2])∧Fresh w w'
theorem NodePost.fn {r:(Int × Bool) ⊕ Int} {w:World} {e:Ending} {w':World} (h:NodePost r w e w'):NodeF (nvR r) w e w':=by
  rcases h with ⟨k,_,rfl,rfl,hf⟩ | ⟨n,b,rfl,_,rfl,hf⟩
  · exact ⟨rfl,hf⟩
  · exact ⟨rfl,hf⟩
theorem ParPost.fn {r:(Int × ByteArray) ⊕ Int} {w:World} {e:Ending} {w':World} (h:ParPost r w e w'):ParF (pvR r) w e w':=by
  rcases h with ⟨k,_,rfl,rfl,hf⟩ | ⟨n,b,rfl,_,rfl,hf⟩
  · exact ⟨rfl,hf⟩
  · exact ⟨rfl,hf⟩
def FsV (w:World) (f s:Nat) (enc:Int) (tr:Nat):Prop:=Blk w f 152 #[.pointer (some ⟨s,0,none⟩),.int .i64 enc,.pointer (some ⟨tr,0,none⟩)]
section
variable (enc:Int) (A:Nat→Prop) (f s tr:Nat) (T:TreS) (q:Nat) (hT:TOK enc T) (w:World) (hv:FsV w f s enc tr) (h:TreeAt w A tr T q) (hGT:GT w)
include hT hv h hGT
set_option maxRecDepth 100000 in
set_option maxHeartbeats 1600000 in
theorem lookup_any (path:ByteArray) (hp:path.size≤1000000):Calls Tryz.prog 41 #[.pointer (some ⟨f,0,none⟩),.string path] w (NodeF (nvR (pathT enc T path)) w):=by
  have c1:w.cell? ⟨f,1,none⟩=some (.int .i64 enc):=hv.cell 1
  have c2:w.cell? ⟨f,2,none⟩=some (.pointer (some ⟨tr,0,none⟩)):=hv.cell 2
  have HN:=Lib.hid (fun W (hW:Fresh w W)=>(wnode_any enc A tr T q hT path hp W (h.fresh hW) (hGT.fresh hW)).mono fun _ _ h=>h.fn)
  obtain ⟨r,hr⟩:∃ r,nvR (pathT enc T path)=r:=⟨_,rfl⟩
  rw [hr] at HN ⊢
  obtain ⟨n,b,k⟩:=r
  have HS:Hid (∀ W,Fresh w W→W.cell? ⟨f,1,none⟩=some (.int .i64 enc)∧W.cell? ⟨f,2,none⟩=some (.pointer (some ⟨tr,0,none⟩))):=Lib.hid (fun W hW=>⟨(Blk.keep hv hW).cell 1,(Blk.keep hv hW).cell 2⟩)
  clear hv h hT hr
  go_enter Tryz.func41,Tryz.ntmps41
  go_wp2_with fail
  go_region_held3 (fun W=>W.cell? ⟨f,1,none⟩=some (.int .i64 enc)∧W.cell? ⟨f,2,none⟩=some (.pointer (some ⟨tr,0,none⟩))) (first | go_keep | exact HS.out _ (by repeat (first | assumption | exact Fresh.refl _ | refine Fresh.alloc ?_ _ | refine Fresh.drew ?_))) (first
    | (go_at_call 87;refine (HN.out _ (by repeat (first | exact Fresh.refl _ | refine Fresh.drew ?_))).mono ?_;rintro e w2 ⟨rfl,hf2⟩;have hf3:Fresh w w2:=Fresh.trans (by repeat (first | exact Fresh.refl _ | refine Fresh.drew ?_)) hf2;have HF:=Lib.hid hf3;clear hf2))
  all_goals
    go_wp2
    go_ret3
    exact ⟨rfl,HF.out⟩
end
end Go.Proofs.YtpmlggjhfiljmaaGreatDoor
namespace Go.Proofs.YtpmlggjhfiljmaaGreatDoor
open Go.RowKit
attribute [local go_sem ↓] Go.wp_at_zero Go.wp_at_succ
theorem splitP_ne {s:ByteArray} {k:Int} (h:splitP s=.inr k):k ≠ 0:=by
  unfold splitP at h
  split at h
  · injection h with h;omega
  · split at h
    · injection h with h;omega
    · split at h
      · cases h
      · split at h
        · injection h with h;omega
        · split at h
          · injection h with h;omega
          · cases h
theorem stepT_ne {enc:Int} {T:TreS} {d:Int} {s:ByteArray} {k:Int} (h:stepT enc T d s=.inr k):k ≠ 0:=by
  unfold stepT at h
  split at h
  · injection h with h;rw [← h];split <;> omega
  · split at h
    · injection h with h;omega
    · cases h
theorem walkT_ne {enc:Int} {T:TreS} {k:Int}:∀ {l:List ByteArray} {st:Int × Bool},walkT enc T st l=.inr k→k ≠ 0
  | [],st,h=>by unfold walkT at h;cases h
  | n :: l,st,h=>by
    unfold walkT at h
    split at h
    · exact walkT_ne h
    · rename_i k' hk'
      injection h with h
      subst h
      exact stepT_ne hk'
theorem walkT_node {enc:Int} {T:TreS} (hT:TOK enc T) {st':Int × Bool}:∀ {l:List ByteArray} {st:Int × Bool},I64 st.1→walkT enc T st l=.inl st'→I64 st'.1
  | [],st,hi,h=>by unfold walkT at h;injection h with h;subst h;exact hi
  | n :: l,st,hi,h=>by
    unfold walkT at h
    split at h
    · rename_i e he
      exact walkT_node hT (stepT_node hT he) h
    · cases h
theorem i64_0:I64 0:=⟨by omega,by omega⟩
theorem pathT_ne {enc:Int} {T:TreS} {s:ByteArray} {k:Int} (h:pathT enc T s=.inr k):k ≠ 0:=by
  unfold pathT at h
  split at h
  · rename_i k' hk
    injection h with h
    subst h
    exact splitP_ne hk
  · exact walkT_ne h
theorem pathT_node {enc:Int} {T:TreS} (hT:TOK enc T) {s:ByteArray} {st:Int × Bool} (h:pathT enc T s=.inl st):I64 st.1:=by
  unfold pathT at h
  split at h
  · cases h
  · exact walkT_node hT (show I64 ((0:Int),true).1 from i64_0) h
theorem parT_ne {enc:Int} {T:TreS} {s:ByteArray} {k:Int} (h:parT enc T s=.inr k):k ≠ 0:=by
  unfold parT at h
  split at h
  · rename_i k' hk
    injection h with h
    subst h
    exact splitP_ne hk
  · split at h
    · injection h with h;omega
    · split at h
      · rename_i k' hk
        injection h with h
        subst h
        exact walkT_ne hk
      · split at h
        · cases h
        · injection h with h;omega
theorem parT_node {enc:Int} {T:TreS} (hT:TOK enc T) {s:ByteArray} {r:Int × ByteArray} (h:parT enc T s=.inl r):I64 r.1:=by
  unfold parT at h
  split at h
  · cases h
  · split at h
    · cases h
    · split at h
      · cases h
      · rename_i st hst
        split at h
        · injection h with h
          subst h
          exact walkT_node hT (show I64 ((0:Int),true).1 from i64_0) hst
        · cases h
def atR (enc:Int) (T:TreS) (path:ByteArray):Int × ByteArray × Ent × Int:=match parT enc T path with
  | .inr k=>(0,⟨#[]⟩,ent0,k)
  | .inl r=>match ((T.dirs r.1).getD []).find? (faceB enc r.2) with
    | none=>(r.1,r.2,ent0,5)
    | some e=>(r.1,r.2,e,0)
def AtF (r:Int × ByteArray × Ent × Int) (w:World) (e:Ending) (w':World):Prop:=e=.returned (.tuple #[.int .i64 r.1,.string r.2.1,entV r.2.2.1,.int .i64 r.2.2.2])∧Fresh w w'
section
variable (enc:Int) (A:Nat→Prop) (f s tr:Nat) (T:TreS) (q:Nat) (hT:TOK enc T) (w:World) (hv:FsV w f s enc tr) (h:TreeAt w A tr T q) (hGT:GT w)
include hT hv h hGT
set_option maxRecDepth 100000 in
set_option maxHeartbeats 3200000 in
theorem at_any2 (path:ByteArray) (hp:path.size≤1000000):Calls Tryz.prog 126 #[.pointer (some ⟨f,0,none⟩),.string path] w (AtF (atR enc T path) w):=by
  have HP:=Lib.hid (fun W (hW:Fresh w W)=>(wpar_any enc A tr T q hT path hp W (h.fresh hW) (hGT.fresh hW)).mono fun _ _ h=>h.fn)
  have HLS:=Lib.hid (fun d hd W (hW:Fresh w W)=>ls_any (d:=d) (h.fresh hW) hd hT)
  have HO:=Lib.hid hT.of2
  have HLN:=Lib.hid hT.len2
  have HS:Hid (∀ W,Fresh w W→W.cell? ⟨f,1,none⟩=some (.int .i64 enc)∧W.cell? ⟨f,2,none⟩=some (.pointer (some ⟨tr,0,none⟩))):=Lib.hid (fun W hW=>⟨(Blk.keep hv hW).cell 1,(Blk.keep hv hW).cell 2⟩)
  have c1:w.cell? ⟨f,1,none⟩=some (.int .i64 enc):=hv.cell 1
  have c2:w.cell? ⟨f,2,none⟩=some (.pointer (some ⟨tr,0,none⟩)):=hv.cell 2
  have hfl:=Blk.lt hv
  obtain ⟨W0,hW0⟩:∃ W0,w.alloc (.cells #[.string ⟨#[]⟩,.int .i64 0,.bool false,.int .i64 0,.int .i64 0] 88)=W0:=⟨_,rfl⟩
  have HW0:Hid (Fresh w W0∧Blk W0 w.heap.size 88 #[.string ⟨#[]⟩,.int .i64 0,.bool false,.int .i64 0,.int .i64 0]):=Lib.hid (by rw [← hW0];exact ⟨(Fresh.refl _).alloc _,Blk.new _ _ _⟩)
  unfold atR
  cases hpt:parT enc T path with
  | inr k =>
    rw [hpt] at HP
    unfold pvR at HP
    simp only
    have hk:=parT_ne hpt
    have hkb:(k != 0)=true:=by simp [hk]
    obtain ⟨d1,d2⟩:=HS.out W0 HW0.out.1
    clear hv h hT hpt hk c1 c2
    go_enter Tryz.func126,Tryz.ntmps126
    go_wp2_with fail
    go_region_held3 (fun W=>W.cell? ⟨f,1,none⟩=some (.int .i64 enc)∧W.cell? ⟨f,2,none⟩=some (.pointer (some ⟨tr,0,none⟩))) (first | go_keep | exact HS.out _ (HW0.out.1.trans (by repeat (first | assumption | exact Fresh.refl _ | refine Fresh.alloc ?_ _ | refine Fresh.drew ?_)))) (first
      | (go_at_call 182;refine (HP.out _ (HW0.out.1.trans (by repeat (first | exact Fresh.refl _ | refine Fresh.drew ?_)))).mono ?_;rintro e w2 ⟨rfl,hf2⟩;have hf3:Fresh W0 w2:=Fresh.trans (by repeat (first | exact Fresh.refl _ | refine Fresh.drew ?_)) hf2;clear hf2))
    all_goals
      have HF:=Lib.hid (HW0.out.1.trans hf3)
      have hb:=HW0.out.2.keep hf3
      have f0:w2.frozen? ⟨w.heap.size,0,none⟩=false:=hb.frozen 0
      have g0:w2.cell? ⟨w.heap.size,0,none⟩=some (.string ⟨#[]⟩):=hb.cell 0
      have f1:w2.frozen? ⟨w.heap.size,1,none⟩=false:=hb.frozen 1
      have g1:w2.cell? ⟨w.heap.size,1,none⟩=some (.int .i64 0):=hb.cell 1
      have f2:w2.frozen? ⟨w.heap.size,2,none⟩=false:=hb.frozen 2
      have g2:w2.cell? ⟨w.heap.size,2,none⟩=some (.bool false):=hb.cell 2
      have f3:w2.frozen? ⟨w.heap.size,3,none⟩=false:=hb.frozen 3
      have g3:w2.cell? ⟨w.heap.size,3,none⟩=some (.int .i64 0):=hb.cell 3
      have f4:w2.frozen? ⟨w.heap.size,4,none⟩=false:=hb.frozen 4
      have g4:w2.cell? ⟨w.heap.size,4,none⟩=some (.int .i64 0):=hb.cell 4
      have HZ:=Lib.hid (Blk.set5 hb (.string ⟨#[]⟩) (.int .i64 0) (.bool false) (.int .i64 0) (.int .i64 0))
      clear hW0 hf3 d1 d2 hb
      go_wp2
      have hz:=HZ.out
      refine bodyPost_ret (v:=.tuple #[.int .i64 0,.string ⟨#[]⟩,entV ent0,.int .i64 k]) ?_ rfl ?_
      · simp [results,Tryz.results126,go_sem,hz.cell 0,hz.cell 1,hz.cell 2,hz.cell 3,hz.cell 4]
        exact ⟨rfl,rfl,rfl,rfl,rfl⟩
      · exact ⟨rfl,Fresh.setCell (Fresh.setCell (Fresh.setCell (Fresh.setCell (Fresh.setCell HF.out (Nat.le_refl _) _) (Nat.le_refl _) _) (Nat.le_refl _) _) (Nat.le_refl _) _) (Nat.le_refl _) _⟩
  | inl r =>
    rw [hpt] at HP
    obtain ⟨d,nm⟩:=r
    unfold pvR at HP
    simp only
    have hd:I64 d:=parT_node hT hpt
    have HL:=Lib.hid (fun W (hW:Fresh w W)=>HLS.out d hd W hW)
    have HOd:=Lib.hid (HO.out d)
    have HLd:=Lib.hid (HLN.out d)
    obtain ⟨l,hl⟩:∃ l,(T.dirs d).getD []=l:=⟨_,rfl⟩
    rw [hl] at HL HOd HLd ⊢
    obtain ⟨x,hx⟩:∃ x,l.find? (faceB enc nm)=x:=⟨_,rfl⟩
    have HXX:=Lib.hid hx
    rw [hx]
    obtain ⟨d1,d2⟩:=HS.out W0 HW0.out.1
    clear hv h hT hpt c1 c2 hd hl HLS HO HLN hx
    go_enter Tryz.func126,Tryz.ntmps126
    go_wp2_with fail
    go_region_held3 (fun W=>W.cell? ⟨f,1,none⟩=some (.int .i64 enc)∧W.cell? ⟨f,2,none⟩=some (.pointer (some ⟨tr,0,none⟩))) (first | go_keep | exact HS.out _ (HW0.out.1.trans (by repeat (first | assumption | exact Fresh.refl _ | refine Fresh.alloc ?_ _ | refine Fresh.drew ?_)))) (first
      | (go_at_call 182;refine (HP.out _ (HW0.out.1.trans (by repeat (first | exact Fresh.refl _ | refine Fresh.drew ?_)))).mono ?_;rintro e w2 ⟨rfl,hf2⟩;have hf3:Fresh W0 w2:=Fresh.trans (by repeat (first | exact Fresh.refl _ | refine Fresh.drew ?_)) hf2;clear hf2))
    all_goals
      have HF:=Lib.hid (And.intro hf3 (HW0.out.1.trans hf3))
      obtain ⟨e1,e2⟩:=HS.out w2 HF.out.2
      clear hW0 hf3 d1 d2
      go_wp2_with fail
      refine (HL.out _ HF.out.2).mono ?_
      rintro e w3 ⟨a,c,k,rfl,hsl,hf3⟩
      have HF3:=Lib.hid (And.intro (HF.out.1.trans hf3) (HF.out.2.trans hf3))
      have HFD:=Lib.hid (ffind_any enc _ _ l nm w3 hsl (by have:=HLd.out;omega) HOd.out (hGT.fresh HF3.out.2))
      rw [HXX.out] at HFD
      obtain ⟨d1,d2⟩:=HS.out w3 HF3.out.2
      clear hsl hf3 e1 e2
      go_wp2_with fail
      refine HFD.out.mono ?_
      rintro e w4 ⟨rfl,hf4⟩
      have HF4:=Lib.hid (And.intro (HF3.out.1.trans hf4) (HF3.out.2.trans hf4))
      clear hf4 d1 d2
      cases x with
      | none =>
        simp only [Option.getD_none,Option.isSome_none]
        have h45:Fresh w4 (w4.alloc (.cells #[.string ⟨#[]⟩,.int .i64 0,.bool false,.int .i64 0,.int .i64 0] 88)):=(Fresh.refl _).alloc _
        have HF5:=Lib.hid (HF4.out.2.trans h45)
        have hb:=HW0.out.2.keep (HF4.out.1.trans h45)
        have f0:(w4.alloc (.cells #[.string ⟨#[]⟩,.int .i64 0,.bool false,.int .i64 0,.int .i64 0] 88)).frozen? ⟨w.heap.size,0,none⟩=false:=hb.frozen 0
        have g0:(w4.alloc (.cells #[.string ⟨#[]⟩,.int .i64 0,.bool false,.int .i64 0,.int .i64 0] 88)).cell? ⟨w.heap.size,0,none⟩=some (.string ⟨#[]⟩):=hb.cell 0
        have f1:(w4.alloc (.cells #[.string ⟨#[]⟩,.int .i64 0,.bool false,.int .i64 0,.int .i64 0] 88)).frozen? ⟨w.heap.size,1,none⟩=false:=hb.frozen 1
        have g1:(w4.alloc (.cells #[.string ⟨#[]⟩,.int .i64 0,.bool false,.int .i64 0,.int .i64 0] 88)).cell? ⟨w.heap.size,1,none⟩=some (.int .i64 0):=hb.cell 1
        have f2:(w4.alloc (.cells #[.string ⟨#[]⟩,.int .i64 0,.bool false,.int .i64 0,.int .i64 0] 88)).frozen? ⟨w.heap.size,2,none⟩=false:=hb.frozen 2
        have g2:(w4.alloc (.cells #[.string ⟨#[]⟩,.int .i64 0,.bool false,.int .i64 0,.int .i64 0] 88)).cell? ⟨w.heap.size,2,none⟩=some (.bool false):=hb.cell 2
        have f3:(w4.alloc (.cells #[.string ⟨#[]⟩,.int .i64 0,.bool false,.int .i64 0,.int .i64 0] 88)).frozen? ⟨w.heap.size,3,none⟩=false:=hb.frozen 3
        have g3:(w4.alloc (.cells #[.string ⟨#[]⟩,.int .i64 0,.bool false,.int .i64 0,.int .i64 0] 88)).cell? ⟨w.heap.size,3,none⟩=some (.int .i64 0):=hb.cell 3
        have f4:(w4.alloc (.cells #[.string ⟨#[]⟩,.int .i64 0,.bool false,.int .i64 0,.int .i64 0] 88)).frozen? ⟨w.heap.size,4,none⟩=false:=hb.frozen 4
        have g4:(w4.alloc (.cells #[.string ⟨#[]⟩,.int .i64 0,.bool false,.int .i64 0,.int .i64 0] 88)).cell? ⟨w.heap.size,4,none⟩=some (.int .i64 0):=hb.cell 4
        have HZ:=Lib.hid (Blk.set5 hb (.string ⟨#[]⟩) (.int .i64 0) (.bool false) (.int .i64 0) (.int .i64 0))
        clear h45 hb
        unfold ent0
        go_wp2
        have hz:=HZ.out
        refine bodyPost_ret (v:=.tuple #[.int .i64 d,.string nm,entV ent0,.int .i64 5]) ?_ rfl ?_
        · simp [results,Tryz.results126,go_sem,hz.cell 0,hz.cell 1,hz.cell 2,hz.cell 3,hz.cell 4]
          exact ⟨rfl,rfl,rfl,rfl,rfl⟩
        · exact ⟨rfl,Fresh.setCell (Fresh.setCell (Fresh.setCell (Fresh.setCell (Fresh.setCell HF5.out (Nat.le_refl _) _) (Nat.le_refl _) _) (Nat.le_refl _) _) (Nat.le_refl _) _) (Nat.le_refl _) _⟩
      | some y =>
        obtain ⟨yn,yd,yr,yc,ys⟩:=y
        simp only [Option.getD_some,Option.isSome_some]
        obtain ⟨W5,hW5⟩:∃ W5,w4.alloc (.cells #[.string yn,.int .i64 yd,.bool yr,.int .i64 yc,.int .i64 ys] 88)=W5:=⟨_,rfl⟩
        have h45:Fresh w4 W5:=by rw [← hW5];exact (Fresh.refl _).alloc _
        have HF5:=Lib.hid (HF4.out.2.trans h45)
        have hb:=HW0.out.2.keep (HF4.out.1.trans h45)
        have hc:Blk W5 w4.heap.size 88 #[.string yn,.int .i64 yd,.bool yr,.int .i64 yc,.int .i64 ys]:=by rw [← hW5];exact Blk.new _ _ _
        have hne:w.heap.size ≠ w4.heap.size:=by have:=HW0.out.2.lt;have:=HF4.out.1.size;omega
        have f0:W5.frozen? ⟨w.heap.size,0,none⟩=false:=hb.frozen 0
        have g0:W5.cell? ⟨w.heap.size,0,none⟩=some (.string ⟨#[]⟩):=hb.cell 0
        have f1:W5.frozen? ⟨w.heap.size,1,none⟩=false:=hb.frozen 1
        have g1:W5.cell? ⟨w.heap.size,1,none⟩=some (.int .i64 0):=hb.cell 1
        have f2:W5.frozen? ⟨w.heap.size,2,none⟩=false:=hb.frozen 2
        have g2:W5.cell? ⟨w.heap.size,2,none⟩=some (.bool false):=hb.cell 2
        have f3:W5.frozen? ⟨w.heap.size,3,none⟩=false:=hb.frozen 3
        have g3:W5.cell? ⟨w.heap.size,3,none⟩=some (.int .i64 0):=hb.cell 3
        have f4:W5.frozen? ⟨w.heap.size,4,none⟩=false:=hb.frozen 4
        have g4:W5.cell? ⟨w.heap.size,4,none⟩=some (.int .i64 0):=hb.cell 4
        have HZ:=Lib.hid (Blk.set5 hb (.string yn) (.int .i64 yd) (.bool yr) (.int .i64 yc) (.int .i64 ys))
        obtain ⟨z,hz⟩:∃ z,w4.heap.size=z:=⟨_,rfl⟩
        rw [hz] at hc hne
        have HZZ:=Lib.hid hz
        have e0:W5.cell? ⟨z,0,none⟩=some (.string yn):=hc.cell 0
        have e1:W5.cell? ⟨z,1,none⟩=some (.int .i64 yd):=hc.cell 1
        have e2:W5.cell? ⟨z,2,none⟩=some (.bool yr):=hc.cell 2
        have e3:W5.cell? ⟨z,3,none⟩=some (.int .i64 yc):=hc.cell 3
        have e4:W5.cell? ⟨z,4,none⟩=some (.int .i64 ys):=hc.cell 4
        clear h45 hb hc
        go_wp2_with fail
        clear hW5
        go_region
        all_goals
          go_wp2
          have hzz:=HZ.out
          refine bodyPost_ret (v:=.tuple #[.int .i64 d,.string nm,entV ⟨yn,yd,yr,yc,ys⟩,.int .i64 0]) ?_ rfl ?_
          · simp [results,Tryz.results126,go_sem,hzz.cell 0,hzz.cell 1,hzz.cell 2,hzz.cell 3,hzz.cell 4]
          · exact ⟨rfl,Fresh.drew (Fresh.setCell (Fresh.setCell (Fresh.setCell (Fresh.setCell (Fresh.setCell HF5.out (Nat.le_refl _) _) (Nat.le_refl _) _) (Nat.le_refl _) _) (Nat.le_refl _) _) (Nat.le_refl _) _)⟩
end
end Go.Proofs.YtpmlggjhfiljmaaGreatDoor
