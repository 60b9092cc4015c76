/- Part 40 of what the law rests on. -/
import Derived.Laws.StructEq
import Derived.KernelRfl
import Derived.Test.YtpmlggjhfiljmaaGreatDoorCards
import Derived.Lib.LaidU8
import Derived.Deep.Strs
import Derived.Deep.Slices
import Derived.Test.YtpmlggjhfiljmaaGreatDoorS09
import Derived.Test.YtpmlggjhfiljmaaGreatDoorS21
import Derived.Test.YtpmlggjhfiljmaaGreatDoorS24
import Derived.Test.YtpmlggjhfiljmaaGreatDoorS25
import Derived.Test.YtpmlggjhfiljmaaGreatDoorS36
import Derived.Test.YtpmlggjhfiljmaaGreatDoorS39
set_option linter.all false
namespace Go.Proofs.YtpmlggjhfiljmaaGreatDoor
structure Scan (f0:List Ent) (L:List Item) (T:TreS) (at_:Int) (C:List Int):Prop where
  pos:0≤at_∧at_<T.next
  asc:C.Pairwise (·<·)
  le:∀ c ∈ C,1≤c∧c≤at_
  old:∀ e ∈ f0,e.cookie<T.next
  seen:∀ e ∈ f0,e.cookie≤at_→e.cookie ∈ C∨e ∉ inL L 0
theorem asc_len:∀ {C:List Int} {a b:Int},C.Pairwise (·<·)→(∀ c ∈ C,a≤c∧c≤b)→a≤b+1→(C.length:Int)≤b+1 - a
  | [],a,b,_,_,h=>by simp;omega
  | x :: C,a,b,h1,h2,h3=>by
    rw [List.pairwise_cons] at h1
    have hx:=h2 x (by simp)
    have ih:=asc_len (a:=x+1) (b:=b) h1.2 (fun c hc=>by have:=h1.1 c hc;have:=h2 c (by simp [hc]);omega) (by omega)
    simp only [List.length_cons]
    omega
theorem Scan.len {f0:List Ent} {L:List Item} {T:TreS} {at_:Int} {C:List Int} (h:Scan f0 L T at_ C):(C.length:Int)≤at_:=by
  have:=asc_len h.asc h.le (by have:=h.pos;omega)
  omega
theorem Scan.start {enc:Int} {L:List Item} {T:TreS} (h:TR enc L T):Scan (inL L 0) L T 0 []:=by
  have hl:=h.li.len
  refine ⟨⟨by omega,by omega⟩,.nil,(fun c hc=>nomatch hc),fun e he=>?_,fun e he hc=>?_⟩
  · obtain ⟨X,hX,_,rfl⟩:=mem_inL.1 he
    exact (h.li.cook X hX).2
  · obtain ⟨X,hX,_,rfl⟩:=mem_inL.1 he
    have:=(h.li.cook X hX).1
    omega
theorem Scan.grow {f0:List Ent} {L L2:List Item} {T T2:TreS} {at_:Int} {C:List Int} (h:Scan f0 L T at_ C) (hg:Grow L T L2 T2):Scan f0 L2 T2 at_ C:=by
  have hn:=hg.2
  refine ⟨⟨h.pos.1,by have:=h.pos.2;omega⟩,h.asc,h.le,fun e he=>by have:=h.old e he;omega,fun e he hc=>?_⟩
  rcases h.seen e he hc with q | q
  · exact .inl q
  · refine .inr fun r=>?_
    obtain ⟨X,hX,hi,rfl⟩:=mem_inL.1 r
    rcases hg.1 X hX with s | s
    · exact q (mem_inL.2 ⟨X,s,hi,rfl⟩)
    · have:=h.old X.e he;omega
def nextE (l:List Ent) (cur:Int):Option Ent:=l.find? fun e=>decide (cur<e.cookie)
theorem take_one {α:Type} (l:List α):l.take 1=l.head?.toList:=by cases l <;> rfl
theorem read_one (l:List Ent) (cur:Int) (h:0≤cur):readR l cur 1=((nextE l cur).toList,((nextE l cur).map (·.cookie)).getD cur,0):=by
  unfold readR nextE
  rw [if_neg (by omega),if_neg (by omega),show (1:Int).toNat=1 from rfl,take_one,List.head?_filter]
  cases l.find? fun e=>decide (cur<e.cookie) <;> rfl
theorem next_none {l:List Ent} {cur:Int} (h:nextE l cur=none):∀ e ∈ l,e.cookie≤cur:=fun e he=>by
  have:=List.find?_eq_none.1 h e he
  simp at this
  omega
theorem Scan.step {enc:Int} {f0:List Ent} {L:List Item} {T:TreS} {at_:Int} {C:List Int} (h:Scan f0 L T at_ C) (ht:TR enc L T) {e:Ent} (hn:nextE (inL L 0) at_=some e):at_<e.cookie∧Scan f0 L T e.cookie (C++[e.cookie]):=by
  have hm:=List.mem_of_find?_eq_some hn
  have hc:at_<e.cookie:=by have:=List.find?_some hn;simpa using this
  have hr:=ht.rises 0 _ ht.root
  obtain ⟨X,hX,_,rfl⟩:=mem_inL.1 hm
  have hck:=ht.li.cook X hX
  have hp:=h.pos
  refine ⟨hc,⟨by omega,hck.2⟩,?_,fun c hcc=>?_,h.old,fun y hy hcy=>?_⟩
  · rw [List.pairwise_append]
    exact ⟨h.asc,by simp,fun a ha b hb=>by rw [List.mem_singleton] at hb;subst hb;have:=(h.le a ha).2;omega⟩
  · rcases List.mem_append.1 hcc with q | q
    · have:=h.le c q;omega
    · rw [List.mem_singleton] at q;subst q;omega
  · by_cases hya:y.cookie≤at_
    · rcases h.seen y hy hya with q | q
      · exact .inl (List.mem_append.2 (.inl q))
      · exact .inr q
    · by_cases hyi:y ∈ inL L 0
      · refine .inl (List.mem_append.2 (.inr (List.mem_singleton.2 ?_)))
        have hle:X.e.cookie≤y.cookie:=by
          unfold nextE at hn
          obtain ⟨_,l1,l2,hl,has⟩:=List.find?_eq_some_iff_append.1 hn
          rw [hl] at hyi hr
          rcases List.mem_append.1 hyi with q | q
          · have:=has y q;simp at this;omega
          · rcases List.mem_cons.1 q with q | q
            · rw [q];omega
            · have:=(List.pairwise_cons.1 (List.pairwise_append.1 hr).2.1).1 y q
              omega
        omega
      · exact .inr hyi
theorem count_asc {C:List Int} (h:C.Pairwise (·<·)) (x:Int):C.count x≤1:=by
  have:C.Nodup:=h.imp (fun hab e=>by omega)
  exact List.nodup_iff_count.1 this x
theorem Scan.fin {f0:List Ent} {L:List Item} {T:TreS} {at_:Int} {C:List Int} (h:Scan f0 L T at_ C) (hd:∀ e ∈ inL L 0,e.cookie≤at_) {e:Ent} (he:e ∈ f0) (hl:e ∈ inL L 0):C.count e.cookie=1:=by
  rcases h.seen e he (hd e hl) with q | q
  · have h1:=count_asc h.asc e.cookie
    have h2:=List.count_pos_iff.2 q
    omega
  · exact absurd hl q
open Go.RowKit
theorem do17_any {F:Nat→Prop} {w:World} {f:Nat} {enc:Int} {p:Nat} {m n:Int} {L:List Item} {T:TreS} {c:Nat} (h:St w F f enc p m n L T c) (hGT:GT w) (kind:Int) (a b:ByteArray) (is:Bool) (at_ k0:Int) (hk:0≤kind) (ha:a.size≤400) (hb:b.size≤400) (e0:0≤enc) (e8:enc≤8) (hc:c≤90) (hm:0≤m∧m+m≤n) (hn:n≤1000000) (hfit:2+10 * (c:Int)+10≤m) :
    Calls Tryz.prog 33 #[.pointer (some ⟨f,0,none⟩),call17V kind a b is at_ k0] w (Do17Post L T c F f enc p m n w):=by
  have ht:kind.tmod 8=kind % 8:=Int.tmod_eq_emod_of_nonneg hk
  have h8:kind.tmod 8=0∨kind.tmod 8=1∨kind.tmod 8=2∨kind.tmod 8=3∨kind.tmod 8=4∨kind.tmod 8=5∨kind.tmod 8=6∨kind.tmod 8=7:=by rw [ht];omega
  rcases h8 with q | q | q | q | q | q | q | q
  · exact do17_lookup h hGT kind a b is at_ k0 q (by omega) (by omega) (by omega) e0 e8 hc hm hn hfit
  · exact do17_make h hGT kind a b is at_ k0 q (by omega) (by omega) (by omega) e0 e8 hc hm hn hfit
  · exact do17_remove h hGT kind a b is at_ k0 q (by omega) (by omega) (by omega) e0 e8 hc hm hn hfit
  · exact do17_rename h hGT kind a b is at_ k0 q (by omega) (by omega) (by omega) e0 e8 hc hm hn hfit
  · exact do17_list h hGT kind a b is at_ k0 q (by omega) (by omega) (by omega) e0 e8 hc hm hn hfit
  · exact do17_raw h hGT kind a b is at_ k0 q (by omega) (by omega) (by omega) e0 e8 hc hm hn hfit
  · exact do17_plant h hGT kind a b is at_ k0 q (by omega) (by omega) (by omega) e0 e8 hc hm hn hfit
  · exact do17_sync h hGT kind a b is at_ k0 q (by omega) (by omega) (by omega) e0 e8 hc hm hn hfit
structure Cal where
  kind:Int
  a:ByteArray
  b:ByteArray
  is:Bool
  at_:Int
  n:Int
def cc (x:Cal):List Value:=[.int .u8 x.kind,.string x.a,.string x.b,.bool x.is,.int .i64 x.at_,.int .i64 x.n]
def SlC (w:World) (v:Value) (l:List Cal):Prop:=∃ a cap,v=.slice a l.length cap∧l.length≤cap∧(l.length=0∨∃ g off,a=some ⟨g,off,none⟩∧g<w.heap.size ∧
    ∀ k (hk:k<l.length),w.cell? ⟨g,off+k * 6,none⟩=some (.int .u8 l[k].kind)∧w.cell? ⟨g,off+k * 6+1,none⟩=some (.string l[k].a)∧w.cell? ⟨g,off+k * 6+2,none⟩=some (.string l[k].b)∧w.cell? ⟨g,off+k * 6+3,none⟩=some (.bool l[k].is)∧w.cell? ⟨g,off+k * 6+4,none⟩=some (.int .i64 l[k].at_)∧w.cell? ⟨g,off+k * 6+5,none⟩=some (.int .i64 l[k].n))
theorem SlC.fresh {w w':World} {v:Value} {l:List Cal} (h:SlC w v l) (hf:Fresh w w'):SlC w' v l:=by
  obtain ⟨a,cap,h1,h2,h3 | ⟨g,off,h3,h4,h5⟩⟩:=h
  · exact ⟨a,cap,h1,h2,.inl h3⟩
  · refine ⟨a,cap,h1,h2,.inr ⟨g,off,h3,Nat.lt_of_lt_of_le h4 hf.size,fun k hk=>?_⟩⟩
    obtain ⟨c0,c1,c2,c3,c4,c5⟩:=h5 k hk
    exact ⟨(Below.cell hf (p:=⟨g,off+k * 6,none⟩) h4).trans c0,(Below.cell hf (p:=⟨g,off+k * 6+1,none⟩) h4).trans c1,(Below.cell hf (p:=⟨g,off+k * 6+2,none⟩) h4).trans c2,(Below.cell hf (p:=⟨g,off+k * 6+3,none⟩) h4).trans c3,(Below.cell hf (p:=⟨g,off+k * 6+4,none⟩) h4).trans c4,(Below.cell hf (p:=⟨g,off+k * 6+5,none⟩) h4).trans c5⟩
def FewIs (l:List Cal) (n:Int) (b:Bool):Prop:=b=true→(l.length:Int)≤n∧∀ x ∈ l,x.a.size≤400∧x.b.size≤400
def FewPost (l:List Cal) (n:Int) (w:World) (e:Ending) (w':World):Prop:=∃ b,e=.returned (.bool b)∧FewIs l n b∧Fresh w w'
set_option maxRecDepth 100000 in
set_option maxHeartbeats 3200000 in
theorem few_any (v:Value) (l:List Cal) (n:Int) (w:World) (h:SlC w v l) (hn:n≤200):Calls Tryz.prog 32 #[v,.int .i64 n] w (FewPost l n w):=by
  obtain ⟨ad,cap,rfl,hcap,hc⟩:=h
  have HC:=Lib.hid hc
  obtain ⟨ln,hln⟩:∃ ln,l.length=ln:=⟨_,rfl⟩
  have HN:=Lib.hid hln
  rw [hln] at hcap ⊢
  clear hc hln
  go_enter Tryz.func32,Tryz.ntmps32
  go_wp2
  go_loopw [5] (fun i wr=>∃ k:Nat,i=.int .i64 k∧k≤ln∧k≤200∧(∀ j (hj:j<l.length),j<k→l[j].a.size≤400∧l[j].b.size≤400)∧Fresh w wr) (fun i _=>200 - (intOf i).toNat)
  case atStart=>exact ⟨0,rfl,by omega,by omega,fun j _ h=>by omega,Fresh.refl _⟩
  case round =>
    obtain ⟨k,rfl,hk,hk2,hal,hf⟩:=hrel
    have HA:=Lib.hid (And.intro hal hf)
    clear hal hf
    by_cases hlt:k<ln
    · by_cases h2:k<200
      · rcases HC.out with h0 | ⟨g,off,rfl,hg,hc⟩
        · have:=HN.out;omega
        have hkl:k<l.length:=by rw [HN.out];exact hlt
        obtain ⟨_,c1,c2,_⟩:=hc k hkl
        have d1:=(Below.cell HA.out.2 (p:=⟨g,off+k * 6+1,none⟩) hg).trans c1
        have d2:=(Below.cell HA.out.2 (p:=⟨g,off+k * 6+2,none⟩) hg).trans c2
        obtain ⟨xa,hxa⟩:∃ x,l[k].a=x:=⟨_,rfl⟩
        obtain ⟨xb,hxb⟩:∃ x,l[k].b=x:=⟨_,rfl⟩
        have HX:=Lib.hid (And.intro hxa hxb)
        rw [hxa] at d1
        rw [hxb] at d2
        have i1:(k:Int)<(ln:Int):=by omega
        have i2:(k:Int)<200:=by omega
        clear hc c1 c2 hxa hxb
        by_cases ha:400<xa.size
        · have i3:(400:Int)<(xa.size:Int):=by omega
          clear ha
          go_wp2
          go_ret
          exact ⟨false,rfl,(fun q=>nomatch q),HA.out.2⟩
        · have i3:¬ (400:Int)<(xa.size:Int):=by omega
          have HS:=Lib.hid ha
          clear ha
          by_cases hb:400<xb.size
          · have i4:(400:Int)<(xb.size:Int):=by omega
            clear hb
            go_wp2
            go_ret
            exact ⟨false,rfl,(fun q=>nomatch q),HA.out.2⟩
          · have i4:¬ (400:Int)<(xb.size:Int):=by omega
            have HS2:=Lib.hid hb
            clear hb
            go_wp2
            go_roundw
            case rel=>exact ⟨k+1,by go_num,by omega,by omega,fun j hj hjk=>(by
              by_cases e:j=k
              · subst e
                have h1:=HS.out
                have h2:=HS2.out
                rw [HX.out.1,HX.out.2]
                omega
              · exact HA.out.1 j hj (by omega)),HA.out.2⟩
            case measure=>simp [intOf];omega
      · have i1:(k:Int)<(ln:Int):=by omega
        have i2:¬ (k:Int)<200:=by omega
        have i3:(decide ((ln:Int)≤n))=false:=by simp;omega
        go_wp2
        go_ret
        exact ⟨false,by first | rfl | (rw [i3]),(fun q=>nomatch q),HA.out.2⟩
    · have i1:¬ (k:Int)<(ln:Int):=by omega
      go_wp2
      go_ret
      refine ⟨decide ((ln:Int)≤n),rfl,fun q=>⟨by have:=HN.out;simp at q;omega,fun x hx=>?_⟩,HA.out.2⟩
      obtain ⟨j,hj,rfl⟩:=List.mem_iff_getElem.1 hx
      exact HA.out.1 j hj (by have:=HN.out;omega)
theorem LQ.mem {L:List Item} {all:List ByteArray} (h:LQ L all) {raw:ByteArray}:raw ∈ all ↔ ∃ e ∈ Go.Proofs.YtpmlggjhfiljmaaGreatDoor.inL L 0,e.name=raw:=by
  rw [h.inL,← h.names]
  simp only [List.mem_map]
  constructor
  · rintro ⟨x,hx,rfl⟩;exact ⟨x.e,⟨x,hx,rfl⟩,rfl⟩
  · rintro ⟨e,⟨x,hx,rfl⟩,rfl⟩;exact ⟨x,hx,rfl⟩
theorem LQ.good {enc:Int} {L:List Item} {all:List ByteArray} {next:Int} (h:LQ L all) (hl:LI enc L next):∀ raw ∈ all,GoodN raw:=fun raw hr=>by
  rw [← h.names] at hr
  obtain ⟨x,hx,rfl⟩:=List.mem_map.1 hr
  exact hl.good x hx
theorem LQ.len {L:List Item} {all:List ByteArray} (h:LQ L all):L.length=all.length:=by rw [← h.names,List.length_map]
theorem LQ.new {L L2:List Item} {all:List ByteArray} {T T2:TreS} (h:LQ L all) {raw:ByteArray} (hr:raw ∉ all) (hg:GoodN raw) {a b:Int} (ho:LinkOut 0 L T 0 (Go.Proofs.YtpmlggjhfiljmaaGreatDoor.inL L 0) raw false (PickIs 0 (Go.Proofs.YtpmlggjhfiljmaaGreatDoor.inL L 0) raw) a b L2 T2):b=0∧LQ L2 (all++[raw]):=by
  rcases ho with ⟨_,ha,hL,hT,⟨h1,_⟩ | ⟨h1,_⟩ | ⟨_,_,h2⟩⟩ | ⟨hb,_,h1,⟨s,hs,rfl⟩,_⟩
  · have:=hg.2.1;omega
  · exact absurd hg h1
  · exact absurd (h.mem.2 h2) hr
  · exact ⟨hb,h.plant hs⟩
theorem LQ.unlink {L:List Item} {all:List ByteArray} {T:TreS} (h:LQ L all) (ht:TR 0 L T) {x:Item} (hx:x ∈ L):unlinkE T 0 x.e.name false=0:=by
  have hf:=h.file x hx
  unfold unlinkE
  rw [findT_inL ht hx (h.root x hx)]
  simp only
  rw [if_neg (by simp),if_neg (by rw [hf];simp),if_neg]
  intro q
  apply q
  rw [ht.dirs]
  unfold dirsL
  rw [ht.li.file_dir hx hf]
  rfl
open Go.RowKit
open Go.RowKit
attribute [local go_sem ↓] Go.wp_at_zero Go.wp_at_succ
def FTreePost (T:TreS) (w:World) (e:Ending) (w':World):Prop:=∃ x q,e=.returned (.pointer (some ⟨x,0,none⟩))∧TreeAt w' (fun g=>w.heap.size≤g) x T q∧Fresh w w'
theorem St.tree {F:Nat→Prop} {w:World} {f:Nat} {enc:Int} {p:Nat} {m n:Int} {L:List Item} {T:TreS} {c:Nat} (h:St w F f enc p m n L T c) (hc:c≤90):Calls Tryz.prog 34 #[.pointer (some ⟨f,0,none⟩)] w (FTreePost T w):=by
  obtain ⟨⟨k,t,q,qt,hfs,b1,b2,b3,b4,b5⟩,htr,hnx,hbk⟩:=h
  have hTB:=htr.tb (qt:=qt) (by omega) (by omega) (by omega)
  obtain ⟨s,tr,Fs,At,hb,hFf,hFs,hAt,hf1,hf2,hd,hs,ht,hF⟩:=hfs
  have c0:w.cell? ⟨f,0,none⟩=some (.pointer (some ⟨s,0,none⟩)):=hb.cell 0
  have HS:=Lib.hid (stree_any Fs s p m n k t q T qt w hs (by omega) (by omega) (fun i l hl=>by have:=hTB.len i l hl;omega))
  clear hb hs ht hd hF hFs hAt htr hTB
  go_enter Tryz.func34,Tryz.ntmps34
  go_wp2_with fail
  refine HS.out.mono ?_
  rintro e w1 ⟨x,rfl,hx,hf⟩
  have HX:=Lib.hid (And.intro hx hf)
  clear hx hf
  go_wp2
  go_ret
  exact ⟨x,qt,rfl,HX.out.1,HX.out.2⟩
theorem wfU8' {r:Int} (h:(Lit.int .u8 r).wf=true):0≤r∧r<256:=by
  simp [Lit.wf,IntKind.min,IntKind.max,IntKind.signed,IntKind.bits] at h
  omega
end Go.Proofs.YtpmlggjhfiljmaaGreatDoor
namespace Go.Proofs.YtpmlggjhfiljmaaGreatDoor
open Go.RowKit
def entEq (x y:Ent):Bool:=x.name.toList == y.name.toList && x.node == y.node && x.dir == y.dir && x.cookie == y.cookie && x.short == y.short
theorem entEq_eq {x y:Ent} (h:entEq x y=true):x=y:=by
  obtain ⟨x0,x1,x2,x3,x4⟩:=x
  obtain ⟨y0,y1,y2,y3,y4⟩:=y
  unfold entEq at h
  simp only [Bool.and_eq_true,beq_iff_eq] at h
  obtain ⟨⟨⟨⟨h0,h1⟩,h2⟩,h3⟩,h4⟩:=h
  have h0:x0=y0:=by
    rw [ByteArray.toList_eq,ByteArray.toList_eq] at h0
    exact ByteArray.ext (Array.toList_inj.1 h0)
  subst h0 h1 h2 h3 h4
  rfl
theorem eqg_ent:Tryz.prog.eqGuardType Tryz.prog.depth 88=false:=by kernel_rfl
theorem eql_ent (x y:Ent) (w:World):(binOp .eql 88 (entV x) (entV y)).run Tryz.prog w=.ok (.bool (entEq x y)) w:=by
  have u3:=Tryz.underlying3
  have hS:Tryz.prog.underlying 88=some (.struct (Tryz.prog.fieldsOf 88)):=by kernel_rfl
  have hp:Tryz.prog.stoodInHeld 88=false:=by kernel_rfl
  unfold entV
  rw [run_eql_struct,show (10000:Nat)=9999+1 from rfl,run_equalIn_agg w 9999 88 _ _ hS hp]
  simp only [Program.fieldsOf,Tryz.underlying88]
  go_simp
  unfold entEq
  cases h1:(x.name.toList == y.name.toList) <;> cases h2:(x.node == y.node) <;> cases h3:(x.dir == y.dir) <;> cases h4:(x.cookie == y.cookie) <;> cases h5:(x.short == y.short) <;> simp_all
open Go.RowKit
attribute [local go_sem ↓] Go.wp_at_zero Go.wp_at_succ
theorem own_besideA {P:Nat→Prop} {wr w2:World} {F F2:Nat→Prop} {e:TypeId} {sz:Nat} {v:Value} {n:Nat} {xs:List Value} (h:OwnA wr (fun g=>P g∧¬ F g) e sz v n xs) (hm:Mut F wr w2) (hg:Gr F wr w2 F2):OwnA w2 (fun g=>P g∧¬ F2 g) e sz v n xs:=by
  have h1:OwnA wr (fun g=>(P g∧¬ F g)∧g<wr.heap.size) e sz v n xs:=OwnA.mono h (fun g h1 h2=>⟨h2,h1⟩)
  have h2:OwnA w2 (fun g=>(P g∧¬ F g)∧g<wr.heap.size) e sz v n xs:=OwnA.mut h1 hm (fun g hg=>hg.1.2)
  exact OwnA.mono h2 (fun g _ hh=>⟨hh.1.1,fun q=>by
    rcases hg g q with r | r
    · exact hh.1.2 r
    · omega⟩)
theorem sl_beside {P:Nat→Prop} {wr w2:World} {F F2:Nat→Prop} {v:Value} {l:List Ent} (h:SlE wr (fun g=>P g∧¬ F g) v l) (hm:Mut F wr w2) (hg:Gr F wr w2 F2):SlE w2 (fun g=>P g∧¬ F2 g) v l:=by
  have h1:SlE wr (fun g=>(P g∧¬ F g)∧g<wr.heap.size) v l:=SlG.mono h (fun g h1 h2=>⟨h2,h1⟩)
  have h2:SlE w2 (fun g=>(P g∧¬ F g)∧g<wr.heap.size) v l:=SlG.mut h1 hm (fun g hg=>hg.1.2)
  exact SlG.mono h2 (fun g _ hh=>⟨hh.1.1,fun q=>by
    rcases hg g q with r | r
    · exact hh.1.2 r
    · omega⟩)
def OwnC (w:World) (A:Nat→Prop) (v:Value) (l:List Int):Prop:=OwnA w A 2 1 v l.length (l.map (Value.int .i64))
def CaRel (n1:Nat) (f p:Nat) (enc:Int) (w:World) (i:Value) (wr:World):Prop:=∃ (k:Nat) (L:List Item) (T:TreS) (F:Nat→Prop),i=.int .i64 k∧k≤n1∧St wr F f enc p 1000 2000 L T k∧(∀ j,F j→w.heap.size≤j)∧Fresh w wr
def ScRel (B n1 n2:Nat) (f p:Nat) (enc:Int) (f0:List Ent) (v0:Value) (w:World) (vc va vd vi:Value) (wr:World):Prop :=
  ∃ (i:Nat) (L:List Item) (T:TreS) (F:Nat→Prop) (at_:Int) (C:List Int) (dn:Bool),vi=.int .i64 i∧va=.int .i64 at_∧vd=.bool dn∧i≤C.length+1∧OwnC wr (fun g=>B≤g∧¬ F g) vc C∧SlE wr (fun g=>g<B∧¬ F g) v0 f0∧St wr F f enc p 1000 2000 L T (n1+min i n2)∧(∀ j,F j→w.heap.size≤j)∧Fresh w wr∧Scan f0 L T at_ C∧B≤wr.heap.size∧w.heap.size≤B∧(dn=false→C.length=i)∧(dn=true→∀ e ∈ inL L 0,e.cookie≤at_)
theorem grown_le {w wr w2:World} {F F2:Nat→Prop} (hf:Fresh w wr) (h:∀ j,F j→w.heap.size≤j) (hg:Gr F wr w2 F2):∀ j,F2 j→w.heap.size≤j:=fun j hj=>by
  have:=hf.size
  rcases hg j hj with q | q
  · exact h j q
  · omega
theorem flist_root {enc:Int} {L:List Item} {T:TreS} (h:TR enc L T) {at_:Int} (h0:0≤at_):flistR enc T ⟨#[47]⟩ at_ 1=((nextE (inL L 0) at_).toList.map (faceS enc),((nextE (inL L 0) at_).map (·.cookie)).getD at_,0):=by
  have hr:listR enc T ⟨#[47]⟩=(0,inL L 0,0):=root_list h
  unfold flistR
  rw [hr]
  simp only
  rw [read_one _ _ h0]
  simp
theorem infoI64:(Tryz.prog.info? 2).map (fun i=>(i.zero,i.size,i.bytes))=some (some (.int .i64 0),1,8):=by kernel_rfl
theorem count_take (C:List Int) (j:Nat) (h:j<C.length) (x:Int):(C.take (j+1)).count x=(C.take j).count x+if C[j]=x then 1 else 0:=by
  rw [List.take_succ_eq_append_getElem h,List.count_append,List.count_singleton]
  by_cases e:C[j]=x <;> simp [e]
theorem slc_cell {w:World} {A:Nat→Prop} {a:Option Addr} {cap:Nat} {C:List Int} (h:SlG w A (.slice a C.length cap) 1 C.length (C.map (Value.int .i64))) (h0:0<C.length):∃ g off,a=some ⟨g,off,none⟩∧∀ j (hj:j<C.length),w.cell? ⟨g,off+j,none⟩=some (.int .i64 C[j]):=by
  obtain ⟨_,a',c',hv,_,h1 | ⟨g,off,rfl,_,_,hc⟩⟩:=h
  · omega
  · injection hv with h1 _ _
    refine ⟨g,off,h1,fun j hj=>?_⟩
    rw [hc j (by omega)]
    simp [hj]
set_option maxRecDepth 100000 in
set_option maxHeartbeats 12800000 in
theorem scan_in (a : Int) (v1 v2:Value) (l bt:List Cal) (w:World) (hGT:GT w) (ha0:0≤a) (ha1:a<256) (h1:SlC w v1 l) (h2:SlC w v2 bt) (hk1:∀ x ∈ l,0≤x.kind) (hk2:∀ x ∈ bt,0≤x.kind) :
    Calls Tryz.prog 6 #[.int .u8 a,v1,v2] w fun e w'=>e=.returned (.bool true)∧Below w.heap.size w w':=by
  have hk:0≤a % 9∧a % 9≤8:=by omega
  have HG:=Lib.hid hGT
  have HF1:=Lib.hid (fun W (hW:Fresh w W)=>few_any v1 l 20 W (h1.fresh hW) (by omega))
  have HF2:=Lib.hid (fun W (hW:Fresh w W)=>few_any v2 bt 40 W (h2.fresh hW) (by omega))
  have HAW:=Lib.hid (fun W (hW:Fresh w W)=>awake_any W (hGT.fresh hW))
  have HS:=Lib.hid (And.intro h1 h2)
  have HK:=Lib.hid (And.intro hk1 hk2)
  unfold FewPost at HF1 HF2
  obtain ⟨enc,he⟩:∃ enc,a % 9=enc:=⟨_,rfl⟩
  rw [he] at hk
  obtain ⟨e0,e8⟩:=hk
  obtain ⟨ad1,ca1,rfl,-⟩:=h1
  obtain ⟨ad2,ca2,rfl,-⟩:=h2
  obtain ⟨n1,hn1⟩:∃ n,l.length=n:=⟨_,rfl⟩
  obtain ⟨n2,hn2⟩:∃ n,bt.length=n:=⟨_,rfl⟩
  have HN:=Lib.hid (And.intro hn1 hn2)
  rw [hn1] at HF1 ⊢
  rw [hn2] at HF2 ⊢
  clear hk1 hk2 hn1 hn2 hGT
  go_enter Tryz.func6,Tryz.ntmps6
  go_wp2_with fail
  refine (HAW.out _ (Fresh.refl _)).mono ?_
  rintro e w1 ⟨rfl,hw1⟩
  have H1:=Lib.hid hw1
  clear hw1
  go_wp2_with fail
  refine (HF1.out _ H1.out).mono ?_
  rintro e w2 ⟨b1,rfl,hb1,hw2⟩
  have H2:=Lib.hid (And.intro hb1 (H1.out.trans hw2))
  clear hb1 hw2
  cases b1 with
  | false =>
    go_wp2_with fail
    refine (HAW.out _ H2.out.2).mono ?_
    rintro e w3 ⟨rfl,hw3⟩
    go_wp2
    go_ret
    exact ⟨rfl,(H2.out.2.trans hw3).below⟩
  | true =>
    go_wp2_with fail
    refine (HF2.out _ H2.out.2).mono ?_
    rintro e w3 ⟨b2,rfl,hb2,hw3⟩
    have H3:=Lib.hid (And.intro hb2 (H2.out.2.trans hw3))
    clear hb2 hw3
    cases b2 with
    | false =>
      go_wp2_with fail
      refine (HAW.out _ H3.out.2).mono ?_
      rintro e w4 ⟨rfl,hw4⟩
      go_wp2
      go_ret
      exact ⟨rfl,(H3.out.2.trans hw4).below⟩
    | true =>
      have HL1:=Lib.hid (H2.out.1 rfl)
      have HL2:=Lib.hid (H3.out.1 rfl)
      have HW3:=Lib.hid H3.out.2
      have hl1:n1≤20:=by have:=HL1.out.1;rw [HN.out.1] at this;omega
      have hl2:n2≤40:=by have:=HL2.out.1;rw [HN.out.2] at this;omega
      have HOP:=Lib.hid (fun F p W (hd:DevAt W F p 2000 (fun _=>zer 64) 0) (hF:FB F W)=>opened_any F enc p 2000 W 1000 hd hF rfl (by omega) (by omega) e0 e8)
      clear HF1 HF2 HAW H1 H2 H3
      go_wp2_with fail
      refine (secNew_any 2000 (by omega) (by omega) _).mono ?_
      rintro e wa ⟨p,rfl,hd,hfa⟩
      have HA:=Lib.hid (And.intro hd (HW3.out.trans hfa))
      clear hd hfa
      go_wp2_with fail
      refine (HOP.out _ p wa HA.out.1 (fun j hj=>hj.2)).mono ?_
      rintro e wb ⟨f,T0',qt,Fb,rfl,hfs,hT,hqt,hmb,hgb⟩
      have HST:Hid (St wb Fb f enc p 1000 2000 [] T0' 0∧(∀ j,Fb j→w.heap.size≤j)∧Fresh w wb):=Lib.hid ⟨St.new hfs hT hqt,fun j hj=>by
        have z1:=HW3.out.size
        have z2:=HA.out.2.size
        rcases hgb j hj with h | h
        · exact Nat.le_trans z1 h.1
        · exact Nat.le_trans z2 h.1,HA.out.2.mut2 hmb (fun j hj=>Nat.le_trans HW3.out.size hj.1)⟩
      clear hfs hT hqt hmb hgb HOP HA HW3
      go_wp2
      go_loopw [9] (fun i wr=>CaRel n1 f p enc w i wr) (fun i _=>n1 - (intOf i).toNat)
      case atStart=>exact ⟨0,[],T0',Fb,rfl,by omega,HST.out.1,HST.out.2.1,HST.out.2.2⟩
      case round =>
        obtain ⟨k,L,T,F,rfl,hk,hst,hFb,hf⟩:=hrel
        have HV:=Lib.hid (And.intro hst (And.intro hFb hf))
        clear hst hFb hf
        by_cases hlt:k<n1
        · obtain ⟨_,_,hv,hcap,hc⟩:=HS.out.1
          injection hv with hv1 _ hv2
          subst hv1 hv2
          rcases hc with h0 | ⟨g,off,rfl,hg,hc⟩
          · have:=HN.out.1;omega
          have hkl:k<l.length:=by rw [HN.out.1];exact hlt
          obtain ⟨c0,c1,c2,c3,c4,c5⟩:=hc k hkl
          have d0:=(Below.cell HV.out.2.2 (p:=⟨g,off+k * 6,none⟩) hg).trans c0
          have d1:=(Below.cell HV.out.2.2 (p:=⟨g,off+k * 6+1,none⟩) hg).trans c1
          have d2:=(Below.cell HV.out.2.2 (p:=⟨g,off+k * 6+2,none⟩) hg).trans c2
          have d3:=(Below.cell HV.out.2.2 (p:=⟨g,off+k * 6+3,none⟩) hg).trans c3
          have d4:=(Below.cell HV.out.2.2 (p:=⟨g,off+k * 6+4,none⟩) hg).trans c4
          have d5:=(Below.cell HV.out.2.2 (p:=⟨g,off+k * 6+5,none⟩) hg).trans c5
          have hm:=List.getElem_mem hkl
          have hsz:=HL1.out.2 _ hm
          have hkd:=HK.out.1 _ hm
          obtain ⟨⟨kd,xa,xb,xi,xt,xn⟩,hx⟩:∃ x,l[k]=x:=⟨_,rfl⟩
          rw [hx] at d0 d1 d2 d3 d4 d5 hsz hkd
          simp only at d0 d1 d2 d3 d4 d5 hsz hkd
          have HDO:=Lib.hid (do17_any HV.out.1 (HG.out.fresh HV.out.2.2) kd xa xb xi xt xn hkd hsz.1 hsz.2 e0 e8 (by omega) (by omega) (by omega) (by omega))
          have i1:(k:Int)<(n1:Int):=by omega
          clear hc c0 c1 c2 c3 c4 c5 hx hsz hkd hm
          go_wp2_with fail
          refine HDO.out.mono ?_
          rintro e w2 ⟨vv,rfl,L2,T2,F2,hgw,hst2,hm2,hg2⟩
          have HZ:=Lib.hid (And.intro hst2 (And.intro (grown_le HV.out.2.2 HV.out.2.1 hg2) (HV.out.2.2.mut2 hm2 HV.out.2.1)))
          clear hgw hst2 hm2 hg2 d0 d1 d2 d3 d4 d5
          go_wp2
          go_roundw
          case rel=>exact ⟨k+1,L2,T2,F2,by go_num,by omega,HZ.out.1,HZ.out.2.1,HZ.out.2.2⟩
          case measure=>simp [intOf];omega
        · obtain rfl : k = n1 := by omega
          have HTR:=Lib.hid (HV.out.1.tree (by omega))
          have HRT:=Lib.hid HV.out.1.tr.root
          clear hlt
          go_wp2_with fail
          refine HTR.out.mono ?_
          rintro e w2 ⟨x,q,rfl,hx,hf2⟩
          have HTX:=Lib.hid (ls_yes (d:=0) hx i64_0 HRT.out (by have:=HV.out.1.tr.len HRT.out;have:=HV.out.1.next;omega))
          have H2:=Lib.hid hf2
          clear hx hf2 HTR
          go_wp2_with fail
          refine HTX.out.mono ?_
          rintro e w3 ⟨a3,c3,rfl,ho3,hf3⟩
          have H3:Hid (SlE w3 (fun g=>g<w3.heap.size∧¬ F g) (.slice a3 (inL L 0).length c3) (inL L 0)∧St w3 F f enc p 1000 2000 L T k∧Fresh w w3∧Scan (inL L 0) L T 0 []):=Lib.hid ⟨SlG.mono (OwnE.sl ho3) (fun g hgs hg=>⟨hgs,fun q=>by have:=HV.out.1.fb g q;have:=H2.out.size;omega⟩),HV.out.1.fresh (H2.out.trans hf3),HV.out.2.2.trans (H2.out.trans hf3),Scan.start HV.out.1.tr⟩
          obtain ⟨f0,hf0⟩:∃ f0,inL L 0=f0:=⟨_,rfl⟩
          have hl0:f0.length≤100:=by rw [← hf0];have:=HV.out.1.tr.len HRT.out;have:=HV.out.1.next;omega
          rw [hf0] at H3 ⊢
          have hFB:=HV.out.2.1
          clear ho3 hf3 HTX H2 hf0 HRT HV
          go_wp2
          go_loopw [13,14,15,16] (fun vc va vd vi wr=>ScRel w3.heap.size k n2 f p enc f0 (.slice a3 f0.length c3) w vc va vd vi wr) (fun _ _ _ vi _=>120 - (intOf vi).toNat)
          case atStart=>exact ⟨0,L,T,F,0,[],false,rfl,rfl,rfl,by simp,OwnA.nil _ _ _ _,H3.out.1,H3.out.2.1.later (by omega),hFB,H3.out.2.2.1,H3.out.2.2.2,Nat.le_refl _,H3.out.2.2.1.size,fun _=>rfl,(fun q=>nomatch q)⟩
          case round =>
            clear H3
            obtain ⟨i,L2,T2,F2,at_,C,dn,rfl,rfl,rfl,hi,hoc,hsf,hst,hFB2,hf,hsc,hB,hwB,hdn0,hdn1⟩:=hrel
            have HV:=Lib.hid (And.intro hoc (And.intro hsf (And.intro hst (And.intro hFB2 (And.intro hf hsc)))))
            have HB:=Lib.hid (And.intro hB hwB)
            have HD:=Lib.hid (And.intro hdn0 hdn1)
            have hle:=hsc.len
            have hat:=hsc.pos.1
            have hnx:=hst.next
            obtain ⟨ac,cc',rfl⟩:=OwnA.shape hoc
            clear hoc hsf hst hFB2 hf hsc hdn0 hdn1 hB hwB
            have hlt:i<120:=by
              have h2:=HV.out.2.2.2.2.2.pos.2
              omega
            have i1:(i:Int)<120:=by omega
            cases dn with
            | false =>
              have HCL:=Lib.hid (HD.out.1 rfl)
              clear HD
              have HLI:=Lib.hid (HV.out.2.2.1.list (HG.out.fresh HV.out.2.2.2.2.1) ⟨#[47]⟩ (by decide) at_ 1 e0 e8 (by omega))
              rw [flist_root HV.out.2.2.1.tr hat] at HLI
              unfold FsListF at HLI
              cases hne:nextE (inL L2 0) at_ with
              | none =>
                rw [hne] at HLI
                have HNN:=Lib.hid (next_none hne)
                simp only [Option.toList_none,List.map_nil,List.length_nil,Option.map_none,Option.getD_none] at HLI
                clear hne
                go_wp2_with fail
                refine HLI.out.mono ?_
                rintro e w4 ⟨a4,c4,rfl,_,hf4⟩
                have HF4:=Lib.hid hf4
                clear hf4
                rcases Classical.em ((i:Int)<(n2:Int)) with i3 | i3
                all_goals
                  go_wp2
                  go_roundw
                  case rel=>exact ⟨i+1,L2,T2,F2,at_,C,true,by go_num,rfl,rfl,by have:=HCL.out;omega,OwnA.fresh HV.out.1 HF4.out,SlG.fresh HV.out.2.1 HF4.out,(HV.out.2.2.1.fresh HF4.out).later (by omega),HV.out.2.2.2.1,HV.out.2.2.2.2.1.trans HF4.out,HV.out.2.2.2.2.2,Nat.le_trans HB.out.1 HF4.out.size,HB.out.2,(fun q=>nomatch q),fun _=>HNN.out⟩
                  case measure=>simp [intOf];omega
              | some e =>
                rw [hne] at HLI
                have HSP:=Lib.hid (HV.out.2.2.2.2.2.step HV.out.2.2.1.tr hne)
                simp only [Option.toList_some,List.map_cons,List.map_nil,List.length_cons,List.length_nil,Option.map_some,Option.getD_some] at HLI
                obtain ⟨ck,hck⟩:∃ ck,e.cookie=ck:=⟨_,rfl⟩
                rw [hck] at HLI HSP
                have i4:(ck == at_)=false:=beq_false_of_ne (by have:=HSP.out.1;omega)
                have hcl2:=HCL.out
                have hoc:=HV.out.1
                unfold OwnC at hoc
                rw [hcl2] at hoc ⊢
                obtain ⟨i0,hi0,hz0,hz1,hz2⟩:=info_partsG infoI64
                clear hne hck
                go_wp2_with fail
                refine HLI.out.mono ?_
                rintro en w4 ⟨a4,c4,rfl,_,hf4⟩
                have HF4:=Lib.hid hf4
                have hoc4:=hoc.fresh hf4
                clear hf4 hoc
                rcases Classical.em ((i:Int)<(n2:Int)) with i3 | i3
                all_goals
                  go_wp2_with (at_builtin;refine wpList_append_ownA _ rfl _ _ 86 rfl (fun g=>w3.heap.size≤g∧¬ F2 g) 2 i0 _ 1 8 Tryz.underlying86 hi0 hz0 hz1 hz2 rfl (by decide) _ i _ rfl (hoc4.fresh ((Fresh.refl _).alloc _)) ⟨w4.heap.size,0,none⟩ 1 1 [.int .i64 ck] rfl rfl (newCells _ _ _) (by intro u hu;simp at hu;rcases hu with rfl;rfl) (by omega) (by decide) ?_;intro a' c' w5 o2 u2)
                  have hs4:w3.heap.size≤(w4.alloc (.cells #[.int .i64 ck] 2)).heap.size:=by have:=HB.out.1;have:=HF4.out.size;simp;omega
                  have hfb:=HV.out.2.2.1.fb
                  have HZ:Hid (OwnC w5 (fun g=>w3.heap.size≤g∧¬ F2 g) (.slice a' (i+1) c') (C++[ck])∧SlE w5 (fun g=>g<w3.heap.size∧¬ F2 g) (.slice a3 f0.length c3) f0∧St w5 F2 f enc p 1000 2000 L2 T2 (k+min i n2)∧Fresh w w5∧w3.heap.size≤w5.heap.size):=by
                    have hf44:=HF4.out.alloc (.cells #[.int .i64 ck] 2)
                    refine Lib.hid ⟨?_,(SlG.fresh HV.out.2.1 hf44).mut u2 (fun g hg q=>?_),(HV.out.2.2.1.fresh hf44).mut u2 (fun g hg q=>(hoc4.2 g q).2 hg),(HV.out.2.2.2.2.1.trans hf44).mut2 u2 (fun g q=>Nat.le_trans HB.out.2 (hoc4.2 g q).1),Nat.le_trans hs4 u2.size⟩
                    · unfold OwnC
                      rw [List.length_append,hcl2,List.map_append]
                      refine OwnA.mono o2 (fun g _ hg=>?_)
                      rcases hg with hg | ⟨h1,_⟩
                      · exact hg
                      · exact ⟨Nat.le_trans hs4 h1,fun q=>by have:=hfb g q;have:=HF4.out.size;simp at h1;omega⟩
                    · have:=(hoc4.2 g q).1;have:=hg.1;omega
                  clear o2 u2 hoc4 hs4 hfb
                · obtain ⟨_,_,hv,hcap,hc⟩:=HS.out.2
                  injection hv with hv1 _ hv2
                  subst hv1 hv2
                  rcases hc with h0 | ⟨g,off,rfl,hg,hc⟩
                  · have:=HN.out.2;omega
                  have hkl:i<bt.length:=by rw [HN.out.2];omega
                  obtain ⟨c0,c1,c2,c3',c4',c5⟩:=hc i hkl
                  have d0:=(Below.cell HZ.out.2.2.2.1 (p:=⟨g,off+i * 6,none⟩) hg).trans c0
                  have d1:=(Below.cell HZ.out.2.2.2.1 (p:=⟨g,off+i * 6+1,none⟩) hg).trans c1
                  have d2:=(Below.cell HZ.out.2.2.2.1 (p:=⟨g,off+i * 6+2,none⟩) hg).trans c2
                  have d3:=(Below.cell HZ.out.2.2.2.1 (p:=⟨g,off+i * 6+3,none⟩) hg).trans c3'
                  have d4:=(Below.cell HZ.out.2.2.2.1 (p:=⟨g,off+i * 6+4,none⟩) hg).trans c4'
                  have d5:=(Below.cell HZ.out.2.2.2.1 (p:=⟨g,off+i * 6+5,none⟩) hg).trans c5
                  have hm:=List.getElem_mem hkl
                  have hsz:=HL2.out.2 _ hm
                  have hkd:=HK.out.2 _ hm
                  obtain ⟨⟨kd,xa,xb,xi,xt,xn⟩,hx⟩:∃ x,bt[i]=x:=⟨_,rfl⟩
                  rw [hx] at d0 d1 d2 d3 d4 d5 hsz hkd
                  simp only at d0 d1 d2 d3 d4 d5 hsz hkd
                  have HDO:=Lib.hid (do17_any HZ.out.2.2.1 (HG.out.fresh HZ.out.2.2.2.1) kd xa xb xi xt xn hkd hsz.1 hsz.2 e0 e8 (by omega) (by omega) (by omega) (by omega))
                  clear hc c0 c1 c2 c3' c4' c5 hx hsz hkd hm
                  go_wp2_with fail
                  refine HDO.out.mono ?_
                  rintro en w6 ⟨vv,rfl,L3,T3,F3,hgw,hst3,hm3,hg3⟩
                  have HY:=Lib.hid (And.intro (own_besideA HZ.out.1 hm3 hg3) (And.intro (sl_beside HZ.out.2.1 hm3 hg3) (And.intro hst3 (And.intro (grown_le HZ.out.2.2.2.1 HV.out.2.2.2.1 hg3) (And.intro (HZ.out.2.2.2.1.mut2 hm3 HV.out.2.2.2.1) (And.intro (HSP.out.2.grow hgw) hm3.size))))))
                  clear hgw hst3 hm3 hg3 d0 d1 d2 d3 d4 d5
                  go_wp2
                  go_roundw
                  case rel=>exact ⟨i+1,L3,T3,F3,ck,C++[ck],false,by go_num,rfl,rfl,by simp;omega,HY.out.1,HY.out.2.1,HY.out.2.2.1.later (by omega),HY.out.2.2.2.1,HY.out.2.2.2.2.1,HY.out.2.2.2.2.2.1,Nat.le_trans HZ.out.2.2.2.2 HY.out.2.2.2.2.2.2,HB.out.2,fun _=>by simp [hcl2],(fun q=>nomatch q)⟩
                  case measure=>simp [intOf];omega
                · go_roundw
                  case rel=>exact ⟨i+1,L2,T2,F2,ck,C++[ck],false,by go_num,rfl,rfl,by simp;omega,HZ.out.1,HZ.out.2.1,HZ.out.2.2.1.later (by omega),HV.out.2.2.2.1,HZ.out.2.2.2.1,HSP.out.2,HZ.out.2.2.2.2,HB.out.2,fun _=>by simp [hcl2],(fun q=>nomatch q)⟩
                  case measure=>simp [intOf];omega
            | true =>
              have HE:=Lib.hid (HD.out.2 rfl)
              have HTR:=Lib.hid (HV.out.2.2.1.tree (by omega))
              have HRT:=Lib.hid HV.out.2.2.1.tr.root
              go_wp2_with fail
              refine HTR.out.mono ?_
              rintro en w4 ⟨x2,q2,rfl,hx,hf2⟩
              have HTX:=Lib.hid (ls_yes (d:=0) hx i64_0 HRT.out (by have:=HV.out.2.2.1.tr.len HRT.out;omega))
              have H2:=Lib.hid hf2
              clear hx hf2
              go_wp2_with fail
              refine HTX.out.mono ?_
              rintro en w6 ⟨a6,c6,rfl,ho6,hf6⟩
              have HR:Hid (SlE w6 (fun g=>g<w3.heap.size∧¬ F2 g) (.slice a3 f0.length c3) f0∧SlE w6 (fun g=>w4.heap.size≤g) (.slice a6 (inL L2 0).length c6) (inL L2 0)∧SlG w6 (fun g=>w3.heap.size≤g∧¬ F2 g) (.slice ac C.length cc') 1 C.length (C.map (Value.int .i64))∧Fresh w w6):=Lib.hid ⟨SlG.fresh HV.out.2.1 (H2.out.trans hf6),OwnE.sl ho6,SlG.fresh (OwnA.sl HV.out.1) (H2.out.trans hf6),HV.out.2.2.2.2.1.trans (H2.out.trans hf6)⟩
              have HP:Hid (C.Pairwise (·<·)∧∀ e ∈ f0,e ∈ inL L2 0→C.count e.cookie=1):=Lib.hid ⟨HV.out.2.2.2.2.2.asc,fun e he hl=>HV.out.2.2.2.2.2.fin HE.out he hl⟩
              clear ho6 hf6 HTX H2 HTR HE
              obtain ⟨fl,hfl⟩:∃ fl,inL L2 0=fl:=⟨_,rfl⟩
              have hll:fl.length≤100:=by rw [← hfl];have:=HV.out.2.2.1.tr.len HRT.out;omega
              have hlc:C.length≤100:=by have:=HV.out.2.2.2.2.2.pos.2;omega
              rw [hfl] at HR HP ⊢
              clear HV HD HB hfl HRT
              go_wp2
              go_loopw [23] (fun i wr=>∃ k:Nat,i=.int .i64 k∧k≤f0.length∧Fresh w6 wr) (fun i _=>f0.length - (intOf i).toNat)
              case atStart=>exact ⟨0,rfl,Nat.zero_le _,Fresh.refl _⟩
              case round =>
                obtain ⟨kk,rfl,hkk,hfk⟩:=hrel
                have HK3:=Lib.hid hfk
                clear hfk
                by_cases hlt3:kk<f0.length
                · have i5 : (kk:Int)<(f0.length:Int):=by omega
                  go_wp2
                  go_loopw [24,25] (fun vt vj wr=>∃ (j:Nat) (b:Bool),vj=.int .i64 j∧vt=.bool b∧j≤fl.length∧(b=true→f0[kk] ∈ fl)∧Fresh w6 wr) (fun _ vj _=>fl.length - (intOf vj).toNat)
                  case atStart=>exact ⟨0,false,rfl,rfl,Nat.zero_le _,(fun q=>nomatch q),HK3.out⟩
                  case round =>
                    obtain ⟨j,b,rfl,rfl,hj,hb,hfj⟩:=hrel
                    have HJ:=Lib.hid (And.intro hb hfj)
                    clear hb hfj
                    by_cases hltj:j<fl.length
                    · have i6:(j:Int)<(fl.length:Int):=by omega
                      rcases SlE.cases (SlG.fresh HR.out.1 HJ.out.2) with ⟨e0',_⟩ | ⟨_,g1,o1,_,hv1,_,_,hg1,hc1⟩
                      · rw [e0'] at hlt3;simp at hlt3
                      rcases SlE.cases (SlG.fresh HR.out.2.1 HJ.out.2) with ⟨e0',_⟩ | ⟨_,g2,o2,_,hv2,_,_,hg2,hc2⟩
                      · rw [e0'] at hltj;simp at hltj
                      injection hv1 with hv1a _ hv1b
                      subst hv1a hv1b
                      injection hv2 with hv2a _ hv2b
                      subst hv2a hv2b
                      obtain ⟨p0,p1,p2,p3,p4⟩:=hc1 kk hlt3
                      obtain ⟨q0,q1,q2',q3,q4⟩:=hc2 j hltj
                      cases b with
                      | true =>
                        have hbt:=Lib.hid (HJ.out.1 rfl)
                        clear hc1 hc2
                        go_wp2
                        go_quiet (fail)
                        go_wp2
                        exact ⟨⟨j+1,true,by go_num,rfl,by omega,fun _=>hbt.out,HJ.out.2.drewN _⟩,by simp [intOf];omega⟩
                      | false =>
                        have hm2:=List.getElem_mem hltj
                        obtain ⟨⟨x0,x1,x2',x3,x4⟩,hx⟩:∃ y,f0[kk]=y:=⟨_,rfl⟩
                        obtain ⟨⟨y0,y1,y2,y3,y4⟩,hy⟩:∃ y,fl[j]=y:=⟨_,rfl⟩
                        rw [hx] at p0 p1 p2 p3 p4
                        rw [hy] at q0 q1 q2' q3 q4 hm2
                        have HXY:=Lib.hid (And.intro hx hm2)
                        have hgd:=eqg_ent
                        have hq:=eql_ent ⟨y0,y1,y2,y3,y4⟩ ⟨x0,x1,x2',x3,x4⟩
                        have HEQ:=Lib.hid (@entEq_eq ⟨y0,y1,y2,y3,y4⟩ ⟨x0,x1,x2',x3,x4⟩)
                        obtain ⟨bb,hbb⟩:∃ bb,entEq ⟨y0,y1,y2,y3,y4⟩ ⟨x0,x1,x2',x3,x4⟩=bb:=⟨_,rfl⟩
                        rw [hbb] at HEQ
                        simp only [hbb] at hq
                        clear hc1 hc2 hx hy hm2 hbb
                        go_wp2
                        go_quiet (fail)
                        go_wp2
                        exact ⟨⟨j+1,bb,by go_num,rfl,by omega,fun q=>by have h1:=HEQ.out q;rw [HXY.out.1,← h1];exact HXY.out.2,HJ.out.2.drewN _⟩,by simp [intOf];omega⟩
                    · obtain rfl:j=fl.length:=by omega
                      have hbf:¬ (fl.length:Int)<(fl.length:Int):=by omega
                      have HB1:Hid (b=true→C.count f0[kk].cookie=1):=Lib.hid (fun q=>HP.out.2 _ (List.getElem_mem hlt3) (HJ.out.1 q))
                      have HB2:Hid (C.count f0[kk].cookie≤1):=Lib.hid (count_asc HP.out.1 _)
                      have HJ2:=Lib.hid HJ.out.2
                      have HC1:Hid (∀ W,Fresh w6 W→∃ g1 o1,a3=some ⟨g1,o1,none⟩∧W.cell? ⟨g1,o1+kk * 5+3,none⟩=some (.int .i64 f0[kk].cookie)):=Lib.hid (fun W hW=>by
                        rcases SlE.cases (SlG.fresh HR.out.1 hW) with ⟨e0',_⟩ | ⟨_,g1,o1,_,hv1,_,_,hg1,hc1⟩
                        · rw [e0'] at hlt3;simp at hlt3
                        injection hv1 with hv1a _ hv1b
                        exact ⟨g1,o1,hv1a,(hc1 kk hlt3).2.2.2.1⟩)
                      obtain ⟨ck,hck⟩:∃ ck,f0[kk].cookie=ck:=⟨_,rfl⟩
                      rw [hck] at HB1 HB2 HC1
                      clear HJ hltj hck
                      go_wp2
                      go_loopw [26,27] (fun vn vj wr=>∃ (j:Nat),vj=.int .i64 j∧vn=.int .i64 ((C.take j).count ck:Nat)∧j≤C.length∧Fresh w6 wr) (fun _ vj _=>C.length - (intOf vj).toNat)
                      case atStart=>exact ⟨0,rfl,rfl,Nat.zero_le _,HJ2.out⟩
                      case round =>
                        obtain ⟨j,rfl,rfl,hj,hfj⟩:=hrel
                        have HJ:=Lib.hid hfj
                        clear hfj
                        by_cases hltj:j<C.length
                        · obtain ⟨g1,o1,rfl,p3⟩:=HC1.out wr HJ.out
                          obtain ⟨g3,o3,rfl,hc3⟩:=slc_cell (SlG.fresh HR.out.2.2.1 HJ.out) (by omega)
                          have d0:=hc3 j hltj
                          have HCT:=Lib.hid (count_take C j hltj ck)
                          have hcb:(C.take j).count ck≤100:=by have:=List.count_le_length (a:=ck) (l:=C.take j);have:=List.length_take_le j C;omega
                          obtain ⟨cn,hcn⟩:∃ cn,(C.take j).count ck=cn:=⟨_,rfl⟩
                          obtain ⟨y,hy⟩:∃ y,C[j]=y:=⟨_,rfl⟩
                          rw [hcn] at HCT hcb ⊢
                          rw [hy] at HCT d0
                          have i7:(j:Int)<(C.length:Int):=by omega
                          clear hc3 hcn hy
                          by_cases hyc:y=ck
                          · subst hyc
                            rw [if_pos rfl] at HCT
                            go_wp2
                            go_quiet (fail)
                            go_wp2
                            exact ⟨⟨j+1,by go_num,by rw [HCT.out];go_num,by omega,HJ.out.drewN _⟩,by simp [intOf];omega⟩
                          · rw [if_neg hyc] at HCT
                            have hyb:(y == ck)=false:=beq_false_of_ne hyc
                            clear hyc
                            go_wp2
                            go_quiet (fail)
                            go_wp2
                            exact ⟨⟨j+1,by go_num,by rw [HCT.out];rfl,by omega,HJ.out.drewN _⟩,by simp [intOf];omega⟩
                        · have htk:C.take j=C:=List.take_of_length_le (by omega)
                          rw [htk]
                          obtain ⟨cn,hcn⟩:∃ cn,C.count ck=cn:=⟨_,rfl⟩
                          rw [hcn] at HB1 HB2 ⊢
                          have hbj:¬ (j:Int)<(C.length:Int):=by omega
                          have hc01:(cn=1)∨(cn=0∧b=false):=by
                            cases b with
                            | true=>exact .inl (HB1.out rfl)
                            | false =>
                              have:=HB2.out
                              rcases (by omega:cn=1∨cn=0) with q | q
                              · exact .inl q
                              · exact .inr ⟨q,rfl⟩
                          clear htk hcn
                          rcases hc01 with rfl | ⟨rfl,rfl⟩
                          · cases b
                            all_goals
                              go_wp2
                              go_roundw
                              case rel=>exact ⟨kk+1,by go_num,by omega,HJ.out⟩
                              case measure=>simp [intOf];omega
                          · go_wp2
                            go_roundw
                            case rel=>exact ⟨kk+1,by go_num,by omega,HJ.out⟩
                            case measure=>simp [intOf];omega
                · have i5:¬ (kk:Int)<(f0.length:Int):=by omega
                  go_wp2
                  go_loopw [28] (fun i wr=>∃ m:Nat,i=.int .i64 ((m:Int)+1)∧(m=0∨m+1≤C.length)∧Fresh w6 wr) (fun i _=>C.length+1 - (intOf i).toNat)
                  case atStart=>exact ⟨0,rfl,.inl rfl,HK3.out⟩
                  case round =>
                    obtain ⟨m,rfl,hm,hfm⟩:=hrel
                    have HJ:=Lib.hid hfm
                    clear hfm
                    by_cases hltm:m+1<C.length
                    · obtain ⟨g3,o3,rfl,hc3⟩:=slc_cell (SlG.fresh HR.out.2.2.1 HJ.out) (by omega)
                      have d0:=hc3 m (by omega)
                      have d1:=hc3 (m+1) hltm
                      have hasc:=List.pairwise_iff_getElem.1 HP.out.1 m (m+1) (by omega) hltm (by omega)
                      obtain ⟨x,hx⟩:∃ y,C[m]=y:=⟨_,rfl⟩
                      obtain ⟨y,hy⟩:∃ y,C[m+1]=y:=⟨_,rfl⟩
                      rw [hx] at d0 hasc
                      rw [hy] at d1 hasc
                      have i7:(m:Int)+1<(C.length:Int):=by omega
                      have i8:¬ y≤x:=by omega
                      clear hc3 hx hy hasc
                      go_wp2
                      go_quiet (fail)
                      go_wp2
                      exact ⟨⟨m+1,by go_num,.inr (by omega),HJ.out.drewN _⟩,by simp [intOf];omega⟩
                    · have i7:¬ (m:Int)+1<(C.length:Int):=by omega
                      have hq:=Lib.hid (HR.out.2.2.2.trans HJ.out)
                      go_wp2
                      go_ret
                      exact ⟨rfl,hq.out.below⟩
end Go.Proofs.YtpmlggjhfiljmaaGreatDoor
namespace Go.Proofs.YtpmlggjhfiljmaaGreatDoor
open Go.RowKit
theorem gt_named:Tryz.prog.globalNamed "math/bits.deBruijn64tab"=some 3:=by kernel_rfl
theorem gt_type:(Tryz.prog.globals[3]?).map (·.type)=some 471:=by kernel_rfl
theorem gt_cells:Tryz.prog.cellsOf 471=64:=by kernel_rfl
theorem gt_elem:Tryz.prog.cellsOf 5=1:=by kernel_rfl
theorem gt_of_reads {W:World} (h:Lib.VarReads Tryz.prog W "math/bits.deBruijn64tab" Rows.laid_math_bits_deBruijn64tab):GT W:=by
  obtain ⟨g,t,cs,fuel,p,hg,ht,hv,hd⟩:=h
  obtain rfl:=Option.some.inj (gt_named.symm.trans hg)
  obtain rfl:=Option.some.inj (gt_type.symm.trans ht)
  have e1:=Lib.cells_of_tab (k:=.u8) (zs:=[0,1,56,2,57,49,28,3,61,58,42,50,38,29,17,4,62,47,59,36,45,43,51,22,53,39,33,30,24,18,12,5,63,55,48,27,60,41,37,16,46,35,44,21,52,32,23,11,54,26,40,15,34,20,31,10,25,14,19,9,13,8,7,6]) Tryz.underlying471 Tryz.underlying5 gt_elem gt_cells hd
  have hT:Lib.TabIs Tryz.prog W "math/bits.deBruijn64tab" .u8 [0,1,56,2,57,49,28,3,61,58,42,50,38,29,17,4,62,47,59,36,45,43,51,22,53,39,33,30,24,18,12,5,63,55,48,27,60,41,37,16,46,35,44,21,52,32,23,11,54,26,40,15,34,20,31,10,25,14,19,9,13,8,7,6]:=by
    unfold Lib.TabIs
    rw [hv,← e1]
  have hc:=hT.cell gt_named 15 (by decide)
  refine ⟨hc,?_⟩
  rcases Nat.lt_or_ge 3 W.heap.size with q | q
  · exact q
  · exfalso
    unfold World.cell? at hc
    rw [Array.getElem?_eq_none q] at hc
    simp at hc
open Go.RowKit Go.ChangeShapes Go.WideShapes Go.Deep
theorem call_cells:Tryz.prog.cellsOf 80=6:=by kernel_rfl
theorem c1_u8:Tryz.prog.cellsOf 5=1:=by kernel_rfl
theorem c1_str:Tryz.prog.cellsOf 9=1:=by kernel_rfl
theorem c1_bool:Tryz.prog.cellsOf 4=1:=by kernel_rfl
theorem c1_i64:Tryz.prog.cellsOf 2=1:=by kernel_rfl
theorem c1_int:Tryz.prog.cellsOf 3=1:=by kernel_rfl
section
variable {H:Type} {enc:TypeId × Value→H} {w:World} {spare:Nat→Bool} {held:Bool}
set_option maxRecDepth 100000 in
theorem call_of {n:Nat} {a:Addr} {cs:List Value} {y:DataW H × List MemPlace} (h1:w.cells? 0 a 6=some cs) (h:DataW.trod enc Tryz.prog w 0 spare held n 80 cs=some y) :
    ∃ x:Cal,0≤x.kind∧w.cell? (a.add 0)=some (.int .u8 x.kind)∧w.cell? (a.add 1)=some (.string x.a)∧w.cell? (a.add 2)=some (.string x.b)∧w.cell? (a.add 3)=some (.bool x.is)∧w.cell? (a.add 4)=some (.int .i64 x.at_)∧w.cell? (a.add 5)=some (.int .i64 x.n):=by
  obtain ⟨_,hlen,hcell⟩:=World.cells?_some h1
  obtain ⟨xs,k,hk,hxy,_,hxl,hf⟩:=DataW.trod_struct Tryz.underlying80 h
  match xs,hxl,cs,hlen with
  | [y0,y1,y2,y3,y4,y5],_,[v0,v1,v2,v3,v4,v5],_ =>
    have g0:=hf 0 _ rfl
    have g1:=hf 1 _ rfl
    have g2:=hf 2 _ rfl
    have g3:=hf 3 _ rfl
    have g4:=hf 4 _ rfl
    have g5:=hf 5 _ rfl
    simp [c1_u8,c1_str,c1_bool,c1_i64,c1_int] at g0 g1 g2 g3 g4 g5
    have e0:=hcell 0 (by omega)
    have e1:=hcell 1 (by omega)
    have e2:=hcell 2 (by omega)
    have e3:=hcell 3 (by omega)
    have e4:=hcell 4 (by omega)
    have e5:=hcell 5 (by omega)
    simp at e0 e1 e2 e3 e4 e5
    obtain ⟨kd,q0,_,hw⟩:=DataW.trod_int Tryz.underlying5 g0
    obtain ⟨sa,q1,_,_⟩:=DataW.trod_string Tryz.underlying9 g1
    obtain ⟨sb,q2,_,_⟩:=DataW.trod_string Tryz.underlying9 g2
    obtain ⟨bi,q3,_⟩:=DataW.trod_bool Tryz.underlying4 g3
    obtain ⟨at_,q4,_,_⟩:=DataW.trod_int Tryz.underlying2 g4
    obtain ⟨nn,q5,_,_⟩:=DataW.trod_int Tryz.underlying3 g5
    simp at q0 q1 q2 q3 q4 q5
    subst q0 q1 q2 q3 q4 q5
    refine ⟨⟨kd,sa,sb,bi,at_,nn⟩,?_,e0,e1,e2,e3,e4,e5⟩
    simp [Lit.wf,IntKind.min,IntKind.max,IntKind.signed,IntKind.bits] at hw
    exact hw.1
end
instance:Inhabited Cal:=⟨⟨0,ByteArray.empty,ByteArray.empty,false,0,0⟩⟩
theorem slc_nil (w:World):∃ l:List Cal,SlC w (.slice none 0 0) l∧l.length=0∧∀ x ∈ l,0≤x.kind:=⟨[],⟨none,0,rfl,Nat.le_refl _,.inl rfl⟩,rfl,(fun x h=>nomatch h)⟩
theorem slc_of {w:World} {a:Addr} {len cap m:Nat} (hl:len≤cap) (hm:len≤m) (hx:∀ i,i<m→∃ x:Cal,0≤x.kind∧w.cell? ((a.add (i * 6)).add 0)=some (.int .u8 x.kind)∧w.cell? ((a.add (i * 6)).add 1)=some (.string x.a)∧w.cell? ((a.add (i * 6)).add 2)=some (.string x.b)∧w.cell? ((a.add (i * 6)).add 3)=some (.bool x.is)∧w.cell? ((a.add (i * 6)).add 4)=some (.int .i64 x.at_)∧w.cell? ((a.add (i * 6)).add 5)=some (.int .i64 x.n)) :
    ∃ l:List Cal,SlC w (.slice (some a) len cap) l∧l.length=len∧∀ x ∈ l,0≤x.kind:=by
  obtain ⟨q,hq⟩:=choose_lt hx
  have hz:((List.range len).map q).length=len:=by simp
  refine ⟨(List.range len).map q,⟨some a,cap,by rw [hz],by rw [hz];exact hl,?_⟩,hz,fun x hx=>?_⟩
  · by_cases h0:len=0
    · exact .inl (by rw [hz];exact h0)
    · obtain ⟨b,off,spot⟩:=a
      have hc0:=(hq 0 (by omega)).2.1
      have hspot:spot=none:=by simpa [Addr.add] using World.cell?_spot hc0
      subst hspot
      refine .inr ⟨b,off,rfl,?_,fun k hk=>?_⟩
      · rcases Nat.lt_or_ge b w.heap.size with r | r
        · exact r
        · exfalso
          unfold World.cell? at hc0
          rw [show (((⟨b,off,none⟩:Addr).add (0 * 6)).add 0).block=b by simp [Addr.add],Array.getElem?_eq_none r] at hc0
          simp at hc0
      · rw [hz] at hk
        obtain ⟨_,c0,c1,c2,c3,c4,c5⟩:=hq k (by omega)
        rw [add_plain,add_plain] at c0 c1 c2 c3 c4 c5
        simp only [List.getElem_map,List.getElem_range]
        exact ⟨c0,c1,c2,c3,c4,c5⟩
  · obtain ⟨i,hi,rfl⟩:=List.mem_map.1 hx
    exact (hq i (by have:=List.mem_range.1 hi;omega)).1
end Go.Proofs.YtpmlggjhfiljmaaGreatDoor
