/- Part 10 of what the law rests on. -/
import Derived.Test.YtpmlggjhfiljmaaGreatDoorS09
set_option linter.all false
namespace Go.Proofs.YtpmlggjhfiljmaaGreatDoor
open Go.RowKit
theorem Fresh.undr {w w':World} (h:Fresh w.drew w'):Fresh w w':=⟨h.os,h.tape,h.output,h.size,h.block⟩
theorem RangAt.left_eq {w:World} {b r n:Nat} {M:Int→Option Value} {L:Int→Bool} {cnt:Nat} (h:RangAt w b r n M L cnt):w.rangeLeft b r=cnt:=by obtain ⟨D,left,h1,_⟩:=h;exact h1.left_eq
theorem RangAt.mut {S:Nat→Prop} {w w':World} {b r n:Nat} {M:Int→Option Value} {L:Int→Bool} {cnt:Nat} (h:RangAt w b r n M L cnt) (hf:Mut S w w') (h1:¬ S b) (h2:¬ S r):RangAt w' b r n M L cnt:=by
  obtain ⟨D,left,⟨es,clock,since,seen,c0,q1,q2,q3,q4,q5,q6⟩,h3,h4⟩:=h
  have hb:b<w.heap.size:=by
    rcases Nat.lt_or_ge b w.heap.size with q | q
    · exact q
    · rw [Array.getElem?_eq_none q] at q1;cases q1
  have hr:r<w.heap.size:=by
    rcases Nat.lt_or_ge r w.heap.size with q | q
    · exact q
    · rw [Array.getElem?_eq_none q] at q5;cases q5
  exact ⟨D,left,⟨es,clock,since,seen,c0,(hf.block b hb h1).trans q1,q2,q3,q4,(hf.block r hr h2).trans q5,q6⟩,h3,h4⟩
theorem RangAt.neBlk {w:World} {b r n:Nat} {M:Int→Option Value} {L:Int→Bool} {cnt:Nat} (h:RangAt w b r n M L cnt) {g:Nat} {t:TypeId} {cs:Array Value} (hb:Blk w g t cs):g ≠ r:=by
  obtain ⟨D,left,⟨es,clock,since,seen,c0,q1,q2,q3,q4,q5,q6⟩,h3,h4⟩:=h
  intro e
  subst e
  unfold Blk at hb
  rw [hb] at q5
  cases q5
theorem RangAt.neOwn {w:World} {b r n:Nat} {M:Int→Option Value} {L:Int→Bool} {cnt:Nat} (h:RangAt w b r n M L cnt) {A:Nat→Prop} {e:TypeId} {sz:Nat} {v:Value} {m:Nat} {xs:List Value} (ho:OwnA w A e sz v m xs):v.ownBlock ≠ some r:=by
  obtain ⟨D,left,⟨es,clock,since,seen,c0,q1,q2,q3,q4,q5,q6⟩,h3,h4⟩:=h
  intro hv
  obtain ⟨_,⟨rfl,_⟩ | ⟨g,cap,cur,rfl,_,hh,_⟩⟩:=ho.1
  · cases hv
  · injection hv with hv
    subst hv
    rw [show (⟨g,0,none⟩:Addr).block=g from rfl,hh] at q5
    cases q5
theorem RangAt.neMap {w:World} {b r n:Nat} {M:Int→Option Value} {L:Int→Bool} {cnt:Nat} (h:RangAt w b r n M L cnt) {g m:Nat} {M':Int→Option Value} (hb:MapAt w g m M'):g ≠ r:=by
  obtain ⟨D,left,⟨es,clock,since,seen,c0,q1,q2,q3,q4,q5,q6⟩,h3,h4⟩:=h
  obtain ⟨D',⟨es',clock',hb',_⟩,_⟩:=hb
  intro e
  subst e
  rw [hb'] at q5
  cases q5
def ClRel (w:World) (T:TreS) (q gd r tn gn gf pp:Nat) (Ap:Nat→Prop) (Md:Int→Option Value) (wr:World):Prop :=
  ∃ L cnt k Mn Mf,RangAt wr gd r q Md L cnt∧k+cnt≤q∧MapAt wr gn k Mn∧(∀ i,L i=true→Mn i=none)∧(∀ i l,L i=false→T.dirs i=some l→∃ v,Mn i=some v∧OwnE wr (fun g=>w.heap.size≤g∧¬ Ap g) v l)∧(∀ i,T.dirs i=none→Mn i=none) ∧
    Blk wr tn 159 #[.map (some gn),.map (some gf),.pointer (some ⟨pp,0,none⟩),.int .i64 T.next]∧MapAt wr gf q Mf∧(∀ i,Mf i=if T.files i=true then some (.int .i64 1) else none)∧PoolAt wr Ap pp T.fr T.bk T.out q∧Fresh w wr
theorem cl_round {w wr w1 w2 w3:World} {T:TreS} {q gd r tn gn gf pp:Nat} {Ap:Nat→Prop} {Md Mn Mf:Int→Option Value} {L:Int→Bool} {cnt cnt1 k:Nat} {x:Int} {lx:List Ent} {v2:Value} (hgd:gd<w.heap.size) (hgn:w.heap.size≤gn) (hne:gn ≠ gf) (hAp:∀ j,Ap j→j ≠ r∧j ≠ gn)
    (hrg:RangAt wr gd r q Md L cnt) (hkc:k+cnt≤q) (hmn:MapAt wr gn k Mn) (hL1:∀ i,L i=true→Mn i=none) (hL2:∀ i l,L i=false→T.dirs i=some l→∃ v,Mn i=some v∧OwnE wr (fun g=>w.heap.size≤g∧¬ Ap g) v l) (hL3:∀ i,T.dirs i=none→Mn i=none)
    (hb:Blk wr tn 159 #[.map (some gn),.map (some gf),.pointer (some ⟨pp,0,none⟩),.int .i64 T.next]) (hmf:MapAt wr gf q Mf) (h8:∀ i,Mf i=if T.files i=true then some (.int .i64 1) else none) (hp:PoolAt wr Ap pp T.fr T.bk T.out q) (hf:Fresh w wr)
    (hx:T.dirs x=some lx) (hrg1:RangAt w1 gd r q Md (fun i=>L i && !decide (i=x)) cnt1) (hlt:cnt1<cnt) (u1:Mut (fun j=>j=r) wr w1) (hr:w.heap.size≤r) (hf2:Fresh w1 w2) (ho2:OwnE w2 (fun g=>w.heap.size≤g∧¬ Ap g) v2 lx) (m3:MapAt w3 gn (k+1) (fun i=>if i=x then some v2 else Mn i)) (u3:Mut (fun j=>j=gn) w2 w3) :
    ClRel w T q gd r tn gn gf pp Ap Md w3∧w3.rangeLeft gd r<wr.rangeLeft gd r:=by
  have hne1:=hrg.neBlk hb
  have hne2:=hrg.neMap hmn
  have hne3:=hrg.neMap hmf
  have hbm:=hb.neMap hmn
  have hm2:MapAt w2 gn k Mn:=(hmn.mut u1 hne2).fresh hf2
  have hrg3:=(hrg1.mut (hf2.mut (fun _=>False)) (fun q=>q) (fun q=>q)).mut u3 (by omega) (fun e=>hne2 e.symm)
  have hown3:∀ {v:Value} {l:List Ent},OwnE wr (fun g=>w.heap.size≤g∧¬ Ap g) v l→OwnE w3 (fun g=>w.heap.size≤g∧¬ Ap g) v l:=fun {v l} ho=>by
    have o2:OwnE w2 _ v l:=OwnA.fresh (OwnA.mutB ho u1 (fun g hg e=>hrg.neOwn ho (by rw [hg,e]))) hf2
    exact OwnA.mutB o2 u3 (fun g hg e=>OwnA.neMap o2 hm2 (by rw [hg,e]))
  refine ⟨⟨_,cnt1,k+1,_,Mf,hrg3,by omega,m3,fun i hi=>?_,fun i l hi hd=>?_,fun i hd=>?_,((hb.mut u1 hne1).keep hf2).mut u3 hbm,((hmf.mut u1 hne3).fresh hf2).mut u3 (fun e=>hne e.symm),h8,((hp.mut u1 (fun j hj=>(hAp j hj).1)).fresh hf2).mut u3 (fun j hj=>(hAp j hj).2),?_⟩,by rw [hrg3.left_eq,hrg.left_eq];exact hlt⟩
  · simp at hi
    rw [if_neg hi.2]
    exact hL1 i hi.1
  · by_cases e:i=x
    · subst e
      rw [hx] at hd
      injection hd with hd
      subst hd
      exact ⟨v2,if_pos rfl,OwnA.mutB ho2 u3 (fun g hg e=>OwnA.neMap ho2 hm2 (by rw [hg,e]))⟩
    · have hLi:L i=false:=by simpa [e] using hi
      obtain ⟨v,hv,ho⟩:=hL2 i l hLi hd
      exact ⟨v,by rw [if_neg e];exact hv,hown3 ho⟩
  · have:i ≠ x:=fun e=>by rw [e,hx] at hd;cases hd
    rw [if_neg this]
    exact hL3 i hd
  · exact ((hf.mut2 u1 (fun j e=>by omega)).trans hf2).mut2 u3 (fun j e=>by omega)
set_option maxRecDepth 100000 in
set_option maxHeartbeats 3200000 in
theorem treeClone_any (w:World) (A:Nat→Prop) (t:Nat) (T:TreS) (q:Nat) (h:TreeAt w A t T q) (hq:q≤1000000) (hbk:T.bk.length≤100000) (hl:∀ i l,T.dirs i=some l→l.length≤100000):Calls Tryz.prog 132 #[.pointer (some ⟨t,0,none⟩)] w (TreeNew T q w):=by
  obtain ⟨gd,gf,pp,Md,Mf,Ap0,h1,h2,h3,h4,h5,h6,h7,h8,h9,h10,h12,h11⟩:=h
  have hmm:=@run_makeMap Tryz.prog
  have c0:w.cell? ⟨t,0,none⟩=some (.map (some gd)):=by rw [h1.cell];rfl
  have c1:w.cell? ⟨t,1,none⟩=some (.map (some gf)):=by rw [h1.cell];rfl
  have c2:w.cell? ⟨t,2,none⟩=some (.pointer (some ⟨pp,0,none⟩)):=by rw [h1.cell];rfl
  have c3:w.cell? ⟨t,3,none⟩=some (.int .i64 T.next):=by rw [h1.cell];rfl
  have htl:=h1.lt
  have HMC:Hid (∀ W,Fresh w W→Calls Tryz.prog 192 #[.map (some gf)] W fun e w'=>e=.returned (.map (some W.heap.size))∧MapAt w' W.heap.size q Mf∧w.heap.size≤W.heap.size∧Fresh W w'∧Fresh w w'∧∀ o,w'.cell? ⟨t,o,none⟩=w.cell? ⟨t,o,none⟩):=Lib.hid (fun W hW=>(mapsClone_int gf q Mf W (h7.fresh hW)).mono fun e w' ⟨he,hm,hf,_⟩=>⟨he,hm,hW.size,hf,hW.trans hf,fun o=>Below.cell (hW.trans hf) (p:=⟨t,o,none⟩) htl⟩)
  have HPC:Hid (∀ W,Fresh w W→Calls Tryz.prog 193 #[.pointer (some ⟨pp,0,none⟩)] W fun e w'=>∃ p',e=.returned (.pointer (some ⟨p',0,none⟩))∧PoolAt w' (fun g=>W.heap.size≤g∧g<w'.heap.size) p' T.fr T.bk T.out q∧w.heap.size≤W.heap.size∧Fresh W w'∧Fresh w w'∧∀ o,w'.cell? ⟨t,o,none⟩=w.cell? ⟨t,o,none⟩):=Lib.hid (fun W hW=>(poolClone_any W Ap0 pp T.fr T.bk T.out q (h11.fresh hW) hbk).mono fun e w' ⟨p',he,hp,hf⟩=>⟨p',he,hp.mono (fun k h1 hk=>⟨hk,h1⟩),hW.size,hf,hW.trans hf,fun o=>Below.cell (hW.trans hf) (p:=⟨t,o,none⟩) htl⟩)
  have H6:=Lib.hid h6
  have H8:=Lib.hid h8
  have H9:=Lib.hid h9
  have H10:=Lib.hid h10
  clear h1 h6 h7 h8 h9 h10 h11
  go_enter Tryz.func132,Tryz.ntmps132
  go_wp2_with fail
  go_region_held3 (fun W=>W.cell? ⟨t,1,none⟩=some (.map (some gf))∧W.cell? ⟨t,2,none⟩=some (.pointer (some ⟨pp,0,none⟩))∧W.cell? ⟨t,3,none⟩=some (.int .i64 T.next)) (go_keep) (first
    | (go_at_call 192;refine (HMC.out _ (by repeat (first | exact Fresh.refl _ | assumption | refine Fresh.drew ?_ | refine Fresh.alloc ?_ _))).mono ?_;rintro e wB ⟨rfl,hmB,hsB,hfB,hfB2,hcB⟩)
    | (go_at_call 193;refine (HPC.out _ (by repeat (first | exact Fresh.refl _ | assumption | refine Fresh.drew ?_ | refine Fresh.alloc ?_ _))).mono ?_;rintro e wA ⟨p',rfl,hpA,hsW,hfA,hfA2,hcA⟩))
  · -- order 0
    have hsA:w.heap.size≤wA.heap.size:=hfA2.size
    have hsB:w.heap.size≤wB.heap.size:=hfB2.size
    have PK:Hid (Blk (wA.alloc (.cells #[.map (some w.heap.size),.map (some (w.heap.size+1)),.pointer (some ⟨p',0,none⟩),.int .i64 T.next] 159)) wA.heap.size 159 #[.map (some w.heap.size),.map (some (w.heap.size+1)),.pointer (some ⟨p',0,none⟩),.int .i64 T.next]∧MapAt (wA.alloc (.cells #[.map (some w.heap.size),.map (some (w.heap.size+1)),.pointer (some ⟨p',0,none⟩),.int .i64 T.next] 159)) w.heap.size 0 (fun _=>none)∧MapAt (wA.alloc (.cells #[.map (some w.heap.size),.map (some (w.heap.size+1)),.pointer (some ⟨p',0,none⟩),.int .i64 T.next] 159)) (w.heap.size+1) q Mf∧PoolAt (wA.alloc (.cells #[.map (some w.heap.size),.map (some (w.heap.size+1)),.pointer (some ⟨p',0,none⟩),.int .i64 T.next] 159)) (fun g=>wB.heap.size≤g∧g<wA.heap.size) p' T.fr T.bk T.out q∧Fresh w (wA.alloc (.cells #[.map (some w.heap.size),.map (some (w.heap.size+1)),.pointer (some ⟨p',0,none⟩),.int .i64 T.next] 159))):=Lib.hid ⟨by exact Blk.new _ _ _,((((MapAt.made w).fresh (by first | exact hfB | exact hfB.undr)).fresh hfA).alloc _),(((show MapAt wB (w.heap.size+1) q Mf by simpa using hmB).fresh hfA).alloc _),by exact hpA.fresh ((Fresh.refl _).alloc _),(hfA2.alloc _)⟩
    have hgn9:w.heap.size<wB.heap.size∨wA.heap.size≤w.heap.size:=by left;(have hl9:w.heap.size+1<wB.heap.size:=by simpa using hmB.lt);omega
    have hgf9:(w.heap.size+1)<wB.heap.size:=by (have hl9:w.heap.size+1<wB.heap.size:=by simpa using hmB.lt);omega
    have hbA:wB.heap.size≤wA.heap.size:=by exact hfA.size
    have hgns:w.heap.size≤w.heap.size:=by omega
    have hgfs:w.heap.size≤(w.heap.size+1):=by omega
    have hne:w.heap.size ≠ (w.heap.size+1):=by omega
    obtain ⟨W5,hW5⟩:∃ W5,(wA.alloc (.cells #[.map (some w.heap.size),.map (some (w.heap.size+1)),.pointer (some ⟨p',0,none⟩),.int .i64 T.next] 159))=W5:=⟨_,rfl⟩
    rw [hW5] at PK ⊢
    have hw5s:wA.heap.size<W5.heap.size:=by rw [← hW5];simp <;> omega
    clear hfA hfA2 hfB hfB2 hcA hcB hmB hpA hW5 hsW
    obtain ⟨b5,m5,f5,p5,r5⟩:=PK.out
    have c50:W5.cell? ⟨t,0,none⟩=some (.map (some gd)):=(Below.cell r5 (p:=⟨t,0,none⟩) htl).trans c0
    have h65:MapAt W5 gd q Md:=H6.out.fresh r5
    have hgdl:gd<w.heap.size:=H6.out.lt
    have hr5:=r5.size
    have hgn5:=m5.lt
    have htn5:=b5.lt
    have hgf5:=f5.lt
    have hA5:wA.heap.size≤wA.heap.size:=by omega
    have htn9:wA.heap.size<wB.heap.size∨wA.heap.size≤wA.heap.size:=by omega
    clear b5 m5 f5 p5 r5
    go_wp2_with (at_range;refine wpList_rangeI _ rfl _ 155 rfl 83 Tryz.underlying155 gd q Md rfl h65 ?_;intro w0 cnt0 hrg0 hcnt0 hfr0 hs0)
    go_frame
    go_loopw [28] (fun _ wr=>ClRel w T q gd W5.heap.size wA.heap.size w.heap.size (w.heap.size+1) p' (fun g=>wB.heap.size≤g∧g<wA.heap.size) Md wr) (fun _ wr=>wr.rangeLeft gd W5.heap.size)
    case atStart =>
      obtain ⟨b5,m5,f5,p5,r5⟩:=PK.out
      refine ⟨_,cnt0,0,fun _=>none,Mf,hrg0,by omega,m5.fresh hfr0,fun i _=>rfl,fun i l hL hd=>?_,fun i _=>rfl,b5.keep hfr0,f5.fresh hfr0,H8.out,p5.fresh hfr0,r5.trans hfr0⟩
      obtain ⟨v,hv,_⟩:=H9.out i l hd
      simp [hv] at hL
    case round =>
      obtain ⟨L,cnt,kk,Mn,Mf2,hrg,hkc,hmn,hL1,hL2,hL3,hb,hmf,h8',hp,hf⟩:=hrel
      have HCR:=Lib.hid (fun (x:Int) (lx:List Ent) (v2:Value) (w1 w2 w3:World) (cnt1:Nat)=>cl_round (w:=w) (T:=T) (x:=x) (lx:=lx) (v2:=v2) (w1:=w1) (w2:=w2) (w3:=w3) (cnt1:=cnt1) hgdl hgns hne (fun j hj=>by omega) hrg hkc hmn hL1 hL2 hL3 hb hmf h8' hp hf)
      have hne1:=hrg.neBlk hb
      have hne2:=hrg.neMap hmn
      have hne3:=hrg.neMap hmf
      have d0:wr.cell? ⟨wA.heap.size,0,none⟩=some (.map (some w.heap.size)):=by rw [hb.cell];rfl
      have HREL:=Lib.hid (And.intro hmn (And.intro hL1 (And.intro hL2 (And.intro hL3 (And.intro hb (And.intro hmf (And.intro h8' (And.intro hp hf))))))))
      have htl2:=hb.lt
      have hbm:=hb.neMap hmn
      have hbm2:=hb.neMap hmf
      clear hmn hL1 hL2 hL3 hb hmf h8' hp hf
      go_wp2_with (at_next;refine wpList_nextI _ rfl _ rfl gd W5.heap.size q Md L cnt rfl hrg ?_ ?_)
      · intro hl0
        obtain ⟨hmn,hL1,hL2,hL3,hb,hmf,h8',hp,hf⟩:=HREL.out
        have hfin:TreeAt wr (fun g=>w.heap.size≤g) wA.heap.size T q:=⟨w.heap.size,(w.heap.size+1),p',Mn,Mf2,_,hb,⟨by omega,by omega⟩,⟨hgns,by omega⟩,⟨hgfs,by omega⟩,hne,hmn.mono (by omega),hmf,h8',fun i l hd=>hL2 i l (hl0 i) hd,hL3,fun k hk=>by omega,hp⟩
        have HFIN:=Lib.hid (And.intro hfin hf)
        clear hmn hL1 hL2 hL3 hb hmf h8' hp hf hfin hl0
        go_wp2
        go_ret
        exact ⟨_,rfl,HFIN.out.1,HFIN.out.2⟩
      · intro x c w1 cnt1 hx hLx hMx hrg1 hlt u1 z1 hen
        obtain ⟨lx,hlx⟩:∃ l,T.dirs x=some l:=by
          cases hd:T.dirs x with
          | some l=>exact ⟨l,rfl⟩
          | none=>have:=H10.out x hd;rw [hMx] at this;cases this
        obtain ⟨v',hv',hov⟩:=H9.out x lx hlx
        rw [hMx] at hv'
        injection hv' with hv'
        subst hv'
        obtain ⟨ac,cc,rfl⟩:=hov.shape
        have d1:w1.cell? ⟨wA.heap.size,0,none⟩=some (.map (some w.heap.size)):=(u1.cell (p:=⟨wA.heap.size,0,none⟩) htl2 hne1).trans d0
        have htl3:wA.heap.size<w1.heap.size:=Nat.lt_of_lt_of_le htl2 u1.size
        have hfw1:Fresh w w1:=HREL.out.2.2.2.2.2.2.2.2.mut2 u1 (fun j e=>by omega)
        have HCL:Hid (∀ W,Fresh w1 W→Calls Tryz.prog 78 #[.slice ac lx.length cc] W fun e w'=>∃ a c,e=.returned (.slice a lx.length c)∧OwnE w' (fun g=>w.heap.size≤g∧¬ (wB.heap.size≤g∧g<wA.heap.size)) (.slice a lx.length c) lx∧Fresh w1 w'∧(∀ o,w'.cell? ⟨wA.heap.size,o,none⟩=w1.cell? ⟨wA.heap.size,o,none⟩)):=Lib.hid (fun W hW=>(cloneE_any _ _ lx W (((OwnE.sl hov).fresh hfw1).fresh hW) (by have:=hl x lx hlx;omega)).mono fun e w' ⟨v,he,ho,hf⟩=>by
          obtain ⟨a,c,rfl⟩:=ho.shape
          exact ⟨a,c,he,OwnA.mono ho (fun g _ hg=>by have h5:=hW.size;have h6:=hfw1.size;refine ⟨by omega,by omega⟩),hW.trans hf,fun o=>Below.cell (hW.trans hf) (p:=⟨wA.heap.size,o,none⟩) htl3⟩)
        have HM1:=Lib.hid (HREL.out.1.mut u1 hne2)
        have HLX:=Lib.hid hlx
        have HRD:=Lib.hid (fun (v2:Value) (w2 w3:World)=>HCR.out x lx v2 w1 w2 w3 cnt1 hlx hrg1 hlt u1 (by omega))
        have hw1s:wr.heap.size≤w1.heap.size:=u1.size
        clear hov hlx hMx hrg1 hlt u1 hfw1 hLx
        go_wp2_with fail
        go_region_law (first
          | (go_simp;go_at_call 78;refine (HCL.out _ (by repeat (first | exact Fresh.refl _ | refine Fresh.drew ?_))).mono ?_;rintro e w2 ⟨a2,c2,rfl,ho2,hf2,hc2⟩;obtain ⟨w3,hrun3,m3,u3,z3⟩:=(HM1.out.fresh hf2).storeRun Tryz.underlying155 (by omega) hx (.slice a2 lx.length c2)))
        all_goals
          have HE:=Lib.hid (HRD.out _ w2 w3 (by first | exact (Fresh.undr (by first | exact hf2 | exact Fresh.undr hf2)) | exact hf2) ho2 m3 u3)
          clear ho2 hf2 hc2 m3 u3 hrun3
          go_wp2
          go_roundw
          case rel=>exact HE.out.1
          case measure=>exact HE.out.2
  · -- order 1
    have hsA:w.heap.size≤wA.heap.size:=hfA2.size
    have hsB:w.heap.size≤wB.heap.size:=hfB2.size
    have PK:Hid (Blk (wA.alloc (.cells #[.map (some wB.heap.size),.map (some w.heap.size),.pointer (some ⟨p',0,none⟩),.int .i64 T.next] 159)) wA.heap.size 159 #[.map (some wB.heap.size),.map (some w.heap.size),.pointer (some ⟨p',0,none⟩),.int .i64 T.next]∧MapAt (wA.alloc (.cells #[.map (some wB.heap.size),.map (some w.heap.size),.pointer (some ⟨p',0,none⟩),.int .i64 T.next] 159)) wB.heap.size 0 (fun _=>none)∧MapAt (wA.alloc (.cells #[.map (some wB.heap.size),.map (some w.heap.size),.pointer (some ⟨p',0,none⟩),.int .i64 T.next] 159)) w.heap.size q Mf∧PoolAt (wA.alloc (.cells #[.map (some wB.heap.size),.map (some w.heap.size),.pointer (some ⟨p',0,none⟩),.int .i64 T.next] 159)) (fun g=>(wB.heap.size+1)≤g∧g<wA.heap.size) p' T.fr T.bk T.out q∧Fresh w (wA.alloc (.cells #[.map (some wB.heap.size),.map (some w.heap.size),.pointer (some ⟨p',0,none⟩),.int .i64 T.next] 159))):=Lib.hid ⟨by exact Blk.new _ _ _,(((MapAt.made wB).fresh hfA).alloc _),((hmB.fresh (((Fresh.refl _).alloc _).trans hfA)).alloc _),by (have hpA2:PoolAt wA (fun g=>wB.heap.size+1≤g∧g<wA.heap.size) p' T.fr T.bk T.out q:=by simpa using hpA);exact hpA2.fresh ((Fresh.refl _).alloc _),(hfA2.alloc _)⟩
    have hgn9:wB.heap.size<(wB.heap.size+1)∨wA.heap.size≤wB.heap.size:=by left;omega
    have hgf9:w.heap.size<(wB.heap.size+1):=by (have hl9:w.heap.size<wB.heap.size:=hmB.lt);omega
    have hbA:wB.heap.size≤wA.heap.size:=by (have:=hfA.size;simp at this;omega)
    have hgns:w.heap.size≤wB.heap.size:=by omega
    have hgfs:w.heap.size≤w.heap.size:=by omega
    have hne:wB.heap.size ≠ w.heap.size:=by (have hl9:w.heap.size<wB.heap.size:=hmB.lt;omega)
    obtain ⟨W5,hW5⟩:∃ W5,(wA.alloc (.cells #[.map (some wB.heap.size),.map (some w.heap.size),.pointer (some ⟨p',0,none⟩),.int .i64 T.next] 159))=W5:=⟨_,rfl⟩
    rw [hW5] at PK ⊢
    have hw5s:wA.heap.size<W5.heap.size:=by rw [← hW5];simp <;> omega
    clear hfA hfA2 hfB hfB2 hcA hcB hmB hpA hW5 hsW
    obtain ⟨b5,m5,f5,p5,r5⟩:=PK.out
    have c50:W5.cell? ⟨t,0,none⟩=some (.map (some gd)):=(Below.cell r5 (p:=⟨t,0,none⟩) htl).trans c0
    have h65:MapAt W5 gd q Md:=H6.out.fresh r5
    have hgdl:gd<w.heap.size:=H6.out.lt
    have hr5:=r5.size
    have hgn5:=m5.lt
    have htn5:=b5.lt
    have hgf5:=f5.lt
    have hA5:wA.heap.size≤wA.heap.size:=by omega
    have htn9:wA.heap.size<(wB.heap.size+1)∨wA.heap.size≤wA.heap.size:=by omega
    clear b5 m5 f5 p5 r5
    go_wp2_with (at_range;refine wpList_rangeI _ rfl _ 155 rfl 83 Tryz.underlying155 gd q Md rfl h65 ?_;intro w0 cnt0 hrg0 hcnt0 hfr0 hs0)
    go_frame
    go_loopw [28] (fun _ wr=>ClRel w T q gd W5.heap.size wA.heap.size wB.heap.size w.heap.size p' (fun g=>(wB.heap.size+1)≤g∧g<wA.heap.size) Md wr) (fun _ wr=>wr.rangeLeft gd W5.heap.size)
    case atStart =>
      obtain ⟨b5,m5,f5,p5,r5⟩:=PK.out
      refine ⟨_,cnt0,0,fun _=>none,Mf,hrg0,by omega,m5.fresh hfr0,fun i _=>rfl,fun i l hL hd=>?_,fun i _=>rfl,b5.keep hfr0,f5.fresh hfr0,H8.out,p5.fresh hfr0,r5.trans hfr0⟩
      obtain ⟨v,hv,_⟩:=H9.out i l hd
      simp [hv] at hL
    case round =>
      obtain ⟨L,cnt,kk,Mn,Mf2,hrg,hkc,hmn,hL1,hL2,hL3,hb,hmf,h8',hp,hf⟩:=hrel
      have HCR:=Lib.hid (fun (x:Int) (lx:List Ent) (v2:Value) (w1 w2 w3:World) (cnt1:Nat)=>cl_round (w:=w) (T:=T) (x:=x) (lx:=lx) (v2:=v2) (w1:=w1) (w2:=w2) (w3:=w3) (cnt1:=cnt1) hgdl hgns hne (fun j hj=>by omega) hrg hkc hmn hL1 hL2 hL3 hb hmf h8' hp hf)
      have hne1:=hrg.neBlk hb
      have hne2:=hrg.neMap hmn
      have hne3:=hrg.neMap hmf
      have d0:wr.cell? ⟨wA.heap.size,0,none⟩=some (.map (some wB.heap.size)):=by rw [hb.cell];rfl
      have HREL:=Lib.hid (And.intro hmn (And.intro hL1 (And.intro hL2 (And.intro hL3 (And.intro hb (And.intro hmf (And.intro h8' (And.intro hp hf))))))))
      have htl2:=hb.lt
      have hbm:=hb.neMap hmn
      have hbm2:=hb.neMap hmf
      clear hmn hL1 hL2 hL3 hb hmf h8' hp hf
      go_wp2_with (at_next;refine wpList_nextI _ rfl _ rfl gd W5.heap.size q Md L cnt rfl hrg ?_ ?_)
      · intro hl0
        obtain ⟨hmn,hL1,hL2,hL3,hb,hmf,h8',hp,hf⟩:=HREL.out
        have hfin:TreeAt wr (fun g=>w.heap.size≤g) wA.heap.size T q:=⟨wB.heap.size,w.heap.size,p',Mn,Mf2,_,hb,⟨by omega,by omega⟩,⟨hgns,by omega⟩,⟨hgfs,by omega⟩,hne,hmn.mono (by omega),hmf,h8',fun i l hd=>hL2 i l (hl0 i) hd,hL3,fun k hk=>by omega,hp⟩
        have HFIN:=Lib.hid (And.intro hfin hf)
        clear hmn hL1 hL2 hL3 hb hmf h8' hp hf hfin hl0
        go_wp2
        go_ret
        exact ⟨_,rfl,HFIN.out.1,HFIN.out.2⟩
      · intro x c w1 cnt1 hx hLx hMx hrg1 hlt u1 z1 hen
        obtain ⟨lx,hlx⟩:∃ l,T.dirs x=some l:=by
          cases hd:T.dirs x with
          | some l=>exact ⟨l,rfl⟩
          | none=>have:=H10.out x hd;rw [hMx] at this;cases this
        obtain ⟨v',hv',hov⟩:=H9.out x lx hlx
        rw [hMx] at hv'
        injection hv' with hv'
        subst hv'
        obtain ⟨ac,cc,rfl⟩:=hov.shape
        have d1:w1.cell? ⟨wA.heap.size,0,none⟩=some (.map (some wB.heap.size)):=(u1.cell (p:=⟨wA.heap.size,0,none⟩) htl2 hne1).trans d0
        have htl3:wA.heap.size<w1.heap.size:=Nat.lt_of_lt_of_le htl2 u1.size
        have hfw1:Fresh w w1:=HREL.out.2.2.2.2.2.2.2.2.mut2 u1 (fun j e=>by omega)
        have HCL:Hid (∀ W,Fresh w1 W→Calls Tryz.prog 78 #[.slice ac lx.length cc] W fun e w'=>∃ a c,e=.returned (.slice a lx.length c)∧OwnE w' (fun g=>w.heap.size≤g∧¬ ((wB.heap.size+1)≤g∧g<wA.heap.size)) (.slice a lx.length c) lx∧Fresh w1 w'∧(∀ o,w'.cell? ⟨wA.heap.size,o,none⟩=w1.cell? ⟨wA.heap.size,o,none⟩)):=Lib.hid (fun W hW=>(cloneE_any _ _ lx W (((OwnE.sl hov).fresh hfw1).fresh hW) (by have:=hl x lx hlx;omega)).mono fun e w' ⟨v,he,ho,hf⟩=>by
          obtain ⟨a,c,rfl⟩:=ho.shape
          exact ⟨a,c,he,OwnA.mono ho (fun g _ hg=>by have h5:=hW.size;have h6:=hfw1.size;refine ⟨by omega,by omega⟩),hW.trans hf,fun o=>Below.cell (hW.trans hf) (p:=⟨wA.heap.size,o,none⟩) htl3⟩)
        have HM1:=Lib.hid (HREL.out.1.mut u1 hne2)
        have HLX:=Lib.hid hlx
        have HRD:=Lib.hid (fun (v2:Value) (w2 w3:World)=>HCR.out x lx v2 w1 w2 w3 cnt1 hlx hrg1 hlt u1 (by omega))
        have hw1s:wr.heap.size≤w1.heap.size:=u1.size
        clear hov hlx hMx hrg1 hlt u1 hfw1 hLx
        go_wp2_with fail
        go_region_law (first
          | (go_simp;go_at_call 78;refine (HCL.out _ (by repeat (first | exact Fresh.refl _ | refine Fresh.drew ?_))).mono ?_;rintro e w2 ⟨a2,c2,rfl,ho2,hf2,hc2⟩;obtain ⟨w3,hrun3,m3,u3,z3⟩:=(HM1.out.fresh hf2).storeRun Tryz.underlying155 (by omega) hx (.slice a2 lx.length c2)))
        all_goals
          have HE:=Lib.hid (HRD.out _ w2 w3 (by first | exact (Fresh.undr (by first | exact hf2 | exact Fresh.undr hf2)) | exact hf2) ho2 m3 u3)
          clear ho2 hf2 hc2 m3 u3 hrun3
          go_wp2
          go_roundw
          case rel=>exact HE.out.1
          case measure=>exact HE.out.2
  · -- order 2
    have hsA:w.heap.size≤wA.heap.size:=hfA2.size
    have hsB:w.heap.size≤wB.heap.size:=hfB2.size
    have PK:Hid (Blk ((wA.alloc (.map #[] 0)).alloc (.cells #[.map (some wA.heap.size),.map (some w.heap.size),.pointer (some ⟨p',0,none⟩),.int .i64 T.next] 159)) (wA.heap.size+1) 159 #[.map (some wA.heap.size),.map (some w.heap.size),.pointer (some ⟨p',0,none⟩),.int .i64 T.next]∧MapAt ((wA.alloc (.map #[] 0)).alloc (.cells #[.map (some wA.heap.size),.map (some w.heap.size),.pointer (some ⟨p',0,none⟩),.int .i64 T.next] 159)) wA.heap.size 0 (fun _=>none)∧MapAt ((wA.alloc (.map #[] 0)).alloc (.cells #[.map (some wA.heap.size),.map (some w.heap.size),.pointer (some ⟨p',0,none⟩),.int .i64 T.next] 159)) w.heap.size q Mf∧PoolAt ((wA.alloc (.map #[] 0)).alloc (.cells #[.map (some wA.heap.size),.map (some w.heap.size),.pointer (some ⟨p',0,none⟩),.int .i64 T.next] 159)) (fun g=>wB.heap.size≤g∧g<wA.heap.size) p' T.fr T.bk T.out q∧Fresh w ((wA.alloc (.map #[] 0)).alloc (.cells #[.map (some wA.heap.size),.map (some w.heap.size),.pointer (some ⟨p',0,none⟩),.int .i64 T.next] 159))):=Lib.hid ⟨by have:=Blk.new (wA.alloc (.map #[] 0)) 159 #[.map (some wA.heap.size),.map (some w.heap.size),.pointer (some ⟨p',0,none⟩),.int .i64 T.next];simpa using this,((MapAt.made wA).alloc _),(((hmB.fresh hfA).alloc _).alloc _),by exact hpA.fresh (((Fresh.refl _).alloc _).alloc _),((hfA2.alloc _).alloc _)⟩
    have hgn9:wA.heap.size<wB.heap.size∨wA.heap.size≤wA.heap.size:=by right;omega
    have hgf9:w.heap.size<wB.heap.size:=by (have hl9:w.heap.size<wB.heap.size:=hmB.lt);omega
    have hbA:wB.heap.size≤wA.heap.size:=by exact hfA.size
    have hgns:w.heap.size≤wA.heap.size:=by omega
    have hgfs:w.heap.size≤w.heap.size:=by omega
    have hne:wA.heap.size ≠ w.heap.size:=by omega
    obtain ⟨W5,hW5⟩:∃ W5,((wA.alloc (.map #[] 0)).alloc (.cells #[.map (some wA.heap.size),.map (some w.heap.size),.pointer (some ⟨p',0,none⟩),.int .i64 T.next] 159))=W5:=⟨_,rfl⟩
    rw [hW5] at PK ⊢
    have hw5s:wA.heap.size<W5.heap.size:=by rw [← hW5];simp <;> omega
    clear hfA hfA2 hfB hfB2 hcA hcB hmB hpA hW5 hsW
    obtain ⟨b5,m5,f5,p5,r5⟩:=PK.out
    have c50:W5.cell? ⟨t,0,none⟩=some (.map (some gd)):=(Below.cell r5 (p:=⟨t,0,none⟩) htl).trans c0
    have h65:MapAt W5 gd q Md:=H6.out.fresh r5
    have hgdl:gd<w.heap.size:=H6.out.lt
    have hr5:=r5.size
    have hgn5:=m5.lt
    have htn5:=b5.lt
    have hgf5:=f5.lt
    have hA5:wA.heap.size≤(wA.heap.size+1):=by omega
    have htn9:(wA.heap.size+1)<wB.heap.size∨wA.heap.size≤(wA.heap.size+1):=by omega
    clear b5 m5 f5 p5 r5
    go_wp2_with (at_range;refine wpList_rangeI _ rfl _ 155 rfl 83 Tryz.underlying155 gd q Md rfl h65 ?_;intro w0 cnt0 hrg0 hcnt0 hfr0 hs0)
    go_frame
    go_loopw [28] (fun _ wr=>ClRel w T q gd W5.heap.size (wA.heap.size+1) wA.heap.size w.heap.size p' (fun g=>wB.heap.size≤g∧g<wA.heap.size) Md wr) (fun _ wr=>wr.rangeLeft gd W5.heap.size)
    case atStart =>
      obtain ⟨b5,m5,f5,p5,r5⟩:=PK.out
      refine ⟨_,cnt0,0,fun _=>none,Mf,hrg0,by omega,m5.fresh hfr0,fun i _=>rfl,fun i l hL hd=>?_,fun i _=>rfl,b5.keep hfr0,f5.fresh hfr0,H8.out,p5.fresh hfr0,r5.trans hfr0⟩
      obtain ⟨v,hv,_⟩:=H9.out i l hd
      simp [hv] at hL
    case round =>
      obtain ⟨L,cnt,kk,Mn,Mf2,hrg,hkc,hmn,hL1,hL2,hL3,hb,hmf,h8',hp,hf⟩:=hrel
      have HCR:=Lib.hid (fun (x:Int) (lx:List Ent) (v2:Value) (w1 w2 w3:World) (cnt1:Nat)=>cl_round (w:=w) (T:=T) (x:=x) (lx:=lx) (v2:=v2) (w1:=w1) (w2:=w2) (w3:=w3) (cnt1:=cnt1) hgdl hgns hne (fun j hj=>by omega) hrg hkc hmn hL1 hL2 hL3 hb hmf h8' hp hf)
      have hne1:=hrg.neBlk hb
      have hne2:=hrg.neMap hmn
      have hne3:=hrg.neMap hmf
      have d0:wr.cell? ⟨(wA.heap.size+1),0,none⟩=some (.map (some wA.heap.size)):=by rw [hb.cell];rfl
      have HREL:=Lib.hid (And.intro hmn (And.intro hL1 (And.intro hL2 (And.intro hL3 (And.intro hb (And.intro hmf (And.intro h8' (And.intro hp hf))))))))
      have htl2:=hb.lt
      have hbm:=hb.neMap hmn
      have hbm2:=hb.neMap hmf
      clear hmn hL1 hL2 hL3 hb hmf h8' hp hf
      go_wp2_with (at_next;refine wpList_nextI _ rfl _ rfl gd W5.heap.size q Md L cnt rfl hrg ?_ ?_)
      · intro hl0
        obtain ⟨hmn,hL1,hL2,hL3,hb,hmf,h8',hp,hf⟩:=HREL.out
        have hfin:TreeAt wr (fun g=>w.heap.size≤g) (wA.heap.size+1) T q:=⟨wA.heap.size,w.heap.size,p',Mn,Mf2,_,hb,⟨by omega,by omega⟩,⟨hgns,by omega⟩,⟨hgfs,by omega⟩,hne,hmn.mono (by omega),hmf,h8',fun i l hd=>hL2 i l (hl0 i) hd,hL3,fun k hk=>by omega,hp⟩
        have HFIN:=Lib.hid (And.intro hfin hf)
        clear hmn hL1 hL2 hL3 hb hmf h8' hp hf hfin hl0
        go_wp2
        go_ret
        exact ⟨_,rfl,HFIN.out.1,HFIN.out.2⟩
      · intro x c w1 cnt1 hx hLx hMx hrg1 hlt u1 z1 hen
        obtain ⟨lx,hlx⟩:∃ l,T.dirs x=some l:=by
          cases hd:T.dirs x with
          | some l=>exact ⟨l,rfl⟩
          | none=>have:=H10.out x hd;rw [hMx] at this;cases this
        obtain ⟨v',hv',hov⟩:=H9.out x lx hlx
        rw [hMx] at hv'
        injection hv' with hv'
        subst hv'
        obtain ⟨ac,cc,rfl⟩:=hov.shape
        have d1:w1.cell? ⟨(wA.heap.size+1),0,none⟩=some (.map (some wA.heap.size)):=(u1.cell (p:=⟨(wA.heap.size+1),0,none⟩) htl2 hne1).trans d0
        have htl3:(wA.heap.size+1)<w1.heap.size:=Nat.lt_of_lt_of_le htl2 u1.size
        have hfw1:Fresh w w1:=HREL.out.2.2.2.2.2.2.2.2.mut2 u1 (fun j e=>by omega)
        have HCL:Hid (∀ W,Fresh w1 W→Calls Tryz.prog 78 #[.slice ac lx.length cc] W fun e w'=>∃ a c,e=.returned (.slice a lx.length c)∧OwnE w' (fun g=>w.heap.size≤g∧¬ (wB.heap.size≤g∧g<wA.heap.size)) (.slice a lx.length c) lx∧Fresh w1 w'∧(∀ o,w'.cell? ⟨(wA.heap.size+1),o,none⟩=w1.cell? ⟨(wA.heap.size+1),o,none⟩)):=Lib.hid (fun W hW=>(cloneE_any _ _ lx W (((OwnE.sl hov).fresh hfw1).fresh hW) (by have:=hl x lx hlx;omega)).mono fun e w' ⟨v,he,ho,hf⟩=>by
          obtain ⟨a,c,rfl⟩:=ho.shape
          exact ⟨a,c,he,OwnA.mono ho (fun g _ hg=>by have h5:=hW.size;have h6:=hfw1.size;refine ⟨by omega,by omega⟩),hW.trans hf,fun o=>Below.cell (hW.trans hf) (p:=⟨(wA.heap.size+1),o,none⟩) htl3⟩)
        have HM1:=Lib.hid (HREL.out.1.mut u1 hne2)
        have HLX:=Lib.hid hlx
        have HRD:=Lib.hid (fun (v2:Value) (w2 w3:World)=>HCR.out x lx v2 w1 w2 w3 cnt1 hlx hrg1 hlt u1 (by omega))
        have hw1s:wr.heap.size≤w1.heap.size:=u1.size
        clear hov hlx hMx hrg1 hlt u1 hfw1 hLx
        go_wp2_with fail
        go_region_law (first
          | (go_simp;go_at_call 78;refine (HCL.out _ (by repeat (first | exact Fresh.refl _ | refine Fresh.drew ?_))).mono ?_;rintro e w2 ⟨a2,c2,rfl,ho2,hf2,hc2⟩;obtain ⟨w3,hrun3,m3,u3,z3⟩:=(HM1.out.fresh hf2).storeRun Tryz.underlying155 (by omega) hx (.slice a2 lx.length c2)))
        all_goals
          have HE:=Lib.hid (HRD.out _ w2 w3 (by first | exact (Fresh.undr (by first | exact hf2 | exact Fresh.undr hf2)) | exact hf2) ho2 m3 u3)
          clear ho2 hf2 hc2 m3 u3 hrun3
          go_wp2
          go_roundw
          case rel=>exact HE.out.1
          case measure=>exact HE.out.2
end Go.Proofs.YtpmlggjhfiljmaaGreatDoor
