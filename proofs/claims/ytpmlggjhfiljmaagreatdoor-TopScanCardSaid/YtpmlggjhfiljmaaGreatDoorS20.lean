/- Part 20 of what the law rests on. -/
import Derived.Deep.RegionLaw
import Derived.Test.YtpmlggjhfiljmaaGreatDoorS01
import Derived.Test.YtpmlggjhfiljmaaGreatDoorS08
import Derived.Test.YtpmlggjhfiljmaaGreatDoorS19
set_option linter.all false
namespace Go.Proofs.YtpmlggjhfiljmaaGreatDoor
open Go.RowKit
def MakePost (w:World) (e:Ending) (w':World):Prop:=∃ t T q,e=.returned (.tuple #[.pointer (some ⟨t,0,none⟩),.int .i64 0])∧TreeAt w' (fun g=>w.heap.size≤g) t T q∧q≤10∧IsT0 T∧Fresh w w'
set_option maxRecDepth 100000 in
set_option maxHeartbeats 3200000 in
theorem make0_any (w:World) (gd q:Nat) (Md:Int→Option Value) (hm:MapAt w gd q Md) (hq:q≤1000) (h0:∀ i,Md i=if i=0 then some (.slice none 0 0) else none):Calls Tryz.prog 264 #[.int .i64 1,.map (some gd)] w (MakePost w):=by
  have hmm:=@run_makeMap Tryz.prog
  have h00:Md 0=some (.slice none 0 0):=by rw [h0];rfl
  have hgl:=hm.lt
  have f2:Fresh w ((w.alloc (.map #[] 0)).alloc (.cells #[.int .i64 1,.map (some gd),.slice none 0 0,.map (some w.heap.size),.map none,.bool false] 420)):=((Fresh.refl w).alloc _).alloc _
  have hM2:MapAt ((w.alloc (.map #[] 0)).alloc (.cells #[.int .i64 1,.map (some gd),.slice none 0 0,.map (some w.heap.size),.map none,.bool false] 420)) gd q Md:=hm.fresh f2
  have HK2:Hid (MkAt ((w.alloc (.map #[] 0)).alloc (.cells #[.int .i64 1,.map (some gd),.slice none 0 0,.map (some w.heap.size),.map none,.bool false] 420)) (w.heap.size+1) gd w.heap.size (.map none)):=Lib.hid (by
    have:=Blk.new (w.alloc (.map #[] 0)) 420 #[.int .i64 1,.map (some gd),.slice none 0 0,.map (some w.heap.size),.map none,.bool false]
    rw [World.size_alloc] at this
    exact this)
  have HF2:=Lib.hid f2
  have HM:=Lib.hid hm
  have H0:=Lib.hid h0
  have HMU:=Lib.hid (fun W m gd gc nm hW=>must_any W m gd gc nm hW)
  have HMD:=Lib.hid (fun W m gd gc q Md h1 h2 h3=>mdir_any W m gd gc q Md h1 h2 h3)
  have HTN:=Lib.hid (fun W=>treeNew_any W)
  clear f2 hm h0
  go_enter Tryz.func264,Tryz.ntmps264
  go_wp2_with (first
    | (at_lookup;refine wpList_lookOkI _ rfl _ _ 155 rfl 83 Tryz.underlying155 _ (zeroL _) gd q Md rfl hM2 0 rfl (by unfold I64;omega) (.slice none 0 0) (by rw [h00];rfl) true (by rw [h00];rfl) ?_)
    | fail)
  refine (HMU.out _ _ _ _ _ HK2.out).mono ?_
  rintro e w3 ⟨rfl,k3,u3⟩
  have c5:w3.cell? ⟨w.heap.size+1,5,none⟩=some (.bool false):=by rw [(show Blk w3 (w.heap.size+1) _ _ from k3).cell];rfl
  have HK3:=Lib.hid k3
  have HF3:Hid (Fresh w w3):=Lib.hid (HF2.out.mut2 u3 (fun j e=>by omega))
  clear k3 u3 hM2
  go_wp2_with fail
  refine (HMD.out _ _ _ _ _ _ HK3.out (HM.out.fresh HF3.out) h00).mono ?_
  rintro e w4 ⟨rfl,⟨nb,k4⟩,u4⟩
  have HK4:=Lib.hid k4
  have HF4:Hid (Fresh w w4):=Lib.hid (HF3.out.mut2 u4 (fun j e=>by omega))
  clear k4 u4 c5
  go_wp2_with fail
  refine (HTN.out _).mono ?_
  rintro e w5 ⟨t,rfl,t5,f5⟩
  obtain ⟨gd2,gf2,pp2,Md2,Mf2,Ap2,hApl,h1,h2,h3,h4,h5,h6,h7,h8,h9,h10,h12,h11⟩:=t5.open
  have c3:w5.cell? ⟨t,3,none⟩=some (.int .i64 1):=by rw [h1.cell];rfl
  have e3:w5.frozen? ⟨t,3,none⟩=false:=h1.frozen 3
  have htl:=h1.lt
  have z4:=HF4.out.size
  have htg:w4.heap.size≤t:=h2.1
  have b6:Blk (w5.setCell ⟨t,3,none⟩ (.int .i64 1)) t 159 #[.map (some gd2),.map (some gf2),.pointer (some ⟨pp2,0,none⟩),.int .i64 1]:=h1.set (i:=3)
  have u6:Mut (fun j=>j=t) w5 (w5.setCell ⟨t,3,none⟩ (.int .i64 1)):=(Mut.refl (fun j=>j=t) w5).setCell (p:=⟨t,3,none⟩) (.inl rfl) _
  obtain ⟨W6,hW6⟩:∃ W6,w5.setCell ⟨t,3,none⟩ (.int .i64 1)=W6:=⟨_,rfl⟩
  rw [hW6] at b6 u6
  have F6:Fresh w W6:=(HF4.out.trans f5).mut2 u6 (fun j e=>by omega)
  have K6:MkAt W6 (w.heap.size+1) gd w.heap.size (.map (some nb)):=((show Blk w4 _ _ _ from HK4.out).keep f5).mut u6 (fun e=>by have:=(show Blk w4 _ _ _ from HK4.out).lt;omega)
  have m6:MapAt W6 gd2 1 Md2:=h6.mut u6 (fun e=>by have:=h1.neMap h6;omega)
  have mf6:MapAt W6 gf2 1 Mf2:=h7.mut u6 (fun e=>by have:=h1.neMap h7;omega)
  have hgd2:w4.heap.size≤gd2:=h3.1
  have hgf2:w4.heap.size≤gf2:=h4.1
  have HMf:Hid (∀ i,Mf2 i=none):=Lib.hid (fun i=>by rw [h8];rfl)
  have PK:=Lib.hid (And.intro b6 (And.intro F6 (And.intro K6 (And.intro m6 (And.intro mf6 (HM.out.fresh F6))))))
  have HMd2:Hid (∀ i,i ≠ 0→Md2 i=none):=Lib.hid (fun i hi=>h10 i (by unfold T0;simp only;rw [if_neg hi]))
  clear h1 h2 h3 h4 h6 h7 h8 h9 h10 h12 h11 b6 u6 F6 K6 m6 mf6 t5 f5 hApl
  have m6d:MapAt W6 gd q Md:=PK.out.2.2.2.2.2
  have hgd:gd ≠ gd2:=by omega
  go_wp2_with (at_range;refine wpList_rangeI _ rfl _ 155 rfl 83 Tryz.underlying155 gd q Md rfl m6d ?_;intro w7 cnt7 rg7 hc7 f7 s7)
  go_frame
  have z6:w.heap.size≤W6.heap.size:=PK.out.2.1.size
  have htl6:t<W6.heap.size:=PK.out.1.lt
  have hgl2:gd2<W6.heap.size:=PK.out.2.2.2.1.lt
  clear m6d c3 e3
  refine wp_loop_rounds 2 ?_
  rw [rounds_succ]
  go_wp2_with (at_next;refine wpList_nextI _ rfl _ rfl gd W6.heap.size q Md _ cnt7 rfl rg7 ?_ ?_)
  · intro hl
    have:=hl 0
    rw [h00] at this
    cases this
  · intro x c w8 cnt8 hx hLx hMx rg8 hlt u8 z8 hen
    have hx0:x=0:=by
      rw [H0.out] at hMx
      by_cases e:x=0
      · exact e
      · rw [if_neg e] at hMx;cases hMx
    subst hx0
    rw [h00] at hMx
    injection hMx with hMx
    subst hMx
    have hfm:Mut (fun j=>j=W6.heap.size) W6 w8:=Fresh.andMut f7 u8
    have f8:Fresh W6 w8:=f7.mut2 u8 (fun j e=>by omega)
    have d0:w8.cell? ⟨t,0,none⟩=some (.map (some gd2)):=((PK.out.1.keep f8).cell 0).trans rfl
    have htl8:t<w8.heap.size:=Nat.lt_of_lt_of_le htl6 f8.size
    have HCL:Hid (∀ W,Fresh w8 W→Calls Tryz.prog 78 #[.slice none 0 0] W fun e w'=>∃ a c,e=.returned (.slice a 0 c)∧OwnE w' (fun g=>w8.heap.size≤g) (.slice a 0 c) []∧Fresh w8 w'∧(∀ o,w'.cell? ⟨t,o,none⟩=w8.cell? ⟨t,o,none⟩)):=Lib.hid (fun W hW=>(cloneE_any (fun _=>True) _ [] W (OwnE.sl (OwnA.nil _ _ _ _)) (by simp)).mono fun e w' ⟨v,he,ho,hf⟩=>by
      obtain ⟨a,c,rfl⟩:=ho.shape
      exact ⟨a,c,he,OwnA.mono ho (fun g _ hg=>Nat.le_trans hW.size hg),hW.trans hf,fun o=>Below.cell (hW.trans hf) (p:=⟨t,o,none⟩) htl8⟩)
    have HM8:Hid (MapAt w8 gd2 1 Md2):=Lib.hid (PK.out.2.2.2.1.fresh f8)
    have RG8:=Lib.hid rg8
    have HF8:=Lib.hid f8
    have hz8:W6.heap.size≤w8.heap.size:=f8.size
    clear rg7 rg8 f7 u8 hfm f8
    go_wp2_with fail
    go_region_law (first
      | (go_simp;go_at_call 78;refine (HCL.out _ (by repeat (first | exact Fresh.refl _ | refine Fresh.drew ?_))).mono ?_;rintro e w9 ⟨a9,c9,rfl,ho9,hf9,hc9⟩;obtain ⟨w10,hrun10,m10,u10,z10⟩:=(HM8.out.fresh hf9).storeRun Tryz.underlying155 (by omega) hx (.slice a9 0 c9)))
    all_goals
      have hf9':Fresh w8 w9:=by first | exact hf9 | exact hf9.undr
      have f69:Fresh W6 w9:=HF8.out.trans hf9'
      have n1:t ≠ gd2:=PK.out.1.neMap PK.out.2.2.2.1
      have n2:w.heap.size+1 ≠ gd2:=(show Blk W6 (w.heap.size+1) _ _ from PK.out.2.2.1).neMap PK.out.2.2.2.1
      have rg10:RangAt w10 gd W6.heap.size q Md (fun i=>(Md i).isSome && !decide (i=0)) cnt8:=(RG8.out.mut (hf9'.mut (fun _=>False)) (fun q=>q) (fun q=>q)).mut u10 hgd (by omega)
      have P10:Hid (Blk w10 t 159 #[.map (some gd2),.map (some gf2),.pointer (some ⟨pp2,0,none⟩),.int .i64 1]∧MkAt w10 (w.heap.size+1) gd w.heap.size (.map (some nb))∧MapAt w10 gd2 2 (fun i=>if i=0 then some (.slice a9 0 c9) else Md2 i)∧MapAt w10 gf2 1 Mf2∧MapAt w10 gd q Md∧Fresh w w10∧OwnE w10 (fun g=>w8.heap.size≤g) (.slice a9 0 c9) []):=Lib.hid ⟨(PK.out.1.keep f69).mut u10 n1,((show Blk W6 (w.heap.size+1) _ _ from PK.out.2.2.1).keep f69).mut u10 n2,m10,(PK.out.2.2.2.2.1.fresh f69).mut u10 (fun e=>h5 e.symm),rg10.map,(PK.out.2.1.trans f69).mut2 u10 (fun j e=>by omega),OwnA.mutB ho9 u10 (fun g hg e=>OwnA.neMap ho9 (HM8.out.fresh hf9') (by rw [hg,e]))⟩
      clear hc9 hrun10 u10 m10 ho9 hf9 hf9' f69 hen
      go_wp2_with fail
      refine wp_loop_rounds 1 ?_
      rw [rounds_succ]
      go_wp2_with fail
      rw [rounds_succ]
      go_wp2_with (at_next;refine wpList_nextI _ rfl _ rfl gd W6.heap.size q Md _ cnt8 rfl rg10 ?_ ?_)
      · intro _
        clear rg10
        obtain ⟨bt,bm,mgd2,mgf2,mgd,fw,oe⟩:=P10.out
        have e0:w10.cell? ⟨w.heap.size+1,5,none⟩=some (.bool false):=by rw [(show Blk w10 _ _ _ from bm).cell];rfl
        have e2:w10.cell? ⟨w.heap.size+1,2,none⟩=some (.slice none 0 0):=by rw [(show Blk w10 _ _ _ from bm).cell];rfl
        have hl1:∀ nq,(Builtin.len_ #[155] 3 #[.map (some gd)]).run Tryz.prog (w10.drewN nq)=.ok (.int .i64 1) (w10.drewN nq):=fun nq=>(mgd.drewN nq).size (ks:=[0]) (by simp) (fun i=>by rw [H0.out];by_cases e:i=0 <;> simp [e]) Tryz.underlying155 _
        have hl2:∀ nq,(Builtin.len_ #[156] 3 #[.map (some gf2)]).run Tryz.prog (w10.drewN nq)=.ok (.int .i64 0) (w10.drewN nq):=fun nq=>(mgf2.drewN nq).size (ks:=[]) (by simp) (fun i=>by rw [HMf.out];simp) Tryz.underlying156 _
        have t1:w10.cell? ⟨t,1,none⟩=some (.map (some gf2)):=by rw [bt.cell];rfl
        clear bt bm mgd2 mgf2 mgd fw oe
        go_wp2_with fail
        go_quiet (fail)
        all_goals
          go_wp2_with fail
          refine (idsNew_none _ none 0).mono ?_
          rintro e w11 ⟨pp,rfl,hp,hf11⟩
          obtain ⟨bt,bm,mgd2,mgf2,mgd,fw,oe⟩:=P10.out
          have f11:Fresh w10 w11:=⟨hf11.os,hf11.tape,hf11.output,hf11.size,hf11.block⟩
          have bt2:=bt.keep f11
          have z10:=fw.size
          have d2:w11.cell? ⟨t,2,none⟩=some (.pointer (some ⟨pp2,0,none⟩)):=by rw [bt2.cell];rfl
          have e2:w11.frozen? ⟨t,2,none⟩=false:=bt2.frozen 2
          have htl10:=bt.lt
          have hgd10:=mgd2.lt
          have hgf10:=mgf2.lt
          have u12:Mut (fun j=>j=t) w11 (w11.setCell ⟨t,2,none⟩ (.pointer (some ⟨pp,0,none⟩))):=(Mut.refl (fun j=>j=t) w11).setCell (p:=⟨t,2,none⟩) (.inl rfl) _
          have bt3:Blk (w11.setCell ⟨t,2,none⟩ (.pointer (some ⟨pp,0,none⟩))) t 159 #[.map (some gd2),.map (some gf2),.pointer (some ⟨pp,0,none⟩),.int .i64 1]:=bt2.set (i:=2)
          have hpn:∀ k,(w10.drewN nq).heap.size≤k→k ≠ t:=fun k hk=>by have:w10.heap.size≤k:=hk;omega
          have hfin:TreeAt (w11.setCell ⟨t,2,none⟩ (.pointer (some ⟨pp,0,none⟩))) (fun g=>w.heap.size≤g) t T0 3:=by
            refine ⟨gd2,gf2,pp,_,Mf2,fun g=>w10.heap.size≤g,bt3,⟨by omega,by omega⟩,⟨by omega,by omega⟩,⟨by omega,by omega⟩,h5,((mgd2.fresh f11).mut u12 (fun e=>by have:=bt.neMap mgd2;omega)).mono (by omega),((mgf2.fresh f11).mut u12 (fun e=>by have:=bt.neMap mgf2;omega)).mono (by omega),fun i=>by rw [HMf.out];rfl,fun i l hi=>?_,fun i hi=>?_,fun k hk=>by omega,((show PoolAt w11 (fun g=>w10.heap.size≤g) pp 1 [] (fun _=>false) 0 from hp).mut u12 (fun k hk e=>by omega)).le (by omega)⟩
            · unfold T0 at hi
              simp only at hi
              by_cases e:i=0
              · rw [if_pos e] at hi
                injection hi with hi
                subst hi
                have o11:=OwnA.fresh (OwnA.mono oe (fun g hg hh=>(⟨hh,hg⟩:w8.heap.size≤g∧g<w10.heap.size))) f11
                refine ⟨_,if_pos e,OwnA.mono (OwnA.mutB o11 u12 (fun g hg e=>OwnA.ne o11 bt2 (by decide) (by rw [hg,e]))) (fun g hg hh=>⟨by omega,by omega⟩)⟩
              · rw [if_neg e] at hi;cases hi
            · unfold T0 at hi
              simp only at hi
              by_cases e:i=0
              · rw [if_pos e] at hi;cases hi
              · rw [if_neg e];exact HMd2.out i e
          have hfw:Fresh w (w11.setCell ⟨t,2,none⟩ (.pointer (some ⟨pp,0,none⟩))):=(fw.trans f11).mut2 u12 (fun j e=>by omega)
          have HFIN:=Lib.hid (And.intro hfin hfw)
          clear hfin hfw hp hf11 f11 bt2 bt3 u12 bt bm mgd2 mgf2 mgd fw oe
          go_wp2
          go_ret2
          exact ⟨t,T0,3,rfl,HFIN.out.1,by omega,isT0,HFIN.out.2⟩
      · intro x c w11 cnt11 hx2 hLx2 hn hMx2
        rw [H0.out,if_neg hn] at hMx2
        cases hMx2
open Go.RowKit
set_option maxRecDepth 100000 in
set_option maxHeartbeats 3200000 in
theorem decode0_any (w:World):Calls Tryz.prog 175 #[.string img0] w (MakePost w):=by
  have hmm:=@run_makeMap Tryz.prog
  obtain ⟨S,hS⟩:∃ S,img0=S:=⟨_,rfl⟩
  have HSS:=Lib.hid hS
  rw [hS]
  have HR:Hid (ImRd (w.alloc (.cells #[.string S,.bool false] 338)) w.heap.size img0):=Lib.hid (by rw [hS];exact Blk.new _ _ _)
  have HN0:=Lib.hid (num0 _ _ HR.out)
  have HSD:=Lib.hid (fun W hW=>sevD_any w.heap.size W hW)
  have HMK:=Lib.hid (fun W gd q Md h1 h2 h3=>make0_any W gd q Md h1 h2 h3)
  have HEN:=Lib.hid (fun W A t T q h1 h2 h3=>encode0_any W A t T q h1 h2 h3)
  rw [hS] at HEN
  clear hS
  go_enter Tryz.func175,Tryz.ntmps175
  go_wp2_with fail
  refine HN0.out.mono ?_
  rintro e w1 ⟨rfl,r1,u1⟩
  have HR1:=Lib.hid r1
  have HF1:Hid (Fresh w w1):=Lib.hid (((Fresh.refl w).alloc _).mut2 u1 (fun j e=>by omega))
  clear r1 u1
  go_wp2_with fail
  refine (HSD.out _ ((show Blk w1 _ _ _ from HR1.out).keep ((Fresh.refl w1).alloc (.map #[] 0)))).mono ?_
  rintro e w2 ⟨⟨g,c,rfl,c0,c1,hg⟩,r2,u2⟩
  have z1:=HF1.out.size
  have hrl:w.heap.size<w1.heap.size:=(show Blk w1 _ _ _ from HR1.out).lt
  have m2:MapAt w2 w1.heap.size 0 (fun _=>none):=(MapAt.made w1).mut u2 (by omega)
  have HF2:Hid (Fresh w w2):=Lib.hid ((HF1.out.alloc _).mut2 u2 (fun j e=>by omega))
  have HR2:=Lib.hid r2
  have HM2:=Lib.hid m2
  clear r2 u2 m2
  go_wp2_with fail
  refine wp_loop_rounds 2 ?_
  rw [rounds_succ]
  have HM3:Hid (MapAt (w2.alloc (.cells #[.int .i64 0,.slice none 0 0] 343)) w1.heap.size 0 (fun _=>none)):=Lib.hid (HM2.out.alloc _)
  have m3:=HM3.out
  go_wp2_with (first
    | (at_mapUpdate;refine wpList_storeI _ rfl _ _ _ 155 rfl 83 Tryz.underlying155 w1.heap.size 0 _ rfl m3 (by omega) 0 rfl (by unfold I64;omega) (.slice none 0 0) rfl ?_;intro w4 m4 u4 z4)
    | fail)
  have z2:=HF2.out.size
  have HF4:Hid (Fresh w w4):=Lib.hid ((HF2.out.alloc _).mut2 u4 (fun j e=>by omega))
  have HR4:Hid (ImRd w4 w.heap.size (im 14)):=Lib.hid (((show Blk w2 _ _ _ from HR2.out).keep ((Fresh.refl w2).alloc _)).mut u4 (by omega))
  have HMK4:=Lib.hid (HMK.out w4 _ _ _ m4 (by omega) (fun i=>rfl))
  clear m3 m4 u4 c0 c1
  rw [rounds_succ]
  go_wp2_with fail
  refine HMK4.out.mono ?_
  rintro e w5 ⟨t,T,q,rfl,ht5,hq5,hT5,hf5⟩
  have b5:w5.cell? ⟨w.heap.size,1,none⟩=some (.bool false):=by rw [((show Blk w4 _ _ _ from HR4.out).keep hf5).cell];rfl
  have HEN5:=Lib.hid (HEN.out w5 _ t T q ht5 hT5 (by omega))
  have HX:=Lib.hid (And.intro ht5 (And.intro hT5 hf5))
  clear ht5 hT5 hf5
  go_wp2_with fail
  refine HEN5.out.mono ?_
  rintro e w6 ⟨rfl,hf6⟩
  go_wp2
  go_ret2
  have z4:=HF4.out.size
  exact ⟨t,T,q,rfl,(HX.out.1.fresh hf6).mono (fun k _ hk=>by omega),hq5,HX.out.2.1,(HF4.out.trans HX.out.2.2).trans hf6⟩
open Go.RowKit
def zer (n:Nat):ByteArray:=⟨(List.replicate n 0).toArray⟩
theorem zer_size (n:Nat):(zer n).size=n:=by simp [zer,ByteArray.size]
theorem repeatL_zero:∀ n:Nat,Lib.repeatL [0] n=List.replicate n 0
  | 0=>rfl
  | n+1=>by
    have:=repeatL_zero n
    simp [Lib.repeatL] at *
    simp [List.replicate_succ,this]
theorem repeat_any (c:Nat) (w:World) (hc:c≤1000000):Calls Tryz.prog 138 #[.string ⟨#[0]⟩,.int .i64 c] w fun e w'=>e=.returned (.string (zer c))∧Fresh w w':=by
  refine (Tryz.strings_Repeat ⟨#[0]⟩ c w (by omega) (by show 1 * c≤_;omega)).mono fun e w' ⟨he,hw⟩=>⟨?_,hw⟩
  rw [he]
  have:(⟨#[0]⟩:ByteArray).data.toList=[0]:=rfl
  rw [this,repeatL_zero]
  rfl
theorem zeroS (w:World):(zeroValue 9).run Tryz.prog w=.ok (.string ByteArray.empty) w:=by kernel_rfl
def DevAt (w:World) (F:Nat→Prop) (p:Nat) (n:Int) (D:Int→ByteArray) (q:Nat):Prop :=
  ∃ sf gs qv m qs M,Blk w p 137 #[.int .i64 n,sf,.map (some gs),qv,.int .i64 (-1)]∧F p∧F gs∧MapAt w gs q M∧(∀ i,(M i).getD (.string (zer 64))=.string (D i))∧(∀ i,(D i).size=64)∧OwnA w F 452 2 qv m qs∧m≤q
theorem DevAt.mut {S F:Nat→Prop} {w w':World} {p:Nat} {n:Int} {D:Int→ByteArray} {q:Nat} (h:DevAt w F p n D q) (hf:Mut S w w') (hn:∀ k,F k→¬ S k):DevAt w' F p n D q:=by
  obtain ⟨sf,gs,qv,m,qs,M,h1,h2,h3,h4,h5,h6,h7,h8⟩:=h
  exact ⟨sf,gs,qv,m,qs,M,h1.mut hf (hn p h2),h2,h3,h4.mut hf (hn gs h3),h5,h6,h7.mut hf hn,h8⟩
theorem DevAt.fresh {F:Nat→Prop} {w w':World} {p:Nat} {n:Int} {D:Int→ByteArray} {q:Nat} (h:DevAt w F p n D q) (hf:Fresh w w'):DevAt w' F p n D q:=h.mut (hf.mut fun _=>False) (fun _ _ q=>q)
theorem DevAt.lt {F:Nat→Prop} {w:World} {p:Nat} {n:Int} {D:Int→ByteArray} {q:Nat} (h:DevAt w F p n D q):p<w.heap.size:=by obtain ⟨sf,gs,qv,m,qs,M,h1,_⟩:=h;exact h1.lt
theorem DevAt.mono {F F':Nat→Prop} {w:World} {p:Nat} {n:Int} {D:Int→ByteArray} {q:Nat} (h:DevAt w F p n D q) (hF:∀ k,k<w.heap.size→F k→F' k):DevAt w F' p n D q:=by
  obtain ⟨sf,gs,qv,m,qs,M,h1,h2,h3,h4,h5,h6,h7,h8⟩:=h
  exact ⟨sf,gs,qv,m,qs,M,h1,hF p h1.lt h2,hF gs h4.lt h3,h4,h5,h6,h7.mono hF,h8⟩
def DevPost (F:Nat→Prop) (p:Nat) (n:Int) (D:Int→ByteArray) (q:Nat) (w:World) (r:Value) (e:Ending) (w':World):Prop:=e=.returned r∧∃ F',DevAt w' F' p n D q∧Mut F w w'∧Gr F w w' F'
def StrE (s:ByteArray) (c:Int) (w:World) (e:Ending) (w':World):Prop:=e=.returned (.tuple #[.string s,.int .i64 c])∧Fresh w w'
theorem devSize_any (F:Nat→Prop) (p:Nat) (n:Int) (D:Int→ByteArray) (q:Nat) (w:World) (h:DevAt w F p n D q):Calls Tryz.prog 302 #[.pointer (some ⟨p,0,none⟩)] w fun e w'=>e=.returned (.int .i64 n)∧w=w':=by
  obtain ⟨sf,gs,qv,m,qs,M,h1,h2,h3,h4,h5,h6,h7,h8⟩:=h
  have c0:w.cell? ⟨p,0,none⟩=some (.int .i64 n):=by rw [h1.cell];rfl
  clear h1 h4 h5 h6 h7
  go_enter Tryz.func302,Tryz.ntmps302
  go_wp2
  go_ret
  exact ⟨rfl,rfl⟩
theorem ask_any (F:Nat→Prop) (p:Nat) (n:Int) (D:Int→ByteArray) (q:Nat) (w:World) (h:DevAt w F p n D q) (i:Int) (hi:-1000000≤i∧i≤1000000) (r:Int) (hr:r=if 0≤i∧i<n then 0 else 1) :
    Calls Tryz.prog 360 #[.pointer (some ⟨p,0,none⟩),.int .i64 i] w fun e w'=>e=.returned (.int .i64 r)∧w=w':=by
  obtain ⟨sf,gs,qv,m,qs,M,h1,h2,h3,h4,h5,h6,h7,h8⟩:=h
  have c0:w.cell? ⟨p,0,none⟩=some (.int .i64 n):=by rw [h1.cell];rfl
  have c4:w.cell? ⟨p,4,none⟩=some (.int .i64 (-1)):=by rw [h1.cell];rfl
  clear h1 h4 h5 h6 h7
  by_cases a0:i<0
  · rw [if_neg (by omega)] at hr
    subst hr
    go_enter Tryz.func360,Tryz.ntmps360
    go_wp2
    go_ret
    exact ⟨rfl,rfl⟩
  by_cases a1:n≤i
  · rw [if_neg (by omega)] at hr
    subst hr
    go_enter Tryz.func360,Tryz.ntmps360
    go_wp2
    go_ret
    exact ⟨rfl,rfl⟩
  · rw [if_pos (by omega)] at hr
    subst hr
    go_enter Tryz.func360,Tryz.ntmps360
    go_wp2
    go_ret
    exact ⟨rfl,rfl⟩
set_option maxHeartbeats 800000 in
theorem get_out (F:Nat→Prop) (p:Nat) (n:Int) (D:Int→ByteArray) (q:Nat) (w:World) (h:DevAt w F p n D q) (i:Int) (hi:-1000000≤i∧i≤1000000) (ho:¬ (0≤i∧i<n)) :
    Calls Tryz.prog 301 #[.pointer (some ⟨p,0,none⟩),.int .i64 i] w (StrE ByteArray.empty 1 w):=by
  have HA:=Lib.hid (ask_any F p n D q w h i hi 1 (by rw [if_neg ho]))
  clear h ho
  go_enter Tryz.func301,Tryz.ntmps301
  go_wp2_with fail
  refine HA.out.mono ?_
  rintro e w1 ⟨rfl,rfl⟩
  go_wp2
  go_ret2
  exact ⟨rfl,Fresh.refl _⟩
set_option maxHeartbeats 800000 in
theorem get_any (F:Nat→Prop) (p:Nat) (n:Int) (D:Int→ByteArray) (q:Nat) (w:World) (h:DevAt w F p n D q) (i:Int) (hi:0≤i∧i<n) (hn:n≤1000000) :
    Calls Tryz.prog 301 #[.pointer (some ⟨p,0,none⟩),.int .i64 i] w (StrE (D i) 0 w):=by
  have HA:=Lib.hid (ask_any F p n D q w h i (by omega) 0 (by rw [if_pos hi]))
  obtain ⟨sf,gs,qv,m,qs,M,h1,h2,h3,h4,h5,h6,h7,h8⟩:=h
  have c2:w.cell? ⟨p,2,none⟩=some (.map (some gs)):=by rw [h1.cell];rfl
  have H5:=Lib.hid (h5 i)
  clear h1 h5 h6 h7
  go_enter Tryz.func301,Tryz.ntmps301
  go_wp2_with fail
  refine HA.out.mono ?_
  rintro e w1 ⟨rfl,rfl⟩
  cases hM:M i with
  | some v =>
    have hv:v=.string (D i):=by have:=H5.out;rw [hM] at this;exact this
    subst hv
    have HM:=Lib.hid hM
    clear hM
    go_wp2_with (at_lookup;refine wpList_lookOkI _ rfl _ _ 134 rfl 9 Tryz.underlying134 _ (zeroS _) gs q M rfl h4 i rfl (by unfold I64;omega) (.string (D i)) (by rw [HM.out];rfl) true (by rw [HM.out];rfl) ?_)
    go_ret2
    exact ⟨rfl,Fresh.refl _⟩
  | none =>
    have hv:zer 64=D i:=by have:=H5.out;rw [hM] at this;injection this
    have HV:=Lib.hid hv
    have HM:=Lib.hid hM
    clear hM hv
    go_wp2_with (first
      | (at_lookup;refine wpList_lookOkI _ rfl _ _ 134 rfl 9 Tryz.underlying134 _ (zeroS _) gs q M rfl h4 i rfl (by unfold I64;omega) (.string ByteArray.empty) (by rw [HM.out];rfl) false (by rw [HM.out];rfl) ?_)
      | (go_at_call 138;refine (repeat_any 64 _ (by omega)).mono ?_;rintro e w1 ⟨rfl,hf1⟩))
    go_ret2
    exact ⟨by rw [HV.out];rfl,hf1⟩
def upd (D:Int→ByteArray) (i:Int) (b:ByteArray):Int→ByteArray:=fun k=>if k=i then b else D k
theorem infoPend:(Tryz.prog.info? 452).map (fun i=>(i.zero,i.size,i.bytes))=some (some (.agg #[.int .i64 0,.string ByteArray.empty]),2,24):=by kernel_rfl
theorem DevAt.put {F:Nat→Prop} {w w1 w2:World} {p:Nat} {n:Int} {D:Int→ByteArray} {q:Nat} {i:Int} {b:ByteArray} {sf:Value} {gs:Nat} {qv v':Value} {m:Nat} {qs qs':List Value} {M:Int→Option Value}
    (h1:Blk w p 137 #[.int .i64 n,sf,.map (some gs),qv,.int .i64 (-1)]) (h2:F p) (h3:F gs) (h4:MapAt w gs q M) (h5:∀ i,(M i).getD (.string (zer 64))=.string (D i)) (h6:∀ i,(D i).size=64) (h7:OwnA w F 452 2 qv m qs) (h8:m≤q)
    (hb:b.size=64) (m1:MapAt w1 gs (q+1) (fun k=>if k=i then some (.string b) else M k)) (u1:Mut (fun j=>j=gs) w w1) (z1:w1.heap.size=w.heap.size) (o2:OwnA w2 (ext F (w1.alloc (.cells #[.int .i64 i,.string b] 452)) w2) 452 2 v' (m+1) qs') (u2:Mut (fun k=>qv.ownBlock=some k) (w1.alloc (.cells #[.int .i64 i,.string b] 452)) w2) :
    DevPost F p n (upd D i b) (q+1) w (.int .i64 0) (.returned (.int .i64 0)) (w2.setCell ⟨p,3,none⟩ v'):=by
  have hpg:=h1.neMap h4
  have hqp:=h7.ne h1 (by decide)
  have hqg:=h7.neMap h4
  have hql:=fun g hg=>(h7.1.lt g hg).2
  have b1:Blk w1 p _ _:=h1.mut u1 hpg
  have b2:Blk w2 p _ _:=(b1.keep ((Fresh.refl _).alloc _)).mut u2 hqp
  have b3:=b2.set (i:=3) (u:=v')
  have m2:MapAt w2 gs (q+1) _:=(m1.alloc _).mut u2 hqg
  have hsz:(w1.alloc (.cells #[.int .i64 i,.string b] 452)).heap.size=w.heap.size+1:=by simp [z1]
  have us:Mut (fun j=>j=p) w2 (w2.setCell ⟨p,3,none⟩ v'):=(Mut.refl (fun j=>j=p) w2).setCell (p:=⟨p,3,none⟩) (.inl rfl) v'
  have uall:Mut F w (w2.setCell ⟨p,3,none⟩ v'):=by
    refine Mut.setCell ?_ (p:=⟨p,3,none⟩) (.inl h2) v'
    refine Mut.trans2 (S:=F) (T:=fun k=>qv.ownBlock=some k) ((u1.mono fun j _ e=>by rw [e];exact h3).alloc _) u2 (fun _ h=>h) fun j _ hj=>h7.2 j hj
  refine ⟨rfl,ext F w (w2.setCell ⟨p,3,none⟩ v'),⟨sf,gs,v',m+1,qs',_,b3,.inl h2,.inl h3,m2.mut us (fun e=>hpg e.symm),fun k=>?_,fun k=>?_,?_,by omega⟩,uall,Gr.ext _ _ _⟩
  · unfold upd
    by_cases e:k=i
    · rw [if_pos e,if_pos e];rfl
    · rw [if_neg e,if_neg e];exact h5 k
  · unfold upd
    split
    · exact hb
    · exact h6 k
  · have o3:OwnA w2 (fun k=>ext F w (w2.setCell ⟨p,3,none⟩ v') k∧k ≠ p) 452 2 v' (m+1) qs':=by
      refine ⟨o2.1,fun g hg=>⟨?_,fun e=>o2.ne b2 (by decide) (by rw [hg,e])⟩⟩
      have hl:=(o2.1.lt g hg).2
      rcases o2.2 g hg with r | r
      · exact .inl r
      · exact .inr ⟨by omega,by simpa [World.setCell] using hl⟩
    exact (o3.mut us fun g hg=>hg.2).mono fun g _ hg=>hg.1
set_option maxRecDepth 100000 in
set_option maxHeartbeats 1600000 in
theorem put_any (F:Nat→Prop) (p:Nat) (n:Int) (D:Int→ByteArray) (q:Nat) (w:World) (h:DevAt w F p n D q) (i:Int) (hi:0≤i∧i<n) (hn:n≤1000000) (b:ByteArray) (hb:b.size=64) (hq:q≤100000) :
    Calls Tryz.prog 329 #[.pointer (some ⟨p,0,none⟩),.int .i64 i,.string b] w (DevPost F p n (upd D i b) (q+1) w (.int .i64 0)):=by
  have HA:=Lib.hid (ask_any F p n D q w h i (by omega) 0 (by rw [if_pos hi]))
  obtain ⟨sf,gs,qv,m,qs,M,h1,h2,h3,h4,h5,h6,h7,h8⟩:=h
  have c2:w.cell? ⟨p,2,none⟩=some (.map (some gs)):=by rw [h1.cell];rfl
  have c4:w.cell? ⟨p,4,none⟩=some (.int .i64 (-1)):=by rw [h1.cell];rfl
  have c3:w.cell? ⟨p,3,none⟩=some qv:=by rw [h1.cell];rfl
  have f3:w.frozen? ⟨p,3,none⟩=false:=h1.frozen 3
  have hpg:=h1.neMap h4
  have hqp:=h7.ne h1 (by decide)
  have hqg:=h7.neMap h4
  have hpl:=h1.lt
  have HB:=Lib.hid hb
  have hbt:((b.size:Int) != 64)=false:=by simp [hb]
  have HP:=Lib.hid (fun (w1 w2:World) (v':Value) (qs':List Value)=>DevAt.put (w1:=w1) (w2:=w2) (v':=v') (qs':=qs') (i:=i) (b:=b) h1 h2 h3 h4 h5 h6 h7 h8 hb)
  obtain ⟨i0,hi0,hz0,hz1,hz2⟩:=info_partsG infoPend
  clear h1 h5 h6 hb
  go_enter Tryz.func329,Tryz.ntmps329
  go_wp2_with fail
  refine HA.out.mono ?_
  rintro e w1 ⟨rfl,rfl⟩
  go_wp2_with (first
    | (at_mapUpdate;refine wpList_storeI _ rfl _ _ _ 134 rfl 9 Tryz.underlying134 gs q M rfl h4 (by omega) i rfl (by unfold I64;omega) (.string b) rfl ?_;intro w1 m1 u1 z1;have d3:=(u1.cell (p:=⟨p,3,none⟩) hpl hpg).trans c3;have e3:=(u1.frozen (p:=⟨p,3,none⟩) hpl hpg).trans f3;have o1:=h7.mutB u1 (fun g hg e=>hqg (by rw [hg,e])))
    | (at_builtin;go_loud (refine wpList_append_ownA _ rfl _ _ 135 rfl F 452 i0 _ 2 24 Tryz.underlying135 hi0 hz0 hz1 hz2 rfl (by decide) qv m qs rfl (o1.fresh ((Fresh.refl _).alloc _)) ⟨w1.heap.size,0,none⟩ 1 1 [.int .i64 i,.string b] rfl rfl (newCells _ _ _) (by intro u hu;simp at hu;rcases hu with rfl | rfl <;> rfl) (by omega) (by decide) ?_;intro a' c' w2 o2 u2;have g3:w2.frozen? ⟨p,3,none⟩=false:=(u2.frozen (p:=⟨p,3,none⟩) (by have:=u1.size;simp;omega) hqp).trans ((World.frozen?_alloc_past _ _ _ (Nat.lt_of_lt_of_le hpl u1.size)).trans e3);have d4:w2.cell? ⟨p,3,none⟩=some qv:=(u2.cell (p:=⟨p,3,none⟩) (by have:=u1.size;simp;omega) hqp).trans ((World.cell?_alloc_past _ _ _ (Nat.lt_of_lt_of_le hpl u1.size)).trans d3);have HZ:=Lib.hid (HP.out _ _ _ _ m1 u1 z1.out o2 u2))))
  go_ret
  exact HZ.out
set_option maxRecDepth 100000 in
set_option maxHeartbeats 1600000 in
theorem flush_any (F:Nat→Prop) (p:Nat) (n:Int) (D:Int→ByteArray) (q:Nat) (w:World) (h:DevAt w F p n D q) :
    Calls Tryz.prog 225 #[.pointer (some ⟨p,0,none⟩)] w (DevPost F p n D q w (.int .i64 0)):=by
  obtain ⟨sf,gs,qv,m,qs,M,h1,h2,h3,h4,h5,h6,h7,h8⟩:=h
  have c2:w.cell? ⟨p,2,none⟩=some (.map (some gs)):=by rw [h1.cell];rfl
  have c4:w.cell? ⟨p,4,none⟩=some (.int .i64 (-1)):=by rw [h1.cell];rfl
  have c1:w.cell? ⟨p,1,none⟩=some sf:=by rw [h1.cell];rfl
  have c3:w.cell? ⟨p,3,none⟩=some qv:=by rw [h1.cell];rfl
  have hpl:=h1.lt
  have f1:w.frozen? ⟨p,1,none⟩=false:=h1.frozen 1
  have f3:w.frozen? ⟨p,3,none⟩=false:=h1.frozen 3
  have hpg:=h1.neMap h4
  have HP:Hid (∀ w1:World,Fresh w w1→DevPost F p n D q w (.int .i64 0) (.returned (.int .i64 0)) ((w1.setCell ⟨p,1,none⟩ (.map (some w.heap.size))).setCell ⟨p,3,none⟩ (.slice none 0 0))):=Lib.hid (fun w1 hf=>by
    have b1:=((h1.keep hf).set (i:=1) (u:=.map (some w.heap.size))).set (i:=3) (u:=.slice none 0 0)
    have us:Mut (fun j=>j=p) w1 ((w1.setCell ⟨p,1,none⟩ (.map (some w.heap.size))).setCell ⟨p,3,none⟩ (.slice none 0 0)):=((Mut.refl (fun j=>j=p) w1).setCell (p:=⟨p,1,none⟩) (.inl rfl) _).setCell (p:=⟨p,3,none⟩) (.inl rfl) _
    exact ⟨rfl,F,⟨_,gs,.slice none 0 0,0,[],M,b1,h2,h3,(h4.fresh hf).mut us (fun e=>hpg e.symm),h5,h6,OwnA.nil _ _ _ _,Nat.zero_le _⟩,hf.andMut (us.mono fun j _ e=>by rw [e];exact h2),fun k h=>.inl h⟩)
  clear h1 h5 h6 h7
  go_enter Tryz.func225,Tryz.ntmps225
  go_wp2_with fail
  refine (mapsClone_string gs q M w h4).mono ?_
  rintro e w1 ⟨rfl,_,hf,hsz⟩
  have d1:=(Below.cell hf (p:=⟨p,1,none⟩) hpl).trans c1
  have d3:=(Below.cell hf (p:=⟨p,3,none⟩) hpl).trans c3
  have g1:=(Below.frozen hf (p:=⟨p,1,none⟩) hpl).trans f1
  have g3:=(Below.frozen hf (p:=⟨p,3,none⟩) hpl).trans f3
  have HZ:=Lib.hid (HP.out w1 hf)
  clear hsz
  go_wp2
  go_ret
  exact HZ.out
open Go.RowKit
def labB (n:Int) (k:Nat):Int:=n / 2 ^ (56 - 8 * k) % 256
def z64:Array Value:=Array.replicate 64 (.int .u8 0)
theorem make64 (w:World):(Instr.makeSlice 131 (.int .i64 64) (.int .i64 64)).run Tryz.prog w=.ok (.slice (some ⟨w.heap.size,0,none⟩) 64 64) (w.alloc (.cells z64 5)):=by kernel_rfl
def labA (n:Int):Nat→Array Value
  | 0=>z64
  | k+1=>((labA n k).setIfInBounds k (.int .u8 (labB n k))).setIfInBounds (8+k) (.int .u8 (255 - labB n k))
theorem labA_size (n:Int):∀ k,(labA n k).size=64
  | 0=>by simp [labA,z64]
  | k+1=>by simp [labA,labA_size n k]
def labL (n:Int):List Int:=(List.range 8).map (labB n)++(List.range 8).map (fun k=>255 - labB n k)++List.replicate 48 0
theorem labL_len (n:Int):(labL n).length=64:=by simp [labL]
theorem labA_8 (n:Int):labA n 8=((labL n).map (Value.int .u8)).toArray:=by
  apply Array.ext'
  simp only [labA,z64,Array.toList_setIfInBounds,Array.toList_replicate]
  rfl
def lab (n:Int):ByteArray:=strOfNums (labL n)
theorem lab_size (n:Int):(lab n).size=64:=by unfold lab;rw [strOfNums_size,labL_len]
theorem xor255_dec:((List.range 256).all fun a=>decide (bits BinOp.xor IntKind.u8 (if IntKind.u8.signed=true then -1 else IntKind.u8.max) (a:Int)=255 - (a:Int)))=true:=by decide +kernel
theorem xor255 {a:Int} (h:0≤a∧a<256):bits BinOp.xor IntKind.u8 (if IntKind.u8.signed=true then -1 else IntKind.u8.max) a=255 - a:=by
  have h1:=List.all_eq_true.1 xor255_dec a.toNat (List.mem_range.2 (by omega))
  simp only [decide_eq_true_eq] at h1
  rwa [Int.toNat_of_nonneg h.1] at h1
def LabIs (n:Int) (w:World) (e:Ending) (w':World):Prop:=e=.returned (.string (lab n))∧Fresh w w'
set_option maxRecDepth 100000 in
set_option maxHeartbeats 1600000 in
theorem label_pos (n:Int) (hn:0<n) (h64:n<18446744073709551616) (w:World):Calls Tryz.prog 324 #[.int .u64 n] w (LabIs n w):=by
  have hmk:=make64
  go_enter Tryz.func324,Tryz.ntmps324
  go_wp2
  go_loopw [4] (fun i wr=>∃ k:Nat,i=.int .i64 k∧k≤8∧Blk wr w.heap.size 5 (labA n k)∧Fresh w wr) (fun i _=>8 - (intOf i).toNat)
  case atStart=>exact ⟨0,rfl,by omega,Blk.new _ _ _,(Fresh.refl _).alloc _⟩
  case round =>
    obtain ⟨k,rfl,hk,hb,hf⟩:=hrel
    have HB:=Lib.hid hb
    clear hb
    by_cases hlt:k<8
    · have hsz:=labA_size n k
      obtain ⟨v0,hv0⟩:∃ v,(labA n k)[k]?=some v:=⟨_,Array.getElem?_eq_getElem (by omega)⟩
      obtain ⟨v1,hv1⟩:∃ v,(labA n k)[8+k]?=some v:=⟨_,Array.getElem?_eq_getElem (by omega)⟩
      have c0:wr.cell? ⟨w.heap.size,k,none⟩=some v0:=by rw [HB.out.cell,hv0]
      have c1:wr.cell? ⟨w.heap.size,8+k,none⟩=some v1:=by rw [HB.out.cell,hv1]
      have f0:wr.frozen? ⟨w.heap.size,k,none⟩=false:=HB.out.frozen _
      have f1:wr.frozen? ⟨w.heap.size,8+k,none⟩=false:=HB.out.frozen _
      clear hv0 hv1 hsz
      go_wp2
      refine ⟨⟨k+1,rfl,by omega,?_,?_⟩,by simp [intOf];omega⟩
      · rw [xor255 (by omega)]
        exact (HB.out.set (i:=k) (u:=.int .u8 (labB n k))).set (i:=8+k) (u:=.int .u8 (255 - labB n k))
      · exact (hf.setCell (p:=⟨w.heap.size,k,none⟩) (Nat.le_refl _) _).setCell (p:=⟨w.heap.size,8+k,none⟩) (Nat.le_refl _) _
    · have he:k=8:=by omega
      subst he
      have HCV:=run_convert_bytes_arg (P:=Tryz.prog) wr 131 5 Tryz.underlying131 Tryz.underlying5 w.heap.size 0 64 64 (labL n) (by rw [labL_len]) (by
        intro i hi
        have hb:=HB.out
        rw [labA_8] at hb
        rw [hb.cell]
        rw [List.getElem?_toArray,List.getElem?_map,List.getD_eq_getElem?_getD,Nat.zero_add,List.getElem?_eq_getElem (by rw [labL_len];omega)]
        rfl) 9 Tryz.underlying9
      rw [show strOfNums (labL n)=lab n from rfl] at HCV
      go_wp2
      go_ret
      exact ⟨rfl,hf⟩
open Go.RowKit
def hd2 (n:Nat):List Int:=[(n:Int) / 256 % 256,(n:Int) % 256]
theorem hd2_size (n:Nat):(strOfNums (hd2 n)).size=2:=by rw [strOfNums_size];rfl
def frS (s:ByteArray):ByteArray:=strOfNums (hd2 s.size)++s.extract 0 (min s.size 62)++zer (62 - min s.size 62)
theorem frS_size (s:ByteArray):(frS s).size=64:=by
  unfold frS
  rw [ByteArray.size_append,ByteArray.size_append,hd2_size,zer_size,ByteArray.size_extract]
  omega
def FrIs (s:ByteArray) (w:World) (e:Ending) (w':World):Prop:=e=.returned (.string (frS s))∧Fresh w w'
set_option maxRecDepth 100000 in
set_option maxHeartbeats 1600000 in
theorem frame_any (s:ByteArray) (hs:s.size≤100000) (w:World):Calls Tryz.prog 369 #[.string s] w (FrIs s w):=by
  obtain ⟨hd,hhd⟩:∃ hd,strOfNums [IntKind.u8.wrap ((s.size:Int) / 256),IntKind.u8.wrap (s.size:Int)]=hd:=⟨_,rfl⟩
  have hhs:hd.size=2:=by rw [← hhd,strOfNums_size];rfl
  have hh2:strOfNums (hd2 s.size)=hd:=by rw [← hhd,IntKind.wrap_u8,IntKind.wrap_u8];rfl
  have HCV:=fun (W:World) (b:Nat) (h0:W.cell? ⟨b,0,none⟩=some (.int .u8 (IntKind.u8.wrap ((s.size:Int) / 256)))) (h1:W.cell? ⟨b,1,none⟩=some (.int .u8 (IntKind.u8.wrap (s.size:Int))))=>run_convert_bytes_arg (P:=Tryz.prog) W 131 5 Tryz.underlying131 Tryz.underlying5 b 0 2 2 [IntKind.u8.wrap ((s.size:Int) / 256),IntKind.u8.wrap (s.size:Int)] rfl (by intro i hi;rcases (by omega:i=0∨i=1) with rfl | rfl;exact h0;exact h1) 9 Tryz.underlying9
  rw [hhd] at HCV
  have HH2:=Lib.hid hh2
  have HHS:=Lib.hid hhs
  clear hhd hh2 hhs
  go_enter Tryz.func369,Tryz.ntmps369
  go_wp2_with fail
  obtain ⟨m,hm⟩:∃ m:Nat,min s.size 62=m:=⟨_,rfl⟩
  have hm2:(min (s.size:Int) 62).toNat=m:=by omega
  obtain ⟨pt,hpt⟩:∃ pt,s.extract 0 m=pt:=⟨_,rfl⟩
  have hps:pt.size=m:=by rw [← hpt,ByteArray.size_extract];omega
  rw [hm2,hpt]
  have w1:IntKind.i64.wrap (62 - (pt.size:Int))=((62 - m:Nat):Int):=by rw [IntKind.wrap_i64];omega
  have HW:=Lib.hid w1
  have HPT:=Lib.hid hpt
  have HPS:=Lib.hid hps
  have HM:=Lib.hid hm
  have hm62:m≤62:=by omega
  have hn1:¬ 9223372036854775807<hd.size+pt.size:=by have:=HHS.out;omega
  obtain ⟨zz,hzz⟩:∃ zz,zer (62 - m)=zz:=⟨_,rfl⟩
  have hzs:zz.size≤62:=by rw [← hzz,zer_size];omega
  have hn2:¬ 9223372036854775807<hd.size+pt.size+zz.size:=by have:=HHS.out;omega
  have hn3:¬ 9223372036854775807<(hd++pt).size+zz.size:=by rw [ByteArray.size_append];exact hn2
  have hfin:hd++pt++zz=frS s:=by unfold frS;rw [HH2.out,hm,hpt,hzz]
  have HZZ:=Lib.hid hzz
  have HFIN:=Lib.hid hfin
  clear hm hm2 hpt hps w1 hzz hfin hzs
  go_region_law (first
      | (go_simp;go_at_call 138;rw [HW.out];have hrp:=repeat_any (62 - m);rw [HZZ.out] at hrp;refine (hrp _ (by omega)).mono ?_;rintro e w4 ⟨rfl,hf4⟩;have hc4:∀ b o,b<_→w4.cell? ⟨b,o,none⟩=_:=fun b o h=>Below.cell hf4 (p:=⟨b,o,none⟩) h))
  all_goals
    go_wp2
    go_ret
    exact ⟨by rw [← HFIN.out];rfl,by repeat (first | exact Fresh.refl _ | assumption | refine Fresh.drew ?_ | refine Fresh.alloc ?_ _ | refine Fresh.trans ?_ (by assumption))⟩
end Go.Proofs.YtpmlggjhfiljmaaGreatDoor
