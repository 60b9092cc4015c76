/- Part 30 of what the law rests on. -/
import Derived.Test.YtpmlggjhfiljmaaGreatDoorS18
import Derived.Test.YtpmlggjhfiljmaaGreatDoorS28
import Derived.Test.YtpmlggjhfiljmaaGreatDoorS29
set_option linter.all false
namespace Go.Proofs.YtpmlggjhfiljmaaGreatDoor
open Go.RowKit
def PopPost (A:Nat→Prop) (b:Nat) (t:TypeId) (cs:Array Value) (o:Nat) (v:Value) (l:List Int) (w:World) (e:Ending) (w':World):Prop:=∃ l',e=.returned (.iface 3 (.int .i64 (l.getD 0 0)))∧(l'++[l.getD 0 0]).Perm l∧Hp l'∧NPost A b t cs o v w l' w'
theorem hp_take {l l2:List Int} (hl:1≤l.length) (h:Downed (sw l 0 (l.length - 1)) l2 (l.length - 1) 0):(l2.take (l.length - 1)++[l.getD 0 0]).Perm l∧Hp (l2.take (l.length - 1))∧l2.getD (l.length - 1) 0=l.getD 0 0∧l2.length=l.length:=by
  have G:=sw_get (l:=l) (i:=0) (j:=l.length - 1) (by omega) (by omega)
  have hlen:l2.length=l.length:=by rw [h.perm.length_eq,sw_len]
  have hlast:l2.getD (l.length - 1) 0=l.getD 0 0:=by rw [h.high _ (Nat.le_refl _),G,if_pos rfl]
  have hsp:=len_split (l:=l2) (by omega)
  rw [hlen,hlast] at hsp
  refine ⟨by rw [hsp];exact h.perm.trans (sw_perm (by omega) (by omega)),fun c a b d=>?_,hlast,hlen⟩
  have hb:c<l.length - 1:=by simp at b;omega
  have e:∀ k,k<l.length - 1→(l2.take (l.length - 1)).getD k 0=l2.getD k 0:=fun k hk=>by
    rw [List.getD_eq_getElem?_getD,List.getElem?_take,if_pos hk,List.getD_eq_getElem?_getD]
  rw [e _ (by omega),e _ hb]
  exact h.hp c a hb d
set_option maxRecDepth 100000 in
set_option maxHeartbeats 1600000 in
theorem hpop_any (A:Nat→Prop) (b:Nat) (t:TypeId) (cs:Array Value) (o:Nat) (v:Value) (l:List Int) (w:World) (h:NumsAt w A b t cs o v l) (hl1:1≤l.length) (hl:l.length≤100000) (hp:Hp l) :
    Calls Tryz.prog 196 #[.iface 460 (.pointer (some ⟨b,o,none⟩))] w (PopPost A b t cs o v l w):=by
  obtain ⟨g,c,rfl,_,_,_⟩:=h.2.2.1.cells hl1
  have hc:w.cell? ⟨b,o,none⟩=some (.slice (some ⟨g,0,none⟩) l.length c):=(h.1.cell o).trans h.2.1
  have hgb:g ≠ b:=fun e=>h.2.2.2 (by rw [e];rfl)
  have hm1:=backI.mLen b o _ w hc
  have hm2:=backI.mSwap b o _ w hc
  have hm3:=fun W=>back_pop ⟨b,o,none⟩ W
  have hen1:=backI.eLen
  have hen2:=backI.eSwap
  have hen3:=enters_bpop
  have HH:=Lib.hid (And.intro h (And.intro hgb (And.intro hl1 (And.intro hl hp))))
  obtain ⟨q,hq⟩:∃ q,l.length=q+1:=⟨l.length - 1,by omega⟩
  have HQ:=Lib.hid hq
  have HSW:=Lib.hid (islSwap_all A g c 0 q l w h.2.2.1 (by omega) (by omega) (by omega))
  have HDN:=Lib.hid (fun W (hcW:W.cell? ⟨b,o,none⟩=some (.slice (some ⟨g,0,none⟩) l.length c)) (hoW:OwnI W A (.slice (some ⟨g,0,none⟩) l.length c) (sw l 0 q)) (hbW:b<W.heap.size)=>by
    have e1:(sw l 0 q).length=l.length:=sw_len _ _ _
    have x:=down_any backI A b o g c (sw l 0 q) 0 q W (by rw [e1];exact hcW) (by rw [e1];exact hoW) hgb hbW (by omega) (by omega) (by omega) (by omega) (by have:=hp_swap hp hl1;rw [hq,Nat.add_sub_cancel] at this;exact this)
    rw [e1] at x
    exact x)
  have j1:(q:Int)≤100000:=by omega
  have j0:(0:Int)≤(q:Int):=by omega
  rw [hq] at hm1 hm2 HSW HDN
  clear h hc hgb hl1 hl hp hq
  go_enter Tryz.func196,Tryz.ntmps196
  go_wp2_with fail
  refine (lenIS_any _ _ _ _).mono ?_
  rintro e w1 ⟨rfl,rfl⟩
  go_wp2_with fail
  refine HSW.out.mono ?_
  rintro e w2 ⟨rfl,ho2,hu2⟩
  have hc2:w2.cell? ⟨b,o,none⟩=some (.slice (some ⟨g,0,none⟩) (q+1) c):=by
    have h:=HH.out.1
    have hq:=HQ.out
    rw [← hq]
    exact (hu2.cell (p:=⟨b,o,none⟩) h.1.lt (fun e=>HH.out.2.1 e.symm)).trans ((h.1.cell o).trans h.2.1)
  have HD2:=Lib.hid (HDN.out w2 hc2 ho2 (Nat.lt_of_lt_of_le HH.out.1.1.lt hu2.size))
  have H2:=Lib.hid (And.intro ho2 hu2)
  clear hm1 hm2 ho2 hu2 hc2
  go_wp2_with fail
  refine HD2.out.mono ?_
  rintro e w3 ⟨r,l2,rfl,hdn,ho3,hu3⟩
  have HDD:Hid ((l2.take q++[l.getD 0 0]).Perm l∧Hp (l2.take q)∧l2.getD q 0=l.getD 0 0∧l2.length=l.length):=Lib.hid (by
    have hq:=HQ.out
    have x:=hp_take (l:=l) (l2:=l2) HH.out.2.2.1 (by rw [hq,Nat.add_sub_cancel];exact hdn)
    rw [hq,Nat.add_sub_cancel] at x
    exact ⟨x.1,x.2.1,x.2.2.1,by rw [hq];exact x.2.2.2⟩)
  have h4:NumsAt w3 A b t cs o (.slice (some ⟨g,0,none⟩) l2.length c) l2:=by
    have h:=HH.out.1
    have hq:=HQ.out
    have hl2:=HDD.out.2.2.2
    have hgb:¬ b=g:=fun e=>HH.out.2.1 e.symm
    have e:l2.length=q+1:=by omega
    refine ⟨(h.1.mut H2.out.2 hgb).mut hu3 hgb,by rw [hl2];exact h.2.1,by rw [e];exact ho3,by rw [hl2];exact h.2.2.2⟩
  have HP4:=Lib.hid (bpop_any A b t cs o g c l2 w3 h4 (by rw [HDD.out.2.2.2];exact HH.out.2.2.1) (by rw [HDD.out.2.2.2];exact HH.out.2.2.2.1))
  obtain ⟨x,hxx⟩:∃ x,l2.getD (l2.length - 1) 0=x:=⟨_,rfl⟩
  rw [hxx] at HP4
  have HXX:Hid (x=l.getD 0 0):=Lib.hid (by
    have hq:=HQ.out
    have hl2:=HDD.out.2.2.2
    rw [← hxx,show l2.length - 1=q by omega];exact HDD.out.2.2.1)
  clear hxx
  have H3:=Lib.hid (H2.out.2.trans hu3)
  clear hdn ho3 hu3 h4
  go_wp2_with fail
  refine HP4.out.mono ?_
  rintro e w4 ⟨rfl,v4,hn4,hob4,hu4⟩
  have H4:=Lib.hid (And.intro hn4 (And.intro hob4 hu4))
  clear hn4 hob4 hu4
  go_wp2
  go_ret
  obtain ⟨hn4,hob4,hu4⟩:=H4.out
  obtain ⟨hpm,hhp,hx,hl2⟩:=HDD.out
  have hq:=HQ.out
  have e2:l2.length - 1=q:=by omega
  rw [e2] at hn4
  have z3:=H3.out.size
  have z4:=hu4.size
  refine ⟨l2.take q,by rw [← HXX.out];rfl,hpm,hhp,v4,⟨hn4.1,hn4.2.1,OwnA.mono hn4.2.2.1 (fun g' _ hg=>hg.imp id fun p=>⟨by omega,p.2⟩),hn4.2.2.2⟩,fun g' hg=>(hob4 g' hg).imp (fun e=>e) (fun p=>by omega),?_⟩
  refine (H3.out.mono (T:=fun k=>k=b∨(Value.slice (some ⟨g,0,none⟩) l.length c).ownBlock=some k) (fun j _ e=>.inr (by rw [e];rfl))).trans2 hu4 (fun _ h=>h) (fun j _ h=>h)
open Go.RowKit
def TakeN (O:Int→Bool) (fr:Int) (bk:List Int) (k fr2:Int) (bk2:List Int):Prop :=
  NextIs O fr fr2∧((bk2=bk∧k=fr2∧(bk=[]∨¬ bk.getD 0 0<fr2))∨(bk ≠ []∧bk.getD 0 0<fr2∧k=bk.getD 0 0∧(bk2++[k]).Perm bk∧Hp bk2))
set_option maxRecDepth 100000 in
set_option maxHeartbeats 3200000 in
theorem take_any (w:World) (A:Nat→Prop) (p:Nat) (fr:Int) (bk:List Int) (O:Int→Bool) (q:Nat) (h:PoolAt w A p fr bk O q) (hO:OutOK O) (hf1:1≤fr∧fr≤201) (hbk:∀ x ∈ bk,1≤x∧x≤200) (hbl:bk.length≤100000) (hhp:Hp bk) (hq:q≤1000000):Calls Tryz.prog 341 #[.pointer (some ⟨p,0,none⟩)] w (TakeG (TakeN O fr bk) A p O q w):=by
  have HO:=Lib.hid hO
  have HAp:A p:=by obtain ⟨bv,go,M,h1,h2,_⟩:=h;exact h2
  have HP:=Lib.hid h
  have HBK:=Lib.hid hbk
  have HHP:=Lib.hid hhp
  clear h hO hbk hhp
  go_enter Tryz.func341,Tryz.ntmps341
  go_wp2
  go_loopw [14] (fun _ wr=>∃ k,PoolAt wr A p k bk O q∧Mut (fun j=>j=p) w wr∧fr≤k∧k≤201∧∀ i,fr≤i→i<k→O i=true) (fun _ wr=>(201 - frOf wr p).toNat)
  case atStart=>exact ⟨fr,HP.out,Mut.refl _ _,by omega,by omega,fun i _ _=>by omega⟩
  case round =>
    obtain ⟨k,hp,hm,hk1,hk2,hall⟩:=hrel
    have HALL:=Lib.hid hall
    obtain ⟨bv,go,M,h1,h2,h3,h4,h5,h6⟩:=hp
    have c0:wr.cell? ⟨p,0,none⟩=some (.int .i64 200):=by rw [h1.cell];rfl
    have c1:wr.cell? ⟨p,1,none⟩=some (.int .i64 k):=by rw [h1.cell];rfl
    have c2:wr.cell? ⟨p,2,none⟩=some bv:=by rw [h1.cell];rfl
    have c3:wr.cell? ⟨p,3,none⟩=some (.map (some go)):=by rw [h1.cell];rfl
    have f1:wr.frozen? ⟨p,1,none⟩=false:=h1.frozen 1
    have hfrof:frOf wr p=k:=by unfold frOf;rw [c1]
    have HFR:=Lib.hid hfrof
    have H1:=Lib.hid h1
    have H5:=Lib.hid h5
    have H6:=Lib.hid h6
    clear hall h1 hfrof
    cases hOk:O k with
    | true =>
      have hk3:=HO.out k hOk
      have hlk:=fun nq=>(h4.drewN nq).look Tryz.underlying156 zeroI (k:=k) (by unfold I64;omega) (r:=.int .i64 1) (by rw [h5,hOk];rfl)
      have HOk:=Lib.hid hOk
      have HM4:=Lib.hid h4
      clear hOk h5 h6
      go_wp2_with fail
      go_quiet (fail)
      all_goals
        go_wp2
        have b1:=(show Blk (wr.drewN nq) p _ _ from H1.out).set (i:=1) (u:=.int .i64 (k+1))
        have u1:Mut (fun j=>j=p) wr ((wr.drewN nq).setCell ⟨p,1,none⟩ (.int .i64 (k+1))):=((Mut.refl (fun j=>j=p) wr).drewN nq).setCell (p:=⟨p,1,none⟩) (.inl rfl) _
        have hpg:=H1.out.neMap HM4.out
        refine ⟨⟨k+1,⟨bv,go,M,b1,h2,h3,HM4.out.mut u1 (fun e=>hpg e.symm),H5.out,H6.out.mutB u1 (fun g hg e=>H6.out.ne H1.out (by decide) (by rw [hg,e]))⟩,hm.trans u1,by omega,by omega,fun i h1 h2=>?_⟩,?_⟩
        · by_cases e:i=k
          · rw [e];exact HOk.out
          · exact HALL.out i h1 (by omega)
        · have:frOf ((wr.drewN nq).setCell ⟨p,1,none⟩ (.int .i64 (k+1))) p=k+1:=by
            unfold frOf
            rw [b1.cell]
            rfl
          rw [this,HFR.out]
          omega
    | false =>
      have hlk:=fun nq=>(h4.drewN nq).look Tryz.underlying156 zeroI (k:=k) (by unfold I64;omega) (r:=.int .i64 0) (by rw [h5,hOk];rfl)
      have HOk:=Lib.hid hOk
      have HM4:=Lib.hid h4
      have hvp:bv.ownBlock ≠ some p:=H6.out.ne H1.out (by decide)
      have hpg:=H1.out.neMap HM4.out
      have hvg:bv.ownBlock ≠ some go:=H6.out.neMap HM4.out
      clear hOk h5
      by_cases hb0:bk=[]
      · have HB0:=Lib.hid hb0
        obtain ⟨aB,cB,rfl⟩:=h6.shape
        have hl0:bk.length=0:=by rw [hb0];rfl
        rw [hl0] at c2
        clear hb0 h6 hl0 hvp hvg
        go_wp2_with fail
        go_quiet (fail)
        all_goals
          clear hlk
          go_wp2_with fail
          refine (lenIS_any aB 0 cB _).mono ?_
          rintro e w2 ⟨rfl,rfl⟩
          by_cases hk200:k≤200
          · have hk3:¬ (200:Int)<k:=by omega
            have hmm:MapAt (wr.drewN nq) go q M:=HM4.out
            go_wp2_with (at_mapUpdate;refine wpList_storeI _ rfl _ _ _ 156 rfl 3 Tryz.underlying156 go q M rfl hmm (by omega) k rfl (by unfold I64;omega) (.int .i64 1) rfl ?_;intro w3 m3 u3 z3)
            have hpg:=H1.out.neMap HM4.out
            have hfin:PoolAt w3 A p k bk (fun i=>O i || decide (i=k)) (q+1):=⟨_,go,_,(show Blk (wr.drewN nq) p _ _ from H1.out).mut u3 hpg,h2,h3,m3,fun i=>by
              by_cases e:i=k
              · subst e;simp
              · rw [if_neg e,H5.out];simp [e],(show OwnA (wr.drewN nq) A 3 1 _ _ _ from H6.out).mutB u3 (fun g hg e=>H6.out.neMap HM4.out (by rw [hg,e]))⟩
            have hmu:Mut A w w3:=((hm.mono (T:=A) (fun j _ e=>by rw [e];exact h2)).drewN nq).trans2 u3 (fun _ h=>h) (fun j _ e=>by rw [e];exact h3)
            clear m3 u3 hm hmm
            go_ret2
            exact ⟨k,k,bk,A,⟨⟨hk1,HOk.out,HALL.out⟩,.inl ⟨rfl,rfl,.inl HB0.out⟩⟩,⟨by omega,by omega⟩,hmu,fun j h=>.inl h,.inl ⟨hk200,rfl,hfin⟩⟩
          · have hk3:(200:Int)<k:=by omega
            have hfin:PoolAt (wr.drewN nq) A p k bk O q:=⟨_,go,M,H1.out,h2,h3,HM4.out,H5.out,H6.out⟩
            have hmu:Mut A w (wr.drewN nq):=(hm.mono (T:=A) (fun j _ e=>by rw [e];exact h2)).drewN nq
            clear hm
            go_wp2
            go_ret2
            exact ⟨k,k,bk,A,⟨⟨hk1,HOk.out,HALL.out⟩,.inl ⟨rfl,rfl,.inl HB0.out⟩⟩,⟨by omega,by omega⟩,hmu,fun j h=>.inl h,.inr ⟨by omega,rfl,hfin.le (by omega)⟩⟩
      · have hl1:1≤bk.length:=by
          rcases Nat.eq_zero_or_pos bk.length with q | q
          · exact absurd (List.eq_nil_of_length_eq_zero q) hb0
          · exact q
        obtain ⟨g,cB,rfl,hAg,hgl,hcl⟩:=OwnI.cells (show OwnI wr A bv bk from h6) hl1
        obtain ⟨n,hn⟩:∃ n,bk.length=n+1:=⟨bk.length - 1,by omega⟩
        have d0:∀ nq,(wr.drewN nq).cell? ⟨g,0,none⟩=some (.int .i64 (bk.getD 0 0)):=fun nq=>(hcl 0 (by omega)).1
        have HNA:Hid (∀ nq,NumsAt (wr.drewN nq) A p 362 #[.int .i64 200,.int .i64 k,.slice (some ⟨g,0,none⟩) bk.length cB,.map (some go)] 2 (.slice (some ⟨g,0,none⟩) bk.length cB) bk):=Lib.hid (fun nq=>⟨H1.out,rfl,H6.out,hvp⟩)
        have HPO:=Lib.hid (fun nq=>hpop_any A p _ _ 2 _ bk (wr.drewN nq) (HNA.out nq) hl1 hbl HHP.out)
        have hbm:1≤bk.getD 0 0∧bk.getD 0 0≤200:=by
          rw [List.getD_eq_getElem?_getD,List.getElem?_eq_getElem (by omega)]
          exact HBK.out _ (List.getElem_mem _)
        have hta:∀ W x,Sem.run Tryz.prog (Instr.typeAssert (.iface 3 (.int .i64 x)) 20 3 false) W=.ok (.int .i64 x) W:=fun W x=>by kernel_rfl
        have HN:=Lib.hid hn
        have HB0:=Lib.hid hb0
        rw [hn] at c2
        obtain ⟨x,hx⟩:∃ x,bk.getD 0 0=x:=⟨_,rfl⟩
        have HX:=Lib.hid hx
        rw [hx] at d0 hbm
        obtain ⟨hx1,hx2⟩:=hbm
        clear hb0 h6 hn hcl hl1 hvp hvg hx
        go_wp2_with fail
        go_quiet (fail)
        all_goals
          clear hlk
          go_wp2_with fail
          refine (lenIS_any _ (n+1) cB _).mono ?_
          rintro e w2 ⟨rfl,rfl⟩
          have d1:=d0 nq
          clear d0
          by_cases hxk:x<k
          · go_wp2_with fail
            refine (HPO.out nq).mono ?_
            rintro e w2 ⟨l',rfl,hpm,hhp2,v',hn2,hob2,hu2⟩
            have hz2:=hu2.size
            have c0':w2.cell? ⟨p,0,none⟩=some (.int .i64 200):=by rw [hn2.1.cell];rfl
            have c3':w2.cell? ⟨p,3,none⟩=some (.map (some go)):=by rw [hn2.1.cell];rfl
            have hpg:=H1.out.neMap HM4.out
            have hvg:(Value.slice (some ⟨g,0,none⟩) bk.length cB).ownBlock ≠ some go:=H6.out.neMap HM4.out
            have hmm:MapAt w2 go q M:=(HM4.out.drewN nq).mut hu2 (fun e=>e.elim (fun e=>hpg e.symm) hvg)
            have H2:=Lib.hid (And.intro hpm (And.intro hhp2 (And.intro hn2 hu2)))
            have i3:¬ (200:Int)<x:=by omega
            rw [HX.out]
            clear hpm hhp2 hn2 hob2 hu2 hpg hvg c0 c1 c2 c3 f1 d1
            go_wp2_with (at_mapUpdate;refine wpList_storeI _ rfl _ _ _ 156 rfl 3 Tryz.underlying156 go q M rfl hmm (by omega) x rfl (by unfold I64;omega) (.int .i64 1) rfl ?_;intro w3 m3 u3 z3)
            obtain ⟨hpm,hhp2,hn2,hu2⟩:=H2.out
            have hpg2:=hn2.1.neMap hmm
            have z3':=u3.size
            have z0:=hm.size
            have hzq:(wr.drewN nq).heap.size=wr.heap.size:=rfl
            have hfin:PoolAt w3 (ext A w w3) p k l' (fun i=>O i || decide (i=x)) (q+1):=⟨v',go,_,hn2.1.mut u3 hpg2,.inl h2,.inl h3,m3,fun i=>by
              by_cases e:i=x
              · subst e;simp
              · rw [if_neg e,H5.out];simp [e],OwnA.mono (OwnA.mutB hn2.2.2.1 u3 (fun g hg e=>OwnA.neMap hn2.2.2.1 hmm (by rw [hg,e]))) (fun g' _ hg=>hg.imp id fun p=>⟨by omega,by omega⟩)⟩
            have hmu:Mut A w w3:=(((hm.mono (T:=A) (fun j _ e=>by rw [e];exact h2)).drewN nq).trans2 hu2 (fun _ h=>h) (fun j _ e=>e.elim (fun e=>by rw [e];exact h2) (fun e=>H6.out.2 j e))).trans2 u3 (fun _ h=>h) (fun j _ e=>by rw [e];exact h3)
            clear m3 u3 hm hmm
            go_ret2
            refine ⟨x,k,l',ext A w w3,⟨⟨hk1,HOk.out,HALL.out⟩,.inr ⟨HB0.out,by rw [HX.out];exact hxk,HX.out.symm,by rw [← HX.out];exact hpm,hhp2⟩⟩,⟨by omega,by omega⟩,hmu,Gr.ext _ _ _,.inl ⟨hx2,rfl,hfin⟩⟩
          · have HLE:Hid (k≤bk.getD 0 0):=Lib.hid (by rw [HX.out];omega)
            by_cases hk200:k≤200
            · have hk3:¬ (200:Int)<k:=by omega
              have hmm:MapAt (wr.drewN nq) go q M:=HM4.out
              go_wp2_with (at_mapUpdate;refine wpList_storeI _ rfl _ _ _ 156 rfl 3 Tryz.underlying156 go q M rfl hmm (by omega) k rfl (by unfold I64;omega) (.int .i64 1) rfl ?_;intro w3 m3 u3 z3)
              have hpg:=H1.out.neMap HM4.out
              have hfin:PoolAt w3 A p k bk (fun i=>O i || decide (i=k)) (q+1):=⟨_,go,_,(show Blk (wr.drewN nq) p _ _ from H1.out).mut u3 hpg,h2,h3,m3,fun i=>by
                by_cases e:i=k
                · subst e;simp
                · rw [if_neg e,H5.out];simp [e],(show OwnA (wr.drewN nq) A 3 1 _ _ _ from H6.out).mutB u3 (fun g hg e=>H6.out.neMap HM4.out (by rw [hg,e]))⟩
              have hmu:Mut A w w3:=((hm.mono (T:=A) (fun j _ e=>by rw [e];exact h2)).drewN nq).trans2 u3 (fun _ h=>h) (fun j _ e=>by rw [e];exact h3)
              clear m3 u3 hm hmm
              go_ret2
              exact ⟨k,k,bk,A,⟨⟨hk1,HOk.out,HALL.out⟩,.inl ⟨rfl,rfl,.inr (by have:=HLE.out;omega)⟩⟩,⟨by omega,by omega⟩,hmu,fun j h=>.inl h,.inl ⟨hk200,rfl,hfin⟩⟩
            · exact absurd hx2 (by omega)
open Go.RowKit
def GiveR (fr:Int) (bk:List Int) (n:Int) (bk2:List Int):Prop:=(n<fr∧bk2.Perm (bk++[n])∧Hp bk2)∨(¬ n<fr∧bk2=bk)
def GivePost (A:Nat→Prop) (p:Nat) (fr:Int) (bk:List Int) (O:Int→Bool) (q:Nat) (n:Int) (w:World) (e:Ending) (w':World):Prop :=
  ∃ bk2 A',e=.returned (.bool true)∧GiveR fr bk n bk2∧PoolAt w' A' p fr bk2 (fun i=>O i && !decide (i=n)) q∧Mut A w w'∧Gr A w w' A'
set_option maxRecDepth 100000 in
set_option maxHeartbeats 3200000 in
theorem give_any (w:World) (A:Nat→Prop) (p:Nat) (fr:Int) (bk:List Int) (O:Int→Bool) (q:Nat) (n:Int) (h:PoolAt w A p fr bk O q) (hn:O n=true) (hI:I64 n) (hbl:bk.length+1≤100000) (hhp:Hp bk):Calls Tryz.prog 345 #[.pointer (some ⟨p,0,none⟩),.int .i64 n] w (GivePost A p fr bk O q n w):=by
  obtain ⟨bv,go,M,h1,h2,h3,h4,h5,h6⟩:=h
  have c1:w.cell? ⟨p,1,none⟩=some (.int .i64 fr):=by rw [h1.cell];rfl
  have c3:w.cell? ⟨p,3,none⟩=some (.map (some go)):=by rw [h1.cell];rfl
  have hlk:=h4.look Tryz.underlying156 zeroI (k:=n) hI (r:=.int .i64 1) (by rw [h5,hn];rfl)
  have hpg:=h1.neMap h4
  have hvp:bv.ownBlock ≠ some p:=h6.ne h1 (by decide)
  have hvg:bv.ownBlock ≠ some go:=h6.neMap h4
  have H:=Lib.hid (And.intro h1 (And.intro h5 (And.intro h6 (And.intro hpg (And.intro hvp hvg)))))
  have HHP:=Lib.hid hhp
  clear h1 h5 h6 hpg hvp hvg hn hhp
  have hMn:∀ i,(if i=n then none else M i)=if (O i && !decide (i=n))=true then some (.int .i64 1) else none:=fun i=>by
    by_cases e:i=n
    · subst e;simp
    · rw [if_neg e,H.out.2.1];simp [e]
  have HMN:=Lib.hid hMn
  clear hMn
  by_cases hf:n<fr
  · go_enter Tryz.func345,Tryz.ntmps345
    go_wp2_with (at_delete;refine wpList_delI _ rfl _ _ 156 rfl 3 Tryz.underlying156 go q M rfl h4 n rfl hI ?_;intro w1 m1 u1 z1;have d1:w1.cell? ⟨p,1,none⟩=some (.int .i64 fr):=(u1.cell (p:=⟨p,1,none⟩) H.out.1.lt H.out.2.2.2.1).trans c1)
    obtain ⟨h1,h5,h6,hpg,hvp,hvg⟩:=H.out
    have hb1:=h1.mut u1 hpg
    have ho1:OwnA w1 A 3 1 bv bk.length (ints bk):=OwnA.mutB h6 u1 (fun g hg e=>hvg (by rw [hg,e]))
    have HPU:=Lib.hid (hpush_any A p _ _ 2 bv bk n w1 ⟨hb1,rfl,ho1,hvp⟩ hbl HHP.out)
    have H1:=Lib.hid (And.intro m1 u1)
    clear h1 h5 h6 hpg hvp hvg hb1 ho1 m1 u1 z1 d1 h4 hlk c1 c3
    refine HPU.out.mono ?_
    rintro e w2 ⟨bk2,rfl,hpm,hhp2,v2,hn2,hob2,hu2⟩
    have H2:=Lib.hid (And.intro hpm (And.intro hhp2 (And.intro hn2 (And.intro hob2 hu2))))
    clear hpm hhp2 hn2 hob2 hu2
    go_wp2
    go_ret
    obtain ⟨h1,h5,h6,hpg,hvp,hvg⟩:=H.out
    obtain ⟨m1,u1⟩:=H1.out
    obtain ⟨hpm,hhp2,hn2,hob2,hu2⟩:=H2.out
    have z1:=u1.size
    have z2:=hu2.size
    refine ⟨bk2,ext A w w2,rfl,.inl ⟨hf,hpm,hhp2⟩,⟨v2,go,_,hn2.1,.inl h2,.inl h3,m1.mut hu2 (fun e=>e.elim (fun e=>hpg e.symm) hvg),HMN.out,OwnA.mono hn2.2.2.1 (fun g' _ hg=>hg.imp id fun q=>⟨by omega,q.2⟩)⟩,(u1.mono (T:=A) (fun j _ e=>by rw [e];exact h3)).trans2 hu2 (fun _ h=>h) (fun j _ e=>e.elim (fun e=>by rw [e];exact h2) (fun e=>h6.2 j e)),Gr.ext _ _ _⟩
  · go_enter Tryz.func345,Tryz.ntmps345
    go_wp2_with (at_delete;refine wpList_delI _ rfl _ _ 156 rfl 3 Tryz.underlying156 go q M rfl h4 n rfl hI ?_;intro w1 m1 u1 z1;have d1:w1.cell? ⟨p,1,none⟩=some (.int .i64 fr):=(u1.cell (p:=⟨p,1,none⟩) H.out.1.lt H.out.2.2.2.1).trans c1)
    obtain ⟨h1,h5,h6,hpg,hvp,hvg⟩:=H.out
    go_ret
    exact ⟨bk,A,rfl,.inr ⟨by omega,rfl⟩,⟨bv,go,_,h1.mut u1 hpg,h2,h3,m1,HMN.out,OwnA.mutB h6 u1 (fun g hg e=>hvg (by rw [hg,e]))⟩,u1.mono (fun j _ e=>by rw [e];exact h3),fun k h=>.inl h⟩
open Go.RowKit
theorem MapAt.delRun {w:World} {b n:Nat} {M:Int→Option Value} (h:MapAt w b n M) {t e:TypeId} (ht:Tryz.prog.underlying t=some (.map 3 e)) {k:Int} (hk:I64 k) (ty:TypeId) :
    ∃ w',(Builtin.delete_ #[t,3] ty #[.map (some b),.int .i64 k]).run Tryz.prog w=.ok (.tuple #[]) w'∧MapAt w' b n (fun i=>if i=k then none else M i)∧Mut (fun j=>j=b) w w'∧Hid (w'.heap.size=w.heap.size):=by
  obtain ⟨D,hown,hM⟩:=h
  obtain ⟨w',hrun,h1,h2⟩:=hown.drop keyI ht (keyOfI hk) ty
  refine ⟨w',hrun,⟨_,h1,fun i=>by rw [mget_del,hM]⟩,?_,Lib.hid ?_⟩
  · obtain ⟨es,clock,es',clock',hb,rfl⟩:=h2
    exact ⟨rfl,rfl,rfl,by simp [ChangeMaps.setBlock],fun j hj hn=>ChangeMaps.heap_setBlock_other hb _ hn⟩
  · obtain ⟨es,clock,es',clock',hb,rfl⟩:=h2
    simp [ChangeMaps.setBlock]
theorem step_del {ops:Array Oper} {o:Oper} {a:Act} {w:World} {K:Act→World→Prop} {Q:Exit→Act→World→Prop} {E:Prop} (hg:o.guard=none) (m x:Operand) (t e:TypeId)
    (ho:o.op=.call { callee:=.builtin .delete,args:=#[m,x],argTypes:=#[t,3] }) (ht:Tryz.prog.underlying t=some (.map 3 e))
    (b n:Nat) (M:Int→Option Value) (hm:a.eval m=.map (some b)) (h:MapAt w b n M) (k:Int) (hx:a.eval x=.int .i64 k) (hk:I64 k)
    (hK:∀ w',MapAt w' b n (fun i=>if i=k then none else M i)→Mut (fun j=>j=b) w w'→Hid (w'.heap.size=w.heap.size)→K (a.put o.dst (.tuple #[])) w') :
    if Region.wanted o (yielded ops a.tmps)=true then Oper.wp Tryz.prog o a w K Q else E:=by
  have hw:Region.wanted o (yielded ops a.tmps)=true:=by simp [Region.wanted,hg]
  rw [if_pos hw]
  obtain ⟨w',hrun,h1,h2,h3⟩:=h.delRun ht hk o.type
  unfold Oper.wp
  simp [execOp,ho,resolve,invoke,builtin,hm,hx,hrun,Result.andThen]
  exact hK _ h1 h2 h3
def unlinkT (T:TreS) (d:Int) (k:Nat) (x:Int) (bk:List Int):TreS :=
  { dropT T d k with dirs:=fun i=>if i=x then none else (dropT T d k).dirs i,files:=fun i=>T.files i && !decide (i=x),out:=fun i=>T.out i && !decide (i=x),bk:=bk }
theorem unlink_fin {w3 w4 w5 w6:World} {A Ap Ap':Nat→Prop} {t gd gf pp q:Nat} {T:TreS} {Md Mf:Int→Option Value} {x:Int} {bk:List Int} (h1:Blk w3 t 159 #[.map (some gd),.map (some gf),.pointer (some ⟨pp,0,none⟩),.int .i64 T.next]) (h2:A t∧¬ Ap t) (h3:A gd∧¬ Ap gd) (h4:A gf∧¬ Ap gf) (h5:gd ≠ gf) (h6:MapAt w3 gd q Md) (h7:MapAt w3 gf q Mf)
    (h8:∀ i,Mf i=if T.files i=true then some (.int .i64 1) else none) (h9:∀ i l,T.dirs i=some l→∃ v,Md i=some v∧OwnE w3 (fun g=>A g∧¬ Ap g) v l) (h10:∀ i,T.dirs i=none→Md i=none) (h12:∀ k,Ap k→A k)
    (m4:MapAt w4 gd q (fun i=>if i=x then none else Md i)) (u4:Mut (fun j=>j=gd) w3 w4) (m5:MapAt w5 gf q (fun i=>if i=x then none else Mf i)) (u5:Mut (fun j=>j=gf) w4 w5)
    (hm:Mut Ap w5 w6) (hg:Gr Ap w5 w6 Ap') (hp:PoolAt w6 Ap' pp T.fr bk (fun i=>T.out i && !decide (i=x)) q) :
    TreeAt w6 (ext A w5 w6) t { T with dirs:=fun i=>if i=x then none else T.dirs i,files:=fun i=>T.files i && !decide (i=x),out:=fun i=>T.out i && !decide (i=x),bk:=bk } (q+1)∧Mut A w3 w6:=by
  have htd:t ≠ gd:=h1.neMap h6
  have htf:t ≠ gf:=h1.neMap h7
  have hz4:=u4.size
  have hz5:=u5.size
  have b4:=h1.mut u4 htd
  have b5:=b4.mut u5 htf
  have f4:=h7.mut u4 (fun e=>h5 e.symm)
  have x:=TreeAt.pooled (T:={ T with dirs:=fun i=>if i=x then none else T.dirs i,files:=fun i=>T.files i && !decide (i=x) }) b5 h2 h3 h4 h5 (m4.mut u5 h5) m5 (fun i=>by
      by_cases e:i=x
      · simp [e]
      · rw [if_neg e,h8];simp [e]) (fun i l hi=>by
      simp only at hi
      by_cases e:i=x
      · rw [if_pos e] at hi;cases hi
      · rw [if_neg e] at hi
        obtain ⟨v,hv,ho⟩:=h9 i l hi
        have o4:OwnE w4 _ v l:=OwnA.mutB ho u4 (fun g hg e=>OwnA.neMap ho h6 (by rw [hg,e]))
        exact ⟨v,by rw [if_neg e];exact hv,OwnA.mutB o4 u5 (fun g hg e=>OwnA.neMap o4 f4 (by rw [hg,e]))⟩) (fun i hi=>by
      simp only at hi
      by_cases e:i=x
      · rw [if_pos e]
      · rw [if_neg e] at hi;rw [if_neg e];exact h10 i hi) h12 hm hg (hp.le (by omega))
  exact ⟨x.1,((u4.mono (T:=A) (fun j _ e=>by rw [e];exact h3.1)).trans2 u5 (fun _ h=>h) (fun j _ e=>by rw [e];exact h4.1)).trans2 x.2 (fun _ h=>h) (fun _ _ h=>h)⟩
open Go.RowKit
attribute [local go_sem ↓] Go.wp_at_zero Go.wp_at_succ
def unlinkE (T:TreS) (d:Int) (name:ByteArray) (isDir:Bool):Int:=match findT T d name with
  | none=>findR T d name
  | some x=>if isDir=true∧x.dir=false then 8 else if isDir=false∧x.dir=true then 7 else if (T.dirs x.node).getD [] ≠ [] then 9 else 0
def UnlinkPost (A:Nat→Prop) (t:Nat) (T:TreS) (q:Nat) (d:Int) (name:ByteArray) (isDir:Bool) (w:World) (e:Ending) (w':World):Prop :=
  (unlinkE T d name isDir ≠ 0∧e=.returned (.int .i64 (unlinkE T d name isDir))∧Fresh w w') ∨
  (unlinkE T d name isDir=0∧∃ x l k bk2 A',findT T d name=some x∧T.dirs d=some l∧fidx (nameB name) l=(k:Nat)∧GiveR T.fr T.bk x.node bk2∧e=.returned (.int .i64 0)∧TreeAt w' A' t (unlinkT T d k x.node bk2) (q+2)∧Mut A w w'∧Gr A w w' A')
theorem findT_at {T:TreS} {d:Int} {name:ByteArray} {x:Ent} (h:findT T d name=some x):∃ l k,T.dirs d=some l∧fidx (nameB name) l=((k:Nat):Int)∧∃ hk:k<l.length,l[k]=x:=by
  unfold findT at h
  cases hl:T.dirs d with
  | none=>rw [hl] at h;cases h
  | some l =>
    rw [hl] at h
    have h:l.find? (nameB name)=some x:=h
    have hf:=fidx_find (pr:=nameB name) (l:=l)
    rcases Int.lt_or_le (fidx (nameB name) l) 0 with q | q
    · rw [hf.1 q] at h;cases h
    · obtain ⟨k,hk⟩:=Int.eq_ofNat_of_zero_le q
      obtain ⟨hk2,e⟩:=hf.2 k hk
      rw [e] at h
      injection h with h
      exact ⟨l,k,rfl,hk,hk2,h⟩
theorem findR_none {T:TreS} {d:Int} {name:ByteArray} (h:findT T d name=none):findR T d name ≠ 0:=by
  unfold findT at h
  unfold findR
  cases hl:T.dirs d with
  | none=>simp only;split <;> omega
  | some l =>
    rw [hl] at h
    have h:l.find? (nameB name)=none:=h
    simp [h]
theorem findR_some {T:TreS} {d:Int} {name:ByteArray} {x:Ent} (h:findT T d name=some x):findR T d name=0:=by
  unfold findT at h
  unfold findR
  cases hl:T.dirs d with
  | none=>rw [hl] at h;cases h
  | some l =>
    rw [hl] at h
    have h:l.find? (nameB name)=some x:=h
    simp [h]
set_option maxRecDepth 100000 in
set_option maxHeartbeats 3200000 in
theorem tunlink_err (w:World) (A:Nat→Prop) (t:Nat) (T:TreS) (q:Nat) (h:TreeAt w A t T q) (d:Int) (hd:I64 d) (name:ByteArray) (isDir:Bool) (hl:∀ i l,T.dirs i=some l→l.length≤10000) (hE:unlinkE T d name isDir ≠ 0) (hx:∀ x,findT T d name=some x→I64 x.node) :
    Calls Tryz.prog 273 #[.pointer (some ⟨t,0,none⟩),.int .i64 d,.string name,.bool isDir] w (UnlinkPost A t T q d name isDir w):=by
  have HF:=Lib.hid (tfind_any w A t T q h d hd name hl)
  have HE:=Lib.hid hE
  unfold TFindPost at HF
  cases hf:findT T d name with
  | none =>
    have hr0:=findR_none hf
    have HR:Hid (unlinkE T d name isDir=findR T d name):=Lib.hid (by unfold unlinkE;rw [hf])
    rw [hf] at HF
    obtain ⟨r,hr⟩:∃ r,findR T d name=r:=⟨_,rfl⟩
    rw [hr] at HF HR hr0
    have hrb:(r != 0)=true:=by simp [hr0]
    unfold ent0 at HF
    simp only [Option.getD_none] at HF
    clear hr hf h hE hr0 hx hl
    go_enter Tryz.func273,Tryz.ntmps273
    go_wp2_with fail
    refine HF.out.mono ?_
    rintro e w1 ⟨rfl,hf1⟩
    have HF1:=Lib.hid hf1
    clear hf1
    go_wp2
    go_ret
    exact .inl ⟨HE.out,by rw [HR.out];rfl,HF1.out.alloc _⟩
  | some x =>
    have hxn:=hx x hf
    have hr0:=findR_some hf
    rw [hf,hr0] at HF
    have HU:Hid (unlinkE T d name isDir=if isDir=true∧x.dir=false then 8 else if isDir=false∧x.dir=true then 7 else if (T.dirs x.node).getD [] ≠ [] then 9 else 0):=Lib.hid (by unfold unlinkE;rw [hf])
    obtain ⟨nm,nd,dr,ck,sh⟩:=x
    simp only [Option.getD_some] at HF HU hxn
    have HH:=Lib.hid h
    obtain ⟨gd,gf,pp,Md,Mf,Ap,hApl,h1,h2,h3,h4,h5,h6,h7,h8,h9,h10,h12,h11⟩:=h.open
    obtain ⟨a,c,HL⟩:∃ a c,Hid (∀ W,Fresh w W→W.cell? ⟨t,0,none⟩=some (.map (some gd))∧∀ nq,(Instr.lookup 155 (.map (some gd)) (.int .i64 nd) false).run Tryz.prog (W.drewN nq)=.ok (.slice a ((T.dirs nd).getD []).length c) (W.drewN nq)):=by
      cases hdn:T.dirs nd with
      | none=>exact ⟨none,0,Lib.hid (fun W hW=>⟨(h1.keep hW).cell 0,fun nq=>((h6.fresh hW).drewN nq).look Tryz.underlying155 zeroL hxn (by rw [h10 nd hdn];rfl)⟩)⟩
      | some l =>
        obtain ⟨v,hv,ho⟩:=h9 nd l hdn
        obtain ⟨a,c,rfl⟩:=ho.shape
        exact ⟨a,c,Lib.hid (fun W hW=>⟨(h1.keep hW).cell 0,fun nq=>((h6.fresh hW).drewN nq).look Tryz.underlying155 zeroL hxn (by rw [hv];rfl)⟩)⟩
    clear h1 h2 h3 h4 h5 h6 h7 h8 h9 h10 h12 h11 hApl h hf hr0 hx hl
    cases isDir
    all_goals cases dr
    case false.true =>
      have HU7:Hid (unlinkE T d name false=7):=Lib.hid (by rw [HU.out];simp)
      clear hE
      go_enter Tryz.func273,Tryz.ntmps273
      go_wp2_with fail
      refine HF.out.mono ?_
      rintro e w1 ⟨rfl,hf1⟩
      have HF1:=Lib.hid hf1
      clear hf1
      go_wp2
      go_ret
      exact .inl ⟨HE.out,by rw [HU7.out];rfl,HF1.out.alloc _⟩
    case true.false =>
      have HU8:Hid (unlinkE T d name true=8):=Lib.hid (by rw [HU.out];simp)
      clear hE
      go_enter Tryz.func273,Tryz.ntmps273
      go_wp2_with fail
      refine HF.out.mono ?_
      rintro e w1 ⟨rfl,hf1⟩
      have HF1:=Lib.hid hf1
      clear hf1
      go_wp2
      go_ret
      exact .inl ⟨HE.out,by rw [HU8.out];rfl,HF1.out.alloc _⟩
    all_goals
      have hne:(T.dirs nd).getD [] ≠ []:=fun e=>hE (by rw [HU.out];simp [e])
      have HU9:=Lib.hid (HU.out.trans (by simp [hne]):_=(9:Int))
      have hpos:(0:Int)<(((T.dirs nd).getD []).length:Int):=by have:=List.length_pos_iff.2 hne;omega
      obtain ⟨n,hn⟩:∃ n,((T.dirs nd).getD []).length=n:=⟨_,rfl⟩
      rw [hn] at HL hpos
      clear hE hne hn
      go_enter Tryz.func273,Tryz.ntmps273
      go_wp2_with fail
      refine HF.out.mono ?_
      rintro e w1 ⟨rfl,hf1⟩
      have HF1:=Lib.hid hf1
      have c0:=fun o=>(HL.out (w1.alloc o) (hf1.alloc o)).1
      have hlk:=fun o=>(HL.out (w1.alloc o) (hf1.alloc o)).2
      clear hf1
      go_wp2_with fail
      go_quiet (fail)
      all_goals
        go_wp2
        go_ret
        exact .inl ⟨HE.out,by rw [HU9.out];rfl,(HF1.out.alloc _).drewN _⟩
theorem TreeAt.lim {A:Nat→Prop} {w:World} {t:Nat} {T:TreS} {q:Nat} (h:TreeAt w A t T q) (B:Nat) (hB:w.heap.size≤B):TreeAt w (fun k=>A k∧k<B) t T q:=h.mono fun k hk hA=>⟨hA,by omega⟩
set_option maxRecDepth 100000 in
set_option maxHeartbeats 6400000 in
theorem tunlink_ok (w:World) (A:Nat→Prop) (t:Nat) (T:TreS) (q:Nat) (h:TreeAt w A t T q) (d:Int) (hd:I64 d) (name:ByteArray) (isDir:Bool) (hl:∀ i l,T.dirs i=some l→l.length≤10000) (hE:unlinkE T d name isDir=0) (hx:∀ x,findT T d name=some x→I64 x.node∧T.out x.node=true) (hq:q≤100000) (hbl:T.bk.length+1≤100000) (hhp:Hp T.bk) :
    Calls Tryz.prog 273 #[.pointer (some ⟨t,0,none⟩),.int .i64 d,.string name,.bool isDir] w (UnlinkPost A t T q d name isDir w):=by
  have HF:=Lib.hid (tfind_any w A t T q h d hd name hl)
  have HE:=Lib.hid hE
  unfold TFindPost at HF
  cases hf:findT T d name with
  | none =>
    exact absurd (by unfold unlinkE at hE;rw [hf] at hE;exact hE) (findR_none hf)
  | some x =>
    have hxn:=hx x hf
    have hr0:=findR_some hf
    obtain ⟨l,k,hdl,hfi,hkl,hlk⟩:=findT_at hf
    have hE2:=hE
    unfold unlinkE at hE2
    rw [hf] at hE2
    simp only at hE2
    have h1:¬ (isDir=true∧x.dir=false):=fun e=>by rw [if_pos e] at hE2;omega
    rw [if_neg h1] at hE2
    have h2:¬ (isDir=false∧x.dir=true):=fun e=>by rw [if_pos e] at hE2;omega
    rw [if_neg h2] at hE2
    have h3:(T.dirs x.node).getD []=[]:=Decidable.byContradiction fun e=>by rw [if_pos e] at hE2;omega
    rw [hf,hr0] at HF
    have HFT:=Lib.hid hf
    obtain ⟨nm,nd,dr,ck,sh⟩:=x
    simp only [Option.getD_some] at HF hxn h1 h2 h3
    obtain rfl:isDir=dr:=by cases isDir <;> cases dr <;> simp at h1 h2 ⊢
    have HDL:=Lib.hid (And.intro hdl (And.intro hfi hxn))
    have hAl:=h.lim w.heap.size (Nat.le_refl _)
    have HH:=Lib.hid hAl
    obtain ⟨gd,gf,pp,Md,Mf,Ap,hApl,g1,g2,g3,g4,g5,g6,g7,g8,g9,g10,g12,g11⟩:=hAl.open
    obtain ⟨a,c,HL⟩:∃ a c,Hid (∀ W,Fresh w W→W.cell? ⟨t,0,none⟩=some (.map (some gd))∧∀ nq,(Instr.lookup 155 (.map (some gd)) (.int .i64 nd) false).run Tryz.prog (W.drewN nq)=.ok (.slice a 0 c) (W.drewN nq)):=by
      cases hdn:T.dirs nd with
      | none=>exact ⟨none,0,Lib.hid (fun W hW=>⟨(g1.keep hW).cell 0,fun nq=>((g6.fresh hW).drewN nq).look Tryz.underlying155 zeroL hxn.1 (by rw [g10 nd hdn];rfl)⟩)⟩
      | some l2 =>
        obtain ⟨v,hv,ho⟩:=g9 nd l2 hdn
        rw [hdn] at h3
        have h3:l2=[]:=h3
        subst h3
        obtain ⟨a,c,rfl⟩:=ho.shape
        exact ⟨a,c,Lib.hid (fun W hW=>⟨(g1.keep hW).cell 0,fun nq=>((g6.fresh hW).drewN nq).look Tryz.underlying155 zeroL hxn.1 (by rw [hv];rfl)⟩)⟩
    have hll:=hl d l hdl
    have HDR:=Lib.hid (fun W (hW:Fresh w W)=>tdrop_any W _ t T q (HH.out.fresh hW) d hd name k l hdl (by omega) hfi (by omega))
    have hxI:=hxn.1
    clear g1 g2 g3 g4 g5 g6 g7 g8 g9 g10 g12 g11 hApl h hAl hf hr0 hl hE hE2 h1 h2 h3 hdl hfi hxn hx hkl hlk hll
    go_enter Tryz.func273,Tryz.ntmps273
    go_wp2_with fail
    refine HF.out.mono ?_
    rintro e w1 ⟨rfl,hf1⟩
    obtain ⟨W2,hW2⟩:∃ W2,w1.alloc (.cells #[.string nm,.int .i64 nd,.bool isDir,.int .i64 ck,.int .i64 sh] 88)=W2:=⟨_,rfl⟩
    have f2:Fresh w W2:=by rw [← hW2];exact hf1.alloc _
    have bx:Blk W2 w1.heap.size 88 #[.string nm,.int .i64 nd,.bool isDir,.int .i64 ck,.int .i64 sh]:=by rw [← hW2];exact Blk.new _ _ _
    have hwx:w.heap.size≤w1.heap.size:=hf1.size
    obtain ⟨c0,hlk⟩:=HL.out W2 f2
    have x1:W2.cell? ⟨w1.heap.size,1,none⟩=some (.int .i64 nd):=bx.cell 1
    have x2:W2.cell? ⟨w1.heap.size,2,none⟩=some (.bool isDir):=bx.cell 2
    have H2:=Lib.hid (And.intro f2 bx)
    clear hf1 f2 bx
    cases isDir
    all_goals
      go_wp2_with fail
      try rw [hW2]
      clear hW2
      go_quiet (fail)
      all_goals
        go_wp2_with fail
        refine (HDR.out _ (H2.out.1.drewN _)).mono ?_
        rintro e w3 ⟨A3,rfl,t3,u3,gr3⟩
        have hs2:(W2.drewN nq).heap.size=W2.heap.size:=rfl
        have hxl:w1.heap.size<W2.heap.size:=H2.out.2.lt
        have nx:¬ A3 w1.heap.size:=fun h=>by
          rcases gr3 _ h with q | q
          · have:=q.2;omega
          · omega
        have b3:Blk w3 w1.heap.size 88 _:=(show Blk (W2.drewN nq) w1.heap.size _ _ from H2.out.2).mut u3 (fun h=>by have:=h.2;omega)
        obtain ⟨gd,gf,pp,Md,Mf,Ap,hApl,g1,g2,g3,g4,g5,g6,g7,g8,g9,g10,g12,g11⟩:=t3.open
        have htd:t ≠ gd:=g1.neMap g6
        have htf:t ≠ gf:=g1.neMap g7
        have nxd:w1.heap.size ≠ gd:=fun e=>nx (e ▸ g3.1)
        have nxf:w1.heap.size ≠ gf:=fun e=>nx (e ▸ g4.1)
        have d0:w3.cell? ⟨t,0,none⟩=some (.map (some gd)):=g1.cell 0
        have y1:w3.cell? ⟨w1.heap.size,1,none⟩=some (.int .i64 nd):=b3.cell 1
        have H3:=Lib.hid (And.intro b3 (And.intro g1 (And.intro g6 (And.intro g7 g11))))
        have HM3:=Lib.hid (And.intro u3 gr3)
        have HFIN:=Lib.hid (fun (w4 w5 w6:World) (Ap':Nat→Prop) (bk:List Int) m4 u4 m5 u5 hm hg hp=>unlink_fin (w3:=w3) (w4:=w4) (w5:=w5) (w6:=w6) (Ap':=Ap') (x:=nd) (bk:=bk) g1 g2 g3 g4 g5 g6 g7 g8 g9 g10 g12 m4 u4 m5 u5 hm hg hp)
        have HN:=Lib.hid (And.intro htd (And.intro htf (And.intro nxd (And.intro nxf (And.intro g5 (And.intro (fun h=>g3.2 h:¬ Ap gd) (fun h=>g4.2 h:¬ Ap gf)))))))
        have hta:=g1.lt
        have hxa:=b3.lt
        have hApt:¬ Ap t:=g2.2
        have hApx:¬ Ap w1.heap.size:=fun h=>nx (g12 _ h)
        clear b3 g1 g2 g3 g4 g5 g6 g7 g8 g9 g10 g12 g11 hApl t3 u3 gr3 nx htd htf nxd nxf hs2 hxl c0 hlk x1 x2
        go_wp2_with fail
        go_region_held3 (fun W=>W.cell? ⟨t,0,none⟩=some (.map (some gd))∧W.cell? ⟨w1.heap.size,1,none⟩=some (.int .i64 nd)) (first | go_keep | exact ⟨k0,k1⟩) ((refine step_del rfl (.tmp 53) (.tmp 55) 155 83 rfl Tryz.underlying155 gd (q+1) Md (by simp [Act.eval,Act.put]) (show MapAt _ gd (q+1) Md from H3.out.2.2.1) nd (by simp [Act.eval,Act.put]) hxI ?_;intro w4 m4 u4 z4;have k0:w4.cell? ⟨t,0,none⟩=some (.map (some gd)):=(u4.cell (p:=⟨t,0,none⟩) hta HN.out.1).trans d0;have k1:w4.cell? ⟨w1.heap.size,1,none⟩=some (.int .i64 nd):=(u4.cell (p:=⟨w1.heap.size,1,none⟩) hxa HN.out.2.2.1).trans y1))
        have v4:Mut (fun j=>j=gd) w3 w4:=⟨u4.os,u4.tape,u4.output,u4.size,u4.block⟩
        have H4:=Lib.hid (And.intro m4 v4)
        have z34:=v4.size
        have t1:w4.cell? ⟨t,1,none⟩=some (.map (some gf)):=((show Blk w3 t _ _ from H3.out.2.1).mut v4 HN.out.1).cell 1
        have M5:=Lib.hid (MapAt.mut H3.out.2.2.2.1 v4 (fun e=>HN.out.2.2.2.2.1 e.symm))
        have hta4:t<w4.heap.size:=by omega
        have hxa4:w1.heap.size<w4.heap.size:=by omega
        clear m4 u4 z4 d0 y1 k0 v4
        go_wp2_with fail
        go_region_held3 (fun W=>W.cell? ⟨t,1,none⟩=some (.map (some gf))∧W.cell? ⟨w1.heap.size,1,none⟩=some (.int .i64 nd)) (first | go_keep | exact ⟨k0,k2⟩) ((refine step_del rfl (.tmp 59) (.tmp 61) 156 3 rfl Tryz.underlying156 gf (q+1) Mf (by simp [Act.eval,Act.put]) (show MapAt _ gf (q+1) Mf from M5.out) nd (by simp [Act.eval,Act.put]) hxI ?_;intro w5 m5 u5 z5;have k0:w5.cell? ⟨t,1,none⟩=some (.map (some gf)):=(u5.cell (p:=⟨t,1,none⟩) hta4 HN.out.2.1).trans t1;have k2:w5.cell? ⟨w1.heap.size,1,none⟩=some (.int .i64 nd):=(u5.cell (p:=⟨w1.heap.size,1,none⟩) hxa4 HN.out.2.2.2.1).trans k1))
        have v5:Mut (fun j=>j=gf) w4 w5:=⟨u5.os,u5.tape,u5.output,u5.size,u5.block⟩
        have H5:=Lib.hid (And.intro m5 v5)
        have z45:=v5.size
        have hta5:t<w5.heap.size:=by omega
        have hxa5:w1.heap.size<w5.heap.size:=by omega
        have b5:=(((show Blk w3 t _ _ from H3.out.2.1).mut H4.out.2 HN.out.1).mut v5 HN.out.2.1)
        have t2:w5.cell? ⟨t,2,none⟩=some (.pointer (some ⟨pp,0,none⟩)):=b5.cell 2
        have hp5:PoolAt w5 Ap pp T.fr T.bk T.out (q+1):=(H3.out.2.2.2.2.mut H4.out.2 (fun j hj e=>HN.out.2.2.2.2.2.1 (e ▸ hj))).mut v5 (fun j hj e=>HN.out.2.2.2.2.2.2 (e ▸ hj))
        have HGV:=Lib.hid (fun W (hW:Fresh w5 W)=>give_any W Ap pp T.fr T.bk T.out (q+1) nd (hp5.mut (hW.mut fun _=>False) (fun _ _ q=>q)) HDL.out.2.2.2 hxI hbl hhp)
        clear m5 u5 z5 t1 k0 k1 v5 b5 hp5 M5 hta4 hxa4
        go_wp2_with fail
        go_region_held3 (fun W=>W.cell? ⟨t,2,none⟩=some (.pointer (some ⟨pp,0,none⟩))∧W.cell? ⟨w1.heap.size,1,none⟩=some (.int .i64 nd)) (first | go_keep | exact ⟨k0,k1⟩) (first
          | (go_at_call 345;refine (HGV.out _ (by repeat (first | exact Fresh.refl _ | refine Fresh.drew ?_))).mono ?_;rintro e w6 ⟨bk2,A6,rfl,hgv,hp6,u6,gr6⟩;have k0:w6.cell? ⟨t,2,none⟩=some (.pointer (some ⟨pp,0,none⟩)):=(u6.cell (p:=⟨t,2,none⟩) hta5 hApt).trans t2;have k1:w6.cell? ⟨w1.heap.size,1,none⟩=some (.int .i64 nd):=(u6.cell (p:=⟨w1.heap.size,1,none⟩) hxa5 hApx).trans k2;have H6:=Lib.hid (And.intro hgv (And.intro hp6 (And.intro u6 gr6)));clear hgv hp6 u6 gr6))
        all_goals
          have HFI:Hid (UnlinkPost A t T q d name _ w (.returned (.int .i64 0)) w6):=Lib.hid (by
            obtain ⟨hgv,hp6,u6,gr6⟩:=H6.out
            have u6':Mut Ap w5 w6:=⟨u6.os,u6.tape,u6.output,u6.size,u6.block⟩
            have gr6':Gr Ap w5 w6 A6:=gr6
            have hfin:=HFIN.out w4 w5 w6 A6 bk2 H4.out.1 H4.out.2 H5.out.1 H5.out.2 u6' gr6' hp6
            have zf:=H2.out.1.size
            have z23:=HM3.out.1.size
            have z56:=u6'.size
            have hu3:Mut A w w3:=(H2.out.1.drewN nq).andMut (HM3.out.1.mono (T:=A) (fun j _ h=>h.1))
            have hin:∀ j,A3 j→A j∨(w.heap.size≤j∧j<w3.heap.size):=fun j hj=>by
              rcases HM3.out.2 j hj with h | h
              · exact .inl h.1
              · have h1:W2.heap.size≤j:=h.1
                exact .inr ⟨by omega,h.2⟩
            refine .inr ⟨HE.out,_,l,k,bk2,_,HFT.out,HDL.out.1,HDL.out.2.1,hgv,rfl,hfin.1,hu3.trans2 hfin.2 (fun _ h=>h) (fun j hj h=>?_),fun j hj=>?_⟩
            · rcases hin j h with q | q
              · exact q
              · omega
            · rcases hj with h | h
              · rcases hin j h with q | q
                · exact .inl q
                · exact .inr ⟨q.1,by omega⟩
              · exact .inr ⟨by omega,h.2⟩)
          clear H6 k0 k1
          go_wp2
          go_ret
          exact HFI.out
theorem tunlink_any (w:World) (A:Nat→Prop) (t:Nat) (T:TreS) (q:Nat) (h:TreeAt w A t T q) (d:Int) (hd:I64 d) (name:ByteArray) (isDir:Bool) (hl:∀ i l,T.dirs i=some l→l.length≤10000) (hx:∀ x,findT T d name=some x→I64 x.node∧T.out x.node=true) (hq:q≤100000) (hbl:T.bk.length+1≤100000) (hhp:Hp T.bk) :
    Calls Tryz.prog 273 #[.pointer (some ⟨t,0,none⟩),.int .i64 d,.string name,.bool isDir] w (UnlinkPost A t T q d name isDir w):=by
  by_cases hE:unlinkE T d name isDir=0
  · exact tunlink_ok w A t T q h d hd name isDir hl hE hx hq hbl hhp
  · exact tunlink_err w A t T q h d hd name isDir hl hE (fun x hf=>(hx x hf).1)
end Go.Proofs.YtpmlggjhfiljmaaGreatDoor
