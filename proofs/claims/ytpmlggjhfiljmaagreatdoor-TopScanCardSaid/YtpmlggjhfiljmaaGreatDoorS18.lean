/- Part 18 of what the law rests on. -/
import Derived.Maps.AppendAt
import Derived.Lib.Builder
import Derived.Shelf.Strings.Builder1
import Derived.Test.YtpmlggjhfiljmaaGreatDoorS10
import Derived.Test.YtpmlggjhfiljmaaGreatDoorS17
set_option linter.all false
namespace Go.Proofs.YtpmlggjhfiljmaaGreatDoor
open Go.RowKit
def MayPost (s:ByteArray) (k:Int) (w:World) (e:Ending) (w':World):Prop:=∃ r:Int,e=.returned (.int .i64 r)∧((GoodN s∧0≤k∧k≤1000000∧r=0)∨(¬ GoodN s∧r=3)∨(GoodN s∧¬ (0≤k∧k≤1000000)∧r=1))∧Fresh w w'
set_option maxHeartbeats 800000 in
theorem tmay_any (s:ByteArray) (k:Int) (w:World):Calls Tryz.prog 339 #[.string s,.int .i64 k] w (MayPost s k w):=by
  have HG:=Lib.hid (fun W=>good_any s W)
  go_enter Tryz.func339,Tryz.ntmps339
  go_wp2_with fail
  refine (HG.out _).mono ?_
  rintro e w1 ⟨b,rfl,hb,hf⟩
  have HB:=Lib.hid hb
  clear hb
  cases b
  · go_wp2
    go_ret
    exact ⟨_,rfl,.inr (.inl ⟨fun h=>absurd (HB.out.2 h) (by simp),rfl⟩),hf⟩
  · by_cases h0:k<0
    · go_wp2
      go_ret
      exact ⟨_,rfl,.inr (.inr ⟨HB.out.1 (by first | rfl | trivial),by omega,rfl⟩),hf⟩
    · by_cases h1:1000000<k
      · go_wp2
        go_ret
        exact ⟨_,rfl,.inr (.inr ⟨HB.out.1 (by first | rfl | trivial),by omega,rfl⟩),hf⟩
      · go_wp2
        go_ret
        exact ⟨_,rfl,.inl ⟨HB.out.1 (by first | rfl | trivial),by omega,by omega,rfl⟩,hf⟩
theorem OwnE.appendRun {w:World} {A:Nat→Prop} {v:Value} {xs:List Ent} (h:OwnE w A v xs) (ty:TypeId) (e:Ent) (g:Nat) (hc:∀ j u,(ec e)[j]?=some u→w.cell? ⟨g,j,none⟩=some u) (hN:xs.length≤100000) :
    ∃ a' c' w',(Builtin.append_ #[83,83] ty #[v,.slice (some ⟨g,0,none⟩) 1 1]).run Tryz.prog w=.ok (.slice a' (xs.length+1) c') w'∧OwnE w' (ext A w w') (.slice a' (xs.length+1) c') (xs++[e])∧Mut (fun k=>v.ownBlock=some k) w w':=by
  obtain ⟨i0,hi0,hz0,hz1,hz2⟩:=info_partsG infoEnt
  obtain ⟨v',w',h1,h2,h3,_,h5⟩:=run_append_own_at (P:=Tryz.prog) w 0 83 ty 88 i0 _ 5 48 Tryz.underlying83 hi0 hz0 hz1 hz2 rfl (by decide) v _ _ h.1 ⟨g,0,none⟩ 1 1 (ec e) rfl (fun j u hj=>by rw [Addr.add_lit];rw [Nat.zero_add];exact hc j u hj) (fun u hu=>ec_one [e] u (by simpa [ecs] using hu)) (by unfold maxLen;omega) (by omega) (Nat.zero_le _)
  have ho:OwnE w' (ext A w w') v' (xs++[e]):=by
    have e1:ecs xs++ec e=ecs (xs++[e]):=by rw [ecs_append];simp [ecs]
    have e2:(xs++[e]).length=xs.length+1:=by simp
    unfold OwnE
    rw [e2,← e1]
    refine ⟨h2,fun k hk=>?_⟩
    rcases h5 with q | q
    · exact .inl (h.2 k (by rw [← q];exact hk))
    · rw [q] at hk
      injection hk with hk
      exact .inr ⟨by omega,(h2.lt k (by rw [q,hk])).2⟩
  obtain ⟨a',c',rfl⟩:=ho.shape
  have e2:(xs++[e]).length=xs.length+1:=by simp
  rw [e2] at h1 ho
  exact ⟨a',c',w',h1,ho,⟨h3.os,h3.tape,h3.output,h3.size,fun k hk hn=>h3.block k hk fun e=>hn e.symm⟩⟩
theorem step_append_ent {ops:Array Oper} {o:Oper} {a:Act} {w:World} {K:Act→World→Prop} {Q:Exit→Act→World→Prop} {E:Prop} (hg:o.guard=none) (s x:Operand)
    (ho:o.op=.call { callee:=.builtin .append,args:=#[s,x],argTypes:=#[83,83] })
    (A:Nat→Prop) (v:Value) (xs:List Ent) (e:Ent) (g:Nat) (hs:a.eval s=v) (hx:a.eval x=.slice (some ⟨g,0,none⟩) 1 1) (hown:OwnE w A v xs) (hc:∀ j u,(ec e)[j]?=some u→w.cell? ⟨g,j,none⟩=some u) (hN:xs.length≤100000)
    (hK:∀ a' c' w',OwnE w' (ext A w w') (.slice a' (xs.length+1) c') (xs++[e])→Mut (fun k=>v.ownBlock=some k) w w'→K (a.put o.dst (.slice a' (xs.length+1) c')) w') :
    if Region.wanted o (yielded ops a.tmps)=true then Oper.wp Tryz.prog o a w K Q else E:=by
  have hw:Region.wanted o (yielded ops a.tmps)=true:=by simp [Region.wanted,hg]
  rw [if_pos hw]
  obtain ⟨a',c',w',hrun,h1,h2⟩:=hown.appendRun o.type e g hc hN
  unfold Oper.wp
  simp [execOp,ho,resolve,invoke,builtin,hs,hx,hrun,Result.andThen]
  exact hK _ _ _ h1 h2
theorem ec_new {w0 w:World} {e:Ent} (hf:Fresh (w0.alloc (.cells #[.string e.name,.int .i64 e.node,.bool e.dir,.int .i64 e.cookie,.int .i64 e.short] 88)) w):∀ j u,(ec e)[j]?=some u→w.cell? ⟨w0.heap.size,j,none⟩=some u:=by
  intro j u hj
  rw [Below.cell hf (p:=⟨w0.heap.size,j,none⟩) (by show w0.heap.size<_;simp),World.cell?_alloc_at _ _ _ _ rfl]
  simpa [ec] using hj
theorem TreeAt.open {A:Nat→Prop} {w:World} {t:Nat} {T:TreS} {q:Nat} (h:TreeAt w A t T q) :
    ∃ gd gf pp Md Mf Ap,(∀ k,Ap k→k<w.heap.size)∧Blk w t 159 #[.map (some gd),.map (some gf),.pointer (some ⟨pp,0,none⟩),.int .i64 T.next]∧(A t∧¬ Ap t)∧(A gd∧¬ Ap gd)∧(A gf∧¬ Ap gf)∧gd ≠ gf∧MapAt w gd q Md∧MapAt w gf q Mf∧(∀ i,Mf i=if T.files i=true then some (.int .i64 1) else none) ∧
    (∀ i l,T.dirs i=some l→∃ v,Md i=some v∧OwnE w (fun g=>A g∧¬ Ap g) v l)∧(∀ i,T.dirs i=none→Md i=none)∧(∀ k,Ap k→A k)∧PoolAt w Ap pp T.fr T.bk T.out q:=by
  obtain ⟨gd,gf,pp,Md,Mf,Ap,h1,h2,h3,h4,h5,h6,h7,h8,h9,h10,h11,h12⟩:=h
  exact ⟨gd,gf,pp,Md,Mf,fun k=>Ap k∧k<w.heap.size,fun k hk=>hk.2,h1,⟨h2.1,fun q=>h2.2 q.1⟩,⟨h3.1,fun q=>h3.2 q.1⟩,⟨h4.1,fun q=>h4.2 q.1⟩,h5,h6,h7,h8,fun i l hi=>by obtain ⟨v,hv,ho⟩:=h9 i l hi;exact ⟨v,hv,OwnA.mono ho (fun g hg hh=>⟨hh.1,fun q=>hh.2 q.1⟩)⟩,h10,fun k hk=>h11 k hk.1,h12.mono (fun k hk hh=>⟨hh,hk⟩)⟩
def putT (T:TreS) (d:Int) (e:Ent):TreS:={ T with dirs:=fun i=>if i=d then some ((T.dirs d).getD []++[{ e with cookie:=T.next }]) else T.dirs i,next:=T.next+1 }
def PutPost (A:Nat→Prop) (t:Nat) (T:TreS) (q:Nat) (w:World) (e:Ending) (w':World):Prop:=∃ A',e=.returned (.tuple #[])∧TreeAt w' A' t T q∧Mut A w w'∧Gr A w w' A'
theorem put_fin {w W5 w4 w6:World} {A Ap:Nat→Prop} {t gd gf pp q:Nat} {T:TreS} {d:Int} {e:Ent} {Md Mf:Int→Option Value} {v4:Value} {l0:List Ent} (hApl:∀ k,Ap k→k<w.heap.size) (h2:A t∧¬ Ap t) (h3:A gd∧¬ Ap gd) (h4:A gf∧¬ Ap gf) (h5:gd ≠ gf) (h12:∀ k,Ap k→A k) (hl0:(T.dirs d).getD []=l0)
    (h8:∀ i,Mf i=if T.files i=true then some (.int .i64 1) else none) (h10:∀ i,T.dirs i=none→Md i=none) (hs5:W5.heap.size=w.heap.size+1)
    (PK:Blk W5 t 159 #[.map (some gd),.map (some gf),.pointer (some ⟨pp,0,none⟩),.int .i64 (T.next+1)]∧MapAt W5 gd q Md∧MapAt W5 gf q Mf∧PoolAt W5 Ap pp T.fr T.bk T.out q∧(∀ i l,T.dirs i=some l→∃ v,Md i=some v∧OwnE W5 (fun g=>A g∧¬ Ap g) v l)∧Mut (fun j=>j=t) w W5)
    (hf4:Fresh W5 w4) (o4:OwnE w4 (fun g=>W5.heap.size≤g) v4 (l0++[{ e with cookie:=T.next }])) (m6:MapAt w6 gd (q+1) (fun i=>if i=d then some v4 else Md i)) (u6:Mut (fun j=>j=gd) w4 w6) :
    TreeAt w6 (ext A w w6) t (putT T d e) (q+1)∧Mut A w w6:=by
  obtain ⟨b5,m5,f5,p5,o5,u5⟩:=PK
  have hz4:=hf4.size
  have hz6:=u6.size
  have htd:t ≠ gd:=b5.neMap m5
  have hw4:MapAt w4 gd q Md:=m5.fresh hf4
  have hmu:Mut A w w6:=((u5.mono (T:=A) (fun j _ e=>by rw [e];exact h2.1)).trans2 (hf4.mut A) (fun _ h=>h) (fun _ _ h=>h)).trans2 u6 (fun _ h=>h) (fun j _ e=>by rw [e];exact h3.1)
  refine ⟨⟨gd,gf,pp,_,Mf,Ap,(b5.keep hf4).mut u6 htd,⟨.inl h2.1,h2.2⟩,⟨.inl h3.1,h3.2⟩,⟨.inl h4.1,h4.2⟩,h5,m6,((f5.fresh hf4).mut u6 (fun e=>h5 e.symm)).mono (by omega),h8,fun i l hi=>?_,fun i hi=>?_,fun k hk=>.inl (h12 k hk),((p5.fresh hf4).mut u6 (fun k hk e=>h3.2 (e ▸ hk))).le (by omega)⟩,hmu⟩
  · unfold putT at hi
    simp only at hi
    by_cases e:i=d
    · rw [if_pos e] at hi
      injection hi with hi
      subst hi
      refine ⟨v4,if_pos e,?_⟩
      rw [hl0]
      have o6:OwnE w6 (fun g=>W5.heap.size≤g) v4 _:=OwnA.mutB o4 u6 (fun g hg e=>OwnA.neMap o4 hw4 (by rw [hg,e]))
      exact OwnA.mono o6 (fun g hg hh=>⟨.inr ⟨by omega,hg⟩,fun q=>by have:=hApl g q;omega⟩)
    · rw [if_neg e] at hi
      obtain ⟨v,hv,ho⟩:=o5 i l hi
      refine ⟨v,by rw [if_neg e];exact hv,?_⟩
      have oa:OwnE w4 _ v l:=OwnA.fresh ho hf4
      have o6:OwnE w6 _ v l:=OwnA.mutB oa u6 (fun g hg e=>OwnA.neMap oa hw4 (by rw [hg,e]))
      exact OwnA.mono o6 (fun g hg hh=>⟨.inl hh.1,hh.2⟩)
  · unfold putT at hi
    simp only at hi
    by_cases e:i=d
    · rw [if_pos e] at hi;cases hi
    · rw [if_neg e] at hi;rw [if_neg e];exact h10 i hi
set_option maxRecDepth 100000 in
set_option maxHeartbeats 3200000 in
theorem tput_any (w:World) (A:Nat→Prop) (t:Nat) (T:TreS) (q:Nat) (h:TreeAt w A t T q) (d:Int) (hd:I64 d) (e:Ent) (hq:q≤1000000) (hl:∀ l,T.dirs d=some l→l.length≤100000) (hn:0≤T.next∧T.next≤1000000):Calls Tryz.prog 342 #[.pointer (some ⟨t,0,none⟩),.int .i64 d,entV e] w (PutPost A t (putT T d e) (q+1) w):=by
  obtain ⟨gd,gf,pp,Md,Mf,Ap,hApl,h1,h2,h3,h4,h5,h6,h7,h8,h9,h10,h12,h11⟩:=h.open
  have HAP:=Lib.hid hApl
  have HA2:=Lib.hid h12
  clear hApl h
  have c3:w.cell? ⟨t,3,none⟩=some (.int .i64 T.next):=by rw [h1.cell];rfl
  have htl:=h1.lt
  have f3:w.frozen? ⟨t,3,none⟩=false:=h1.frozen 3
  have H1:=Lib.hid h1
  clear h1
  go_enter Tryz.func342,Tryz.ntmps342
  go_wp2_with fail
  obtain ⟨W5,hW5⟩:∃ W5,((w.setCell ⟨t,3,none⟩ (.int .i64 (T.next+1))).alloc (.cells #[.string e.name,.int .i64 e.node,.bool e.dir,.int .i64 T.next,.int .i64 e.short] 88))=W5:=⟨_,rfl⟩
  have hs0:(w.setCell ⟨t,3,none⟩ (.int .i64 (T.next+1))).heap.size=w.heap.size:=by simp
  have u0:Mut (fun j=>j=t) w (w.setCell ⟨t,3,none⟩ (.int .i64 (T.next+1))):=(Mut.refl (fun j=>j=t) w).setCell (p:=⟨t,3,none⟩) (.inl rfl) _
  have u5:Mut (fun j=>j=t) w W5:=by rw [← hW5];exact u0.alloc _
  have hs5:W5.heap.size=w.heap.size+1:=by rw [← hW5];simp
  have B5:Blk W5 t 159 #[.map (some gd),.map (some gf),.pointer (some ⟨pp,0,none⟩),.int .i64 (T.next+1)]:=by rw [← hW5];exact (H1.out.set (i:=3) (u:=.int .i64 (T.next+1))).keep ((Fresh.refl _).alloc _)
  have X5:Blk W5 w.heap.size 88 #[.string e.name,.int .i64 e.node,.bool e.dir,.int .i64 T.next,.int .i64 e.short]:=by rw [← hW5,← hs0];exact Blk.new _ _ _
  have M5:MapAt W5 gd q Md:=h6.mut u5 (fun e=>by have:=H1.out.neMap h6;omega)
  have F5:MapAt W5 gf q Mf:=h7.mut u5 (fun e=>by have:=H1.out.neMap h7;omega)
  have P5:PoolAt W5 Ap pp T.fr T.bk T.out q:=h11.mut u5 (fun k hk e=>h2.2 (e ▸ hk))
  have O5:∀ i l,T.dirs i=some l→∃ v,Md i=some v∧OwnE W5 (fun g=>A g∧¬ Ap g) v l:=fun i l hi=>by
    obtain ⟨v,hv,ho⟩:=h9 i l hi
    exact ⟨v,hv,OwnA.mutB ho u5 (fun g hg e=>OwnA.ne ho H1.out (by decide) (by rw [hg,e]))⟩
  obtain ⟨l0,hl0⟩:∃ l0,(T.dirs d).getD []=l0:=⟨_,rfl⟩
  have hl1:l0.length≤100000:=by
    rw [← hl0]
    cases hT:T.dirs d with
    | none=>simp
    | some l=>exact hl l hT
  obtain ⟨a0,c0,hv0,ho0⟩:∃ a0 c0,(Md d).getD (.slice none 0 0)=.slice a0 l0.length c0∧OwnE W5 (fun g=>A g∧¬ Ap g) (.slice a0 l0.length c0) l0:=by
    rw [← hl0]
    cases hT:T.dirs d with
    | none=>exact ⟨none,0,by rw [h10 d hT];rfl,OwnA.nil _ _ _ _⟩
    | some l =>
      obtain ⟨v,hv,ho⟩:=O5 d l hT
      obtain ⟨a,c,rfl⟩:=ho.shape
      exact ⟨a,c,by rw [hv];rfl,ho⟩
  have HCL:Hid (∀ W,Fresh W5 W→Calls Tryz.prog 78 #[.slice a0 l0.length c0] W fun e w'=>∃ a c,e=.returned (.slice a l0.length c)∧OwnE w' (fun g=>W5.heap.size≤g) (.slice a l0.length c) l0∧Fresh W w'∧Fresh W5 w'):=Lib.hid (fun W hW=>(cloneE_any _ _ l0 W ((OwnE.sl ho0).fresh hW) (by omega)).mono fun e w' ⟨v,he,ho,hf⟩=>by
    obtain ⟨a,c,rfl⟩:=ho.shape
    exact ⟨a,c,he,OwnA.mono ho (fun g _ hg=>Nat.le_trans hW.size hg),hf,hW.trans hf⟩)
  have htl5:=B5.lt
  have hxl5:=X5.lt
  have HSP:Hid (∀ W,Fresh W5 W→W.cell? ⟨t,0,none⟩=some (.map (some gd))∧W.cell? ⟨w.heap.size,0,none⟩=some (.string e.name)∧W.cell? ⟨w.heap.size,1,none⟩=some (.int .i64 e.node)∧W.cell? ⟨w.heap.size,2,none⟩=some (.bool e.dir)∧W.cell? ⟨w.heap.size,3,none⟩=some (.int .i64 T.next)∧W.cell? ⟨w.heap.size,4,none⟩=some (.int .i64 e.short)):=Lib.hid (fun W hW=>by
    refine ⟨?_,?_,?_,?_,?_,?_⟩
    · exact (Below.cell hW (p:=⟨t,0,none⟩) htl5).trans (by rw [B5.cell];rfl)
    · exact (Below.cell hW (p:=⟨w.heap.size,0,none⟩) hxl5).trans (by rw [X5.cell];rfl)
    · exact (Below.cell hW (p:=⟨w.heap.size,1,none⟩) hxl5).trans (by rw [X5.cell];rfl)
    · exact (Below.cell hW (p:=⟨w.heap.size,2,none⟩) hxl5).trans (by rw [X5.cell];rfl)
    · exact (Below.cell hW (p:=⟨w.heap.size,3,none⟩) hxl5).trans (by rw [X5.cell];rfl)
    · exact (Below.cell hW (p:=⟨w.heap.size,4,none⟩) hxl5).trans (by rw [X5.cell];rfl))
  have HLK:Hid (∀ W,Fresh W5 W→(Instr.lookup 155 (.map (some gd)) (.int .i64 d) false).run Tryz.prog W=.ok (.slice a0 l0.length c0) W):=Lib.hid (fun W hW=>(M5.fresh hW).look Tryz.underlying155 zeroL hd hv0)
  have HSM:Hid (∀ W W',Fresh W5 W→Mut (fun j=>j=gd) W W'→W'.cell? ⟨t,0,none⟩=some (.map (some gd))∧W'.cell? ⟨w.heap.size,0,none⟩=some (.string e.name)∧W'.cell? ⟨w.heap.size,1,none⟩=some (.int .i64 e.node)∧W'.cell? ⟨w.heap.size,2,none⟩=some (.bool e.dir)∧W'.cell? ⟨w.heap.size,3,none⟩=some (.int .i64 T.next)∧W'.cell? ⟨w.heap.size,4,none⟩=some (.int .i64 e.short)):=Lib.hid (fun W W' hW hm=>by
    obtain ⟨s0,s1,s2,s3,s4,s5⟩:=HSP.out W hW
    have n1:t ≠ gd:=B5.neMap M5
    have n2:w.heap.size ≠ gd:=X5.neMap M5
    have hz:=hW.size
    exact ⟨(hm.cell (p:=⟨t,0,none⟩) (by show t<_;omega) n1).trans s0,(hm.cell (p:=⟨w.heap.size,0,none⟩) (by show w.heap.size<_;omega) n2).trans s1,(hm.cell (p:=⟨w.heap.size,1,none⟩) (by show w.heap.size<_;omega) n2).trans s2,(hm.cell (p:=⟨w.heap.size,2,none⟩) (by show w.heap.size<_;omega) n2).trans s3,(hm.cell (p:=⟨w.heap.size,3,none⟩) (by show w.heap.size<_;omega) n2).trans s4,(hm.cell (p:=⟨w.heap.size,4,none⟩) (by show w.heap.size<_;omega) n2).trans s5⟩)
  have k0:=HLK.out _ (Fresh.refl W5)
  have k1:=HLK.out _ (Fresh.refl W5).drew
  have k2:=HLK.out _ (Fresh.refl W5).drew.drew
  have k3:=fun X=>HLK.out _ ((Fresh.refl W5).alloc X)
  have k4:=fun X=>HLK.out _ ((Fresh.refl W5).drew.alloc X)
  have k5:=fun X=>HLK.out _ ((Fresh.refl W5).alloc X).drew
  have k6:=fun X=>HLK.out _ ((Fresh.refl W5).drew.alloc X).drew
  rw [hW5]
  have h0:=HSP.out W5 (Fresh.refl _)
  have PK:=Lib.hid (And.intro B5 (And.intro M5 (And.intro F5 (And.intro P5 (And.intro O5 u5)))))
  have H8:=Lib.hid h8
  have H10:=Lib.hid h10
  have HS5:=Lib.hid hs5
  have HL0:=Lib.hid hl0
  clear hl0
  clear B5 X5 M5 F5 P5 O5 u5 u0 hs0 hW5 ho0 hv0 h6 h7 h8 h9 h10 h11 c3 f3 htl5 hxl5 hs5 h12
  go_region_held3 (fun W=>W.cell? ⟨t,0,none⟩=some (.map (some gd))∧W.cell? ⟨w.heap.size,0,none⟩=some (.string e.name)∧W.cell? ⟨w.heap.size,1,none⟩=some (.int .i64 e.node)∧W.cell? ⟨w.heap.size,2,none⟩=some (.bool e.dir)∧W.cell? ⟨w.heap.size,3,none⟩=some (.int .i64 T.next)∧W.cell? ⟨w.heap.size,4,none⟩=some (.int .i64 e.short)) (first | assumption | exact HSP.out _ (by repeat (first | assumption | exact Fresh.refl _ | refine Fresh.alloc ?_ _ | refine Fresh.drew ?_))) (first
    | (go_at_call 78;refine (HCL.out _ (by repeat (first | assumption | exact Fresh.refl _ | refine Fresh.alloc ?_ _ | refine Fresh.drew ?_))).mono ?_;rintro en wA ⟨aA,cA,rfl,hoA,hfA,hfA5⟩)
    | (refine step_append_ent rfl _ _ rfl (fun g=>W5.heap.size≤g) _ l0 { e with cookie:=T.next } _ rfl rfl (by first | exact hoA | exact OwnA.fresh hoA ((Fresh.refl _).alloc _)) (ec_new (e:={ e with cookie:=T.next }) (by first | exact Fresh.refl _ | exact hfA | exact hfA.undr | exact hfA.undr.undr)) hl1 ?_;intro a4 c4 w4 o4 u4;have hf4:Fresh W5 w4:=Fresh.mut2 (by first | exact hfA5 | exact hfA5.alloc _) u4 (fun j hj=>hoA.2 j hj);obtain ⟨w6,hrun6,m6,u6,z6⟩:=(PK.out.2.1.fresh hf4).storeRun Tryz.underlying155 (by omega) hd (.slice a4 (l0.length+1) c4);have hs6:=HSM.out w4 w6 hf4 u6;have o5:OwnE w4 (fun g=>W5.heap.size≤g) (.slice a4 (l0.length+1) c4) (l0++[{ e with cookie:=T.next }]):=OwnA.mono o4 (fun g _ hg=>hg.elim id (fun q=>Nat.le_trans (Fresh.size (by first | exact hfA5 | exact hfA5.alloc _)) q.1))))
  all_goals
    have HE:=Lib.hid (put_fin HAP.out h2 h3 h4 h5 HA2.out HL0.out H8.out H10.out HS5.out PK.out hf4 o5 m6 u6)
    clear o4 u4 o5 m6 u6 hf4 hs6 hoA hfA hfA5 hrun6
    go_wp2
    go_end0
    exact ⟨_,rfl,HE.out.1,HE.out.2,Gr.ext _ _ _⟩
open Go.RowKit
def TakeG (R:Int→Int→List Int→Prop) (A:Nat→Prop) (p:Nat) (O:Int→Bool) (q:Nat) (w:World) (e:Ending) (w':World):Prop :=
  ∃ k fr bk A',R k fr bk∧I64 k∧Mut A w w'∧Gr A w w' A'∧((k≤200∧e=.returned (.tuple #[.int .i64 k,.bool true])∧PoolAt w' A' p fr bk (fun i=>O i || decide (i=k)) (q+1))∨(200<k∧e=.returned (.tuple #[.int .i64 0,.bool false])∧PoolAt w' A' p fr bk O (q+1)))
def Takes (R:Int→Int→List Int→Prop) (T:TreS) (q:Nat):Prop:=∀ W A p,PoolAt W A p T.fr T.bk T.out q→Calls Tryz.prog 341 #[.pointer (some ⟨p,0,none⟩)] W (TakeG R A p T.out q W)
theorem TreeAt.pooled {w w':World} {A Ap Ap':Nat→Prop} {t gd gf pp q:Nat} {T:TreS} {Md Mf:Int→Option Value} {fr:Int} {bk:List Int} {O:Int→Bool} (h1:Blk w t 159 #[.map (some gd),.map (some gf),.pointer (some ⟨pp,0,none⟩),.int .i64 T.next]) (h2:A t∧¬ Ap t) (h3:A gd∧¬ Ap gd) (h4:A gf∧¬ Ap gf) (h5:gd ≠ gf) (h6:MapAt w gd q Md) (h7:MapAt w gf q Mf) (h8:∀ i,Mf i=if T.files i=true then some (.int .i64 1) else none)
    (h9:∀ i l,T.dirs i=some l→∃ v,Md i=some v∧OwnE w (fun g=>A g∧¬ Ap g) v l) (h10:∀ i,T.dirs i=none→Md i=none) (h12:∀ k,Ap k→A k) (hm:Mut Ap w w') (hg:Gr Ap w w' Ap') (hp:PoolAt w' Ap' pp fr bk O (q+1)) :
    TreeAt w' (ext A w w') t { T with out:=O,fr:=fr,bk:=bk } (q+1)∧Mut A w w':=by
  have n:∀ k,k<w.heap.size→¬ Ap k→¬ Ap' k:=fun k h1 h2 h3=>by
    rcases hg k h3 with q | q
    · exact h2 q
    · omega
  refine ⟨⟨gd,gf,pp,Md,Mf,Ap',h1.mut hm h2.2,⟨.inl h2.1,n _ h1.lt h2.2⟩,⟨.inl h3.1,n _ h6.lt h3.2⟩,⟨.inl h4.1,n _ h7.lt h4.2⟩,h5,(h6.mut hm h3.2).mono (by omega),(h7.mut hm h4.2).mono (by omega),h8,fun i l hi=>?_,h10,fun k hk=>?_,hp⟩,hm.mono (fun j _ h=>h12 j h)⟩
  · obtain ⟨v,hv,ho⟩:=h9 i l hi
    have o2:OwnE w (fun g=>(A g∧¬ Ap g)∧g<w.heap.size) v l:=OwnA.mono ho (fun g hg hh=>⟨hh,hg⟩)
    have o3:OwnE w' (fun g=>(A g∧¬ Ap g)∧g<w.heap.size) v l:=OwnA.mut o2 hm (fun g hg=>hg.1.2)
    exact ⟨v,hv,OwnA.mono o3 (fun g _ hg=>⟨.inl hg.1.1,n g hg.2 hg.1.2⟩)⟩
  · rcases hg k hk with q | q
    · exact .inl (h12 k q)
    · exact .inr q
theorem TreeAt.dirNew {w w':World} {A Ap:Nat→Prop} {t gd gf pp q:Nat} {T:TreS} {Md Mf:Int→Option Value} {k:Int} (h1:Blk w t 159 #[.map (some gd),.map (some gf),.pointer (some ⟨pp,0,none⟩),.int .i64 T.next]) (h2:A t∧¬ Ap t) (h3:A gd∧¬ Ap gd) (h4:A gf∧¬ Ap gf) (h5:gd ≠ gf) (h6:MapAt w gd q Md) (h7:MapAt w gf q Mf) (h8:∀ i,Mf i=if T.files i=true then some (.int .i64 1) else none)
    (h9:∀ i l,T.dirs i=some l→∃ v,Md i=some v∧OwnE w (fun g=>A g∧¬ Ap g) v l) (h10:∀ i,T.dirs i=none→Md i=none) (h12:∀ k,Ap k→A k) (h11:PoolAt w Ap pp T.fr T.bk T.out q)
    (m6:MapAt w' gd (q+1) (fun i=>if i=k then some (.slice none 0 0) else Md i)) (u6:Mut (fun j=>j=gd) w w') :
    TreeAt w' A t { T with dirs:=fun i=>if i=k then some [] else T.dirs i } (q+1)∧Mut A w w':=by
  have htd:t ≠ gd:=h1.neMap h6
  refine ⟨⟨gd,gf,pp,_,Mf,Ap,h1.mut u6 htd,h2,h3,h4,h5,m6,(h7.mut u6 (fun e=>h5 e.symm)).mono (by omega),h8,fun i l hi=>?_,fun i hi=>?_,h12,(h11.mut u6 (fun k hk e=>h3.2 (e ▸ hk))).le (by omega)⟩,u6.mono (fun j _ e=>by rw [e];exact h3.1)⟩
  · simp only at hi
    by_cases e:i=k
    · rw [if_pos e] at hi
      injection hi with hi
      subst hi
      exact ⟨_,if_pos e,OwnA.nil _ _ _ _⟩
    · rw [if_neg e] at hi
      obtain ⟨v,hv,ho⟩:=h9 i l hi
      exact ⟨v,by rw [if_neg e];exact hv,OwnA.mutB ho u6 (fun g hg e=>OwnA.neMap ho h6 (by rw [hg,e]))⟩
  · simp only at hi
    by_cases e:i=k
    · rw [if_pos e] at hi;cases hi
    · rw [if_neg e] at hi;rw [if_neg e];exact h10 i hi
theorem TreeAt.fileNew {w w':World} {A Ap:Nat→Prop} {t gd gf pp q:Nat} {T:TreS} {Md Mf:Int→Option Value} {k:Int} (h1:Blk w t 159 #[.map (some gd),.map (some gf),.pointer (some ⟨pp,0,none⟩),.int .i64 T.next]) (h2:A t∧¬ Ap t) (h3:A gd∧¬ Ap gd) (h4:A gf∧¬ Ap gf) (h5:gd ≠ gf) (h6:MapAt w gd q Md) (h7:MapAt w gf q Mf) (h8:∀ i,Mf i=if T.files i=true then some (.int .i64 1) else none)
    (h9:∀ i l,T.dirs i=some l→∃ v,Md i=some v∧OwnE w (fun g=>A g∧¬ Ap g) v l) (h10:∀ i,T.dirs i=none→Md i=none) (h12:∀ k,Ap k→A k) (h11:PoolAt w Ap pp T.fr T.bk T.out q)
    (m6:MapAt w' gf (q+1) (fun i=>if i=k then some (.int .i64 1) else Mf i)) (u6:Mut (fun j=>j=gf) w w') :
    TreeAt w' A t { T with files:=fun i=>T.files i || decide (i=k) } (q+1)∧Mut A w w':=by
  have htd:t ≠ gf:=h1.neMap h7
  refine ⟨⟨gd,gf,pp,Md,_,Ap,h1.mut u6 htd,h2,h3,h4,h5,(h6.mut u6 h5).mono (by omega),m6,fun i=>?_,fun i l hi=>?_,h10,h12,(h11.mut u6 (fun k hk e=>h4.2 (e ▸ hk))).le (by omega)⟩,u6.mono (fun j _ e=>by rw [e];exact h4.1)⟩
  · by_cases e:i=k
    · simp [e]
    · rw [if_neg e,h8];simp [e]
  · obtain ⟨v,hv,ho⟩:=h9 i l hi
    exact ⟨v,hv,OwnA.mutB ho u6 (fun g hg e=>OwnA.neMap ho h7 (by rw [hg,e]))⟩
def nodeT (T:TreS) (isDir:Bool) (k fr:Int) (bk:List Int):TreS :=
  { T with dirs:=if isDir=true then (fun i=>if i=k then some [] else T.dirs i) else T.dirs,files:=if isDir=true then T.files else (fun i=>T.files i || decide (i=k)),out:=fun i=>T.out i || decide (i=k),fr:=fr,bk:=bk }
def linkT (T:TreS) (d:Int) (name:ByteArray) (isDir:Bool) (short k fr:Int) (bk:List Int):TreS:=putT (nodeT T isDir k fr bk) d ⟨name,k,isDir,0,short⟩
def LinkErr (T:TreS) (d:Int) (name:ByteArray) (short r:Int):Prop :=
  (T.dirs d=none∧r=if T.files d=true then 8 else 5)∨(∃ l,T.dirs d=some l∧((¬ GoodN name∧r=3)∨(GoodN name∧¬ (0≤short∧short≤1000000)∧r=1)∨(GoodN name∧0≤short∧short≤1000000∧0≤fidx (nameB name) l∧r=6)))
def LinkOk (T:TreS) (d:Int) (name:ByteArray) (short:Int):Prop:=∃ l,T.dirs d=some l∧GoodN name∧0≤short∧short≤1000000∧fidx (nameB name) l<0
def LinkPost (R:Int→Int→List Int→Prop) (A:Nat→Prop) (t:Nat) (T:TreS) (q:Nat) (d:Int) (name:ByteArray) (isDir:Bool) (short:Int) (w:World) (e:Ending) (w':World):Prop :=
  (∃ r,LinkErr T d name short r∧e=.returned (.tuple #[.int .i64 0,.int .i64 r])∧Fresh w w') ∨
  (LinkOk T d name short∧∃ k fr bk A',R k fr bk∧Mut A w w'∧Gr A w w' A'∧((k≤200∧e=.returned (.tuple #[.int .i64 k,.int .i64 0])∧TreeAt w' A' t (linkT T d name isDir short k fr bk) (q+3))∨(200<k∧e=.returned (.tuple #[.int .i64 0,.int .i64 12])∧TreeAt w' A' t { T with fr:=fr,bk:=bk } (q+3))))
theorem link_join {w w3 w4 w5 w6:World} {A A6:Nat→Prop} (hf:Fresh w w3) (u4:Mut A w3 w4) (u5:Mut (ext A w3 w4) w4 w5) (u6:Mut (ext A w3 w4) w5 w6) (g6:Gr (ext A w3 w4) w5 w6 A6):Mut A w w6∧Gr A w w6 A6:=by
  have z1:=hf.size
  have z2:=u4.size
  have z3:=u5.size
  have z4:=u6.size
  have hx:∀ j,j<w.heap.size→ext A w3 w4 j→A j:=fun j hj h=>by
    rcases h with h | h
    · exact h
    · omega
  refine ⟨((hf.andMut u4).trans2 u5 (fun _ h=>h) hx).trans2 u6 (fun _ h=>h) hx,fun k hk=>?_⟩
  rcases g6 k hk with (h | h) | h
  · exact .inl h
  · exact .inr ⟨by omega,by omega⟩
  · exact .inr ⟨by omega,h.2⟩
set_option maxRecDepth 100000 in
set_option maxHeartbeats 3200000 in
theorem link_any (R:Int→Int→List Int→Prop) (w:World) (A:Nat→Prop) (t:Nat) (T:TreS) (q:Nat) (h:TreeAt w A t T q) (hT:Takes R T q) (d:Int) (hd:I64 d) (name:ByteArray) (isDir:Bool) (short:Int) (hq:q≤100000) (hl:∀ i l,T.dirs i=some l→l.length≤10000) (hn:0≤T.next∧T.next≤100000) :
    Calls Tryz.prog 272 #[.pointer (some ⟨t,0,none⟩),.int .i64 d,.string name,.bool isDir,.int .i64 short] w (LinkPost R A t T q d name isDir short w):=by
  have HL:=Lib.hid (tlist_any w A t T q h d hd (fun l hl2=>by have:=hl d l hl2;omega))
  have HM:=Lib.hid (fun W=>tmay_any name short W)
  have HH:=Lib.hid h
  have HLL:=Lib.hid hl
  have HT:=Lib.hid hT
  clear h hl hT
  go_enter Tryz.func272,Tryz.ntmps272
  go_wp2_with fail
  refine HL.out.mono ?_
  rintro e w1 (⟨l,v,hdl,rfl,ho,hf1⟩ | ⟨hdn,rfl,hf1⟩)
  case inr =>
    have hr:∃ r:Int,(if T.files d=true then 8 else 5)=r∧r ≠ 0∧LinkErr T d name short r:=by
      cases hfl:T.files d
      · exact ⟨5,rfl,by omega,.inl ⟨hdn,by rw [hfl];rfl⟩⟩
      · exact ⟨8,rfl,by omega,.inl ⟨hdn,by rw [hfl];rfl⟩⟩
    obtain ⟨r,hr1,hr0,hre⟩:=hr
    rw [hr1]
    have HR:=Lib.hid hre
    have hrb:(r == 0)=false:=by simp [hr0]
    have hrb2:(r != 0)=true:=by simp [hr0]
    clear hre hdn hr1
    go_wp2
    go_ret2
    exact .inl ⟨r,HR.out,rfl,hf1⟩
  case inl =>
    have HO:=Lib.hid ho
    have HDL:=Lib.hid hdl
    have HIX:=Lib.hid (fun W (hW:Fresh w1 W)=>tindex_any W _ v l name ((OwnE.sl ho).fresh hW) (by have:=HLL.out d l hdl;omega))
    clear ho hdl
    go_wp2_with fail
    refine (HM.out _).mono ?_
    rintro e w2 ⟨r,rfl,hr,hf2⟩
    by_cases hr0:r=0
    case neg =>
      have hre:LinkErr T d name short r:=by
        rcases hr with q | q | q
        · exact absurd q.2.2.2 hr0
        · exact .inr ⟨l,HDL.out,.inl q⟩
        · exact .inr ⟨l,HDL.out,.inr (.inl q)⟩
      have HR:=Lib.hid hre
      have hrb:(r == 0)=false:=by simp [hr0]
      have hrb2:(r != 0)=true:=by simp [hr0]
      clear hr hre
      go_wp2
      go_ret2
      exact .inl ⟨r,HR.out,rfl,hf1.trans hf2⟩
    case pos =>
      subst hr0
      have hg:GoodN name∧0≤short∧short≤1000000:=by
        rcases hr with q | q | q
        · exact ⟨q.1,q.2.1,q.2.2.1⟩
        · exact absurd q.2 (by omega)
        · exact absurd q.2.2 (by omega)
      have HG:=Lib.hid hg
      clear hg hr
      go_wp2_with fail
      refine (HIX.out _ hf2).mono ?_
      rintro e w3 ⟨rfl,hf3⟩
      have hf13:=(hf1.trans hf2).trans hf3
      clear hf1 hf2 hf3
      by_cases hix:0≤fidx (nameB name) l
      · have HR:Hid (LinkErr T d name short 6):=Lib.hid (.inr ⟨l,HDL.out,.inr (.inr ⟨HG.out.1,HG.out.2.1,HG.out.2.2,hix,rfl⟩)⟩)
        go_wp2
        go_ret2
        exact .inl ⟨6,HR.out,rfl,hf13⟩
      · have HOK:Hid (LinkOk T d name short):=Lib.hid ⟨l,HDL.out,HG.out.1,HG.out.2.1,HG.out.2.2,by omega⟩
        obtain ⟨gd,gf,pp,Md,Mf,Ap,hApl,h1,h2,h3,h4,h5,h6,h7,h8,h9,h10,h12,h11⟩:=(HH.out.fresh hf13).open
        have c2:w3.cell? ⟨t,2,none⟩=some (.pointer (some ⟨pp,0,none⟩)):=by rw [h1.cell];rfl
        have HP:=Lib.hid (HT.out w3 Ap pp h11)
        have HFIN:=Lib.hid (fun (w':World) (Ap':Nat→Prop) (fr:Int) (bk:List Int) (O:Int→Bool) (hm:Mut Ap w3 w') (hg:Gr Ap w3 w' Ap') (hp:PoolAt w' Ap' pp fr bk O (q+1))=>TreeAt.pooled h1 h2 h3 h4 h5 h6 h7 h8 h9 h10 h12 hm hg hp)
        clear h1 h2 h3 h4 h5 h6 h7 h8 h9 h10 h12 h11 hApl
        go_wp2_with fail
        refine HP.out.mono ?_
        rintro e w4 ⟨k,fr,bk,Ap',hR,hk64,hm4,hg4,⟨hk,rfl,hp4⟩ | ⟨hk,rfl,hp4⟩⟩
        · obtain ⟨t4,u4⟩:=HFIN.out _ _ _ _ _ hm4 hg4 hp4
          have HR:=Lib.hid hR
          have HU4:=Lib.hid u4
          obtain ⟨gd,gf,pp,Md,Mf,Ap,hApl,h1,h2,h3,h4,h5,h6,h7,h8,h9,h10,h12,h11⟩:=t4.open
          have c0:w4.cell? ⟨t,0,none⟩=some (.map (some gd)):=by rw [h1.cell];rfl
          have c1:w4.cell? ⟨t,1,none⟩=some (.map (some gf)):=by rw [h1.cell];rfl
          have HZ4:=Lib.hid (And.intro hf13.size u4.size)
          have HF13:=Lib.hid hf13
          clear hR u4 hm4 hg4 hp4 t4 c2 hf13
          have HL4:Hid (∀ l',(nodeT T isDir k fr bk).dirs d=some l'→l'.length≤100000):=Lib.hid (by
            intro l' hl'
            unfold nodeT at hl'
            simp only at hl'
            cases isDir
            · have:=HLL.out d l' hl';omega
            · simp only [if_true] at hl'
              split at hl'
              · injection hl' with hl';subst hl';simp
              · have:=HLL.out d l' hl';omega)
          cases isDir
          · have HFN:=Lib.hid (fun (w':World) (m6:MapAt w' gf (q+1+1) (fun i=>if i=k then some (.int .i64 1) else Mf i)) (u6:Mut (fun j=>j=gf) w4 w')=>TreeAt.fileNew h1 h2 h3 h4 h5 h6 h7 h8 h9 h10 h12 h11 m6 u6)
            clear h1 h2 h3 h4 h5 h6 h8 h9 h10 h12 h11 hApl
            go_wp2_with (at_mapUpdate;refine wpList_storeI _ rfl _ _ _ 156 rfl 3 Tryz.underlying156 gf (q+1) Mf rfl h7 (by omega) k rfl hk64 (.int .i64 1) rfl ?_;intro w5 m5 u5 z5)
            have HT5:=Lib.hid (HFN.out w5 m5 u5)
            have HZ5:=Lib.hid u5.size
            have HPU:=Lib.hid (tput_any w5 _ t _ (q+1+1) HT5.out.1 d hd ⟨name,k,false,0,short⟩ (by omega) (by have:=HL4.out;exact this) (by exact ⟨by have:=hn.1;exact this,by have:=hn.2;simp only;omega⟩))
            clear c0 c1 h7 m5 u5 HFN
            go_wp2_with fail
            refine HPU.out.mono ?_
            rintro e w6 ⟨A6,rfl,t6,u6,g6⟩
            have HT6:=Lib.hid t6
            have HJ:=Lib.hid (link_join HF13.out HU4.out HT5.out.2 u6 g6)
            clear t6 u6 g6
            go_wp2
            go_ret2
            exact .inr ⟨HOK.out,k,fr,bk,A6,HR.out,HJ.out.1,HJ.out.2,.inl ⟨hk,rfl,HT6.out⟩⟩
          · have HFN:=Lib.hid (fun (w':World) (m6:MapAt w' gd (q+1+1) (fun i=>if i=k then some (.slice none 0 0) else Md i)) (u6:Mut (fun j=>j=gd) w4 w')=>TreeAt.dirNew h1 h2 h3 h4 h5 h6 h7 h8 h9 h10 h12 h11 m6 u6)
            clear h1 h2 h3 h4 h5 h7 h8 h9 h10 h12 h11 hApl
            go_wp2_with (at_mapUpdate;refine wpList_storeI _ rfl _ _ _ 155 rfl 83 Tryz.underlying155 gd (q+1) Md rfl h6 (by omega) k rfl hk64 (.slice none 0 0) rfl ?_;intro w5 m5 u5 z5)
            have HT5:=Lib.hid (HFN.out w5 m5 u5)
            have HZ5:=Lib.hid u5.size
            have HPU:=Lib.hid (tput_any w5 _ t _ (q+1+1) HT5.out.1 d hd ⟨name,k,true,0,short⟩ (by omega) (by have:=HL4.out;exact this) (by exact ⟨by have:=hn.1;exact this,by have:=hn.2;simp only;omega⟩))
            clear c0 c1 h6 m5 u5 HFN
            go_wp2_with fail
            refine HPU.out.mono ?_
            rintro e w6 ⟨A6,rfl,t6,u6,g6⟩
            have HT6:=Lib.hid t6
            have HJ:=Lib.hid (link_join HF13.out HU4.out HT5.out.2 u6 g6)
            clear t6 u6 g6
            go_wp2
            go_ret2
            exact .inr ⟨HOK.out,k,fr,bk,A6,HR.out,HJ.out.1,HJ.out.2,.inl ⟨hk,rfl,HT6.out⟩⟩
        · obtain ⟨t4,u4⟩:=HFIN.out _ _ _ _ _ hm4 hg4 hp4
          have HR:=Lib.hid hR
          have HT4:=Lib.hid (t4.le (q':=q+3) (by omega))
          have HJ:Hid (Mut A w w4∧Gr A w w4 (ext A w3 w4)):=Lib.hid ⟨hf13.andMut u4,fun k hk=>by
            rcases hk with h | h
            · exact .inl h
            · have:=hf13.size;exact .inr ⟨by omega,h.2⟩⟩
          clear hR u4 hm4 hg4 hp4 t4 c2 hf13
          go_wp2
          go_ret2
          exact .inr ⟨HOK.out,k,fr,bk,_,HR.out,HJ.out.1,HJ.out.2,.inr ⟨hk,rfl,HT4.out⟩⟩
open Go.RowKit
def BldAt (w:World) (A:Nat→Prop) (b:Nat) (l:List UInt8):Prop:=A b∧∃ p v,(p=.pointer none∨p=.pointer (some ⟨b,0,none⟩))∧Blk w b 302 #[p,v]∧OwnA w A 5 1 v l.length (Lib.byteCells l)
theorem BldAt.mut {S A:Nat→Prop} {w w':World} {b:Nat} {l:List UInt8} (h:BldAt w A b l) (hf:Mut S w w') (hn:∀ g,A g→¬ S g):BldAt w' A b l:=by
  obtain ⟨hA,p,v,hp,hb,ho⟩:=h
  exact ⟨hA,p,v,hp,hb.mut hf (hn _ hA),ho.mut hf hn⟩
theorem BldAt.fresh {A:Nat→Prop} {w w':World} {b:Nat} {l:List UInt8} (h:BldAt w A b l) (hf:Fresh w w'):BldAt w' A b l:=h.mut (hf.mut fun _=>False) (fun _ _ q=>q)
theorem BldAt.mono {A A':Nat→Prop} {w:World} {b:Nat} {l:List UInt8} (h:BldAt w A b l) (ha:∀ g,g<w.heap.size→A g→A' g):BldAt w A' b l:=by
  obtain ⟨hA,p,v,hp,hb,ho⟩:=h
  exact ⟨ha _ hb.lt hA,p,v,hp,hb,ho.mono ha⟩
theorem sizeBld:(Tryz.prog.info? 285).map (·.size)=some 2:=by kernel_rfl
theorem liesBld:liesAt Tryz.prog Tryz.prog.depth 302 (2 / Tryz.prog.cellsOf 302) 0 285 1=true:=by kernel_rfl
theorem infoU8:(Tryz.prog.info? 5).map (fun i=>(i.zero,i.size,i.bytes))=some (some (.int .u8 0),1,1):=by kernel_rfl
set_option maxHeartbeats 1000000 in
set_option maxRecDepth 100000 in
theorem copyCheck_any (b:Nat) (p v:Value) (w:World) (hp:p=.pointer none∨p=.pointer (some ⟨b,0,none⟩)) (hb:Blk w b 302 #[p,v]) :
    Calls Tryz.prog 295 #[.pointer (some ⟨b,0,none⟩)] w fun e w'=>e=.returned (.tuple #[])∧Blk w' b 302 #[.pointer (some ⟨b,0,none⟩),v]∧Mut (fun j=>j=b) w w':=by
  rcases hp with rfl | rfl
  · obtain ⟨j,hj,hjs⟩:=Option.map_eq_some_iff.1 sizeBld
    have h0:w.cell? ⟨b,0,none⟩=some (.pointer none):=by rw [hb.cell];rfl
    have hsh:w.shape? b=some (302,2):=by unfold Blk at hb;simp [World.shape?,hb]
    have hfz:w.frozen? ⟨b,0,none⟩=false:=hb.frozen 0
    have HB:=Lib.hid hb
    have u283:=Tryz.underlying283
    have u443:=Tryz.underlying443
    clear hb
    go_enter Tryz.func295,Tryz.ntmps295
    go_wp2
    rw [Lib.run_to_unsafe w ⟨b,0,none⟩ u283 u443 hj (by rw [hjs];decide) hsh (Nat.zero_lt_succ 1)]
    simp only [Result.andThen]
    rw [Oper.upon_value]
    go_wp2
    rw [run_callFunc_extern Tryz.func355 (by kernel_rfl) (by kernel_rfl) (by kernel_rfl) (e:=Extern.AbiNoEscape.same) (by kernel_rfl)]
    rw [Lib.run_noEscape]
    simp only [Result.andThen]
    rw [Oper.upon_value]
    go_wp2
    rw [Lib.run_from_unsafe w ⟨b,0,none⟩ u443 u283 hj hsh liesBld]
    simp only [Result.andThen]
    rw [Oper.upon_value]
    go_wp2
    go_end0
    exact ⟨rfl,HB.out.set (i:=0),(Mut.refl (fun j=>j=b) w).setCell (p:=⟨b,0,none⟩) (.inl rfl) _⟩
  · have h0:w.cell? ⟨b,0,none⟩=some (.pointer (some ⟨b,0,none⟩)):=by rw [hb.cell];rfl
    go_enter Tryz.func295,Tryz.ntmps295
    obtain ⟨j,hj,hjs⟩:=Option.map_eq_some_iff.1 sizeBld
    go_wp2
    rw [Lib.run_neq_ptr_same w _ Tryz.underlying283 hj]
    go_wp2
    go_end0
    exact ⟨rfl,hb,Mut.refl _ _⟩
theorem bytes_cons (l:List UInt8) (x:UInt8):Lib.byteCells (l++[x])=Lib.byteCells l++[.int .u8 x.toNat]:=by simp [Lib.byteCells]
set_option maxHeartbeats 1000000 in
set_option maxRecDepth 100000 in
theorem writeByte_any (A:Nat→Prop) (b:Nat) (l:List UInt8) (x:UInt8) (w:World) (h:BldAt w A b l) (hl:l.length≤100000) :
    Calls Tryz.prog 307 #[.pointer (some ⟨b,0,none⟩),.int .u8 x.toNat] w fun e w'=>e=.returned .nilIface∧BldAt w' (ext A w w') b (l++[x])∧Mut A w w':=by
  obtain ⟨hAb,p,v,hp,hb,ho⟩:=h
  obtain ⟨i0,hi0,hz0,hz1,hz2⟩:=info_partsG infoU8
  have HCC:=Lib.hid (copyCheck_any b p v w hp hb)
  have HB:=Lib.hid hb
  have HO:=Lib.hid ho
  have hbl:=hb.lt
  clear hp hb ho
  go_enter Tryz.func307,Tryz.ntmps307
  go_wp2_with fail
  refine HCC.out.mono ?_
  rintro e w1 ⟨rfl,hb1,hu1⟩
  have c1:w1.cell? ⟨b,1,none⟩=some v:=by rw [hb1.cell];rfl
  have hne:v.ownBlock ≠ some b:=HO.out.ne HB.out (by decide)
  have ho1:OwnA w1 A 5 1 v l.length (Lib.byteCells l):=HO.out.mutB hu1 (fun g hg e=>hne (by rw [hg,e]))
  have HB1:=Lib.hid hb1
  have HO1:=Lib.hid ho1
  have HU1:Hid (Mut A w w1):=Lib.hid (hu1.mono (fun j _ e=>by rw [e];exact hAb))
  clear hb1 hu1
  go_wp2_with (at_builtin;refine wpList_append_ownA _ rfl _ _ 131 rfl A 5 i0 _ 1 1 Tryz.underlying131 hi0 hz0 hz1 hz2 rfl (by decide) _ _ _ rfl (ho1.fresh ((Fresh.refl _).alloc _)) ⟨w1.heap.size,0,none⟩ 1 1 [.int .u8 x.toNat] rfl rfl (newCells _ _ _) (by intro u hu;simp at hu;subst hu;rfl) (by omega) (by decide) ?_;intro a' c' w' hown' hgrow;have hu2:Mut (fun j=>v.ownBlock=some j) w1 w':=Fresh.andMut ((Fresh.refl _).alloc _) hgrow;have hb2:=HB1.out.mut hu2 hne;have d1:w'.cell? ⟨b,1,none⟩=some v:=(by rw [hb2.cell];rfl);have e1:w'.frozen? ⟨b,1,none⟩=false:=hb2.frozen 1)
  go_ret
  have hne2:=hown'.ne hb2 (by decide)
  have hs:Mut (fun j=>j=b) w' (w'.setCell ⟨b,1,none⟩ (.slice a' (l.length+1) c')):=(Mut.refl (fun j=>j=b) w').setCell (p:=⟨b,1,none⟩) (.inl rfl) _
  have ho3:=hown'.mutB hs (fun g hg e=>hne2 (by rw [hg,e]))
  have hz1:=HU1.out.size
  have hz2:=hu2.size
  have hz3:=hs.size
  refine ⟨rfl,⟨.inl hAb,_,_,.inr rfl,hb2.set (i:=1),?_⟩,?_⟩
  · rw [List.length_append,bytes_cons]
    refine ho3.mono (fun g hg hh=>?_)
    rcases hh with q | q
    · exact .inl q
    · exact .inr ⟨by have:=q.1;simp at this;omega,hg⟩
  · exact (HU1.out.trans2 hu2 (fun _ h=>h) (fun j _ e=>HO1.out.2 j e)).trans2 hs (fun _ h=>h) (fun j _ e=>by rw [e];exact hAb)
end Go.Proofs.YtpmlggjhfiljmaaGreatDoor
