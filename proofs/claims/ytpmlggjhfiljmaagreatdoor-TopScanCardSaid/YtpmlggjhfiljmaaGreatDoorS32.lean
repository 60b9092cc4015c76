/- Part 32 of what the law rests on. -/
import Derived.Maps.AppendAt
import Derived.Deep.DrawnRows
import Derived.Deep.RegionHeld3
import Derived.Test.YtpmlggjhfiljmaaGreatDoorS28
import Derived.Test.YtpmlggjhfiljmaaGreatDoorS30
import Derived.Test.YtpmlggjhfiljmaaGreatDoorS31
set_option linter.all false
namespace Go.Proofs.YtpmlggjhfiljmaaGreatDoor
open Go.RowKit
theorem numLen_any (a:Option Addr) (n c:Nat) (w:World):Calls Tryz.prog 195 #[.slice a n c] w fun e w'=>e=.returned (.int .i64 n)∧w=w':=by
  go_enter Tryz.func195,Tryz.ntmps195
  go_wp2
  go_ret
  exact ⟨rfl,rfl⟩
set_option maxRecDepth 100000 in
theorem numLess_any (g n c i j:Nat) (x y:Int) (w:World) (hi:i<n) (hj:j<n) (hn:n≤1000000) (ci:w.cell? ⟨g,i,none⟩=some (.int .i64 x)) (cj:w.cell? ⟨g,j,none⟩=some (.int .i64 y)) :
    Calls Tryz.prog 426 #[.slice (some ⟨g,0,none⟩) n c,.int .i64 i,.int .i64 j] w fun e w'=>e=.returned (.bool (decide (x<y)))∧Fresh w w':=by
  have i0:(0:Int)≤(i:Int):=by omega
  have i1:(i:Int)<(n:Int):=by omega
  have j0:(0:Int)≤(j:Int):=by omega
  have j1:(j:Int)<(n:Int):=by omega
  go_enter Tryz.func426,Tryz.ntmps426
  go_wp2_with fail
  go_quiet (fail)
  all_goals
    go_wp2
    go_ret
    exact ⟨rfl,(Fresh.refl _).drewN _⟩
set_option maxRecDepth 100000 in
set_option maxHeartbeats 1600000 in
theorem numSwap_any (A:Nat→Prop) (g c i j:Nat) (l:List Int) (w:World) (h:OwnI w A (.slice (some ⟨g,0,none⟩) l.length c) l) (hi:i<l.length) (hj:j<l.length) (hij:i ≠ j) (hn:l.length≤1000000) :
    Calls Tryz.prog 427 #[.slice (some ⟨g,0,none⟩) l.length c,.int .i64 i,.int .i64 j] w fun e w'=>e=.returned (.tuple #[])∧OwnI w' A (.slice (some ⟨g,0,none⟩) l.length c) (sw l i j)∧Mut (fun k=>k=g) w w':=by
  have H:=Lib.hid (h.sw hi hj)
  obtain ⟨g',c',hv,hA,hg,hcl⟩:=h.cells (by omega)
  injection hv with hv1 _ hv2
  injection hv1 with hv1
  injection hv1 with hv1
  subst hv1 hv2
  obtain ⟨ci,fi⟩:=hcl i hi
  obtain ⟨cj,fj⟩:=hcl j hj
  obtain ⟨x,hx⟩:∃ x,l.getD i 0=x:=⟨_,rfl⟩
  obtain ⟨y,hy⟩:∃ y,l.getD j 0=y:=⟨_,rfl⟩
  rw [hx] at ci H
  rw [hy] at cj H
  obtain ⟨n,hn2⟩:∃ n,l.length=n:=⟨_,rfl⟩
  rw [hn2] at hi hj hn H ⊢
  have i0:(0:Int)≤(i:Int):=by omega
  have i1:(i:Int)<(n:Int):=by omega
  have j0:(0:Int)≤(j:Int):=by omega
  have j1:(j:Int)<(n:Int):=by omega
  clear hcl hx hy hn2 h
  go_enter Tryz.func427,Tryz.ntmps427
  go_wp2_with fail
  go_region
  all_goals
    go_wp2
    go_end0
    exact ⟨rfl,OwnA.fresh H.out ((Fresh.refl _).drew),(((Mut.refl (fun k=>k=g) w).setCell (p:=⟨g,i,none⟩) (.inl rfl) _).setCell (p:=⟨g,j,none⟩) (.inl rfl) _).drew⟩
set_option maxRecDepth 100000 in
set_option maxHeartbeats 1600000 in
theorem numSwap_self (A:Nat→Prop) (g c i:Nat) (l:List Int) (w:World) (h:OwnI w A (.slice (some ⟨g,0,none⟩) l.length c) l) (hi:i<l.length) (hn:l.length≤1000000) :
    Calls Tryz.prog 427 #[.slice (some ⟨g,0,none⟩) l.length c,.int .i64 i,.int .i64 i] w fun e w'=>e=.returned (.tuple #[])∧OwnI w' A (.slice (some ⟨g,0,none⟩) l.length c) (sw l i i)∧Mut (fun k=>k=g) w w':=by
  have H:=Lib.hid (h.sw hi hi)
  obtain ⟨g',c',hv,hA,hg,hcl⟩:=h.cells (by omega)
  injection hv with hv1 _ hv2
  injection hv1 with hv1
  injection hv1 with hv1
  subst hv1 hv2
  obtain ⟨ci,fi⟩:=hcl i hi
  obtain ⟨x,hx⟩:∃ x,l.getD i 0=x:=⟨_,rfl⟩
  rw [hx] at ci H
  obtain ⟨n,hn2⟩:∃ n,l.length=n:=⟨_,rfl⟩
  rw [hn2] at hi hn H ⊢
  have i0:(0:Int)≤(i:Int):=by omega
  have i1:(i:Int)<(n:Int):=by omega
  clear hcl hx hn2 h
  go_enter Tryz.func427,Tryz.ntmps427
  go_wp2_with fail
  go_region
  all_goals
    go_wp2
    go_end0
    exact ⟨rfl,OwnA.fresh H.out ((Fresh.refl _).drew),(((Mut.refl (fun k=>k=g) w).setCell (p:=⟨g,i,none⟩) (.inl rfl) _).setCell (p:=⟨g,i,none⟩) (.inl rfl) _).drew⟩
theorem numSwap_all (A:Nat→Prop) (g c i j:Nat) (l:List Int) (w:World) (h:OwnI w A (.slice (some ⟨g,0,none⟩) l.length c) l) (hi:i<l.length) (hj:j<l.length) (hn:l.length≤1000000) :
    Calls Tryz.prog 427 #[.slice (some ⟨g,0,none⟩) l.length c,.int .i64 i,.int .i64 j] w fun e w'=>e=.returned (.tuple #[])∧OwnI w' A (.slice (some ⟨g,0,none⟩) l.length c) (sw l i j)∧Mut (fun k=>k=g) w w':=by
  by_cases e:i=j
  · subst e;exact numSwap_self A g c i l w h hi hn
  · exact numSwap_any A g c i j l w h hi hj e hn
theorem nilchk_run (P:Program) (t t2:TypeId) (a:Addr) (s1 s2:String) (W:World):Sem.run P (Builtin.ssaWrapNilChk_ #[t] t2 #[.pointer (some a),strVal s1,strVal s2]) W=.ok (.pointer (some a)) W:=rfl
theorem num_method {nm:String} {f:FuncId} (hi:((Tryz.prog.info? 268).bind fun ti=>(ti.methods.find? (·.name == nm)).map fun m=>(m.path,m.func))=some (#[],some (f,false))) (b o:Nat) (v:Value) (W:World) (h:W.cell? ⟨b,o,none⟩=some v) :
    Sem.run Tryz.prog (method 591 268 (.pointer (some ⟨b,o,none⟩)) nm) W=.ok (f,v) W:=by
  obtain ⟨ti,m,h1,h2,h3,h4⟩:=info_method hi
  have h5:Sem.run Tryz.prog (follow [] 268 (.val (.pointer (some ⟨b,o,none⟩)))) W=.ok (268,.val (.pointer (some ⟨b,o,none⟩))) W:=by kernel_rfl
  have h6:=method_run (K:=590) (v:=.pointer (some ⟨b,o,none⟩)) (W:=W) h1 h2 (xt:=268) (x:=.val (.pointer (some ⟨b,o,none⟩))) (by rw [h3];exact h5) h4
  rw [h6,h3]
  have h7:Sem.run Tryz.prog (receiverAt 268 (.val (.pointer (some ⟨b,o,none⟩))) false (some ((nm.splitOn ".").getLastD nm))) W=.ok v W:=by
    simp [receiverAt,run_underlying Tryz.underlying268,run_underlying Tryz.underlying266,Place.get,loadVar,isAgg,nilchk_run,asAddr,h]
  rw [show (#[]:Array FieldStep).isEmpty=true from rfl,if_pos rfl,h7]
  rfl
theorem numI:HeapI 268 195 426 427 where
  eLen:=by intro args w;go_simp
  eLess:=by intro args w;go_simp
  eSwap:=by intro args w;go_simp
  mLen:=fun b o v W h=>num_method (by kernel_rfl) b o v W h
  mLess:=fun b o v W h=>num_method (by kernel_rfl) b o v W h
  mSwap:=fun b o v W h=>num_method (by kernel_rfl) b o v W h
  len:=numLen_any
  less:=fun g n c i j x y w hi hj hn ci cj=>numLess_any g n c i j x y w hi hj hn ci cj
  swap:=fun A g c i j l w h hi hj hn=>numSwap_all A g c i j l w h hi hj hn
set_option maxRecDepth 100000 in
set_option maxHeartbeats 1600000 in
theorem npop_any (A:Nat→Prop) (b:Nat) (t:TypeId) (cs:Array Value) (o:Nat) (g c:Nat) (l:List Int) (w:World) (h:NumsAt w A b t cs o (.slice (some ⟨g,0,none⟩) l.length c) l) (hl1:1≤l.length) (hl:l.length≤100000) :
    Calls Tryz.prog 428 #[.pointer (some ⟨b,o,none⟩)] w fun e w'=>e=.returned (.iface 3 (.int .i64 (l.getD (l.length - 1) 0)))∧NPost A b t cs o (.slice (some ⟨g,0,none⟩) l.length c) w (l.take (l.length - 1)) w':=by
  obtain ⟨hb,hcs,ho,hvb⟩:=h
  have HB:=Lib.hid (And.intro hb (And.intro hcs (And.intro ho hvb)))
  have hc:w.cell? ⟨b,o,none⟩=some (.slice (some ⟨g,0,none⟩) l.length c):=(hb.cell o).trans hcs
  have hf:w.frozen? ⟨b,o,none⟩=false:=hb.frozen o
  obtain ⟨q,hq⟩:∃ q,l.length=q+1:=⟨l.length - 1,by omega⟩
  have hx:w.cell? ⟨g,q,none⟩=some (.int .i64 (l.getD q 0)):=ho.at hl1 (by omega)
  have HQ:=Lib.hid hq
  obtain ⟨_,_,hv,_,hgl,_⟩:=ho.cells hl1
  have hcap:l.length≤c:=by
    obtain ⟨⟨h1,⟨h2,_⟩ | ⟨g',cap,cur,hv,hb,hh,q1,q2,q3,q4⟩⟩,hA⟩:=ho
    · cases h2
    · injection hv with hv1 hv2 hv3;omega
  obtain ⟨x,hxx⟩:∃ x,l.getD q 0=x:=⟨_,rfl⟩
  have HX:=Lib.hid hxx
  rw [hxx] at hx
  rw [hq] at hc hl hcap ⊢
  rw [Nat.add_sub_cancel,hxx]
  have i1:(q:Int)≤100000:=by omega
  have i0:(0:Int)≤(q:Int):=by omega
  clear hb hcs ho hvb hq hxx hl1 hv
  go_enter Tryz.func428,Tryz.ntmps428
  go_wp2
  go_ret
  obtain ⟨hb,hcs,ho,hvb⟩:=HB.out
  have hq:=HQ.out
  have u3:Mut (fun k=>k=b) w (w.setCell ⟨b,o,none⟩ (.slice (some ⟨g,0,none⟩) q c)):=(Mut.refl (fun k=>k=b) w).setCell (p:=⟨b,o,none⟩) (.inl rfl) _
  have hs:=ho.shrink (m:=q) (by omega)
  have hgb:g ≠ b:=fun e=>hvb (by rw [e];rfl)
  refine ⟨rfl,.slice (some ⟨g,0,none⟩) q c,⟨hb.set,set_self hcs _,OwnA.mono (OwnA.mutB hs u3 (fun g' hg e=>?_)) (fun g' _ hg=>.inl hg),fun e=>hgb (Option.some.inj e)⟩,fun g' hg=>.inl hg,u3.mono (fun j _ e=>.inl e)⟩
  have:g=g':=Option.some.inj hg
  omega
theorem num_pop (a:Addr) (W:World):Sem.run Tryz.prog (method 591 268 (.pointer (some a)) "Pop") W=.ok (428,.pointer (some a)) W:=by kernel_rfl
theorem enters_npop:∀ (args:Array Value) (W:World),Sem.run Tryz.prog (callFunc 428 args) W=.ok (.enter 428 args) W:=by intro args w;go_simp
set_option maxRecDepth 100000 in
set_option maxHeartbeats 1600000 in
theorem hpopN_any (A:Nat→Prop) (b:Nat) (t:TypeId) (cs:Array Value) (o:Nat) (v:Value) (l:List Int) (w:World) (h:NumsAt w A b t cs o v l) (hl1:1≤l.length) (hl:l.length≤100000) (hp:Hp l) :
    Calls Tryz.prog 196 #[.iface 268 (.pointer (some ⟨b,o,none⟩))] w (PopPost A b t cs o v l w):=by
  obtain ⟨g,c,rfl,_,_,_⟩:=h.2.2.1.cells hl1
  have hc:w.cell? ⟨b,o,none⟩=some (.slice (some ⟨g,0,none⟩) l.length c):=(h.1.cell o).trans h.2.1
  have hgb:g ≠ b:=fun e=>h.2.2.2 (by rw [e];rfl)
  have hm1:=numI.mLen b o _ w hc
  have hm2:=numI.mSwap b o _ w hc
  have hm3:=fun W=>num_pop ⟨b,o,none⟩ W
  have hen1:=numI.eLen
  have hen2:=numI.eSwap
  have hen3:=enters_npop
  have HH:=Lib.hid (And.intro h (And.intro hgb (And.intro hl1 (And.intro hl hp))))
  obtain ⟨q,hq⟩:∃ q,l.length=q+1:=⟨l.length - 1,by omega⟩
  have HQ:=Lib.hid hq
  have HSW:=Lib.hid (numSwap_all A g c 0 q l w h.2.2.1 (by omega) (by omega) (by omega))
  have HDN:=Lib.hid (fun W (hcW:W.cell? ⟨b,o,none⟩=some (.slice (some ⟨g,0,none⟩) l.length c)) (hoW:OwnI W A (.slice (some ⟨g,0,none⟩) l.length c) (sw l 0 q)) (hbW:b<W.heap.size)=>by
    have e1:(sw l 0 q).length=l.length:=sw_len _ _ _
    have x:=down_any numI A b o g c (sw l 0 q) 0 q W (by rw [e1];exact hcW) (by rw [e1];exact hoW) hgb hbW (by omega) (by omega) (by omega) (by omega) (by have:=hp_swap hp hl1;rw [hq,Nat.add_sub_cancel] at this;exact this)
    rw [e1] at x
    exact x)
  have j1:(q:Int)≤100000:=by omega
  have j0:(0:Int)≤(q:Int):=by omega
  rw [hq] at hm1 hm2 HSW HDN
  clear h hc hgb hl1 hl hp hq
  go_enter Tryz.func196,Tryz.ntmps196
  go_wp2_with fail
  refine (numLen_any _ _ _ _).mono ?_
  rintro e w1 ⟨rfl,rfl⟩
  go_wp2_with fail
  refine HSW.out.mono ?_
  rintro e w2 ⟨rfl,ho2,hu2⟩
  have hc2:w2.cell? ⟨b,o,none⟩=some (.slice (some ⟨g,0,none⟩) (q+1) c):=by
    have h:=HH.out.1
    have hq:=HQ.out
    rw [← hq]
    exact (hu2.cell (p:=⟨b,o,none⟩) h.1.lt (fun e=>HH.out.2.1 e.symm)).trans ((h.1.cell o).trans h.2.1)
  have HD2:=Lib.hid (HDN.out w2 hc2 ho2 (Nat.lt_of_lt_of_le HH.out.1.1.lt hu2.size))
  have H2:=Lib.hid (And.intro ho2 hu2)
  clear hm1 hm2 ho2 hu2 hc2
  go_wp2_with fail
  refine HD2.out.mono ?_
  rintro e w3 ⟨r,l2,rfl,hdn,ho3,hu3⟩
  have HDD:Hid ((l2.take q++[l.getD 0 0]).Perm l∧Hp (l2.take q)∧l2.getD q 0=l.getD 0 0∧l2.length=l.length):=Lib.hid (by
    have hq:=HQ.out
    have x:=hp_take (l:=l) (l2:=l2) HH.out.2.2.1 (by rw [hq,Nat.add_sub_cancel];exact hdn)
    rw [hq,Nat.add_sub_cancel] at x
    exact ⟨x.1,x.2.1,x.2.2.1,by rw [hq];exact x.2.2.2⟩)
  have h4:NumsAt w3 A b t cs o (.slice (some ⟨g,0,none⟩) l2.length c) l2:=by
    have h:=HH.out.1
    have hq:=HQ.out
    have hl2:=HDD.out.2.2.2
    have hgb:¬ b=g:=fun e=>HH.out.2.1 e.symm
    have e:l2.length=q+1:=by omega
    refine ⟨(h.1.mut H2.out.2 hgb).mut hu3 hgb,by rw [hl2];exact h.2.1,by rw [e];exact ho3,by rw [hl2];exact h.2.2.2⟩
  have HP4:=Lib.hid (npop_any A b t cs o g c l2 w3 h4 (by rw [HDD.out.2.2.2];exact HH.out.2.2.1) (by rw [HDD.out.2.2.2];exact HH.out.2.2.2.1))
  obtain ⟨x,hxx⟩:∃ x,l2.getD (l2.length - 1) 0=x:=⟨_,rfl⟩
  rw [hxx] at HP4
  have HXX:Hid (x=l.getD 0 0):=Lib.hid (by
    have hq:=HQ.out
    have hl2:=HDD.out.2.2.2
    rw [← hxx,show l2.length - 1=q by omega];exact HDD.out.2.2.1)
  clear hxx
  have H3:=Lib.hid (H2.out.2.trans hu3)
  clear hdn ho3 hu3 h4
  go_wp2_with fail
  refine HP4.out.mono ?_
  rintro e w4 ⟨rfl,v4,hn4,hob4,hu4⟩
  have H4:=Lib.hid (And.intro hn4 (And.intro hob4 hu4))
  clear hn4 hob4 hu4
  go_wp2
  go_ret
  obtain ⟨hn4,hob4,hu4⟩:=H4.out
  obtain ⟨hpm,hhp,hx,hl2⟩:=HDD.out
  have hq:=HQ.out
  have e2:l2.length - 1=q:=by omega
  rw [e2] at hn4
  have z3:=H3.out.size
  have z4:=hu4.size
  refine ⟨l2.take q,by rw [← HXX.out];rfl,hpm,hhp,v4,⟨hn4.1,hn4.2.1,OwnA.mono hn4.2.2.1 (fun g' _ hg=>hg.imp id fun p=>⟨by omega,p.2⟩),hn4.2.2.2⟩,fun g' hg=>(hob4 g' hg).imp (fun e=>e) (fun p=>by omega),?_⟩
  refine (H3.out.mono (T:=fun k=>k=b∨(Value.slice (some ⟨g,0,none⟩) l.length c).ownBlock=some k) (fun j _ e=>.inr (by rw [e];rfl))).trans2 hu4 (fun _ h=>h) (fun j _ h=>h)
def InitPost (A:Nat→Prop) (g c:Nat) (l:List Int) (w:World) (e:Ending) (w':World):Prop:=∃ l',e=.returned (.tuple #[])∧l'.Perm l∧Hp l'∧OwnI w' A (.slice (some ⟨g,0,none⟩) l.length c) l'∧Mut (fun k=>k=g) w w'
def InRel (A:Nat→Prop) (g c N:Nat) (l:List Int) (w:World) (i:Value) (wr:World):Prop:=∃ (k:Nat) (l':List Int),i=.int .i64 ((k:Int) - 1)∧k≤N / 2∧l'.Perm l∧HpFrom l' N k∧OwnI wr A (.slice (some ⟨g,0,none⟩) N c) l'∧Mut (fun k=>k=g) w wr
set_option maxRecDepth 100000 in
set_option maxHeartbeats 1600000 in
theorem hinit_any {ty:TypeId} {fLen fLess fSwap:FuncId} (HI:HeapI ty fLen fLess fSwap) (A:Nat→Prop) (b o g c:Nat) (l:List Int) (w:World) (hc:w.cell? ⟨b,o,none⟩=some (.slice (some ⟨g,0,none⟩) l.length c)) (ho:OwnI w A (.slice (some ⟨g,0,none⟩) l.length c) l) (hgb:g ≠ b) (hbl:b<w.heap.size)
    (hl1:1≤l.length) (hl:l.length≤100000):Calls Tryz.prog 194 #[.iface ty (.pointer (some ⟨b,o,none⟩))] w (InitPost A g c l w):=by
  have hel:=HI.eLen
  have hml:=HI.mLen b o _ w hc
  have HLN:=Lib.hid (fun a n c W=>HI.len a n c W)
  obtain ⟨N,hN⟩:∃ N,l.length=N:=⟨_,rfl⟩
  have HC:Hid (∀ W,Mut (fun k=>k=g) w W→W.cell? ⟨b,o,none⟩=some (.slice (some ⟨g,0,none⟩) N c)):=Lib.hid (fun W hW=>by rw [← hN];exact (hW.cell (p:=⟨b,o,none⟩) hbl (fun e=>hgb e.symm)).trans hc)
  have HN:=Lib.hid hN
  have HO:=Lib.hid ho
  have HH:=Lib.hid HI
  have HGB:=Lib.hid hgb
  rw [hN] at hl1 hl hml HO
  have hq:(N:Int) / 2 - 1=((N / 2:Nat):Int) - 1:=by omega
  have HQ:=Lib.hid hq
  clear hc ho hgb HI hN hq
  go_enter Tryz.func194,Tryz.ntmps194
  go_wp2_with fail
  refine (HLN.out _ _ _ _).mono ?_
  rintro e w1 ⟨rfl,rfl⟩
  clear hml
  go_wp2
  go_loopw [3] (fun i wr=>InRel A g c N l w i wr) (fun i _=>(intOf i+1).toNat)
  case atStart=>exact ⟨N / 2,l,by rw [HQ.out],Nat.le_refl _,List.Perm.refl _,fun c a b d=>by omega,HO.out,Mut.refl _ _⟩
  case round =>
    obtain ⟨k,l',rfl,hk,hpm,hhp,ho,hm⟩:=hrel
    have HV:=Lib.hid (And.intro hpm (And.intro hhp (And.intro ho hm)))
    clear hpm hhp ho hm
    by_cases hk0:k=0
    · subst hk0
      go_wp2
      go_end0
      have hlen:l'.length=N:=by rw [HV.out.1.length_eq];exact HN.out
      refine ⟨l',rfl,HV.out.1,?_,by rw [HN.out];exact HV.out.2.2.1,HV.out.2.2.2⟩
      unfold Hp
      rw [hlen]
      exact HV.out.2.1
    · obtain ⟨j,rfl⟩:∃ j,k=j+1:=⟨k - 1,by omega⟩
      have HD:Hid (Calls Tryz.prog 281 #[.iface ty (.pointer (some ⟨b,o,none⟩)),.int .i64 j,.int .i64 N] wr fun e w'=>∃ (r:Bool) (l2:List Int),e=.returned (.bool r)∧Downed l' l2 N j∧OwnI w' A (.slice (some ⟨g,0,none⟩) N c) l2∧Mut (fun k=>k=g) wr w'):=Lib.hid (by
        have hlen:l'.length=N:=by rw [HV.out.1.length_eq];exact HN.out
        have x:=down_any HH.out A b o g c l' j N wr (by rw [hlen];exact HC.out wr HV.out.2.2.2) (by rw [hlen];exact HV.out.2.2.1) HGB.out (Nat.lt_of_lt_of_le hbl HV.out.2.2.2.size) (by omega) (by omega) (by omega) (by omega) HV.out.2.1
        rw [hlen] at x
        exact x)
      have e1:((j+1:Nat):Int) - 1=(j:Int):=by omega
      rw [e1]
      clear e1 hk0
      go_wp2_with fail
      refine HD.out.mono ?_
      rintro e w2 ⟨r,l2,rfl,hdn,ho2,hm2⟩
      have HV2:=Lib.hid (And.intro (hdn.perm.trans HV.out.1) (And.intro hdn.hp (And.intro ho2 (HV.out.2.2.2.trans hm2))))
      clear hdn ho2 hm2
      go_wp2
      go_roundw
      case rel=>exact ⟨j,l2,rfl,by omega,HV2.out.1,HV2.out.2.1,HV2.out.2.2.1,HV2.out.2.2.2⟩
      case measure=>simp [intOf]
theorem hinit_none {ty:TypeId} {fLen fLess fSwap:FuncId} (HI:HeapI ty fLen fLess fSwap) (b o:Nat) (a:Option Addr) (c:Nat) (w:World) (hc:w.cell? ⟨b,o,none⟩=some (.slice a 0 c)):Calls Tryz.prog 194 #[.iface ty (.pointer (some ⟨b,o,none⟩))] w fun e w'=>e=.returned (.tuple #[])∧w=w':=by
  have hel:=HI.eLen
  have hml:=HI.mLen b o _ w hc
  have HLN:=Lib.hid (fun a n c W=>HI.len a n c W)
  clear HI hc
  go_enter Tryz.func194,Tryz.ntmps194
  go_wp2_with fail
  refine (HLN.out _ _ _ _).mono ?_
  rintro e w1 ⟨rfl,rfl⟩
  clear hml
  go_wp2
  refine wp_loop_rounds 1 ?_
  rw [rounds_succ]
  go_wp2
  go_end0
  exact ⟨rfl,rfl⟩
theorem hp_min {l:List Int} (h:Hp l):∀ x ∈ l,l.getD 0 0≤x:=fun x hx=>by
  obtain ⟨k,hk,e⟩:=List.mem_iff_getElem.1 hx
  have:=HpFrom.min h k hk
  rw [List.getD_eq_getElem?_getD (i:=k),List.getElem?_eq_getElem hk] at this
  rw [← e];exact this
theorem getD0_mem {l:List Int} (h:l ≠ []):l.getD 0 0 ∈ l:=by
  cases l with
  | nil=>exact absurd rfl h
  | cons x l=>simp
def FreeIs (l:List Int) (n:Int):Prop:=1≤n∧n ∉ l∧∀ j,1≤j→j<n→j ∈ l
theorem FreeIs.uniq {l:List Int} {a b:Int} (h:FreeIs l a) (k:FreeIs l b):a=b:=by
  rcases Int.lt_trichotomy a b with q | q | q
  · exact absurd (k.2.2 a h.1 q) h.2.1
  · exact q
  · exact absurd (h.2.2 b k.1 q) k.2.1
theorem upto_len:∀ (k:Nat) (l:List Int),(∀ j:Int,1≤j→j≤k→j ∈ l)→k≤l.length
  | 0,l,_=>Nat.zero_le _
  | k+1,l,h=>by
    have hm:((k+1:Nat):Int) ∈ l:=h _ (by omega) (Int.le_refl _)
    have hl:=List.length_erase_of_mem hm
    have hp:=List.length_pos_of_mem hm
    have ih:=upto_len k (l.erase ((k+1:Nat):Int)) (fun j a b=>(List.mem_erase_of_ne (by omega)).2 (h j a (by omega)))
    omega
theorem FreeIs.le {l:List Int} {n:Int} (h:FreeIs l n):n≤l.length+1:=by
  obtain ⟨k,hk⟩:=Int.eq_ofNat_of_zero_le (show 0≤n - 1 by have:=h.1;omega)
  have:=upto_len k l (fun j a b=>h.2.2 j a (by omega))
  omega
def FJ (l r:List Int) (n:Int):Prop:=1≤n∧(∀ j,1≤j→j<n→j ∈ l)∧(n ∈ l→n ∈ r)∧(∀ y ∈ l,y ∈ r∨∀ z ∈ r,y≤z)∧∀ z ∈ r,z ∈ l
theorem FJ.start {l r:List Int} (h:r.Perm l):FJ l r 1:=⟨by omega,fun j a b=>by omega,fun q=>h.mem_iff.2 q,fun y hy=>.inl (h.mem_iff.2 hy),fun z hz=>h.mem_iff.1 hz⟩
theorem FJ.hit {l r r':List Int} {n:Int} (h:FJ l r n) (hp:(r'++[n]).Perm r) (hm:∀ z ∈ r,n≤z):FJ l r' (n+1):=by
  obtain ⟨h1,h2,h3,h4,h5⟩:=h
  have hn:n ∈ r:=hp.mem_iff.1 (by simp)
  have hs:∀ z,z ∈ r'→z ∈ r:=fun z hz=>hp.mem_iff.1 (by simp [hz])
  have hb:∀ z,z ∈ r→z=n∨z ∈ r':=fun z hz=>by
    have:=hp.mem_iff.2 hz
    rw [List.mem_append,List.mem_singleton] at this
    exact this.symm
  refine ⟨by omega,fun j a b=>?_,fun q=>?_,fun y hy=>?_,fun z hz=>h5 z (hs z hz)⟩
  · by_cases e:j=n
    · rw [e];exact h5 n hn
    · exact h2 j a (by omega)
  · rcases h4 _ q with c | c
    · rcases hb _ c with e | e
      · omega
      · exact e
    · have:=c n hn;omega
  · rcases h4 y hy with c | c
    · rcases hb _ c with e | e
      · exact .inr fun z hz=>by rw [e];exact hm z (hs z hz)
      · exact .inl e
    · exact .inr fun z hz=>c z (hs z hz)
theorem FJ.miss {l r r':List Int} {n x:Int} (h:FJ l r n) (hp:(r'++[x]).Perm r) (hm:∀ z ∈ r,x≤z) (hx:x ≠ n):FJ l r' n:=by
  obtain ⟨h1,h2,h3,h4,h5⟩:=h
  have hs:∀ z,z ∈ r'→z ∈ r:=fun z hz=>hp.mem_iff.1 (by simp [hz])
  have hb:∀ z,z ∈ r→z=x∨z ∈ r':=fun z hz=>by
    have:=hp.mem_iff.2 hz
    rw [List.mem_append,List.mem_singleton] at this
    exact this.symm
  refine ⟨h1,h2,fun q=>?_,fun y hy=>?_,fun z hz=>h5 z (hs z hz)⟩
  · rcases hb _ (h3 q) with e | e
    · exact absurd e.symm hx
    · exact e
  · rcases h4 y hy with c | c
    · rcases hb _ c with e | e
      · exact .inr fun z hz=>by rw [e];exact hm z (hs z hz)
      · exact .inl e
    · exact .inr fun z hz=>c z (hs z hz)
theorem FJ.le {l r:List Int} {n:Int} (h:FJ l r n):n≤l.length+1:=by
  obtain ⟨k,hk⟩:=Int.eq_ofNat_of_zero_le (show 0≤n - 1 by have:=h.1;omega)
  have:=upto_len k l (fun j a b=>h.2.1 j a (by omega))
  omega
theorem FJ.done {l:List Int} {n:Int} (h:FJ l [] n):FreeIs l n:=⟨h.1,fun q=>(by have:=h.2.2.1 q;exact absurd this (by simp)),h.2.1⟩
open Go.RowKit
theorem append_types {t u e e':TypeId} (ht:Tryz.prog.underlying t=some (.slice e)) (hu:Tryz.prog.underlying u=some (.slice e')) (ty:TypeId) (s:Option Addr) (n c:Nat) (x:Option Addr) (m d:Nat) (w:World):(Builtin.append_ #[t,u] ty #[.slice s n c,.slice x m d]).run Tryz.prog w=(Builtin.append_ #[t,t] ty #[.slice s n c,.slice x m d]).run Tryz.prog w:=by
  simp [Builtin.append_,run_underlying ht,run_underlying hu,Result.andThen]
theorem append_none (t u ty:TypeId) (b a:Option Addr) (c:Nat) (ht:t=266) (hu:u=195) (w:World):(Builtin.append_ #[t,u] ty #[.slice b 0 0,.slice a 0 c]).run Tryz.prog w=.ok (.slice b 0 0) w:=by
  subst ht hu
  cases b <;> cases a <;> kernel_rfl
theorem wpList_append_run (w:World) {ops:Array Oper} {rest:List Oper} {o:Oper} {a:Act} {Q:Exit→Act→World→Prop} (hg:o.guard=none) (s x:Operand) (t u:TypeId)
    (ho:o.op=.call { callee:=.builtin .append,args:=#[s,x],argTypes:=#[t,u] }) (v1 v2:Value) (hs:a.eval s=v1) (hx:a.eval x=v2) (v':Value) (w':World)
    (hrun:(Builtin.append_ #[t,u] o.type #[v1,v2]).run Tryz.prog w=.ok v' w') (hK:wpList Tryz.prog ops Q rest (a.put o.dst v') w'):wpList Tryz.prog ops Q (o :: rest) a w:=by
  refine wpList_plain hg fun K hK'=>?_
  unfold Oper.wp
  simp [execOp,ho,resolve,invoke,builtin,hs,hx,hrun,Result.andThen]
  exact hK' _ _ hK
def FreePost (l:List Int) (w:World) (e:Ending) (w':World):Prop:=∃ n,e=.returned (.int .i64 n)∧FreeIs l n∧Fresh w w'
def lenAt (w:World) (b:Nat):Nat:=match w.cell? ⟨b,0,none⟩ with | some (.slice _ n _)=>n | _=>0
theorem free_none (a:Option Addr) (c:Nat) (w:World):Calls Tryz.prog 133 #[.slice a 0 c] w (FreePost [] w):=by
  have HAP:=Lib.hid (fun b W ty=>append_none 266 195 ty b a c rfl rfl W)
  have hen:=numI.eLen
  have hb:=Blk.new (w.alloc (.cells #[] 3)) 266 #[.slice (some ⟨w.heap.size,0,none⟩) 0 0]
  rw [World.size_alloc] at hb
  have hc:=hb.cell 0
  have hml:=numI.mLen (w.heap.size+1) 0 _ _ hc
  have HIN:=Lib.hid (hinit_none numI (w.heap.size+1) 0 (some ⟨w.heap.size,0,none⟩) 0 _ hc)
  clear hb
  go_enter Tryz.func133,Tryz.ntmps133
  go_wp2_with (at_builtin;refine wpList_append_run _ rfl _ _ 266 195 rfl _ _ rfl rfl _ _ (HAP.out _ _ _) ?_)
  refine HIN.out.mono ?_
  rintro e w1 ⟨rfl,rfl⟩
  go_wp2_with fail
  refine wp_loop_rounds 1 ?_
  rw [rounds_succ]
  go_wp2_with fail
  refine (numLen_any _ _ _ _).mono ?_
  rintro e w1 ⟨rfl,rfl⟩
  go_wp2
  go_ret
  exact ⟨1,rfl,⟨by omega,by simp,fun j a b=>by omega⟩,((Fresh.refl _).alloc _).alloc _⟩
theorem typeInt (n:Int) (W:World):Sem.run Tryz.prog (Instr.typeAssert (.iface 3 (.int .i64 n)) 20 3 false) W=.ok (.int .i64 n) W:=by kernel_rfl
def FrRel (l:List Int) (b:Nat) (w w0:World) (n:Value) (wr:World):Prop:=∃ (k:Int) (r:List Int) (v:Value),n=.int .i64 k∧NumsAt wr (fun g=>w.heap.size≤g) b 266 #[v] 0 v r∧Hp r∧FJ l r k∧r.length≤l.length∧k≤l.length+1∧Fresh w wr
set_option maxRecDepth 100000 in
set_option maxHeartbeats 3200000 in
theorem free_some (A:Nat→Prop) (v:Value) (l:List Int) (w:World) (h:OwnI w A v l) (hl1:1≤l.length) (hl:l.length≤10000):Calls Tryz.prog 133 #[v] w (FreePost l w):=by
  obtain ⟨i0,hi0,hz0,hz1,hz2⟩:=info_partsG infoInt
  obtain ⟨g,c,rfl,hA,hg,hcl⟩:=h.cells hl1
  obtain ⟨v2,w2,hrun,hown,hgr,_,hblk⟩:=run_append_own_at (P:=Tryz.prog) (w.alloc (.cells #[] 3)) w.heap.size 266 266 3 i0 (.int .i64 0) 1 8 Tryz.underlying266 hi0 hz0 hz1 hz2 rfl (by decide) (.slice (some ⟨w.heap.size,0,none⟩) 0 0) 0 [] ⟨rfl,.inr ⟨_,0,#[],rfl,Nat.le_refl _,heap_alloc_new _ _,Nat.le_refl _,by unfold maxLen;omega,rfl,rfl⟩⟩ ⟨g,0,none⟩ l.length c (ints l) (by simp [ints]) (fun j u hj=>by
    have hj2:j<l.length:=by
      have:=(List.getElem?_eq_some_iff.1 hj).1
      simpa [ints] using this
    have hu:u=.int .i64 (l.getD j 0):=by
      unfold ints at hj
      rw [List.getElem?_map,List.getElem?_eq_getElem hj2] at hj
      rw [List.getD_eq_getElem?_getD,List.getElem?_eq_getElem hj2]
      injection hj with hj
      exact hj.symm
    have:=(Below.cell ((Fresh.refl w).alloc (.cells #[] 3)) (p:=⟨g,j,none⟩) hg).trans (hcl j hj2).1
    rw [Addr.add_lit,Nat.zero_add,hu]
    exact this) (by intro u hu;unfold ints at hu;obtain ⟨x,_,rfl⟩:=List.mem_map.1 hu;rfl) (by unfold maxLen;omega) (by omega) (by simp)
  have HAP:=Lib.hid hrun
  have hf2:Fresh w w2:=by
    refine ⟨hgr.os,hgr.tape,hgr.output,by have:=hgr.size;simp at this;omega,fun k hk=>?_⟩
    rw [hgr.block k (by simp;omega) (fun e=>by simp [Value.ownBlock] at e;omega)]
    exact ((Fresh.refl w).alloc _).block k hk
  rw [Nat.zero_add,List.nil_append] at hown
  have hoI:OwnI w2 (fun g=>w.heap.size≤g) v2 l:=⟨own_base hown (Nat.zero_le _),fun g hg=>(hown.lt g hg).1⟩
  obtain ⟨g2,c2,rfl,hg2,hgl2,_⟩:=hoI.cells hl1
  have hb3:=Blk.new w2 266 #[.slice (some ⟨g2,0,none⟩) l.length c2]
  have hf3:Fresh w (w2.alloc (.cells #[.slice (some ⟨g2,0,none⟩) l.length c2] 266)):=hf2.alloc _
  have ho3:OwnI (w2.alloc (.cells #[.slice (some ⟨g2,0,none⟩) l.length c2] 266)) (fun g=>w.heap.size≤g) (.slice (some ⟨g2,0,none⟩) l.length c2) l:=hoI.fresh ((Fresh.refl _).alloc _)
  have hgb:g2 ≠ w2.heap.size:=by omega
  have HIN:=Lib.hid (hinit_any numI (fun g=>w.heap.size≤g) w2.heap.size 0 g2 c2 l _ (hb3.cell 0) ho3 hgb (by simp) hl1 (by omega))
  have H3:=Lib.hid (And.intro hb3 (And.intro hf3 (And.intro hg2 hgb)))
  have hwl:w.heap.size≤w2.heap.size:=hf2.size
  have HHP:=Lib.hid (fun v r W (hN:NumsAt W (fun g=>w.heap.size≤g) w2.heap.size 266 #[v] 0 v r) (h1:1≤r.length) (h2:r.length≤100000) (hp:Hp r)=>hpopN_any (fun g=>w.heap.size≤g) w2.heap.size 266 #[v] 0 v r W hN h1 h2 hp)
  have hty:=typeInt
  obtain ⟨n,hn⟩:∃ n,l.length=n:=⟨_,rfl⟩
  have HN:=Lib.hid hn
  rw [hn] at hl1 hl HAP HIN H3 ⊢
  clear h hA hg hcl hrun hown hgr hblk hf2 hoI hgl2 hb3 hf3 ho3 hn hg2 hgb
  go_enter Tryz.func133,Tryz.ntmps133
  go_wp2_with (at_builtin;refine wpList_append_run _ rfl _ _ 266 195 rfl _ _ rfl rfl _ _ ((append_types Tryz.underlying266 Tryz.underlying195 _ _ _ _ _ _ _ _).trans HAP.out) ?_)
  refine HIN.out.mono ?_
  rintro e w4 ⟨l2,rfl,hpm,hhp,ho4,hm4⟩
  have H4:Hid (NumsAt w4 (fun g=>w.heap.size≤g) w2.heap.size 266 #[.slice (some ⟨g2,0,none⟩) n c2] 0 (.slice (some ⟨g2,0,none⟩) n c2) l2∧Hp l2∧l2.Perm l∧l2.length=n∧Fresh w w4):=Lib.hid (by
    have hlen:l2.length=n:=by rw [hpm.length_eq];exact HN.out
    rw [HN.out] at ho4
    exact ⟨⟨H3.out.1.mut hm4 (fun e=>H3.out.2.2.2 e.symm),rfl,by unfold OwnI at ho4 ⊢;rw [hlen] at ho4 ⊢;exact ho4,fun e=>H3.out.2.2.2 (Option.some.inj e)⟩,hhp,hpm,hlen,H3.out.2.1.mut2 hm4 (fun j e=>by rw [e];exact H3.out.2.2.1)⟩)
  clear hpm hhp ho4 hm4
  go_wp2
  go_loopw [4] (fun k wr=>FrRel l w2.heap.size w w4 k wr) (fun _ wr=>lenAt wr w2.heap.size)
  case atStart=>exact ⟨1,l2,_,rfl,H4.out.1,H4.out.2.1,FJ.start H4.out.2.2.1,by rw [H4.out.2.2.2.1,HN.out];exact Nat.le_refl _,by omega,H4.out.2.2.2.2⟩
  case round =>
    obtain ⟨k,r,v,rfl,hN,hp,hj,hrl,hkl,hf⟩:=hrel
    have HV:=Lib.hid (And.intro hN (And.intro hp (And.intro hj (And.intro hrl (And.intro hkl hf)))))
    obtain ⟨a,c,rfl⟩:=hN.2.2.1.shape
    have c0:wr.cell? ⟨w2.heap.size,0,none⟩=some (.slice a r.length c):=(hN.1.cell 0).trans hN.2.1
    have hlen0:lenAt wr w2.heap.size=r.length:=by unfold lenAt;rw [c0]
    have HL0:=Lib.hid hlen0
    have hk0:(0:Int)≤k:=by have:=hj.1;omega
    have hk1:k≤100000:=by have:=HN.out;omega
    cases r with
    | nil =>
      clear hN hp hj hrl hkl hf hlen0
      go_wp2_with fail
      refine (numLen_any _ _ _ _).mono ?_
      rintro e w5 ⟨rfl,rfl⟩
      go_wp2
      go_ret
      exact ⟨k,rfl,HV.out.2.2.1.done,HV.out.2.2.2.2.2⟩
    | cons y r =>
      have HPO:=Lib.hid (HHP.out _ _ wr hN (by simp) (by have:=HN.out;simp at hrl ⊢;omega) hp)
      have hpos:(0:Int)<((y :: r).length:Int):=by rw [List.length_cons];omega
      clear hN hp hj hrl hkl hf hlen0
      obtain ⟨R,hR⟩:∃ R,y :: r=R:=⟨_,rfl⟩
      rw [hR] at HPO HV HL0 c0 hpos
      clear hR
      obtain ⟨m,hm⟩:∃ m,R.length=m:=⟨_,rfl⟩
      have HM:=Lib.hid hm
      rw [hm] at c0 hpos
      obtain ⟨x,hx⟩:∃ x,R.getD 0 0=x:=⟨_,rfl⟩
      have HX:=Lib.hid hx
      unfold PopPost at HPO
      rw [hx,hm] at HPO
      clear hx hm
      go_wp2_with fail
      refine (numLen_any _ _ _ _).mono ?_
      rintro e w5 ⟨rfl,rfl⟩
      go_wp2_with fail
      refine HPO.out.mono ?_
      rintro e w5 ⟨r',rfl,hpm,hhp,v',hn5,hob,hu5⟩
      have hmin:∀ z ∈ R,x≤z:=fun z hz=>by rw [← HX.out];exact hp_min HV.out.2.1 z hz
      have h5:Hid (NumsAt w5 (fun g=>w.heap.size≤g) w2.heap.size 266 #[v'] 0 v' r'∧Fresh w w5∧r'.length+1=R.length∧lenAt w5 w2.heap.size=r'.length):=Lib.hid (by
        have hz:=HV.out.2.2.2.2.2.size
        have hF:Fresh w w5:=HV.out.2.2.2.2.2.mut2 hu5 (fun j hj=>by
          rcases hj with e | e
          · rw [e];exact hwl
          · exact HV.out.1.2.2.1.2 j (by rw [HM.out];exact e))
        have hn:NumsAt w5 (fun g=>w.heap.size≤g) w2.heap.size 266 #[v'] 0 v' r':=⟨hn5.1,hn5.2.1,OwnA.mono hn5.2.2.1 (fun g _ hg=>hg.elim id (fun q=>by omega)),hn5.2.2.2⟩
        obtain ⟨a',c',rfl⟩:=hn.2.2.1.shape
        refine ⟨hn,hF,by have:=hpm.length_eq;simpa using this,?_⟩
        unfold lenAt
        rw [(hn.1.cell 0).trans hn.2.1])
      have HPM:=Lib.hid (And.intro hpm (And.intro hhp hmin))
      clear hpm hhp hn5 hob hu5 hmin c0
      by_cases hxk:x=k
      · subst hxk
        go_wp2
        go_roundw
        case rel=>exact ⟨x+1,r',v',by go_num,h5.out.1,HPM.out.2.1,HV.out.2.2.1.hit HPM.out.1 HPM.out.2.2,by have:=h5.out.2.2.1;have:=HV.out.2.2.2.1;omega,(HV.out.2.2.1.hit HPM.out.1 HPM.out.2.2).le,h5.out.2.1⟩
        case measure=>rw [h5.out.2.2.2,HL0.out];have:=h5.out.2.2.1;omega
      · have hxb:(x == k)=false:=by simpa using hxk
        have HXK:=Lib.hid hxk
        clear hxk
        go_wp2
        go_roundw
        case rel=>exact ⟨k,r',v',rfl,h5.out.1,HPM.out.2.1,HV.out.2.2.1.miss HPM.out.1 HPM.out.2.2 HXK.out,by have:=h5.out.2.2.1;have:=HV.out.2.2.2.1;omega,HV.out.2.2.2.2.1,h5.out.2.1⟩
        case measure=>rw [h5.out.2.2.2,HL0.out];have:=h5.out.2.2.1;omega
theorem free_any (A:Nat→Prop) (v:Value) (l:List Int) (w:World) (h:OwnI w A v l) (hl:l.length≤10000):Calls Tryz.prog 133 #[v] w (FreePost l w):=by
  rcases Nat.eq_zero_or_pos l.length with q | q
  · obtain ⟨a,c,rfl⟩:=h.shape
    obtain rfl:l=[]:=List.eq_nil_of_length_eq_zero q
    exact free_none a c w
  · exact free_some A v l w h q hl
open Go.RowKit
attribute [local go_sem ↓] Go.wp_at_zero Go.wp_at_succ
set_option maxRecDepth 100000 in
set_option maxHeartbeats 1600000 in
theorem of_long (enc:Int) (e:Ent) (hs:e.name.size≤10000) (he:1≤e.short∧e.short≤99):OfOK enc e:=fun w hGT=>by
  obtain ⟨name,node,dir,cookie,short⟩:=e
  simp only at he hs
  obtain ⟨i,rfl⟩:=Int.eq_ofNat_of_zero_le (show 0≤short by omega)
  obtain ⟨u,hu⟩:=Int.eq_ofNat_of_zero_le (hash_pos name)
  have hu2:u<4294967296:=by have:=(hashU_range name name.size).2;rw [hashU_all,hu] at this;omega
  have HH:=Lib.hid (fun W=>hash_any name (by omega) W)
  rw [hu] at HH
  have HN:=Lib.hid (fun W hW=>sname_any u i hu2 (by omega) W hW)
  unfold HashPost at HH
  unfold NamePost at HN
  have HFC:Hid (faceS enc ⟨name,node,dir,cookie,i⟩=nameS (u:Int) (i:Int)):=Lib.hid (by unfold faceS;rw [if_neg (by simp only;omega)];simp only;rw [hu])
  rw [HFC.out]
  obtain ⟨X,hX⟩:∃ X,nameS (u:Int) (i:Int)=X:=⟨_,rfl⟩
  rw [hX] at HN ⊢
  have hi0:((i:Int) == 0)=false:=by simp;omega
  have hi1:(i == 0)=false:=by simp;omega
  obtain ⟨W1,hW1⟩:∃ W1,w.alloc (.cells #[.string name,.int .i64 node,.bool dir,.int .i64 cookie,.int .i64 i] 88)=W1:=⟨_,rfl⟩
  have f1:Fresh w W1:=by rw [← hW1];exact (Fresh.refl _).alloc _
  have b1:Blk W1 w.heap.size 88 #[.string name,.int .i64 node,.bool dir,.int .i64 cookie,.int .i64 i]:=by rw [← hW1];exact Blk.new _ _ _
  have HS:Hid (∀ W,Fresh W1 W→W.cell? ⟨w.heap.size,0,none⟩=some (.string name)∧W.cell? ⟨w.heap.size,4,none⟩=some (.int .i64 i)):=Lib.hid (fun W hW=>⟨(b1.keep hW).cell 0,(b1.keep hW).cell 4⟩)
  have HF1:=Lib.hid f1
  have HG:=Lib.hid hGT
  obtain ⟨c0,c4⟩:=HS.out W1 (Fresh.refl _)
  clear hX HFC hu f1 b1 hGT he
  unfold entV
  simp only
  go_enter Tryz.func39,Tryz.ntmps39
  go_wp2_with fail
  try rw [hW1]
  clear hW1
  go_region_held3 (fun W=>W.cell? ⟨w.heap.size,0,none⟩=some (.string name)∧W.cell? ⟨w.heap.size,4,none⟩=some (.int .i64 i)) (first | go_keep | exact HS.out _ (by repeat (first | assumption | exact Fresh.refl _ | refine Fresh.alloc ?_ _ | refine Fresh.drew ?_))) (first
    | (go_at_call 86;refine (HH.out _).mono ?_;rintro e w2 ⟨rfl,hf2⟩;have hf3:Fresh W1 w2:=Fresh.trans (by repeat (first | exact Fresh.refl _ | refine Fresh.drew ?_)) hf2;clear hf2)
    | (go_at_call 85;refine (HN.out _ (HG.out.fresh (HF1.out.trans hf3))).mono ?_;rintro e w4 ⟨rfl,hf4⟩;have HF4:Hid (Fresh w w4):=Lib.hid ((HF1.out.trans hf3).trans hf4);have hf5:Fresh W1 w4:=hf3.trans hf4;clear hf4))
  all_goals
    go_wp2
    go_ret
    exact ⟨rfl,HF4.out⟩
theorem of_any (enc:Int) (e:Ent) (h0:0≤enc) (h8:enc≤8) (hs:e.name.size≤10000) (he:0≤e.short∧e.short≤99):OfOK enc e:=by
  by_cases h:e.short=0
  · exact of_short enc e h0 h8 hs h
  · exact of_long enc e hs (by omega)
end Go.Proofs.YtpmlggjhfiljmaaGreatDoor
