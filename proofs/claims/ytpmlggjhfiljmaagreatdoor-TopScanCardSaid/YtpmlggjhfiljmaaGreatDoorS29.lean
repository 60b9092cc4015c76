/- Part 29 of what the law rests on. -/
import Derived.Test.YtpmlggjhfiljmaaGreatDoorS03
import Derived.Test.YtpmlggjhfiljmaaGreatDoorS08
import Derived.Test.YtpmlggjhfiljmaaGreatDoorS09
import Derived.Test.YtpmlggjhfiljmaaGreatDoorS28
set_option linter.all false
namespace Go.Proofs.YtpmlggjhfiljmaaGreatDoor
open Go.RowKit
theorem OwnA.set {w:World} {A:Nat→Prop} {e:TypeId} {sz:Nat} {v:Value} {n:Nat} {xs:List Value} (h:OwnA w A e sz v n xs) {g:Nat} (hv:v.ownBlock=some g) {j:Nat} (hj:j<n * sz) (u:Value):OwnA (w.setCell ⟨g,j,none⟩ u) A e sz v n (xs.set j u):=by
  obtain ⟨⟨h1,⟨rfl,_⟩ | ⟨g',cap,cur,rfl,hb,hh,h2,h3,h4,h5⟩⟩,hA⟩:=h
  · cases hv
  · injection hv with hv
    subst hv
    refine ⟨⟨by rw [List.length_set];exact h1,.inr ⟨g',cap,cur.setIfInBounds j u,rfl,hb,Blk.set (show Blk w g' e cur from hh),h2,h3,by simpa using h4,?_⟩⟩,hA⟩
    rw [Array.toList_setIfInBounds,List.take_set,h5]
theorem ints_set (l:List Int) (j:Nat) (x:Int):(ints l).set j (.int .i64 x)=ints (l.set j x):=by unfold ints;rw [List.map_set]
def OwnI (w:World) (A:Nat→Prop) (v:Value) (l:List Int):Prop:=OwnA w A 3 1 v l.length (ints l)
theorem OwnI.cells {w:World} {A:Nat→Prop} {v:Value} {l:List Int} (h:OwnI w A v l) (hl:1≤l.length):∃ g c,v=.slice (some ⟨g,0,none⟩) l.length c∧A g∧g<w.heap.size∧∀ j,j<l.length→w.cell? ⟨g,j,none⟩=some (.int .i64 (l.getD j 0))∧w.frozen? ⟨g,j,none⟩=false:=by
  have h0:=h
  obtain ⟨⟨h1,⟨rfl,h2⟩ | ⟨g,cap,cur,rfl,hb,hh,h2,h3,h4,h5⟩⟩,hA⟩:=h
  · omega
  · refine ⟨g,cap,rfl,hA g rfl,(show Blk w g 3 cur from hh).lt,fun j hj=>⟨?_,(show Blk w g 3 cur from hh).frozen j⟩⟩
    have hz:=h0.1.cells (g:=g) rfl j (.int .i64 (l.getD j 0)) ?_
    · rw [Addr.add_lit,Nat.zero_add] at hz;exact hz
    unfold ints
    rw [List.getElem?_map,List.getElem?_eq_getElem hj,List.getD_eq_getElem?_getD,List.getElem?_eq_getElem hj]
    rfl
theorem OwnI.sw {w:World} {A:Nat→Prop} {g c:Nat} {l:List Int} (h:OwnI w A (.slice (some ⟨g,0,none⟩) l.length c) l) {i j:Nat} (hi:i<l.length) (hj:j<l.length) :
    OwnI ((w.setCell ⟨g,i,none⟩ (.int .i64 (l.getD j 0))).setCell ⟨g,j,none⟩ (.int .i64 (l.getD i 0))) A (.slice (some ⟨g,0,none⟩) l.length c) (sw l i j):=by
  unfold OwnI at *
  unfold Go.Proofs.YtpmlggjhfiljmaaGreatDoor.sw
  rw [List.length_set,List.length_set,← ints_set,← ints_set]
  exact (OwnA.set h (g:=g) rfl (by omega) _).set (g:=g) rfl (by omega) _
set_option maxRecDepth 100000 in
theorem islLess_any (g n c i j:Nat) (x y:Int) (w:World) (hi:i<n) (hj:j<n) (hn:n≤1000000) (ci:w.cell? ⟨g,i,none⟩=some (.int .i64 x)) (cj:w.cell? ⟨g,j,none⟩=some (.int .i64 y)) :
    Calls Tryz.prog 431 #[.slice (some ⟨g,0,none⟩) n c,.int .i64 i,.int .i64 j] w fun e w'=>e=.returned (.bool (decide (x<y)))∧Fresh w w':=by
  have i0:(0:Int)≤(i:Int):=by omega
  have i1:(i:Int)<(n:Int):=by omega
  have j0:(0:Int)≤(j:Int):=by omega
  have j1:(j:Int)<(n:Int):=by omega
  go_enter Tryz.func431,Tryz.ntmps431
  go_wp2_with fail
  go_quiet (fail)
  all_goals
    go_wp2
    go_ret
    exact ⟨rfl,(Fresh.refl _).drewN _⟩
set_option maxRecDepth 100000 in
set_option maxHeartbeats 1600000 in
theorem islSwap_any (A:Nat→Prop) (g c i j:Nat) (l:List Int) (w:World) (h:OwnI w A (.slice (some ⟨g,0,none⟩) l.length c) l) (hi:i<l.length) (hj:j<l.length) (hij:i ≠ j) (hn:l.length≤1000000) :
    Calls Tryz.prog 433 #[.slice (some ⟨g,0,none⟩) l.length c,.int .i64 i,.int .i64 j] w fun e w'=>e=.returned (.tuple #[])∧OwnI w' A (.slice (some ⟨g,0,none⟩) l.length c) (sw l i j)∧Mut (fun k=>k=g) w w':=by
  have H:=Lib.hid (h.sw hi hj)
  obtain ⟨g',c',hv,hA,hg,hcl⟩:=h.cells (by omega)
  injection hv with hv1 _ hv2
  injection hv1 with hv1
  injection hv1 with hv1
  subst hv1 hv2
  obtain ⟨ci,fi⟩:=hcl i hi
  obtain ⟨cj,fj⟩:=hcl j hj
  obtain ⟨x,hx⟩:∃ x,l.getD i 0=x:=⟨_,rfl⟩
  obtain ⟨y,hy⟩:∃ y,l.getD j 0=y:=⟨_,rfl⟩
  rw [hx] at ci H
  rw [hy] at cj H
  obtain ⟨n,hn2⟩:∃ n,l.length=n:=⟨_,rfl⟩
  rw [hn2] at hi hj hn H ⊢
  have i0:(0:Int)≤(i:Int):=by omega
  have i1:(i:Int)<(n:Int):=by omega
  have j0:(0:Int)≤(j:Int):=by omega
  have j1:(j:Int)<(n:Int):=by omega
  clear hcl hx hy hn2 h
  go_enter Tryz.func433,Tryz.ntmps433
  go_wp2_with fail
  go_region
  all_goals
    go_wp2
    go_end0
    exact ⟨rfl,OwnA.fresh H.out ((Fresh.refl _).drew),(((Mut.refl (fun k=>k=g) w).setCell (p:=⟨g,i,none⟩) (.inl rfl) _).setCell (p:=⟨g,j,none⟩) (.inl rfl) _).drew⟩
set_option maxRecDepth 100000 in
set_option maxHeartbeats 1600000 in
theorem islSwap_self (A:Nat→Prop) (g c i:Nat) (l:List Int) (w:World) (h:OwnI w A (.slice (some ⟨g,0,none⟩) l.length c) l) (hi:i<l.length) (hn:l.length≤1000000) :
    Calls Tryz.prog 433 #[.slice (some ⟨g,0,none⟩) l.length c,.int .i64 i,.int .i64 i] w fun e w'=>e=.returned (.tuple #[])∧OwnI w' A (.slice (some ⟨g,0,none⟩) l.length c) (sw l i i)∧Mut (fun k=>k=g) w w':=by
  have H:=Lib.hid (h.sw hi hi)
  obtain ⟨g',c',hv,hA,hg,hcl⟩:=h.cells (by omega)
  injection hv with hv1 _ hv2
  injection hv1 with hv1
  injection hv1 with hv1
  subst hv1 hv2
  obtain ⟨ci,fi⟩:=hcl i hi
  obtain ⟨x,hx⟩:∃ x,l.getD i 0=x:=⟨_,rfl⟩
  rw [hx] at ci H
  obtain ⟨n,hn2⟩:∃ n,l.length=n:=⟨_,rfl⟩
  rw [hn2] at hi hn H ⊢
  have i0:(0:Int)≤(i:Int):=by omega
  have i1:(i:Int)<(n:Int):=by omega
  clear hcl hx hn2 h
  go_enter Tryz.func433,Tryz.ntmps433
  go_wp2_with fail
  go_region
  all_goals
    go_wp2
    go_end0
    exact ⟨rfl,OwnA.fresh H.out ((Fresh.refl _).drew),(((Mut.refl (fun k=>k=g) w).setCell (p:=⟨g,i,none⟩) (.inl rfl) _).setCell (p:=⟨g,i,none⟩) (.inl rfl) _).drew⟩
theorem islSwap_all (A:Nat→Prop) (g c i j:Nat) (l:List Int) (w:World) (h:OwnI w A (.slice (some ⟨g,0,none⟩) l.length c) l) (hi:i<l.length) (hj:j<l.length) (hn:l.length≤1000000) :
    Calls Tryz.prog 433 #[.slice (some ⟨g,0,none⟩) l.length c,.int .i64 i,.int .i64 j] w fun e w'=>e=.returned (.tuple #[])∧OwnI w' A (.slice (some ⟨g,0,none⟩) l.length c) (sw l i j)∧Mut (fun k=>k=g) w w':=by
  by_cases e:i=j
  · subst e;exact islSwap_self A g c i l w h hi hn
  · exact islSwap_any A g c i j l w h hi hj e hn
open Go.RowKit
structure HeapI (ty:TypeId) (fLen fLess fSwap:FuncId):Prop where
  eLen:∀ (args:Array Value) (W:World),Sem.run Tryz.prog (callFunc fLen args) W=.ok (.enter fLen args) W
  eLess:∀ (args:Array Value) (W:World),Sem.run Tryz.prog (callFunc fLess args) W=.ok (.enter fLess args) W
  eSwap:∀ (args:Array Value) (W:World),Sem.run Tryz.prog (callFunc fSwap args) W=.ok (.enter fSwap args) W
  mLen:∀ (b o:Nat) (v:Value) (W:World),W.cell? ⟨b,o,none⟩=some v→Sem.run Tryz.prog (method 591 ty (.pointer (some ⟨b,o,none⟩)) "Len") W=.ok (fLen,v) W
  mLess:∀ (b o:Nat) (v:Value) (W:World),W.cell? ⟨b,o,none⟩=some v→Sem.run Tryz.prog (method 591 ty (.pointer (some ⟨b,o,none⟩)) "Less") W=.ok (fLess,v) W
  mSwap:∀ (b o:Nat) (v:Value) (W:World),W.cell? ⟨b,o,none⟩=some v→Sem.run Tryz.prog (method 591 ty (.pointer (some ⟨b,o,none⟩)) "Swap") W=.ok (fSwap,v) W
  len:∀ (a:Option Addr) (n c:Nat) (w:World),Calls Tryz.prog fLen #[.slice a n c] w fun e w'=>e=.returned (.int .i64 n)∧w=w'
  less:∀ (g n c i j:Nat) (x y:Int) (w:World),i<n→j<n→n≤1000000→w.cell? ⟨g,i,none⟩=some (.int .i64 x)→w.cell? ⟨g,j,none⟩=some (.int .i64 y)→Calls Tryz.prog fLess #[.slice (some ⟨g,0,none⟩) n c,.int .i64 i,.int .i64 j] w fun e w'=>e=.returned (.bool (decide (x<y)))∧Fresh w w'
  swap:∀ (A:Nat→Prop) (g c i j:Nat) (l:List Int) (w:World),OwnI w A (.slice (some ⟨g,0,none⟩) l.length c) l→i<l.length→j<l.length→l.length≤1000000→Calls Tryz.prog fSwap #[.slice (some ⟨g,0,none⟩) l.length c,.int .i64 i,.int .i64 j] w fun e w'=>e=.returned (.tuple #[])∧OwnI w' A (.slice (some ⟨g,0,none⟩) l.length c) (sw l i j)∧Mut (fun k=>k=g) w w'
theorem OwnI.fresh {w w':World} {A:Nat→Prop} {v:Value} {l:List Int} (h:OwnI w A v l) (hf:Fresh w w'):OwnI w' A v l:=OwnA.fresh h hf
theorem OwnI.at {w:World} {A:Nat→Prop} {g n c:Nat} {l:List Int} (h:OwnI w A (.slice (some ⟨g,0,none⟩) n c) l) (hl:1≤l.length) {j:Nat} (hj:j<l.length):w.cell? ⟨g,j,none⟩=some (.int .i64 (l.getD j 0)):=by
  obtain ⟨g',c',hv,_,_,hc⟩:=h.cells hl
  injection hv with hv1 _ _
  injection hv1 with hv1
  injection hv1 with hv1
  subst hv1
  exact (hc j hj).1
set_option maxRecDepth 100000 in
set_option maxHeartbeats 3200000 in
theorem down_any {ty:TypeId} {fLen fLess fSwap:FuncId} (HI:HeapI ty fLen fLess fSwap) (A:Nat→Prop) (b o g c:Nat) (l:List Int) (s n:Nat) (w:World) (hc:w.cell? ⟨b,o,none⟩=some (.slice (some ⟨g,0,none⟩) l.length c)) (ho:OwnI w A (.slice (some ⟨g,0,none⟩) l.length c) l) (hgb:g ≠ b) (hbl:b<w.heap.size)
    (hl1:1≤l.length) (hl:l.length≤100000) (hn:n≤l.length) (hs:s≤n) (hp:HpFrom l n (s+1)) :
    Calls Tryz.prog 281 #[.iface ty (.pointer (some ⟨b,o,none⟩)),.int .i64 s,.int .i64 n] w fun e w'=>∃ (r:Bool) (l':List Int),e=.returned (.bool r)∧Downed l l' n s∧OwnI w' A (.slice (some ⟨g,0,none⟩) l.length c) l'∧Mut (fun k=>k=g) w w':=by
  have HH:=Lib.hid HI
  have hel:=HI.eLess
  have hes:=HI.eSwap
  obtain ⟨N,hN⟩:∃ N,l.length=N:=⟨_,rfl⟩
  have HC:Hid (∀ W,Mut (fun k=>k=g) w W→W.cell? ⟨b,o,none⟩=some (.slice (some ⟨g,0,none⟩) N c)):=Lib.hid (fun W hW=>by rw [← hN];exact (hW.cell (p:=⟨b,o,none⟩) hbl (fun e=>hgb e.symm)).trans hc)
  have HST:=Lib.hid (And.intro (DownInv.start (s:=s) hn hp) ho)
  have HN:=Lib.hid hN
  rw [hN] at hl1 hl hn HST ⊢
  clear hc ho hgb hp HI hN
  go_enter Tryz.func281,Tryz.ntmps281
  go_wp2_with fail
  go_loopw [7,8,9,10] (fun i _ _ _ wr=>∃ (k:Nat) (l':List Int),i=.int .i64 k∧k≤n∧DownInv l l' n s k∧OwnI wr A (.slice (some ⟨g,0,none⟩) N c) l'∧Mut (fun k=>k=g) w wr) (fun i _ _ _ _=>n - (intOf i).toNat)
  case atStart=>exact ⟨s,l,rfl,hs,HST.out.1,HST.out.2,Mut.refl _ _⟩
  case round =>
    obtain ⟨k,l',rfl,hk,hinv,ho,hm⟩:=hrel
    have hlen:l'.length=N:=by rw [hinv.perm.length_eq];exact HN.out
    have HL:=Lib.hid hlen
    have HV:=Lib.hid (And.intro hinv (And.intro ho hm))
    clear hlen hinv ho hm
    by_cases h1:n≤2 * k+1
    · have i1:(n:Int)≤2 * (k:Int)+1:=by omega
      go_wp2
      go_ret
      exact ⟨_,l',rfl,HV.out.1.leaf h1,HV.out.2.1,HV.out.2.2⟩
    · have i1 : 2 * (k:Int)+1<(n:Int):=by omega
      have e1:2 * (k:Int)+1=((2 * k+1:Nat):Int):=by omega
      have e2:((2 * k+1:Nat):Int)+1=((2 * k+2:Nat):Int):=by omega
      by_cases h2:2 * k+2<n
      · have i2:2 * (k:Int)+1+1<(n:Int):=by omega
        have hlen:=HL.out
        have hm1:=HH.out.mLess b o _ wr (HC.out wr HV.out.2.2)
        have HLS:=Lib.hid (HH.out.less g N c (2 * k+2) (2 * k+1) _ _ wr (by omega) (by omega) (by omega) (HV.out.2.1.at (by omega) (j:=2 * k+2) (by omega)) (HV.out.2.1.at (by omega) (j:=2 * k+1) (by omega)))
        have E1:=Lib.hid e1
        have E2:=Lib.hid e2
        clear hlen e1 e2
        go_wp2_with fail
        have e1:=E1.out
        have e2:=E2.out
        rw [e1,e2]
        clear e1 e2
        refine HLS.out.mono ?_
        rintro e w2 ⟨rfl,hf2⟩
        clear hm1 HLS
        have e1:=E1.out
        have e2:=E2.out
        clear e1 e2
        by_cases hxy:l'.getD (2 * k+2) 0<l'.getD (2 * k+1) 0
        · rw [decide_eq_true hxy]
          have HMN:Hid (∀ c,1≤c→c<n→(c - 1) / 2=k→l'.getD (2 * k+2) 0≤l'.getD c 0):=Lib.hid (fun c a b d=>by
            rcases (by omega:c=2 * k+1∨c=2 * k+2) with rfl | rfl
            · omega
            · exact Int.le_refl _)
          clear hxy
          have HF:=Lib.hid (hf2)
          have hmW:Mut (fun k=>k=g) w w2:=HV.out.2.2.andFresh HF.out
          have hoW:OwnI w2 A (.slice (some ⟨g,0,none⟩) N c) l':=HV.out.2.1.fresh HF.out
          have HW:=Lib.hid (And.intro hoW hmW)
          have hlen:=HL.out
          have hm2:=HH.out.mLess b o _ w2 (HC.out w2 hmW)
          have HLS:=Lib.hid (HH.out.less g N c (2 * k+2) k _ _ w2 (by omega) (by omega) (by omega) (hoW.at (by omega) (j:=2 * k+2) (by omega)) (hoW.at (by omega) (j:=k) (by omega)))
          clear hmW hoW hlen
          go_wp2_with fail
          skip
          skip
          refine HLS.out.mono ?_
          rintro e w3 ⟨rfl,hf3⟩
          have HF3:=Lib.hid (And.intro (HW.out.1.fresh hf3) (HW.out.2.andFresh hf3))
          clear hf3 hm2 HLS
          by_cases hjk:l'.getD (2 * k+2) 0<l'.getD k 0
          · rw [decide_eq_true hjk]
            have HST2:=Lib.hid (HV.out.1.step (j:=2 * k+2) ⟨by omega,by omega,by omega⟩ HMN.out hjk)
            have hm3:=HH.out.mSwap b o _ w3 (HC.out w3 HF3.out.2)
            have HSW:Hid (Calls Tryz.prog fSwap #[.slice (some ⟨g,0,none⟩) N c,.int .i64 k,.int .i64 ((2 * k+2:Nat):Int)] w3 fun e w'=>e=.returned (.tuple #[])∧OwnI w' A (.slice (some ⟨g,0,none⟩) N c) (sw l' k (2 * k+2))∧Mut (fun k=>k=g) w3 w'):=Lib.hid (by
              have hlen:=HL.out
              have ho3:=HF3.out.1
              rw [← hlen] at ho3 ⊢
              exact HH.out.swap A g c k (2 * k+2) l' w3 ho3 (by omega) (by omega) (by omega))
            clear hjk
            go_wp2_with fail
            skip
            skip
            refine HSW.out.mono ?_
            rintro e w4 ⟨rfl,ho4,hm4⟩
            have HF4:=Lib.hid (And.intro ho4 (HF3.out.2.trans hm4))
            clear ho4 hm4 hm3 HSW
            go_wp2
            go_roundw
            case rel=>exact ⟨2 * k+2,_,rfl,by omega,HST2.out,HF4.out.1,HF4.out.2⟩
            case measure=>simp [intOf];omega
          · rw [decide_eq_false hjk]
            have HSP:=Lib.hid (HV.out.1.stop (j:=2 * k+2) ⟨by omega,by omega,by omega⟩ HMN.out hjk)
            clear hjk
            go_wp2
            go_ret
            exact ⟨_,l',rfl,HSP.out,HF3.out.1,HF3.out.2⟩
        · rw [decide_eq_false hxy]
          have HMN:Hid (∀ c,1≤c→c<n→(c - 1) / 2=k→l'.getD (2 * k+1) 0≤l'.getD c 0):=Lib.hid (fun c a b d=>by
            rcases (by omega:c=2 * k+1∨c=2 * k+2) with rfl | rfl
            · exact Int.le_refl _
            · omega)
          clear hxy
          have HF:=Lib.hid (hf2)
          have hmW:Mut (fun k=>k=g) w w2:=HV.out.2.2.andFresh HF.out
          have hoW:OwnI w2 A (.slice (some ⟨g,0,none⟩) N c) l':=HV.out.2.1.fresh HF.out
          have HW:=Lib.hid (And.intro hoW hmW)
          have hlen:=HL.out
          have hm2:=HH.out.mLess b o _ w2 (HC.out w2 hmW)
          have HLS:=Lib.hid (HH.out.less g N c (2 * k+1) k _ _ w2 (by omega) (by omega) (by omega) (hoW.at (by omega) (j:=2 * k+1) (by omega)) (hoW.at (by omega) (j:=k) (by omega)))
          clear hmW hoW hlen
          go_wp2_with fail
          skip
          skip
          refine HLS.out.mono ?_
          rintro e w3 ⟨rfl,hf3⟩
          have HF3:=Lib.hid (And.intro (HW.out.1.fresh hf3) (HW.out.2.andFresh hf3))
          clear hf3 hm2 HLS
          by_cases hjk:l'.getD (2 * k+1) 0<l'.getD k 0
          · rw [decide_eq_true hjk]
            have HST2:=Lib.hid (HV.out.1.step (j:=2 * k+1) ⟨by omega,by omega,by omega⟩ HMN.out hjk)
            have hm3:=HH.out.mSwap b o _ w3 (HC.out w3 HF3.out.2)
            have HSW:Hid (Calls Tryz.prog fSwap #[.slice (some ⟨g,0,none⟩) N c,.int .i64 k,.int .i64 ((2 * k+1:Nat):Int)] w3 fun e w'=>e=.returned (.tuple #[])∧OwnI w' A (.slice (some ⟨g,0,none⟩) N c) (sw l' k (2 * k+1))∧Mut (fun k=>k=g) w3 w'):=Lib.hid (by
              have hlen:=HL.out
              have ho3:=HF3.out.1
              rw [← hlen] at ho3 ⊢
              exact HH.out.swap A g c k (2 * k+1) l' w3 ho3 (by omega) (by omega) (by omega))
            clear hjk
            go_wp2_with fail
            skip
            skip
            refine HSW.out.mono ?_
            rintro e w4 ⟨rfl,ho4,hm4⟩
            have HF4:=Lib.hid (And.intro ho4 (HF3.out.2.trans hm4))
            clear ho4 hm4 hm3 HSW
            go_wp2
            go_roundw
            case rel=>exact ⟨2 * k+1,_,rfl,by omega,HST2.out,HF4.out.1,HF4.out.2⟩
            case measure=>simp [intOf];omega
          · rw [decide_eq_false hjk]
            have HSP:=Lib.hid (HV.out.1.stop (j:=2 * k+1) ⟨by omega,by omega,by omega⟩ HMN.out hjk)
            clear hjk
            go_wp2
            go_ret
            exact ⟨_,l',rfl,HSP.out,HF3.out.1,HF3.out.2⟩
      · have i2:¬ 2 * (k:Int)+1+1<(n:Int):=by omega
        have HMN:Hid (∀ c,1≤c→c<n→(c - 1) / 2=k→l'.getD (2 * k+1) 0≤l'.getD c 0):=Lib.hid (fun c a b d=>by
          obtain rfl:c=2 * k+1:=by omega
          exact Int.le_refl _)
        have E1:=Lib.hid e1
        clear e1 e2
        have HF:=Lib.hid (Fresh.refl wr)
        have hmW:Mut (fun k=>k=g) w wr:=HV.out.2.2.andFresh HF.out
        have hoW:OwnI wr A (.slice (some ⟨g,0,none⟩) N c) l':=HV.out.2.1.fresh HF.out
        have HW:=Lib.hid (And.intro hoW hmW)
        have hlen:=HL.out
        have hm2:=HH.out.mLess b o _ wr (HC.out wr hmW)
        have HLS:=Lib.hid (HH.out.less g N c (2 * k+1) k _ _ wr (by omega) (by omega) (by omega) (hoW.at (by omega) (j:=2 * k+1) (by omega)) (hoW.at (by omega) (j:=k) (by omega)))
        clear hmW hoW hlen
        go_wp2_with fail
        skip
        skip
        refine HLS.out.mono ?_
        rintro e w3 ⟨rfl,hf3⟩
        have HF3:=Lib.hid (And.intro (HW.out.1.fresh hf3) (HW.out.2.andFresh hf3))
        clear hf3 hm2 HLS
        by_cases hjk:l'.getD (2 * k+1) 0<l'.getD k 0
        · rw [decide_eq_true hjk]
          have HST2:=Lib.hid (HV.out.1.step (j:=2 * k+1) ⟨by omega,by omega,by omega⟩ HMN.out hjk)
          have hm3:=HH.out.mSwap b o _ w3 (HC.out w3 HF3.out.2)
          have HSW:Hid (Calls Tryz.prog fSwap #[.slice (some ⟨g,0,none⟩) N c,.int .i64 k,.int .i64 ((2 * k+1:Nat):Int)] w3 fun e w'=>e=.returned (.tuple #[])∧OwnI w' A (.slice (some ⟨g,0,none⟩) N c) (sw l' k (2 * k+1))∧Mut (fun k=>k=g) w3 w'):=Lib.hid (by
            have hlen:=HL.out
            have ho3:=HF3.out.1
            rw [← hlen] at ho3 ⊢
            exact HH.out.swap A g c k (2 * k+1) l' w3 ho3 (by omega) (by omega) (by omega))
          clear hjk
          go_wp2_with fail
          skip
          skip
          refine HSW.out.mono ?_
          rintro e w4 ⟨rfl,ho4,hm4⟩
          have HF4:=Lib.hid (And.intro ho4 (HF3.out.2.trans hm4))
          clear ho4 hm4 hm3 HSW
          go_wp2
          go_roundw
          case rel=>exact ⟨2 * k+1,_,rfl,by omega,HST2.out,HF4.out.1,HF4.out.2⟩
          case measure=>simp [intOf];omega
        · rw [decide_eq_false hjk]
          have HSP:=Lib.hid (HV.out.1.stop (j:=2 * k+1) ⟨by omega,by omega,by omega⟩ HMN.out hjk)
          clear hjk
          go_wp2
          go_ret
          exact ⟨_,l',rfl,HSP.out,HF3.out.1,HF3.out.2⟩
open Go.RowKit
set_option maxRecDepth 100000 in
set_option maxHeartbeats 3200000 in
theorem up_any {ty:TypeId} {fLen fLess fSwap:FuncId} (HI:HeapI ty fLen fLess fSwap) (A:Nat→Prop) (b o g c:Nat) (l:List Int) (w:World) (hc:w.cell? ⟨b,o,none⟩=some (.slice (some ⟨g,0,none⟩) l.length c)) (ho:OwnI w A (.slice (some ⟨g,0,none⟩) l.length c) l) (hgb:g ≠ b) (hbl:b<w.heap.size)
    (hl1:1≤l.length) (hl:l.length≤100000) (hp:HpFrom l (l.length - 1) 0) :
    Calls Tryz.prog 401 #[.iface ty (.pointer (some ⟨b,o,none⟩)),.int .i64 ((l.length - 1:Nat):Int)] w fun e w'=>∃ (l':List Int),e=.returned (.tuple #[])∧l'.Perm l∧Hp l'∧OwnI w' A (.slice (some ⟨g,0,none⟩) l.length c) l'∧Mut (fun k=>k=g) w w':=by
  have HH:=Lib.hid HI
  have hel:=HI.eLess
  have hes:=HI.eSwap
  obtain ⟨N,hN⟩:∃ N,l.length=N:=⟨_,rfl⟩
  have HC:Hid (∀ W,Mut (fun k=>k=g) w W→W.cell? ⟨b,o,none⟩=some (.slice (some ⟨g,0,none⟩) N c)):=Lib.hid (fun W hW=>by rw [← hN];exact (hW.cell (p:=⟨b,o,none⟩) hbl (fun e=>hgb e.symm)).trans hc)
  have HST:=Lib.hid (And.intro (UpInv.start hp hl1) ho)
  have HN:=Lib.hid hN
  rw [hN] at hl1 hl HST ⊢
  clear hc ho hgb hp HI hN
  go_enter Tryz.func401,Tryz.ntmps401
  go_wp2_with fail
  go_loopw [1,4] (fun j _ wr=>∃ (k:Nat) (l':List Int),j=.int .i64 k∧UpInv l l' k∧OwnI wr A (.slice (some ⟨g,0,none⟩) N c) l'∧Mut (fun k=>k=g) w wr) (fun j _ _=>(intOf j).toNat)
  case atStart=>exact ⟨N - 1,l,rfl,HST.out.1,HST.out.2,Mut.refl _ _⟩
  case round =>
    obtain ⟨k,l',rfl,hinv,ho,hm⟩:=hrel
    have hlen:l'.length=N:=by rw [hinv.perm.length_eq];exact HN.out
    have hkN:k<N:=by have:=hinv.lt;omega
    have HL:=Lib.hid hlen
    have HV:=Lib.hid (And.intro hinv (And.intro ho hm))
    clear hlen hinv ho hm
    by_cases h0:k=0
    · subst h0
      have HP:=Lib.hid (HV.out.1.stop (.inl rfl))
      go_wp2
      go_end0
      exact ⟨l',rfl,HV.out.1.perm,HP.out,HV.out.2.1,HV.out.2.2⟩
    · have i0:(1:Int)≤(k:Int):=by omega
      have i1:(k:Int)≤100000:=by omega
      have E1:Hid (((k:Int) - 1) / 2=(((k - 1) / 2:Nat):Int)):=Lib.hid (by omega)
      have hneb:(((k:Int) - 1) / 2 == (k:Int))=false:=by rw [beq_eq_false_iff_ne];omega
      have hq:(k - 1) / 2<N:=by omega
      have hne:¬ (k - 1) / 2=k:=by omega
      have hlen:=HL.out
      have hm2:=HH.out.mLess b o _ wr (HC.out wr HV.out.2.2)
      have HLS:=Lib.hid (HH.out.less g N c k ((k - 1) / 2) _ _ wr (by omega) (by omega) (by omega) (HV.out.2.1.at (by omega) (j:=k) (by omega)) (HV.out.2.1.at (by omega) (j:=(k - 1) / 2) (by omega)))
      clear hlen
      go_wp2_with fail
      rw [E1.out]
      refine HLS.out.mono ?_
      rintro e w3 ⟨rfl,hf3⟩
      have HF3:=Lib.hid (And.intro (HV.out.2.1.fresh hf3) (HV.out.2.2.andFresh hf3))
      clear hf3 hm2 HLS
      by_cases hjk:l'.getD k 0<l'.getD ((k - 1) / 2) 0
      · rw [decide_eq_true hjk]
        have HST2:=Lib.hid (HV.out.1.step (by omega) hjk)
        have hm3:=HH.out.mSwap b o _ w3 (HC.out w3 HF3.out.2)
        have HSW:Hid (Calls Tryz.prog fSwap #[.slice (some ⟨g,0,none⟩) N c,.int .i64 (((k - 1) / 2:Nat):Int),.int .i64 k] w3 fun e w'=>e=.returned (.tuple #[])∧OwnI w' A (.slice (some ⟨g,0,none⟩) N c) (sw l' ((k - 1) / 2) k)∧Mut (fun k=>k=g) w3 w'):=Lib.hid (by
          have hlen:=HL.out
          have ho3:=HF3.out.1
          rw [← hlen] at ho3 ⊢
          exact HH.out.swap A g c ((k - 1) / 2) k l' w3 ho3 (by omega) (by omega) (by omega))
        clear hjk
        go_wp2_with fail
        refine HSW.out.mono ?_
        rintro e w4 ⟨rfl,ho4,hm4⟩
        have HF4:=Lib.hid (And.intro ho4 (HF3.out.2.trans hm4))
        clear ho4 hm4 hm3 HSW
        go_wp2
        go_roundw
        case rel=>exact ⟨(k - 1) / 2,_,rfl,HST2.out,HF4.out.1,HF4.out.2⟩
        case measure=>simp [intOf];omega
      · rw [decide_eq_false hjk]
        have HSP:=Lib.hid (HV.out.1.stop (.inr hjk))
        clear hjk
        go_wp2
        go_end0
        exact ⟨l',rfl,HV.out.1.perm,HSP.out,HF3.out.1,HF3.out.2⟩
open Go.RowKit
theorem method_run {P:Program} {K:Nat} {t:TypeId} {v:Value} {name:String} {W:World} {ti:TypeInfo} {m:Method} (h1:P.info? t=some ti) (h2:ti.methods.find? (·.name == name)=some m) {xt:TypeId} {x:Place} (h3:Sem.run P (follow m.path.toList t (.val v)) W=.ok (xt,x) W) {f:FuncId} {pr:Bool} (h4:m.func=some (f,pr)) :
    Sem.run P (method (K+1) t v name) W=(Sem.run P (receiverAt xt x pr (if m.path.isEmpty then some ((name.splitOn ".").getLastD name) else none)) W).andThen fun r w'=>.ok (f,r) w':=by
  rw [method]
  simp [typeInfo,h1,h2,h3,h4]
theorem info_method {i:Option TypeInfo} {nm:String} {p:Array FieldStep × Option (FuncId × Bool)} (h:(i.bind fun ti=>(ti.methods.find? (·.name == nm)).map fun m=>(m.path,m.func))=some p):∃ ti m,i=some ti∧ti.methods.find? (·.name == nm)=some m∧m.path=p.1∧m.func=p.2:=by
  cases i with
  | none=>cases h
  | some ti =>
    simp only [Option.bind_some,Option.map_eq_some_iff] at h
    obtain ⟨m,hm,rfl⟩:=h
    exact ⟨ti,m,rfl,hm,rfl,rfl⟩
theorem back_follow (b o:Nat) (W:World):Sem.run Tryz.prog (follow [⟨360,0,true⟩] 460 (.val (.pointer (some ⟨b,o,none⟩)))) W=.ok (358,.var ⟨b,o,none⟩) W:=by kernel_rfl
theorem back_recv (b o:Nat) (v:Value) (W:World) (h:W.cell? ⟨b,o,none⟩=some v):Sem.run Tryz.prog (receiverAt 358 (.var ⟨b,o,none⟩) false none) W=.ok v W:=by
  simp [receiverAt,run_underlying Tryz.underlying358,Place.get,loadVar,isAgg,h]
theorem back_method {nm:String} {f:FuncId} (hi:((Tryz.prog.info? 460).bind fun ti=>(ti.methods.find? (·.name == nm)).map fun m=>(m.path,m.func))=some (#[⟨360,0,true⟩],some (f,false))) (b o:Nat) (v:Value) (W:World) (h:W.cell? ⟨b,o,none⟩=some v) :
    Sem.run Tryz.prog (method 591 460 (.pointer (some ⟨b,o,none⟩)) nm) W=.ok (f,v) W:=by
  obtain ⟨ti,m,h1,h2,h3,h4⟩:=info_method hi
  have h5:=back_follow b o W
  have h6:=method_run (K:=590) (v:=.pointer (some ⟨b,o,none⟩)) (W:=W) h1 h2 (xt:=358) (x:=.var ⟨b,o,none⟩) (by rw [h3];exact h5) h4
  rw [h6,h3]
  show ((Sem.run Tryz.prog (receiverAt 358 (.var ⟨b,o,none⟩) false none) W).andThen _)=_
  rw [back_recv b o v W h]
  rfl
theorem backI:HeapI 460 384 431 433 where
  eLen:=by intro args w;go_simp
  eLess:=by intro args w;go_simp
  eSwap:=by intro args w;go_simp
  mLen:=fun b o v W h=>back_method (by kernel_rfl) b o v W h
  mLess:=fun b o v W h=>back_method (by kernel_rfl) b o v W h
  mSwap:=fun b o v W h=>back_method (by kernel_rfl) b o v W h
  len:=lenIS_any
  less:=fun g n c i j x y w hi hj hn ci cj=>islLess_any g n c i j x y w hi hj hn ci cj
  swap:=fun A g c i j l w h hi hj hn=>islSwap_all A g c i j l w h hi hj hn
open Go.RowKit
def NumsAt (w:World) (A:Nat→Prop) (b:Nat) (t:TypeId) (cs:Array Value) (o:Nat) (v:Value) (l:List Int):Prop:=Blk w b t cs∧cs[o]?=some v∧OwnI w A v l∧v.ownBlock ≠ some b
def NPost (A:Nat→Prop) (b:Nat) (t:TypeId) (cs:Array Value) (o:Nat) (v:Value) (w:World) (l':List Int) (w':World):Prop:=∃ v',NumsAt w' (ext A w w') b t (cs.setIfInBounds o v') o v' l'∧(∀ g,v'.ownBlock=some g→v.ownBlock=some g∨w.heap.size≤g)∧Mut (fun k=>k=b∨v.ownBlock=some k) w w'
theorem set_self {cs:Array Value} {o:Nat} {v:Value} (h:cs[o]?=some v) (v':Value):(cs.setIfInBounds o v')[o]?=some v':=by
  have:o<cs.size:=by
    rcases Nat.lt_or_ge o cs.size with q | q
    · exact q
    · rw [Array.getElem?_eq_none q] at h;cases h
  rw [Array.getElem?_setIfInBounds_self_of_lt this]
theorem OwnI.shape {w:World} {A:Nat→Prop} {v:Value} {l:List Int} (h:OwnI w A v l):∃ a c,v=.slice a l.length c:=OwnA.shape h
set_option maxRecDepth 100000 in
set_option maxHeartbeats 1600000 in
theorem bpush_any (A:Nat→Prop) (b:Nat) (t:TypeId) (cs:Array Value) (o:Nat) (v:Value) (l:List Int) (n:Int) (w:World) (h:NumsAt w A b t cs o v l) (hl:l.length≤100000) :
    Calls Tryz.prog 435 #[.pointer (some ⟨b,o,none⟩),.iface 3 (.int .i64 n)] w fun e w'=>e=.returned (.tuple #[])∧NPost A b t cs o v w (l++[n]) w':=by
  obtain ⟨hb,hcs,ho,hvb⟩:=h
  have hbl:=hb.lt
  have hc:w.cell? ⟨b,o,none⟩=some v:=(hb.cell o).trans hcs
  have hf:w.frozen? ⟨b,o,none⟩=false:=hb.frozen o
  have HB:=Lib.hid (And.intro hb hcs)
  clear hb hcs
  obtain ⟨i0,hi0,hz0,hz1,hz2⟩:=info_partsG infoInt
  have HO:=Lib.hid ho
  obtain ⟨a,c,rfl⟩:=ho.shape
  have hO:=ho.1
  have hta:∀ W,Sem.run Tryz.prog (Instr.typeAssert (.iface 3 (.int .i64 n)) 20 3 false) W=.ok (.int .i64 n) W:=fun W=>by kernel_rfl
  clear ho
  go_enter Tryz.func435,Tryz.ntmps435
  go_wp2_with fail
  go_region_law (refine step_append_new rfl (.tmp 8) (.tmp 11) 358 rfl w 0 3 i0 _ 1 8 Tryz.underlying358 hi0 hz0 hz1 hz2 rfl (by decide) (.slice a l.length c) _ _ hO 1 [.int .i64 n] rfl (by intro u hu;simp at hu;subst hu;rfl) (by unfold maxLen;omega) (by omega) (Nat.zero_le _) (by simp [Act.eval,Act.put]) (by simp [Act.eval,Act.put]) (by repeat (first | exact Fresh.refl _ | refine Fresh.drew ?_)) ?_;intro v' w' hown' hgrow hblk;obtain ⟨a2,c2,rfl⟩:=OwnA.shape (A:=fun _=>True) ⟨hown',fun _ _=>trivial⟩;have hmu:Mut (fun k=>(Value.slice a l.length c).ownBlock=some k) w w':=Mut.grown (by repeat (first | exact Mut.refl _ _ | refine Mut.drew ?_ | refine Mut.alloc ?_ _)) hgrow (fun j hj=>.inl hj);have d2:w'.cell? ⟨b,o,none⟩=some (.slice a l.length c):=(hmu.cell (p:=⟨b,o,none⟩) hbl hvb).trans hc;have f2:w'.frozen? ⟨b,o,none⟩=false:=(hmu.frozen (p:=⟨b,o,none⟩) hbl hvb).trans hf;have HW:=Lib.hid (And.intro hown' (And.intro hmu hblk));clear hown' hgrow hblk hmu)
  all_goals
    go_wp2
    go_end0
    obtain ⟨hown,hmu,hblk⟩:=HW.out
    have hv':(Value.slice a2 (l.length+1) c2).ownBlock ≠ some b:=fun e=>by
      rcases hblk b e with q | q
      · exact hvb q
      · omega
    have z:=hmu.size
    have u3:Mut (fun k=>k=b) w' (w'.setCell ⟨b,o,none⟩ (.slice a2 (l.length+1) c2)):=(Mut.refl (fun k=>k=b) w').setCell (p:=⟨b,o,none⟩) (.inl rfl) _
    have z3:=u3.size
    have hoA:OwnA w' (ext A w w') 3 1 (.slice a2 (l.length+1) c2) (l.length+1) (ints l++[.int .i64 n]):=⟨hown,fun g hg=>by
      rcases hblk g hg with q | q
      · exact .inl (HO.out.2 g q)
      · exact .inr ⟨by omega,(World.ownsRow.lt hown g hg).2⟩⟩
    have hbl':b<w'.heap.size:=by omega
    refine ⟨rfl,.slice a2 (l.length+1) c2,⟨(HB.out.1.mut hmu hvb).set,set_self HB.out.2 _,?_,hv'⟩,fun g hg=>(hblk g hg).imp id (fun q=>by omega),(hmu.mono (fun j _ h=>.inr h)).trans2 u3 (fun _ h=>h) (fun j _ e=>.inl e)⟩
    have e1:(l++[n]).length=l.length+1:=by simp
    have e2:ints (l++[n])=ints l++[.int .i64 n]:=by simp [ints]
    unfold OwnI
    rw [e1,e2]
    exact OwnA.mono (OwnA.mutB hoA u3 (fun g hg e=>hv' (by rw [hg,e]))) (fun g _ hg=>hg.imp id fun q=>⟨q.1,Nat.lt_of_lt_of_le q.2 z3⟩)
open Go.RowKit
theorem OwnI.shrink {w:World} {A:Nat→Prop} {g c:Nat} {l:List Int} (h:OwnI w A (.slice (some ⟨g,0,none⟩) l.length c) l) {m:Nat} (hm:m≤l.length):OwnI w A (.slice (some ⟨g,0,none⟩) m c) (l.take m):=by
  obtain ⟨⟨h1,⟨h2,_⟩ | ⟨g',cap,cur,hv,hb,hh,q1,q2,q3,q4⟩⟩,hA⟩:=h
  · cases h2
  · injection hv with hv1 hv2 hv3
    injection hv1 with hv1
    injection hv1 with hv1
    subst hv1 hv3
    have hl:(l.take m).length=m:=by simp;omega
    unfold OwnI
    rw [hl]
    refine ⟨⟨by simp [ints];omega,.inr ⟨g,c,cur,rfl,hb,hh,by omega,q2,q3,?_⟩⟩,hA⟩
    have e:ints (l.take m)=(ints l).take m:=by simp [ints,List.map_take]
    rw [e,← q4,List.take_take]
    congr 1
    omega
theorem len_split {l:List Int} (h:1≤l.length):l.take (l.length - 1)++[l.getD (l.length - 1) 0]=l:=by
  have:=List.take_succ_eq_append_getElem (l:=l) (i:=l.length - 1) (by omega)
  rw [show l.length - 1+1=l.length by omega,List.take_length] at this
  rw [List.getD_eq_getElem?_getD,List.getElem?_eq_getElem (by omega)]
  exact this.symm
set_option maxRecDepth 100000 in
set_option maxHeartbeats 1600000 in
theorem bpop_any (A:Nat→Prop) (b:Nat) (t:TypeId) (cs:Array Value) (o:Nat) (g c:Nat) (l:List Int) (w:World) (h:NumsAt w A b t cs o (.slice (some ⟨g,0,none⟩) l.length c) l) (hl1:1≤l.length) (hl:l.length≤100000) :
    Calls Tryz.prog 434 #[.pointer (some ⟨b,o,none⟩)] w fun e w'=>e=.returned (.iface 3 (.int .i64 (l.getD (l.length - 1) 0)))∧NPost A b t cs o (.slice (some ⟨g,0,none⟩) l.length c) w (l.take (l.length - 1)) w':=by
  obtain ⟨hb,hcs,ho,hvb⟩:=h
  have HB:=Lib.hid (And.intro hb (And.intro hcs (And.intro ho hvb)))
  have hc:w.cell? ⟨b,o,none⟩=some (.slice (some ⟨g,0,none⟩) l.length c):=(hb.cell o).trans hcs
  have hf:w.frozen? ⟨b,o,none⟩=false:=hb.frozen o
  obtain ⟨q,hq⟩:∃ q,l.length=q+1:=⟨l.length - 1,by omega⟩
  have hx:w.cell? ⟨g,q,none⟩=some (.int .i64 (l.getD q 0)):=ho.at hl1 (by omega)
  have HQ:=Lib.hid hq
  obtain ⟨_,_,hv,_,hgl,_⟩:=ho.cells hl1
  have hcap:l.length≤c:=by
    obtain ⟨⟨h1,⟨h2,_⟩ | ⟨g',cap,cur,hv,hb,hh,q1,q2,q3,q4⟩⟩,hA⟩:=ho
    · cases h2
    · injection hv with hv1 hv2 hv3;omega
  obtain ⟨x,hxx⟩:∃ x,l.getD q 0=x:=⟨_,rfl⟩
  have HX:=Lib.hid hxx
  rw [hxx] at hx
  rw [hq] at hc hl hcap ⊢
  rw [Nat.add_sub_cancel,hxx]
  have i1:(q:Int)≤100000:=by omega
  have i0:(0:Int)≤(q:Int):=by omega
  clear hb hcs ho hvb hq hxx hl1 hv
  go_enter Tryz.func434,Tryz.ntmps434
  go_wp2
  go_ret
  obtain ⟨hb,hcs,ho,hvb⟩:=HB.out
  have hq:=HQ.out
  have u3:Mut (fun k=>k=b) w (w.setCell ⟨b,o,none⟩ (.slice (some ⟨g,0,none⟩) q c)):=(Mut.refl (fun k=>k=b) w).setCell (p:=⟨b,o,none⟩) (.inl rfl) _
  have hs:=ho.shrink (m:=q) (by omega)
  have hgb:g ≠ b:=fun e=>hvb (by rw [e];rfl)
  refine ⟨rfl,.slice (some ⟨g,0,none⟩) q c,⟨hb.set,set_self hcs _,OwnA.mono (OwnA.mutB hs u3 (fun g' hg e=>?_)) (fun g' _ hg=>.inl hg),fun e=>hgb (Option.some.inj e)⟩,fun g' hg=>.inl hg,u3.mono (fun j _ e=>.inl e)⟩
  have:g=g':=Option.some.inj hg
  omega
theorem hp_swap {l:List Int} (h:Hp l) (hl:1≤l.length):HpFrom (sw l 0 (l.length - 1)) (l.length - 1) 1:=fun c a b d=>by
  have G:=sw_get (l:=l) (i:=0) (j:=l.length - 1) (by omega) (by omega)
  rw [G,G,if_neg (by omega),if_neg (by omega),if_neg (by omega),if_neg (by omega)]
  exact h c a (by omega) (Nat.zero_le _)
theorem hp_push {l:List Int} (h:Hp l) (n:Int):HpFrom (l++[n]) ((l++[n]).length - 1) 0:=fun c a b d=>by
  have e:∀ k,k<l.length→(l++[n]).getD k 0=l.getD k 0:=fun k hk=>by
    rw [List.getD_eq_getElem?_getD,List.getElem?_append_left hk,List.getD_eq_getElem?_getD]
  have hb:c<l.length:=by simpa using b
  rw [e _ (by omega),e _ hb]
  exact h c a hb d
def PushPost (A:Nat→Prop) (b:Nat) (t:TypeId) (cs:Array Value) (o:Nat) (v:Value) (l:List Int) (n:Int) (w:World) (e:Ending) (w':World):Prop:=∃ l',e=.returned (.tuple #[])∧l'.Perm (l++[n])∧Hp l'∧NPost A b t cs o v w l' w'
theorem back_push (a:Addr) (W:World):Sem.run Tryz.prog (method 591 460 (.pointer (some a)) "Push") W=.ok (435,.pointer (some a)) W:=by kernel_rfl
theorem back_pop (a:Addr) (W:World):Sem.run Tryz.prog (method 591 460 (.pointer (some a)) "Pop") W=.ok (434,.pointer (some a)) W:=by kernel_rfl
theorem enters_bpush:∀ (args:Array Value) (W:World),Sem.run Tryz.prog (callFunc 435 args) W=.ok (.enter 435 args) W:=by intro args w;go_simp
theorem enters_bpop:∀ (args:Array Value) (W:World),Sem.run Tryz.prog (callFunc 434 args) W=.ok (.enter 434 args) W:=by intro args w;go_simp
set_option maxRecDepth 100000 in
set_option maxHeartbeats 1600000 in
theorem hpush_any (A:Nat→Prop) (b:Nat) (t:TypeId) (cs:Array Value) (o:Nat) (v:Value) (l:List Int) (n:Int) (w:World) (h:NumsAt w A b t cs o v l) (hl:l.length+1≤100000) (hp:Hp l) :
    Calls Tryz.prog 386 #[.iface 460 (.pointer (some ⟨b,o,none⟩)),.iface 3 (.int .i64 n)] w (PushPost A b t cs o v l n w):=by
  have HB:=Lib.hid (bpush_any A b t cs o v l n w h (by omega))
  have hm1:=fun W=>back_push ⟨b,o,none⟩ W
  have hen:=enters_bpush
  have hen2:=backI.eLen
  have HPP:=Lib.hid (hp_push hp n)
  have HH:=Lib.hid h
  clear h hp
  go_enter Tryz.func386,Tryz.ntmps386
  go_wp2_with fail
  refine HB.out.mono ?_
  rintro e w1 ⟨rfl,v1,hn1,hob1,hmu1⟩
  have hsh:=hn1.2.2.1
  obtain ⟨a1,c1,rfl⟩:=hsh.shape
  have hlen1:(l++[n]).length=l.length+1:=by simp
  obtain ⟨g,c',hv1,_,_,_⟩:=hsh.cells (by omega)
  injection hv1 with hv1 hv2 hv3
  subst hv1 hv3
  clear hv2
  have hc1:w1.cell? ⟨b,o,none⟩=some (.slice (some ⟨g,0,none⟩) (l++[n]).length c1):=(hn1.1.cell o).trans hn1.2.1
  have hm2:=backI.mLen b o _ w1 hc1
  have HUP:=Lib.hid (up_any backI (ext A w w1) b o g c1 (l++[n]) w1 hc1 hn1.2.2.1 (fun e=>hn1.2.2.2 (by rw [e];rfl)) hn1.1.lt (by omega) (by omega) HPP.out)
  have H1:=Lib.hid (And.intro hn1 (And.intro hob1 hmu1))
  rw [hlen1] at hm2
  rw [hlen1,Nat.add_sub_cancel] at HUP
  have HL1:=Lib.hid hlen1
  clear hn1 hmu1 hob1 hsh hc1 hlen1
  go_wp2_with fail
  refine (lenIS_any _ _ _ _).mono ?_
  rintro e w2 ⟨rfl,rfl⟩
  clear hm2 hm1
  go_wp2_with fail
  refine HUP.out.mono ?_
  rintro e w3 ⟨l',rfl,hpm,hhp,ho3,hm3⟩
  have H3:=Lib.hid (And.intro hpm (And.intro hhp (And.intro ho3 hm3)))
  clear hpm hhp ho3 hm3
  go_wp2
  go_end0
  obtain ⟨hn1,hob1,hmu1⟩:=H1.out
  obtain ⟨hpm,hhp,ho3,hm3⟩:=H3.out
  have hlen1:=HL1.out
  have hgb:¬ b=g:=fun e=>hn1.2.2.2 (by rw [e];rfl)
  have z1:=hmu1.size
  have z3:=hm3.size
  rw [hlen1] at hn1 hob1
  refine ⟨l',rfl,hpm,hhp,.slice (some ⟨g,0,none⟩) (l.length+1) c1,⟨hn1.1.mut hm3 hgb,hn1.2.1,OwnA.mono ho3 (fun g' _ hg=>hg.imp id fun q=>⟨q.1,Nat.lt_of_lt_of_le q.2 z3⟩),hn1.2.2.2⟩,hob1,hmu1.trans2 hm3 (fun _ h=>h) (fun j hj e=>?_)⟩
  rcases hob1 g rfl with q | q
  · exact .inr (by rw [e];exact q)
  · omega
end Go.Proofs.YtpmlggjhfiljmaaGreatDoor
