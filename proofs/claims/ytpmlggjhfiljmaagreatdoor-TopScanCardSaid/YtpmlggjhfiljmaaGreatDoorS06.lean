/- Part 6 of what the law rests on. -/
import Derived.Test.YtpmlggjhfiljmaaGreatDoorS05
set_option linter.all false
namespace Go.Proofs.YtpmlggjhfiljmaaGreatDoor
open Go.RowKit
def ShiftRel2 (w0:World) (g off n a:Nat) (P A1 A2:List Int) (x:Int) (S:List Int) (k:Value) (wr:World):Prop :=
  ∃ D1 D2:List Int,A2=D1++D2∧k=.int .i64 ((a+A1.length+D1.length:Nat):Int)∧Arr w0 g off n (P++A1++D1++x :: D2++S) wr
set_option maxHeartbeats 3200000 in
set_option maxRecDepth 100000 in
theorem merge_right (w0:World) (g off n:Nat) (P A S:List Int) (x:Int) (a m b:Nat) (w:World) (cap:Nat) (hn:n≤1000000) (hoff:off≤1000000) (hsrt:Srt A) (hA:2≤A.length)
    (ha:a=P.length) (hm:m=P.length+A.length) (hb:b=P.length+A.length+1) (h:Arr w0 g off n (P++A++x :: S) w) :
    Calls Tryz.prog 323 #[.slice (some ⟨g,off,none⟩) n cap,.int .i64 (a:Nat),.int .i64 (m:Nat),.int .i64 (b:Nat),.func (.func 173) #[] #[]] w (SortPost w0 g off n P (A++[x]) S):=by
  have hl:=h.len
  simp at hl
  have H:=Lib.hid h
  have HSRT:=Lib.hid hsrt
  have HPL:=Lib.hid ha
  have hm1:m=a+A.length:=by omega
  have hb1:b=m+1:=by omega
  have hbn:b≤n:=by omega
  have e1:IntKind.i64.wrap ((m:Int) - (a:Int))=((m - a:Nat):Int):=by rw [IntKind.wrap_i64];omega
  obtain ⟨d,hd,hd2⟩:∃ d:Nat,m - a=d∧2≤d:=⟨m - a,rfl,by omega⟩
  rw [hd] at e1
  have hne:¬ (d:Int)=1:=by omega
  have hne2:¬ d=1:=by omega
  have hne3:((d:Int) == 1)=false:=by simp;omega
  clear hd
  have e1':IntKind.i64.wrap ((b:Int) - (m:Int))=1:=by rw [IntKind.wrap_i64];omega
  have HM:=Lib.hid hm1
  have HB:=Lib.hid hb1
  have ham:a≤m:=by omega
  have hmb:m<b:=by omega
  clear h hsrt ha hm hb hl hm1 hb1 hA
  go_enter Tryz.func323,Tryz.ntmps323
  go_wp2
  clear e1 e1' hne hne2 hne3 hd2
  go_loopw [14,15] (fun i j wr=>BinRel (fun z=>clsI z≤clsI x) (fun z=>clsI x<clsI z) w0 g off n a (P++A++x :: S) A i j wr) (fun i j _=>(intOf j).toNat - (intOf i).toNat)
  case atStart=>exact ⟨[],A,[],by simp,by simp,by have:=HB.out;have:=HM.out;simp;omega,fun z hz=>by simp at hz,fun z hz=>by simp at hz,H.out⟩
  case round =>
    obtain ⟨B1,B2,B3,hB,rfl,rfl,hp,hq,harr⟩:=hrel
    have HBB:=Lib.hid hB
    have HP:=Lib.hid hp
    have HQ:=Lib.hid hq
    have HAR:=Lib.hid harr
    have hbl:a+(B1.length+B2.length+B3.length)=m:=by have:=HM.out;rw [hB] at this;simp at this;omega
    clear hB hp hq harr
    generalize hi:a+B1.length=i
    generalize hj:i+B2.length=j
    have him:a≤i:=by omega
    have hij:i≤j:=by omega
    have hjb:j≤m:=by omega
    have HI:=Lib.hid hi
    have HJ:=Lib.hid hj
    have HBL:=Lib.hid hbl
    clear hi hj hbl
    by_cases hlt:i<j
    · have e2:IntKind.i64.wrap ((i:Int)+(j:Int))=((i+j:Nat):Int):=by rw [IntKind.wrap_i64];omega
      have hb2:(j:Int)<2000000:=by omega
      go_wp2
      obtain ⟨h,hh,hh1,hh2⟩:∃ h:Nat,((i:Int)+(j:Int)) / 2=(h:Int)∧i≤h∧h<j:=⟨(i+j) / 2,by omega,by omega,by omega⟩
      rw [hh]
      clear hh e2
      obtain ⟨C1,z,C2,hC,hC1⟩:=split_mid (B2:=B2) (k:=h - i) (by have:=HJ.out;omega)
      have HC:=Lib.hid hC
      have HC1:=Lib.hid hC1
      have c0:wr.cell? ⟨g,off+h,none⟩=some (.int .i32 z):=by
        have e:=HAR.out.cell (j:=h) (by omega)
        have e2:=getD_mid (P++(B1++C1)) (C2++B3++x :: S) z
        have e3:(P++(B1++C1)).length=h:=by have:=HI.out;have:=HPL.out;simp;omega
        rw [e3] at e2
        rw [e,HBB.out,hC]
        simpa using e2
      have c1:wr.cell? ⟨g,off+m,none⟩=some (.int .i32 x):=by
        have e:=HAR.out.cell (j:=m) (by omega)
        have e2:=getD_mid (P++A) S x
        have e3:(P++A).length=m:=by have:=HM.out;have:=HPL.out;simp;omega
        rw [e3] at e2
        rw [e,e2]
      have hsz:Srt (C1++z :: C2):=by
        have:=HSRT.out
        rw [HBB.out] at this
        rw [← hC]
        exact this.left.right
      have HSZ:=Lib.hid hsz
      clear hC hC1 hsz
      have HX:=Lib.hid (cmp_any x z)
      generalize hdd:clsI x - clsI z=d at HX
      have HDD:=Lib.hid hdd
      clear hdd
      have q2:(0:Int)≤(h:Int):=by omega
      have q3:(h:Int)<(n:Int):=by omega
      have q4:(0:Int)≤(m:Int):=by omega
      have q5:(m:Int)<(n:Int):=by omega
      by_cases hlt2:d<0
      · have hd2:decide (d<0)=true:=decide_eq_true hlt2
        go_quiet ((go_at_call 173;exact Calls.quiet_of_same ((HX.out _).mono fun _ _ ⟨he,hw⟩=>⟨he,hw.symm⟩)))
        go_wp2
        exact ⟨⟨B1,C1,z :: C2++B3,by rw [HBB.out,HC.out];simp,by rw [HI.out],by have:=HI.out;have:=HC1.out;simp;omega,HP.out,fun y hy=>by
          have hz:clsI x<clsI z:=by have:=HDD.out;omega
          rcases List.mem_append.1 hy with hy | hy
          · rcases List.mem_cons.1 hy with rfl | hy
            · exact hz
            · have:=(List.pairwise_cons.1 HSZ.out.right).1 y hy;omega
          · exact HQ.out y hy,HAR.out.drewN nq⟩,by simp [intOf];omega⟩
      · have hd2:decide (d<0)=false:=decide_eq_false hlt2
        go_quiet ((go_at_call 173;exact Calls.quiet_of_same ((HX.out _).mono fun _ _ ⟨he,hw⟩=>⟨he,hw.symm⟩)))
        go_wp2
        exact ⟨⟨B1++(C1++[z]),C2,B3,by rw [HBB.out,HC.out];simp,by have:=HI.out;have:=HC1.out;simp;omega,by have:=HI.out;have:=HJ.out;have:=HC1.out;have e:=HC.out;have e:=congrArg List.length e;simp at e ⊢;omega,fun y hy=>by
          rcases List.mem_append.1 hy with hy | hy
          · exact HP.out y hy
          · have hz:clsI z≤clsI x:=by have:=HDD.out;omega
            rcases List.mem_append.1 hy with hy | hy
            · have:=HSZ.out.cross y hy z (by simp);omega
            · simp at hy;subst hy;exact hz,HQ.out,HAR.out.drewN nq⟩,by simp [intOf];omega⟩
    · have hij2:i=j:=by omega
      have hB2:B2=[]:=List.eq_nil_of_length_eq_zero (by have:=HJ.out;omega)
      subst hB2
      have hBB:A=B1++B3:=by have:=HBB.out;simpa using this
      clear HBB
      have HBB:=Lib.hid hBB
      clear hBB
      have hbl2:a+(B1.length+B3.length)=m:=by have:=HBL.out;simpa using this
      have HBL2:=Lib.hid hbl2
      have him2:i≤m:=by omega
      clear HJ hij2 hij hbl2 HBL
      go_wp2
      go_loopw [17] (fun k wr=>ShiftRel2 w0 g off n a P B1 B3 x S k wr) (fun k _=>(intOf k).toNat)
      case atStart=>exact ⟨B3,[],by simp,by have:=HBL2.out;simp;omega,by have:=HAR.out;rw [HBB.out] at this;simpa using this⟩
      case round =>
        obtain ⟨D1,D2,hD,rfl,harr⟩:=hrel
        have HD:=Lib.hid hD
        have HAK:=Lib.hid harr
        have hdl:D1.length+D2.length=B3.length:=by rw [hD];simp
        clear hD harr
        generalize hk:a+B1.length+D1.length=k
        have HK:=Lib.hid hk
        rcases List.eq_nil_or_concat D1 with rfl | ⟨D1',y,rfl⟩
        · have hki:k=i:=by have:=HI.out;simp at hk;omega
          clear hdl hk
          go_wp2
          go_end0
          refine ⟨rfl,B1++x :: D2,?_,?_,by have:=HAK.out;simpa using this⟩
          · have e:=HD.out
            simp at e
            rw [HBB.out,e]
            have h2:SP (D2++[x]) ([x]++D2):=SP.flip fun u hu v hv=>by
              simp at hv;subst hv
              have:=HQ.out u (by rw [e];exact hu);omega
            have:=(SP.refl B1).append h2
            simpa using this
          · have e:=HD.out
            simp at e
            have hs:=HSRT.out
            rw [HBB.out,e] at hs
            refine Srt.append hs.left (List.pairwise_cons.2 ⟨fun v hv=>by have:=HQ.out v (by rw [e];exact hv);omega,hs.right⟩) fun u hu v hv=>?_
            rcases List.mem_cons.1 hv with rfl | hv
            · exact HP.out u hu
            · exact hs.cross u hu v hv
        · rw [List.concat_eq_append] at *
          simp at hdl hk
          have hAQ:Arr w0 g off n ((P++B1++D1')++y :: ([]:List Int)++x :: (D2++S)) wr:=by have:=HAK.out;simpa using this
          obtain ⟨k',rfl⟩:∃ k',k=k'+1:=⟨k - 1,by omega⟩
          have hu:k'=(P++B1++D1').length:=by have:=HPL.out;simp;omega
          have hv:k'+1=(P++B1++D1').length+1+([]:List Int).length:=by simp at hu ⊢;omega
          have c0:wr.cell? ⟨g,off+k',none⟩=some (.int .i32 y):=by
            have e:=hAQ.cell (j:=k') (by have:=HBL2.out;omega)
            rw [e,hu]
            have e:=getD_mid (P++B1++D1') (x :: (D2++S)) y
            simpa using e
          have c1:wr.cell? ⟨g,off+(k'+1),none⟩=some (.int .i32 x):=by
            have e:=hAQ.cell (j:=k'+1) (by have:=HBL2.out;omega)
            have e2:=getD_mid ((P++B1++D1')++[y]) (D2++S) x
            rw [e,hv,show (P++B1++D1')++y :: ([]:List Int)++x :: (D2++S)=((P++B1++D1')++[y])++x :: (D2++S) by simp,show (P++B1++D1').length+1+([]:List Int).length=((P++B1++D1')++[y]).length by simp;omega,e2]
          have f0:=hAQ.frozen (off+k')
          have f1:=hAQ.frozen (off+(k'+1))
          have hsw:=Lib.hid (hAQ.swap' hu hv)
          have hik:i<k'+1:=by have:=HI.out;omega
          have hv2:k'+1<n:=by have:=HBL2.out;omega
          clear hAQ hu hv hdl hk
          generalize hvv:k'+1=v at *
          have HV:=Lib.hid hvv
          have q1:IntKind.i64.wrap ((v:Int) - 1)=((k':Nat):Int):=by rw [IntKind.wrap_i64];omega
          have f2:(wr.setCell ⟨g,off+v,none⟩ (.int .i32 y)).cell? ⟨g,off+k',none⟩=some (.int .i32 y):=by
            rw [World.cell?_setCell_other _ _ _ _ (fun e=>by injection e with _ e _;omega)];exact c0
          have f3:(wr.setCell ⟨g,off+v,none⟩ (.int .i32 y)).frozen? ⟨g,off+k',none⟩=false:=by simpa using f0
          have q3:k'<n:=by omega
          have q5:(0:Int)≤(k':Int):=by omega
          have q6:(0:Int)≤(v:Int):=by omega
          have q7:(k':Int)<(n:Int):=by omega
          have q8:(v:Int)<(n:Int):=by omega
          clear hvv
          go_wp2
          go_region
          clear f0 f1 f2 f3 c0 c1
          go_wp2
          exact ⟨⟨D1',y :: D2,by rw [HD.out];simp,by have:=HK.out;have:=HV.out;simp at *;omega,by have:=hsw.out.drew;simpa using this⟩,by have:=HV.out;simp [intOf];omega⟩
open Go.RowKit
theorem merge_fin {A1 A2 B1 B2 M1 M2:List Int} (hA:Srt (A1++A2)) (hB:Srt (B1++B2)) (h1:∀ x ∈ A1,∀ y ∈ B2,clsI x≤clsI y) (h2:∀ x ∈ A2,∀ y ∈ B1,clsI y<clsI x)
    (s1:SP (A1++B1) M1) (t1:Srt M1) (s2:SP (A2++B2) M2) (t2:Srt M2):SP (A1++A2++(B1++B2)) (M1++M2)∧Srt (M1++M2):=by
  refine ⟨?_,Srt.append t1 t2 fun x hx y hy=>?_⟩
  · have hf:SP (A2++B1) (B1++A2):=SP.flip fun x hx y hy=>by have:=h2 x hx y hy;omega
    have e1:SP (A1++A2++(B1++B2)) (A1++(B1++A2)++B2):=by
      have:=((SP.refl A1).append hf).append (SP.refl B2)
      simpa using this
    have e2:=s1.append s2
    exact e1.trans (by simpa using e2)
  · have hx:=s1.symm.mem hx
    have hy:=s2.symm.mem hy
    rcases List.mem_append.1 hx with hx | hx <;> rcases List.mem_append.1 hy with hy | hy
    · exact hA.cross x hx y hy
    · exact h1 x hx y hy
    · have:=h2 y hy x hx;omega
    · exact hB.cross x hx y hy
def CutRel (w0:World) (g off n:Nat) (ys:List Int) (s0 r0 p:Nat) (s r:Value) (wr:World):Prop :=
  ∃ i j:Nat,s=.int .i64 (i:Nat)∧r=.int .i64 (j:Nat)∧s0≤i∧i≤j∧j≤r0∧(i=s0∨(s0<i∧clsI (ys.getD (i - 1) 0)≤clsI (ys.getD (p - (i - 1)) 0)))∧(j=r0∨clsI (ys.getD (p - j) 0)<clsI (ys.getD j 0))∧Arr w0 g off n ys wr
def Cut (A B A1 A2 B1 B2:List Int):Prop:=A=A1++A2∧B=B1++B2∧(∀ x ∈ A1,∀ y ∈ B2,clsI x≤clsI y)∧(∀ x ∈ A2,∀ y ∈ B1,clsI y<clsI x)
theorem getD_A {P A R:List Int} {k:Nat} (h:k<A.length):(P++A++R).getD (P.length+k) 0=A.getD k 0:=by
  rw [List.getD_eq_getElem?_getD,List.getD_eq_getElem?_getD,List.append_assoc,List.getElem?_append_right (by omega),List.getElem?_append_left (by omega)]
  congr 2;omega
theorem srt_getD {A:List Int} (h:Srt A) {i j:Nat} (hij:i≤j) (hj:j<A.length):clsI (A.getD i 0)≤clsI (A.getD j 0):=by
  by_cases e:i=j
  · rw [e];exact Int.le_refl _
  · have:=List.pairwise_iff_getElem.1 h i j (by omega) hj (by omega)
    simpa [List.getD_eq_getElem?_getD,List.getElem?_eq_getElem hj,List.getElem?_eq_getElem (show i<A.length by omega)] using this
theorem mem_take_getD {A:List Int} {k:Nat} {x:Int} (h:x ∈ A.take k):∃ i,i<k∧i<A.length∧x=A.getD i 0:=by
  obtain ⟨i,hi,rfl⟩:=List.getElem_of_mem h
  rw [List.length_take] at hi
  exact ⟨i,by omega,by omega,by simp [List.getD_eq_getElem?_getD,List.getElem?_eq_getElem (show i<A.length by omega)]⟩
theorem mem_drop_getD {A:List Int} {k:Nat} {x:Int} (h:x ∈ A.drop k):∃ i,k≤i∧i<A.length∧x=A.getD i 0:=by
  obtain ⟨i,hi,rfl⟩:=List.getElem_of_mem h
  rw [List.length_drop] at hi
  exact ⟨k+i,by omega,by omega,by simp [List.getD_eq_getElem?_getD,List.getElem?_eq_getElem (show k+i<A.length by omega)]⟩
theorem cut_law {P A B S:List Int} {a m b mid nn s0 r0 s:Nat} (hsA:Srt A) (hsB:Srt B) (ha:a=P.length) (hm:m=a+A.length) (hb:b=m+B.length) (hmid:mid=(a+b) / 2) (hnn:nn=mid+m)
    (h0:(m≤mid∧s0=a∧r0=m)∨(mid<m∧s0=nn - b∧r0=mid)) (hs0:s0≤s) (hs1:s≤r0)
    (hl:s=s0∨(s0<s∧clsI ((P++A++B++S).getD (s - 1) 0)≤clsI ((P++A++B++S).getD (nn - 1 - (s - 1)) 0)))
    (hr:s=r0∨clsI ((P++A++B++S).getD (nn - 1 - s) 0)<clsI ((P++A++B++S).getD s 0)) :
    ∃ A1 A2 B1 B2,Cut A B A1 A2 B1 B2∧A1.length=s - a∧B1.length=mid - s∧a≤s∧s≤mid∧s≤m∧mid - s≤b - m:=by
  have q1:a≤s∧s≤mid∧s≤m∧mid - s≤b - m:=by omega
  obtain ⟨q1,q2,q3,q4⟩:=q1
  have gA:∀ k,k<A.length→(P++A++B++S).getD (a+k) 0=A.getD k 0:=fun k hk=>by
    have:=getD_A (P:=P) (A:=A) (R:=B++S) hk
    rw [← ha] at this
    simpa using this
  have gB:∀ k,k<B.length→(P++A++B++S).getD (m+k) 0=B.getD k 0:=fun k hk=>by
    have:=getD_A (P:=P++A) (A:=B) (R:=S) hk
    rw [List.length_append,← ha,← hm] at this
    exact this
  refine ⟨A.take (s - a),A.drop (s - a),B.take (mid - s),B.drop (mid - s),⟨(List.take_append_drop _ _).symm,(List.take_append_drop _ _).symm,fun x hx y hy=>?_,fun x hx y hy=>?_⟩,by rw [List.length_take];omega,by rw [List.length_take];omega,q1,q2,q3,q4⟩
  · obtain ⟨i,i1,i2,rfl⟩:=mem_take_getD hx
    obtain ⟨j,j1,j2,rfl⟩:=mem_drop_getD hy
    rcases hl with hl | ⟨hl1,hl2⟩
    · omega
    · have e1:=gA (s - 1 - a) (by omega)
      have e2:=gB (mid - s) (by omega)
      rw [show a+(s - 1 - a)=s - 1 by omega] at e1
      rw [show m+(mid - s)=nn - 1 - (s - 1) by omega] at e2
      rw [e1,e2] at hl2
      have h1:=srt_getD hsA (i:=i) (j:=s - 1 - a) (by omega) (by omega)
      have h2:=srt_getD hsB (i:=mid - s) (j:=j) (by omega) (by omega)
      omega
  · obtain ⟨i,i1,i2,rfl⟩:=mem_drop_getD hx
    obtain ⟨j,j1,j2,rfl⟩:=mem_take_getD hy
    rcases hr with hr | hr
    · omega
    · have e1:=gA (s - a) (by omega)
      have e2:=gB (mid - s - 1) (by omega)
      rw [show a+(s - a)=s by omega] at e1
      rw [show m+(mid - s - 1)=nn - 1 - s by omega] at e2
      rw [e1,e2] at hr
      have h1:=srt_getD hsA (i:=s - a) (j:=i) (by omega) (by omega)
      have h2:=srt_getD hsB (i:=j) (j:=mid - s - 1) (by omega) (by omega)
      omega
open Go.RowKit
def MergeAt (N:Nat):Prop:=∀ (w0:World) (g off n:Nat) (P A B S:List Int) (a m b:Nat) (w:World) (cap:Nat),n≤1000000→off≤1000000→A.length+B.length≤N→1≤A.length→1≤B.length→Srt A→Srt B →
    a=P.length→m=P.length+A.length→b=P.length+A.length+B.length→Arr w0 g off n (P++A++B++S) w →
    Calls Tryz.prog 323 #[.slice (some ⟨g,off,none⟩) n cap,.int .i64 (a:Nat),.int .i64 (m:Nat),.int .i64 (b:Nat),.func (.func 173) #[] #[]] w (SortPost w0 g off n P (A++B) S)
set_option maxHeartbeats 6400000 in
set_option maxRecDepth 100000 in
theorem merge_big {N:Nat} (IH:MergeAt N) (w0:World) (g off n:Nat) (P A B S:List Int) (a m b:Nat) (w:World) (cap:Nat) (hn:n≤1000000) (hoff:off≤1000000) (hN:A.length+B.length≤N+1) (hA:2≤A.length) (hB:2≤B.length) (hsA:Srt A) (hsB:Srt B)
    (ha:a=P.length) (hm:m=P.length+A.length) (hb:b=P.length+A.length+B.length) (h:Arr w0 g off n (P++A++B++S) w) :
    Calls Tryz.prog 323 #[.slice (some ⟨g,off,none⟩) n cap,.int .i64 (a:Nat),.int .i64 (m:Nat),.int .i64 (b:Nat),.func (.func 173) #[] #[]] w (SortPost w0 g off n P (A++B) S):=by
  have hl:=h.len
  simp at hl
  have HIH:=Lib.hid IH
  have H:=Lib.hid h
  have HSA:=Lib.hid hsA
  have HSB:=Lib.hid hsB
  have HPL:=Lib.hid ha
  have hm1:m=a+A.length:=by omega
  have hb1:b=m+B.length:=by omega
  have hbn:b≤n:=by omega
  have HM:=Lib.hid hm1
  have HB:=Lib.hid hb1
  have hN2:b - a≤N+1:=by omega
  obtain ⟨d1,hd1,hd12⟩:∃ d:Nat,m - a=d∧2≤d:=⟨m - a,rfl,by omega⟩
  obtain ⟨d2,hd2,hd22⟩:∃ d:Nat,b - m=d∧2≤d:=⟨b - m,rfl,by omega⟩
  obtain ⟨mid,hmid⟩:∃ mid:Nat,(a+b) / 2=mid:=⟨_,rfl⟩
  have e1:IntKind.i64.wrap ((m:Int) - (a:Int))=(d1:Int):=by rw [IntKind.wrap_i64];omega
  have e2:IntKind.i64.wrap ((b:Int) - (m:Int))=(d2:Int):=by rw [IntKind.wrap_i64];omega
  have e3:IntKind.i64.wrap ((a:Int)+(b:Int))=((a+b:Nat):Int):=by rw [IntKind.wrap_i64];omega
  have e4:((a:Int)+(b:Int)) / 2=(mid:Int):=by omega
  obtain ⟨nn,hnn⟩:∃ nn:Nat,mid+m=nn:=⟨_,rfl⟩
  have e5:IntKind.i64.wrap ((mid:Int)+(m:Int))=(nn:Int):=by rw [IntKind.wrap_i64];omega
  obtain ⟨pp,hpp⟩:∃ pp:Nat,nn - 1=pp:=⟨_,rfl⟩
  have e6:IntKind.i64.wrap ((nn:Int) - 1)=(pp:Int):=by rw [IntKind.wrap_i64];omega
  have HPP:=Lib.hid hpp
  have n1:¬ (d1:Int)=1:=by omega
  have n2:¬ d1=1:=by omega
  have n3:((d1:Int) == 1)=false:=by simp;omega
  have n4:¬ (d2:Int)=1:=by omega
  have n5:¬ d2=1:=by omega
  have n6:((d2:Int) == 1)=false:=by simp;omega
  have HMID:=Lib.hid hmid
  have HNN:=Lib.hid hnn
  have hbnd:a+2≤m∧m+2≤b∧a<mid∧mid<b:=by omega
  obtain ⟨b1,b2,b3,b4⟩:=hbnd
  have hb2:(b:Int)<2000000:=by omega
  clear h hsA hsB ha hm hb hl hm1 hb1 hA hB IH hN hd1 hd2 hmid hnn hpp
  go_enter Tryz.func323,Tryz.ntmps323
  have hs:∃ s0 r0:Nat,(m≤mid∧s0=a∧r0=m)∨(mid<m∧s0=nn - b∧r0=mid):=by
    by_cases hmm:mid<m
    · exact ⟨nn - b,mid,.inr ⟨hmm,rfl,rfl⟩⟩
    · exact ⟨a,m,.inl ⟨by omega,rfl,rfl⟩⟩
  obtain ⟨s0,r0,hs⟩:=hs
  have H0:=Lib.hid hs
  have hsr:a≤s0∧s0≤r0∧r0≤m∧r0≤mid∧nn≤b+s0:=by have:=HNN.out;have:=HMID.out;omega
  have HSR:=Lib.hid hsr
  clear hsr
  rcases hs with ⟨hmm,hs0,hr0⟩ | ⟨hmm,hs0,hr0⟩
  all_goals
    try have e7:IntKind.i64.wrap ((nn:Int) - (b:Int))=(s0:Int):=by rw [IntKind.wrap_i64];have:=HNN.out;omega
    try have hmm3:¬ (mid:Int)<(m:Int):=by omega
    try have hmm4:¬ mid<m:=by omega
    have HS0:=Lib.hid hs0
    have HR0:=Lib.hid hr0
    clear hs0 hr0
    go_wp2
    clear e1 e2 e3 e4 e5 e6
    try clear e7
    obtain ⟨k1,k2,k3,k4,k5⟩:=HSR.out
    go_loopw [20,21] (fun s r wr=>CutRel w0 g off n (P++A++B++S) s0 r0 pp s r wr) (fun s r _=>(intOf r).toNat - (intOf s).toNat)
    case atStart=>exact ⟨s0,r0,by first | rfl | rw [HS0.out],by rw [HR0.out],Nat.le_refl _,k2,Nat.le_refl _,.inl rfl,.inl rfl,H.out⟩
    case round =>
      obtain ⟨i,j,rfl,rfl,h1,h2,h3,hl,hr,harr⟩:=hrel
      have HL:=Lib.hid hl
      have HR:=Lib.hid hr
      have HAR:=Lib.hid harr
      clear hl hr harr
      by_cases hlt:i<j
      · have e2:IntKind.i64.wrap ((i:Int)+(j:Int))=((i+j:Nat):Int):=by rw [IntKind.wrap_i64];omega
        have hb2:(j:Int)<2000000:=by omega
        go_wp2
        obtain ⟨h,hh,hh1,hh2⟩:∃ h:Nat,((i:Int)+(j:Int)) / 2=(h:Int)∧i≤h∧h<j:=⟨(i+j) / 2,by omega,by omega,by omega⟩
        rw [hh]
        clear hh e2
        obtain ⟨u,hu⟩:∃ u:Nat,pp - h=u:=⟨_,rfl⟩
        have hu1:u<n∧h<n∧h≤pp:=by have:=HPP.out;have:=HNN.out;have:=HMID.out;omega
        obtain ⟨hu1,hu2,hu3⟩:=hu1
        have q1:IntKind.i64.wrap ((pp:Int) - (h:Int))=(u:Int):=by rw [IntKind.wrap_i64];omega
        have HU:=Lib.hid hu
        clear hu
        have c0:=HAR.out.cell hu2
        have c1:=HAR.out.cell hu1
        have HX:=Lib.hid (cmp_any ((P++A++B++S).getD u 0) ((P++A++B++S).getD h 0))
        generalize hx:(P++A++B++S).getD h 0=x at c0 HX
        generalize hy:(P++A++B++S).getD u 0=y at c1 HX
        generalize hdd:clsI y - clsI x=d at HX
        have HDD:=Lib.hid hdd
        have HXX:=Lib.hid hx
        have HYY:=Lib.hid hy
        clear hdd hx hy
        have q2:(0:Int)≤(h:Int):=by omega
        have q3:(h:Int)<(n:Int):=by omega
        have q4:(0:Int)≤(u:Int):=by omega
        have q5:(u:Int)<(n:Int):=by omega
        by_cases hlt2:d<0
        · have hd2:decide (d<0)=true:=decide_eq_true hlt2
          go_quiet ((go_at_call 173;exact Calls.quiet_of_same ((HX.out _).mono fun _ _ ⟨he,hw⟩=>⟨he,hw.symm⟩)))
          go_wp2
          exact ⟨⟨i,h,rfl,rfl,h1,hh1,by omega,HL.out,.inr (by have:=HDD.out;rw [HU.out,HXX.out,HYY.out];omega),HAR.out.drewN nq⟩,by simp [intOf];omega⟩
        · have hd2:decide (d<0)=false:=decide_eq_false hlt2
          go_quiet ((go_at_call 173;exact Calls.quiet_of_same ((HX.out _).mono fun _ _ ⟨he,hw⟩=>⟨he,hw.symm⟩)))
          go_wp2
          exact ⟨⟨h+1,j,by rw [Int.natCast_add];rfl,rfl,by omega,by omega,h3,.inr ⟨by omega,by have:=HDD.out;rw [Nat.add_sub_cancel,HU.out,HXX.out,HYY.out];omega⟩,HR.out,HAR.out.drewN nq⟩,by simp [intOf];omega⟩
      · have hij:i=j:=by omega
        subst hij
        obtain ⟨A1,A2,B1,B2,hcut,l1,l2,c1,c2,c3,c4⟩:=cut_law (S:=S) (s:=i) HSA.out HSB.out HPL.out HM.out HB.out HMID.out.symm HNN.out.symm H0.out h1 h3 (by rw [HPP.out];exact HL.out) (by rw [HPP.out];exact HR.out)
        obtain ⟨hA12,hB12,hc1,hc2⟩:=hcut
        have lA:A1.length+A2.length=A.length:=by rw [hA12];simp
        have lB:B1.length+B2.length=B.length:=by rw [hB12];simp
        obtain ⟨en,hen⟩:∃ en:Nat,nn - i=en:=⟨_,rfl⟩
        have L1:i=a+A1.length:=by omega
        have L2:m=i+A2.length:=by have:=HM.out;omega
        have L3:en=m+B1.length:=by have:=HNN.out;omega
        have L4:b=en+B2.length:=by have:=HB.out;omega
        have L5:mid=i+B1.length:=by omega
        have e8:IntKind.i64.wrap ((nn:Int) - (i:Int))=(en:Int):=by rw [IntKind.wrap_i64];have:=HNN.out;omega
        have H1:Hid (Arr w0 g off n (P++A1++A2++B1++B2++S) wr):=Lib.hid (by have:=HAR.out;rw [hA12,hB12] at this;simpa using this)
        have sA1:Srt A1:=by have:=HSA.out;rw [hA12] at this;exact this.left
        have sA2:Srt A2:=by have:=HSA.out;rw [hA12] at this;exact this.right
        have sB1:Srt B1:=by have:=HSB.out;rw [hB12] at this;exact this.left
        have sB2:Srt B2:=by have:=HSB.out;rw [hB12] at this;exact this.right
        have HS:=Lib.hid (And.intro (And.intro sA1 sA2) (And.intro sB1 sB2))
        have HF:=Lib.hid (fun M1 M2=>merge_fin (M1:=M1) (M2:=M2) (by rw [← hA12];exact HSA.out) (by rw [← hB12];exact HSB.out) hc1 hc2)
        have HAB:=Lib.hid (And.intro hA12 hB12)
        have hi2:i≤mid:=c2
        clear hA12 hB12 hc1 hc2 lA lB l1 l2 c1 c3 c4 sA1 sA2 sB1 sB2 HL HR HAR hen h1 h2 h3
        have HLL:=Lib.hid (And.intro L1 (And.intro L2 (And.intro L3 (And.intro L4 L5))))
        have f1:a≤i:=by omega
        have f2:i≤m:=by omega
        have f3:m≤en:=by omega
        have f4:en≤b:=by omega
        have g1:(a<i) ↔ 0<A1.length:=by omega
        have g2:(i<m) ↔ 0<A2.length:=by omega
        have g3:(m<en) ↔ 0<B1.length:=by omega
        have g4:(en<b) ↔ 0<B2.length:=by omega
        have g5:(i<mid) ↔ 0<B1.length:=by omega
        have g6:(mid<en) ↔ 0<A2.length:=by omega
        have HG:=Lib.hid (And.intro g1 (And.intro g2 (And.intro g3 (And.intro g4 (And.intro g5 g6)))))
        clear L1 L2 L3 L4 L5 g1 g2 g3 g4 g5 g6
        have hrot:(i<m∧m<en)∨(i<m∧¬ m<en)∨¬ i<m:=by omega
        have hTo:(0<A2.length→0<B1.length→False)→P++A1++A2++B1++B2++S=P++A1++B1++A2++B2++S:=fun hh=>by
          by_cases q1:A2=[]
          · rw [q1];simp
          by_cases q2:B1=[]
          · rw [q2];simp
          exact (hh (List.length_pos_iff.2 q1) (List.length_pos_iff.2 q2)).elim
        have HTO:=Lib.hid hTo
        clear hTo
        have big:=HLL.out
        have bigN:A1.length+B1.length≤N∧A2.length+B2.length≤N:=by omega
        have BN:=Lib.hid bigN
        clear big bigN
        rcases hrot with ⟨p1,p2⟩ | ⟨p1,p2⟩ | p1
        have p1':(i:Int)<(m:Int):=by omega
        have p2':(m:Int)<(en:Int):=by omega
        focus go_wp2_with fail
        obtain ⟨L1,L2,L3,L4,L5⟩:=HLL.out
        refine (rotate_any w0 g off n (P++A1) A2 B1 (B2++S) i m en _ cap _ hn hoff (HG.out.2.1.1 p1) (HG.out.2.2.1.1 p2) (by have:=HPL.out;simp;omega) (by have:=HPL.out;simp;omega) (by have:=HPL.out;simp;omega) (by have:=H1.out;simpa using this)).mono ?_
        rintro e wr2 ⟨rfl,h2⟩
        have H2:Hid (Arr w0 g off n (P++A1++B1++A2++B2++S) wr2):=Lib.hid (by simpa using h2)
        have r1:i<mid:=HG.out.2.2.2.2.1.2 (HG.out.2.2.1.1 p2)
        have r2:mid<en:=HG.out.2.2.2.2.2.2 (HG.out.2.1.1 p1)
        have hcs:(a<i∧i<mid)∨(a<i∧¬ i<mid)∨¬ a<i:=by omega
        have hcs2:(mid<en∧en<b)∨(mid<en∧¬ en<b)∨¬ mid<en:=by omega
        clear L1 L2 L3 L4 L5 h2 r1 r2 p1' p2'
        rotate_left
        have p1':(i:Int)<(m:Int):=by omega
        have p2':¬ (m:Int)<(en:Int):=by omega
        have H2:Hid (Arr w0 g off n (P++A1++B1++A2++B2++S) wr):=Lib.hid (by have:=H1.out;rwa [HTO.out (fun _ q=>p2 (HG.out.2.2.1.2 q))] at this)
        have hcs:(a<i∧i<mid)∨(a<i∧¬ i<mid)∨¬ a<i:=by omega
        have hcs2:(mid<en∧en<b)∨(mid<en∧¬ en<b)∨¬ mid<en:=by omega
        rotate_left
        have p1':¬ (i:Int)<(m:Int):=by omega
        have H2:Hid (Arr w0 g off n (P++A1++B1++A2++B2++S) wr):=Lib.hid (by have:=H1.out;rwa [HTO.out (fun q _=>p1 (HG.out.2.1.2 q))] at this)
        have hcs:(a<i∧i<mid)∨(a<i∧¬ i<mid)∨¬ a<i:=by omega
        have hcs2:(mid<en∧en<b)∨(mid<en∧¬ en<b)∨¬ mid<en:=by omega
        rotate_left
        all_goals
          rcases hcs with ⟨t1,t2⟩ | ⟨t1,t2⟩ | t1
          have t1':(a:Int)<(i:Int):=by omega
          have t2':(i:Int)<(mid:Int):=by omega
          focus go_wp2_with fail
          obtain ⟨L1,L2,L3,L4,L5⟩:=HLL.out
          refine (HIH.out w0 g off n P A1 B1 (A2++B2++S) a i mid _ cap hn hoff BN.out.1 (HG.out.1.1 t1) (HG.out.2.2.2.2.1.1 t2) HS.out.1.1 HS.out.2.1 HPL.out (by have:=HPL.out;omega) (by have:=HPL.out;omega) (by have:=H2.out;simpa using this)).mono ?_
          rintro e wr3 ⟨rfl,M1,s1,s2,h3⟩
          have H3:=Lib.hid h3
          have HSS:=Lib.hid (And.intro s1 s2)
          clear L1 L2 L3 L4 L5 h3 s1 s2 t1' t2'
          rotate_left
          have t1':(a:Int)<(i:Int):=by omega
          have t2':¬ (i:Int)<(mid:Int):=by omega
          have hB1:B1=[]:=List.length_eq_zero_iff.1 (by have:=HG.out.2.2.2.2.1.2;omega)
          obtain ⟨M1,HSS,H3⟩:∃ M1,Hid (SP (A1++B1) M1∧Srt M1)∧Hid (Arr w0 g off n (P++M1++(A2++B2++S)) _):=⟨A1,Lib.hid ⟨by rw [hB1,List.append_nil];exact SP.refl _,HS.out.1.1⟩,Lib.hid (by have:=H2.out;rw [hB1] at this;simpa using this)⟩
          clear hB1
          rotate_left
          have t1':¬ (a:Int)<(i:Int):=by omega
          have hA1:A1=[]:=List.length_eq_zero_iff.1 (by have:=HG.out.1.2;omega)
          obtain ⟨M1,HSS,H3⟩:∃ M1,Hid (SP (A1++B1) M1∧Srt M1)∧Hid (Arr w0 g off n (P++M1++(A2++B2++S)) _):=⟨B1,Lib.hid ⟨by rw [hA1,List.nil_append];exact SP.refl _,HS.out.2.1⟩,Lib.hid (by have:=H2.out;rw [hA1] at this;simpa using this)⟩
          clear hA1
          rotate_left
          all_goals
            have hlen:=HSS.out.1.length
            rw [List.length_append] at hlen
            rcases hcs2 with ⟨u1,u2⟩ | ⟨u1,u2⟩ | u1
            have u1':(mid:Int)<(en:Int):=by omega
            have u2':(en:Int)<(b:Int):=by omega
            focus go_wp2_with fail
            obtain ⟨L1,L2,L3,L4,L5⟩:=HLL.out
            refine (HIH.out w0 g off n (P++M1) A2 B2 S mid en b _ cap hn hoff BN.out.2 (HG.out.2.2.2.2.2.1 u1) (HG.out.2.2.2.1.1 u2) HS.out.1.2 HS.out.2.2 (by have:=HPL.out;simp;omega) (by have:=HPL.out;simp;omega) (by have:=HPL.out;simp;omega) (by have:=H3.out;simpa using this)).mono ?_
            rintro e wr4 ⟨rfl,M2,s1,s2,h4⟩
            have H4:=Lib.hid h4
            have HSS2:=Lib.hid (And.intro s1 s2)
            clear L1 L2 L3 L4 L5 h4 s1 s2 u1' u2'
            rotate_left
            have u1':(mid:Int)<(en:Int):=by omega
            have u2':¬ (en:Int)<(b:Int):=by omega
            have hB2:B2=[]:=List.length_eq_zero_iff.1 (by have:=HG.out.2.2.2.1.2;omega)
            obtain ⟨M2,HSS2,H4⟩:∃ M2,Hid (SP (A2++B2) M2∧Srt M2)∧Hid (Arr w0 g off n (P++M1++M2++S) _):=⟨A2,Lib.hid ⟨by rw [hB2,List.append_nil];exact SP.refl _,HS.out.1.2⟩,Lib.hid (by have:=H3.out;rw [hB2] at this;simpa using this)⟩
            clear hB2
            rotate_left
            have u1':¬ (mid:Int)<(en:Int):=by omega
            have hA2:A2=[]:=List.length_eq_zero_iff.1 (by have:=HG.out.2.2.2.2.2.2;omega)
            obtain ⟨M2,HSS2,H4⟩:∃ M2,Hid (SP (A2++B2) M2∧Srt M2)∧Hid (Arr w0 g off n (P++M1++M2++S) _):=⟨B2,Lib.hid ⟨by rw [hA2,List.nil_append];exact SP.refl _,HS.out.2.2⟩,Lib.hid (by have:=H3.out;rw [hA2] at this;simpa using this)⟩
            clear hA2
            rotate_left
            all_goals
              have HFIN:=Lib.hid (HF.out M1 M2 HSS.out.1 HSS.out.2 HSS2.out.1 HSS2.out.2)
              try clear H0 HSR HS0 HR0 hlen HSS HSS2 HF
              focus go_wp2
              go_end0
              exact ⟨rfl,M1++M2,by rw [HAB.out.1,HAB.out.2];exact HFIN.out.1,HFIN.out.2,by have:=H4.out;simpa using this⟩
theorem merge_at:∀ N:Nat,MergeAt N
  | 0=>fun w0 g off n P A B S a m b w cap _ _ hN h1 h2=>by omega
  | N + 1=>fun w0 g off n P A B S a m b w cap hn hoff hN hA hB hsA hsB ha hm hb h=>by
    match A,hA,hsA,hN,hm,hb,h with
    | [x],_,_,hN,hm,hb,h =>
      have:=merge_left w0 g off n P B S x a m b w cap hn hoff hsB (by simp at *;omega) (by simp at *;omega) (by simp at *;omega) (by simpa using h)
      simpa using this
    | x :: x2 :: A,_,hsA,hN,hm,hb,h =>
      match B,hB,hsB,hN,hb,h with
      | [y],_,_,hN,hb,h =>
        exact merge_right w0 g off n P (x :: x2 :: A) S y a m b w cap hn hoff hsA (by simp) (by simp at *;omega) (by simp at *;omega) (by simp at *;omega) (by simpa using h)
      | y :: y2 :: B,_,hsB,hN,hb,h =>
        exact merge_big (merge_at N) w0 g off n P _ _ S a m b w cap hn hoff hN (by simp) (by simp) hsA hsB ha hm hb h
end Go.Proofs.YtpmlggjhfiljmaaGreatDoor
