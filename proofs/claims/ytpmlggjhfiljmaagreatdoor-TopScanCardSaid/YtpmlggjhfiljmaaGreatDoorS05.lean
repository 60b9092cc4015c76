/- Part 5 of what the law rests on. -/
import Derived.BigRegion
import Derived.Test.YtpmlggjhfiljmaaGreatDoorS04
set_option linter.all false
namespace Go.Proofs.YtpmlggjhfiljmaaGreatDoor
open Go.RowKit
theorem pairI_pos {a b q:Int} (h:pairI a b=some q):0<q∧q<55204:=by
  unfold pairI at h
  cases ht:T.find? (isAB a b) with
  | some t =>
    rw [ht] at h
    have:=T_of (List.mem_of_find?_eq_some ht)
    simp at h
    omega
  | none =>
    rw [ht] at h
    unfold hanI at h
    simp only at h
    split at h
    · simp at h;omega
    split at h
    · simp at h;omega
    · cases h
theorem find_r {r:Int} {t:Int × Int × Int} (h:T.find? (isR r)=some t):t.2.2=r:=by
  have:=List.find?_some h
  simpa [isR] using this
open Go.RowKit
structure Arr (w0:World) (g off n:Nat) (ys:List Int) (w:World):Prop where
  len:ys.length=n
  grown:w0.grownBy w (some g)
  mem:∃ cs0 cs,Blk w0 g 21 cs0∧Blk w g 21 cs∧cs.size=cs0.size∧off+n≤cs.size∧(∀ i,(i<off∨off+n≤i)→cs[i]?=cs0[i]?)∧∀ j,j<n→cs[off+j]?=some (.int .i32 (ys.getD j 0))
theorem Arr.cell {w0 w:World} {g off n:Nat} {ys:List Int} (h:Arr w0 g off n ys w) {j:Nat} (hj:j<n):w.cell? ⟨g,off+j,none⟩=some (.int .i32 (ys.getD j 0)):=by
  obtain ⟨cs0,cs,_,h2,_,_,_,h6⟩:=h.mem
  rw [h2.cell];exact h6 j hj
theorem Arr.frozen {w0 w:World} {g off n:Nat} {ys:List Int} (h:Arr w0 g off n ys w) (i:Nat):w.frozen? ⟨g,i,none⟩=false:=by
  obtain ⟨cs0,cs,_,h2,_⟩:=h.mem
  unfold Blk at h2;simp [World.frozen?,h2]
theorem Arr.lt {w0 w:World} {g off n:Nat} {ys:List Int} (h:Arr w0 g off n ys w):g<w.heap.size:=by
  obtain ⟨cs0,cs,_,h2,_⟩:=h.mem
  exact h2.lt
theorem Blk.set {W:World} {g i:Nat} {t:TypeId} {cs:Array Value} {u:Value} (h:Blk W g t cs):Blk (W.setCell ⟨g,i,none⟩ u) g t (cs.setIfInBounds i u):=by
  unfold Blk at h ⊢
  simp [World.setCell,Array.getElem?_modify,h]
theorem Arr.set {w0 w:World} {g off n:Nat} {ys:List Int} (h:Arr w0 g off n ys w) {j:Nat} (hj:j<n) (v:Int):Arr w0 g off n (ys.set j v) (w.setCell ⟨g,off+j,none⟩ (.int .i32 v)):=by
  obtain ⟨cs0,cs,h1,h2,h3,h4,h5,h6⟩:=h.mem
  refine ⟨by rw [List.length_set];exact h.len,⟨h.grown.os,h.grown.tape,h.grown.output,by simpa [World.setCell] using h.grown.size,fun k hk hne=>?_⟩,cs0,_,h1,h2.set,by simpa using h3,by simpa using h4,fun i hi=>?_,fun i hi=>?_⟩
  · have hkg:k ≠ g:=fun e=>hne (by rw [e])
    exact (Below.heap_setCell w ⟨g,off+j,none⟩ _ k hkg).trans (h.grown.block k hk hne)
  · rw [Array.getElem?_setIfInBounds_ne (by omega)];exact h5 i hi
  · by_cases e:i=j
    · subst e
      rw [Array.getElem?_setIfInBounds_self_of_lt (by omega)]
      have:=h.len
      simp [List.getD_eq_getElem?_getD,List.getElem?_set,show i<ys.length by omega]
    · rw [Array.getElem?_setIfInBounds_ne (by omega),h6 i hi]
      simp [List.getD_eq_getElem?_getD,List.getElem?_set,Ne.symm e]
theorem Arr.drew {w0 w:World} {g off n:Nat} {ys:List Int} (h:Arr w0 g off n ys w):Arr w0 g off n ys w.drew:=⟨h.len,⟨h.grown.os,h.grown.tape,h.grown.output,h.grown.size,h.grown.block⟩,h.mem⟩
theorem Arr.drewN {w0 w:World} {g off n:Nat} {ys:List Int} (h:Arr w0 g off n ys w) (m:Nat):Arr w0 g off n ys (w.drewN m):=⟨h.len,⟨h.grown.os,h.grown.tape,h.grown.output,h.grown.size,h.grown.block⟩,h.mem⟩
theorem Arr.swap {w0 w:World} {g off n:Nat} {P Q S:List Int} {x y:Int} (h:Arr w0 g off n (P++x :: Q++y :: S) w) {i j:Nat} (hi:i=P.length) (hj:j=P.length+1+Q.length) :
    Arr w0 g off n (P++y :: Q++x :: S) ((w.setCell ⟨g,off+i,none⟩ (.int .i32 y)).setCell ⟨g,off+j,none⟩ (.int .i32 x)):=by
  subst hi hj
  have hl:=h.len
  simp at hl
  have:=(h.set (j:=P.length) (by omega) y).set (j:=P.length+1+Q.length) (by omega) x
  have e:((P++x :: Q++y :: S).set P.length y).set (P.length+1+Q.length) x=P++y :: Q++x :: S:=by
    rw [show P.length+1+Q.length=(P++y :: Q).length by simp;omega]
    have e1:(P++x :: Q++y :: S).set P.length y=P++y :: Q++y :: S:=by
      rw [List.append_assoc,List.set_append_right _ _ (Nat.le_refl _)];simp
    rw [e1,List.set_append_right _ _ (Nat.le_refl _)];simp
  rwa [e] at this
theorem Arr.swap' {w0 w:World} {g off n:Nat} {P Q S:List Int} {x y:Int} (h:Arr w0 g off n (P++x :: Q++y :: S) w) {i j:Nat} (hi:i=P.length) (hj:j=P.length+1+Q.length) :
    Arr w0 g off n (P++y :: Q++x :: S) ((w.setCell ⟨g,off+j,none⟩ (.int .i32 x)).setCell ⟨g,off+i,none⟩ (.int .i32 y)):=by
  subst hi hj
  have hl:=h.len
  simp at hl
  have:=(h.set (j:=P.length+1+Q.length) (by omega) x).set (j:=P.length) (by omega) y
  have e:((P++x :: Q++y :: S).set (P.length+1+Q.length) x).set P.length y=P++y :: Q++x :: S:=by
    have e1:(P++x :: Q++y :: S).set (P.length+1+Q.length) x=P++x :: Q++x :: S:=by
      rw [show P.length+1+Q.length=(P++x :: Q).length by simp;omega,List.set_append_right _ _ (Nat.le_refl _)];simp
    rw [e1,List.append_assoc,List.set_append_right _ _ (Nat.le_refl _)];simp
  rwa [e] at this
/-! ### stable orders -/
def Srt (xs:List Int):Prop:=xs.Pairwise fun a b=>clsI a≤clsI b
def SP (xs ys:List Int):Prop:=∀ c:Int,xs.filter (fun x=>clsI x == c)=ys.filter (fun x=>clsI x == c)
theorem SP.refl (xs:List Int):SP xs xs:=fun _=>rfl
theorem SP.symm {xs ys:List Int} (h:SP xs ys):SP ys xs:=fun c=>(h c).symm
theorem SP.trans {xs ys zs:List Int} (h:SP xs ys) (k:SP ys zs):SP xs zs:=fun c=>(h c).trans (k c)
theorem SP.append {a b c d:List Int} (h:SP a b) (k:SP c d):SP (a++c) (b++d):=fun x=>by rw [List.filter_append,List.filter_append,h x,k x]
theorem SP.flip {a b:List Int} (h:∀ x ∈ a,∀ y ∈ b,clsI x ≠ clsI y):SP (a++b) (b++a):=fun c=>by
  rw [List.filter_append,List.filter_append]
  by_cases ha:a.filter (fun x=>clsI x == c)=[]
  · rw [ha];simp
  · obtain ⟨x,hx⟩:=List.exists_mem_of_ne_nil _ ha
    rw [List.mem_filter] at hx
    have hb:b.filter (fun x=>clsI x == c)=[]:=by
      rw [List.filter_eq_nil_iff]
      intro y hy e
      have h1:clsI x=c:=by simpa using hx.2
      have h2:clsI y=c:=by simpa using e
      exact h x hx.1 y hy (h1.trans h2.symm)
    rw [hb];simp
theorem SP.mem {xs ys:List Int} (h:SP xs ys) {x:Int} (hx:x ∈ xs):x ∈ ys:=by
  have:x ∈ xs.filter (fun y=>clsI y == clsI x):=by rw [List.mem_filter];exact ⟨hx,by simp⟩
  rw [h (clsI x),List.mem_filter] at this
  exact this.1
theorem cls_three (r:Int):clsI r=0∨clsI r=202∨clsI r=230:=by
  unfold clsI
  split
  · right;right;rfl
  · split
    · right;left;rfl
    · left;rfl
theorem SP.length {xs ys:List Int} (h:SP xs ys):xs.length=ys.length:=by
  have key:∀ l:List Int,l.length=(l.filter (fun x=>clsI x == 0)).length+(l.filter (fun x=>clsI x == 202)).length+(l.filter (fun x=>clsI x == 230)).length:=by
    intro l
    induction l with
    | nil=>rfl
    | cons x l ih =>
      have hc:=cls_three x
      rcases hc with e | e | e <;> simp [List.filter_cons,e,ih] <;> omega
  rw [key xs,key ys,h 0,h 202,h 230]
theorem srt_unique:∀ {xs ys:List Int},Srt xs→Srt ys→SP xs ys→xs=ys
  | [],ys,_,_,h=>by
    have:=h.length
    exact (List.eq_nil_of_length_eq_zero this.symm).symm
  | x :: xs,[],_,_,h=>by have:=h.length;simp at this
  | x :: xs,y :: ys,h1,h2,h=>by
    have hx:=List.pairwise_cons.1 h1
    have hy:=List.pairwise_cons.1 h2
    have m1:x ∈ y :: ys:=h.mem (by simp)
    have m2:y ∈ x :: xs:=h.symm.mem (by simp)
    have c1:clsI y≤clsI x:=by
      rcases List.mem_cons.1 m1 with e | e
      · rw [e];exact Int.le_refl _
      · exact hy.1 x e
    have c2:clsI x≤clsI y:=by
      rcases List.mem_cons.1 m2 with e | e
      · rw [e];exact Int.le_refl _
      · exact hx.1 y e
    have ce:clsI x=clsI y:=by omega
    have e:=h (clsI x)
    rw [List.filter_cons,List.filter_cons,if_pos (by simp),if_pos (by simp [ce])] at e
    injection e with e1 e2
    subst e1
    congr 1
    refine srt_unique hx.2 hy.2 fun c=>?_
    have:=h c
    rw [List.filter_cons,List.filter_cons] at this
    by_cases hc:(clsI x == c)=true
    · rw [if_pos hc,if_pos hc] at this;injection this
    · rw [if_neg hc,if_neg hc] at this;exact this
theorem Srt.append {a b:List Int} (ha:Srt a) (hb:Srt b) (h:∀ x ∈ a,∀ y ∈ b,clsI x≤clsI y):Srt (a++b):=List.pairwise_append.2 ⟨ha,hb,h⟩
theorem Srt.left {a b:List Int} (h:Srt (a++b)):Srt a:=(List.pairwise_append.1 h).1
theorem Srt.right {a b:List Int} (h:Srt (a++b)):Srt b:=(List.pairwise_append.1 h).2.1
theorem Srt.cross {a b:List Int} (h:Srt (a++b)):∀ x ∈ a,∀ y ∈ b,clsI x≤clsI y:=(List.pairwise_append.1 h).2.2
theorem cls_range (r:Int):0≤clsI r∧clsI r≤230:=by unfold clsI;repeat' split <;> omega
set_option maxHeartbeats 400000 in
theorem cmp_any (a b:Int) (w:World):Calls Tryz.prog 173 #[.int .i32 a,.int .i32 b] w fun e w'=>e=.returned (.int .i64 (clsI a - clsI b))∧w=w':=by
  have ha:=cls_range a
  have hb:=cls_range b
  have HA:=Lib.hid (class_any a)
  have HB:=Lib.hid (class_any b)
  generalize clsI a=x at HA ha
  generalize clsI b=y at HB hb
  go_enter Tryz.func173,Tryz.ntmps173
  go_wp2_with fail
  refine (HA.out _).mono ?_
  rintro e w1 ⟨rfl,rfl⟩
  go_wp2_with fail
  refine (HB.out _).mono ?_
  rintro e w1 ⟨rfl,rfl⟩
  go_wp2
  go_ret
  exact ⟨rfl,rfl⟩
open Go.RowKit
def SortPost (w0:World) (g off n:Nat) (P A S:List Int) (e:Ending) (w':World):Prop :=
  e=.returned (.tuple #[])∧∃ M,SP A M∧Srt M∧Arr w0 g off n (P++M++S) w'
def InsOut (w0:World) (g off n:Nat) (P A S:List Int) (i:Value) (wr:World):Prop :=
  ∃ A1 A2 M:List Int,A=A1++A2∧1≤A1.length∧i=.int .i64 ((P.length+A1.length:Nat):Int)∧SP A1 M∧Srt M∧Arr w0 g off n (P++M++(A2++S)) wr
def InsIn (w0:World) (g off n:Nat) (P M:List Int) (x:Int) (S:List Int) (j:Value) (wr:World):Prop :=
  ∃ L1 L2:List Int,M=L1++L2∧j=.int .i64 ((P.length+L1.length:Nat):Int)∧(∀ z ∈ L2,clsI x<clsI z)∧Arr w0 g off n ((P++L1)++x :: (L2++S)) wr
theorem getD_mid (P S:List Int) (x:Int):(P++x :: S).getD P.length 0=x:=by simp [List.getD_eq_getElem?_getD]
theorem ins_done {A1 M L1 L2:List Int} {x:Int} (hsp:SP A1 M) (hsrt:Srt M) (hM:M=L1++L2) (hgt:∀ z ∈ L2,clsI x<clsI z) (hle:∀ y ∈ L1,clsI y≤clsI x) :
    SP (A1++[x]) (L1++x :: L2)∧Srt (L1++x :: L2):=by
  subst hM
  refine ⟨?_,?_⟩
  · have h1:SP (A1++[x]) (L1++(L2++[x])):=by
      have:=hsp.append (SP.refl [x])
      simpa using this
    refine h1.trans ?_
    have h2:SP (L2++[x]) ([x]++L2):=SP.flip fun a ha b hb=>by
      have:=hgt a ha
      simp at hb;subst hb;omega
    exact (SP.refl L1).append h2
  · refine Srt.append hsrt.left (List.pairwise_cons.2 ⟨fun z hz=>Int.le_of_lt (hgt z hz),hsrt.right⟩) fun a ha b hb=>?_
    rcases List.mem_cons.1 hb with rfl | hb
    · exact hle a ha
    · exact hsrt.cross a ha b hb
theorem last_le {L:List Int} {y x:Int} (h:Srt (L++[y])) (hy:clsI y≤clsI x):∀ z ∈ L++[y],clsI z≤clsI x:=fun z hz=>by
  rcases List.mem_append.1 hz with hz | hz
  · have:=h.cross z hz y (by simp);omega
  · simp at hz;subst hz;exact hy
set_option maxHeartbeats 1600000 in
set_option maxRecDepth 100000 in
theorem insert_any (w0:World) (g off n:Nat) (P A S:List Int) (w:World) (cap:Nat) (hn:n≤1000000) (hoff:off≤1000000) (hA:1≤A.length) (h:Arr w0 g off n (P++A++S) w) :
    Calls Tryz.prog 322 #[.slice (some ⟨g,off,none⟩) n cap,.int .i64 (P.length:Nat),.int .i64 ((P.length+A.length:Nat):Int),.func (.func 173) #[] #[]] w (SortPost w0 g off n P A S):=by
  have hl:=h.len
  simp at hl
  have H:=Lib.hid h
  clear h
  generalize hp:P.length=p at hl
  generalize ha:A.length=al at hl hA
  have HP:=Lib.hid hp
  have HAl:=Lib.hid ha
  clear hp ha
  go_enter Tryz.func322,Tryz.ntmps322
  go_wp2
  go_loopw [8] (fun i wr=>InsOut w0 g off n P A S i wr) (fun i _=>n+1 - (intOf i).toNat)
  case atStart =>
    match A,hA,HAl with
    | [],hA,HAl=>exact absurd HAl.out (by simp;omega)
    | x :: A2,hA,HAl=>exact ⟨[x],A2,[x],rfl,by simp,by rw [HP.out];simp,SP.refl _,List.pairwise_singleton _ _,by have:=H.out;simpa using this⟩
  case round =>
    obtain ⟨A1,A2,M,hA12,h1,rfl,hsp,hsrt,harr⟩:=hrel
    have HSP:=Lib.hid hsp
    have HSRT:=Lib.hid hsrt
    have HAR:=Lib.hid harr
    have hA1:A1.length+A2.length=al:=by have:=HAl.out;rw [hA12] at this;simpa using this
    have HA12:=Lib.hid hA12
    have hM:M.length=A1.length:=hsp.length.symm
    clear hsp hsrt harr hA12
    rw [HP.out]
    generalize hk:A1.length=k at h1 hA1 hM
    have HK:=Lib.hid hk
    clear hk
    match A2,hA1,HA12,HAR with
    | [],hA1,HA12,HAR =>
      have hk:p+k=p+al:=by simp at hA1;omega
      go_wp2
      go_end0
      refine ⟨rfl,M,?_,HSRT.out,by simpa using HAR.out⟩
      have:=HA12.out
      simp at this
      rw [this];exact HSP.out
    | x :: A2,hA1,HA12,HAR =>
      simp at hA1
      have hlt:p+k<p+al:=by omega
      go_wp2
      go_loopw [9] (fun i wr=>InsIn w0 g off n P M x (A2++S) i wr) (fun i _=>(intOf i).toNat)
      case atStart=>exact ⟨M,[],by simp,by rw [HP.out,hM],fun z hz=>by simp at hz,by have:=HAR.out;simpa using this⟩
      case round =>
        obtain ⟨L1,L2,hL,rfl,hgt,harr⟩:=hrel
        have HLL:=Lib.hid hL
        have HGT:=Lib.hid hgt
        have HAR2:=Lib.hid harr
        have hlen2:=harr.len
        simp [HP.out] at hlen2
        rw [HP.out]
        have c0:=harr.cell (j:=(P++L1).length) (by simp [HP.out];omega)
        rw [getD_mid] at c0
        have hj:(P++L1).length=p+L1.length:=by simp [HP.out]
        rw [hj] at c0
        clear hL hgt hj
        rcases List.eq_nil_or_concat L1 with rfl | ⟨L1',y,rfl⟩
        · clear harr
          generalize hjj:p+([]:List Int).length=j at c0
          have hjp:j=p:=by simpa using hjj.symm
          clear hjj
          have hd:decide (p<j)=false:=decide_eq_false (by omega)
          have HJP:=Lib.hid hjp
          clear hjp
          go_wp2
          go_quiet (fail)
          go_wp2
          have hd3:=ins_done HSP.out HSRT.out HLL.out HGT.out (fun y hy=>by simp at hy)
          exact ⟨⟨A1++[x],A2,[]++x :: L2,by rw [HA12.out];simp,by simp,by have:=HK.out;have:=HP.out;simp;omega,hd3.1,hd3.2,by have:=HAR2.out.drewN nq;simpa using this⟩,by simp [intOf];omega⟩
        · have c1:=harr.cell (j:=P.length+L1'.length) (by simp [HP.out] at hlen2 ⊢;omega)
          have e1:(P++(L1'++[y])++x :: (L2++(A2++S))).getD (P.length+L1'.length) 0=y:=by
            have:=getD_mid (P++L1') (x :: (L2++(A2++S))) y
            simpa using this
          rw [List.concat_eq_append] at c1 c0 harr HLL HAR2 hlen2
          rw [e1,HP.out] at c1
          rw [List.concat_eq_append]
          clear e1 harr
          generalize hjj:p+(L1'++[y]).length=j at c0
          generalize hjj':p+L1'.length=j' at c1
          have hjp:j=j'+1:=by simp at hjj;omega
          have hpj:p≤j':=by omega
          have hjn:j<n:=by simp at hlen2 hjj;omega
          have HJ:=Lib.hid hjj
          have HJ':=Lib.hid hjj'
          have HX:=Lib.hid (cmp_any x y)
          generalize hdd:clsI x - clsI y=d at HX
          have HDD:=Lib.hid hdd
          clear hjj hjj' hlen2 hdd
          have hd:decide (p<j)=true:=decide_eq_true (by omega)
          have q1:IntKind.i64.wrap ((j:Int) - 1)=(j':Int):=by rw [IntKind.wrap_i64];omega
          have q2:(0:Int)≤(j':Int):=by omega
          have q3:(j':Int)<(n:Int):=by omega
          have q4:(0:Int)≤(j:Int):=by omega
          have q5:(j:Int)<(n:Int):=by omega
          have HJP:=Lib.hid hjp
          clear hjp
          by_cases hlt2:d<0
          · have hd2:decide (d<0)=true:=decide_eq_true hlt2
            go_wp2
            go_quiet ((go_at_call 173;exact Calls.quiet_of_same ((HX.out _).mono fun _ _ ⟨he,hw⟩=>⟨he,hw.symm⟩)))
            go_wp2
            have HAQ:=Lib.hid (HAR2.out.drewN nq)
            have d0:(wr.drewN nq).cell? ⟨g,off+j,none⟩=some (.int .i32 x):=c0
            have d1:(wr.drewN nq).cell? ⟨g,off+j',none⟩=some (.int .i32 y):=c1
            generalize wr.drewN nq=wq at HAQ d0 d1
            clear c0 c1
            have f0:=HAQ.out.frozen (off+j)
            have f1:=HAQ.out.frozen (off+j')
            have f2:(wq.setCell ⟨g,off+j,none⟩ (.int .i32 y)).cell? ⟨g,off+j',none⟩=some (.int .i32 y):=by
              rw [World.cell?_setCell_other _ _ _ _ (fun e=>by injection e with _ e _;have:=HJP.out;omega)];exact d1
            have f3:(wq.setCell ⟨g,off+j,none⟩ (.int .i32 y)).frozen? ⟨g,off+j',none⟩=false:=by simpa using f1
            go_region
            have hsw:=Arr.swap' (P:=P++L1') (Q:=[]) (S:=L2++(A2++S)) (x:=y) (y:=x) (i:=j') (j:=j) (by have:=HAQ.out;simpa using this) (by have:=HJ'.out;have:=HP.out;simp;omega) (by have:=HJ'.out;have:=HP.out;have:=HJP.out;simp;omega)
            clear f0 f1 f2 f3 d0 d1
            go_wp2
            exact ⟨⟨L1',y :: L2,by rw [HLL.out];simp,by have:=HJ'.out;have:=HP.out;simp;omega,fun z hz=>by
              rcases List.mem_cons.1 hz with rfl | hz
              · have:=HDD.out;omega
              · exact HGT.out z hz,by have:=hsw.drew;simpa using this⟩,by have:=HJP.out;simp [intOf];omega⟩
          · have hd2:decide (d<0)=false:=decide_eq_false hlt2
            go_wp2
            go_quiet ((go_at_call 173;exact Calls.quiet_of_same ((HX.out _).mono fun _ _ ⟨he,hw⟩=>⟨he,hw.symm⟩)))
            go_wp2
            have hle:clsI y≤clsI x:=by have:=HDD.out;omega
            have hM2:=HLL.out
            have hd3:=ins_done HSP.out HSRT.out hM2 HGT.out (last_le (by have:=HSRT.out;rw [hM2] at this;exact this.left) hle)
            go_roundw
            case rel =>
              repeat apply Exists.intro
              exact ⟨⟨A1++[x],A2,(L1'++[y])++x :: L2,by rw [HA12.out];simp,by simp,by have:=HK.out;have:=HP.out;simp;omega,hd3.1,hd3.2,by have:=HAR2.out.drewN nq;simpa using this⟩,rfl⟩
            case measure=>simp [intOf];omega
open Go.RowKit
def BecomesPost (w0:World) (g off n:Nat) (ys:List Int) (e:Ending) (w':World):Prop:=e=.returned (.tuple #[])∧Arr w0 g off n ys w'
def SwapRel (w0:World) (g off n:Nat) (P X Q Y S:List Int) (i:Value) (wr:World):Prop :=
  ∃ X1 X2 Y1 Y2:List Int,X=X1++X2∧Y=Y1++Y2∧X1.length=Y1.length∧i=.int .i64 (X1.length:Nat)∧Arr w0 g off n (P++(Y1++X2)++Q++(X1++Y2)++S) wr
set_option maxHeartbeats 1600000 in
set_option maxRecDepth 100000 in
theorem swapRange_any (w0:World) (g off n:Nat) (P X Q Y S:List Int) (a b c:Nat) (w:World) (cap:Nat) (F:Value) (hn:n≤1000000) (hoff:off≤1000000) (hxy:X.length=Y.length)
    (ha:a=P.length) (hb:b=P.length+X.length+Q.length) (hc:c=X.length) (h:Arr w0 g off n (P++X++Q++Y++S) w) :
    Calls Tryz.prog 395 #[.slice (some ⟨g,off,none⟩) n cap,.int .i64 (a:Nat),.int .i64 (b:Nat),.int .i64 (c:Nat),F] w (BecomesPost w0 g off n (P++Y++Q++X++S)):=by
  have hl:=h.len
  simp at hl
  have hcn:a+c≤n∧b+c≤n∧a+c≤b:=by omega
  obtain ⟨hcn1,hcn2,hcn3⟩:=hcn
  have H:=Lib.hid h
  have HXY:=Lib.hid hxy
  have HA:=Lib.hid ha
  have HB:=Lib.hid hb
  have HC:=Lib.hid hc
  clear h hxy ha hb hc hl
  go_enter Tryz.func395,Tryz.ntmps395
  go_wp2
  go_loopw [10] (fun i wr=>SwapRel w0 g off n P X Q Y S i wr) (fun i _=>n - (intOf i).toNat)
  case atStart=>exact ⟨[],X,[],Y,rfl,rfl,rfl,rfl,by have:=H.out;simpa using this⟩
  case round =>
    obtain ⟨X1,X2,Y1,Y2,hX,hY,h11,rfl,harr⟩:=hrel
    have HX:=Lib.hid hX
    have HY:=Lib.hid hY
    have H11:=Lib.hid h11
    have HAR:=Lib.hid harr
    have hx2:X1.length+X2.length=c:=by have:=HC.out;rw [this,hX];simp
    have hy2:Y1.length+Y2.length=c:=by have:=HC.out;have:=HXY.out;rw [hY] at this;simp at this;omega
    clear hX hY h11 harr
    generalize hk:X1.length=k at hx2
    have HK:=Lib.hid hk
    clear hk
    match X2,Y2,hx2,hy2,HX,HY,HAR with
    | [],Y2,hx2,hy2,HX,HY,HAR =>
      have hkc:k=c:=by simpa using hx2
      have hy0:Y2=[]:=List.eq_nil_of_length_eq_zero (by have:=H11.out;have:=HK.out;omega)
      have HY0:=Lib.hid hy0
      clear hx2 hy2 hy0
      go_wp2
      go_end0
      refine ⟨rfl,?_⟩
      have h1:=HAR.out
      have h2:=HX.out
      have h3:=HY.out
      rw [HY0.out] at h1 h3
      simp at h1 h2 h3
      rw [h2,h3]
      simpa using h1
    | x :: X2,[],hx2,hy2,HX,HY,HAR=>exact absurd hy2 (by simp at hx2 ⊢;have:=H11.out;have:=HK.out;omega)
    | x :: X2,y :: Y2,hx2,hy2,HX,HY,HAR =>
      simp at hx2
      have hlt:k<c:=by omega
      have hAQ:Arr w0 g off n ((P++Y1)++x :: (X2++Q++X1)++y :: (Y2++S)) wr:=by have:=HAR.out;simpa using this
      have hu:a+k=(P++Y1).length:=by have:=HA.out;have:=H11.out;have:=HK.out;simp;omega
      have hv:b+k=(P++Y1).length+1+(X2++Q++X1).length:=by
        have h1:=HB.out;have h2:=H11.out;have h3:=HK.out;have h4:=HX.out
        rw [h4] at h1
        simp at h1 ⊢
        omega
      have c0:wr.cell? ⟨g,off+(a+k),none⟩=some (.int .i32 x):=by
        have:=hAQ.cell (j:=a+k) (by omega)
        rw [this,hu]
        have e:=getD_mid (P++Y1) ((X2++Q++X1)++y :: (Y2++S)) x
        simpa using e
      have c1:wr.cell? ⟨g,off+(b+k),none⟩=some (.int .i32 y):=by
        have:=hAQ.cell (j:=b+k) (by omega)
        have e:=getD_mid ((P++Y1)++x :: (X2++Q++X1)) (Y2++S) y
        rw [this,hv,show (P++Y1).length+1+(X2++Q++X1).length=((P++Y1)++x :: (X2++Q++X1)).length by simp;omega,e]
      have f0:=hAQ.frozen (off+(a+k))
      have f1:=hAQ.frozen (off+(b+k))
      have f2:(wr.setCell ⟨g,off+(a+k),none⟩ (.int .i32 y)).cell? ⟨g,off+(b+k),none⟩=some (.int .i32 y):=by
        rw [World.cell?_setCell_other _ _ _ _ (fun e=>by injection e with _ e _;omega)];exact c1
      have f3:(wr.setCell ⟨g,off+(a+k),none⟩ (.int .i32 y)).frozen? ⟨g,off+(b+k),none⟩=false:=by simpa using f1
      have HAQ:=Lib.hid hAQ
      have hsw:=Lib.hid (hAQ.swap hu hv)
      have q1:IntKind.i64.wrap ((a:Int)+(k:Int))=((a+k:Nat):Int):=by rw [IntKind.wrap_i64];omega
      have q2:IntKind.i64.wrap ((b:Int)+(k:Int))=((b+k:Nat):Int):=by rw [IntKind.wrap_i64];omega
      have q3:a+k<n:=by omega
      have q4:b+k<n:=by omega
      clear hAQ hu hv hx2 hy2
      generalize a+k=u at *
      generalize b+k=v at *
      have q5:(0:Int)≤(u:Int):=by omega
      have q6:(0:Int)≤(v:Int):=by omega
      have q7:(u:Int)<(n:Int):=by omega
      have q8:(v:Int)<(n:Int):=by omega
      go_wp2
      go_region
      clear f0 f1 f2 f3 c0 c1
      go_wp2
      exact ⟨⟨X1++[x],X2,Y1++[y],Y2,by rw [HX.out];simp,by rw [HY.out];simp,by have:=H11.out;simp;omega,by have:=HK.out;simp;omega,by have:=hsw.out.drew;simpa using this⟩,by simp [intOf];omega⟩
def RotRel (w0:World) (g off n m:Nat) (T:List Int) (i j:Value) (wr:World):Prop :=
  ∃ P X Y S:List Int,i=.int .i64 (X.length:Nat)∧j=.int .i64 (Y.length:Nat)∧1≤X.length∧1≤Y.length∧P.length+X.length=m∧Arr w0 g off n (P++X++Y++S) wr∧P++Y++X++S=T
set_option maxHeartbeats 1600000 in
set_option maxRecDepth 100000 in
theorem rotate_any (w0:World) (g off n:Nat) (P X Y S:List Int) (a m b:Nat) (w:World) (cap:Nat) (F:Value) (hn:n≤1000000) (hoff:off≤1000000) (hX:1≤X.length) (hY:1≤Y.length)
    (ha:a=P.length) (hm:m=P.length+X.length) (hb:b=P.length+X.length+Y.length) (h:Arr w0 g off n (P++X++Y++S) w) :
    Calls Tryz.prog 368 #[.slice (some ⟨g,off,none⟩) n cap,.int .i64 (a:Nat),.int .i64 (m:Nat),.int .i64 (b:Nat),F] w (BecomesPost w0 g off n (P++Y++X++S)):=by
  have hl:=h.len
  simp at hl
  have H:=Lib.hid h
  have HM:=Lib.hid hm
  have e1:IntKind.i64.wrap ((m:Int) - (a:Int))=((X.length:Nat):Int):=by rw [IntKind.wrap_i64];omega
  have e2:IntKind.i64.wrap ((b:Int) - (m:Int))=((Y.length:Nat):Int):=by rw [IntKind.wrap_i64];omega
  have hmn:m≤n:=by omega
  clear h hm ha hb hl
  go_enter Tryz.func368,Tryz.ntmps368
  go_wp2
  clear e1 e2
  go_loopw [10,11] (fun i j wr=>RotRel w0 g off n m (P++Y++X++S) i j wr) (fun i j _=>(intOf i).toNat+(intOf j).toNat)
  case atStart=>exact ⟨P,X,Y,S,rfl,rfl,hX,hY,HM.out.symm,H.out,rfl⟩
  case round =>
    obtain ⟨P',X',Y',S',rfl,rfl,hx,hy,hpm,harr,hT⟩:=hrel
    have HT:=Lib.hid hT
    have HAR:=Lib.hid harr
    have hl:=harr.len
    simp at hl
    clear hT harr
    generalize hi:X'.length=i at hx hpm hl
    generalize hj:Y'.length=j at hy hl
    generalize hp:P'.length=p at hpm hl
    have HI:=Lib.hid hi
    have HJ:=Lib.hid hj
    have HP:=Lib.hid hp
    have e1:IntKind.i64.wrap ((m:Int) - (i:Int))=((p:Nat):Int):=by rw [IntKind.wrap_i64];omega
    clear hi hj hp
    by_cases hij:i=j
    · have hb1:((i:Int) != (j:Int))=false:=by simp [hij]
      have HIJ:=Lib.hid hij
      clear hij
      go_wp2_with fail
      refine (swapRange_any w0 g off n P' X' [] Y' S' p m i _ cap F hn hoff (by rw [HI.out,HJ.out,HIJ.out]) HP.out.symm (by rw [HP.out,HI.out];simp;omega) HI.out.symm (by have:=HAR.out;simpa using this)).mono ?_
      rintro e w2 ⟨rfl,h2⟩
      go_wp2
      go_end0
      exact ⟨rfl,by rw [← HT.out];simpa using h2⟩
    · have hb1:((i:Int) != (j:Int))=true:=by simp;omega
      by_cases hgt:j<i
      · have hsp:∃ X1 X2,X'=X1++X2∧X1.length=j:=⟨X'.take j,X'.drop j,(List.take_append_drop j X').symm,by rw [List.length_take,HI.out];omega⟩
        obtain ⟨X1,X2,hX12,hX1⟩:=hsp
        have hX2:X2.length=i - j:=by have:=HI.out;rw [hX12] at this;simp at this;omega
        have HX12:=Lib.hid hX12
        have HX1:=Lib.hid hX1
        have HX2:=Lib.hid hX2
        have e3:IntKind.i64.wrap ((i:Int) - (j:Int))=((i - j:Nat):Int):=by rw [IntKind.wrap_i64];omega
        have hgt2:(j:Int)<(i:Int):=by omega
        clear hX12 hX1 hX2 hij
        go_wp2_with fail
        refine (swapRange_any w0 g off n P' X1 X2 Y' S' p m j _ cap F hn hoff (by rw [HX1.out,HJ.out]) HP.out.symm (by rw [HP.out,HX1.out,HX2.out];omega) HX1.out.symm (by have:=HAR.out;rw [HX12.out] at this;simpa using this)).mono ?_
        rintro e w2 ⟨rfl,h2⟩
        go_wp2
        refine ⟨⟨P'++Y',X2,X1,S',by rw [HX2.out],by rw [HX1.out],by rw [HX2.out];omega,by rw [HX1.out];omega,by simp [HP.out,HJ.out,HX2.out];omega,by simpa using h2,by rw [← HT.out,HX12.out];simp⟩,by simp [intOf];omega⟩
      · have hlt:i<j:=by omega
        have hsp:∃ Y1 Y2,Y'=Y1++Y2∧Y1.length=j - i:=⟨Y'.take (j - i),Y'.drop (j - i),(List.take_append_drop (j - i) Y').symm,by rw [List.length_take,HJ.out];omega⟩
        obtain ⟨Y1,Y2,hY12,hY1⟩:=hsp
        have hY2:Y2.length=i:=by have:=HJ.out;rw [hY12] at this;simp at this;omega
        have HY12:=Lib.hid hY12
        have HY1:=Lib.hid hY1
        have HY2:=Lib.hid hY2
        generalize hq1:j - i=d at *
        have hd:j=d+i:=by omega
        have e3:IntKind.i64.wrap ((j:Int) - (i:Int))=(d:Int):=by rw [IntKind.wrap_i64];omega
        have e4:IntKind.i64.wrap ((m:Int)+(j:Int))=((m+j:Nat):Int):=by rw [IntKind.wrap_i64];omega
        have e5:IntKind.i64.wrap (((m+j:Nat):Int) - (i:Int))=((m+d:Nat):Int):=by rw [IntKind.wrap_i64];omega
        have e6:IntKind.i64.wrap ((m:Int)+(j:Int) - (i:Int))=((m+d:Nat):Int):=by rw [IntKind.wrap_i64];omega
        have hgt2:¬ (j:Int)<(i:Int):=by omega
        have hd1:1≤d:=by omega
        have HD:=Lib.hid hd
        clear hY12 hY1 hY2 hij hgt hd hq1
        go_wp2_with fail
        have HMD:=Lib.hid (swapRange_any w0 g off n P' X' Y1 Y2 S' p (m+d) i wr cap F hn hoff (by rw [HI.out,HY2.out]) HP.out.symm (by rw [HP.out,HI.out,HY1.out];omega) HI.out.symm (by have:=HAR.out;rw [HY12.out] at this;simpa using this))
        refine HMD.out.mono ?_
        rintro e w2 ⟨rfl,h2⟩
        go_wp2
        refine ⟨⟨P',Y2,Y1,X'++S',by rw [HY2.out],by rw [HY1.out],by rw [HY2.out];omega,by rw [HY1.out];omega,by rw [HP.out,HY2.out];omega,by simpa using h2,by rw [← HT.out,HY12.out];simp⟩,by have:=HD.out;simp [intOf];omega⟩
open Go.RowKit
def BinRel (p:Int→Prop) (q:Int→Prop) (w0:World) (g off n:Nat) (base:Nat) (T B:List Int) (i j:Value) (wr:World):Prop :=
  ∃ B1 B2 B3:List Int,B=B1++B2++B3∧i=.int .i64 ((base+B1.length:Nat):Int)∧j=.int .i64 ((base+B1.length+B2.length:Nat):Int)∧(∀ z ∈ B1,p z)∧(∀ z ∈ B3,q z)∧Arr w0 g off n T wr
def ShiftRel (w0:World) (g off n a:Nat) (P B1:List Int) (x:Int) (S:List Int) (k:Value) (wr:World):Prop :=
  ∃ D1 D2:List Int,B1=D1++D2∧k=.int .i64 ((a+D1.length:Nat):Int)∧Arr w0 g off n (P++D1++x :: D2++S) wr
theorem split_mid {B2:List Int} {k:Nat} (h:k<B2.length):∃ C1 z C2,B2=C1++z :: C2∧C1.length=k :=
  ⟨B2.take k,B2[k],B2.drop (k+1),by rw [List.getElem_cons_drop,List.take_append_drop],by rw [List.length_take];omega⟩
set_option maxHeartbeats 3200000 in
set_option maxRecDepth 100000 in
theorem merge_left (w0:World) (g off n:Nat) (P B S:List Int) (x:Int) (a m b:Nat) (w:World) (cap:Nat) (hn:n≤1000000) (hoff:off≤1000000) (hsrt:Srt B)
    (ha:a=P.length) (hm:m=P.length+1) (hb:b=P.length+1+B.length) (h:Arr w0 g off n (P++x :: B++S) w) :
    Calls Tryz.prog 323 #[.slice (some ⟨g,off,none⟩) n cap,.int .i64 (a:Nat),.int .i64 (m:Nat),.int .i64 (b:Nat),.func (.func 173) #[] #[]] w (SortPost w0 g off n P (x :: B) S):=by
  have hl:=h.len
  simp at hl
  have H:=Lib.hid h
  have HSRT:=Lib.hid hsrt
  have HPL:=Lib.hid ha
  have hm1:m=a+1:=by omega
  have hb1:b=a+1+B.length:=by omega
  have hbn:b≤n:=by omega
  have e1:IntKind.i64.wrap ((m:Int) - (a:Int))=1:=by rw [IntKind.wrap_i64];omega
  have HM:=Lib.hid hm1
  have HB:=Lib.hid hb1
  have hab:a<b:=by omega
  have hmb:m≤b:=by omega
  clear h hsrt ha hm hb hl hm1 hb1
  go_enter Tryz.func323,Tryz.ntmps323
  go_wp2
  clear e1
  go_loopw [10,11] (fun i j wr=>BinRel (fun z=>clsI z<clsI x) (fun z=>clsI x≤clsI z) w0 g off n m (P++x :: B++S) B i j wr) (fun i j _=>(intOf j).toNat - (intOf i).toNat)
  case atStart=>exact ⟨[],B,[],by simp,by simp,by have:=HB.out;have:=HM.out;simp;omega,fun z hz=>by simp at hz,fun z hz=>by simp at hz,H.out⟩
  case round =>
    obtain ⟨B1,B2,B3,hB,rfl,rfl,hp,hq,harr⟩:=hrel
    have HBB:=Lib.hid hB
    have HP:=Lib.hid hp
    have HQ:=Lib.hid hq
    have HAR:=Lib.hid harr
    have hbl:a+1+(B1.length+B2.length+B3.length)=b:=by have:=HB.out;rw [hB] at this;simp at this;omega
    clear hB hp hq harr
    generalize hi:m+B1.length=i
    generalize hj:i+B2.length=j
    have him:m≤i:=by omega
    have hij:i≤j:=by omega
    have hjb:j≤b:=by have:=HM.out;omega
    have HI:=Lib.hid hi
    have HJ:=Lib.hid hj
    clear hi hj hbl
    by_cases hlt:i<j
    · have e2:IntKind.i64.wrap ((i:Int)+(j:Int))=((i+j:Nat):Int):=by rw [IntKind.wrap_i64];omega
      have hb2:(j:Int)<2000000:=by omega
      go_wp2
      obtain ⟨h,hh,hh1,hh2⟩:∃ h:Nat,((i:Int)+(j:Int)) / 2=(h:Int)∧i≤h∧h<j:=⟨(i+j) / 2,by omega,by omega,by omega⟩
      rw [hh]
      clear hh e2
      obtain ⟨C1,z,C2,hC,hC1⟩:=split_mid (B2:=B2) (k:=h - i) (by have:=HJ.out;omega)
      have HC:=Lib.hid hC
      have HC1:=Lib.hid hC1
      have c0:wr.cell? ⟨g,off+h,none⟩=some (.int .i32 z):=by
        have e:=HAR.out.cell (j:=h) (by omega)
        have e2:=getD_mid (P++x :: (B1++C1)) (C2++B3++S) z
        have e3:(P++x :: (B1++C1)).length=h:=by have:=HI.out;have:=HPL.out;have:=HM.out;simp;omega
        rw [e3] at e2
        rw [e,HBB.out,hC]
        simpa using e2
      have c1:wr.cell? ⟨g,off+a,none⟩=some (.int .i32 x):=by
        have e:=HAR.out.cell (j:=a) (by omega)
        have e2:=getD_mid P (B++S) x
        rw [← HPL.out] at e2
        rw [e]
        simpa using e2
      have hsz:Srt (C1++z :: C2):=by
        have:=HSRT.out
        rw [HBB.out] at this
        rw [← hC]
        exact this.left.right
      have HSZ:=Lib.hid hsz
      clear hC hC1 hsz
      have HX:=Lib.hid (cmp_any z x)
      generalize hdd:clsI z - clsI x=d at HX
      have HDD:=Lib.hid hdd
      clear hdd
      have q2:(0:Int)≤(h:Int):=by omega
      have q3:(h:Int)<(n:Int):=by omega
      have q4:(0:Int)≤(a:Int):=by omega
      have q5:(a:Int)<(n:Int):=by omega
      by_cases hlt2:d<0
      · have hd2:decide (d<0)=true:=decide_eq_true hlt2
        go_quiet ((go_at_call 173;exact Calls.quiet_of_same ((HX.out _).mono fun _ _ ⟨he,hw⟩=>⟨he,hw.symm⟩)))
        go_wp2
        exact ⟨⟨B1++(C1++[z]),C2,B3,by rw [HBB.out,HC.out];simp,by have:=HI.out;have:=HC1.out;simp;omega,by have:=HI.out;have:=HJ.out;have:=HC1.out;have e:=HC.out;have e:=congrArg List.length e;simp at e ⊢;omega,fun y hy=>by
          rcases List.mem_append.1 hy with hy | hy
          · exact HP.out y hy
          · have hz:clsI z<clsI x:=by have:=HDD.out;omega
            rcases List.mem_append.1 hy with hy | hy
            · have:=HSZ.out.cross y hy z (by simp);omega
            · simp at hy;subst hy;exact hz,HQ.out,HAR.out.drewN nq⟩,by simp [intOf];omega⟩
      · have hd2:decide (d<0)=false:=decide_eq_false hlt2
        go_quiet ((go_at_call 173;exact Calls.quiet_of_same ((HX.out _).mono fun _ _ ⟨he,hw⟩=>⟨he,hw.symm⟩)))
        go_wp2
        exact ⟨⟨B1,C1,z :: C2++B3,by rw [HBB.out,HC.out];simp,by rw [HI.out],by have:=HI.out;have:=HC1.out;simp;omega,HP.out,fun y hy=>by
          have hz:clsI x≤clsI z:=by have:=HDD.out;omega
          rcases List.mem_append.1 hy with hy | hy
          · rcases List.mem_cons.1 hy with rfl | hy
            · exact hz
            · have:=(List.pairwise_cons.1 HSZ.out.right).1 y hy;omega
          · exact HQ.out y hy,HAR.out.drewN nq⟩,by simp [intOf];omega⟩
    · have hij2:i=j:=by omega
      have hB2:B2=[]:=List.eq_nil_of_length_eq_zero (by have:=HJ.out;omega)
      subst hB2
      have hBB:B=B1++B3:=by have:=HBB.out;simpa using this
      clear HBB
      have HBB:=Lib.hid hBB
      clear hBB
      have e2:IntKind.i64.wrap ((i:Int) - 1)=((a+B1.length:Nat):Int):=by rw [IntKind.wrap_i64];have:=HI.out;have:=HM.out;omega
      have hbl:a+B1.length<n:=by have h1:=HB.out;rw [HBB.out] at h1;simp at h1;omega
      clear HJ hij2 hij
      generalize hbb:B1.length=bl at e2 hbl
      have HBL:=Lib.hid hbb
      clear hbb
      go_wp2
      go_loopw [13] (fun k wr=>ShiftRel w0 g off n a P B1 x (B3++S) k wr) (fun k _=>n - (intOf k).toNat)
      case atStart=>exact ⟨[],B1,rfl,by simp,by have:=HAR.out;rw [HBB.out] at this;simpa using this⟩
      case round =>
        obtain ⟨D1,D2,hD,rfl,harr⟩:=hrel
        have HD:=Lib.hid hD
        have HAK:=Lib.hid harr
        have hdl:D1.length+D2.length=bl:=by have:=HBL.out;rw [hD] at this;simpa using this
        clear hD harr
        generalize hk:a+D1.length=k
        have HK:=Lib.hid hk
        match D2,hdl,HD,HAK with
        | [], hdl,HD,HAK =>
          have hka:k=a+bl:=by simp at hdl;omega
          have HDL:=Lib.hid hdl
          clear hdl hk
          go_wp2
          go_end0
          refine ⟨rfl,D1++x :: B3,?_,?_,by have:=HAK.out;simpa using this⟩
          · have e:=HD.out
            simp at e
            rw [HBB.out,e]
            have h2:SP ([x]++D1) (D1++[x]):=SP.flip fun u hu v hv=>by
              simp at hu;subst hu
              have:=HP.out v (by rw [e];exact hv);omega
            have:=h2.append (SP.refl B3)
            simpa using this
          · have e:=HD.out
            simp at e
            have hs:=HSRT.out
            rw [HBB.out,e] at hs
            refine Srt.append hs.left (List.pairwise_cons.2 ⟨fun v hv=>HQ.out v hv,hs.right⟩) fun u hu v hv=>?_
            rcases List.mem_cons.1 hv with rfl | hv
            · have:=HP.out u (by rw [e];exact hu);omega
            · exact hs.cross u hu v hv
        | y :: D2,hdl,HD,HAK =>
          simp at hdl
          have hlt:k<a+bl:=by omega
          have hAQ:Arr w0 g off n ((P++D1)++x :: ([]:List Int)++y :: (D2++(B3++S))) wr:=by have:=HAK.out;simpa using this
          have hu:k=(P++D1).length:=by have:=HPL.out;simp;omega
          have hv:k+1=(P++D1).length+1+([]:List Int).length:=by simp at hu ⊢;omega
          have c0:wr.cell? ⟨g,off+k,none⟩=some (.int .i32 x):=by
            have e:=hAQ.cell (j:=k) (by omega)
            rw [e,hu]
            have e:=getD_mid (P++D1) (y :: (D2++(B3++S))) x
            simpa using e
          have c1:wr.cell? ⟨g,off+(k+1),none⟩=some (.int .i32 y):=by
            have e:=hAQ.cell (j:=k+1) (by omega)
            have e2:=getD_mid ((P++D1)++[x]) (D2++(B3++S)) y
            rw [e,hv,show (P++D1)++x :: ([]:List Int)++y :: (D2++(B3++S))=((P++D1)++[x])++y :: (D2++(B3++S)) by simp,show (P++D1).length+1+([]:List Int).length=((P++D1)++[x]).length by simp;omega,e2]
          have f0:=hAQ.frozen (off+k)
          have f1:=hAQ.frozen (off+(k+1))
          have hsw:=Lib.hid (hAQ.swap hu hv)
          have q1:IntKind.i64.wrap ((k:Int)+1)=((k+1:Nat):Int):=by rw [IntKind.wrap_i64];omega
          have hv2:k+1<n:=by omega
          clear hAQ hu hv hdl hk
          generalize hvv:k+1=v at c1 f1 hsw q1 hv2
          have HV:=Lib.hid hvv
          have f2:(wr.setCell ⟨g,off+k,none⟩ (.int .i32 y)).cell? ⟨g,off+v,none⟩=some (.int .i32 y):=by
            rw [World.cell?_setCell_other _ _ _ _ (fun e=>by injection e with _ e _;omega)];exact c1
          have f3:(wr.setCell ⟨g,off+k,none⟩ (.int .i32 y)).frozen? ⟨g,off+v,none⟩=false:=by simpa using f1
          have q3:k<n:=by omega
          have q5:(0:Int)≤(k:Int):=by omega
          have q6:(0:Int)≤(v:Int):=by omega
          have q7:(k:Int)<(n:Int):=by omega
          have q8:(v:Int)<(n:Int):=by omega
          clear hvv
          go_wp2
          go_region
          clear f0 f1 f2 f3 c0 c1
          go_wp2
          exact ⟨⟨D1++[y],D2,by rw [HD.out];simp,by have:=HK.out;have:=HV.out;simp;omega,by have:=hsw.out.drew;simpa using this⟩,by have:=HV.out;simp [intOf];omega⟩
end Go.Proofs.YtpmlggjhfiljmaaGreatDoor
