/- Part 25 of what the law rests on. -/
import Derived.Laws.OwnMore
import Derived.Test.YtpmlggjhfiljmaaGreatDoorS24
set_option linter.all false
namespace Go.Proofs.YtpmlggjhfiljmaaGreatDoor
open Go.RowKit
def SDoPost (R:Int→Int→List Int→Prop) (F:Nat→Prop) (s p:Nat) (m n:Int) (k t q:Nat) (T:TreS) (qt:Nat) (d:Int) (name:ByteArray) (isDir:Bool) (short:Int) (w:World) (e:Ending) (w':World):Prop :=
  (∃ r,r ≠ 0∧(LinkErr T d name short r∨(LinkOk T d name short∧r=12∧∃ k fr bk,R k fr bk∧200<k))∧e=.returned (.tuple #[.int .i64 0,.int .i64 r])∧Fresh w w') ∨
  (LinkOk T d name short∧∃ i fr bk F',R i fr bk∧i≤200∧e=.returned (.tuple #[.int .i64 i,.int .i64 0])∧StoAt w' F' s p m n (k+1) (t+kfr (name.size+9)) (q+kfr (name.size+9)) (linkT T d name isDir short i fr bk) (qt+3)∧Mut F w w'∧Gr F w w' F')
theorem LinkErr.ne {T:TreS} {d:Int} {name:ByteArray} {short r:Int} (h:LinkErr T d name short r):r ≠ 0:=by
  rcases h with ⟨_,h⟩ | ⟨l,_,⟨_,h⟩ | ⟨_,_,h⟩ | ⟨_,_,_,_,h⟩⟩
  · rw [h];split <;> omega
  · omega
  · omega
  · omega
set_option maxRecDepth 100000 in
set_option maxHeartbeats 3200000 in
theorem sdo_any (R:Int→Int→List Int→Prop) (F:Nat→Prop) (s p:Nat) (m n:Int) (k t q:Nat) (T:TreS) (qt:Nat) (w:World) (h:StoAt w F s p m n k t q T qt) (hT:Takes R T qt) (dir:Int) (name:ByteArray) (isDir:Bool) (short:Int) (hd:0≤dir∧dir≤65535) (hs:0≤short∧short≤1000000) (hnm:name.size≤255)
    (hqt:qt≤100000) (hbk:T.bk.length≤100000) (hl:∀ i l,T.dirs i=some l→l.length≤10000) (hnx:0≤T.next∧T.next≤100000) (hm:0≤m∧m+m≤n) (hn:n≤1000000) (ht:1≤t) (hfit:(t:Int)+5≤m) (hq:q≤70000) (hk:k≤100000) :
    Calls Tryz.prog 127 #[.pointer (some ⟨s,0,none⟩),linkV dir name isDir short] w (SDoPost R F s p m n k t q T qt dir name isDir short w):=by
  obtain ⟨v,tr,Fv,At,hb,hFs,hFv,hAt,hs1,hs2,hdj,hv,htr,hFB⟩:=h
  have hsl:=hb.lt
  have H:=Lib.hid (And.intro hb (And.intro hv (And.intro htr hFB)))
  have HOV:=Lib.hid (fun W (hW:Fresh w W)=>over_any Fv v p m n img0 t k q W (hv.fresh hW))
  have HTC:=Lib.hid (fun W (hW:Fresh w W)=>treeClone_any W At tr T qt (htr.fresh hW) (by omega) hbk (fun i l hh=>by have:=hl i l hh;omega))
  have HEN:=Lib.hid (fun W=>dencodeL_any dir name isDir short hd hs hnm W)
  have HDO:=Lib.hid (fun W A x (hx:TreeAt W A x T qt)=>ddoL_any R W A x T qt hx hT dir name isDir short hd hs hnm hqt hl hnx)
  obtain ⟨W5,hW5⟩:∃ W5,((w.alloc (.cells #[.pointer (some ⟨s,0,none⟩)] 150)).alloc (.cells #[.int .i64 1,.int .i64 dir,.int .i64 0,.string name,.string ⟨#[]⟩,.bool isDir,.int .i64 short] 142))=W5:=⟨_,rfl⟩
  have f5:Fresh w W5:=by rw [← hW5];exact ((Fresh.refl w).alloc _).alloc _
  have b0:Blk W5 w.heap.size 150 #[.pointer (some ⟨s,0,none⟩)]:=by rw [← hW5];exact (Blk.new _ _ _).keep ((Fresh.refl _).alloc _)
  have b1:Blk W5 (w.heap.size+1) 142 #[.int .i64 1,.int .i64 dir,.int .i64 0,.string name,.string ⟨#[]⟩,.bool isDir,.int .i64 short]:=by
    rw [← hW5]
    have:=Blk.new (w.alloc (.cells #[.pointer (some ⟨s,0,none⟩)] 150)) 142 #[.int .i64 1,.int .i64 dir,.int .i64 0,.string name,.string ⟨#[]⟩,.bool isDir,.int .i64 short]
    rw [World.size_alloc] at this
    exact this
  have HS5:Hid (W5.heap.size=w.heap.size+2):=Lib.hid (by rw [← hW5];simp)
  have HSP:Hid (∀ W,Fresh W5 W→W.cell? ⟨w.heap.size,0,none⟩=some (.pointer (some ⟨s,0,none⟩))∧W.cell? ⟨s,0,none⟩=some (.pointer (some ⟨v,0,none⟩))∧W.cell? ⟨s,1,none⟩=some (.pointer (some ⟨tr,0,none⟩))∧W.cell? ⟨w.heap.size+1,0,none⟩=some (.int .i64 1)∧W.cell? ⟨w.heap.size+1,1,none⟩=some (.int .i64 dir)∧W.cell? ⟨w.heap.size+1,2,none⟩=some (.int .i64 0)∧W.cell? ⟨w.heap.size+1,3,none⟩=some (.string name)∧W.cell? ⟨w.heap.size+1,4,none⟩=some (.string ⟨#[]⟩)∧W.cell? ⟨w.heap.size+1,5,none⟩=some (.bool isDir)∧W.cell? ⟨w.heap.size+1,6,none⟩=some (.int .i64 short)):=Lib.hid (fun W hW=>by
    have c:=b0.keep hW
    have d:=b1.keep hW
    have a:=hb.keep (f5.trans hW)
    exact ⟨by rw [c.cell];rfl,by rw [a.cell];rfl,by rw [a.cell];rfl,by rw [d.cell];rfl,by rw [d.cell];rfl,by rw [d.cell];rfl,by rw [d.cell];rfl,by rw [d.cell];rfl,by rw [d.cell];rfl,by rw [d.cell];rfl⟩)
  have HF5:=Lib.hid f5
  obtain ⟨e0,e1,e2,e3,e4,e5,e6,e7,e8,e9⟩:=HSP.out W5 (Fresh.refl _)
  clear hb hv htr hFB b0 b1 f5 hl hT
  go_enter Tryz.func127,Tryz.ntmps127
  go_wp2_with fail
  refine (HOV.out _ HF5.out).mono ?_
  rintro e w1 ⟨rfl,rfl⟩
  clear hW5
  go_wp2_with fail
  refine (HTC.out _ HF5.out).mono ?_
  rintro e w2 ⟨x,rfl,hx,hf2⟩
  have HX:=Lib.hid (And.intro hx hf2)
  clear e0 e1 e2 e3 e4 e5 e6 e7 e8 e9
  obtain ⟨e0,e1,e2,e3,e4,e5,e6,e7,e8,e9⟩:=HSP.out w2 hf2
  clear hx hf2
  go_wp2_with fail
  refine (HDO.out w2 (fun g=>W5.heap.size≤g∧g<w2.heap.size) x (HX.out.1.mono (fun g hg hh=>⟨hh,hg⟩))).mono ?_
  rintro e w3 (⟨r,hre,rfl,hf3⟩ | ⟨hok,i,fr,bk,A3,hR,hm3,hg3,⟨hi,rfl,ht3⟩ | ⟨hi,rfl,_⟩⟩)
  · have hr0:=hre.ne
    have hrb:(r != 0)=true:=by simp [hr0]
    have hfin:Hid (SDoPost R F s p m n k t q T qt dir name isDir short w (.returned (.tuple #[.int .i64 0,.int .i64 r])) w3):=Lib.hid (.inl ⟨r,hr0,.inl hre,rfl,(HF5.out.trans HX.out.2).trans hf3⟩)
    clear hre hf3 hr0
    go_wp2
    go_ret2
    exact hfin.out
  · have z5:=HF5.out.size
    have f3:Fresh W5 w3:=HX.out.2.mut2 hm3 (fun j hj=>hj.1)
    have HM3:=Lib.hid (And.intro hok (And.intro hR (And.intro hg3 (And.intro ht3 (And.intro f3 hm3.size)))))
    clear e0 e1 e2 e3 e4 e5 e6 e7 e8 e9
    obtain ⟨e0,e1,e2,e3,e4,e5,e6,e7,e8,e9⟩:=HSP.out w3 f3
    clear hok hR hm3 hg3 ht3 f3
    go_wp2_with fail
    refine (HEN.out _).mono ?_
    rintro e w4 ⟨r,rfl,hrs,hf4⟩
    have f4:Fresh W5 (w4.alloc (.cells #[.string r] 9)):=(HM3.out.2.2.2.2.1.trans hf4).alloc _
    have hr9:(w4.alloc (.cells #[.string r] 9)).cell? ⟨w4.heap.size,0,none⟩=some (.string r):=by
      have:=(Blk.new w4 9 #[.string r]).cell 0
      exact this
    have z4:W5.heap.size≤w4.heap.size:=(HM3.out.2.2.2.2.1.trans hf4).size
    clear e0 e1 e2 e3 e4 e5 e6 e7 e8 e9
    obtain ⟨e0,e1,e2,e3,e4,e5,e6,e7,e8,e9⟩:=HSP.out _ f4
    have hkf:kfr r.size≤5:=by rw [hrs];unfold kfr;split <;> omega
    have HRUN:=Lib.hid (run1_any Fv s v p m n k t q (w4.alloc (.cells #[.string r] 9)) w.heap.size w4.heap.size undef rfl r e0 hr9 e1 (by have:=HS5.out;simp;omega) (by simp) (by simp;omega) (H.out.2.1.fresh (HF5.out.trans f4)) hm hn ht (by omega) (by omega) (by omega) (by omega) (by omega))
    have HF4:=Lib.hid (And.intro hrs (And.intro hf4 f4))
    clear hrs hf4 f4 hr9 hkf
    go_wp2_with fail
    refine HRUN.out.mono ?_
    rintro e w5 ⟨rfl,F2,hv2,hm2,hg2⟩
    have hFvl:∀ j,Fv j→j<w.heap.size:=fun j hj=>by have:=H.out.2.2.2 j (hFv j hj);exact this
    have fC:Fresh w (w4.alloc (.cells #[.string r] 9)):=HF5.out.trans HF4.out.2.2
    have zC:=fC.size
    have e0':w5.cell? ⟨w.heap.size,0,none⟩=some (.pointer (some ⟨s,0,none⟩)):=(hm2.cell (p:=⟨w.heap.size,0,none⟩) (by have:=HS5.out;show w.heap.size<_;simp;omega) (fun h=>by have:=hFvl w.heap.size h;omega)).trans e0
    have bs5:Blk w5 s 201 #[.pointer (some ⟨v,0,none⟩),.pointer (some ⟨tr,0,none⟩)]:=(H.out.1.keep fC).mut hm2 hs1
    have e2':w5.cell? ⟨s,1,none⟩=some (.pointer (some ⟨tr,0,none⟩)):=by rw [bs5.cell];rfl
    have g2':w5.frozen? ⟨s,1,none⟩=false:=bs5.frozen 1
    have u6:Mut (fun j=>j=s) w5 (w5.setCell ⟨s,1,none⟩ (.pointer (some ⟨x,0,none⟩))):=(Mut.refl (fun j=>j=s) w5).setCell (p:=⟨s,1,none⟩) (.inl rfl) _
    have hfin:Hid (SDoPost R F s p m n k t q T qt dir name isDir short w (.returned (.tuple #[.int .i64 i,.int .i64 0])) (w5.setCell ⟨s,1,none⟩ (.pointer (some ⟨x,0,none⟩)))):=Lib.hid (by
      obtain ⟨hok,hR,hg3,ht3,f3,z3⟩:=HM3.out
      obtain ⟨hrs,hf4,f4⟩:=HF4.out
      have hz4:=hf4.size
      have hz5:=hm2.size
      have hz5':w4.heap.size+1≤w5.heap.size:=by simpa using hz5
      have hz6:=u6.size
      have hs5:=HS5.out
      have hz2:=HX.out.2.size
      have hA3:∀ j,A3 j→w.heap.size≤j∧j<w4.heap.size:=fun j hj=>by
        rcases hg3 j hj with h | h
        · omega
        · omega
      have hF2:∀ j,F2 j→F j∨(w4.heap.size≤j∧j<w5.heap.size):=fun j hj=>by
        rcases hg2 j hj with h | h
        · exact .inl (hFv j h)
        · have:=h.1;simp at this;exact .inr ⟨by omega,h.2⟩
      have hF2s:¬ F2 s:=fun h=>by
        rcases hg2 s h with h | h
        · exact hs1 h
        · have:=h.1;simp at this;omega
      rw [hrs] at hv2
      refine .inr ⟨hok,i,fr,bk,ext F w (w5.setCell ⟨s,1,none⟩ (.pointer (some ⟨x,0,none⟩))),hR,hi,rfl,⟨v,x,F2,A3,bs5.set (i:=1),.inl hFs,fun j hj=>?_,fun j hj=>.inr ⟨(hA3 j hj).1,by have:=(hA3 j hj).2;omega⟩,hF2s,fun h=>by have:=(hA3 s h).1;omega,fun j hj h=>?_,hv2.mut u6 (fun j hj e=>hF2s (e ▸ hj)),?_,fun j hj=>?_⟩,?_,Gr.ext _ _ _⟩
      · rcases hF2 j hj with h | h
        · exact .inl h
        · exact .inr ⟨by omega,by omega⟩
      · have ha:=hA3 j hj
        rcases hg2 j h with h | h
        · have:=hFvl j h;omega
        · have:=h.1;simp at this;omega
      · exact (((ht3.fresh hf4).fresh ((Fresh.refl _).alloc _)).mut hm2 (fun j hj h=>by have:=hFvl j h;have:=(hA3 j hj).1;omega)).mut u6 (fun j hj e=>by have:=(hA3 j hj).1;omega)
      · rcases hj with h | h
        · have:=H.out.2.2.2 j h;omega
        · exact h.2
      · exact (fC.andMut (hm2.mono (T:=F) (fun j _ h=>hFv j h))).trans2 u6 (fun _ h=>h) (fun j _ e=>by rw [e];exact hFs))
    clear hv2 hm2 hg2 u6 bs5 e1 e2 e3 e4 e5 e6 e7 e8 e9 e0
    go_wp2
    go_ret2
    exact hfin.out
  · have z5:=HF5.out.size
    have hf3:Fresh w w3:=(HF5.out.trans HX.out.2).mut2 hm3 (fun j hj=>by omega)
    have hfin:Hid (SDoPost R F s p m n k t q T qt dir name isDir short w (.returned (.tuple #[.int .i64 0,.int .i64 12])) w3):=Lib.hid (.inl ⟨12,by omega,.inr ⟨hok,rfl,i,fr,bk,hR,hi⟩,rfl,hf3⟩)
    clear hok hR hm3 hg3 hf3
    go_wp2
    go_ret2
    exact hfin.out
open Go.RowKit
theorem splL_ne:∀ l:List UInt8,splL l ≠ []
  | []=>by simp [splL]
  | c :: l=>by
    unfold splL
    split
    · simp
    · split <;> simp
theorem splL_len:∀ l:List UInt8,(splL l).length=l.count 47+1
  | []=>rfl
  | c :: l=>by
    have ih:=splL_len l
    unfold splL
    by_cases h:c.toNat=47
    · have e:c=47:=UInt8.toNat_inj.1 (by rw [h];rfl)
      rw [if_pos h,e]
      simp [ih]
    · have e:c ≠ 47:=fun e=>h (by rw [e];rfl)
      rw [if_neg h,List.count_cons_of_ne (by simpa using e)]
      split
      · rename_i a t hq
        rw [hq] at ih
        simpa using ih
      · rename_i hq
        exact absurd hq (splL_ne l)
theorem splL_none:∀ {l:List UInt8},Lib.indexByte l 47<0→splL l=[l]
  | [],_=>rfl
  | c :: l,h=>by
    unfold Lib.indexByte at h
    by_cases e:c=47
    · rw [e] at h;simp at h
    · have h1:(c == 47)=false:=by simpa using e
      have h2:¬ c.toNat=47:=fun q=>e (UInt8.toNat_inj.1 (by rw [q];rfl))
      rw [h1] at h
      simp only [Bool.false_eq_true,if_false] at h
      have:=Lib.indexByte_ge l 47
      have h3:Lib.indexByte l 47<0:=by
        split at h
        · rename_i q;simp at q;omega
        · omega
      have ih:=splL_none h3
      unfold splL
      rw [if_neg h2,ih]
theorem splL_some:∀ {l:List UInt8} {k:Nat},Lib.indexByte l 47=k→splL l=l.take k :: splL (l.drop (k+1))
  | [],k,h=>by simp [Lib.indexByte] at h
  | c :: l,k,h=>by
    unfold Lib.indexByte at h
    by_cases e:c=47
    · rw [e] at h ⊢
      simp at h
      have:k=0:=by omega
      subst this
      rw [splL,if_pos (by rfl)]
      simp
    · have h1:(c == 47)=false:=by simpa using e
      have h2:¬ c.toNat=47:=fun q=>e (UInt8.toNat_inj.1 (by rw [q];rfl))
      rw [h1] at h
      simp only [Bool.false_eq_true,if_false] at h
      have:=Lib.indexByte_ge l 47
      by_cases h3:Lib.indexByte l 47=-1
      · rw [h3] at h;simp at h
      · have h4:(Lib.indexByte l 47 == -1)=false:=by simpa using h3
        rw [h4] at h
        simp only [Bool.false_eq_true,if_false] at h
        cases k with
        | zero=>omega
        | succ k =>
          have ih:=splL_some (l:=l) (k:=k) (by omega)
          conv=>lhs;rw [splL,if_neg h2,ih]
          simp
theorem splB_len (s:ByteArray):(splB s).length=s.data.toList.count 47+1:=by unfold splB;rw [List.length_map,splL_len]
theorem splB_none {s:ByteArray} (h:Lib.indexByte s.data.toList 47<0):splB s=[s]:=by
  unfold splB
  rw [splL_none h]
  simp
theorem splB_some {s:ByteArray} {k:Nat} (h:Lib.indexByte s.data.toList 47=k) (hk:k<s.size):splB s=s.extract 0 k :: splB (s.extract (k+1) s.size):=by
  unfold splB
  rw [splL_some h,List.map_cons]
  congr 1
  · apply ByteArray.ext
    rw [ByteArray.data_extract]
    apply Array.ext'
    simp
  · congr 2
    rw [ByteArray.data_extract]
    simp
    rw [List.take_of_length_le (by simp)]
theorem SlS.fresh {w w':World} {A:Nat→Prop} {v:Value} {l:List ByteArray} (h:SlS w A v l) (hf:Fresh w w'):SlS w' A v l:=SlG.fresh h hf
theorem SlS.cases {w:World} {A:Nat→Prop} {v:Value} {l:List ByteArray} (h:SlS w A v l):(l=[]∧∃ a c,v=.slice a 0 c)∨(0<l.length∧∃ g off cap,v=.slice (some ⟨g,off,none⟩) l.length cap∧l.length≤cap∧A g∧g<w.heap.size ∧
    ∀ k (hk:k<l.length),w.cell? ⟨g,off+k,none⟩=some (.string l[k])):=by
  obtain ⟨h1,a,cap,rfl,hcap,h0 | ⟨g,off,rfl,hA,hg,hc⟩⟩:=h
  · have:l=[]:=List.eq_nil_of_length_eq_zero h0
    subst this
    exact .inl ⟨rfl,_,_,rfl⟩
  · by_cases hl:0<l.length
    · refine .inr ⟨hl,g,off,cap,rfl,hcap,hA,hg,fun k hk=>?_⟩
      rw [hc k (by omega)]
      simp [strs,hk]
    · have:l=[]:=List.eq_nil_of_length_eq_zero (by omega)
      subst this
      exact .inl ⟨rfl,_,_,rfl⟩
theorem set_mid (A:List Value) (m:Nat) (x z:Value):(A++List.replicate (m+1) z).toArray.setIfInBounds A.length x=(A++[x]++List.replicate m z).toArray:=by
  apply Array.ext'
  rw [Array.toList_setIfInBounds]
  show (A++List.replicate (m+1) z).set A.length x=A++[x]++List.replicate m z
  rw [List.set_append_right _ _ (Nat.le_refl _),Nat.sub_self,List.replicate_succ,List.set_cons_zero,List.append_assoc]
  rfl
def SplPost (l:List ByteArray) (w:World) (e:Ending) (w':World):Prop:=∃ g c,e=.returned (.slice (some ⟨g,0,none⟩) l.length c)∧SlS w' (fun g=>w.heap.size≤g) (.slice (some ⟨g,0,none⟩) l.length c) l∧Fresh w w'
def slashS:ByteArray:=⟨#[47]⟩
def SpRel (s:ByteArray) (n ga:Nat) (w:World) (sv i:Value) (wr:World):Prop :=
  ∃ (D:List ByteArray) (s':ByteArray),sv=.string s'∧i=.int .i64 (D.length:Nat)∧D++splB s'=splB s∧s'.size≤s.size∧Blk wr ga 9 (D.map Value.string++List.replicate (n+1 - D.length) (Value.string ⟨#[]⟩)).toArray∧Fresh w wr
set_option maxHeartbeats 1600000 in
set_option maxRecDepth 100000 in
theorem genSplit_any (s:ByteArray) (hs:s.size≤2000) (w:World):Calls Tryz.prog 299 #[.string s,.string ⟨#[47]⟩,.int .i64 0,.int .i64 (-1)] w (SplPost (splB s) w):=by
  have hlen:=splB_len s
  obtain ⟨n,hn⟩:∃ n,s.data.toList.count 47=n:=⟨_,rfl⟩
  have hns:n≤s.size:=by
    rw [← hn]
    have:=List.count_le_length (a:=(47:UInt8)) (l:=s.data.toList)
    have h2:s.data.toList.length=s.size:=by simp
    omega
  rw [hn] at hlen
  have HL:=Lib.hid hlen
  have HC:=Lib.hid (fun W=>Tryz.strings_Count_one s 47 W)
  unfold Lib.countByte at HC
  rw [hn] at HC
  have HI:=Lib.hid (fun s W=>Tryz.strings_Index_one s 47 W)
  clear hn hlen
  obtain ⟨i0,hi0,hz0,hz1,hz2⟩:=info_partsG infoStr
  have hmk:=fun W=>run_makeSlice (P:=Tryz.prog) W 38 9 i0 (.string ByteArray.empty) Tryz.underlying38 hi0 hz0 .i64 .i64 ((n:Int)+1) ((n:Int)+1) (by omega) (by omega) (by rw [hz1];omega) (by rw [hz2];omega) (by omega)
  have htn:((n:Int)+1).toNat=n+1:=by omega
  rw [htn,hz1] at hmk
  have hmc:madeCells (Value.string ByteArray.empty).cells ((n+1) * 1)=(List.replicate (n+1) (Value.string ⟨#[]⟩)).toArray:=by
    apply Array.ext'
    rw [Nat.mul_one]
    exact toList_madeCells_one _ _
  rw [hmc] at hmk
  have hmin:min (n:Int) (s.size:Int)=n:=by omega
  have HB:=Lib.hid (fun W:World=>Blk.new W 9 (List.replicate (n+1) (Value.string ⟨#[]⟩)).toArray)
  obtain ⟨cs,hcs⟩:∃ cs,(List.replicate (n+1) (Value.string ⟨#[]⟩)).toArray=cs:=⟨_,rfl⟩
  rw [hcs] at hmk HB
  have HCS:=Lib.hid hcs
  clear hcs htn hmc hi0 hz0 hz1 hz2
  go_enter Tryz.func299,Tryz.ntmps299
  go_wp2_with fail
  refine (HC.out _).mono ?_
  rintro e w1 ⟨rfl,rfl⟩
  go_wp2_with fail
  go_loopw [0,10] (fun sv i wr=>SpRel s n w1.heap.size w1 sv i wr) (fun _ i _=>n - (intOf i).toNat)
  case atStart=>exact ⟨[],s,rfl,rfl,rfl,Nat.le_refl _,by have:=HB.out w1;rw [← HCS.out] at this ⊢;simpa using this,(Fresh.refl _).alloc _⟩
  case round =>
    obtain ⟨D,s',rfl,rfl,hD,hs',hblk,hf⟩:=hrel
    have hDl:D.length+(splB s').length=n+1:=by rw [← HL.out,← hD];simp
    have hsl:=splB_len s'
    obtain ⟨j,hj⟩:∃ j,D.length=j:=⟨_,rfl⟩
    have HJ:=Lib.hid hj
    have hjn:j≤n:=by omega
    rw [hj] at hblk hDl ⊢
    obtain ⟨ga,hga⟩:∃ ga,w1.heap.size=ga:=⟨_,rfl⟩
    have HGA:=Lib.hid hga
    rw [hga] at hblk ⊢
    have HBL:=Lib.hid hblk
    have HD:=Lib.hid hD
    have HF:=Lib.hid hf
    have hfz:wr.frozen? ⟨ga,j,none⟩=false:=hblk.frozen j
    have hcl:wr.cell? ⟨ga,j,none⟩=some (.string ⟨#[]⟩):=by
      rw [hblk.cell]
      simp only [List.getElem?_toArray]
      rw [List.getElem?_append_right (by rw [List.length_map,HJ.out];exact Nat.le_refl _),List.length_map,HJ.out,Nat.sub_self,List.getElem?_replicate,if_pos (by omega)]
    clear hj hga hblk hD hf
    have HI2:=Lib.hid (HI.out s' wr)
    obtain ⟨k,hk⟩:∃ k,Lib.indexByte s'.data.toList 47=k:=⟨_,rfl⟩
    have hkg:=Lib.indexByte_ge s'.data.toList 47
    rw [hk] at HI2 hkg
    have HK:=Lib.hid hk
    clear hk
    by_cases hlt:j<n
    · have i1:(j:Int)<(n:Int):=by omega
      have hk0:0≤k:=by
        rcases Int.lt_or_le k 0 with h | h
        · have:=splB_none (s:=s') (by rw [HK.out];exact h)
          rw [this] at hDl
          simp at hDl
          omega
        · exact h
      obtain ⟨q,rfl⟩:=Int.eq_ofNat_of_zero_le hk0
      have hqs:q<s'.size:=by
        have:=(Lib.indexByte_some HK.out).1
        obtain ⟨h,_⟩:=List.getElem?_eq_some_iff.1 this
        simpa using h
      have HREL:Hid (∀ W,Fresh wr W→W=wr→SpRel s n ga w1 (.string (s'.extract (q+1) s'.size)) (.int .i64 ((j:Int)+1)) (W.setCell ⟨ga,j,none⟩ (.string (s'.extract 0 q)))):=Lib.hid (fun W _ e=>by
        subst e
        refine ⟨D++[s'.extract 0 q],s'.extract (q+1) s'.size,rfl,by rw [List.length_append,HJ.out];rfl,?_,?_,?_,?_⟩
        · rw [List.append_assoc,List.singleton_append,← splB_some HK.out hqs]
          exact HD.out
        · rw [ByteArray.size_extract];omega
        · have hb:=HBL.out.set (i:=j) (u:=.string (s'.extract 0 q))
          have e2:(D.map Value.string++List.replicate (n+1 - j) (Value.string ⟨#[]⟩)).toArray.setIfInBounds j (.string (s'.extract 0 q))=((D++[s'.extract 0 q]).map Value.string++List.replicate (n+1 - (D++[s'.extract 0 q]).length) (Value.string ⟨#[]⟩)).toArray:=by
            obtain ⟨r,hr⟩:∃ r,n+1 - j=r+1:=⟨n - j,by omega⟩
            have h1:=set_mid (D.map Value.string) r (.string (s'.extract 0 q)) (Value.string ⟨#[]⟩)
            rw [List.length_map,HJ.out] at h1
            rw [hr,h1,List.map_append,show n+1 - (D++[s'.extract 0 q]).length=r by rw [List.length_append,HJ.out,List.length_singleton];omega]
            rfl
          rw [← e2]
          exact hb
        · exact Fresh.setCell HF.out (by have:=HGA.out;show _≤ga;omega) _)
      have hqn:¬ (q:Int)<0:=by omega
      have i2:(q:Int)+1≤(s'.size:Int):=by omega
      have i3:q+1≤s'.size:=by omega
      have i4:q≤s'.size:=by omega
      clear hkg hk0 hDl hsl hmin hmk
      go_wp2_with fail
      refine HI2.out.mono ?_
      rintro e w2 ⟨rfl,rfl⟩
      go_wp2_with fail
      exact ⟨HREL.out _ (Fresh.refl _) rfl,by simp [intOf];omega⟩
    · have hjn2:j=n:=by omega
      subst hjn2
      have hs1:splB s'=[s']:=by
        rcases Int.lt_or_le k 0 with h | h
        · exact splB_none (by rw [HK.out];exact h)
        · obtain ⟨q,rfl⟩:=Int.eq_ofNat_of_zero_le h
          have h2:q<s'.size:=by
            have:=(Lib.indexByte_some HK.out).1
            obtain ⟨h,_⟩:=List.getElem?_eq_some_iff.1 this
            simpa using h
          rw [splB_some HK.out h2] at hDl
          have h3:=splB_len (s'.extract (q+1) s'.size)
          rw [List.length_cons] at hDl
          clear hmin hmk
          omega
      have HFIN:Hid (∀ W,W=wr→SplPost (splB s) w1 (.returned (.slice (some ⟨ga,0,none⟩) (j+1) (j+1))) (W.setCell ⟨ga,j,none⟩ (.string s'))):=Lib.hid (fun W e=>by
        subst e
        have hd:=HD.out
        rw [hs1] at hd
        have hb:=HBL.out.set (i:=j) (u:=.string s')
        have h1:=set_mid (D.map Value.string) 0 (.string s') (Value.string ⟨#[]⟩)
        rw [List.length_map,HJ.out] at h1
        rw [show j+1 - j=0+1 by omega,h1] at hb
        have e3:(D.map Value.string++[Value.string s']++List.replicate 0 (Value.string ⟨#[]⟩))=strs (splB s):=by rw [← hd];simp [strs]
        rw [e3] at hb
        have hl:(splB s).length=j+1:=HL.out
        refine ⟨ga,j+1,by rw [hl],?_,Fresh.setCell HF.out (by have:=HGA.out;show _≤ga;omega) _⟩
        refine ⟨by rw [strs_len];omega,_,_,rfl,by omega,.inr ⟨ga,0,rfl,by have:=HGA.out;show _≤ga;omega,hb.lt,fun i hi=>?_⟩⟩
        rw [hb.cell]
        simp)
      have i1:¬ (j:Int)<(j:Int):=by omega
      clear hkg hDl hsl hmin hmk
      go_wp2_with fail
      go_ret
      exact HFIN.out _ rfl
theorem strSplit_any (s:ByteArray) (hs:s.size≤2000) (w:World):Calls Tryz.prog 217 #[.string s,.string ⟨#[47]⟩] w (SplPost (splB s) w):=by
  have HG:=Lib.hid (genSplit_any s hs w)
  go_enter Tryz.func217,Tryz.ntmps217
  go_wp2_with fail
  refine HG.out.mono ?_
  rintro e w1 ⟨g,c,rfl,hsl,hf⟩
  have HF:=Lib.hid (And.intro hsl hf)
  clear hsl hf
  go_wp2
  go_ret
  exact ⟨g,c,rfl,HF.out.1,HF.out.2⟩
open Go.RowKit
theorem Blk.set5 {w:World} {g:Nat} {t:TypeId} {q0 q1 q2 q3 q4:Value} (h:Blk w g t #[q0,q1,q2,q3,q4]) (a b c d e:Value):Blk (((((w.setCell ⟨g,0,none⟩ a).setCell ⟨g,1,none⟩ b).setCell ⟨g,2,none⟩ c).setCell ⟨g,3,none⟩ d).setCell ⟨g,4,none⟩ e) g t #[a,b,c,d,e]:=by
  have h0:Blk _ g t #[a,q1,q2,q3,q4]:=h.set (i:=0) (u:=a)
  have h1:Blk _ g t #[a,b,q2,q3,q4]:=h0.set (i:=1) (u:=b)
  have h2:Blk _ g t #[a,b,c,q3,q4]:=h1.set (i:=2) (u:=c)
  have h3:Blk _ g t #[a,b,c,d,q4]:=h2.set (i:=3) (u:=d)
  exact h3.set (i:=4) (u:=e)
def ent0:Ent:=⟨⟨#[]⟩,0,false,0,0⟩
def FFindPost (r:Option Ent) (w:World) (e:Ending) (w':World):Prop:=e=.returned (.tuple #[entV (r.getD ent0),.bool r.isSome])∧Fresh w w'
set_option maxRecDepth 100000 in
set_option maxHeartbeats 800000 in
theorem ffind_any (enc:Int) (A:Nat→Prop) (v:Value) (l:List Ent) (name:ByteArray) (w:World) (h:SlE w A v l) (hl:l.length≤1000000) (ho:∀ e ∈ l,OfOK enc e) (hGT:GT w) :
    Calls Tryz.prog 183 #[.int .i64 enc,v,.string name] w (FFindPost (l.find? (faceB enc name)) w):=by
  obtain ⟨W,hW⟩:∃ W,((w.alloc (.cells #[.int .i64 enc] 3)).alloc (.cells #[.string name] 9)).alloc (.cells #[.string ⟨#[]⟩,.int .i64 0,.bool false,.int .i64 0,.int .i64 0] 88)=W:=⟨_,rfl⟩
  have hf:Fresh w W:=by rw [← hW];exact (((Fresh.refl w).alloc _).alloc _).alloc _
  have b0:Blk W w.heap.size 3 #[.int .i64 enc]:=by rw [← hW];exact (Blk.new _ _ _).keep (((Fresh.refl _).alloc _).alloc _)
  have b1:Blk W (w.heap.size+1) 9 #[.string name]:=by
    rw [← hW]
    have:=Blk.new (w.alloc (.cells #[.int .i64 enc] 3)) 9 #[.string name]
    rw [World.size_alloc] at this
    exact this.keep ((Fresh.refl _).alloc _)
  have b2:Blk W (w.heap.size+2) 88 #[.string ⟨#[]⟩,.int .i64 0,.bool false,.int .i64 0,.int .i64 0]:=by
    rw [← hW]
    have:=Blk.new ((w.alloc (.cells #[.int .i64 enc] 3)).alloc (.cells #[.string name] 9)) 88 #[.string ⟨#[]⟩,.int .i64 0,.bool false,.int .i64 0,.int .i64 0]
    rw [World.size_alloc,World.size_alloc] at this
    exact this
  have HX:=Lib.hid (indexFunc_any A v l W (h.fresh hf) hl 270 #[] #[.pointer (some ⟨w.heap.size,0,none⟩),.pointer (some ⟨w.heap.size+1,0,none⟩)] (faceB enc name) ⟨enters_find1,fun W' hW' e he=>find1_any enc name e (ho e he) w.heap.size (w.heap.size+1) W' ((b0.keep hW').cell 0) ((b1.keep hW').cell 0) (b0.keep hW').lt (b1.keep hW').lt (hGT.fresh (hf.trans hW'))⟩)
  have HS:=Lib.hid (h.fresh hf)
  have HF:=Lib.hid hf
  have HB:=Lib.hid b2
  have HFX:=Lib.hid (fidx_find (pr:=faceB enc name) (l:=l))
  obtain ⟨k,hk⟩:∃ k,fidx (faceB enc name) l=k:=⟨_,rfl⟩
  have hge:=fidx_ge (faceB enc name) l
  have hlt:=fidx_lt (faceB enc name) l
  rw [hk] at HX HFX hge hlt
  obtain ⟨a,c,rfl⟩:∃ a c,v=.slice a l.length c:=by obtain ⟨_,a,c,q,_⟩:=h;exact ⟨a,c,q⟩
  obtain ⟨r,hr⟩:∃ r,l.find? (faceB enc name)=r:=⟨_,rfl⟩
  rw [hr] at HFX ⊢
  clear hk hr b0 b1 b2 hf h ho hGT
  by_cases hn:k<0
  · have hr0:=HFX.out.1 hn
    subst hr0
    go_enter Tryz.func183,Tryz.ntmps183
    go_wp2_with fail
    refine HX.out.mono ?_
    rintro e w1 ⟨rfl,hf1⟩
    have HF1:=Lib.hid (HF.out.trans hf1)
    have hb:Blk w1 (w.heap.size+1+1) _ _:=HB.out.keep hf1
    have f0:w1.frozen? ⟨w.heap.size+2,0,none⟩=false:=hb.frozen 0
    have f1:w1.frozen? ⟨w.heap.size+2,1,none⟩=false:=hb.frozen 1
    have f2:w1.frozen? ⟨w.heap.size+2,2,none⟩=false:=hb.frozen 2
    have f3:w1.frozen? ⟨w.heap.size+2,3,none⟩=false:=hb.frozen 3
    have f4:w1.frozen? ⟨w.heap.size+2,4,none⟩=false:=hb.frozen 4
    have c0:w1.cell? ⟨w.heap.size+2,0,none⟩=some (.string ⟨#[]⟩):=hb.cell 0
    have c1:w1.cell? ⟨w.heap.size+2,1,none⟩=some (.int .i64 0):=hb.cell 1
    have c2:w1.cell? ⟨w.heap.size+2,2,none⟩=some (.bool false):=hb.cell 2
    have c3:w1.cell? ⟨w.heap.size+2,3,none⟩=some (.int .i64 0):=hb.cell 3
    have c4:w1.cell? ⟨w.heap.size+2,4,none⟩=some (.int .i64 0):=hb.cell 4
    clear hf1 hW
    have hz:=Blk.set5 hb (.string ⟨#[]⟩) (.int .i64 0) (.bool false) (.int .i64 0) (.int .i64 0)
    have HZ:=Lib.hid hz
    clear hz
    go_wp2
    have hz:=HZ.out
    refine bodyPost_ret (v:=.tuple #[entV ent0,.bool false]) ?_ rfl ?_
    · simp [results,Tryz.results183,go_sem,hz.cell 0,hz.cell 1,hz.cell 2,hz.cell 3,hz.cell 4]
      exact ⟨rfl,rfl,rfl,rfl,rfl⟩
    · exact ⟨rfl,Fresh.setCell (Fresh.setCell (Fresh.setCell (Fresh.setCell (Fresh.setCell HF1.out (by show _≤w.heap.size+1+1;omega) _) (by show _≤w.heap.size+1+1;omega) _) (by show _≤w.heap.size+1+1;omega) _) (by show _≤w.heap.size+1+1;omega) _) (by show _≤w.heap.size+1+1;omega) _⟩
  · obtain ⟨q,rfl⟩:=Int.eq_ofNat_of_zero_le (show 0≤k by omega)
    obtain ⟨hq,hr⟩:=HFX.out.2 q rfl
    subst hr
    rcases SlE.cases HS.out with ⟨h0,_⟩ | ⟨hl0,g,off,cap,hv,hcap,hA,hg,hc⟩
    · rw [h0] at hq;simp at hq
    · injection hv with hv1 _ hv2
      subst hv1 hv2
      have HC:=Lib.hid (hc q hq)
      obtain ⟨⟨nm,nd,dr,ck,sh⟩,he⟩:∃ e,l[q]=e:=⟨_,rfl⟩
      rw [he] at HC ⊢
      obtain ⟨n,hn2⟩:∃ n,l.length=n:=⟨_,rfl⟩
      rw [hn2] at hq hcap hl0 HX ⊢
      have i0:(0:Int)≤(q:Int):=by omega
      have i1:(q:Int)<(n:Int):=by omega
      have hfi:=HF.out
      clear hc hA he HFX hge hlt hn HS hl hl0 hn2 hfi
      go_enter Tryz.func183,Tryz.ntmps183
      go_wp2_with fail
      refine HX.out.mono ?_
      rintro e w1 ⟨rfl,hf1⟩
      have HF1:=Lib.hid (HF.out.trans hf1)
      have hb:Blk w1 (w.heap.size+1+1) _ _:=HB.out.keep hf1
      have f0:w1.frozen? ⟨w.heap.size+2,0,none⟩=false:=hb.frozen 0
      have f1:w1.frozen? ⟨w.heap.size+2,1,none⟩=false:=hb.frozen 1
      have f2:w1.frozen? ⟨w.heap.size+2,2,none⟩=false:=hb.frozen 2
      have f3:w1.frozen? ⟨w.heap.size+2,3,none⟩=false:=hb.frozen 3
      have f4:w1.frozen? ⟨w.heap.size+2,4,none⟩=false:=hb.frozen 4
      have c0:w1.cell? ⟨w.heap.size+2,0,none⟩=some (.string ⟨#[]⟩):=hb.cell 0
      have c1:w1.cell? ⟨w.heap.size+2,1,none⟩=some (.int .i64 0):=hb.cell 1
      have c2:w1.cell? ⟨w.heap.size+2,2,none⟩=some (.bool false):=hb.cell 2
      have c3:w1.cell? ⟨w.heap.size+2,3,none⟩=some (.int .i64 0):=hb.cell 3
      have c4:w1.cell? ⟨w.heap.size+2,4,none⟩=some (.int .i64 0):=hb.cell 4
      obtain ⟨x0,x1,x2,x3,x4⟩:=HC.out
      have d0:=(Below.cell hf1 (p:=⟨g,off+q * 5,none⟩) hg).trans x0
      have d1:=(Below.cell hf1 (p:=⟨g,off+q * 5+1,none⟩) hg).trans x1
      have d2:=(Below.cell hf1 (p:=⟨g,off+q * 5+2,none⟩) hg).trans x2
      have d3:=(Below.cell hf1 (p:=⟨g,off+q * 5+3,none⟩) hg).trans x3
      have d4:=(Below.cell hf1 (p:=⟨g,off+q * 5+4,none⟩) hg).trans x4
      have hz:=Blk.set5 hb (.string nm) (.int .i64 nd) (.bool dr) (.int .i64 ck) (.int .i64 sh)
      have HZ:=Lib.hid hz
      clear hz hf1 x0 x1 x2 x3 x4 hW
      go_wp2
      have hz:=HZ.out
      refine bodyPost_ret (v:=.tuple #[entV ⟨nm,nd,dr,ck,sh⟩,.bool true]) ?_ rfl ?_
      · simp [results,Tryz.results183,go_sem,hz.cell 0,hz.cell 1,hz.cell 2,hz.cell 3,hz.cell 4]
      · exact ⟨rfl,Fresh.setCell (Fresh.setCell (Fresh.setCell (Fresh.setCell (Fresh.setCell HF1.out (by show _≤w.heap.size+1+1;omega) _) (by show _≤w.heap.size+1+1;omega) _) (by show _≤w.heap.size+1+1;omega) _) (by show _≤w.heap.size+1+1;omega) _) (by show _≤w.heap.size+1+1;omega) _⟩
open Go.RowKit
def WSplPost (r:List ByteArray ⊕ Int) (w:World) (e:Ending) (w':World):Prop :=
  (∃ k,k ≠ 0∧r=.inr k∧e=.returned (.tuple #[.slice none 0 0,.int .i64 k])∧Fresh w w') ∨
  (∃ l a c,r=.inl l∧e=.returned (.tuple #[.slice a l.length c,.int .i64 0])∧SlS w' (fun g=>w.heap.size≤g) (.slice a l.length c) l∧Fresh w w')
theorem badN_iff (l:List ByteArray):badN l=(Lib.containsS l ByteArray.empty || Lib.containsS l dotS || Lib.containsS l dotsS):=by
  rw [Bool.eq_iff_iff]
  simp only [badN,List.any_eq_true,Bool.or_eq_true,beq_iff_eq,bytes_inj,Lib.containsS_iff]
  constructor
  · rintro ⟨x,hx,(rfl | rfl) | rfl⟩
    · exact .inl (.inl hx)
    · exact .inl (.inr hx)
    · exact .inr hx
  · rintro ((h | h) | h)
    · exact ⟨_,h,.inl (.inl rfl)⟩
    · exact ⟨_,h,.inl (.inr rfl)⟩
    · exact ⟨_,h,.inr rfl⟩
theorem cut_no {s:ByteArray} (h:¬ (1≤s.size∧(s.data.toList.getD 0 0).toNat=47)):Lib.hasPrefix s.data.toList [47]=false:=by
  unfold Lib.hasPrefix
  cases hs:s.data.toList with
  | nil=>rfl
  | cons a l =>
    rw [hs] at h
    have h1:1≤s.size:=by
      have:s.data.toList.length=s.size:=Array.length_toList
      rw [hs] at this
      simp at this
      omega
    have h2:a ≠ 47:=fun e=>h ⟨h1,by rw [e];rfl⟩
    simp [List.isPrefixOf]
    exact fun e=>h2 e.symm
theorem cut_yes {s:ByteArray} (h:1≤s.size∧(s.data.toList.getD 0 0).toNat=47):Lib.hasPrefix s.data.toList [47]=true∧(⟨(Lib.trimPrefix s.data.toList [47]).toArray⟩:ByteArray)=restP s:=by
  have h0:Lib.hasPrefix s.data.toList [47]=true:=by
    unfold Lib.hasPrefix
    cases hs:s.data.toList with
    | nil =>
      have:s.data.toList.length=s.size:=Array.length_toList
      rw [hs] at this
      simp at this
      omega
    | cons a l =>
      rw [hs] at h
      have:a=47:=UInt8.toNat_inj.1 (by have:=h.2;simpa using this)
      subst this
      simp [List.isPrefixOf]
  refine ⟨h0,?_⟩
  unfold Lib.trimPrefix restP
  rw [if_pos h0]
  apply ByteArray.ext
  rw [ByteArray.data_extract]
  apply Array.ext'
  simp
  rw [List.take_of_length_le (by simp)]
theorem SlS.has {w:World} {A:Nat→Prop} {a:Option Addr} {c:Nat} {l:List ByteArray} (h:SlS w A (.slice a l.length c) l) (hl:l.length≤100000) (x:ByteArray):Calls Tryz.prog 218 #[.slice a l.length c,.string x] w fun e w'=>e=.returned (.bool (Lib.containsS l x))∧w'=w:=by
  rcases h.cases with ⟨rfl,_⟩ | ⟨h0,g,off,cap,hv,_,_,_,hc⟩
  · exact Tryz.slices_Contains_string_empty a c x w
  · injection hv with hv1 _ hv2
    subst hv1 hv2
    have:=Tryz.slices_Contains_string g off l.length c l x w (Nat.le_refl _) (by omega) (fun j hj=>by rw [hc j hj,List.getD_eq_getElem?_getD,List.getElem?_eq_getElem hj];rfl)
    rw [List.take_length] at this
    exact this
set_option maxRecDepth 100000 in
set_option maxHeartbeats 1600000 in
theorem wsplit_any (s:ByteArray) (hs:s.size≤1000000) (w:World):Calls Tryz.prog 140 #[.string s] w (WSplPost (splitP s) w):=by
  by_cases h1:1024<s.size
  · have HP:Hid (splitP s=.inr 4):=Lib.hid (by unfold splitP;rw [if_pos h1])
    have i1:(1024:Int)<(s.size:Int):=by omega
    clear h1
    go_enter Tryz.func140,Tryz.ntmps140
    go_wp2
    go_ret2
    exact .inl ⟨4,by omega,HP.out,rfl,Fresh.refl _⟩
  have i1:¬ (1024:Int)<(s.size:Int):=by omega
  have HC:=Lib.hid (fun W=>Tryz.strings_CutPrefix s ⟨#[47]⟩ W)
  by_cases h2:1≤s.size∧(s.data.toList.getD 0 0).toNat=47
  case neg =>
    have HP:Hid (splitP s=.inr 3):=Lib.hid (by unfold splitP;rw [if_neg h1,if_pos h2])
    have hcn:=cut_no h2
    rw [show ((⟨#[47]⟩:ByteArray).data.toList)=[47] from rfl,hcn] at HC
    clear h1 h2 hcn
    go_enter Tryz.func140,Tryz.ntmps140
    go_wp2_with fail
    refine (HC.out _).mono ?_
    rintro e w1 ⟨rfl,rfl⟩
    go_wp2
    go_ret2
    exact .inl ⟨3,by omega,HP.out,rfl,Fresh.refl _⟩
  case pos =>
    obtain ⟨hcy,hcr⟩:=cut_yes h2
    rw [show ((⟨#[47]⟩:ByteArray).data.toList)=[47] from rfl,hcy,hcr] at HC
    have hrs:(restP s).size=s.size - 1:=by unfold restP;rw [ByteArray.size_extract];omega
    by_cases h3:s.size=1
    · have HP:Hid (splitP s=.inl []):=Lib.hid (by unfold splitP;rw [if_neg h1,if_neg (fun h=>h h2),if_pos h3])
      have he:restP s=⟨#[]⟩:=by
        have h0:(restP s).size=0:=by omega
        have:(restP s).data.toList=[]:=List.eq_nil_of_length_eq_zero (by rw [Array.length_toList];exact h0)
        exact bytes_inj.1 (by rw [ByteArray.toList_eq,ByteArray.toList_eq,this])
      rw [he] at HC
      clear h1 h2 h3 hcy hcr hrs he
      go_enter Tryz.func140,Tryz.ntmps140
      go_wp2_with fail
      refine (HC.out _).mono ?_
      rintro e w1 ⟨rfl,rfl⟩
      go_wp2
      go_ret2
      exact .inr ⟨[],none,0,HP.out,rfl,SlG.nil _ _ _,Fresh.refl _⟩
    · have hne:(restP s).toList.isEmpty=false:=ne_str (by omega)
      have HP:Hid (splitP s=if badN (splB (restP s))=true then .inr 3 else if 16<(splB (restP s)).length then .inr 4 else .inl (splB (restP s))):=Lib.hid (by
        conv=>lhs;unfold splitP
        rw [if_neg h1,if_neg (fun h=>h h2),if_neg h3])
      have HS:=Lib.hid (fun W=>strSplit_any (restP s) (by omega) W)
      have hll:(splB (restP s)).length≤2000:=by
        rw [splB_len]
        have:=List.count_le_length (a:=(47:UInt8)) (l:=(restP s).data.toList)
        have h2:(restP s).data.toList.length=(restP s).size:=Array.length_toList
        omega
      obtain ⟨rest,hrest⟩:∃ rest,restP s=rest:=⟨_,rfl⟩
      rw [hrest] at HC hne HP HS hll
      obtain ⟨l,hl⟩:∃ l,splB rest=l:=⟨_,rfl⟩
      rw [hl] at HP HS hll
      clear h1 h2 h3 hcy hcr hrs hrest hl
      go_enter Tryz.func140,Tryz.ntmps140
      go_wp2_with fail
      refine (HC.out _).mono ?_
      rintro e w1 ⟨rfl,rfl⟩
      go_wp2_with fail
      refine (HS.out _).mono ?_
      rintro e w2 ⟨g,c,rfl,hsl,hf⟩
      have HX:=Lib.hid (And.intro hsl hf)
      have HH:=Lib.hid (fun x=>SlS.has hsl (by omega) x)
      rw [badN_iff] at HP
      obtain ⟨b0,hb0⟩:∃ b0,Lib.containsS l ByteArray.empty=b0:=⟨_,rfl⟩
      obtain ⟨b1,hb1⟩:∃ b1,Lib.containsS l dotS=b1:=⟨_,rfl⟩
      obtain ⟨b2,hb2⟩:∃ b2,Lib.containsS l dotsS=b2:=⟨_,rfl⟩
      have H0:=Lib.hid (HH.out ByteArray.empty)
      have H1:=Lib.hid (HH.out dotS)
      have H2:=Lib.hid (HH.out dotsS)
      rw [hb0] at HP H0
      rw [hb1] at HP H1
      rw [hb2] at HP H2
      clear hsl hf hb0 hb1 hb2 hne
      cases b0 with
      | true =>
        go_wp2_with fail
        refine H0.out.mono ?_
        rintro e w3 ⟨rfl,rfl⟩
        go_wp2
        go_ret2
        exact .inl ⟨3,by omega,by rw [HP.out];rfl,rfl,HX.out.2⟩
      | false =>
        go_wp2_with fail
        refine H0.out.mono ?_
        rintro e w3 ⟨rfl,rfl⟩
        cases b1 with
        | true =>
          go_wp2_with fail
          refine H1.out.mono ?_
          rintro e w3 ⟨rfl,rfl⟩
          go_wp2
          go_ret2
          exact .inl ⟨3,by omega,by rw [HP.out];rfl,rfl,HX.out.2⟩
        | false =>
          go_wp2_with fail
          refine H1.out.mono ?_
          rintro e w3 ⟨rfl,rfl⟩
          go_wp2_with fail
          refine H2.out.mono ?_
          rintro e w3 ⟨rfl,rfl⟩
          cases b2 with
          | true =>
            go_wp2
            go_ret2
            exact .inl ⟨3,by omega,by rw [HP.out];rfl,rfl,HX.out.2⟩
          | false =>
            by_cases h16:16<l.length
            · have i2:(16:Int)<(l.length:Int):=by omega
              have HQ:Hid (splitP s=.inr 4):=Lib.hid (by rw [HP.out,if_pos h16];rfl)
              clear h16
              go_wp2
              go_ret2
              exact .inl ⟨4,by omega,HQ.out,rfl,HX.out.2⟩
            · have i2:¬ (16:Int)<(l.length:Int):=by omega
              have HQ:Hid (splitP s=.inl l):=Lib.hid (by rw [HP.out,if_neg h16];rfl)
              clear h16
              go_wp2
              go_ret2
              exact .inr ⟨l,_,c,HQ.out,rfl,HX.out.1,HX.out.2⟩
end Go.Proofs.YtpmlggjhfiljmaaGreatDoor
