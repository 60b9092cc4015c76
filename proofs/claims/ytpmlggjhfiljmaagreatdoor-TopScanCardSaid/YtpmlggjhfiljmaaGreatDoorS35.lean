/- Part 35 of what the law rests on. -/
import Derived.Test.YtpmlggjhfiljmaaGreatDoorS33
import Derived.Test.YtpmlggjhfiljmaaGreatDoorS34
set_option linter.all false
namespace Go.Proofs.YtpmlggjhfiljmaaGreatDoor
open Go.RowKit Go.Sort Go.Shelf
attribute [local go_sem ↓] Go.wp_at_zero Go.wp_at_succ
theorem OwnL.holds {w:World} {A:Nat→Prop} {v:Value} {l:List ByteArray} (h:OwnL w A v l) (hl:1≤l.length):∃ g c,v=.slice (some ⟨g,0,none⟩) l.length c∧l.length≤c∧A g∧g<w.heap.size∧Holds encStr w g 0 (l.map (·.data.toList)).toArray:=by
  have h0:=h
  obtain ⟨⟨h1,⟨rfl,h2⟩ | ⟨g,cap,cur,rfl,hb,hh,h2,h3,h4,h5⟩⟩,hA⟩:=h
  · omega
  · refine ⟨g,cap,rfl,h2,hA g rfl,(show Blk w g 9 cur from hh).lt,fun j hj=>⟨?_,?_⟩⟩
    · have hj2:j<l.length:=by simpa using hj
      have e1:(l.map (·.data.toList)).toArray[j]! = l[j].data.toList:=by rw [getElem!_pos _ _ (by simpa using hj2)];simp
      rw [e1]
      have hz:=h0.1.cells (g:=g) rfl j (.string l[j]) (by unfold strs;rw [List.getElem?_map,List.getElem?_eq_getElem hj2];rfl)
      rw [Addr.add_lit] at hz
      exact hz
    · exact (show Blk w g 9 cur from hh).frozen _
end Go.Proofs.YtpmlggjhfiljmaaGreatDoor
namespace Go.Proofs.YtpmlggjhfiljmaaGreatDoor
open Go.RowKit
attribute [local go_sem ↓] Go.wp_at_zero Go.wp_at_succ
def DevNew (n:Int) (w:World) (e:Ending) (w':World):Prop:=∃ p,e=.returned (.pointer (some ⟨p,0,none⟩))∧DevAt w' (fun g=>w.heap.size≤g∧g<w'.heap.size) p n (fun _=>zer 64) 0∧Fresh w w'
theorem secNew_any (n:Int) (h0:0≤n) (h1:n≤4096) (w:World):Calls Tryz.prog 28 #[.int .i64 n] w (DevNew n w):=by
  have hmm:=@run_makeMap Tryz.prog
  have e1:max n 0=n:=by omega
  have e2:min n 4096=n:=by omega
  have hfin:Hid (DevAt (((w.alloc (.map #[] 0)).alloc (.map #[] 0)).alloc (.cells #[.int .i64 n,.map (some w.heap.size),.map (some (w.heap.size+1)),.slice none 0 0,.int .i64 (-1)] 137)) (fun g=>w.heap.size≤g∧g<w.heap.size+3) (w.heap.size+2) n (fun _=>zer 64) 0):=Lib.hid (by
    have hb:=Blk.new ((w.alloc (.map #[] 0)).alloc (.map #[] 0)) 137 #[.int .i64 n,.map (some w.heap.size),.map (some (w.heap.size+1)),.slice none 0 0,.int .i64 (-1)]
    rw [World.size_alloc,World.size_alloc] at hb
    have hm:=(MapAt.made (w.alloc (.map #[] 0))).alloc (.cells #[.int .i64 n,.map (some w.heap.size),.map (some (w.heap.size+1)),.slice none 0 0,.int .i64 (-1)] 137)
    rw [World.size_alloc] at hm
    exact ⟨.map (some w.heap.size),w.heap.size+1,.slice none 0 0,0,[],_,hb,⟨by omega,by omega⟩,⟨by omega,by omega⟩,hm,fun i=>rfl,fun i=>rfl,OwnA.nil _ _ _ _,Nat.le_refl _⟩)
  go_enter Tryz.func28,Tryz.ntmps28
  go_wp2
  go_ret
  exact ⟨w.heap.size+2,rfl,by simpa using hfin.out,(((Fresh.refl _).alloc _).alloc _).alloc _⟩
end Go.Proofs.YtpmlggjhfiljmaaGreatDoor
namespace Go.Proofs.YtpmlggjhfiljmaaGreatDoor
open Go.RowKit
attribute [local go_sem ↓] Go.wp_at_zero Go.wp_at_succ
def FMountPost (F:Nat→Prop) (enc:Int) (p:Nat) (m n:Int) (q:Nat) (w:World) (e:Ending) (w':World):Prop :=
  ∃ f T qt F',e=.returned (.tuple #[.pointer (some ⟨f,0,none⟩),.int .i64 0])∧FsAt w' F' f enc p m n 0 2 q T qt∧IsT0 T∧qt≤10∧w.heap.size≤f∧Mut F w w'∧Gr F w w' F'
theorem fformat_any (F:Nat→Prop) (p:Nat) (n:Int) (w:World) (m:Nat) (h:DevAt w F p n (fun _=>zer 64) 0) (hF:FB F w) (hm:n / 2=m) (hm1:4≤m) (hn:n≤1000000):Calls Tryz.prog 42 #[.pointer (some ⟨p,0,none⟩)] w (DevPost F p n (newD img0 m) 5 w (.int .i64 0)):=by
  have HS:=Lib.hid (sformat_any F p n w m h hF hm hm1 hn)
  obtain ⟨D,hD⟩:∃ D,newD img0 m=D:=⟨_,rfl⟩
  rw [hD] at HS ⊢
  clear hD h hF hm hm1
  go_enter Tryz.func42,Tryz.ntmps42
  go_wp2_with fail
  refine HS.out.mono ?_
  rintro e w3 ⟨rfl,F',hd,hm3,hg⟩
  have HX:=Lib.hid (And.intro hd (And.intro hm3 hg))
  clear hd hm3 hg
  go_wp2
  go_ret
  exact ⟨rfl,F',HX.out.1,HX.out.2.1,HX.out.2.2⟩
set_option maxRecDepth 100000 in
set_option maxHeartbeats 3200000 in
theorem fmount_any (F:Nat→Prop) (enc:Int) (p:Nat) (n:Int) (q:Nat) (w:World) (m:Nat) (h:DevAt w F p n (newD img0 m) q) (hF:FB F w) (hm:n / 2=m) (hm1:4≤m) (hn:n≤1000000) (h0:0≤enc) (h8:enc≤8) :
    Calls Tryz.prog 67 #[.pointer (some ⟨p,0,none⟩),.int .i64 enc] w (FMountPost F enc p m n q w):=by
  have hrb:rightB enc=true:=by unfold rightB;simp;omega
  have HRT:=Lib.hid (fun W=>right_any enc W)
  rw [hrb] at HRT
  have HM:=Lib.hid (smount_any F p n q w m h hF hm hm1 hn)
  have HFB:=Lib.hid hF
  clear h hF hm hm1 hn hrb
  go_enter Tryz.func67,Tryz.ntmps67
  go_wp2_with fail
  refine (HRT.out _).mono ?_
  rintro e w1 ⟨rfl,rfl⟩
  go_wp2_with fail
  refine HM.out.mono ?_
  rintro e w1 ⟨s,T,qt,F1,rfl,hst,hT0,hqt,hsw,hm1,hg1⟩
  have HTB:=Lib.hid (TB.t0 (T:=T) hT0 (qt:=qt) (by omega))
  have HTR:=Lib.hid (stree_any F1 s p m n 0 2 q T qt w1 hst (by omega) HTB.out.bk (fun i l hl=>by have:=HTB.out.len i l hl;omega))
  have H1:=Lib.hid (And.intro hst (And.intro hT0 (And.intro hqt (And.intro hsw (And.intro hm1 hg1)))))
  clear hst hT0 hqt hsw hm1 hg1
  go_wp2_with fail
  refine HTR.out.mono ?_
  rintro e w2 ⟨x,rfl,hx,hf2⟩
  obtain ⟨W3,hW3⟩:∃ W3,w2.alloc (.cells #[.pointer (some ⟨s,0,none⟩),.int .i64 enc,.pointer (some ⟨x,0,none⟩)] 152)=W3:=⟨_,rfl⟩
  have h23:Fresh w2 W3:=by rw [← hW3];exact (Fresh.refl _).alloc _
  have hb3:Blk W3 w2.heap.size 152 #[.pointer (some ⟨s,0,none⟩),.int .i64 enc,.pointer (some ⟨x,0,none⟩)]:=by rw [← hW3];exact Blk.new _ _ _
  have hz3:W3.heap.size=w2.heap.size+1:=by rw [← hW3];simp
  have HZ3:=Lib.hid hz3
  have H2:=Lib.hid (And.intro hx (And.intro hf2 (And.intro h23 hb3)))
  have HDR:=Lib.hid (dirs_any W3 _ x T qt (hx.fresh h23) (by have:=H1.out.2.2.1;omega))
  have c2:W3.cell? ⟨w2.heap.size,2,none⟩=some (.pointer (some ⟨x,0,none⟩)):=hb3.cell 2
  clear hx hf2 h23 hb3 hz3
  go_wp2_with fail
  refine HDR.out.mono ?_
  rintro e w4 ⟨v,ks,rfl,hks,hk1,hk2,hk3,hf4⟩
  have hk:=dirs0 H1.out.2.1 hk1 hk2
  subst hk
  obtain ⟨a2,c2',rfl⟩:=hks.shape
  obtain ⟨g,hg⟩:∃ g,a2=some ⟨g,0,none⟩:=by
    obtain ⟨_,⟨q1,q2⟩ | ⟨g,cap,cur,q,_⟩⟩:=hks.1
    · cases q2
    · injection q with q;exact ⟨g,q⟩
  subst hg
  have ck:w4.cell? ⟨g,0,none⟩=some (.int .i64 0):=hks.1.cells (g:=g) rfl 0 (.int .i64 0) rfl
  have HF4:=Lib.hid (H2.out.2.2.1.trans hf4)
  have HF3:=Lib.hid hf4
  have c4:w4.cell? ⟨w2.heap.size,2,none⟩=some (.pointer (some ⟨x,0,none⟩)):=(H2.out.2.2.2.keep hf4).cell 2
  have hl0:T.dirs 0=some []:=by rw [H1.out.2.1.1];rfl
  have HLS:=Lib.hid (ls_yes (d:=0) (H2.out.1.fresh HF4.out) i64_0 hl0 (by simp))
  clear hW3 hks hk1 hk2 hk3 hf4 c2 hl0
  go_wp2_with fail
  refine wp_loop_rounds 2 ?_
  rw [rounds_succ]
  go_wp2_with fail
  refine HLS.out.mono ?_
  rintro e w5 ⟨a5,c5,rfl,ho5,hf5⟩
  simp only [List.length_nil]
  go_wp2_with fail
  refine (clean_nil enc a5 c5 _).mono ?_
  rintro e w6 ⟨rfl,hf6⟩
  have HF6:=Lib.hid (HF4.out.trans (hf5.trans hf6))
  have HF7:=Lib.hid (HF3.out.trans (hf5.trans hf6))
  clear ho5 hf5 hf6 ck c4
  go_wp2_with fail
  rw [rounds_succ]
  go_wp2
  go_ret2
  obtain ⟨hst,hT0,hqt,hsw,hm1,hg1⟩:=H1.out
  obtain ⟨hx,hf2,h23,hb3⟩:=H2.out
  have z1:=hm1.size
  have z2:=hf2.size
  have z6:=HF6.out.size
  have z7:=HF7.out.size
  have z3:=HZ3.out
  have hFB1:=hst.fb
  refine ⟨w2.heap.size,T,qt,ext F w w6,rfl,⟨s,x,F1,fun j=>w1.heap.size≤j∧j<w2.heap.size,hb3.keep HF7.out,.inr ⟨by omega,by omega⟩,fun j hj=>?_,fun j hj=>.inr ⟨by omega,by omega⟩,fun h=>by have:=hFB1 _ h;omega,fun h=>by omega,fun j hj h=>by have:=hFB1 _ h;omega,hst.fresh (hf2.trans HF6.out),(hx.mono (fun j h1 h2=>⟨h2,h1⟩)).fresh HF6.out,fun j hj=>?_⟩,hT0,hqt,by omega,hm1.andFresh (hf2.trans HF6.out),Gr.ext _ _ _⟩
  · rcases hg1 j hj with h | h
    · exact .inl h
    · exact .inr ⟨h.1,by omega⟩
  · rcases hj with h | h
    · have:=HFB.out j h;omega
    · exact h.2
end Go.Proofs.YtpmlggjhfiljmaaGreatDoor
namespace Go.Proofs.YtpmlggjhfiljmaaGreatDoor
open Go.RowKit
attribute [local go_sem ↓] Go.wp_at_zero Go.wp_at_succ
def TrlAt (w:World) (F:Nat→Prop) (g:Nat) (enc c:Int) (p:Nat) (m n:Int) (k t q:Nat) (T:TreS) (qt:Nat):Prop :=
  ∃ f Ff,Blk w g 98 #[.pointer (some ⟨p,0,none⟩),.pointer (some ⟨f,0,none⟩),.int .i64 enc,.int .i64 c]∧F g∧(∀ j,Ff j→F j)∧¬ Ff g∧FsAt w Ff f enc p m n k t q T qt∧FB F w
def StartPost (enc:Int) (m n:Int) (w:World) (e:Ending) (w':World):Prop :=
  ∃ g p T qt F,e=.returned (.tuple #[.pointer (some ⟨g,0,none⟩),.int .i64 0])∧TrlAt w' F g enc 0 p m n 0 2 5 T qt∧IsT0 T∧qt≤10∧Fresh w w'∧∀ j,F j→w.heap.size≤j
def TMountPost (F:Nat→Prop) (g:Nat) (enc c:Int) (p:Nat) (m n:Int) (q:Nat) (w:World) (e:Ending) (w':World):Prop :=
  ∃ T qt F',e=.returned (.int .i64 0)∧TrlAt w' F' g enc c p m n 0 2 q T qt∧IsT0 T∧qt≤10∧Mut F w w'∧Gr F w w' F'
set_option maxRecDepth 100000 in
set_option maxHeartbeats 3200000 in
theorem tmount_new (F Fd:Nat→Prop) (g:Nat) (enc c:Int) (p:Nat) (n:Int) (q:Nat) (o:Value) (w:World) (m:Nat) (hb:Blk w g 98 #[.pointer (some ⟨p,0,none⟩),o,.int .i64 enc,.int .i64 c]) (hFg:F g) (hFd:∀ j,Fd j→F j) (hdg:¬ Fd g) (hF:FB F w) (h:DevAt w Fd p n (newD img0 m) q) (hm:n / 2=m) (hm1:4≤m) (hn:n≤1000000) (h0:0≤enc) (h8:enc≤8) :
    Calls Tryz.prog 43 #[.pointer (some ⟨g,0,none⟩)] w (TMountPost F g enc c p m n q w):=by
  have HM:=Lib.hid (fun W (hW:Fresh w W)=>fmount_any Fd enc p n q W m (h.fresh hW) (fun j hj=>Nat.lt_of_lt_of_le (hF j (hFd j hj)) hW.size) hm hm1 hn h0 h8)
  have c0:w.cell? ⟨g,0,none⟩=some (.pointer (some ⟨p,0,none⟩)):=hb.cell 0
  have c2:w.cell? ⟨g,2,none⟩=some (.int .i64 enc):=hb.cell 2
  have HP:Hid (∀ W,Mut Fd w W→W.cell? ⟨g,0,none⟩=some (.pointer (some ⟨p,0,none⟩))∧W.cell? ⟨g,2,none⟩=some (.int .i64 enc)):=Lib.hid (fun W hW=>⟨(hb.mut hW hdg).cell 0,(hb.mut hW hdg).cell 2⟩)
  have H:=Lib.hid (And.intro hb (And.intro hFg (And.intro hFd (And.intro hdg hF))))
  have hgl:=hb.lt
  clear h hb hF hFd hm hm1 hn
  go_enter Tryz.func43,Tryz.ntmps43
  go_wp2_with fail
  go_region_held3 (fun W=>W.cell? ⟨g,0,none⟩=some (.pointer (some ⟨p,0,none⟩))∧W.cell? ⟨g,2,none⟩=some (.int .i64 enc)) (first | go_keep | exact hS8) (first
    | (go_at_call 67;refine (HM.out _ (by repeat (first | exact Fresh.refl _ | refine Fresh.drew ?_))).mono ?_;rintro e w2 ⟨f,T,qt,F2,rfl,hfs,hT0,hqt,hfl,hm,hg⟩;have hm5:Mut Fd w w2:=(Fresh.andMut (by repeat (first | exact Fresh.refl _ | refine Fresh.drew ?_)) hm);have hS8:=HP.out w2 hm5;have HM2:=Lib.hid (And.intro hfs (And.intro hT0 (And.intro hqt (And.intro hm5 hg))));clear hfs hT0 hqt hm hg hfl))
  all_goals
    have hb2:=H.out.1.mut hm5 H.out.2.2.2.1
    have d1:w2.cell? ⟨g,1,none⟩=some o:=hb2.cell 1
    have f1:w2.frozen? ⟨g,1,none⟩=false:=hb2.frozen 1
    have HFIN:Hid (TMountPost F g enc c p m n q w (.returned (.int .i64 0)) (w2.setCell ⟨g,1,none⟩ (.pointer (some ⟨f,0,none⟩)))):=Lib.hid (by
      obtain ⟨hfs,hT0,hqt,hm5,hg⟩:=HM2.out
      obtain ⟨_,hFg,hFd,hdg,hF⟩:=H.out
      have z1:=hm5.size
      have hu:Mut (fun j=>j=g) w2 (w2.setCell ⟨g,1,none⟩ (.pointer (some ⟨f,0,none⟩))):=(Mut.refl (fun j=>j=g) w2).setCell (p:=⟨g,1,none⟩) (.inl rfl) _
      have zu:=hu.size
      have hFB2:=hfs.fb
      have hF2:∀ j,F2 j→F j∨(w.heap.size≤j∧j<w2.heap.size):=fun j hj=>by
        rcases hg j hj with h | h
        · exact .inl (hFd j h)
        · have h1:w.heap.size≤j:=h.1
          exact .inr ⟨h1,h.2⟩
      have hF2g:¬ F2 g:=fun h=>by
        rcases hg g h with h | h
        · exact hdg h
        · have h1:w.heap.size≤g:=h.1
          omega
      refine ⟨T,qt,ext F w (w2.setCell ⟨g,1,none⟩ (.pointer (some ⟨f,0,none⟩))),rfl,⟨f,F2,hb2.set (i:=1),.inl hFg,fun j hj=>?_,hF2g,hfs.mut hu (fun j hj e=>hF2g (e ▸ hj)),fun j hj=>?_⟩,hT0,hqt,?_,Gr.ext _ _ _⟩
      · rcases hF2 j hj with h | h
        · exact .inl h
        · exact .inr ⟨h.1,by omega⟩
      · rcases hj with h | h
        · have:=hF j h;omega
        · exact h.2
      · exact (hm5.mono (T:=F) (fun j _ h=>hFd j h)).trans2 hu (fun _ h=>h) (fun j _ e=>by rw [e];exact hFg))
    clear hS8 hb2 hm5 c0 c2 HM2
    go_wp2
    go_ret
    exact HFIN.out
end Go.Proofs.YtpmlggjhfiljmaaGreatDoor
namespace Go.Proofs.YtpmlggjhfiljmaaGreatDoor
open Go.RowKit
attribute [local go_sem ↓] Go.wp_at_zero Go.wp_at_succ
set_option maxRecDepth 100000 in
set_option maxHeartbeats 3200000 in
theorem start_any (n enc:Int) (m:Nat) (hm:n / 2=m) (hm1:4≤m) (hn:n≤4096) (h0:0≤enc) (h8:enc≤8) (w:World):Calls Tryz.prog 10 #[.int .i64 n,.int .i64 enc] w (StartPost enc m n w):=by
  have HSN:=Lib.hid (secNew_any n (by omega) hn w)
  have HFO:=Lib.hid (fun F p W h hF=>fformat_any F p n W m h hF hm hm1 (by omega))
  have HMT:=Lib.hid (fun F Fd g p q o W hb hFg hFd hdg hF h=>tmount_new F Fd g enc 0 p n q o W m hb hFg hFd hdg hF h hm hm1 (by omega) h0 h8)
  clear hm hm1
  go_enter Tryz.func10,Tryz.ntmps10
  go_wp2_with fail
  refine HSN.out.mono ?_
  rintro e w1 ⟨p,rfl,hd,hf1⟩
  obtain ⟨W2,hW2⟩:∃ W2,w1.alloc (.cells #[.pointer (some ⟨p,0,none⟩),.pointer none,.int .i64 enc,.int .i64 0] 98)=W2:=⟨_,rfl⟩
  have h12:Fresh w1 W2:=by rw [← hW2];exact (Fresh.refl _).alloc _
  have hb2:Blk W2 w1.heap.size 98 #[.pointer (some ⟨p,0,none⟩),.pointer none,.int .i64 enc,.int .i64 0]:=by rw [← hW2];exact Blk.new _ _ _
  have hz2:W2.heap.size=w1.heap.size+1:=by rw [← hW2];simp
  have HZ2:=Lib.hid hz2
  have c0:W2.cell? ⟨w1.heap.size,0,none⟩=some (.pointer (some ⟨p,0,none⟩)):=hb2.cell 0
  have H1:=Lib.hid (And.intro hf1 (And.intro h12 hb2))
  have HF:=Lib.hid (HFO.out _ p W2 (hd.fresh h12) (fun j hj=>by have:=hj.2;omega))
  clear hd hf1 h12 hb2 hz2
  go_wp2_with fail
  refine HF.out.mono ?_
  rintro e w3 ⟨rfl,F3,hd3,hm3,hg3⟩
  have HB3:Hid (∀ j,F3 j→w.heap.size≤j∧j ≠ w1.heap.size∧j<w3.heap.size):=Lib.hid (fun j hj=>by
    have z2:=HZ2.out
    have z1:=H1.out.1.size
    have z3:=hm3.size
    rcases hg3 j hj with h | h
    · exact ⟨h.1,by have:=h.2;omega,by have:=h.2;omega⟩
    · have:=h.1;exact ⟨by omega,by omega,h.2⟩)
  have hb3:=H1.out.2.2.mut hm3 (fun h=>by have:=h.2;omega)
  have H3:=Lib.hid (And.intro hd3 (And.intro hm3 hb3))
  have HT:=Lib.hid (HMT.out (fun j=>w.heap.size≤j∧j<w3.heap.size) F3 w1.heap.size p 5 (.pointer none) w3 hb3 ⟨H1.out.1.size,hb3.lt⟩ (fun j hj=>⟨(HB3.out j hj).1,(HB3.out j hj).2.2⟩) (fun h=>(HB3.out _ h).2.1 rfl) (fun j hj=>hj.2) hd3)
  clear hW2 hd3 hm3 hg3 hb3 c0
  go_wp2_with fail
  refine HT.out.mono ?_
  rintro e w4 ⟨T,qt,F4,rfl,ht,hT0,hqt,hm4,hg4⟩
  have HFIN:Hid (StartPost enc m n w (.returned (.tuple #[.pointer (some ⟨w1.heap.size,0,none⟩),.int .i64 0])) w4):=Lib.hid (by
    have z1:=H1.out.1.size
    have z2:=HZ2.out
    have z3:=H3.out.2.1.size
    refine ⟨_,p,T,qt,F4,rfl,ht,hT0,hqt,?_,fun j hj=>?_⟩
    · have a:Fresh w W2:=H1.out.1.trans H1.out.2.1
      have b:Fresh w w3:=a.mut2 H3.out.2.1 (fun j hj=>hj.1)
      exact b.mut2 hm4 (fun j hj=>hj.1)
    · rcases hg4 j hj with h | h
      · exact h.1
      · have:=h.1;omega)
  clear ht hT0 hqt hm4 hg4
  go_wp2
  go_ret2
  exact HFIN.out
end Go.Proofs.YtpmlggjhfiljmaaGreatDoor
namespace Go.Proofs.YtpmlggjhfiljmaaGreatDoor
open Go.RowKit
attribute [local go_sem ↓] Go.wp_at_zero Go.wp_at_succ
def MakeS (S:Int→Int→Nat→Nat→Nat→TreS→Nat→Prop) (r:Int × ByteArray × Int) (k t q:Nat) (T:TreS) (qt:Nat) (a b:Int) (k2 t2 q2:Nat) (T2:TreS) (qt2:Nat):Prop :=
  (r.2.2 ≠ 0∧a=0∧b=r.2.2∧k2=k∧t2=t∧q2=q∧T2=T∧qt2=qt)∨(r.2.2=0∧S a b k2 t2 q2 T2 qt2)
theorem MakeG.fdo {S:Int→Int→Nat→Nat→Nat→TreS→Nat→Prop} {r:Int × ByteArray × Int} {F:Nat→Prop} {f:Nat} {enc:Int} {p:Nat} {m n:Int} {k t q:Nat} {T:TreS} {qt:Nat} {w:World} {e:Ending} {w':World} (hfs:FsAt w F f enc p m n k t q T qt) (hB:TB T qt) (h:MakeG S r F f enc p m n w e w'):FdoG (MakeS S r k t q T qt) F f enc p m n w e w':=by
  rcases h with ⟨h1,rfl,hf⟩ | ⟨h1,a,b,k2,t2,q2,T2,qt2,F2,hS,rfl,h3,h4,h5,h6⟩
  · exact ⟨0,_,k,t,q,T,qt,F,.inl ⟨h1,rfl,rfl,rfl,rfl,rfl,rfl,rfl⟩,rfl,hfs.fresh hf,hB,hf.mut F,(Gr.refl F w).later hf.size⟩
  · exact ⟨a,b,k2,t2,q2,T2,qt2,F2,.inr ⟨h1,hS⟩,rfl,h3,h4,h5,h6⟩
abbrev callV (kind:Int) (a b:ByteArray) (is:Bool) (at_ n:Int):Value:=.agg #[.int .i64 kind,.string a,.string b,.bool is,.int .i64 at_,.int .i64 n]
def TrlG (S:Int→Int→Nat→Nat→Nat→TreS→Nat→Prop) (V:Int→Int→Value) (F:Nat→Prop) (g:Nat) (enc c:Int) (p:Nat) (m n:Int) (w:World) (e:Ending) (w':World):Prop :=
  ∃ a b k t q T qt F',S a b k t q T qt∧e=.returned (V a b)∧TrlAt w' F' g enc c p m n k t q T qt∧TB T qt∧Mut F w w'∧Gr F w w' F'
theorem TrlAt.fb {w:World} {F:Nat→Prop} {g:Nat} {enc c:Int} {p:Nat} {m n:Int} {k t q:Nat} {T:TreS} {qt:Nat} (h:TrlAt w F g enc c p m n k t q T qt):FB F w:=by obtain ⟨f,Ff,h1,h2,h3,h4,h5,h6⟩:=h;exact h6
theorem TrlAt.mut {S F:Nat→Prop} {w w':World} {g:Nat} {enc c:Int} {p:Nat} {m n:Int} {k t q:Nat} {T:TreS} {qt:Nat} (h:TrlAt w F g enc c p m n k t q T qt) (hf:Mut S w w') (hn:∀ j,F j→¬ S j):TrlAt w' F g enc c p m n k t q T qt:=by
  obtain ⟨f,Ff,h1,h2,h3,h4,h5,h6⟩:=h
  exact ⟨f,Ff,h1.mut hf (hn _ h2),h2,h3,h4,h5.mut hf (fun j hj=>hn _ (h3 j hj)),h6.later hf.size⟩
theorem TrlAt.fresh {F:Nat→Prop} {w w':World} {g:Nat} {enc c:Int} {p:Nat} {m n:Int} {k t q:Nat} {T:TreS} {qt:Nat} (h:TrlAt w F g enc c p m n k t q T qt) (hf:Fresh w w'):TrlAt w' F g enc c p m n k t q T qt:=h.mut (hf.mut fun _=>False) (fun _ _ q=>q)
abbrev ansV (err node:Int) (is:Bool) (text:ByteArray) (names:Value) (next:Int):Value:=.agg #[.int .i64 err,.int .i64 node,.bool is,.string text,names,.int .i64 next]
theorem Blk.set6 {w:World} {g:Nat} {t:TypeId} {q0 q1 q2 q3 q4 q5:Value} (h:Blk w g t #[q0,q1,q2,q3,q4,q5]) (a b c d e f:Value):Blk ((((((w.setCell ⟨g,0,none⟩ a).setCell ⟨g,1,none⟩ b).setCell ⟨g,2,none⟩ c).setCell ⟨g,3,none⟩ d).setCell ⟨g,4,none⟩ e).setCell ⟨g,5,none⟩ f) g t #[a,b,c,d,e,f]:=by
  have h0:Blk _ g t #[a,q1,q2,q3,q4,q5]:=h.set (i:=0) (u:=a)
  have h1:Blk _ g t #[a,b,q2,q3,q4,q5]:=h0.set (i:=1) (u:=b)
  have h2:Blk _ g t #[a,b,c,q3,q4,q5]:=h1.set (i:=2) (u:=c)
  have h3:Blk _ g t #[a,b,c,d,q4,q5]:=h2.set (i:=3) (u:=d)
  have h4:Blk _ g t #[a,b,c,d,e,q5]:=h3.set (i:=4) (u:=e)
  exact h4.set (i:=5) (u:=f)
theorem Mut.set6 {w:World} {g:Nat} (a b c d e f:Value):Mut (fun j=>j=g) w ((((((w.setCell ⟨g,0,none⟩ a).setCell ⟨g,1,none⟩ b).setCell ⟨g,2,none⟩ c).setCell ⟨g,3,none⟩ d).setCell ⟨g,4,none⟩ e).setCell ⟨g,5,none⟩ f) :=
  ((((((Mut.refl (fun j=>j=g) w).setCell (p:=⟨g,0,none⟩) (.inl rfl) a).setCell (p:=⟨g,1,none⟩) (.inl rfl) b).setCell (p:=⟨g,2,none⟩) (.inl rfl) c).setCell (p:=⟨g,3,none⟩) (.inl rfl) d).setCell (p:=⟨g,4,none⟩) (.inl rfl) e).setCell (p:=⟨g,5,none⟩) (.inl rfl) f
set_option maxRecDepth 100000 in
set_option maxHeartbeats 3200000 in
theorem tmake_any (S:Int→Int→Nat→Nat→Nat→TreS→Nat→Prop) (kind:Int) (pa pb:ByteArray) (is:Bool) (ca cn:Int) (F:Nat→Prop) (g:Nat) (enc c:Int) (p:Nat) (m n:Int) (k t q:Nat) (T:TreS) (qt:Nat) (w:World) (h:TrlAt w F g enc c p m n k t q T qt)
    (HS:∀ W Ff f,Fresh w W→FsAt W Ff f enc p m n k t q T qt→Calls Tryz.prog 29 #[.pointer (some ⟨f,0,none⟩),.string pa,.bool is] W (FdoG S Ff f enc p m n W)) :
    Calls Tryz.prog 99 #[.pointer (some ⟨g,0,none⟩),callV kind pa pb is ca cn] w (TrlG S (fun a b=>ansV b a false ⟨#[]⟩ (.slice none 0 0) 0) F g enc c p m n w):=by
  obtain ⟨f,Ff,hb,hFg,hFf,hfg,hfs,hF⟩:=h
  obtain ⟨W5,hW5⟩:∃ W5,((w.alloc (.cells #[.int .i64 kind,.string pa,.string pb,.bool is,.int .i64 ca,.int .i64 cn] 44)).alloc (.cells #[.int .i64 0,.int .i64 0,.bool false,.string ⟨#[]⟩,.slice none 0 0,.int .i64 0] 40))=W5:=⟨_,rfl⟩
  have f5:Fresh w W5:=by rw [← hW5];exact ((Fresh.refl _).alloc _).alloc _
  have b5:Blk W5 w.heap.size 44 #[.int .i64 kind,.string pa,.string pb,.bool is,.int .i64 ca,.int .i64 cn]:=by rw [← hW5];exact (Blk.new _ _ _).keep ((Fresh.refl _).alloc _)
  have a5:Blk W5 (w.heap.size+1) 40 #[.int .i64 0,.int .i64 0,.bool false,.string ⟨#[]⟩,.slice none 0 0,.int .i64 0]:=by
    rw [← hW5]
    have:=Blk.new (w.alloc (.cells #[.int .i64 kind,.string pa,.string pb,.bool is,.int .i64 ca,.int .i64 cn] 44)) 40 #[.int .i64 0,.int .i64 0,.bool false,.string ⟨#[]⟩,.slice none 0 0,.int .i64 0]
    rw [World.size_alloc] at this
    exact this
  have hz5:W5.heap.size=w.heap.size+2:=by rw [← hW5];simp
  have HZ5:=Lib.hid hz5
  clear hz5
  have hn0:¬ Ff w.heap.size:=fun h=>by have:=hF _ (hFf _ h);omega
  have hn1:¬ Ff (w.heap.size+1):=fun h=>by have:=hF _ (hFf _ h);omega
  have hgl:=hb.lt
  have hne1:g ≠ w.heap.size+1:=by omega
  have hne2:g ≠ w.heap.size:=by omega
  have HP:Hid (∀ W,Mut (fun j=>Ff j∨j=w.heap.size+1) W5 W→W.cell? ⟨g,1,none⟩=some (.pointer (some ⟨f,0,none⟩))∧W.cell? ⟨w.heap.size,1,none⟩=some (.string pa)∧W.cell? ⟨w.heap.size,3,none⟩=some (.bool is)):=Lib.hid (fun W hW=>⟨((hb.keep f5).mut hW (fun h=>h.elim hfg hne1)).cell 1,(b5.mut hW (fun h=>h.elim hn0 (by omega))).cell 1,(b5.mut hW (fun h=>h.elim hn0 (by omega))).cell 3⟩)
  have HM:=Lib.hid (fun W (hW:Fresh W5 W)=>HS W Ff f (f5.trans hW) (hfs.fresh (f5.trans hW)))
  have H:=Lib.hid (And.intro f5 (And.intro (hb.keep f5) (And.intro a5 (And.intro hFg (And.intro hFf (And.intro hF (And.intro hn1 hfg)))))))
  obtain ⟨e0,e1,e2⟩:=HP.out W5 (Mut.refl _ _)
  clear hb hfs hF hFf f5 b5 a5 HS
  go_enter Tryz.func99,Tryz.ntmps99
  go_wp2_with fail
  go_region_held3 (fun W=>W.cell? ⟨g,1,none⟩=some (.pointer (some ⟨f,0,none⟩))∧W.cell? ⟨w.heap.size,1,none⟩=some (.string pa)∧W.cell? ⟨w.heap.size,3,none⟩=some (.bool is)) (first | exact hS8 | exact HP.out _ (by repeat (first | exact hm6 | exact Mut.refl _ _ | refine Mut.setCell ?_ (.inl (.inr rfl)) _ | refine Mut.drew ?_)) | go_keep) (first
    | (go_at_call 29;refine (HM.out _ (by repeat (first | exact Fresh.refl _ | refine Fresh.drew ?_))).mono ?_;rintro e w2 ⟨a,b,k2,t2,q2,T2,qt2,F2,hS,rfl,hfs,hTB,hm,hg⟩;have hm5:Mut Ff W5 w2:=(Fresh.andMut (by repeat (first | exact Fresh.refl _ | refine Fresh.drew ?_)) hm);have hm6:Mut (fun j=>Ff j∨j=w.heap.size+1) W5 w2:=hm5.mono (fun j _ h=>.inl h);have hS8:=HP.out w2 hm6;have ha2:=H.out.2.2.1.mut hm5 hn1;have q0:w2.cell? ⟨w.heap.size+1,0,none⟩=some (.int .i64 0):=ha2.cell 0;have q1:w2.cell? ⟨w.heap.size+1,1,none⟩=some (.int .i64 0):=ha2.cell 1;have z0:w2.frozen? ⟨w.heap.size+1,0,none⟩=false:=ha2.frozen 0;have z1:w2.frozen? ⟨w.heap.size+1,1,none⟩=false:=ha2.frozen 1;have HA2:=Lib.hid ha2;clear ha2;have HM2:=Lib.hid (And.intro hS (And.intro hfs (And.intro hTB (And.intro hm5 hg))));clear hS hfs hTB hm hg))
  all_goals
    have ha5:Blk _ (w.heap.size+1) 40 #[.int .i64 0,.int .i64 a,.bool false,.string ⟨#[]⟩,.slice none 0 0,.int .i64 0]:=HA2.out.set (i:=1) (u:=.int .i64 a)
    have ha6:Blk _ (w.heap.size+1) 40 #[.int .i64 b,.int .i64 a,.bool false,.string ⟨#[]⟩,.slice none 0 0,.int .i64 0]:=ha5.set (i:=0) (u:=.int .i64 b)
    have hu6:Mut (fun j=>j=w.heap.size+1) w2 ((w2.setCell ⟨w.heap.size+1,1,none⟩ (.int .i64 a)).setCell ⟨w.heap.size+1,0,none⟩ (.int .i64 b)):=((Mut.refl (fun j=>j=w.heap.size+1) w2).setCell (p:=⟨w.heap.size+1,1,none⟩) (.inl rfl) _).setCell (p:=⟨w.heap.size+1,0,none⟩) (.inl rfl) _
    clear hS8 q0 q1 z0 z1 hm5 hm6 e0 e1 e2 ha5 hW5
    rename_i hHeld
    clear hHeld
    generalize ((w2.setCell ⟨w.heap.size+1,1,none⟩ (.int .i64 a)).setCell ⟨w.heap.size+1,0,none⟩ (.int .i64 b))=W6 at ha6 hu6 ⊢
    have x0:W6.cell? ⟨w.heap.size+1,0,none⟩=some (.int .i64 b):=ha6.cell 0
    have y0:W6.frozen? ⟨w.heap.size+1,0,none⟩=false:=ha6.frozen 0
    have x1:W6.cell? ⟨w.heap.size+1,1,none⟩=some (.int .i64 a):=ha6.cell 1
    have y1:W6.frozen? ⟨w.heap.size+1,1,none⟩=false:=ha6.frozen 1
    have x2:W6.cell? ⟨w.heap.size+1,2,none⟩=some (.bool false):=ha6.cell 2
    have y2:W6.frozen? ⟨w.heap.size+1,2,none⟩=false:=ha6.frozen 2
    have x3:W6.cell? ⟨w.heap.size+1,3,none⟩=some (.string ⟨#[]⟩):=ha6.cell 3
    have y3:W6.frozen? ⟨w.heap.size+1,3,none⟩=false:=ha6.frozen 3
    have x4:W6.cell? ⟨w.heap.size+1,4,none⟩=some (.slice none 0 0):=ha6.cell 4
    have y4:W6.frozen? ⟨w.heap.size+1,4,none⟩=false:=ha6.frozen 4
    have x5:W6.cell? ⟨w.heap.size+1,5,none⟩=some (.int .i64 0):=ha6.cell 5
    have y5:W6.frozen? ⟨w.heap.size+1,5,none⟩=false:=ha6.frozen 5
    have HZ:=Lib.hid (And.intro (Blk.set6 ha6 (.int .i64 b) (.int .i64 a) (.bool false) (.string ⟨#[]⟩) (.slice none 0 0) (.int .i64 0)) (hu6.trans (Mut.set6 (w:=W6) (g:=w.heap.size+1) (.int .i64 b) (.int .i64 a) (.bool false) (.string ⟨#[]⟩) (.slice none 0 0) (.int .i64 0))))
    clear ha6 hu6
    go_wp2
    have hz:=HZ.out
    refine bodyPost_ret (v:=ansV b a false ⟨#[]⟩ (.slice none 0 0) 0) ?_ rfl ?_
    · simp [results,Tryz.results99,go_sem,hz.1.cell 0,hz.1.cell 1,hz.1.cell 2,hz.1.cell 3,hz.1.cell 4,hz.1.cell 5]
    · have hu:=HZ.out.2
      generalize (((((((W6.setCell ⟨w.heap.size+1,0,none⟩ (.int .i64 b)).setCell ⟨w.heap.size+1,1,none⟩ (.int .i64 a)).setCell ⟨w.heap.size+1,2,none⟩ (.bool false)).setCell ⟨w.heap.size+1,3,none⟩ (.string ⟨#[]⟩)).setCell ⟨w.heap.size+1,4,none⟩ (.slice none 0 0)).setCell ⟨w.heap.size+1,5,none⟩ (.int .i64 0)):World)=W9 at hu ⊢
      obtain ⟨hS,hfs,hTB,hm5,hg⟩:=HM2.out
      obtain ⟨hf5,hb5,_,hFg,hFf,hF,hn1,hfg⟩:=H.out
      have s5:=HZ5.out
      have s2:=hm5.size
      have s9:=hu.size
      have hFB2:=hfs.fb
      have hF2:∀ j,F2 j→F j∨(w.heap.size+2≤j∧j<w2.heap.size):=fun j hj=>by
        rcases hg j hj with h | h
        · exact .inl (hFf j h)
        · have h1:W5.heap.size≤j:=h.1
          exact .inr ⟨by omega,h.2⟩
      have hF2n:∀ j,F2 j→j ≠ w.heap.size+1:=fun j hj=>by
        rcases hF2 j hj with h | h
        · have:=hF j h;omega
        · omega
      have hF2g:¬ F2 g:=fun h=>by
        rcases hg g h with h | h
        · exact hfg h
        · have h1:W5.heap.size≤g:=h.1
          omega
      refine ⟨a,b,k2,t2,q2,T2,qt2,ext F w W9,hS,rfl,⟨f,F2,(hb5.mut hm5 hfg).mut hu (by omega),.inl hFg,fun j hj=>?_,hF2g,hfs.mut hu (fun j hj=>hF2n j hj),fun j hj=>?_⟩,hTB,?_,Gr.ext _ _ _⟩
      · rcases hF2 j hj with h | h
        · exact .inl h
        · exact .inr ⟨by omega,by omega⟩
      · rcases hj with h | h
        · have:=hF j h;omega
        · exact h.2
      · exact (hf5.andMut (hm5.mono (T:=F) (fun j _ h=>hFf j h))).trans2 hu (fun _ h=>h) (fun j hj e=>by omega)
end Go.Proofs.YtpmlggjhfiljmaaGreatDoor
namespace Go.Proofs.YtpmlggjhfiljmaaGreatDoor
open Go.RowKit
attribute [local go_sem ↓] Go.wp_at_zero Go.wp_at_succ
theorem enters_make:∀ (args:Array Value) (W:World),Sem.run Tryz.prog (callFunc 99 args) W=.ok (.enter 99 args) W:=by intro args w;go_simp
def fnV (f:FuncId):Value:=.func (.func f) #[] #[]
def kindsV:Array Value:=#[fnV 98,fnV 99,fnV 100,fnV 101,fnV 102,fnV 103,fnV 104,fnV 105,fnV 106]
theorem kinds_any (w:World):Calls Tryz.prog 48 #[] w fun e w'=>e=.returned (.slice (some ⟨w.heap.size,0,none⟩) 9 9)∧w'=w.alloc (.cells kindsV 109):=by
  go_enter Tryz.func48,Tryz.ntmps48
  go_wp2
  go_ret
  exact ⟨rfl,rfl⟩
set_option maxRecDepth 100000 in
set_option maxHeartbeats 3200000 in
theorem tdo_make (S:Int→Int→Nat→Nat→Nat→TreS→Nat→Prop) (pa pb:ByteArray) (is:Bool) (ca cn:Int) (F:Nat→Prop) (g:Nat) (enc c:Int) (hc:0≤c∧c≤1000000) (p:Nat) (m n:Int) (k t q:Nat) (T:TreS) (qt:Nat) (w:World) (h:TrlAt w F g enc c p m n k t q T qt)
    (HS:∀ W Ff f,Mut F w W→FsAt W Ff f enc p m n k t q T qt→Calls Tryz.prog 29 #[.pointer (some ⟨f,0,none⟩),.string pa,.bool is] W (FdoG S Ff f enc p m n W)) :
    Calls Tryz.prog 14 #[.pointer (some ⟨g,0,none⟩),callV 1 pa pb is ca cn] w (TrlG S (fun a b=>ansV b a false ⟨#[]⟩ (.slice none 0 0) 0) F g enc (c+1) p m n w):=by
  have hen:=enters_make
  obtain ⟨hc0,hc1⟩:=hc
  have hg0:=h
  obtain ⟨f,Ff,hb,hFg,hFf,hfg,hfs,hF⟩:=hg0
  have hgl:=hb.lt
  obtain ⟨W5,hW5⟩:∃ W5,((w.alloc (.cells #[.int .i64 1,.string pa,.string pb,.bool is,.int .i64 ca,.int .i64 cn] 44)).alloc (.cells #[.int .i64 0,.int .i64 0,.bool false,.string ⟨#[]⟩,.slice none 0 0,.int .i64 0] 40))=W5:=⟨_,rfl⟩
  have f5:Fresh w W5:=by rw [← hW5];exact ((Fresh.refl _).alloc _).alloc _
  have b5:Blk W5 w.heap.size 44 #[.int .i64 1,.string pa,.string pb,.bool is,.int .i64 ca,.int .i64 cn]:=by rw [← hW5];exact (Blk.new _ _ _).keep ((Fresh.refl _).alloc _)
  have a5:Blk W5 (w.heap.size+1) 40 #[.int .i64 0,.int .i64 0,.bool false,.string ⟨#[]⟩,.slice none 0 0,.int .i64 0]:=by
    rw [← hW5]
    have:=Blk.new (w.alloc (.cells #[.int .i64 1,.string pa,.string pb,.bool is,.int .i64 ca,.int .i64 cn] 44)) 40 #[.int .i64 0,.int .i64 0,.bool false,.string ⟨#[]⟩,.slice none 0 0,.int .i64 0]
    rw [World.size_alloc] at this
    exact this
  have hz5:W5.heap.size=w.heap.size+2:=by rw [← hW5];simp
  have c3:W5.cell? ⟨g,3,none⟩=some (.int .i64 c):=(hb.keep f5).cell 3
  have z3:W5.frozen? ⟨g,3,none⟩=false:=(hb.keep f5).frozen 3
  have H:=Lib.hid (And.intro h (And.intro f5 (And.intro b5 (And.intro a5 hz5))))
  clear h hb hfs hF hFf f5 b5 a5 hz5
  go_enter Tryz.func14,Tryz.ntmps14
  go_wp2_with fail
  obtain ⟨W6,hW6⟩:∃ W6,W5.setCell ⟨g,3,none⟩ (.int .i64 (c+1))=W6:=⟨_,rfl⟩
  have hu:Mut (fun j=>j=g) W5 W6:=by rw [← hW6];exact (Mut.refl (fun j=>j=g) W5).setCell (p:=⟨g,3,none⟩) (.inl rfl) _
  have hs6:W6.heap.size=W5.heap.size:=by rw [← hW6];simp [World.setCell]
  have HT6:Hid (TrlAt W6 F g enc (c+1) p m n k t q T qt):=Lib.hid (by
    obtain ⟨f,Ff,hb,hFg,hFf,hfg,hfs,hF⟩:=H.out.1
    have hb6:Blk W6 g 98 #[.pointer (some ⟨p,0,none⟩),.pointer (some ⟨f,0,none⟩),.int .i64 enc,.int .i64 (c+1)]:=by rw [← hW6];exact (hb.keep H.out.2.1).set (i:=3) (u:=.int .i64 (c+1))
    exact ⟨f,Ff,hb6,hFg,hFf,hfg,(hfs.fresh H.out.2.1).mut hu (fun j hj e=>hfg (e ▸ hj)),(hF.later H.out.2.1.size).later hu.size⟩)
  have hb6:Blk W6 w.heap.size 44 #[.int .i64 1,.string pa,.string pb,.bool is,.int .i64 ca,.int .i64 cn]:=H.out.2.2.1.mut hu (by omega)
  have ha6:Blk W6 (w.heap.size+1) 40 #[.int .i64 0,.int .i64 0,.bool false,.string ⟨#[]⟩,.slice none 0 0,.int .i64 0]:=H.out.2.2.2.1.mut hu (by omega)
  have hs6':W6.heap.size=w.heap.size+2:=hs6.trans H.out.2.2.2.2
  rw [hW6]
  refine (kinds_any _).mono ?_
  rintro e w1 ⟨rfl,rfl⟩
  obtain ⟨W7,hW7⟩:∃ W7,W6.alloc (.cells kindsV 109)=W7:=⟨_,rfl⟩
  have h67:Fresh W6 W7:=by rw [← hW7];exact (Fresh.refl _).alloc _
  have hk7:Blk W7 (w.heap.size+2) 109 kindsV:=by rw [← hW7,← hs6'];exact Blk.new _ _ _
  have hs7:W7.heap.size=w.heap.size+3:=by rw [← hW7];simp;omega
  have HP:Hid (∀ W,Mut (fun j=>F j∨j=w.heap.size+1) W7 W→W.cell? ⟨w.heap.size,0,none⟩=some (.int .i64 1)∧W.cell? ⟨w.heap.size,1,none⟩=some (.string pa)∧W.cell? ⟨w.heap.size,2,none⟩=some (.string pb)∧W.cell? ⟨w.heap.size,3,none⟩=some (.bool is)∧W.cell? ⟨w.heap.size,4,none⟩=some (.int .i64 ca)∧W.cell? ⟨w.heap.size,5,none⟩=some (.int .i64 cn)∧W.cell? ⟨w.heap.size+2,1,none⟩=some (.func (.func 99) #[] #[])):=Lib.hid (fun W hW=>by
    have hFB:=H.out.1.fb
    have n0:¬ (F w.heap.size∨w.heap.size=w.heap.size+1):=fun h=>by rcases h with h | h;(have:=hFB _ h;omega);omega
    have n2:¬ (F (w.heap.size+2)∨w.heap.size+2=w.heap.size+1):=fun h=>by rcases h with h | h;(have:=hFB _ h;omega);omega
    have x:=(hb6.keep h67).mut hW n0
    have y:=hk7.mut hW n2
    exact ⟨x.cell 0,x.cell 1,x.cell 2,x.cell 3,x.cell 4,x.cell 5,y.cell 1⟩)
  have HM1:Hid (Mut F w W7):=Lib.hid (by
    have hFg:F g:=by obtain ⟨f,Ff,hb,hFg,_⟩:=H.out.1;exact hFg
    exact (H.out.2.1.andMut (hu.mono (T:=F) (fun j _ e=>by rw [e];exact hFg))).andFresh h67)
  have HM:=Lib.hid (fun W (hW:Fresh W7 W)=>tmake_any S 1 pa pb is ca cn F g enc (c+1) p m n k t q T qt W ((HT6.out.fresh h67).fresh hW) (fun W' Ff f hW' hfs=>HS W' Ff f ((HM1.out.andFresh hW).andFresh hW') hfs))
  have ha7:=ha6.keep h67
  have H7:=Lib.hid (And.intro hu (And.intro h67 (And.intro ha7 (And.intro hs6' hs7))))
  obtain ⟨e0,e1,e2,e3,e4,e5,e6⟩:=HP.out W7 (Mut.refl _ _)
  rw [hs6']
  have hlt9:(1:Int)<9:=by omega
  clear HS hu hs6 hb6 ha6 h67 hk7 hs7 ha7 hW6 hW5 c3 z3 hs6'
  go_wp2_with fail
  go_region_held3 (fun W=>W.cell? ⟨w.heap.size,0,none⟩=some (.int .i64 1)∧W.cell? ⟨w.heap.size,1,none⟩=some (.string pa)∧W.cell? ⟨w.heap.size,2,none⟩=some (.string pb)∧W.cell? ⟨w.heap.size,3,none⟩=some (.bool is)∧W.cell? ⟨w.heap.size,4,none⟩=some (.int .i64 ca)∧W.cell? ⟨w.heap.size,5,none⟩=some (.int .i64 cn)∧W.cell? ⟨w.heap.size+2,1,none⟩=some (.func (.func 99) #[] #[])) (first | (with_reducible exact hS8) | exact HP.out _ (by repeat (first | (with_reducible exact hm6) | exact Mut.refl _ _ | refine Mut.setCell ?_ (.inl (.inr rfl)) _ | refine Mut.drew ?_)) | go_keep) (first
    | (go_at_call 99;refine (HM.out _ (by repeat (first | exact Fresh.refl _ | refine Fresh.drew ?_))).mono ?_;rintro e w2 ⟨a,b,k2,t2,q2,T2,qt2,F2,hS,rfl,htr,hTB,hm,hg⟩;have hm5:Mut F W7 w2:=(Fresh.andMut (by repeat (first | exact Fresh.refl _ | refine Fresh.drew ?_)) hm);have hm6:Mut (fun j=>F j∨j=w.heap.size+1) W7 w2:=hm5.mono (fun j _ h=>.inl h);have hS8:=HP.out w2 hm6;have ha2:=H7.out.2.2.1.mut hm5 (fun h=>by have:=H.out.1.fb _ h;omega);have x0:w2.cell? ⟨w.heap.size+1,0,none⟩=some (.int .i64 0):=ha2.cell 0;have y0:w2.frozen? ⟨w.heap.size+1,0,none⟩=false:=ha2.frozen 0;have x1:w2.cell? ⟨w.heap.size+1,1,none⟩=some (.int .i64 0):=ha2.cell 1;have y1:w2.frozen? ⟨w.heap.size+1,1,none⟩=false:=ha2.frozen 1;have x2:w2.cell? ⟨w.heap.size+1,2,none⟩=some (.bool false):=ha2.cell 2;have y2:w2.frozen? ⟨w.heap.size+1,2,none⟩=false:=ha2.frozen 2;have x3:w2.cell? ⟨w.heap.size+1,3,none⟩=some (.string ⟨#[]⟩):=ha2.cell 3;have y3:w2.frozen? ⟨w.heap.size+1,3,none⟩=false:=ha2.frozen 3;have x4:w2.cell? ⟨w.heap.size+1,4,none⟩=some (.slice none 0 0):=ha2.cell 4;have y4:w2.frozen? ⟨w.heap.size+1,4,none⟩=false:=ha2.frozen 4;have x5:w2.cell? ⟨w.heap.size+1,5,none⟩=some (.int .i64 0):=ha2.cell 5;have y5:w2.frozen? ⟨w.heap.size+1,5,none⟩=false:=ha2.frozen 5;have HM2:=Lib.hid (And.intro hS (And.intro htr (And.intro hTB (And.intro hm5 (And.intro hg ha2)))));clear hS htr hTB hm hg ha2))
  all_goals
    clear hS8 hm5 hm6 e0 e1 e2 e3 e4 e5 e6 hen hlt9
    rename_i hHeld
    clear hHeld
    have HZ:=Lib.hid (And.intro (Blk.set6 HM2.out.2.2.2.2.2 (.int .i64 b) (.int .i64 a) (.bool false) (.string ⟨#[]⟩) (.slice none 0 0) (.int .i64 0)) (Mut.set6 (w:=w2) (g:=w.heap.size+1) (.int .i64 b) (.int .i64 a) (.bool false) (.string ⟨#[]⟩) (.slice none 0 0) (.int .i64 0)))
    go_wp2
    have hz:=HZ.out
    refine bodyPost_ret (v:=ansV b a false ⟨#[]⟩ (.slice none 0 0) 0) ?_ rfl ?_
    · simp [results,Tryz.results14,go_sem,hz.1.cell 0,hz.1.cell 1,hz.1.cell 2,hz.1.cell 3,hz.1.cell 4,hz.1.cell 5]
    · have hu:=HZ.out.2
      generalize ((((((w2.setCell ⟨w.heap.size+1,0,none⟩ (.int .i64 b)).setCell ⟨w.heap.size+1,1,none⟩ (.int .i64 a)).setCell ⟨w.heap.size+1,2,none⟩ (.bool false)).setCell ⟨w.heap.size+1,3,none⟩ (.string ⟨#[]⟩)).setCell ⟨w.heap.size+1,4,none⟩ (.slice none 0 0)).setCell ⟨w.heap.size+1,5,none⟩ (.int .i64 0))=W9 at hu ⊢
      obtain ⟨hS,htr,hTB,hm5',hg,_⟩:=HM2.out
      obtain ⟨hug,h67,_,hs6,hs7⟩:=H7.out
      have hF:=H.out.1.fb
      have s2:=hm5'.size
      have s9:=hu.size
      have hF2:∀ j,F2 j→F j∨(w.heap.size+3≤j∧j<w2.heap.size):=fun j hj=>by
        rcases hg j hj with h | h
        · exact .inl h
        · have h1:W7.heap.size≤j:=h.1
          exact .inr ⟨by omega,h.2⟩
      have hFg:F g:=by obtain ⟨f,Ff,hb,hFg,_⟩:=H.out.1;exact hFg
      refine ⟨a,b,k2,t2,q2,T2,qt2,F2,hS,rfl,htr.mut hu (fun j hj e=>?_),hTB,?_,fun j hj=>?_⟩
      · rcases hF2 j hj with h | h
        · have:=hF j h;omega
        · omega
      · have m1:Mut F w W7:=(H.out.2.1.andMut (hug.mono (T:=F) (fun j _ e=>by rw [e];exact hFg))).andFresh h67
        exact (m1.trans hm5').trans2 hu (fun _ h=>h) (fun j hj e=>by omega)
      · rcases hF2 j hj with h | h
        · exact .inl h
        · exact .inr ⟨by omega,by omega⟩
end Go.Proofs.YtpmlggjhfiljmaaGreatDoor
