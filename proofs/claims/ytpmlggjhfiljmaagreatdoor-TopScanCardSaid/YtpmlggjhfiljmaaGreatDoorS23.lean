/- Part 23 of what the law rests on. -/
import Derived.Lib.AppendStr
import Derived.Test.YtpmlggjhfiljmaaGreatDoorS20
import Derived.Test.YtpmlggjhfiljmaaGreatDoorS22
set_option linter.all false
namespace Go.Proofs.YtpmlggjhfiljmaaGreatDoor
open Go.RowKit
theorem vappend_close {F Fd Fd':Nat→Prop} {w w3 w5:World} {v p:Nat} {m n:Int} {img r:ByteArray} {t t' k q':Nat} {x:Int} (hx:x=(t':Int)) {D':Int→ByteArray} {rv:Value} {a':Option Addr} {c':Nat}
    (b3:Blk w3 v 332 #[.pointer (some ⟨p,0,none⟩),.int .i64 0,.int .i64 m,.pointer (some ⟨p,0,none⟩),.int .i64 m,.int .i64 m,.int .u64 1,.int .i64 t,.string img,rv,.bool false])
    (h2:F v) (h3:∀ j,Fd j→F j) (h4:¬ Fd v) (h7:FB F w) (hd3:DevAt w3 Fd' p n D' q') (hm3:Mut Fd w w3) (hg3:Gr Fd w w3 Fd')
    (o5:RecOK w5 (ext (fun g=>F g∧¬ Fd g∧g ≠ v) ((w3.setCell ⟨v,7,none⟩ (.int .i64 x)).alloc (.cells #[.string r] 9)) w5) (.slice a' (k+1) c') (k+1)) (u5:Mut (fun g=>F g∧¬ Fd g∧g ≠ v) ((w3.setCell ⟨v,7,none⟩ (.int .i64 x)).alloc (.cells #[.string r] 9)) w5) :
    VltPost F v p m n img t' (k+1) q' w (.int .i64 0) (.returned (.int .i64 0)) (w5.setCell ⟨v,9,none⟩ (.slice a' (k+1) c')):=by
  have hvl:=h7 v h2
  have hFd':∀ j,Fd' j→j<w3.heap.size∧(F j∨w.heap.size≤j)∧j ≠ v:=fun j hj=>by
    rcases hg3 j hj with q | q
    · have:=h7 j (h3 j q)
      exact ⟨Nat.lt_of_lt_of_le this hm3.size,.inl (h3 j q),fun e=>h4 (e ▸ q)⟩
    · exact ⟨q.2,.inr q.1,fun e=>by omega⟩
  have hdj:∀ j,Fd' j→¬ (F j∧¬ Fd j∧j ≠ v):=fun j hj hx=>by
    rcases hg3 j hj with q | q
    · exact hx.2.1 q
    · have:=h7 j hx.1;omega
  have u37:Mut (fun j=>j=v) w3 ((w3.setCell ⟨v,7,none⟩ (.int .i64 x)).alloc (.cells #[.string r] 9)):=((Mut.refl (fun j=>j=v) w3).setCell (p:=⟨v,7,none⟩) (.inl rfl) _).alloc _
  have u6:Mut (fun j=>j=v) w5 (w5.setCell ⟨v,9,none⟩ (.slice a' (k+1) c')):=(Mut.refl (fun j=>j=v) w5).setCell (p:=⟨v,9,none⟩) (.inl rfl) _
  have hs4:((w3.setCell ⟨v,7,none⟩ (.int .i64 x)).alloc (.cells #[.string r] 9)).heap.size=w3.heap.size+1:=by simp [World.setCell]
  have hs6:(w5.setCell ⟨v,9,none⟩ (.slice a' (k+1) c')).heap.size=w5.heap.size:=by simp [World.setCell]
  have hs5:=u5.size
  have hs3:=hm3.size
  have b6:=((((b3.set (i:=7) (u:=.int .i64 x)).keep ((Fresh.refl _).alloc (.cells #[.string r] 9))).mut u5 (fun (q:F v∧¬ Fd v∧v ≠ v)=>q.2.2 rfl)).set (i:=9) (u:=.slice a' (k+1) c'))
  rw [hx] at b6
  have uA:Mut F w (w5.setCell ⟨v,9,none⟩ (.slice a' (k+1) c')):=by
    refine Mut.trans2 (S:=F) (T:=fun j=>j=v) ?_ u6 (fun _ h=>h) (fun j _ e=>by rw [e];exact h2)
    refine Mut.trans2 (S:=F) (T:=fun g=>F g∧¬ Fd g∧g ≠ v) ?_ u5 (fun _ h=>h) (fun j _ h=>h.1)
    exact Mut.trans2 (S:=Fd) (T:=fun j=>j=v) hm3 u37 h3 (fun j _ e=>by rw [e];exact h2)
  refine ⟨rfl,ext F w (w5.setCell ⟨v,9,none⟩ (.slice a' (k+1) c')),⟨Fd',_,D',b6,.inl h2,fun j hj=>?_,fun h=>(hFd' v h).2.2 rfl,?_,?_,fun j hj=>?_⟩,uA,Gr.ext _ _ _⟩
  · obtain ⟨q1,q2,_⟩:=hFd' j hj
    exact q2.elim .inl (fun q=>.inr ⟨q,by rw [hs6];omega⟩)
  · exact ((hd3.mut u37 (fun j hj e=>(hFd' j hj).2.2 e)).mut u5 hdj).mut u6 (fun j hj e=>(hFd' j hj).2.2 e)
  · refine (o5.mut (S:=fun j=>j=v) u6 (fun g hg e=>?_)).mono fun g hgl hg=>?_
    · rcases hg with q | q
      · exact q.2.2 e
      · rw [hs4] at q;omega
    · rcases hg with q | q
      · exact ⟨.inl q.1,fun h=>hdj g h q,q.2.2⟩
      · rw [hs4] at q
        exact ⟨.inr ⟨by omega,by rw [hs6];exact q.2⟩,fun h=>by have:=(hFd' g h).1;omega,by omega⟩
  · rcases hj with q | q
    · have:=h7 j q;rw [hs6];omega
    · exact q.2
section
variable (F:Nat→Prop) (v p:Nat) (m n:Int) (img:ByteArray) (t k q:Nat) (w:World)
theorem image_any (h:VltAt w F v p m n img t k q):Calls Tryz.prog 176 #[.pointer (some ⟨v,0,none⟩)] w fun e w'=>e=.returned (.string img)∧w=w':=by
  obtain ⟨Fd,rv,D,h1,h2,h3,h4,h5,h6,h7⟩:=h
  have c0:w.cell? ⟨v,8,none⟩=some (.string img):=by rw [h1.cell];rfl
  clear h1 h5 h6 h7
  go_enter Tryz.func176,Tryz.ntmps176
  go_wp2
  go_ret
  exact ⟨rfl,rfl⟩
theorem over_any (h:VltAt w F v p m n img t k q):Calls Tryz.prog 181 #[.pointer (some ⟨v,0,none⟩)] w fun e w'=>e=.returned (.bool false)∧w=w':=by
  obtain ⟨Fd,rv,D,h1,h2,h3,h4,h5,h6,h7⟩:=h
  have c0:w.cell? ⟨v,10,none⟩=some (.bool false):=by rw [h1.cell];rfl
  clear h1 h5 h6 h7
  go_enter Tryz.func181,Tryz.ntmps181
  go_wp2
  go_ret
  exact ⟨rfl,rfl⟩
theorem records_none (h:VltAt w F v p m n img t 0 q):Calls Tryz.prog 178 #[.pointer (some ⟨v,0,none⟩)] w fun e w'=>(∃ a c,e=.returned (.slice a 0 c))∧Fresh w w':=by
  obtain ⟨Fd,rv,D,h1,h2,h3,h4,h5,h6,h7⟩:=h
  have c0:w.cell? ⟨v,9,none⟩=some rv:=by rw [h1.cell];rfl
  obtain ⟨a,c,rfl,_,_⟩:=h6
  clear h1 h5 h7
  go_enter Tryz.func178,Tryz.ntmps178
  go_wp2_with fail
  cases a with
  | none =>
    refine (Tryz.slices_Clone_string_nil 0 c w).mono ?_
    rintro e w1 ⟨rfl,rfl⟩
    go_wp2
    go_ret
    exact ⟨⟨_,_,rfl⟩,Fresh.refl _⟩
  | some a =>
    refine (Tryz.slices_Clone_string_zero a c w).mono ?_
    rintro e w1 ⟨v',rfl,hown,_,hf⟩
    have hv:∃ a c,v'=.slice a 0 c:=by
      obtain ⟨_,⟨rfl,_⟩ | ⟨g,cap,cur,rfl,_⟩⟩:=hown
      · exact ⟨_,_,rfl⟩
      · exact ⟨_,_,rfl⟩
    obtain ⟨a',c',rfl⟩:=hv
    clear hown
    go_wp2
    go_ret
    exact ⟨⟨_,_,rfl⟩,hf⟩
theorem done_ok (h:VltAt w F v p m n img t k q):Calls Tryz.prog 277 #[.pointer (some ⟨v,0,none⟩),.int .i64 0] w (VltPost F v p m n img t k q w (.int .i64 0)):=by
  have h0:=h
  obtain ⟨Fd,rv,D,h1,h2,h3,h4,h5,h6,h7⟩:=h
  have c10:w.cell? ⟨v,10,none⟩=some (.bool false):=by rw [h1.cell];rfl
  have f10:w.frozen? ⟨v,10,none⟩=false:=h1.frozen 10
  have u:Mut (fun j=>j=v) w (w.setCell ⟨v,10,none⟩ (.bool false)):=(Mut.refl (fun j=>j=v) w).setCell (p:=⟨v,10,none⟩) (.inl rfl) _
  have HZ:Hid (VltPost F v p m n img t k q w (.int .i64 0) (.returned (.int .i64 0)) (w.setCell ⟨v,10,none⟩ (.bool false))):=Lib.hid ⟨rfl,F,⟨Fd,rv,D,h1.set (i:=10) (u:=.bool false),h2,h3,h4,h5.mut u (fun j hj e=>h4 (e ▸ hj)),h6.mut u (fun g hg e=>hg.2.2 e),h7.later (by simp [World.setCell])⟩,u.mono (fun j _ e=>by rw [e];exact h2),fun j hj=>.inl hj⟩
  clear h0 h1 h5 h6 u
  go_enter Tryz.func277,Tryz.ntmps277
  go_wp2
  go_ret
  exact HZ.out
set_option maxRecDepth 100000 in
set_option maxHeartbeats 1600000 in
theorem vsync_any (h:VltAt w F v p m n img t k q):Calls Tryz.prog 191 #[.pointer (some ⟨v,0,none⟩)] w (VltPost F v p m n img t k q w (.int .i64 0)):=by
  obtain ⟨Fd,rv,D,h1,h2,h3,h4,h5,h6,h7⟩:=h
  have c0:w.cell? ⟨v,0,none⟩=some (.pointer (some ⟨p,0,none⟩)):=by rw [h1.cell];rfl
  have c10:w.cell? ⟨v,10,none⟩=some (.bool false):=by rw [h1.cell];rfl
  have HF:=Lib.hid (flush_any Fd p n D q w h5)
  have H1:=Lib.hid h1
  have H6:=Lib.hid h6
  clear h1 h5 h6
  go_enter Tryz.func191,Tryz.ntmps191
  go_wp2_with fail
  refine HF.out.mono ?_
  rintro e w2 ⟨rfl,Fd',hd,hm,hg⟩
  have hFd':∀ j,Fd' j→(Fd j∨(w.heap.size≤j∧j<w2.heap.size)):=hg
  have hvl:=h7 v h2
  have hv:VltAt w2 (ext F w w2) v p m n img t k q:=by
    refine ⟨Fd',rv,D,H1.out.mut hm h4,.inl h2,fun j hj=>(hFd' j hj).imp (h3 j) id,fun hj=>(hFd' v hj).elim h4 (fun q=>by omega),hd,(H6.out.mut hm (fun g hg=>hg.2.1)).mono fun g _ hg=>⟨.inl hg.1,fun hj=>(hFd' g hj).elim hg.2.1 (fun q=>by have:=h7 g hg.1;omega),hg.2.2⟩,fun j hj=>hj.elim (fun q=>Nat.lt_of_lt_of_le (h7 j q) hm.size) (fun q=>q.2)⟩
  have HD:=Lib.hid (done_ok (ext F w w2) v p m n img t k q w2 hv)
  have HM:=Lib.hid (hm.mono (T:=F) (fun j _ h=>h3 j h))
  clear hd hg hv hm
  go_wp2_with fail
  refine HD.out.mono ?_
  rintro e w3 ⟨rfl,F3,hv3,hm3,hg3⟩
  have HZ:Hid (VltPost F v p m n img t k q w (.int .i64 0) (.returned (.int .i64 0)) w3):=Lib.hid ⟨rfl,F3,hv3,HM.out.trans2 hm3 (fun _ h=>h) (fun j hj h=>h.elim id (fun q=>by omega)),(Gr.ext F w w2).trans hg3 HM.out.size hm3.size⟩
  clear hv3 hm3 hg3
  go_wp2
  go_ret
  exact HZ.out
set_option maxRecDepth 100000 in
set_option maxHeartbeats 3200000 in
theorem vappend_any (h:VltAt w F v p m n img t k q) (r:ByteArray) (hm:0≤m∧m+m≤n) (hn:n≤1000000) (ht:1≤t) (hr:1≤r.size) (hr2:r.size≤60000) (hfit:(t:Int)+kfr r.size≤m) (hq:q+kfr r.size≤80000) (hk:k≤1000000) :
    Calls Tryz.prog 187 #[.pointer (some ⟨v,0,none⟩),.string r] w (VltPost F v p m n img (t+kfr r.size) (k+1) (q+kfr r.size) w (.int .i64 0)):=by
  obtain ⟨Fd,rv,D,h1,h2,h3,h4,h5,h6,h7⟩:=h
  have c0:w.cell? ⟨v,0,none⟩=some (.pointer (some ⟨p,0,none⟩)):=by rw [h1.cell];rfl
  have c1:w.cell? ⟨v,1,none⟩=some (.int .i64 0):=by rw [h1.cell];rfl
  have c2:w.cell? ⟨v,2,none⟩=some (.int .i64 m):=by rw [h1.cell];rfl
  have c7:w.cell? ⟨v,7,none⟩=some (.int .i64 t):=by rw [h1.cell];rfl
  have c10:w.cell? ⟨v,10,none⟩=some (.bool false):=by rw [h1.cell];rfl
  have hvl:=h1.lt
  have HFT:=Lib.hid (fun W=>fits_any p W 0 m t r (by omega) (by omega) hr hr2 hfit)
  unfold hfv at HFT
  have HWR:=Lib.hid (fun W (hf:Fresh w W)=>hwrite_any Fd p n D q W (h5.fresh hf) 0 m t r (by omega) (by omega) (by omega) hn (by omega) hr hr2 hfit (by omega))
  unfold hfv at HWR
  have H1:=Lib.hid h1
  have H6:=Lib.hid h6
  clear h1 h5 h6
  go_enter Tryz.func187,Tryz.ntmps187
  go_wp2_with fail
  go_region_law (first
    | (go_simp;go_at_call 222;refine (HFT.out _).mono ?_;rintro e w2 ⟨rfl,hf2⟩))
  all_goals
    have hf22:Fresh w w2:=by first | exact hf2 | exact hf2.undrew
    have HF2:=Lib.hid hf22
    have hc2:∀ o,w2.cell? ⟨v,o,none⟩=w.cell? ⟨v,o,none⟩:=fun o=>Below.cell hf22 (p:=⟨v,o,none⟩) hvl
    have d0:=(hc2 0).trans c0
    have d1:=(hc2 1).trans c1
    have d2:=(hc2 2).trans c2
    have d7:=(hc2 7).trans c7
    clear hf2 hf22 hc2
    go_wp2_with fail
    go_region_law (first
      | (go_simp;go_at_call 276;refine (HWR.out _ (by repeat (first | exact HF2.out | refine Fresh.drew ?_))).mono ?_;rintro e w3 ⟨rfl,Fd',hd3,hm3,hg3⟩))
    all_goals
      have hm33:Mut Fd w2 w3:=by first | exact hm3 | exact ⟨hm3.os,hm3.tape,hm3.output,hm3.size,hm3.block⟩
      have hg33:Gr Fd w2 w3 Fd':=hg3
      have b3:=(H1.out.keep HF2.out).mut hm33 h4
      have r3:=(H6.out.fresh HF2.out).mut hm33 (fun g hg=>hg.2.1)
      have e7:w3.cell? ⟨v,7,none⟩=some (.int .i64 t):=by rw [b3.cell];rfl
      have e9:w3.cell? ⟨v,9,none⟩=some rv:=by rw [b3.cell];rfl
      have g7:w3.frozen? ⟨v,7,none⟩=false:=b3.frozen 7
      have g9:w3.frozen? ⟨v,9,none⟩=false:=b3.frozen 9
      have hvl3:=b3.lt
      have HCL:=Lib.hid (fun w5 a' c' o5 u5=>vappend_close (r:=r) (w5:=w5) (k:=k) (t':=t+kfr r.size) (a':=a') (c':=c') (x:=(t:Int)+kfr r.size) (by omega) b3 h2 h3 h4 h7 hd3 (HF2.out.andMut hm33) (hg33.ahead HF2.out.size) o5 u5)
      have HU:Hid (Mut (fun j=>j=v) w3 ((w3.setCell ⟨v,7,none⟩ (.int .i64 ((t:Int)+kfr r.size))).alloc (.cells #[.string r] 9))):=Lib.hid (((Mut.refl (fun j=>j=v) w3).setCell (p:=⟨v,7,none⟩) (.inl rfl) _).alloc _)
      have HR3:=Lib.hid r3
      clear hd3 hm3 hg3 hm33 hg33 b3 r3
      go_wp2_with (at_builtin;go_loud (refine wpList_append_rec _ rfl _ _ rfl (fun g=>F g∧¬ Fd g∧g ≠ v) rv k rfl (HR3.out.mut HU.out (fun g hg=>hg.2.2)) w3.heap.size r rfl (by go_simp) hk ?_;intro a' c' w5 o5 u5;have e9':w5.cell? ⟨v,9,none⟩=some rv:=(u5.cell (p:=⟨v,9,none⟩) (by simp [World.setCell];omega) (fun q=>q.2.2 rfl)).trans (by go_simp);have g9':w5.frozen? ⟨v,9,none⟩=false:=(u5.frozen (p:=⟨v,9,none⟩) (by simp [World.setCell];omega) (fun q=>q.2.2 rfl)).trans (by go_simp);have HZ:=Lib.hid (HCL.out w5 a' c' o5 u5);clear o5 u5))
      go_ret
      exact HZ.out
end
end Go.Proofs.YtpmlggjhfiljmaaGreatDoor
namespace Go.Proofs.YtpmlggjhfiljmaaGreatDoor
open Go.RowKit
theorem img0_size:img0.size=14:=by decide +kernel
section
variable (F:Nat→Prop) (p:Nat) (n:Int) (w:World)
theorem sformat_any (m:Nat) (h:DevAt w F p n (fun _=>zer 64) 0) (hF:FB F w) (hm:n / 2=m) (hm1:4≤m) (hn:n≤1000000):Calls Tryz.prog 88 #[.pointer (some ⟨p,0,none⟩)] w (DevPost F p n (newD img0 m) 5 w (.int .i64 0)):=by
  have HTN:=Lib.hid (fun W=>treeNew_any W)
  have HEN:=Lib.hid (fun W A t T q h1 h2 h3=>encode0_any W A t T q h1 h2 h3)
  have HFO:=Lib.hid (fun W (hW:Fresh w W)=>format_new F p n W m (h.fresh hW) (hF.later hW.size) hm hm1 hn img0 (by rw [img0_size];omega) (by rw [img0_size];omega))
  obtain ⟨S,hS⟩:∃ S,img0=S:=⟨_,rfl⟩
  rw [hS] at HEN HFO ⊢
  clear hS h
  go_enter Tryz.func88,Tryz.ntmps88
  go_wp2_with fail
  refine (HTN.out _).mono ?_
  rintro e w1 ⟨t,rfl,ht,hf1⟩
  have HE1:=Lib.hid (HEN.out w1 _ t T0 1 ht isT0 (by omega))
  clear ht
  go_wp2_with fail
  refine HE1.out.mono ?_
  rintro e w2 ⟨rfl,hf2⟩
  have hf:=hf1.trans hf2
  go_wp2_with fail
  refine (HFO.out w2 hf).mono ?_
  rintro e w3 ⟨rfl,F',hd,hm3,hg⟩
  have HX:=Lib.hid (And.intro hd (And.intro (hf.andMut hm3) (hg.ahead hf.size)))
  clear hd hm3 hg
  go_wp2
  go_ret
  exact ⟨rfl,F',HX.out.1,HX.out.2.1,HX.out.2.2⟩
end
end Go.Proofs.YtpmlggjhfiljmaaGreatDoor
namespace Go.Proofs.YtpmlggjhfiljmaaGreatDoor
open Go.RowKit
theorem frS_img0:frS (img0.extract (0 * 62) img0.size)=frS img0:=by
  have:img0.extract (0 * 62) img0.size=img0:=by decide +kernel
  rw [this]
theorem newD_facts (m:Nat) (hm:4≤m):newD img0 m 0=labS 1∧newD img0 m m=labS 0∧newD img0 m 1=frS img0∧∀ i:Int,2≤i→i<m→newD img0 m i=zer 64:=by
  have hk:kfr img0.size=1:=by rw [img0_size];rfl
  have e0:((0:Int)+1+(0:Nat))=1:=rfl
  unfold newD
  rw [hk]
  unfold wrD wrD
  rw [frS_img0,e0]
  unfold upd
  refine ⟨by simp,?_,?_,fun i h1 h2=>?_⟩
  · simp only
    rw [if_neg (by omega),if_neg (by omega),if_neg (by omega),if_pos trivial]
  · simp only
    rw [if_neg (by omega),if_pos trivial]
  · simp only
    rw [if_neg (by omega),if_neg (by omega),if_neg (by omega),if_neg (by omega),if_neg (by omega)]
theorem replay_none (t:Value) (a:Option Addr) (c:Nat) (w:World):Calls Tryz.prog 177 #[t,.slice a 0 c] w fun e w'=>e=.returned (.int .i64 0)∧w=w':=by
  go_enter Tryz.func177,Tryz.ntmps177
  go_wp2
  refine wp_loop_rounds 1 ?_
  rw [rounds_succ]
  go_wp2
  go_ret
  exact ⟨rfl,rfl⟩
def StoAt (w:World) (F:Nat→Prop) (s p:Nat) (m n:Int) (k t q:Nat) (T:TreS) (qt:Nat):Prop :=
  ∃ v tr Fv At,Blk w s 201 #[.pointer (some ⟨v,0,none⟩),.pointer (some ⟨tr,0,none⟩)]∧F s∧(∀ j,Fv j→F j)∧(∀ j,At j→F j)∧¬ Fv s∧¬ At s∧(∀ j,At j→¬ Fv j)∧VltAt w Fv v p m n img0 t k q∧TreeAt w At tr T qt∧FB F w
def MountPost (F:Nat→Prop) (p:Nat) (m n:Int) (q:Nat) (w:World) (e:Ending) (w':World):Prop :=
  ∃ s T qt F',e=.returned (.tuple #[.pointer (some ⟨s,0,none⟩),.int .i64 0])∧StoAt w' F' s p m n 0 2 q T qt∧IsT0 T∧qt≤10∧w.heap.size≤s∧Mut F w w'∧Gr F w w' F'
section
variable (F:Nat→Prop) (p:Nat) (n:Int) (q:Nat) (w:World)
set_option maxHeartbeats 1600000 in
theorem smount_any (m:Nat) (h:DevAt w F p n (newD img0 m) q) (hF:FB F w) (hm:n / 2=m) (hm1:4≤m) (hn:n≤1000000):Calls Tryz.prog 123 #[.pointer (some ⟨p,0,none⟩)] w (MountPost F p m n q w):=by
  obtain ⟨d0,dm,d1,dz⟩:=newD_facts m hm1
  have HOP:=Lib.hid (open_new F p n (newD img0 m) q w m h hF hm hm1 hn img0 (by rw [img0_size];omega) (by rw [img0_size];omega) d0 dm d1 dz)
  have HDE:=Lib.hid (fun W=>decode0_any W)
  have HIM:=Lib.hid (fun F v p m n t k q W h=>image_any F v p m n img0 t k q W h)
  have HRE:=Lib.hid (fun F v p m n t q W h=>records_none F v p m n img0 t q W h)
  obtain ⟨S,hS⟩:∃ S,img0=S:=⟨_,rfl⟩
  have HSS:=Lib.hid hS
  rw [hS] at HDE HIM HRE HOP
  clear hS h d0 dm d1 dz
  go_enter Tryz.func123,Tryz.ntmps123
  go_wp2_with fail
  refine HOP.out.mono ?_
  rintro e w1 ⟨v,F1,rfl,hv1,hm1,hg1⟩
  have HV:=Lib.hid (And.intro hv1 (And.intro hm1 hg1))
  clear hv1 hm1 hg1
  go_wp2_with fail
  refine (HIM.out _ _ _ _ _ _ _ _ _ HV.out.1).mono ?_
  rintro e w1' ⟨rfl,rfl⟩
  go_wp2_with fail
  refine (HDE.out _).mono ?_
  rintro e w2 ⟨tr,T,qt,rfl,ht,hqt,hT,hf2⟩
  have HT:=Lib.hid (And.intro ht (And.intro hqt (And.intro hT hf2)))
  clear ht hqt hT hf2
  go_wp2_with fail
  refine (HRE.out _ _ _ _ _ _ _ _ (HV.out.1.fresh HT.out.2.2.2)).mono ?_
  rintro e w3 ⟨⟨a,c,rfl⟩,hf3⟩
  go_wp2_with fail
  refine (replay_none _ a c _).mono ?_
  rintro e w3' ⟨rfl,rfl⟩
  go_wp2
  go_ret2
  obtain ⟨hv1,hm1,hg1⟩:=HV.out
  obtain ⟨ht,hqt,hT,hf2⟩:=HT.out
  have z1:=hm1.size
  have z2:=hf2.size
  have z3:=hf3.size
  have hFB1:FB F1 w1:=by obtain ⟨_,_,_,_,_,_,_,_,_,h⟩:=hv1;exact h
  have f13:Fresh w1 (w3.alloc (.cells #[.pointer (some ⟨v,0,none⟩),.pointer (some ⟨tr,0,none⟩)] 201)):=(hf2.trans hf3).alloc _
  refine ⟨w3.heap.size,T,qt,ext F w (w3.alloc (.cells #[.pointer (some ⟨v,0,none⟩),.pointer (some ⟨tr,0,none⟩)] 201)),rfl,⟨v,tr,F1,fun k=>w1.heap.size≤k∧k<w3.heap.size,Blk.new _ _ _,.inr ⟨by omega,by simp⟩,fun j hj=>?_,fun j hj=>.inr ⟨by omega,by simp;omega⟩,fun h=>?_,fun h=>by omega,fun j hj h=>?_,by rw [HSS.out];exact hv1.fresh f13,?_,fun k hk=>?_⟩,hT,hqt,by omega,hm1.andFresh f13,Gr.ext _ _ _⟩
  · rcases hg1 j hj with q | q
    · exact .inl q
    · exact .inr ⟨q.1,by simp;omega⟩
  · have:=hFB1 _ h;omega
  · have:=hFB1 _ h;omega
  · exact ((ht.fresh hf3).mono (A':=fun k=>w1.heap.size≤k∧k<w3.heap.size) (fun k hk1 hk2=>⟨hk2,hk1⟩)).fresh ((Fresh.refl _).alloc _)
  · rcases hk with q | q
    · have:=hF k q;simp;omega
    · exact q.2
end
end Go.Proofs.YtpmlggjhfiljmaaGreatDoor
namespace Go.Proofs.YtpmlggjhfiljmaaGreatDoor
open Go.RowKit
abbrev linkV (dir:Int) (name:ByteArray) (isDir:Bool) (short:Int):Value:=.agg #[.int .i64 1,.int .i64 dir,.int .i64 0,.string name,.string ⟨#[]⟩,.bool isDir,.int .i64 short]
set_option maxRecDepth 100000 in
set_option maxHeartbeats 1600000 in
theorem formedL_any (dir:Int) (name:ByteArray) (isDir:Bool) (short:Int) (hd:0≤dir∧dir≤65535) (hs:0≤short∧short≤1000000) (b:Bool) (hb:b=decide (name.size≤255)) (w:World):Calls Tryz.prog 271 #[linkV dir name isDir short] w fun e w'=>e=.returned (.bool b)∧Fresh w w':=by
  have e0:(ByteArray.mk #[]).toList.isEmpty=true:=by decide +kernel
  have e1:(ByteArray.mk #[]).size=0:=rfl
  obtain ⟨hd0,hd1⟩:=hd
  obtain ⟨hs0,hs1⟩:=hs
  by_cases h:name.size≤255
  · have h1:(name.size:Int)≤255:=by omega
    have hb2:b=true:=by rw [hb];simp [h]
    subst hb2
    clear hb h
    go_enter Tryz.func271,Tryz.ntmps271
    go_wp2
    go_ret
    exact ⟨rfl,(Fresh.refl w).alloc _⟩
  · have h1:¬ (name.size:Int)≤255:=by omega
    have hb2:b=false:=by rw [hb];simp [h]
    subst hb2
    clear hb h
    go_enter Tryz.func271,Tryz.ntmps271
    go_wp2
    go_ret
    exact ⟨rfl,(Fresh.refl w).alloc _⟩
open Go.RowKit
def U8At (w:World) (A:Nat→Prop) (v:Value) (k:Nat):Prop:=∃ l:List Int,l.length=k∧(∀ x ∈ l,0≤x∧x<256)∧OwnA w A 5 1 v k (l.map (Value.int .u8))
theorem U8At.mono {w:World} {A A':Nat→Prop} {v:Value} {k:Nat} (h:U8At w A v k) (ha:∀ g,g<w.heap.size→A g→A' g):U8At w A' v k:=by
  obtain ⟨l,h1,h2,h3⟩:=h
  exact ⟨l,h1,h2,h3.mono ha⟩
theorem U8At.fresh {w w':World} {A:Nat→Prop} {v:Value} {k:Nat} (h:U8At w A v k) (hf:Fresh w w'):U8At w' A v k:=by
  obtain ⟨l,h1,h2,h3⟩:=h
  exact ⟨l,h1,h2,h3.fresh hf⟩
def GrowU (A:Nat→Prop) (k:Nat) (w:World) (e:Ending) (w':World):Prop:=∃ a c,e=.returned (.slice a k c)∧U8At w' (ext A w w') (.slice a k c) k∧Mut A w w'
def NumD (A:Nat→Prop) (k0 k:Nat) (w:World) (v i:Value) (wr:World):Prop:=∃ j:Nat,j≤k∧i=.int .i64 (8 * (j:Int) - 8)∧(∃ a c,v=.slice a (k0+k - j) c)∧U8At wr (ext A w wr) v (k0+k - j)∧Mut A w wr
set_option maxRecDepth 100000 in
set_option maxHeartbeats 1600000 in
theorem dnumber_any (A:Nat→Prop) (a0:Option Addr) (c0:Nat) (k0:Nat) (n:Int) (hn:0≤n∧n≤1000000000) (k:Nat) (hk:1≤k∧k≤8) (hk0:k0≤10000) (w:World) (h:U8At w A (.slice a0 k0 c0) k0) :
    Calls Tryz.prog 348 #[.slice a0 k0 c0,.int .i64 n,.int .i64 k] w (GrowU A (k0+k) w):=by
  obtain ⟨i0,hi0,hz0,hz1,hz2⟩:=info_partsG infoU8
  have H:=Lib.hid h
  clear h
  go_enter Tryz.func348,Tryz.ntmps348
  go_wp2_with fail
  go_loopw [0,7] (fun v i wr=>NumD A k0 k w v i wr) (fun _ i _=>(intOf i+8).toNat)
  case atStart=>exact ⟨k,Nat.le_refl _,by go_num,⟨a0,c0,by rw [show k0+k - k=k0 by omega]⟩,by rw [show k0+k - k=k0 by omega];exact H.out.mono (fun _ _ h=>.inl h),Mut.refl _ _⟩
  case round =>
    obtain ⟨j,hj,rfl,⟨a,c,rfl⟩,hu,hm⟩:=hrel
    have HU:=Lib.hid hu
    cases j with
    | zero =>
      have hc:¬ (0:Int)≤8 * ((0:Nat):Int) - 8:=by omega
      clear hu
      go_wp2
      go_ret
      exact ⟨a,c,rfl,HU.out,hm⟩
    | succ j =>
      have hc:(0:Int)≤8 * ((j+1:Nat):Int) - 8:=by omega
      have hc2:(8:Int)≤8 * ((j:Int)+1):=by omega
      obtain ⟨l,hl1,hl2,ho⟩:=hu
      have HL:=Lib.hid (And.intro hl1 hl2)
      clear hl1 hl2
      go_wp2_with (at_builtin;refine wpList_append_ownA _ rfl _ _ 131 rfl (ext A w wr) 5 i0 _ 1 1 Tryz.underlying131 hi0 hz0 hz1 hz2 rfl (by decide) _ _ _ rfl (ho.fresh ((Fresh.refl _).alloc _)) ⟨wr.heap.size,0,none⟩ 1 1 [_] rfl rfl (newCells _ _ _) (by intro u hu;simp at hu;subst hu;rfl) (by omega) (by decide) ?_;intro a' c' w' hown' hgrow)
      have ek:k0+k - (j+1)+1=k0+k - j:=by omega
      rw [ek] at hown' ⊢
      have u2:Mut (fun g=>(Value.slice a (k0+k - (j+1)) c).ownBlock=some g) wr w':=Fresh.andMut ((Fresh.refl _).alloc _) hgrow
      have z1:=hm.size
      have z2:=u2.size
      have ho2:=ho
      obtain ⟨y,hy⟩:∃ y:Int,n / 2 ^ (8 * (j+1) - 8) % 256=y:=⟨_,rfl⟩
      have hyb:0≤y∧y<256:=by omega
      rw [hy] at hown'
      refine ⟨⟨j,by omega,by go_num,⟨a',c',rfl⟩,⟨l++[y],by rw [List.length_append,HL.out.1];exact ek,fun x hx=>?_,?_⟩,?_⟩,by simp [intOf];omega⟩
      · rcases List.mem_append.1 hx with q | q
        · exact HL.out.2 x q
        · simp at q
          subst q
          exact hyb
      · rw [List.map_append]
        refine hown'.mono (fun g hg hh=>?_)
        rcases hh with (q | q) | q
        · exact .inl q
        · exact .inr ⟨q.1,by omega⟩
        · have:=q.1
          simp at this
          exact .inr ⟨by omega,hg⟩
      · refine hm.trans2 u2 (fun _ h=>h) (fun i hi h=>?_)
        rcases ho2.2 i h with q | q
        · exact q
        · omega
open Go.RowKit
theorem OwnA.up {w:World} {Bs:Nat} {e:TypeId} {sz:Nat} {v:Value} {n:Nat} {xs:List Value} (h:OwnA w (fun g=>Bs≤g) e sz v n xs):w.ownsRow Bs e sz v n xs:=by
  obtain ⟨⟨h1,h2⟩,h3⟩:=h
  refine ⟨h1,?_⟩
  rcases h2 with h2 | ⟨g,cap,cur,rfl,_,r⟩
  · exact .inl h2
  · exact .inr ⟨g,cap,cur,rfl,h3 g rfl,r⟩
theorem OwnA.down {w:World} {Bs:Nat} {e:TypeId} {sz:Nat} {v:Value} {n:Nat} {xs:List Value} (h:w.ownsRow Bs e sz v n xs):OwnA w (fun g=>Bs≤g) e sz v n xs:=⟨own_base h (Nat.zero_le _),fun g hg=>(h.lt g hg).1⟩
theorem str_bytes (s:ByteArray):∃ l:List Int,l.length=s.size∧(∀ x ∈ l,0≤x∧x<256)∧Lib.strCells s=l.map (Value.int .u8):=by
  refine ⟨s.data.toList.map (fun b=>(b.toNat:Int)),by rw [List.length_map,Array.length_toList];rfl,fun x hx=>?_,?_⟩
  · obtain ⟨b,_,rfl⟩:=List.mem_map.1 hx
    have:=b.toNat_lt
    omega
  · simp [Lib.strCells]
def GrowB (Bs k:Nat) (w:World) (e:Ending) (w':World):Prop:=∃ a c,e=.returned (.slice a k c)∧U8At w' (fun g=>Bs≤g) (.slice a k c) k∧Below Bs w w'
set_option maxRecDepth 100000 in
set_option maxHeartbeats 1600000 in
theorem dname_any (Bs:Nat) (a0:Option Addr) (c0 k0:Nat) (s:ByteArray) (hs:s.size≤1000) (hk0:k0≤10000) (w:World) (hB:Bs≤w.heap.size) (h:U8At w (fun g=>Bs≤g) (.slice a0 k0 c0) k0) :
    Calls Tryz.prog 347 #[.slice a0 k0 c0,.string s] w (GrowB Bs (k0+1+s.size) w):=by
  obtain ⟨i0,hi0,hz0,hz1,hz2⟩:=info_partsG infoU8
  obtain ⟨l,hl1,hl2,ho⟩:=h
  obtain ⟨ls,hs1,hs2,hs3⟩:=str_bytes s
  have HL:=Lib.hid (And.intro hl1 (And.intro hl2 (And.intro hs1 (And.intro hs2 hs3))))
  have HO:=Lib.hid ho
  clear hl1 hl2 hs1 hs2 hs3 ho
  go_enter Tryz.func347,Tryz.ntmps347
  go_wp2_with (first
    | (at_builtin;refine wpList_append_ownA _ rfl _ _ 131 rfl (fun g=>Bs≤g) 5 i0 _ 1 1 Tryz.underlying131 hi0 hz0 hz1 hz2 rfl (by decide) _ _ _ rfl (HO.out.fresh ((Fresh.refl _).alloc _)) ⟨w.heap.size,0,none⟩ 1 1 [_] rfl rfl (newCells _ _ _) (by intro u hu;simp at hu;subst hu;rfl) (by omega) (by decide) ?_;intro a1 c1 w1 hown1 hgrow1;have ho1:=OwnA.up (hown1.mono (A':=fun g=>Bs≤g) (fun g _ hg=>hg.elim id (fun q=>by have:=q.1;simp at this;omega)));have hb1:Below Bs w w1:=(Fresh.andMut ((Fresh.refl _).alloc _) hgrow1).below hB (fun k hk e=>by have:=HO.out.2 k e;omega))
    | (at_builtin;refine Lib.wpList_append_own_string _ rfl _ _ 131 9 rfl Bs 5 i0 Tryz.underlying131 Tryz.underlying9 hi0 hz0 hz1 hz2 _ _ _ rfl ho1 s rfl (by unfold maxLen;omega) (by omega) (Nat.le_trans hB hb1.size) ?_;intro v2 w2 hown2 hgrow2 hnil2))
  go_ret
  have ho3:=OwnA.down hown2
  have hsh:=ho3.shape
  obtain ⟨a2,c2,rfl⟩:=hsh
  obtain ⟨q1,q2,q3,q4,q5⟩:=HL.out
  refine ⟨a2,c2,rfl,⟨l++[(s.size:Int) % 256]++ls,by simp;omega,fun x hx=>?_,?_⟩,hb1.trans (Below.grown (Below.refl Bs w1) hgrow2 (Nat.le_trans hB hb1.size) (fun k hk=>(ho1.lt k hk).1))⟩
  · rcases List.mem_append.1 hx with q | q
    · rcases List.mem_append.1 q with q | q
      · exact q2 x q
      · simp at q
        subst q
        omega
    · exact q4 x q
  · rw [List.map_append,List.map_append,← q5]
    exact ho3
open Go.RowKit
theorem dnumber_b (Bs:Nat) (a0:Option Addr) (c0:Nat) (k0:Nat) (n:Int) (hn:0≤n∧n≤1000000000) (k:Nat) (hk:1≤k∧k≤8) (hk0:k0≤10000) (w:World) (hB:Bs≤w.heap.size) (h:U8At w (fun g=>Bs≤g) (.slice a0 k0 c0) k0) :
    Calls Tryz.prog 348 #[.slice a0 k0 c0,.int .i64 n,.int .i64 k] w (GrowB Bs (k0+k) w) :=
  (dnumber_any _ a0 c0 k0 n hn k hk hk0 w h).mono fun e w' ⟨a,c,he,hu,hm⟩=>⟨a,c,he,hu.mono (fun g _ hg=>hg.elim id (fun q=>by omega)),hm.below hB (fun k hk h=>by omega)⟩
theorem Fresh.trans3 {a b c:World} (h:Fresh a b) (k:Below a.heap.size b c):Fresh a c:=Below.trans h k
theorem u8_new (W:World):U8At (W.alloc (.cells #[.int .u8 (IntKind.u8.wrap 1)] 5)).drew (fun g=>W.heap.size≤g) (.slice (some ⟨W.heap.size,0,none⟩) 1 1) 1:=by
  refine ⟨[1],rfl,by simp,⟨rfl,.inr ⟨_,1,#[.int .u8 1],rfl,Nat.zero_le _,?_,Nat.le_refl _,by unfold maxLen;omega,rfl,rfl⟩⟩,fun g hg=>by have h2:=hg;simp [Value.ownBlock] at h2;omega⟩
  exact heap_alloc_new _ _
theorem conv_u8 {w:World} {A:Nat→Prop} {a:Option Addr} {c k:Nat} (h:U8At w A (.slice a k c) k) (hk:1≤k):∃ s:ByteArray,s.size=k∧(convert 131 9 (.slice a k c)).run Tryz.prog w=.ok (.string s) w:=by
  obtain ⟨l,h1,h2,h3⟩:=h
  have h4:=h3.1
  obtain ⟨_,⟨q1,q2⟩ | ⟨g,cap,cur,q,_⟩⟩:=h3.1
  · omega
  · injection q with q
    subst q
    refine ⟨strOfNums l,by rw [← h1];simp [strOfNums,ByteArray.size],?_⟩
    have:=run_convert_bytes_arg (P:=Tryz.prog) w 131 5 Tryz.underlying131 Tryz.underlying5 g 0 k c l h1 (fun i hi=>by
      have:=h4.cells (g:=g) rfl i (.int .u8 (l.getD i 0)) (by have hi2:i<l.length:=(by omega);simp [List.getD,hi2])
      rw [Addr.add_lit,Nat.zero_add] at this
      simpa using this) 9 Tryz.underlying9
    exact this
theorem u8_push {w:World} {A:Nat→Prop} {v:Value} {k:Nat} {l:List Int} {y:Int} (h:OwnA w A 5 1 v (k+1) (l.map (Value.int .u8)++[.int .u8 y])) (hy:0≤y∧y<256) (h1:l.length=k) (h2:∀ x ∈ l,0≤x∧x<256):U8At w A v (k+1):=by
  refine ⟨l++[y],by simp [h1],fun x hx=>?_,by rw [List.map_append];exact h⟩
  rcases List.mem_append.1 hx with q | q
  · exact h2 x q
  · simp at q
    subst q
    exact hy
def StrIs (k:Nat) (w:World) (e:Ending) (w':World):Prop:=∃ s:ByteArray,e=.returned (.string s)∧s.size=k∧Fresh w w'
set_option maxRecDepth 100000 in
set_option maxHeartbeats 3200000 in
theorem bytesL_any (dir:Int) (name:ByteArray) (isDir:Bool) (short:Int) (hd:0≤dir∧dir≤65535) (hs:0≤short∧short≤1000000) (hn:name.size≤255) (w:World):Calls Tryz.prog 275 #[linkV dir name isDir short] w (StrIs (name.size+9) w):=by
  obtain ⟨W5,hW5⟩:∃ W5,(w.alloc (.cells #[.int .i64 1,.int .i64 dir,.int .i64 0,.string name,.string ⟨#[]⟩,.bool isDir,.int .i64 short] 142))=W5:=⟨_,rfl⟩
  have hs5:W5.heap.size=w.heap.size+1:=by rw [← hW5];simp
  have X5:Blk W5 w.heap.size 142 #[.int .i64 1,.int .i64 dir,.int .i64 0,.string name,.string ⟨#[]⟩,.bool isDir,.int .i64 short]:=by rw [← hW5];exact Blk.new _ _ _
  have HS5:=Lib.hid hs5
  have hf5:Fresh w W5:=by rw [← hW5];exact (Fresh.refl w).alloc _
  have HNU:=Lib.hid (fun a0 c0 k0 n hn k hk hk0 W hB h=>dnumber_b W5.heap.size a0 c0 k0 n hn k hk hk0 W hB h)
  have HNA:=Lib.hid (fun a0 c0 k0 s hs hk0 W hB h=>dname_any W5.heap.size a0 c0 k0 s hs hk0 W hB h)
  have HSP:Hid (∀ W,Fresh W5 W→W.cell? ⟨w.heap.size,0,none⟩=some (.int .i64 1)∧W.cell? ⟨w.heap.size,1,none⟩=some (.int .i64 dir)∧W.cell? ⟨w.heap.size,3,none⟩=some (.string name)∧W.cell? ⟨w.heap.size,5,none⟩=some (.bool isDir)∧W.cell? ⟨w.heap.size,6,none⟩=some (.int .i64 short)∧Fresh W5 W):=Lib.hid (fun W hW=>by
    have b:=X5.keep hW
    exact ⟨by rw [b.cell];rfl,by rw [b.cell];rfl,by rw [b.cell];rfl,by rw [b.cell];rfl,by rw [b.cell];rfl,hW⟩)
  have h0:=HSP.out W5 (Fresh.refl _)
  have HFR:=Lib.hid hf5
  clear hs5 hf5
  go_enter Tryz.func275,Tryz.ntmps275
  go_wp2_with fail
  try rw [hW5]
  clear hW5 X5
  go_region_held3 (fun W=>W.cell? ⟨w.heap.size,0,none⟩=some (.int .i64 1)∧W.cell? ⟨w.heap.size,1,none⟩=some (.int .i64 dir)∧W.cell? ⟨w.heap.size,3,none⟩=some (.string name)∧W.cell? ⟨w.heap.size,5,none⟩=some (.bool isDir)∧W.cell? ⟨w.heap.size,6,none⟩=some (.int .i64 short)∧Fresh W5 W) (exact HSP.out _ (by repeat (first | assumption | exact Fresh.refl _ | refine Fresh.alloc ?_ _ | refine Fresh.drew ?_))) (first
    | (go_at_call 348;refine (HNU.out _ _ 1 dir (by omega) 2 (by omega) (by omega) _ (by show W5.heap.size≤(W5.alloc _).heap.size;simp) (u8_new W5)).mono ?_;rintro e wA ⟨aA,cA,rfl,hoA,hbA⟩;have hfA:Fresh W5 wA:=(((Fresh.refl W5).alloc _).drew).trans3 hbA)
    | (go_at_call 347;refine (HNA.out _ _ 3 name (by omega) (by omega) _ hfA.size hoA).mono ?_;rintro e wB ⟨aB,cB,rfl,hoB,hbB⟩;have hfB:Fresh W5 wB:=hfA.trans3 hbB))
  all_goals
    obtain ⟨s0,s1,s3,s5,s6,_⟩:=HSP.out wB hfB
    obtain ⟨i0,hi0,hz0,hz1,hz2⟩:=info_partsG infoU8
    obtain ⟨l,hl1,hl2,ho⟩:=hoB
    have HL:=Lib.hid (And.intro hl1 hl2)
    clear hoA hbA hfA hbB hl1 hl2 h0
    cases isDir
    all_goals
      go_wp2_with (at_builtin;refine wpList_append_ownA _ rfl _ _ 131 rfl (fun g=>W5.heap.size≤g) 5 i0 _ 1 1 Tryz.underlying131 hi0 hz0 hz1 hz2 rfl (by decide) _ _ _ rfl (ho.fresh ((Fresh.refl _).alloc _)) ⟨wB.heap.size,0,none⟩ 1 1 [_] rfl rfl (newCells _ _ _) (by intro u hu;simp at hu;subst hu;rfl) (by omega) (by decide) ?_;intro aC cC wC ownC growC;have hfC:Fresh W5 wC:=((hfB.alloc _).mut2 growC (fun j e=>by have:=ho.2 j e;omega));obtain ⟨p0,p1,p3,p5,p6,_⟩:=HSP.out wC hfC)
      have huC:U8At wC (fun g=>W5.heap.size≤g) (.slice aC (4+name.size+1) cC) (4+name.size+1):=by
        have hq:=HL.out
        exact (u8_push (ownC.mono (A':=fun g=>W5.heap.size≤g) (fun g _ hg=>hg.elim id (fun q=>by have q1:=q.1;have z:=hfB.size;simp at q1;omega))) (by omega) (by omega) hq.2)
      refine (HNU.out _ _ (4+name.size+1) short (by omega) 4 (by omega) (by omega) wC hfC.size huC).mono ?_
      rintro e wD ⟨aD,cD,rfl,huD,hbD⟩
      have hfD:Fresh W5 wD:=hfC.trans3 hbD
      obtain ⟨st,hst1,hst2⟩:=conv_u8 huD (by omega)
      have HST:=Lib.hid hst1
      have HFD:=Lib.hid (HFR.out.trans hfD)
      clear huD huC hbD growC ownC hst1
      go_wp2
      go_ret
      exact ⟨st,rfl,by have:=HST.out;omega,HFD.out⟩
open Go.RowKit
def EncD (k:Nat) (w:World) (e:Ending) (w':World):Prop:=∃ s:ByteArray,e=.returned (.tuple #[.string s,.int .i64 0])∧s.size=k∧Fresh w w'
set_option maxRecDepth 100000 in
set_option maxHeartbeats 1600000 in
theorem dencodeL_any (dir:Int) (name:ByteArray) (isDir:Bool) (short:Int) (hd:0≤dir∧dir≤65535) (hs:0≤short∧short≤1000000) (hn:name.size≤255) (w:World):Calls Tryz.prog 185 #[linkV dir name isDir short] w (EncD (name.size+9) w):=by
  have HFO:=Lib.hid (fun W=>formedL_any dir name isDir short hd hs true (by simp [hn]) W)
  have HBY:=Lib.hid (fun W=>bytesL_any dir name isDir short hd hs hn W)
  have X:=Blk.new w 142 #[.int .i64 1,.int .i64 dir,.int .i64 0,.string name,.string ⟨#[]⟩,.bool isDir,.int .i64 short]
  have HX:=Lib.hid X
  clear X hd hs hn
  go_enter Tryz.func185,Tryz.ntmps185
  go_wp2_with fail
  refine (HFO.out _).mono ?_
  rintro e w1 ⟨rfl,hf1⟩
  have b1:=HX.out.keep hf1
  have c0:w1.cell? ⟨w.heap.size,0,none⟩=some (.int .i64 1):=by rw [b1.cell];rfl
  have c1:w1.cell? ⟨w.heap.size,1,none⟩=some (.int .i64 dir):=by rw [b1.cell];rfl
  have c2:w1.cell? ⟨w.heap.size,2,none⟩=some (.int .i64 0):=by rw [b1.cell];rfl
  have c3:w1.cell? ⟨w.heap.size,3,none⟩=some (.string name):=by rw [b1.cell];rfl
  have c4:w1.cell? ⟨w.heap.size,4,none⟩=some (.string ⟨#[]⟩):=by rw [b1.cell];rfl
  have c5:w1.cell? ⟨w.heap.size,5,none⟩=some (.bool isDir):=by rw [b1.cell];rfl
  have c6:w1.cell? ⟨w.heap.size,6,none⟩=some (.int .i64 short):=by rw [b1.cell];rfl
  have HF1:Hid (Fresh w w1):=Lib.hid (((Fresh.refl w).alloc _).trans hf1)
  clear b1 hf1
  go_wp2_with fail
  refine (HBY.out _).mono ?_
  rintro e w2 ⟨s,rfl,hs2,hf2⟩
  have HS2:=Lib.hid hs2
  clear hs2
  go_wp2
  go_ret2
  exact ⟨s,rfl,HS2.out,HF1.out.trans hf2⟩
open Go.RowKit
theorem enters272:∀ (args:Array Value) (W:World),Sem.run Tryz.prog (callFunc 272 args) W=.ok (.enter 272 args) W:=by intro args w;go_simp
theorem TreeAt.gr {A:Nat→Prop} {w w':World} (h:w.heap.size≤w'.heap.size):True:=trivial
theorem LinkPost.ahead {R:Int→Int→List Int→Prop} {A:Nat→Prop} {t:Nat} {T:TreS} {q:Nat} {d:Int} {name:ByteArray} {isDir:Bool} {short:Int} {w w1:World} {e:Ending} {w':World} (h:LinkPost R A t T q d name isDir short w1 e w') (hf:Fresh w w1):LinkPost R A t T q d name isDir short w e w':=by
  rcases h with ⟨r,h1,h2,h3⟩ | ⟨h1,k,fr,bk,A',h2,h3,h4,h5⟩
  · exact .inl ⟨r,h1,h2,hf.trans h3⟩
  · exact .inr ⟨h1,k,fr,bk,A',h2,hf.andMut h3,h4.ahead hf.size,h5⟩
theorem LinkPost.shape {R:Int→Int→List Int→Prop} {A:Nat→Prop} {t:Nat} {T:TreS} {q:Nat} {d:Int} {name:ByteArray} {isDir:Bool} {short:Int} {w:World} {e:Ending} {w':World} (h:LinkPost R A t T q d name isDir short w e w'):∃ a b:Int,e=.returned (.tuple #[.int .i64 a,.int .i64 b]):=by
  rcases h with ⟨r,h1,h2,h3⟩ | ⟨h1,k,fr,bk,A',h2,h3,h4,⟨_,h5,_⟩ | ⟨_,h5,_⟩⟩
  · exact ⟨_,_,h2⟩
  · exact ⟨_,_,h5⟩
  · exact ⟨_,_,h5⟩
set_option maxRecDepth 100000 in
set_option maxHeartbeats 1600000 in
theorem ddoL_any (R:Int→Int→List Int→Prop) (w:World) (A:Nat→Prop) (t:Nat) (T:TreS) (q:Nat) (h:TreeAt w A t T q) (hT:Takes R T q) (dir:Int) (name:ByteArray) (isDir:Bool) (short:Int) (hd:0≤dir∧dir≤65535) (hs:0≤short∧short≤1000000) (hn:name.size≤255) (hq:q≤100000) (hl:∀ i l,T.dirs i=some l→l.length≤10000) (hnx:0≤T.next∧T.next≤100000) :
    Calls Tryz.prog 184 #[.pointer (some ⟨t,0,none⟩),linkV dir name isDir short] w (LinkPost R A t T q dir name isDir short w):=by
  have HFO:=Lib.hid (fun W=>formedL_any dir name isDir short hd hs true (by simp [hn]) W)
  have HLK:=Lib.hid (fun W (hW:Fresh w W)=>link_any R W A t T q (h.fresh hW) hT dir (by unfold I64;omega) name isDir short hq hl hnx)
  have HX:=Lib.hid (Blk.new w 142 #[.int .i64 1,.int .i64 dir,.int .i64 0,.string name,.string ⟨#[]⟩,.bool isDir,.int .i64 short])
  have hen:=enters272
  clear h hT hd hs hn hl
  go_enter Tryz.func184,Tryz.ntmps184
  go_wp2_with fail
  refine (HFO.out _).mono ?_
  rintro e w1 ⟨rfl,hf1⟩
  have b1:=HX.out.keep hf1
  have c0:w1.cell? ⟨w.heap.size,0,none⟩=some (.int .i64 1):=by rw [b1.cell];rfl
  have c1:w1.cell? ⟨w.heap.size,1,none⟩=some (.int .i64 dir):=by rw [b1.cell];rfl
  have c3:w1.cell? ⟨w.heap.size,3,none⟩=some (.string name):=by rw [b1.cell];rfl
  have c5:w1.cell? ⟨w.heap.size,5,none⟩=some (.bool isDir):=by rw [b1.cell];rfl
  have c6:w1.cell? ⟨w.heap.size,6,none⟩=some (.int .i64 short):=by rw [b1.cell];rfl
  have HF1:Hid (Fresh w w1):=Lib.hid (((Fresh.refl w).alloc _).trans hf1)
  clear b1 hf1
  go_wp2_with fail
  refine (HLK.out _ HF1.out).mono ?_
  intro e w2 hp
  obtain ⟨a,b,rfl⟩:=hp.shape
  have HP:=Lib.hid (hp.ahead HF1.out)
  clear hp
  go_wp2
  go_ret2
  exact HP.out
end Go.Proofs.YtpmlggjhfiljmaaGreatDoor
