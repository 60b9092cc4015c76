/- Part 22 of what the law rests on. -/
import Derived.ArgAppend
import Derived.ChangeAlike
import Derived.Test.YtpmlggjhfiljmaaGreatDoorS21
set_option linter.all false
namespace Go.Proofs.YtpmlggjhfiljmaaGreatDoor
open Go.RowKit
section
variable (F:Nat→Prop) (p:Nat) (n:Int) (D:Int→ByteArray) (q:Nat) (w:World)
set_option maxHeartbeats 800000 in
theorem begin1_any (h:DevAt w F p n D q) (b0 b1:Nat) (f s:Int) (r:ByteArray) (h1:1≤s) (h2:0≤f) (h3:f+s≤n) (hn:n≤1000000) (hr:1≤r.size) (hr2:r.size≤60000) (hfit:1+kfr r.size≤s) (hq:q+kfr r.size≤90000)
    (c0:w.cell? ⟨b0,0,none⟩=some (.pointer (some ⟨p,0,none⟩))) (c1:w.cell? ⟨b0,1,none⟩=some (.int .i64 f)) (c2:w.cell? ⟨b0,2,none⟩=some (.int .i64 s)) (c3:w.cell? ⟨b1,0,none⟩=some (.string r)) :
    Calls Tryz.prog 305 #[.pointer (some ⟨b0,0,none⟩),.pointer (some ⟨b1,0,none⟩)] w (DevPost F p n (wrD D (f+1) r (kfr r.size)) (q+kfr r.size) w (.int .i64 0)):=by
  have HS:=Lib.hid (hwrite_any F p n D q _ h f s 1 r h1 h2 h3 hn (by omega) hr hr2 hfit hq)
  unfold hfv at HS
  clear h
  go_enter Tryz.func305,Tryz.ntmps305
  go_wp2_with fail
  refine HS.out.mono ?_
  rintro e w1 ⟨rfl,HH⟩
  have HH2:=Lib.hid HH
  clear HH
  go_wp2
  go_ret
  exact ⟨rfl,HH2.out⟩
set_option maxHeartbeats 800000 in
theorem begin2_any (h:DevAt w F p n D q) (b0 b2:Nat) (f s e:Int) (hf:0≤f∧f<n) (hn:n≤1000000) (hq:q≤100000) (he:0≤e) (h64:e<18446744073709551616)
    (c0:w.cell? ⟨b0,0,none⟩=some (.pointer (some ⟨p,0,none⟩))) (c1:w.cell? ⟨b0,1,none⟩=some (.int .i64 f)) (c3:w.cell? ⟨b2,0,none⟩=some (.int .u64 e)) :
    Calls Tryz.prog 306 #[.pointer (some ⟨b0,0,none⟩),.pointer (some ⟨b2,0,none⟩)] w (DevPost F p n (upd D f (labS e)) (q+1) w (.int .i64 0)):=by
  have HS:=Lib.hid (setEpoch_any F p n D q _ h f e hf hn hq he h64)
  clear h
  go_enter Tryz.func306,Tryz.ntmps306
  go_wp2_with fail
  refine HS.out.mono ?_
  rintro e w1 ⟨rfl,HH⟩
  have HH2:=Lib.hid HH
  clear HH
  go_wp2
  go_ret
  exact ⟨rfl,HH2.out⟩
def DI (W:World) (D':Int→ByteArray) (q':Nat) (V:World):Prop:=∃ F',DevAt V F' p n D' q'∧Mut F W V∧Gr F W V F'
theorem DI.start {F:Nat→Prop} {p:Nat} {n:Int} {D:Int→ByteArray} {q:Nat} {W:World} (h:DevAt W F p n D q):DI F p n W D q W:=⟨F,h,Mut.refl _ _,Gr.refl _ _⟩
theorem DI.post {F F':Nat→Prop} {p:Nat} {n:Int} {D D':Int→ByteArray} {q q':Nat} {W V V':World} (hm:Mut F W V) (hg:Gr F W V F') {r:Value} {e:Ending} (h:DevPost F' p n D' q' V r e V'):e=.returned r∧DI F p n W D' q' V':=by
  obtain ⟨he,F2,hd,hm2,hg2⟩:=h
  exact ⟨he,F2,hd,hm.trans2 hm2 (fun _ h=>h) (fun j hj h=>(hg j h).elim id (fun q=>absurd q.1 (by omega))),hg.trans hg2 hm.size hm2.size⟩
theorem DI.fresh {F F':Nat→Prop} {p:Nat} {n:Int} {D:Int→ByteArray} {q:Nat} {W V V':World} (hd:DevAt V F' p n D q) (hm:Mut F W V) (hg:Gr F W V F') (h:Fresh V V'):DI F p n W D q V':=⟨F',hd.fresh h,hm.andFresh h,hg.later h.size⟩
end
theorem enters224:EntersF 224:=by intro args w;go_simp
theorem enters225:EntersF 225:=by intro args w;go_simp
theorem enters226:EntersF 226:=by intro args w;go_simp
theorem enters305:EntersF 305:=by intro args w;go_simp
theorem enters306:EntersF 306:=by intro args w;go_simp
def begF:List FuncId:=[224,225,226,305,225,306,225]
def begB (p:Nat) (f s:Int):List (Array Value):=[#[hfv p f s],#[.pointer (some ⟨p,0,none⟩)],#[hfv p f s],#[],#[.pointer (some ⟨p,0,none⟩)],#[],#[.pointer (some ⟨p,0,none⟩)]]
def begC (b:Nat):List (Array Value):=[#[],#[],#[],#[.pointer (some ⟨b,0,none⟩),.pointer (some ⟨b+1,0,none⟩)],#[],#[.pointer (some ⟨b,0,none⟩),.pointer (some ⟨b+2,0,none⟩)],#[]]
def begV (p b:Nat) (f s:Int) (i:Nat):Value:=.func (.func (begF.getD i 0)) ((begB p f s).getD i #[]) ((begC b).getD i #[])
def begD (D:Int→ByteArray) (f e:Int) (r:ByteArray):List (Int→ByteArray) :=
  [D,upd D f (labS 0),upd D f (labS 0),upd D f (labS 0),wrD (upd D f (labS 0)) (f+1) r (kfr r.size),wrD (upd D f (labS 0)) (f+1) r (kfr r.size),upd (wrD (upd D f (labS 0)) (f+1) r (kfr r.size)) f (labS e),upd (wrD (upd D f (labS 0)) (f+1) r (kfr r.size)) f (labS e)]
def begQ (q k:Nat):List Nat:=[q,q+1,q+1,q+1,q+1+k,q+1+k,q+1+k+1,q+1+k+1]
section
variable (F:Nat→Prop) (p:Nat) (n:Int) (D:Int→ByteArray) (q:Nat) (w:World)
abbrev begW (w:World) (p:Nat) (f s e:Int) (r:ByteArray):World :=
  (((w.alloc (.cells #[.pointer (some ⟨p,0,none⟩),.int .i64 f,.int .i64 s] 296)).alloc (.cells #[.string r] 9)).alloc (.cells #[.int .u64 e] 208)).alloc
    (.cells #[.func (.func 224) #[.agg #[.pointer (some ⟨p,0,none⟩),.int .i64 f,.int .i64 s]] #[],.func (.func 225) #[.pointer (some ⟨p,0,none⟩)] #[],
      .func (.func 226) #[.agg #[.pointer (some ⟨p,0,none⟩),.int .i64 f,.int .i64 s]] #[],.func (.func 305) #[] #[.pointer (some ⟨w.heap.size,0,none⟩),.pointer (some ⟨w.heap.size+1,0,none⟩)],
      .func (.func 225) #[.pointer (some ⟨p,0,none⟩)] #[],.func (.func 306) #[] #[.pointer (some ⟨w.heap.size,0,none⟩),.pointer (some ⟨w.heap.size+1+1,0,none⟩)],.func (.func 225) #[.pointer (some ⟨p,0,none⟩)] #[]] 100)
theorem begW_cells (f s e:Int) (r:ByteArray):(∀ i,i<7→(begW w p f s e r).cell? ⟨w.heap.size+1+1+1,0+i,none⟩=some (begV p w.heap.size f s i))∧(begW w p f s e r).cell? ⟨w.heap.size,0,none⟩=some (.pointer (some ⟨p,0,none⟩))∧(begW w p f s e r).cell? ⟨w.heap.size,1,none⟩=some (.int .i64 f) ∧
    (begW w p f s e r).cell? ⟨w.heap.size,2,none⟩=some (.int .i64 s)∧(begW w p f s e r).cell? ⟨w.heap.size+1,0,none⟩=some (.string r)∧(begW w p f s e r).cell? ⟨w.heap.size+2,0,none⟩=some (.int .u64 e)∧(begW w p f s e r).heap.size=w.heap.size+4∧Fresh w (begW w p f s e r):=by
  refine ⟨?_,by go_simp,by go_simp,by go_simp,by go_simp,by go_simp,by simp,(((((Fresh.refl w).alloc _).alloc _).alloc _).alloc _)⟩
  intro i hi
  rcases (by omega:i=0∨i=1∨i=2∨i=3∨i=4∨i=5∨i=6) with rfl | rfl | rfl | rfl | rfl | rfl | rfl <;> (rw [World.cell?_alloc_at _ _ _ _ (by simp)];rfl)
set_option maxRecDepth 100000 in
set_option maxHeartbeats 1600000 in
theorem begin_steps (h:DevAt w F p n D q) (hF:FB F w) (f:Int) (s:Nat) (e:Int) (r:ByteArray) (h1:1≤s) (h2:0≤f) (h3:f+s≤n) (hn:n≤1000000) (hr:1≤r.size) (hr2:r.size≤60000) (hfit:1+kfr r.size≤s) (hq:q+kfr r.size≤80000)
    (he:0≤e) (h64:e<18446744073709551616) (hz:∀ i,f+1≤i→i<f+s→D i=zer 64) :
    Calls Tryz.prog 223 #[.slice (some ⟨w.heap.size+1+1+1,0,none⟩) 7 7] (begW w p f s e r) fun e' w'=>e'=.returned (.int .i64 0)∧DI F p n (begW w p f s e r) (upd (wrD (upd D f (labS 0)) (f+1) r (kfr r.size)) f (labS e)) (q+1+kfr r.size+1) w':=by
  obtain ⟨hc,b0,b1,b2,b3,b4,hsz,hfr⟩:=begW_cells p w f s e r
  have hd:=h.fresh hfr
  obtain ⟨W,hW⟩:∃ W,begW w p f s e r=W:=⟨_,rfl⟩
  rw [hW] at hc b0 b1 b2 b3 b4 hsz hd ⊢
  clear hW hfr h
  have hnb:∀ k,w.heap.size≤k→¬ F k:=fun k hk q=>by have:=hF k q;omega
  have keep:∀ {V:World} {D':Int→ByteArray} {q':Nat},DI F p n W D' q' V→∀ (b o:Nat),w.heap.size≤b→b<w.heap.size+4→V.cell? ⟨b,o,none⟩=W.cell? ⟨b,o,none⟩:=by
    intro V D' q' ⟨F',_,hm,_⟩ b o hb1 hb2
    exact hm.cell (p:=⟨b,o,none⟩) (by rw [hsz];exact hb2) (hnb b hb1)
  refine all_steps 7 (w.heap.size+1+1+1) 0 7 (fun i=>begF.getD i 0) (fun i=>(begB p f s).getD i #[]) (fun i=>(begC w.heap.size).getD i #[]) (fun i V=>DI F p n W ((begD D f e r).getD i D) ((begQ q (kfr r.size)).getD i 0) V) (by omega) ?_ ?_ ?_ W (DI.start hd)
  · intro i V hi hI
    rw [keep hI _ _ (by omega) (by omega)]
    exact hc i hi
  · intro i hi
    rcases (by omega:i=0∨i=1∨i=2∨i=3∨i=4∨i=5∨i=6) with rfl | rfl | rfl | rfl | rfl | rfl | rfl
    · exact enters224
    · exact enters225
    · exact enters226
    · exact enters305
    · exact enters225
    · exact enters306
    · exact enters225
  · intro i V hi hI
    have hk:=keep hI
    obtain ⟨F',hd',hm,hg⟩:=hI
    rcases (by omega:i=0∨i=1∨i=2∨i=3∨i=4∨i=5∨i=6) with rfl | rfl | rfl | rfl | rfl | rfl | rfl
    · exact (blank_any F' p n _ _ V hd' f s (by omega) hn (by show q≤_;omega)).mono fun _ _ h=>(by have h2:=DI.post (D:=D) (q:=q) hm hg h;exact h2)
    · exact (flush_any F' p n _ _ V hd').mono fun _ _ h=>(by have h2:=DI.post (D:=D) (q:=q) hm hg h;exact h2)
    · refine (hwipe_any F' p n _ _ V hd' f s h2 h3 h1 hn fun i a b=>?_).mono fun _ _ h=>(by have h2:=DI.fresh hd' hm hg h.2;exact ⟨h.1,h2⟩)
      show upd D f (labS 0) i=_
      unfold upd
      rw [if_neg (by omega)]
      exact hz i a b
    · exact (begin1_any F' p n _ _ V hd' w.heap.size (w.heap.size+1) f s r (by omega) h2 h3 hn hr hr2 (by omega) (by show q+1+_≤_;omega) (by rw [hk _ _ (by omega) (by omega),b0]) (by rw [hk _ _ (by omega) (by omega),b1]) (by rw [hk _ _ (by omega) (by omega),b2]) (by rw [hk _ _ (by omega) (by omega),b3])).mono fun _ _ h=>(by have h2:=DI.post (D:=D) (q:=q) hm hg h;exact h2)
    · exact (flush_any F' p n _ _ V hd').mono fun _ _ h=>(by have h2:=DI.post (D:=D) (q:=q) hm hg h;exact h2)
    · exact (begin2_any F' p n _ _ V hd' w.heap.size (w.heap.size+2) f s e (by omega) hn (by show q+1+_≤_;omega) he h64 (by rw [hk _ _ (by omega) (by omega),b0]) (by rw [hk _ _ (by omega) (by omega),b1]) (by rw [hk _ _ (by omega) (by omega),b4])).mono fun _ _ h=>(by have h2:=DI.post (D:=D) (q:=q) hm hg h;exact h2)
    · exact (flush_any F' p n _ _ V hd').mono fun _ _ h=>(by have h2:=DI.post (D:=D) (q:=q) hm hg h;exact h2)
set_option maxRecDepth 100000 in
set_option maxHeartbeats 1600000 in
theorem begin_any (h:DevAt w F p n D q) (hF:FB F w) (f:Int) (s:Nat) (e:Int) (r:ByteArray) (h1:1≤s) (h2:0≤f) (h3:f+s≤n) (hn:n≤1000000) (hr:1≤r.size) (hr2:r.size≤60000) (hfit:1+kfr r.size≤s) (hq:q+kfr r.size≤80000)
    (he:0≤e) (h64:e<18446744073709551616) (hz:∀ i,f+1≤i→i<f+s→D i=zer 64) :
    Calls Tryz.prog 227 #[hfv p f s,.string r,.int .u64 e] w (DevPost F p n (upd (wrD (upd D f (labS 0)) (f+1) r (kfr r.size)) f (labS e)) (q+1+kfr r.size+1) w (.int .i64 0)):=by
  have HX:=Lib.hid (begin_steps F p n D q w h hF f s e r h1 h2 h3 hn hr hr2 hfit hq he h64 hz)
  have hsz:(begW w p f s e r).heap.size=w.heap.size+4:=by simp
  have HSZ:=Lib.hid hsz
  have HFR:=Lib.hid (begW_cells p w f s e r).2.2.2.2.2.2.2
  clear h hsz
  unfold hfv
  go_enter Tryz.func227,Tryz.ntmps227
  go_wp2_with fail
  refine HX.out.mono ?_
  rintro e1 w1 ⟨rfl,HH⟩
  have HH2:=Lib.hid HH
  clear HH
  go_wp2
  go_ret
  obtain ⟨F',hd,hm,hg⟩:=HH2.out
  exact ⟨rfl,F',hd,HFR.out.andMut hm,hg.ahead HFR.out.size⟩
end
end Go.Proofs.YtpmlggjhfiljmaaGreatDoor
namespace Go.Proofs.YtpmlggjhfiljmaaGreatDoor
open Go.RowKit
def fmF:List FuncId:=[224,224,225,226]
def fmB (p:Nat) (m:Int):List (Array Value):=[#[hfv p 0 m],#[hfv p m m],#[.pointer (some ⟨p,0,none⟩)],#[hfv p m m]]
def fmD (D:Int→ByteArray) (m:Int):List (Int→ByteArray):=[D,upd D 0 (labS 0),upd (upd D 0 (labS 0)) m (labS 0),upd (upd D 0 (labS 0)) m (labS 0),upd (upd D 0 (labS 0)) m (labS 0)]
def fmQ (q:Nat):List Nat:=[q,q+1,q+1+1,q+1+1,q+1+1]
section
variable (F:Nat→Prop) (p:Nat) (n:Int) (D:Int→ByteArray) (q:Nat) (w:World)
theorem may_any (h:DevAt w F p n D q) (hn:4≤n):Calls Tryz.prog 220 #[.pointer (some ⟨p,0,none⟩)] w fun e w'=>e=.returned (.int .i64 0)∧Fresh w w':=by
  have HG:=Lib.hid (get_out F p n D q w h (-1) (by omega) (by omega))
  have HS:=Lib.hid (fun W (hf:Fresh w W)=>devSize_any F p n D q W (h.fresh hf))
  go_enter Tryz.func220,Tryz.ntmps220
  go_wp2_with fail
  refine HG.out.mono ?_
  rintro e w1 ⟨rfl,hf⟩
  go_wp2_with fail
  refine (HS.out _ hf).mono ?_
  rintro e w2 ⟨rfl,rfl⟩
  go_wp2
  go_ret
  exact ⟨rfl,hf⟩
set_option maxRecDepth 100000 in
set_option maxHeartbeats 1600000 in
theorem fm_steps (g:Nat) (m:Nat) (h:DevAt w F p n D q) (hF:∀ k,F k→k ≠ g) (hg:g<w.heap.size) (hm1:1≤m) (hm2:(m:Int)+m≤n) (hn:n≤1000000) (hq:q≤10000) (hz:∀ i,(m:Int)+1≤i→i<m+m→D i=zer 64)
    (c0:w.cell? ⟨g,0,none⟩=some (.func (.func 224) #[.agg #[.pointer (some ⟨p,0,none⟩),.int .i64 0,.int .i64 m]] #[])) (c1:w.cell? ⟨g,1,none⟩=some (.func (.func 224) #[.agg #[.pointer (some ⟨p,0,none⟩),.int .i64 m,.int .i64 m]] #[]))
    (c2:w.cell? ⟨g,2,none⟩=some (.func (.func 225) #[.pointer (some ⟨p,0,none⟩)] #[])) (c3:w.cell? ⟨g,3,none⟩=some (.func (.func 226) #[.agg #[.pointer (some ⟨p,0,none⟩),.int .i64 m,.int .i64 m]] #[])) :
    Calls Tryz.prog 223 #[.slice (some ⟨g,0,none⟩) 4 4] w fun e' w'=>e'=.returned (.int .i64 0)∧DI F p n w (upd (upd D 0 (labS 0)) m (labS 0)) (q+1+1) w':=by
  refine all_steps 4 g 0 4 (fun i=>fmF.getD i 0) (fun i=>(fmB p m).getD i #[]) (fun i=>#[]) (fun i V=>DI F p n w ((fmD D m).getD i D) ((fmQ q).getD i 0) V) (by omega) ?_ ?_ ?_ w (DI.start h)
  · intro i V hi ⟨F',_,hm,_⟩
    rw [hm.cell (p:=⟨g,0+i,none⟩) hg (fun q=>hF g q rfl)]
    rcases (by omega:i=0∨i=1∨i=2∨i=3) with rfl | rfl | rfl | rfl
    · exact c0
    · exact c1
    · exact c2
    · exact c3
  · intro i hi
    rcases (by omega:i=0∨i=1∨i=2∨i=3) with rfl | rfl | rfl | rfl
    · exact enters224
    · exact enters224
    · exact enters225
    · exact enters226
  · intro i V hi hI
    obtain ⟨F',hd',hm,hg⟩:=hI
    rcases (by omega:i=0∨i=1∨i=2∨i=3) with rfl | rfl | rfl | rfl
    · exact (blank_any F' p n _ _ V hd' 0 m (by omega) hn (by show q≤_;omega)).mono fun _ _ h=>(by have h2:=DI.post (D:=D) (q:=q) hm hg h;exact h2)
    · exact (blank_any F' p n _ _ V hd' m m (by omega) hn (by show q+1≤_;omega)).mono fun _ _ h=>(by have h2:=DI.post (D:=D) (q:=q) hm hg h;exact h2)
    · exact (flush_any F' p n _ _ V hd').mono fun _ _ h=>(by have h2:=DI.post (D:=D) (q:=q) hm hg h;exact h2)
    · refine (hwipe_any F' p n _ _ V hd' m m (by omega) hm2 hm1 hn fun i a b=>?_).mono fun _ _ h=>(by have h2:=DI.fresh hd' hm hg h.2;exact ⟨h.1,h2⟩)
      show upd (upd D 0 (labS 0)) m (labS 0) i=_
      unfold upd
      rw [if_neg (by omega),if_neg (by omega)]
      exact hz i a b
def newD (img:ByteArray) (m:Int):Int→ByteArray:=upd (wrD (upd (upd (upd (fun _=>zer 64) 0 (labS 0)) m (labS 0)) 0 (labS 0)) (0+1) img (kfr img.size)) 0 (labS 1)
set_option maxRecDepth 100000 in
set_option maxHeartbeats 1600000 in
theorem format_new (m:Nat) (h:DevAt w F p n (fun _=>zer 64) 0) (hF:FB F w) (hm:n / 2=m) (hm1:4≤m) (hn:n≤1000000) (r:ByteArray) (hr:1≤r.size) (hr2:r.size≤62) :
    Calls Tryz.prog 142 #[.pointer (some ⟨p,0,none⟩),.string r] w (DevPost F p n (newD r m) 5 w (.int .i64 0)):=by
  have hk:kfr r.size=1:=by unfold kfr;rw [if_neg (by omega)];omega
  have HD:=Lib.hid h
  have HM:=Lib.hid (may_any F p n _ 0 w h (by omega))
  have HH:=Lib.hid (fun W (hf:Fresh w W)=>halves_any F p n _ 0 W (h.fresh hf) (by omega))
  rw [hm] at HH
  clear h
  go_enter Tryz.func142,Tryz.ntmps142
  go_wp2_with fail
  refine HM.out.mono ?_
  rintro e w1 ⟨rfl,hf1⟩
  go_wp2_with fail
  refine (HH.out _ hf1).mono ?_
  rintro e w2 ⟨rfl,hf2⟩
  have HF2:=Lib.hid (hf1.trans hf2)
  clear hf1 hf2
  go_wp2_with fail
  refine (fits_any p _ 0 m 1 r (by omega) (by omega) hr (by omega) (by omega)).mono ?_
  rintro e w3 ⟨rfl,hf3⟩
  have hc3:∀ b o,b<_→w3.cell? ⟨b,o,none⟩=_:=fun b o h=>Below.cell hf3 (p:=⟨b,o,none⟩) h
  have HF3:=Lib.hid (HF2.out.trans (((Fresh.refl w2).alloc _).trans hf3))
  have hz3:=hf3.size
  simp only [World.size_alloc] at hz3
  go_wp2_with fail
  refine (fm_steps F p n _ 0 _ w3.heap.size m (by exact HD.out.fresh (HF3.out.alloc _)) (fun k hk e=>by have:=hF k hk;have:=HF3.out.size;omega) (by simp) (by omega) (by omega) hn (by omega) (fun i _ _=>rfl) (by go_simp) (by go_simp) (by go_simp) (by go_simp)).mono ?_
  rintro e w4 ⟨rfl,F4,hd4,hm4,hg4⟩
  have hz4:=hm4.size
  simp only [World.size_alloc] at hz4
  have hF2:=HF2.out.size
  have hc4:∀ o,w4.cell? ⟨w2.heap.size,o,none⟩=w3.cell? ⟨w2.heap.size,o,none⟩:=fun o=>(hm4.cell (p:=⟨w2.heap.size,o,none⟩) (by simp;omega) (fun q=>by have:=hF _ q;simp at this;omega)).trans (World.cell?_alloc_past _ _ _ (by omega))
  have hFB4:FB F4 w4:=FB.gr (hF.later (by simp;omega)) hg4 hm4.size
  have HB:=Lib.hid (begin_any F4 p n _ (0+1+1) w4 hd4 hFB4 0 m 1 r (by omega) (by omega) (by omega) hn hr (by omega) (by omega) (by omega) (by omega) (by omega) (fun i h1 h2=>by unfold upd;rw [if_neg (by omega),if_neg (by omega)]))
  have HFIN:Hid (∀ (e:Ending) (w':World),DevPost F4 p n (upd (wrD (upd (upd (upd (fun _=>zer 64) 0 (labS 0)) m (labS 0)) 0 (labS 0)) (0+1) r (kfr r.size)) 0 (labS 1)) (0+1+1+1+kfr r.size+1) w4 (.int .i64 0) e w'→DevPost F p n (newD r m) 5 w (.int .i64 0) e w'):=Lib.hid (fun e w' hp=>by
    obtain ⟨he,F5,hd5,hm5,hg5⟩:=hp
    have h5:0+1+1+1+kfr r.size+1=5:=by omega
    rw [h5] at hd5
    refine ⟨he,F5,hd5,Fresh.andMut (HF3.out.alloc _) (hm4.trans2 hm5 (fun _ h=>h) (fun j hj h=>(hg4 j h).elim id (fun q=>absurd q.1 (by omega)))),((hg4.trans hg5 hm4.size hm5.size).ahead (by have:=HF3.out.size;simp;omega))⟩)
  unfold hfv at HB
  clear hd4 hm4 hg4
  go_wp2_with fail
  refine HB.out.mono ?_
  intro e w5 hp
  have HR:=Lib.hid (HFIN.out e w5 hp)
  obtain ⟨rfl,_⟩:=hp
  go_wp2
  go_ret
  exact HR.out
end
end Go.Proofs.YtpmlggjhfiljmaaGreatDoor
namespace Go.Proofs.YtpmlggjhfiljmaaGreatDoor
open Go.RowKit
def RecOK (w:World) (F:Nat→Prop) (v:Value) (k:Nat):Prop :=
  ∃ a c,v=.slice a k c∧k≤c∧(c=0∨∃ g off cs,a=some ⟨g,off,none⟩∧F g∧w.heap[g]?=some (.cells cs 9 (0,0))∧off+c≤cs.size)
theorem RecOK.mut {S F:Nat→Prop} {w w':World} {v:Value} {k:Nat} (h:RecOK w F v k) (hf:Mut S w w') (hn:∀ g,F g→¬ S g):RecOK w' F v k:=by
  obtain ⟨a,c,rfl,hk,h⟩:=h
  refine ⟨a,c,rfl,hk,h.imp id ?_⟩
  rintro ⟨g,off,cs,e,hF,hg,hs⟩
  have hlt:g<w.heap.size:=by
    rcases Nat.lt_or_ge g w.heap.size with q | q
    · exact q
    · rw [Array.getElem?_eq_none q] at hg;cases hg
  exact ⟨g,off,cs,e,hF,(hf.block g hlt (hn g hF)).trans hg,hs⟩
theorem RecOK.mono {F F':Nat→Prop} {w:World} {v:Value} {k:Nat} (h:RecOK w F v k) (hF:∀ g,g<w.heap.size→F g→F' g):RecOK w F' v k:=by
  obtain ⟨a,c,rfl,hk,h⟩:=h
  refine ⟨a,c,rfl,hk,h.imp id ?_⟩
  rintro ⟨g,off,cs,e,hF1,hg,hs⟩
  have hlt:g<w.heap.size:=by
    rcases Nat.lt_or_ge g w.heap.size with q | q
    · exact q
    · rw [Array.getElem?_eq_none q] at hg;cases hg
  exact ⟨g,off,cs,e,hF g hlt hF1,hg,hs⟩
theorem RecOK.fresh {F:Nat→Prop} {w w':World} {v:Value} {k:Nat} (h:RecOK w F v k) (hf:Fresh w w'):RecOK w' F v k:=h.mut (hf.mut fun _=>False) (fun _ _ q=>q)
theorem RecOK.ofOwn {w:World} {F:Nat→Prop} {v:Value} {l:List ByteArray} (h:OwnL w F v l):RecOK w F v l.length:=by
  obtain ⟨h1,hF⟩:=h
  obtain ⟨_,⟨rfl,hn⟩ | ⟨g,cap,cur,rfl,_,hg,hc1,_,hcs,_⟩⟩:=h1
  · rw [hn];exact ⟨none,0,rfl,Nat.le_refl _,.inl rfl⟩
  · exact ⟨_,cap,rfl,hc1,.inr ⟨g,0,cur,rfl,hF g rfl,hg,by omega⟩⟩
theorem wpList_append_rec (w:World) {ops:Array Oper} {rest:List Oper} {o:Oper} {a:Act} {Q:Exit→Act→World→Prop} (hgd:o.guard=none) (s x:Operand)
    (ho:o.op=.call { callee:=.builtin .append,args:=#[s,x],argTypes:=#[38,38] })
    (F:Nat→Prop) (v:Value) (k:Nat) (hs:a.eval s=v) (h:RecOK w F v k) (g0:Nat) (b:ByteArray) (hx:a.eval x=.slice (some ⟨g0,0,none⟩) 1 1) (hc:w.cell? ⟨g0,0,none⟩=some (.string b)) (hk:k≤1000000)
    (hK:∀ a' c' w',RecOK w' (ext F w w') (.slice a' (k+1) c') (k+1)→Mut F w w'→wpList Tryz.prog ops Q rest (a.put o.dst (.slice a' (k+1) c')) w'):wpList Tryz.prog ops Q (o :: rest) a w:=by
  obtain ⟨i0,hi0,hz0,hz1,hz2⟩:=info_partsG infoStr
  have hnews:∀ j u,[Value.string b][j]?=some u→w.cell? ((⟨g0,0,none⟩:Addr).add j)=some u:=by
    intro j u hj
    cases j with
    | zero=>rw [Addr.add_lit];simp at hj;subst hj;exact hc
    | succ j=>simp at hj
  have h1:∀ u ∈ [Value.string b],u.oneCell'=true:=by intro u hu;simp at hu;subst hu;rfl
  obtain ⟨aa,c,rfl,hkc,hrec⟩:=h
  have grows:∀ (v':Value) (w':World),w'.ownsRow w.heap.size 9 1 v' (k+1) (([]:List Value))∨True→True:=fun _ _ _=>trivial
  by_cases hroom:k+1≤c
  · rcases hrec with rfl | ⟨g,off,cs,rfl,hF,hg,hsz⟩
    · omega
    · have hcell:∀ j,j<1→(w.cell? ⟨g,off+k * i0.size+j,none⟩).isSome=true∧w.frozen? ⟨g,off+k * i0.size+j,none⟩=false:=by
        intro j hj
        rw [hz1,Nat.mul_one]
        constructor
        · simp only [World.cell?,hg]
          rw [Array.getElem?_eq_getElem (by omega)]
          rfl
        · simp [World.frozen?,hg]
      have hrun:=run_append_room_cells (P:=Tryz.prog) w 38 o.type 9 i0 Tryz.underlying38 hi0 g off k c ⟨g0,0,none⟩ 1 1 [.string b] (by rw [hz1];rfl) hnews h1 hroom (fun j hj=>(hcell j hj).1) (fun j hj=>(hcell j hj).2)
      refine wpList_plain hgd fun K hK'=>?_
      unfold Oper.wp
      simp [execOp,ho,resolve,invoke,builtin,hs,hx,hrun,Result.andThen]
      have hset:w.setCells g (off+k * i0.size) [.string b]=w.setCell ⟨g,off+k * i0.size,none⟩ (.string b):=rfl
      refine hK' _ _ (hK _ _ _ ⟨_,_,rfl,hroom,.inr ⟨g,off,cs.setIfInBounds (off+k * i0.size) (.string b),rfl,.inl hF,?_,by rw [Array.size_setIfInBounds];exact hsz⟩⟩ ?_)
      · rw [hset]
        simp [World.setCell,Array.getElem?_modify,hg]
      · rw [hset]
        exact (Mut.refl F w).setCell (p:=⟨g,off+k * i0.size,none⟩) (.inl hF) _
  · have hck:c=k:=by omega
    subst hck
    cases aa with
    | none =>
      have hc0:c=0:=by
        rcases hrec with h | ⟨g,off,cs,e,_⟩
        · exact h
        · cases e
      subst hc0
      refine wpList_append_own2 w hgd s x 38 ho 0 9 i0 _ 1 16 Tryz.underlying38 hi0 hz0 hz1 hz2 rfl (by decide) (.slice none 0 0) 0 [] hs (World.ownsRow_nil _ _ _ _) ⟨g0,0,none⟩ 1 1 [.string b] hx rfl hnews h1 (by unfold maxLen;omega) (by omega) (Nat.zero_le _) fun v' w' r1 r2 r3=>?_
      have ho:OwnL w' (ext F w w') v' [b]:=⟨r1,fun g hg=>(r3 g hg).elim (fun q=>by cases q) (fun q=>.inr ⟨q,(r1.lt g hg).2⟩)⟩
      obtain ⟨a',c',e,hr⟩:=RecOK.ofOwn ho
      subst e
      exact hK _ _ _ ⟨_,_,rfl,hr⟩ ⟨r2.os,r2.tape,r2.output,r2.size,fun j hj _=>r2.block j hj (by simp [Value.ownBlock])⟩
    | some ad =>
      have holds:∃ olds:List Value,olds.length=c∧∀ j u,olds[j]?=some u→w.cell? (ad.add j)=some u:=by
        rcases hrec with h | ⟨g,off,cs,e,_,hg,hsz⟩
        · exact ⟨[],by simp [h],by simp⟩
        · injection e with e
          subst e
          refine ⟨(cs.toList.drop off).take c,by simp;omega,fun j u hj=>?_⟩
          rw [Addr.add_lit]
          simp only [World.cell?,hg]
          rw [List.getElem?_take] at hj
          split at hj
          · rw [List.getElem?_drop] at hj
            simpa using hj
          · cases hj
      obtain ⟨olds,hol,hold⟩:=holds
      obtain ⟨v',w',hrun,r1,r2⟩:=run_append_arg_grows (P:=Tryz.prog) w 38 o.type 9 i0 _ 1 16 Tryz.underlying38 hi0 hz0 hz1 hz2 rfl (by decide) ad c c olds (by omega) hold ⟨g0,0,none⟩ 1 1 [.string b] rfl hnews (by omega) (by unfold maxLen;omega) (by omega)
      refine wpList_plain hgd fun K hK'=>?_
      unfold Oper.wp
      simp [execOp,ho,resolve,invoke,builtin,hs,hx,hrun,Result.andThen]
      have hr:RecOK w' (ext F w w') v' (c+1):=by
        obtain ⟨_,⟨_,hn⟩ | ⟨g,cap,cur,rfl,hb,hg,hc1,_,hcs,_⟩⟩:=r1
        · omega
        · exact ⟨_,cap,rfl,hc1,.inr ⟨g,0,cur,rfl,.inr ⟨hb,by
            rcases Nat.lt_or_ge g w'.heap.size with q | q
            · exact q
            · rw [Array.getElem?_eq_none q] at hg;cases hg⟩,hg,by omega⟩⟩
      obtain ⟨a',c',e,hr⟩:=hr
      subst e
      exact hK' _ _ (hK _ _ _ ⟨_,_,rfl,hr⟩ ⟨r2.os,r2.tape,r2.output,r2.size,fun j hj _=>r2.block j hj (by simp)⟩)
def VltAt (w:World) (F:Nat→Prop) (v p:Nat) (m n:Int) (img:ByteArray) (t k q:Nat):Prop :=
  ∃ Fd rv D,Blk w v 332 #[.pointer (some ⟨p,0,none⟩),.int .i64 0,.int .i64 m,.pointer (some ⟨p,0,none⟩),.int .i64 m,.int .i64 m,.int .u64 1,.int .i64 t,.string img,rv,.bool false] ∧
    F v∧(∀ j,Fd j→F j)∧¬ Fd v∧DevAt w Fd p n D q∧RecOK w (fun g=>F g∧¬ Fd g∧g ≠ v) rv k∧FB F w
theorem VltAt.mut {S F:Nat→Prop} {w w':World} {v p:Nat} {m n:Int} {img:ByteArray} {t k q:Nat} (h:VltAt w F v p m n img t k q) (hf:Mut S w w') (hn:∀ j,F j→¬ S j):VltAt w' F v p m n img t k q:=by
  obtain ⟨Fd,rv,D,h1,h2,h3,h4,h5,h6,h7⟩:=h
  exact ⟨Fd,rv,D,h1.mut hf (hn _ h2),h2,h3,h4,h5.mut hf (fun j hj=>hn j (h3 j hj)),h6.mut hf (fun j hj=>hn j hj.1),h7.later hf.size⟩
theorem VltAt.fresh {F:Nat→Prop} {w w':World} {v p:Nat} {m n:Int} {img:ByteArray} {t k q:Nat} (h:VltAt w F v p m n img t k q) (hf:Fresh w w'):VltAt w' F v p m n img t k q:=h.mut (hf.mut fun _=>False) (fun _ _ q=>q)
def VltPost (F:Nat→Prop) (v p:Nat) (m n:Int) (img:ByteArray) (t k q:Nat) (w:World) (r:Value) (e:Ending) (w':World):Prop:=e=.returned r∧∃ F',VltAt w' F' v p m n img t k q∧Mut F w w'∧Gr F w w' F'
open Go.RowKit
theorem OwnL.one {w:World} {A:Nat→Prop} {v:Value} {b:ByteArray} (h:OwnL w A v [b]):∃ g cap cs,v=.slice (some ⟨g,0,none⟩) 1 cap∧1≤cap∧A g∧g<w.heap.size∧w.cell? ⟨g,0,none⟩=some (.string b)∧w.heap[g]?=some (.cells cs 9 (0,0))∧cap≤cs.size:=by
  have hsl:=h.sl
  obtain ⟨h1,hA⟩:=h
  obtain ⟨_,⟨rfl,hn⟩ | ⟨g,cap,cur,rfl,_,hg,hc1,_,hcs,_⟩⟩:=h1
  · cases hn
  · obtain ⟨g',off,cap',e,hcap,hA',hg',hc⟩:=hsl.cons
    injection e with e1 e2 e3
    injection e1 with e1
    injection e1 with e1 e4
    subst e1 e3 e4
    exact ⟨g,cap,cur,rfl,hcap,hA',hg',hc,hg,by omega⟩
def OpenPost (F:Nat→Prop) (p:Nat) (m n:Int) (img:ByteArray) (q:Nat) (w:World) (e:Ending) (w':World):Prop :=
  ∃ v F',e=.returned (.tuple #[.pointer (some ⟨v,0,none⟩),.int .i64 0])∧VltAt w' F' v p m n img 2 0 q∧Mut F w w'∧Gr F w w' F'
theorem Fresh.undrew {w w':World} (h:Fresh w.drew w'):Fresh w w':=⟨h.os,h.tape,h.output,h.size,h.block⟩
abbrev openW (w5:World) (v:Nat) (img:ByteArray) (rv:Value):World:=(((w5.setCell ⟨v,7,none⟩ (.int .i64 2)).setCell ⟨v,8,none⟩ (.string img)).setCell ⟨v,9,none⟩ rv).drew
theorem open_mid {F:Nat→Prop} {w w5:World} {v p:Nat} {m:Int} {img:ByteArray} {rv:Value} (hv:w.heap.size≤v) (b5:Blk w5 v 332 #[.pointer (some ⟨p,0,none⟩),.int .i64 0,.int .i64 m,.pointer (some ⟨p,0,none⟩),.int .i64 m,.int .i64 m,.int .u64 1,.int .i64 0,.string ⟨#[]⟩,.slice none 0 0,.bool false]) (hf5:Fresh w w5) (hr:RecOK w5 (fun g=>v+1≤g) rv 0) :
    Blk (openW w5 v img rv) v 332 #[.pointer (some ⟨p,0,none⟩),.int .i64 0,.int .i64 m,.pointer (some ⟨p,0,none⟩),.int .i64 m,.int .i64 m,.int .u64 1,.int .i64 2,.string img,rv,.bool false]∧Fresh w (openW w5 v img rv)∧RecOK (openW w5 v img rv) (fun g=>v+1≤g) rv 0:=by
  refine ⟨((b5.set (i:=7) (u:=.int .i64 2)).set (i:=8) (u:=.string img)).set (i:=9) (u:=rv),(((hf5.setCell (p:=⟨v,7,none⟩) hv _).setCell (p:=⟨v,8,none⟩) hv _).setCell (p:=⟨v,9,none⟩) hv _).drew,?_⟩
  refine hr.mut (S:=fun k=>k=v) ((((Mut.refl (fun k=>k=v) w5).setCell (p:=⟨v,7,none⟩) (.inl rfl) _).setCell (p:=⟨v,8,none⟩) (.inl rfl) _).setCell (p:=⟨v,9,none⟩) (.inl rfl) _).drew fun g hg e=>by omega
theorem open_close {F F':Nat→Prop} {w W6 w7 w8:World} {v p:Nat} {m n:Int} {D:Int→ByteArray} {q:Nat} {img:ByteArray} {rv:Value} (hF:FB F w) (hv:w.heap.size≤v) (b6:Blk W6 v 332 #[.pointer (some ⟨p,0,none⟩),.int .i64 0,.int .i64 m,.pointer (some ⟨p,0,none⟩),.int .i64 m,.int .i64 m,.int .u64 1,.int .i64 2,.string img,rv,.bool false])
    (hf6:Fresh w W6) (hr:RecOK W6 (fun g=>v+1≤g) rv 0) (hf7:Fresh W6 w7) (hm:Mut F w7 w8) (hg:Gr F w7 w8 F') (hd:DevAt w8 F' p n D q):OpenPost F p m n img q w (.returned (.tuple #[.pointer (some ⟨v,0,none⟩),.int .i64 0])) w8:=by
  have hv7:v<w7.heap.size:=Nat.lt_of_lt_of_le b6.lt hf7.size
  have hFn:∀ k,w.heap.size≤k→¬ F k:=fun k hk h=>by have:=hF k h;omega
  have hw7:=hf6.size
  have hw77:=hf7.size
  have hw8:=hm.size
  have hF'n:∀ k,w.heap.size≤k→k<w7.heap.size→¬ F' k:=fun k hk hk2 h=>(hg k h).elim (hFn k hk) (fun q=>by omega)
  have hr7:=hr.fresh hf7
  refine ⟨v,ext F w w8,rfl,⟨F',rv,D,(b6.keep hf7).mut hm (hFn v hv),.inr ⟨hv,by omega⟩,fun j hj=>?_,hF'n v hv hv7,hd,?_,fun k hk=>?_⟩,(hf6.trans hf7).andMut hm,Gr.ext _ _ _⟩
  · exact (hg j hj).elim .inl (fun q=>.inr ⟨by omega,q.2⟩)
  · refine (hr7.mono (F':=fun g=>w.heap.size≤g∧v+1≤g∧g<w7.heap.size) (fun g hg1 hg2=>⟨by omega,hg2,hg1⟩)).mut hm (fun g hg=>hFn g hg.1) |>.mono fun g hg1 hg2=>⟨.inr ⟨hg2.1,by omega⟩,hF'n g hg2.1 hg2.2.2,by omega⟩
  · exact hk.elim (fun q=>by have:=hF k q;omega) (fun q=>q.2)
section
variable (F:Nat→Prop) (p:Nat) (n:Int) (D:Int→ByteArray) (q:Nat) (w:World)
set_option maxRecDepth 100000 in
set_option maxHeartbeats 3200000 in
theorem open_new (m:Nat) (h:DevAt w F p n D q) (hF:FB F w) (hm:n / 2=m) (hm1:4≤m) (hn:n≤1000000) (img:ByteArray) (hr:1≤img.size) (hr2:img.size≤62) (d0:D 0=labS 1) (dm:D m=labS 0) (d1:D 1=frS img) (dz:∀ i:Int,2≤i→i<m→D i=zer 64) :
    Calls Tryz.prog 174 #[.pointer (some ⟨p,0,none⟩)] w (OpenPost F p m n img q w):=by
  have HD:=Lib.hid h
  have HM:=Lib.hid (may_any F p n _ q w h (by omega))
  have HH:=Lib.hid (fun W (hf:Fresh w W)=>halves_any F p n _ q W (h.fresh hf) (by omega))
  rw [hm] at HH
  have HE0:=Lib.hid (fun W (hf:Fresh w W)=>epoch_any F p n D q W (h.fresh hf) 0 1 (by omega) hn (.inr rfl) d0)
  have HEm:=Lib.hid (fun W (hf:Fresh w W)=>epoch_any F p n D q W (h.fresh hf) m 0 (by omega) hn (.inl rfl) dm)
  have HSC:=Lib.hid (fun W (hf:Fresh w W)=>scan_new F p n D q W (h.fresh hf) 0 m (by omega) (by omega) hn (by omega) img hr hr2 (by rw [show (0:Int)+1=1 from rfl];exact d1) (by rw [show (0:Int)+2=2 from rfl];exact dz 2 (by omega) (by omega)))
  have HWP:=Lib.hid (fun W (hf:Fresh w W)=>wipe_zero F p n D q W (h.fresh hf) 0 m 2 (by omega) (by omega) (by omega) hn (by omega) (by omega) (fun i a b=>dz i (by omega) (by omega)))
  have HFL:=Lib.hid (fun W (hf:Fresh w W)=>flush_any F p n D q W (h.fresh hf))
  clear h d0 dm d1 dz hm
  go_enter Tryz.func174,Tryz.ntmps174
  go_wp2_with fail
  refine HM.out.mono ?_
  rintro e w1 ⟨rfl,hf1⟩
  go_wp2_with fail
  refine (HH.out _ hf1).mono ?_
  rintro e w2 ⟨rfl,hf2⟩
  have HF2:=Lib.hid (hf1.trans hf2)
  clear hf1 hf2
  go_wp2_with fail
  refine (HE0.out _ (by exact HF2.out.alloc _)).mono ?_
  rintro e w3 ⟨rfl,hf3⟩
  have hc3:∀ o,w3.cell? ⟨w2.heap.size,o,none⟩=_:=fun o=>Below.cell hf3 (p:=⟨w2.heap.size,o,none⟩) (by simp)
  have HF3:=Lib.hid (HF2.out.trans (((Fresh.refl w2).alloc _).trans hf3))
  have hz3:=hf3.size
  simp only [World.size_alloc] at hz3
  go_wp2_with fail
  refine (HEm.out _ (by exact HF3.out)).mono ?_
  rintro e w4 ⟨rfl,hf4⟩
  have hc4:∀ o,w4.cell? ⟨w2.heap.size,o,none⟩=w3.cell? ⟨w2.heap.size,o,none⟩:=fun o=>Below.cell hf4 (p:=⟨w2.heap.size,o,none⟩) hz3
  have HF4:=Lib.hid (HF3.out.trans hf4)
  have hz4:=hf4.size
  clear hf3 hf4
  go_wp2_with fail
  go_region_law (first
      | (go_simp;go_at_call 259;refine (HSC.out _ (by repeat (first | exact HF4.out | refine Fresh.drew ?_ | refine Fresh.alloc ?_ _))).mono ?_;rintro e w5 ⟨vs,rfl,hown5,hf5⟩;obtain ⟨g,cap,cs,rfl,hcap,hgA,hgl,hgc,hgh,hgs⟩:=hown5.one;have hb5:Blk w5 w4.heap.size 332 _:=Blk.keep (Blk.new w4 _ _) (by first | exact hf5 | exact hf5.undrew);have hc5:∀ o,w5.cell? ⟨w4.heap.size,o,none⟩=_:=fun o=>Below.cell hf5 (p:=⟨w4.heap.size,o,none⟩) (by simp);have hfz5:∀ o,w5.frozen? ⟨w4.heap.size,o,none⟩=_:=fun o=>Below.frozen hf5 (p:=⟨w4.heap.size,o,none⟩) (by simp)))
  all_goals
    have HF5:Hid (Fresh w w5):=Lib.hid (Fresh.trans (by repeat (first | exact HF4.out | refine Fresh.drew ?_ | refine Fresh.alloc ?_ _)) hf5)
    have hv0:w.heap.size≤w4.heap.size:=HF4.out.size
    have hgA2:w4.heap.size+1≤g:=by simpa using hgA
    have HMID:=Lib.hid (fun rv hr=>open_mid (F:=F) (w:=w) (w5:=w5) (v:=w4.heap.size) (p:=p) (m:=m) (img:=img) (rv:=rv) hv0 hb5 HF5.out hr)
    have HR1:Hid (RecOK w5 (fun g=>w4.heap.size+1≤g) (.slice (some ⟨g,0,none⟩) 0 0) 0):=Lib.hid ⟨_,0,rfl,Nat.le_refl _,.inl rfl⟩
    have HR2:Hid (RecOK w5 (fun g=>w4.heap.size+1≤g) (.slice (some ⟨g,1,none⟩) 0 (cap - 1)) 0):=Lib.hid ⟨_,_,rfl,Nat.zero_le _,.inr ⟨g,1,cs,rfl,hgA2,hgh,by omega⟩⟩
    clear hown5 hf5 hgh hgs hb5 hgA hgA2
    go_wp2_with fail
    by_cases hcc:cap=1
    · subst hcc
      go_region_law (fail)
      all_goals
        obtain ⟨b6,f6,r6⟩:=HMID.out _ HR1.out
        obtain ⟨W6,hW6⟩:∃ W6,openW w5 w4.heap.size img (.slice (some ⟨g,0,none⟩) 0 0)=W6:=⟨_,rfl⟩
        unfold openW at hW6
        rw [hW6]
        unfold openW at b6 f6 r6
        rw [hW6] at b6 f6 r6
        clear hW6
        have e1:W6.cell? ⟨w4.heap.size,1,none⟩=some (.int .i64 0):=by rw [b6.cell];rfl
        have e2:W6.cell? ⟨w4.heap.size,2,none⟩=some (.int .i64 m):=by rw [b6.cell];rfl
        have HC:=Lib.hid (fun F' w7 w8 h1 h2 h3 h4=>open_close (F':=F') (w7:=w7) (w8:=w8) (n:=n) (D:=D) (q:=q) hF hv0 b6 f6 r6 h1 h2 h3 h4)
        have H6:=Lib.hid f6
        clear b6 f6 r6 hc5 hfz5 hgc HMID HR1 HR2
        go_wp2_with fail
        go_region_law (first
          | (go_simp;go_at_call 260;refine (HWP.out _ (by repeat (first | exact H6.out | refine Fresh.drew ?_))).mono ?_;rintro e w7 ⟨rfl,hf7⟩))
        all_goals
          have hf77:Fresh W6 w7:=by first | exact hf7 | exact hf7.undrew
          have HF7:=Lib.hid hf77
          clear hf7 hf77
          go_wp2_with fail
          refine (HFL.out _ (by repeat (first | exact H6.out.trans HF7.out | refine Fresh.drew ?_))).mono ?_
          rintro e w8 ⟨rfl,F',hd,hm,hg⟩
          have HZ:=Lib.hid (HC.out F' _ w8 (by repeat (first | exact HF7.out | refine Fresh.drew ?_)) hm hg hd)
          clear hd hm hg
          go_wp2
          go_ret2
          exact HZ.out
    · skip
      go_region_law (fail)
      all_goals
        obtain ⟨b6,f6,r6⟩:=HMID.out _ HR2.out
        obtain ⟨W6,hW6⟩:∃ W6,openW w5 w4.heap.size img (.slice (some ⟨g,1,none⟩) 0 (cap - 1))=W6:=⟨_,rfl⟩
        unfold openW at hW6
        rw [hW6]
        unfold openW at b6 f6 r6
        rw [hW6] at b6 f6 r6
        clear hW6
        have e1:W6.cell? ⟨w4.heap.size,1,none⟩=some (.int .i64 0):=by rw [b6.cell];rfl
        have e2:W6.cell? ⟨w4.heap.size,2,none⟩=some (.int .i64 m):=by rw [b6.cell];rfl
        have HC:=Lib.hid (fun F' w7 w8 h1 h2 h3 h4=>open_close (F':=F') (w7:=w7) (w8:=w8) (n:=n) (D:=D) (q:=q) hF hv0 b6 f6 r6 h1 h2 h3 h4)
        have H6:=Lib.hid f6
        clear b6 f6 r6 hc5 hfz5 hgc HMID HR1 HR2
        go_wp2_with fail
        go_region_law (first
          | (go_simp;go_at_call 260;refine (HWP.out _ (by repeat (first | exact H6.out | refine Fresh.drew ?_))).mono ?_;rintro e w7 ⟨rfl,hf7⟩))
        all_goals
          have hf77:Fresh W6 w7:=by first | exact hf7 | exact hf7.undrew
          have HF7:=Lib.hid hf77
          clear hf7 hf77
          go_wp2_with fail
          refine (HFL.out _ (by repeat (first | exact H6.out.trans HF7.out | refine Fresh.drew ?_))).mono ?_
          rintro e w8 ⟨rfl,F',hd,hm,hg⟩
          have HZ:=Lib.hid (HC.out F' _ w8 (by repeat (first | exact HF7.out | refine Fresh.drew ?_)) hm hg hd)
          clear hd hm hg
          go_wp2
          go_ret2
          exact HZ.out
end
end Go.Proofs.YtpmlggjhfiljmaaGreatDoor
