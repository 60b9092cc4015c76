/- Part 39 of what the law rests on. -/
import Derived.Test.YtpmlggjhfiljmaaGreatDoorS35
import Derived.Test.YtpmlggjhfiljmaaGreatDoorS38
set_option linter.all false
namespace Go.Proofs.YtpmlggjhfiljmaaGreatDoor
open Go.RowKit
attribute [local go_sem ↓] Go.wp_at_zero Go.wp_at_succ
def Grow (L:List Item) (T:TreS) (L2:List Item) (T2:TreS):Prop:=(∀ x ∈ L2,x ∈ L∨T.next≤x.e.cookie)∧T.next≤T2.next
theorem Grow.refl (L:List Item) (T:TreS):Grow L T L T:=⟨fun _ h=>.inl h,by omega⟩
theorem Grow.trans {L L2 L3:List Item} {T T2 T3:TreS} (h:Grow L T L2 T2) (k:Grow L2 T2 L3 T3):Grow L T L3 T3:=⟨fun x hx=>by
  rcases k.1 x hx with q | q
  · exact h.1 x q
  · have:=h.2;exact .inr (by omega),by have:=h.2;have:=k.2;omega⟩
theorem LinkOut.grow {enc:Int} {L:List Item} {T:TreS} {d:Int} {l:List Ent} {raw:ByteArray} {isDir:Bool} {P:Int→Prop} {a b:Int} {L2:List Item} {T2:TreS} (h:LinkOut enc L T d l raw isDir P a b L2 T2):Grow L T L2 T2:=by
  rcases h with ⟨_,_,rfl,rfl,_⟩ | ⟨_,_,_,⟨s,_,rfl⟩,hn,_⟩
  · exact .refl _ _
  · refine ⟨fun x hx=>?_,by omega⟩
    rcases List.mem_append.1 hx with q | q
    · exact .inl q
    · rw [List.mem_singleton] at q;subst q;exact .inr (Int.le_refl _)
theorem MakeOut.grow {enc:Int} {L:List Item} {T:TreS} {path:ByteArray} {isDir:Bool} {a b:Int} {L2:List Item} {T2:TreS} (h:MakeOut enc L T path isDir a b L2 T2):Grow L T L2 T2:=by
  rcases h with ⟨_,_,_,rfl,rfl⟩ | ⟨_,h⟩
  · exact .refl _ _
  · exact h.grow
theorem PlantPOut.grow {enc:Int} {L:List Item} {T:TreS} {path raw:ByteArray} {isDir:Bool} {a b:Int} {L2:List Item} {T2:TreS} (h:PlantPOut enc L T path raw isDir a b L2 T2):Grow L T L2 T2:=by
  rcases h with ⟨_,_,_,rfl,rfl⟩ | ⟨_,h⟩
  · exact .refl _ _
  · exact h.grow
theorem RemPOut.grow {enc:Int} {L:List Item} {T:TreS} {path:ByteArray} {isDir:Bool} {b:Int} {L2:List Item} {T2:TreS} (h:RemPOut enc L T path isDir b L2 T2):Grow L T L2 T2:=by
  rcases h with ⟨_,_,rfl,rfl⟩ | ⟨_,⟨_,_,rfl,rfl⟩ | ⟨_,_,rfl,hn⟩⟩
  · exact .refl _ _
  · exact .refl _ _
  · exact ⟨fun x hx=>.inl (mem_outOf.1 hx).1,by omega⟩
theorem RenOut.grow {enc:Int} {L:List Item} {T:TreS} {a b:ByteArray} {r:Int} {L2:List Item} {T2:TreS} (h:RenOut enc L T a b r L2 T2):Grow L T L2 T2:=by
  rcases h with ⟨_,_,rfl,rfl⟩ | ⟨_,X,hX,_,_,⟨_,_,rfl,rfl⟩ | ⟨_,_,rfl,hn⟩⟩
  · exact .refl _ _
  · exact .refl _ _
  · refine ⟨fun x hx=>?_,by omega⟩
    rcases List.mem_append.1 hx with q | q
    · exact .inl (mem_outOf.1 q).1
    · rw [List.mem_singleton] at q;subst q;exact .inr (Int.le_refl _)
def StAny (L:List Item) (T:TreS) (c:Nat) (F:Nat→Prop) (f:Nat) (enc:Int) (p:Nat) (m n:Int) (w w':World):Prop:=∃ L2 T2 F2,Grow L T L2 T2∧St w' F2 f enc p m n L2 T2 (c+1)∧Mut F w w'∧Gr F w w' F2
theorem St.any {F:Nat→Prop} {w w':World} {f:Nat} {enc:Int} {p:Nat} {m n:Int} {L:List Item} {T:TreS} {c:Nat} (h:St w F f enc p m n L T c) (hf:Fresh w w'):StAny L T c F f enc p m n w w':=⟨L,T,F,.refl _ _,(h.fresh hf).later (by omega),hf.mut F,(Gr.refl F w).later hf.size⟩
abbrev call17V (kind:Int) (a b:ByteArray) (is:Bool) (at_ n:Int):Value:=.agg #[.int .u8 kind,.string a,.string b,.bool is,.int .i64 at_,.int .i64 n]
theorem do17_laid (w:World) (kind:Int) (a b:ByteArray) (is:Bool) (at_ k0:Int):∃ W5,(((w.alloc (.cells #[.int .u8 kind,.string a,.string b,.bool is,.int .i64 at_,.int .i64 k0] 80)).alloc (.cells #[.int .i64 0,.int .i64 0,.bool false,.string ⟨#[]⟩,.slice none 0 0,.int .i64 0] 77)).alloc (.cells #[.int .i64 0,.int .i64 0,.bool false,.string ⟨#[]⟩,.slice none 0 0,.int .i64 0] 77))=W5∧Fresh w W5∧W5.heap.size=w.heap.size+3∧Blk W5 w.heap.size 80 #[.int .u8 kind,.string a,.string b,.bool is,.int .i64 at_,.int .i64 k0]∧Blk W5 (w.heap.size+1) 77 #[.int .i64 0,.int .i64 0,.bool false,.string ⟨#[]⟩,.slice none 0 0,.int .i64 0]∧Blk W5 (w.heap.size+2) 77 #[.int .i64 0,.int .i64 0,.bool false,.string ⟨#[]⟩,.slice none 0 0,.int .i64 0]:=by
  refine ⟨_,rfl,(((Fresh.refl _).alloc _).alloc _).alloc _,by simp,(Blk.new _ _ _).keep (((Fresh.refl _).alloc _).alloc _),?_,?_⟩
  · have h:=(Blk.new (w.alloc (.cells #[.int .u8 kind,.string a,.string b,.bool is,.int .i64 at_,.int .i64 k0] 80)) 77 #[.int .i64 0,.int .i64 0,.bool false,.string ⟨#[]⟩,.slice none 0 0,.int .i64 0]).keep ((Fresh.refl _).alloc (.cells #[.int .i64 0,.int .i64 0,.bool false,.string ⟨#[]⟩,.slice none 0 0,.int .i64 0] 77))
    rw [World.size_alloc] at h
    exact h
  · have h:=Blk.new ((w.alloc (.cells #[.int .u8 kind,.string a,.string b,.bool is,.int .i64 at_,.int .i64 k0] 80)).alloc (.cells #[.int .i64 0,.int .i64 0,.bool false,.string ⟨#[]⟩,.slice none 0 0,.int .i64 0] 77)) 77 #[.int .i64 0,.int .i64 0,.bool false,.string ⟨#[]⟩,.slice none 0 0,.int .i64 0]
    rw [World.size_alloc,World.size_alloc] at h
    exact h
theorem do17_end {L:List Item} {T:TreS} {c:Nat} {F:Nat→Prop} {f:Nat} {enc:Int} {p:Nat} {m n:Int} {w W5 w2 w9:World} (hFB:FB F w) (f5:Fresh w W5) (hs:W5.heap.size=w.heap.size+3) (h:StAny L T c F f enc p m n W5 w2) (u:Mut (fun j=>j=w.heap.size+1∨j=w.heap.size+2) w2 w9):StAny L T c F f enc p m n w w9:=by
  obtain ⟨L2,T2,F2,hg,hst,hm,hgr⟩:=h
  have z2:=hm.size
  have z9:=u.size
  have hF2:∀ j,F2 j→F j∨(w.heap.size+3≤j∧j<w2.heap.size):=fun j hj=>by
    rcases hgr j hj with q | q
    · exact .inl q
    · exact .inr ⟨by omega,q.2⟩
  refine ⟨L2,T2,F2,hg,hst.mut u (fun j hj e=>?_),(f5.andMut hm).trans2 u (fun _ h=>h) (fun j hj e=>by omega),fun j hj=>?_⟩
  · rcases hF2 j hj with q | q
    · have:=hFB j q;omega
    · omega
  · rcases hF2 j hj with q | q
    · exact .inl q
    · exact .inr ⟨by omega,by omega⟩
def Do17Post (L:List Item) (T:TreS) (c:Nat) (F:Nat→Prop) (f:Nat) (enc:Int) (p:Nat) (m n:Int) (w:World) (e:Ending) (w':World):Prop:=∃ v,e=.returned v∧StAny L T c F f enc p m n w w'
def Rlookup (L:List Item) (T:TreS) (c:Nat) (F:Nat→Prop) (f:Nat) (enc:Int) (p:Nat) (m n:Int) (w:World) (e:Ending) (w':World):Prop:=∃ (n1:Int) (b1:Bool) (n2:Int),e=.returned (.tuple #[.int .i64 n1,.bool b1,.int .i64 n2])∧StAny L T c F f enc p m n w w'
theorem St.a_lookup {F:Nat→Prop} {w:World} {f:Nat} {enc:Int} {p:Nat} {m n:Int} {L:List Item} {T:TreS} {c:Nat} (h:St w F f enc p m n L T c) (hGT:GT w) (a b:ByteArray) (is:Bool) (at_ k0:Int) (hpa:a.size≤1000000) (hpb:b.size≤1000000) (hrb:b.size≤1000) (e0:0≤enc) (e8:enc≤8) (hc:c≤90) (hm:0≤m∧m+m≤n) (hn:n≤1000000) (hfit:2+10 * (c:Int)+10≤m) :
    Calls Tryz.prog 41 #[.pointer (some ⟨f,0,none⟩),.string a] w (Rlookup L T c F f enc p m n w):=by
  refine (h.lookup hGT a hpa e0 e8 hc).mono ?_
  rintro e w' ⟨rfl,hf⟩
  exact ⟨_,_,_,rfl,h.any hf⟩
set_option maxRecDepth 100000 in
set_option maxHeartbeats 3200000 in
theorem do17_lookup {F:Nat→Prop} {w:World} {f:Nat} {enc:Int} {p:Nat} {m n:Int} {L:List Item} {T:TreS} {c:Nat} (h:St w F f enc p m n L T c) (hGT:GT w) (kind:Int) (a b:ByteArray) (is:Bool) (at_ k0:Int) (hk:kind.tmod 8=0) (hpb:b.size≤1000000) (hpa:a.size≤1000000) (hrb:b.size≤1000) (e0:0≤enc) (e8:enc≤8) (hc:c≤90) (hm:0≤m∧m+m≤n) (hn:n≤1000000) (hfit:2+10 * (c:Int)+10≤m) :
    Calls Tryz.prog 33 #[.pointer (some ⟨f,0,none⟩),call17V kind a b is at_ k0] w (Do17Post L T c F f enc p m n w):=by
  obtain ⟨W5,hW5,f5,hs5,x5,y5,z5⟩:=do17_laid w kind a b is at_ k0
  have HO:=Lib.hid ((h.fresh f5).a_lookup (hGT.fresh f5) a b is at_ k0 hpa hpb hrb e0 e8 hc hm hn hfit)
  have HFB:=Lib.hid h.fb
  have H5:=Lib.hid (And.intro f5 (And.intro hs5 (And.intro x5 (And.intro y5 z5))))
  have hs5':=hs5
  have q0:W5.cell? ⟨w.heap.size,0,none⟩=some (.int .u8 kind):=x5.cell 0
  have q1:W5.cell? ⟨w.heap.size,1,none⟩=some (.string a):=x5.cell 1
  have q2:W5.cell? ⟨w.heap.size,2,none⟩=some (.string b):=x5.cell 2
  have q3:W5.cell? ⟨w.heap.size,3,none⟩=some (.bool is):=x5.cell 3
  have q4:W5.cell? ⟨w.heap.size,4,none⟩=some (.int .i64 at_):=x5.cell 4
  have q5:W5.cell? ⟨w.heap.size,5,none⟩=some (.int .i64 k0):=x5.cell 5
  have g0:(kind.tmod 8 == 0)=true:=by rw [hk];rfl
  clear h hGT f5 hs5 x5 y5 z5 hc hm hn hfit hpa hpb hrb e0 e8 hk
  go_enter Tryz.func33,Tryz.ntmps33
  go_wp2_with fail
  try rw [hW5]
  clear hW5
  try go_wp2_with fail
  refine HO.out.mono ?_
  rintro e w2 ⟨n1,b1,n2,rfl,hany⟩
  have hmu:Mut F W5 w2:=by obtain ⟨_,_,_,_,_,hmu,_⟩:=hany;exact hmu
  have HA:=Lib.hid hany
  have y2:Blk w2 (w.heap.size+1) 77 _:=H5.out.2.2.2.1.mut hmu (fun q=>by have:=HFB.out _ q;omega)
  have z2:Blk w2 (w.heap.size+2) 77 _:=H5.out.2.2.2.2.mut hmu (fun q=>by have:=HFB.out _ q;omega)
  clear hany hmu q0 q1 q2 q3 q4 q5
  have r0:w2.cell? ⟨w.heap.size+1,0,none⟩=some (.int .i64 0):=y2.cell 0
  have s0:w2.frozen? ⟨w.heap.size+1,0,none⟩=false:=y2.frozen 0
  have r1:w2.cell? ⟨w.heap.size+1,1,none⟩=some (.int .i64 0):=y2.cell 1
  have s1:w2.frozen? ⟨w.heap.size+1,1,none⟩=false:=y2.frozen 1
  have r2:w2.cell? ⟨w.heap.size+1,2,none⟩=some (.bool false):=y2.cell 2
  have s2:w2.frozen? ⟨w.heap.size+1,2,none⟩=false:=y2.frozen 2
  have r3:w2.cell? ⟨w.heap.size+1,3,none⟩=some (.string ⟨#[]⟩):=y2.cell 3
  have s3:w2.frozen? ⟨w.heap.size+1,3,none⟩=false:=y2.frozen 3
  have r4:w2.cell? ⟨w.heap.size+1,4,none⟩=some (.slice none 0 0):=y2.cell 4
  have s4:w2.frozen? ⟨w.heap.size+1,4,none⟩=false:=y2.frozen 4
  have r5:w2.cell? ⟨w.heap.size+1,5,none⟩=some (.int .i64 0):=y2.cell 5
  have s5:w2.frozen? ⟨w.heap.size+1,5,none⟩=false:=y2.frozen 5
  have HZ:=Lib.hid (And.intro (Blk.set6 y2 (.int .i64 n2) (.int .i64 n1) (.bool b1) (.string ⟨#[]⟩) (.slice none 0 0) (.int .i64 0)) ((Mut.set6 (w:=w2) (g:=w.heap.size+1) (.int .i64 n2) (.int .i64 n1) (.bool b1) (.string ⟨#[]⟩) (.slice none 0 0) (.int .i64 0)).mono (T:=fun j=>j=w.heap.size+1∨j=w.heap.size+2) (fun j _ e=>.inl e)))
  clear y2 z2
  go_wp2
  have hz:=HZ.out
  refine bodyPost_ret (v:=.agg #[.int .i64 n2,.int .i64 n1,.bool b1,.string ⟨#[]⟩,.slice none 0 0,.int .i64 0]) ?_ rfl ?_
  · simp [results,Tryz.results33,go_sem,hz.1.cell 0,hz.1.cell 1,hz.1.cell 2,hz.1.cell 3,hz.1.cell 4,hz.1.cell 5]
  · exact ⟨_,rfl,do17_end HFB.out H5.out.1 H5.out.2.1 HA.out hz.2⟩
def Rmake (L:List Item) (T:TreS) (c:Nat) (F:Nat→Prop) (f:Nat) (enc:Int) (p:Nat) (m n:Int) (w:World) (e:Ending) (w':World):Prop:=∃ (n1:Int) (n2:Int),e=.returned (.tuple #[.int .i64 n1,.int .i64 n2])∧StAny L T c F f enc p m n w w'
theorem St.a_make {F:Nat→Prop} {w:World} {f:Nat} {enc:Int} {p:Nat} {m n:Int} {L:List Item} {T:TreS} {c:Nat} (h:St w F f enc p m n L T c) (hGT:GT w) (a b:ByteArray) (is:Bool) (at_ k0:Int) (hpa:a.size≤1000000) (hpb:b.size≤1000000) (hrb:b.size≤1000) (e0:0≤enc) (e8:enc≤8) (hc:c≤90) (hm:0≤m∧m+m≤n) (hn:n≤1000000) (hfit:2+10 * (c:Int)+10≤m) :
    Calls Tryz.prog 29 #[.pointer (some ⟨f,0,none⟩),.string a,.bool is] w (Rmake L T c F f enc p m n w):=by
  refine (h.make hGT a is hpa e0 e8 hc hm hn hfit).mono ?_
  rintro e w' ⟨n1,n2,L2,T2,F2,ho,rfl,hs,hmu,hgr⟩
  exact ⟨n1,n2,rfl,L2,T2,F2,ho.grow,hs,hmu,hgr⟩
set_option maxRecDepth 100000 in
set_option maxHeartbeats 3200000 in
theorem do17_make {F:Nat→Prop} {w:World} {f:Nat} {enc:Int} {p:Nat} {m n:Int} {L:List Item} {T:TreS} {c:Nat} (h:St w F f enc p m n L T c) (hGT:GT w) (kind:Int) (a b:ByteArray) (is:Bool) (at_ k0:Int) (hk:kind.tmod 8=1) (hpb:b.size≤1000000) (hpa:a.size≤1000000) (hrb:b.size≤1000) (e0:0≤enc) (e8:enc≤8) (hc:c≤90) (hm:0≤m∧m+m≤n) (hn:n≤1000000) (hfit:2+10 * (c:Int)+10≤m) :
    Calls Tryz.prog 33 #[.pointer (some ⟨f,0,none⟩),call17V kind a b is at_ k0] w (Do17Post L T c F f enc p m n w):=by
  obtain ⟨W5,hW5,f5,hs5,x5,y5,z5⟩:=do17_laid w kind a b is at_ k0
  have HO:=Lib.hid ((h.fresh f5).a_make (hGT.fresh f5) a b is at_ k0 hpa hpb hrb e0 e8 hc hm hn hfit)
  have HFB:=Lib.hid h.fb
  have H5:=Lib.hid (And.intro f5 (And.intro hs5 (And.intro x5 (And.intro y5 z5))))
  have hs5':=hs5
  have q0:W5.cell? ⟨w.heap.size,0,none⟩=some (.int .u8 kind):=x5.cell 0
  have q1:W5.cell? ⟨w.heap.size,1,none⟩=some (.string a):=x5.cell 1
  have q2:W5.cell? ⟨w.heap.size,2,none⟩=some (.string b):=x5.cell 2
  have q3:W5.cell? ⟨w.heap.size,3,none⟩=some (.bool is):=x5.cell 3
  have q4:W5.cell? ⟨w.heap.size,4,none⟩=some (.int .i64 at_):=x5.cell 4
  have q5:W5.cell? ⟨w.heap.size,5,none⟩=some (.int .i64 k0):=x5.cell 5
  have g0:(kind.tmod 8 == 0)=false:=by rw [hk];rfl
  have g1:(kind.tmod 8 == 1)=true:=by rw [hk];rfl
  clear h hGT f5 hs5 x5 y5 z5 hc hm hn hfit hpa hpb hrb e0 e8 hk
  go_enter Tryz.func33,Tryz.ntmps33
  go_wp2_with fail
  try rw [hW5]
  clear hW5
  try go_wp2_with fail
  refine HO.out.mono ?_
  rintro e w2 ⟨n1,n2,rfl,hany⟩
  have hmu:Mut F W5 w2:=by obtain ⟨_,_,_,_,_,hmu,_⟩:=hany;exact hmu
  have HA:=Lib.hid hany
  have y2:Blk w2 (w.heap.size+1) 77 _:=H5.out.2.2.2.1.mut hmu (fun q=>by have:=HFB.out _ q;omega)
  have z2:Blk w2 (w.heap.size+2) 77 _:=H5.out.2.2.2.2.mut hmu (fun q=>by have:=HFB.out _ q;omega)
  clear hany hmu q0 q1 q2 q3 q4 q5
  have r0:w2.cell? ⟨w.heap.size+1,0,none⟩=some (.int .i64 0):=y2.cell 0
  have s0:w2.frozen? ⟨w.heap.size+1,0,none⟩=false:=y2.frozen 0
  have r1:w2.cell? ⟨w.heap.size+1,1,none⟩=some (.int .i64 0):=y2.cell 1
  have s1:w2.frozen? ⟨w.heap.size+1,1,none⟩=false:=y2.frozen 1
  have r2:w2.cell? ⟨w.heap.size+1,2,none⟩=some (.bool false):=y2.cell 2
  have s2:w2.frozen? ⟨w.heap.size+1,2,none⟩=false:=y2.frozen 2
  have r3:w2.cell? ⟨w.heap.size+1,3,none⟩=some (.string ⟨#[]⟩):=y2.cell 3
  have s3:w2.frozen? ⟨w.heap.size+1,3,none⟩=false:=y2.frozen 3
  have r4:w2.cell? ⟨w.heap.size+1,4,none⟩=some (.slice none 0 0):=y2.cell 4
  have s4:w2.frozen? ⟨w.heap.size+1,4,none⟩=false:=y2.frozen 4
  have r5:w2.cell? ⟨w.heap.size+1,5,none⟩=some (.int .i64 0):=y2.cell 5
  have s5:w2.frozen? ⟨w.heap.size+1,5,none⟩=false:=y2.frozen 5
  have HZ:=Lib.hid (And.intro (Blk.set6 y2 (.int .i64 n2) (.int .i64 n1) (.bool false) (.string ⟨#[]⟩) (.slice none 0 0) (.int .i64 0)) ((Mut.set6 (w:=w2) (g:=w.heap.size+1) (.int .i64 n2) (.int .i64 n1) (.bool false) (.string ⟨#[]⟩) (.slice none 0 0) (.int .i64 0)).mono (T:=fun j=>j=w.heap.size+1∨j=w.heap.size+2) (fun j _ e=>.inl e)))
  clear y2 z2
  go_wp2
  have hz:=HZ.out
  refine bodyPost_ret (v:=.agg #[.int .i64 n2,.int .i64 n1,.bool false,.string ⟨#[]⟩,.slice none 0 0,.int .i64 0]) ?_ rfl ?_
  · simp [results,Tryz.results33,go_sem,hz.1.cell 0,hz.1.cell 1,hz.1.cell 2,hz.1.cell 3,hz.1.cell 4,hz.1.cell 5]
  · exact ⟨_,rfl,do17_end HFB.out H5.out.1 H5.out.2.1 HA.out hz.2⟩
def Rremove (L:List Item) (T:TreS) (c:Nat) (F:Nat→Prop) (f:Nat) (enc:Int) (p:Nat) (m n:Int) (w:World) (e:Ending) (w':World):Prop:=∃ (n1:Int),e=.returned (.int .i64 n1)∧StAny L T c F f enc p m n w w'
theorem St.a_remove {F:Nat→Prop} {w:World} {f:Nat} {enc:Int} {p:Nat} {m n:Int} {L:List Item} {T:TreS} {c:Nat} (h:St w F f enc p m n L T c) (hGT:GT w) (a b:ByteArray) (is:Bool) (at_ k0:Int) (hpa:a.size≤1000000) (hpb:b.size≤1000000) (hrb:b.size≤1000) (e0:0≤enc) (e8:enc≤8) (hc:c≤90) (hm:0≤m∧m+m≤n) (hn:n≤1000000) (hfit:2+10 * (c:Int)+10≤m) :
    Calls Tryz.prog 40 #[.pointer (some ⟨f,0,none⟩),.string a,.bool is] w (Rremove L T c F f enc p m n w):=by
  refine (h.removeP hGT a is hpa e0 e8 hc hm hn hfit).mono ?_
  rintro e w' ⟨n1,L2,T2,F2,ho,rfl,hs,hmu,hgr⟩
  exact ⟨n1,rfl,L2,T2,F2,ho.grow,hs,hmu,hgr⟩
set_option maxRecDepth 100000 in
set_option maxHeartbeats 3200000 in
theorem do17_remove {F:Nat→Prop} {w:World} {f:Nat} {enc:Int} {p:Nat} {m n:Int} {L:List Item} {T:TreS} {c:Nat} (h:St w F f enc p m n L T c) (hGT:GT w) (kind:Int) (a b:ByteArray) (is:Bool) (at_ k0:Int) (hk:kind.tmod 8=2) (hpb:b.size≤1000000) (hpa:a.size≤1000000) (hrb:b.size≤1000) (e0:0≤enc) (e8:enc≤8) (hc:c≤90) (hm:0≤m∧m+m≤n) (hn:n≤1000000) (hfit:2+10 * (c:Int)+10≤m) :
    Calls Tryz.prog 33 #[.pointer (some ⟨f,0,none⟩),call17V kind a b is at_ k0] w (Do17Post L T c F f enc p m n w):=by
  obtain ⟨W5,hW5,f5,hs5,x5,y5,z5⟩:=do17_laid w kind a b is at_ k0
  have HO:=Lib.hid ((h.fresh f5).a_remove (hGT.fresh f5) a b is at_ k0 hpa hpb hrb e0 e8 hc hm hn hfit)
  have HFB:=Lib.hid h.fb
  have H5:=Lib.hid (And.intro f5 (And.intro hs5 (And.intro x5 (And.intro y5 z5))))
  have hs5':=hs5
  have q0:W5.cell? ⟨w.heap.size,0,none⟩=some (.int .u8 kind):=x5.cell 0
  have q1:W5.cell? ⟨w.heap.size,1,none⟩=some (.string a):=x5.cell 1
  have q2:W5.cell? ⟨w.heap.size,2,none⟩=some (.string b):=x5.cell 2
  have q3:W5.cell? ⟨w.heap.size,3,none⟩=some (.bool is):=x5.cell 3
  have q4:W5.cell? ⟨w.heap.size,4,none⟩=some (.int .i64 at_):=x5.cell 4
  have q5:W5.cell? ⟨w.heap.size,5,none⟩=some (.int .i64 k0):=x5.cell 5
  have g0:(kind.tmod 8 == 0)=false:=by rw [hk];rfl
  have g1:(kind.tmod 8 == 1)=false:=by rw [hk];rfl
  have g2:(kind.tmod 8 == 2)=true:=by rw [hk];rfl
  clear h hGT f5 hs5 x5 y5 z5 hc hm hn hfit hpa hpb hrb e0 e8 hk
  go_enter Tryz.func33,Tryz.ntmps33
  go_wp2_with fail
  try rw [hW5]
  clear hW5
  try go_wp2_with fail
  refine HO.out.mono ?_
  rintro e w2 ⟨n1,rfl,hany⟩
  have hmu:Mut F W5 w2:=by obtain ⟨_,_,_,_,_,hmu,_⟩:=hany;exact hmu
  have HA:=Lib.hid hany
  have y2:Blk w2 (w.heap.size+1) 77 _:=H5.out.2.2.2.1.mut hmu (fun q=>by have:=HFB.out _ q;omega)
  have z2:Blk w2 (w.heap.size+2) 77 _:=H5.out.2.2.2.2.mut hmu (fun q=>by have:=HFB.out _ q;omega)
  clear hany hmu q0 q1 q2 q3 q4 q5
  have z3:w2.frozen? ⟨w.heap.size+2,0,none⟩=false:=z2.frozen 0
  have z4:w2.cell? ⟨w.heap.size+2,0,none⟩=some (.int .i64 0):=z2.cell 0
  obtain ⟨W6,hW6⟩:∃ W6,w2.setCell ⟨w.heap.size+2,0,none⟩ (.int .i64 n1)=W6:=⟨_,rfl⟩
  have u6:Mut (fun j=>j=w.heap.size+2) w2 W6:=by rw [← hW6];exact (Mut.refl (fun j=>j=w.heap.size+2) w2).setCell (p:=⟨w.heap.size+2,0,none⟩) (.inl rfl) _
  have y6:=y2.mut u6 (by omega)
  have z6:Blk W6 (w.heap.size+2) 77 #[.int .i64 n1,.int .i64 0,.bool false,.string ⟨#[]⟩,.slice none 0 0,.int .i64 0]:=by rw [← hW6];exact z2.set (i:=0) (u:=.int .i64 n1)
  have r0:W6.cell? ⟨w.heap.size+1,0,none⟩=some (.int .i64 0):=y6.cell 0
  have s0:W6.frozen? ⟨w.heap.size+1,0,none⟩=false:=y6.frozen 0
  have r1:W6.cell? ⟨w.heap.size+1,1,none⟩=some (.int .i64 0):=y6.cell 1
  have s1:W6.frozen? ⟨w.heap.size+1,1,none⟩=false:=y6.frozen 1
  have r2:W6.cell? ⟨w.heap.size+1,2,none⟩=some (.bool false):=y6.cell 2
  have s2:W6.frozen? ⟨w.heap.size+1,2,none⟩=false:=y6.frozen 2
  have r3:W6.cell? ⟨w.heap.size+1,3,none⟩=some (.string ⟨#[]⟩):=y6.cell 3
  have s3:W6.frozen? ⟨w.heap.size+1,3,none⟩=false:=y6.frozen 3
  have r4:W6.cell? ⟨w.heap.size+1,4,none⟩=some (.slice none 0 0):=y6.cell 4
  have s4:W6.frozen? ⟨w.heap.size+1,4,none⟩=false:=y6.frozen 4
  have r5:W6.cell? ⟨w.heap.size+1,5,none⟩=some (.int .i64 0):=y6.cell 5
  have s5:W6.frozen? ⟨w.heap.size+1,5,none⟩=false:=y6.frozen 5
  have v0:W6.cell? ⟨w.heap.size+2,0,none⟩=some (.int .i64 n1):=z6.cell 0
  have v1:W6.cell? ⟨w.heap.size+2,1,none⟩=some (.int .i64 0):=z6.cell 1
  have v2:W6.cell? ⟨w.heap.size+2,2,none⟩=some (.bool false):=z6.cell 2
  have v3:W6.cell? ⟨w.heap.size+2,3,none⟩=some (.string ⟨#[]⟩):=z6.cell 3
  have v4:W6.cell? ⟨w.heap.size+2,4,none⟩=some (.slice none 0 0):=z6.cell 4
  have v5:W6.cell? ⟨w.heap.size+2,5,none⟩=some (.int .i64 0):=z6.cell 5
  have HZ:=Lib.hid (And.intro (Blk.set6 y6 (.int .i64 n1) (.int .i64 0) (.bool false) (.string ⟨#[]⟩) (.slice none 0 0) (.int .i64 0)) ((u6.mono (T:=fun j=>j=w.heap.size+1∨j=w.heap.size+2) (fun j _ e=>.inr e)).trans ((Mut.set6 (w:=W6) (g:=w.heap.size+1) (.int .i64 n1) (.int .i64 0) (.bool false) (.string ⟨#[]⟩) (.slice none 0 0) (.int .i64 0)).mono (T:=fun j=>j=w.heap.size+1∨j=w.heap.size+2) (fun j _ e=>.inl e))))
  clear y2 z2 y6 z6 u6
  go_wp2_with fail
  try rw [hW6]
  clear hW6
  go_wp2
  have hz:=HZ.out
  refine bodyPost_ret (v:=.agg #[.int .i64 n1,.int .i64 0,.bool false,.string ⟨#[]⟩,.slice none 0 0,.int .i64 0]) ?_ rfl ?_
  · simp [results,Tryz.results33,go_sem,hz.1.cell 0,hz.1.cell 1,hz.1.cell 2,hz.1.cell 3,hz.1.cell 4,hz.1.cell 5]
  · exact ⟨_,rfl,do17_end HFB.out H5.out.1 H5.out.2.1 HA.out hz.2⟩
def Rrename (L:List Item) (T:TreS) (c:Nat) (F:Nat→Prop) (f:Nat) (enc:Int) (p:Nat) (m n:Int) (w:World) (e:Ending) (w':World):Prop:=∃ (n1:Int),e=.returned (.int .i64 n1)∧StAny L T c F f enc p m n w w'
theorem St.a_rename {F:Nat→Prop} {w:World} {f:Nat} {enc:Int} {p:Nat} {m n:Int} {L:List Item} {T:TreS} {c:Nat} (h:St w F f enc p m n L T c) (hGT:GT w) (a b:ByteArray) (is:Bool) (at_ k0:Int) (hpa:a.size≤1000000) (hpb:b.size≤1000000) (hrb:b.size≤1000) (e0:0≤enc) (e8:enc≤8) (hc:c≤90) (hm:0≤m∧m+m≤n) (hn:n≤1000000) (hfit:2+10 * (c:Int)+10≤m) :
    Calls Tryz.prog 75 #[.pointer (some ⟨f,0,none⟩),.string a,.string b] w (Rrename L T c F f enc p m n w):=by
  refine (h.rename hGT a b hpa hpb e0 e8 hc hm hn hfit).mono ?_
  rintro e w' ⟨n1,L2,T2,F2,ho,rfl,hs,hmu,hgr⟩
  exact ⟨n1,rfl,L2,T2,F2,ho.grow,hs,hmu,hgr⟩
set_option maxRecDepth 100000 in
set_option maxHeartbeats 3200000 in
theorem do17_rename {F:Nat→Prop} {w:World} {f:Nat} {enc:Int} {p:Nat} {m n:Int} {L:List Item} {T:TreS} {c:Nat} (h:St w F f enc p m n L T c) (hGT:GT w) (kind:Int) (a b:ByteArray) (is:Bool) (at_ k0:Int) (hk:kind.tmod 8=3) (hpb:b.size≤1000000) (hpa:a.size≤1000000) (hrb:b.size≤1000) (e0:0≤enc) (e8:enc≤8) (hc:c≤90) (hm:0≤m∧m+m≤n) (hn:n≤1000000) (hfit:2+10 * (c:Int)+10≤m) :
    Calls Tryz.prog 33 #[.pointer (some ⟨f,0,none⟩),call17V kind a b is at_ k0] w (Do17Post L T c F f enc p m n w):=by
  obtain ⟨W5,hW5,f5,hs5,x5,y5,z5⟩:=do17_laid w kind a b is at_ k0
  have HO:=Lib.hid ((h.fresh f5).a_rename (hGT.fresh f5) a b is at_ k0 hpa hpb hrb e0 e8 hc hm hn hfit)
  have HFB:=Lib.hid h.fb
  have H5:=Lib.hid (And.intro f5 (And.intro hs5 (And.intro x5 (And.intro y5 z5))))
  have hs5':=hs5
  have q0:W5.cell? ⟨w.heap.size,0,none⟩=some (.int .u8 kind):=x5.cell 0
  have q1:W5.cell? ⟨w.heap.size,1,none⟩=some (.string a):=x5.cell 1
  have q2:W5.cell? ⟨w.heap.size,2,none⟩=some (.string b):=x5.cell 2
  have q3:W5.cell? ⟨w.heap.size,3,none⟩=some (.bool is):=x5.cell 3
  have q4:W5.cell? ⟨w.heap.size,4,none⟩=some (.int .i64 at_):=x5.cell 4
  have q5:W5.cell? ⟨w.heap.size,5,none⟩=some (.int .i64 k0):=x5.cell 5
  have g0:(kind.tmod 8 == 0)=false:=by rw [hk];rfl
  have g1:(kind.tmod 8 == 1)=false:=by rw [hk];rfl
  have g2:(kind.tmod 8 == 2)=false:=by rw [hk];rfl
  have g3:(kind.tmod 8 == 3)=true:=by rw [hk];rfl
  clear h hGT f5 hs5 x5 y5 z5 hc hm hn hfit hpa hpb hrb e0 e8 hk
  go_enter Tryz.func33,Tryz.ntmps33
  go_wp2_with fail
  try rw [hW5]
  clear hW5
  try go_wp2_with fail
  refine HO.out.mono ?_
  rintro e w2 ⟨n1,rfl,hany⟩
  have hmu:Mut F W5 w2:=by obtain ⟨_,_,_,_,_,hmu,_⟩:=hany;exact hmu
  have HA:=Lib.hid hany
  have y2:Blk w2 (w.heap.size+1) 77 _:=H5.out.2.2.2.1.mut hmu (fun q=>by have:=HFB.out _ q;omega)
  have z2:Blk w2 (w.heap.size+2) 77 _:=H5.out.2.2.2.2.mut hmu (fun q=>by have:=HFB.out _ q;omega)
  clear hany hmu q0 q1 q2 q3 q4 q5
  have z3:w2.frozen? ⟨w.heap.size+2,0,none⟩=false:=z2.frozen 0
  have z4:w2.cell? ⟨w.heap.size+2,0,none⟩=some (.int .i64 0):=z2.cell 0
  obtain ⟨W6,hW6⟩:∃ W6,w2.setCell ⟨w.heap.size+2,0,none⟩ (.int .i64 n1)=W6:=⟨_,rfl⟩
  have u6:Mut (fun j=>j=w.heap.size+2) w2 W6:=by rw [← hW6];exact (Mut.refl (fun j=>j=w.heap.size+2) w2).setCell (p:=⟨w.heap.size+2,0,none⟩) (.inl rfl) _
  have y6:=y2.mut u6 (by omega)
  have z6:Blk W6 (w.heap.size+2) 77 #[.int .i64 n1,.int .i64 0,.bool false,.string ⟨#[]⟩,.slice none 0 0,.int .i64 0]:=by rw [← hW6];exact z2.set (i:=0) (u:=.int .i64 n1)
  have r0:W6.cell? ⟨w.heap.size+1,0,none⟩=some (.int .i64 0):=y6.cell 0
  have s0:W6.frozen? ⟨w.heap.size+1,0,none⟩=false:=y6.frozen 0
  have r1:W6.cell? ⟨w.heap.size+1,1,none⟩=some (.int .i64 0):=y6.cell 1
  have s1:W6.frozen? ⟨w.heap.size+1,1,none⟩=false:=y6.frozen 1
  have r2:W6.cell? ⟨w.heap.size+1,2,none⟩=some (.bool false):=y6.cell 2
  have s2:W6.frozen? ⟨w.heap.size+1,2,none⟩=false:=y6.frozen 2
  have r3:W6.cell? ⟨w.heap.size+1,3,none⟩=some (.string ⟨#[]⟩):=y6.cell 3
  have s3:W6.frozen? ⟨w.heap.size+1,3,none⟩=false:=y6.frozen 3
  have r4:W6.cell? ⟨w.heap.size+1,4,none⟩=some (.slice none 0 0):=y6.cell 4
  have s4:W6.frozen? ⟨w.heap.size+1,4,none⟩=false:=y6.frozen 4
  have r5:W6.cell? ⟨w.heap.size+1,5,none⟩=some (.int .i64 0):=y6.cell 5
  have s5:W6.frozen? ⟨w.heap.size+1,5,none⟩=false:=y6.frozen 5
  have v0:W6.cell? ⟨w.heap.size+2,0,none⟩=some (.int .i64 n1):=z6.cell 0
  have v1:W6.cell? ⟨w.heap.size+2,1,none⟩=some (.int .i64 0):=z6.cell 1
  have v2:W6.cell? ⟨w.heap.size+2,2,none⟩=some (.bool false):=z6.cell 2
  have v3:W6.cell? ⟨w.heap.size+2,3,none⟩=some (.string ⟨#[]⟩):=z6.cell 3
  have v4:W6.cell? ⟨w.heap.size+2,4,none⟩=some (.slice none 0 0):=z6.cell 4
  have v5:W6.cell? ⟨w.heap.size+2,5,none⟩=some (.int .i64 0):=z6.cell 5
  have HZ:=Lib.hid (And.intro (Blk.set6 y6 (.int .i64 n1) (.int .i64 0) (.bool false) (.string ⟨#[]⟩) (.slice none 0 0) (.int .i64 0)) ((u6.mono (T:=fun j=>j=w.heap.size+1∨j=w.heap.size+2) (fun j _ e=>.inr e)).trans ((Mut.set6 (w:=W6) (g:=w.heap.size+1) (.int .i64 n1) (.int .i64 0) (.bool false) (.string ⟨#[]⟩) (.slice none 0 0) (.int .i64 0)).mono (T:=fun j=>j=w.heap.size+1∨j=w.heap.size+2) (fun j _ e=>.inl e))))
  clear y2 z2 y6 z6 u6
  go_wp2_with fail
  try rw [hW6]
  clear hW6
  go_wp2
  have hz:=HZ.out
  refine bodyPost_ret (v:=.agg #[.int .i64 n1,.int .i64 0,.bool false,.string ⟨#[]⟩,.slice none 0 0,.int .i64 0]) ?_ rfl ?_
  · simp [results,Tryz.results33,go_sem,hz.1.cell 0,hz.1.cell 1,hz.1.cell 2,hz.1.cell 3,hz.1.cell 4,hz.1.cell 5]
  · exact ⟨_,rfl,do17_end HFB.out H5.out.1 H5.out.2.1 HA.out hz.2⟩
def Rlist (L:List Item) (T:TreS) (c:Nat) (F:Nat→Prop) (f:Nat) (enc:Int) (p:Nat) (m n:Int) (w:World) (e:Ending) (w':World):Prop:=∃ (sA:Option Addr) (lA:Nat) (cA:Nat) (n1:Int) (n2:Int),e=.returned (.tuple #[.slice sA lA cA,.int .i64 n1,.int .i64 n2])∧StAny L T c F f enc p m n w w'
theorem St.a_list {F:Nat→Prop} {w:World} {f:Nat} {enc:Int} {p:Nat} {m n:Int} {L:List Item} {T:TreS} {c:Nat} (h:St w F f enc p m n L T c) (hGT:GT w) (a b:ByteArray) (is:Bool) (at_ k0:Int) (hpa:a.size≤1000000) (hpb:b.size≤1000000) (hrb:b.size≤1000) (e0:0≤enc) (e8:enc≤8) (hc:c≤90) (hm:0≤m∧m+m≤n) (hn:n≤1000000) (hfit:2+10 * (c:Int)+10≤m) :
    Calls Tryz.prog 31 #[.pointer (some ⟨f,0,none⟩),.string a,.int .i64 at_,.int .i64 k0] w (Rlist L T c F f enc p m n w):=by
  refine (h.list hGT a hpa at_ k0 e0 e8 hc).mono ?_
  rintro e w' ⟨sA,cA,rfl,_,hf⟩
  exact ⟨sA,_,cA,_,_,rfl,h.any hf⟩
set_option maxRecDepth 100000 in
set_option maxHeartbeats 3200000 in
theorem do17_list {F:Nat→Prop} {w:World} {f:Nat} {enc:Int} {p:Nat} {m n:Int} {L:List Item} {T:TreS} {c:Nat} (h:St w F f enc p m n L T c) (hGT:GT w) (kind:Int) (a b:ByteArray) (is:Bool) (at_ k0:Int) (hk:kind.tmod 8=4) (hpb:b.size≤1000000) (hpa:a.size≤1000000) (hrb:b.size≤1000) (e0:0≤enc) (e8:enc≤8) (hc:c≤90) (hm:0≤m∧m+m≤n) (hn:n≤1000000) (hfit:2+10 * (c:Int)+10≤m) :
    Calls Tryz.prog 33 #[.pointer (some ⟨f,0,none⟩),call17V kind a b is at_ k0] w (Do17Post L T c F f enc p m n w):=by
  obtain ⟨W5,hW5,f5,hs5,x5,y5,z5⟩:=do17_laid w kind a b is at_ k0
  have HO:=Lib.hid ((h.fresh f5).a_list (hGT.fresh f5) a b is at_ k0 hpa hpb hrb e0 e8 hc hm hn hfit)
  have HFB:=Lib.hid h.fb
  have H5:=Lib.hid (And.intro f5 (And.intro hs5 (And.intro x5 (And.intro y5 z5))))
  have hs5':=hs5
  have q0:W5.cell? ⟨w.heap.size,0,none⟩=some (.int .u8 kind):=x5.cell 0
  have q1:W5.cell? ⟨w.heap.size,1,none⟩=some (.string a):=x5.cell 1
  have q2:W5.cell? ⟨w.heap.size,2,none⟩=some (.string b):=x5.cell 2
  have q3:W5.cell? ⟨w.heap.size,3,none⟩=some (.bool is):=x5.cell 3
  have q4:W5.cell? ⟨w.heap.size,4,none⟩=some (.int .i64 at_):=x5.cell 4
  have q5:W5.cell? ⟨w.heap.size,5,none⟩=some (.int .i64 k0):=x5.cell 5
  have g0:(kind.tmod 8 == 0)=false:=by rw [hk];rfl
  have g1:(kind.tmod 8 == 1)=false:=by rw [hk];rfl
  have g2:(kind.tmod 8 == 2)=false:=by rw [hk];rfl
  have g3:(kind.tmod 8 == 3)=false:=by rw [hk];rfl
  have g4:(kind.tmod 8 == 4)=true:=by rw [hk];rfl
  clear h hGT f5 hs5 x5 y5 z5 hc hm hn hfit hpa hpb hrb e0 e8 hk
  go_enter Tryz.func33,Tryz.ntmps33
  go_wp2_with fail
  try rw [hW5]
  clear hW5
  try go_wp2_with fail
  refine HO.out.mono ?_
  rintro e w2 ⟨sA,lA,cA,n1,n2,rfl,hany⟩
  have hmu:Mut F W5 w2:=by obtain ⟨_,_,_,_,_,hmu,_⟩:=hany;exact hmu
  have HA:=Lib.hid hany
  have y2:Blk w2 (w.heap.size+1) 77 _:=H5.out.2.2.2.1.mut hmu (fun q=>by have:=HFB.out _ q;omega)
  have z2:Blk w2 (w.heap.size+2) 77 _:=H5.out.2.2.2.2.mut hmu (fun q=>by have:=HFB.out _ q;omega)
  clear hany hmu q0 q1 q2 q3 q4 q5
  have r0:w2.cell? ⟨w.heap.size+1,0,none⟩=some (.int .i64 0):=y2.cell 0
  have s0:w2.frozen? ⟨w.heap.size+1,0,none⟩=false:=y2.frozen 0
  have r1:w2.cell? ⟨w.heap.size+1,1,none⟩=some (.int .i64 0):=y2.cell 1
  have s1:w2.frozen? ⟨w.heap.size+1,1,none⟩=false:=y2.frozen 1
  have r2:w2.cell? ⟨w.heap.size+1,2,none⟩=some (.bool false):=y2.cell 2
  have s2:w2.frozen? ⟨w.heap.size+1,2,none⟩=false:=y2.frozen 2
  have r3:w2.cell? ⟨w.heap.size+1,3,none⟩=some (.string ⟨#[]⟩):=y2.cell 3
  have s3:w2.frozen? ⟨w.heap.size+1,3,none⟩=false:=y2.frozen 3
  have r4:w2.cell? ⟨w.heap.size+1,4,none⟩=some (.slice none 0 0):=y2.cell 4
  have s4:w2.frozen? ⟨w.heap.size+1,4,none⟩=false:=y2.frozen 4
  have r5:w2.cell? ⟨w.heap.size+1,5,none⟩=some (.int .i64 0):=y2.cell 5
  have s5:w2.frozen? ⟨w.heap.size+1,5,none⟩=false:=y2.frozen 5
  have HZ:=Lib.hid (And.intro (Blk.set6 y2 (.int .i64 n2) (.int .i64 0) (.bool false) (.string ⟨#[]⟩) (.slice sA lA cA) (.int .i64 n1)) ((Mut.set6 (w:=w2) (g:=w.heap.size+1) (.int .i64 n2) (.int .i64 0) (.bool false) (.string ⟨#[]⟩) (.slice sA lA cA) (.int .i64 n1)).mono (T:=fun j=>j=w.heap.size+1∨j=w.heap.size+2) (fun j _ e=>.inl e)))
  clear y2 z2
  go_wp2
  have hz:=HZ.out
  refine bodyPost_ret (v:=.agg #[.int .i64 n2,.int .i64 0,.bool false,.string ⟨#[]⟩,.slice sA lA cA,.int .i64 n1]) ?_ rfl ?_
  · simp [results,Tryz.results33,go_sem,hz.1.cell 0,hz.1.cell 1,hz.1.cell 2,hz.1.cell 3,hz.1.cell 4,hz.1.cell 5]
  · exact ⟨_,rfl,do17_end HFB.out H5.out.1 H5.out.2.1 HA.out hz.2⟩
def Rraw (L:List Item) (T:TreS) (c:Nat) (F:Nat→Prop) (f:Nat) (enc:Int) (p:Nat) (m n:Int) (w:World) (e:Ending) (w':World):Prop:=∃ (t1:ByteArray) (n1:Int),e=.returned (.tuple #[.string t1,.int .i64 n1])∧StAny L T c F f enc p m n w w'
theorem St.a_raw {F:Nat→Prop} {w:World} {f:Nat} {enc:Int} {p:Nat} {m n:Int} {L:List Item} {T:TreS} {c:Nat} (h:St w F f enc p m n L T c) (hGT:GT w) (a b:ByteArray) (is:Bool) (at_ k0:Int) (hpa:a.size≤1000000) (hpb:b.size≤1000000) (hrb:b.size≤1000) (e0:0≤enc) (e8:enc≤8) (hc:c≤90) (hm:0≤m∧m+m≤n) (hn:n≤1000000) (hfit:2+10 * (c:Int)+10≤m) :
    Calls Tryz.prog 30 #[.pointer (some ⟨f,0,none⟩),.string a] w (Rraw L T c F f enc p m n w):=by
  refine (h.raw hGT a hpa e0 e8 hc).mono ?_
  rintro e w' ⟨rfl,hf⟩
  exact ⟨_,_,rfl,h.any hf⟩
set_option maxRecDepth 100000 in
set_option maxHeartbeats 3200000 in
theorem do17_raw {F:Nat→Prop} {w:World} {f:Nat} {enc:Int} {p:Nat} {m n:Int} {L:List Item} {T:TreS} {c:Nat} (h:St w F f enc p m n L T c) (hGT:GT w) (kind:Int) (a b:ByteArray) (is:Bool) (at_ k0:Int) (hk:kind.tmod 8=5) (hpb:b.size≤1000000) (hpa:a.size≤1000000) (hrb:b.size≤1000) (e0:0≤enc) (e8:enc≤8) (hc:c≤90) (hm:0≤m∧m+m≤n) (hn:n≤1000000) (hfit:2+10 * (c:Int)+10≤m) :
    Calls Tryz.prog 33 #[.pointer (some ⟨f,0,none⟩),call17V kind a b is at_ k0] w (Do17Post L T c F f enc p m n w):=by
  obtain ⟨W5,hW5,f5,hs5,x5,y5,z5⟩:=do17_laid w kind a b is at_ k0
  have HO:=Lib.hid ((h.fresh f5).a_raw (hGT.fresh f5) a b is at_ k0 hpa hpb hrb e0 e8 hc hm hn hfit)
  have HFB:=Lib.hid h.fb
  have H5:=Lib.hid (And.intro f5 (And.intro hs5 (And.intro x5 (And.intro y5 z5))))
  have hs5':=hs5
  have q0:W5.cell? ⟨w.heap.size,0,none⟩=some (.int .u8 kind):=x5.cell 0
  have q1:W5.cell? ⟨w.heap.size,1,none⟩=some (.string a):=x5.cell 1
  have q2:W5.cell? ⟨w.heap.size,2,none⟩=some (.string b):=x5.cell 2
  have q3:W5.cell? ⟨w.heap.size,3,none⟩=some (.bool is):=x5.cell 3
  have q4:W5.cell? ⟨w.heap.size,4,none⟩=some (.int .i64 at_):=x5.cell 4
  have q5:W5.cell? ⟨w.heap.size,5,none⟩=some (.int .i64 k0):=x5.cell 5
  have g0:(kind.tmod 8 == 0)=false:=by rw [hk];rfl
  have g1:(kind.tmod 8 == 1)=false:=by rw [hk];rfl
  have g2:(kind.tmod 8 == 2)=false:=by rw [hk];rfl
  have g3:(kind.tmod 8 == 3)=false:=by rw [hk];rfl
  have g4:(kind.tmod 8 == 4)=false:=by rw [hk];rfl
  have g5:(kind.tmod 8 == 5)=true:=by rw [hk];rfl
  clear h hGT f5 hs5 x5 y5 z5 hc hm hn hfit hpa hpb hrb e0 e8 hk
  go_enter Tryz.func33,Tryz.ntmps33
  go_wp2_with fail
  try rw [hW5]
  clear hW5
  try go_wp2_with fail
  refine HO.out.mono ?_
  rintro e w2 ⟨t1,n1,rfl,hany⟩
  have hmu:Mut F W5 w2:=by obtain ⟨_,_,_,_,_,hmu,_⟩:=hany;exact hmu
  have HA:=Lib.hid hany
  have y2:Blk w2 (w.heap.size+1) 77 _:=H5.out.2.2.2.1.mut hmu (fun q=>by have:=HFB.out _ q;omega)
  have z2:Blk w2 (w.heap.size+2) 77 _:=H5.out.2.2.2.2.mut hmu (fun q=>by have:=HFB.out _ q;omega)
  clear hany hmu q0 q1 q2 q3 q4 q5
  have r0:w2.cell? ⟨w.heap.size+1,0,none⟩=some (.int .i64 0):=y2.cell 0
  have s0:w2.frozen? ⟨w.heap.size+1,0,none⟩=false:=y2.frozen 0
  have r1:w2.cell? ⟨w.heap.size+1,1,none⟩=some (.int .i64 0):=y2.cell 1
  have s1:w2.frozen? ⟨w.heap.size+1,1,none⟩=false:=y2.frozen 1
  have r2:w2.cell? ⟨w.heap.size+1,2,none⟩=some (.bool false):=y2.cell 2
  have s2:w2.frozen? ⟨w.heap.size+1,2,none⟩=false:=y2.frozen 2
  have r3:w2.cell? ⟨w.heap.size+1,3,none⟩=some (.string ⟨#[]⟩):=y2.cell 3
  have s3:w2.frozen? ⟨w.heap.size+1,3,none⟩=false:=y2.frozen 3
  have r4:w2.cell? ⟨w.heap.size+1,4,none⟩=some (.slice none 0 0):=y2.cell 4
  have s4:w2.frozen? ⟨w.heap.size+1,4,none⟩=false:=y2.frozen 4
  have r5:w2.cell? ⟨w.heap.size+1,5,none⟩=some (.int .i64 0):=y2.cell 5
  have s5:w2.frozen? ⟨w.heap.size+1,5,none⟩=false:=y2.frozen 5
  have HZ:=Lib.hid (And.intro (Blk.set6 y2 (.int .i64 n1) (.int .i64 0) (.bool false) (.string t1) (.slice none 0 0) (.int .i64 0)) ((Mut.set6 (w:=w2) (g:=w.heap.size+1) (.int .i64 n1) (.int .i64 0) (.bool false) (.string t1) (.slice none 0 0) (.int .i64 0)).mono (T:=fun j=>j=w.heap.size+1∨j=w.heap.size+2) (fun j _ e=>.inl e)))
  clear y2 z2
  go_wp2
  have hz:=HZ.out
  refine bodyPost_ret (v:=.agg #[.int .i64 n1,.int .i64 0,.bool false,.string t1,.slice none 0 0,.int .i64 0]) ?_ rfl ?_
  · simp [results,Tryz.results33,go_sem,hz.1.cell 0,hz.1.cell 1,hz.1.cell 2,hz.1.cell 3,hz.1.cell 4,hz.1.cell 5]
  · exact ⟨_,rfl,do17_end HFB.out H5.out.1 H5.out.2.1 HA.out hz.2⟩
def Rplant (L:List Item) (T:TreS) (c:Nat) (F:Nat→Prop) (f:Nat) (enc:Int) (p:Nat) (m n:Int) (w:World) (e:Ending) (w':World):Prop:=∃ (n1:Int) (n2:Int),e=.returned (.tuple #[.int .i64 n1,.int .i64 n2])∧StAny L T c F f enc p m n w w'
theorem St.a_plant {F:Nat→Prop} {w:World} {f:Nat} {enc:Int} {p:Nat} {m n:Int} {L:List Item} {T:TreS} {c:Nat} (h:St w F f enc p m n L T c) (hGT:GT w) (a b:ByteArray) (is:Bool) (at_ k0:Int) (hpa:a.size≤1000000) (hpb:b.size≤1000000) (hrb:b.size≤1000) (e0:0≤enc) (e8:enc≤8) (hc:c≤90) (hm:0≤m∧m+m≤n) (hn:n≤1000000) (hfit:2+10 * (c:Int)+10≤m) :
    Calls Tryz.prog 36 #[.pointer (some ⟨f,0,none⟩),.string a,.string b,.bool is] w (Rplant L T c F f enc p m n w):=by
  refine (h.plantP hGT a b is hpa e0 e8 hrb hc hm hn hfit).mono ?_
  rintro e w' ⟨n1,n2,L2,T2,F2,ho,rfl,hs,hmu,hgr⟩
  exact ⟨n1,n2,rfl,L2,T2,F2,ho.grow,hs,hmu,hgr⟩
set_option maxRecDepth 100000 in
set_option maxHeartbeats 3200000 in
theorem do17_plant {F:Nat→Prop} {w:World} {f:Nat} {enc:Int} {p:Nat} {m n:Int} {L:List Item} {T:TreS} {c:Nat} (h:St w F f enc p m n L T c) (hGT:GT w) (kind:Int) (a b:ByteArray) (is:Bool) (at_ k0:Int) (hk:kind.tmod 8=6) (hpb:b.size≤1000000) (hpa:a.size≤1000000) (hrb:b.size≤1000) (e0:0≤enc) (e8:enc≤8) (hc:c≤90) (hm:0≤m∧m+m≤n) (hn:n≤1000000) (hfit:2+10 * (c:Int)+10≤m) :
    Calls Tryz.prog 33 #[.pointer (some ⟨f,0,none⟩),call17V kind a b is at_ k0] w (Do17Post L T c F f enc p m n w):=by
  obtain ⟨W5,hW5,f5,hs5,x5,y5,z5⟩:=do17_laid w kind a b is at_ k0
  have HO:=Lib.hid ((h.fresh f5).a_plant (hGT.fresh f5) a b is at_ k0 hpa hpb hrb e0 e8 hc hm hn hfit)
  have HFB:=Lib.hid h.fb
  have H5:=Lib.hid (And.intro f5 (And.intro hs5 (And.intro x5 (And.intro y5 z5))))
  have hs5':=hs5
  have q0:W5.cell? ⟨w.heap.size,0,none⟩=some (.int .u8 kind):=x5.cell 0
  have q1:W5.cell? ⟨w.heap.size,1,none⟩=some (.string a):=x5.cell 1
  have q2:W5.cell? ⟨w.heap.size,2,none⟩=some (.string b):=x5.cell 2
  have q3:W5.cell? ⟨w.heap.size,3,none⟩=some (.bool is):=x5.cell 3
  have q4:W5.cell? ⟨w.heap.size,4,none⟩=some (.int .i64 at_):=x5.cell 4
  have q5:W5.cell? ⟨w.heap.size,5,none⟩=some (.int .i64 k0):=x5.cell 5
  have g0:(kind.tmod 8 == 0)=false:=by rw [hk];rfl
  have g1:(kind.tmod 8 == 1)=false:=by rw [hk];rfl
  have g2:(kind.tmod 8 == 2)=false:=by rw [hk];rfl
  have g3:(kind.tmod 8 == 3)=false:=by rw [hk];rfl
  have g4:(kind.tmod 8 == 4)=false:=by rw [hk];rfl
  have g5:(kind.tmod 8 == 5)=false:=by rw [hk];rfl
  have g6:(kind.tmod 8 == 6)=true:=by rw [hk];rfl
  clear h hGT f5 hs5 x5 y5 z5 hc hm hn hfit hpa hpb hrb e0 e8 hk
  go_enter Tryz.func33,Tryz.ntmps33
  go_wp2_with fail
  try rw [hW5]
  clear hW5
  try go_wp2_with fail
  refine HO.out.mono ?_
  rintro e w2 ⟨n1,n2,rfl,hany⟩
  have hmu:Mut F W5 w2:=by obtain ⟨_,_,_,_,_,hmu,_⟩:=hany;exact hmu
  have HA:=Lib.hid hany
  have y2:Blk w2 (w.heap.size+1) 77 _:=H5.out.2.2.2.1.mut hmu (fun q=>by have:=HFB.out _ q;omega)
  have z2:Blk w2 (w.heap.size+2) 77 _:=H5.out.2.2.2.2.mut hmu (fun q=>by have:=HFB.out _ q;omega)
  clear hany hmu q0 q1 q2 q3 q4 q5
  have r0:w2.cell? ⟨w.heap.size+1,0,none⟩=some (.int .i64 0):=y2.cell 0
  have s0:w2.frozen? ⟨w.heap.size+1,0,none⟩=false:=y2.frozen 0
  have r1:w2.cell? ⟨w.heap.size+1,1,none⟩=some (.int .i64 0):=y2.cell 1
  have s1:w2.frozen? ⟨w.heap.size+1,1,none⟩=false:=y2.frozen 1
  have r2:w2.cell? ⟨w.heap.size+1,2,none⟩=some (.bool false):=y2.cell 2
  have s2:w2.frozen? ⟨w.heap.size+1,2,none⟩=false:=y2.frozen 2
  have r3:w2.cell? ⟨w.heap.size+1,3,none⟩=some (.string ⟨#[]⟩):=y2.cell 3
  have s3:w2.frozen? ⟨w.heap.size+1,3,none⟩=false:=y2.frozen 3
  have r4:w2.cell? ⟨w.heap.size+1,4,none⟩=some (.slice none 0 0):=y2.cell 4
  have s4:w2.frozen? ⟨w.heap.size+1,4,none⟩=false:=y2.frozen 4
  have r5:w2.cell? ⟨w.heap.size+1,5,none⟩=some (.int .i64 0):=y2.cell 5
  have s5:w2.frozen? ⟨w.heap.size+1,5,none⟩=false:=y2.frozen 5
  have HZ:=Lib.hid (And.intro (Blk.set6 y2 (.int .i64 n2) (.int .i64 n1) (.bool false) (.string ⟨#[]⟩) (.slice none 0 0) (.int .i64 0)) ((Mut.set6 (w:=w2) (g:=w.heap.size+1) (.int .i64 n2) (.int .i64 n1) (.bool false) (.string ⟨#[]⟩) (.slice none 0 0) (.int .i64 0)).mono (T:=fun j=>j=w.heap.size+1∨j=w.heap.size+2) (fun j _ e=>.inl e)))
  clear y2 z2
  go_wp2
  have hz:=HZ.out
  refine bodyPost_ret (v:=.agg #[.int .i64 n2,.int .i64 n1,.bool false,.string ⟨#[]⟩,.slice none 0 0,.int .i64 0]) ?_ rfl ?_
  · simp [results,Tryz.results33,go_sem,hz.1.cell 0,hz.1.cell 1,hz.1.cell 2,hz.1.cell 3,hz.1.cell 4,hz.1.cell 5]
  · exact ⟨_,rfl,do17_end HFB.out H5.out.1 H5.out.2.1 HA.out hz.2⟩
def Rsync (L:List Item) (T:TreS) (c:Nat) (F:Nat→Prop) (f:Nat) (enc:Int) (p:Nat) (m n:Int) (w:World) (e:Ending) (w':World):Prop:=∃ (n1:Int),e=.returned (.int .i64 n1)∧StAny L T c F f enc p m n w w'
theorem St.a_sync {F:Nat→Prop} {w:World} {f:Nat} {enc:Int} {p:Nat} {m n:Int} {L:List Item} {T:TreS} {c:Nat} (h:St w F f enc p m n L T c) (hGT:GT w) (a b:ByteArray) (is:Bool) (at_ k0:Int) (hpa:a.size≤1000000) (hpb:b.size≤1000000) (hrb:b.size≤1000) (e0:0≤enc) (e8:enc≤8) (hc:c≤90) (hm:0≤m∧m+m≤n) (hn:n≤1000000) (hfit:2+10 * (c:Int)+10≤m) :
    Calls Tryz.prog 76 #[.pointer (some ⟨f,0,none⟩)] w (Rsync L T c F f enc p m n w):=by
  refine h.sync.mono ?_
  rintro e w' ⟨n1,L2,T2,F2,⟨_,h2,h3⟩,rfl,hs,hmu,hgr⟩
  exact ⟨n1,rfl,L2,T2,F2,by rw [h2,h3];exact .refl _ _,hs,hmu,hgr⟩
set_option maxRecDepth 100000 in
set_option maxHeartbeats 3200000 in
theorem do17_sync {F:Nat→Prop} {w:World} {f:Nat} {enc:Int} {p:Nat} {m n:Int} {L:List Item} {T:TreS} {c:Nat} (h:St w F f enc p m n L T c) (hGT:GT w) (kind:Int) (a b:ByteArray) (is:Bool) (at_ k0:Int) (hk:kind.tmod 8=7) (hpb:b.size≤1000000) (hpa:a.size≤1000000) (hrb:b.size≤1000) (e0:0≤enc) (e8:enc≤8) (hc:c≤90) (hm:0≤m∧m+m≤n) (hn:n≤1000000) (hfit:2+10 * (c:Int)+10≤m) :
    Calls Tryz.prog 33 #[.pointer (some ⟨f,0,none⟩),call17V kind a b is at_ k0] w (Do17Post L T c F f enc p m n w):=by
  obtain ⟨W5,hW5,f5,hs5,x5,y5,z5⟩:=do17_laid w kind a b is at_ k0
  have HO:=Lib.hid ((h.fresh f5).a_sync (hGT.fresh f5) a b is at_ k0 hpa hpb hrb e0 e8 hc hm hn hfit)
  have HFB:=Lib.hid h.fb
  have H5:=Lib.hid (And.intro f5 (And.intro hs5 (And.intro x5 (And.intro y5 z5))))
  have hs5':=hs5
  have q0:W5.cell? ⟨w.heap.size,0,none⟩=some (.int .u8 kind):=x5.cell 0
  have q1:W5.cell? ⟨w.heap.size,1,none⟩=some (.string a):=x5.cell 1
  have q2:W5.cell? ⟨w.heap.size,2,none⟩=some (.string b):=x5.cell 2
  have q3:W5.cell? ⟨w.heap.size,3,none⟩=some (.bool is):=x5.cell 3
  have q4:W5.cell? ⟨w.heap.size,4,none⟩=some (.int .i64 at_):=x5.cell 4
  have q5:W5.cell? ⟨w.heap.size,5,none⟩=some (.int .i64 k0):=x5.cell 5
  have g0:(kind.tmod 8 == 0)=false:=by rw [hk];rfl
  have g1:(kind.tmod 8 == 1)=false:=by rw [hk];rfl
  have g2:(kind.tmod 8 == 2)=false:=by rw [hk];rfl
  have g3:(kind.tmod 8 == 3)=false:=by rw [hk];rfl
  have g4:(kind.tmod 8 == 4)=false:=by rw [hk];rfl
  have g5:(kind.tmod 8 == 5)=false:=by rw [hk];rfl
  have g6:(kind.tmod 8 == 6)=false:=by rw [hk];rfl
  clear h hGT f5 hs5 x5 y5 z5 hc hm hn hfit hpa hpb hrb e0 e8 hk
  go_enter Tryz.func33,Tryz.ntmps33
  go_wp2_with fail
  try rw [hW5]
  clear hW5
  try go_wp2_with fail
  refine HO.out.mono ?_
  rintro e w2 ⟨n1,rfl,hany⟩
  have hmu:Mut F W5 w2:=by obtain ⟨_,_,_,_,_,hmu,_⟩:=hany;exact hmu
  have HA:=Lib.hid hany
  have y2:Blk w2 (w.heap.size+1) 77 _:=H5.out.2.2.2.1.mut hmu (fun q=>by have:=HFB.out _ q;omega)
  have z2:Blk w2 (w.heap.size+2) 77 _:=H5.out.2.2.2.2.mut hmu (fun q=>by have:=HFB.out _ q;omega)
  clear hany hmu q0 q1 q2 q3 q4 q5
  have z3:w2.frozen? ⟨w.heap.size+2,0,none⟩=false:=z2.frozen 0
  have z4:w2.cell? ⟨w.heap.size+2,0,none⟩=some (.int .i64 0):=z2.cell 0
  obtain ⟨W6,hW6⟩:∃ W6,w2.setCell ⟨w.heap.size+2,0,none⟩ (.int .i64 n1)=W6:=⟨_,rfl⟩
  have u6:Mut (fun j=>j=w.heap.size+2) w2 W6:=by rw [← hW6];exact (Mut.refl (fun j=>j=w.heap.size+2) w2).setCell (p:=⟨w.heap.size+2,0,none⟩) (.inl rfl) _
  have y6:=y2.mut u6 (by omega)
  have z6:Blk W6 (w.heap.size+2) 77 #[.int .i64 n1,.int .i64 0,.bool false,.string ⟨#[]⟩,.slice none 0 0,.int .i64 0]:=by rw [← hW6];exact z2.set (i:=0) (u:=.int .i64 n1)
  have r0:W6.cell? ⟨w.heap.size+1,0,none⟩=some (.int .i64 0):=y6.cell 0
  have s0:W6.frozen? ⟨w.heap.size+1,0,none⟩=false:=y6.frozen 0
  have r1:W6.cell? ⟨w.heap.size+1,1,none⟩=some (.int .i64 0):=y6.cell 1
  have s1:W6.frozen? ⟨w.heap.size+1,1,none⟩=false:=y6.frozen 1
  have r2:W6.cell? ⟨w.heap.size+1,2,none⟩=some (.bool false):=y6.cell 2
  have s2:W6.frozen? ⟨w.heap.size+1,2,none⟩=false:=y6.frozen 2
  have r3:W6.cell? ⟨w.heap.size+1,3,none⟩=some (.string ⟨#[]⟩):=y6.cell 3
  have s3:W6.frozen? ⟨w.heap.size+1,3,none⟩=false:=y6.frozen 3
  have r4:W6.cell? ⟨w.heap.size+1,4,none⟩=some (.slice none 0 0):=y6.cell 4
  have s4:W6.frozen? ⟨w.heap.size+1,4,none⟩=false:=y6.frozen 4
  have r5:W6.cell? ⟨w.heap.size+1,5,none⟩=some (.int .i64 0):=y6.cell 5
  have s5:W6.frozen? ⟨w.heap.size+1,5,none⟩=false:=y6.frozen 5
  have v0:W6.cell? ⟨w.heap.size+2,0,none⟩=some (.int .i64 n1):=z6.cell 0
  have v1:W6.cell? ⟨w.heap.size+2,1,none⟩=some (.int .i64 0):=z6.cell 1
  have v2:W6.cell? ⟨w.heap.size+2,2,none⟩=some (.bool false):=z6.cell 2
  have v3:W6.cell? ⟨w.heap.size+2,3,none⟩=some (.string ⟨#[]⟩):=z6.cell 3
  have v4:W6.cell? ⟨w.heap.size+2,4,none⟩=some (.slice none 0 0):=z6.cell 4
  have v5:W6.cell? ⟨w.heap.size+2,5,none⟩=some (.int .i64 0):=z6.cell 5
  have HZ:=Lib.hid (And.intro (Blk.set6 y6 (.int .i64 n1) (.int .i64 0) (.bool false) (.string ⟨#[]⟩) (.slice none 0 0) (.int .i64 0)) ((u6.mono (T:=fun j=>j=w.heap.size+1∨j=w.heap.size+2) (fun j _ e=>.inr e)).trans ((Mut.set6 (w:=W6) (g:=w.heap.size+1) (.int .i64 n1) (.int .i64 0) (.bool false) (.string ⟨#[]⟩) (.slice none 0 0) (.int .i64 0)).mono (T:=fun j=>j=w.heap.size+1∨j=w.heap.size+2) (fun j _ e=>.inl e))))
  clear y2 z2 y6 z6 u6
  go_wp2_with fail
  try rw [hW6]
  clear hW6
  go_wp2
  have hz:=HZ.out
  refine bodyPost_ret (v:=.agg #[.int .i64 n1,.int .i64 0,.bool false,.string ⟨#[]⟩,.slice none 0 0,.int .i64 0]) ?_ rfl ?_
  · simp [results,Tryz.results33,go_sem,hz.1.cell 0,hz.1.cell 1,hz.1.cell 2,hz.1.cell 3,hz.1.cell 4,hz.1.cell 5]
  · exact ⟨_,rfl,do17_end HFB.out H5.out.1 H5.out.2.1 HA.out hz.2⟩
end Go.Proofs.YtpmlggjhfiljmaaGreatDoor
