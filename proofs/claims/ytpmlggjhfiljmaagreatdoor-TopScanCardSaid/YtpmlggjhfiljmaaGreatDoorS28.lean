/- Part 28 of what the law rests on. -/
import Derived.Lib.SliceRun
import Derived.Laws.IdiomCopy
import Derived.Deep.DrawnRows
import Derived.Test.YtpmlggjhfiljmaaGreatDoorS03
import Derived.Test.YtpmlggjhfiljmaaGreatDoorS08
import Derived.Test.YtpmlggjhfiljmaaGreatDoorS18
import Derived.Test.YtpmlggjhfiljmaaGreatDoorS25
import Derived.Test.YtpmlggjhfiljmaaGreatDoorS27
set_option linter.all false
namespace Go.Proofs.YtpmlggjhfiljmaaGreatDoor
open Go.RowKit
theorem ecs_drop:∀ (k:Nat) (l:List Ent),ecs (l.drop k)=(ecs l).drop (k * 5)
  | 0,l=>by simp
  | k+1,[]=>by simp [ecs]
  | k+1,x :: l=>by
    have ih:=ecs_drop k l
    rw [List.drop_succ_cons,ih]
    have:ecs (x :: l)=ec x++ecs l:=by unfold ecs;rw [List.flatMap_cons]
    rw [this,show (k+1) * 5=(ec x).length+k * 5 by simp [ec];omega,List.drop_append]
    simp
theorem ecs_take:∀ (k:Nat) (l:List Ent),ecs (l.take k)=(ecs l).take (k * 5)
  | 0,l=>by simp [ecs]
  | k+1,[]=>by simp [ecs]
  | k+1,x :: l=>by
    have ih:=ecs_take k l
    have e1:ecs (x :: l)=ec x++ecs l:=by unfold ecs;rw [List.flatMap_cons]
    have e2:ecs (x :: l.take k)=ec x++ecs (l.take k):=by unfold ecs;rw [List.flatMap_cons]
    rw [List.take_succ_cons,e2,e1,ih,show (k+1) * 5=(ec x).length+k * 5 by simp [ec];omega,List.take_append,List.take_of_length_le (by omega:(ec x).length≤(ec x).length+k * 5)]
    simp
theorem SlE.sub {w:World} {A:Nat→Prop} {g off n cap k m cap':Nat} {l:List Ent} (h:SlE w A (.slice (some ⟨g,off,none⟩) n cap) l) (hk:k+m≤l.length) (hm:m≤cap'):SlE w A (.slice (some ⟨g,off+k * 5,none⟩) m cap') ((l.drop k).take m):=by
  obtain ⟨h1,a,c,hv,hcap,h0⟩:=h
  injection hv with hv1 hv2 hv3
  subst hv1
  have hlen:((l.drop k).take m).length=m:=by simp;omega
  refine ⟨by rw [ecs_len,hlen],_,cap',by rw [hlen],by rw [hlen];exact hm,?_⟩
  rw [hlen]
  rcases h0 with h0 | ⟨g',off',e,hA,hg,hc⟩
  · exact .inl (by omega)
  · injection e with e
    injection e with e1 e2
    subst e1 e2
    refine .inr ⟨g,off+k * 5,rfl,hA,hg,fun j hj=>?_⟩
    rw [show off+k * 5+j=off+(k * 5+j) by omega,hc (k * 5+j) (by omega),ecs_take,ecs_drop,List.getElem?_take,if_pos hj,List.getElem?_drop]
def readR (l:List Ent) (cur n:Int):List Ent × Int × Int :=
  if n<1∨64<n then ([],0,1) else if cur<0 then ([],0,14) else
    (((l.filter fun e=>decide (cur<e.cookie)).take n.toNat),((((l.filter fun e=>decide (cur<e.cookie)).take n.toNat).getLast?.map (·.cookie)).getD cur),0)
def ReadF (r:List Ent × Int × Int) (w:World) (e:Ending) (w':World):Prop:=∃ a c,e=.returned (.tuple #[.slice a r.1.length c,.int .i64 r.2.1,.int .i64 r.2.2])∧SlE w' (fun g=>w.heap.size≤g) (.slice a r.1.length c) r.1∧Fresh w w'
theorem tail_filter {l:List Ent} {cur:Int}:∀ {k:Nat},l.Pairwise (fun a b=>a.cookie<b.cookie)→k≤l.length→(∀ (h:0<k) (h2:k - 1<l.length),¬ cur<l[k - 1].cookie)→(∀ h:k<l.length,cur<l[k].cookie)→l.filter (fun e=>decide (cur<e.cookie))=l.drop k:=by
  induction l with
  | nil=>intro k _ hk _ _;simp
  | cons x l ih =>
    intro k hp hk h1 h2
    obtain ⟨hx,hp⟩:=List.pairwise_cons.1 hp
    cases k with
    | zero =>
      have h0:=h2 (by simp)
      simp only [List.getElem_cons_zero] at h0
      rw [List.drop_zero,List.filter_eq_self]
      intro e he
      rcases List.mem_cons.1 he with rfl | he
      · exact decide_eq_true h0
      · have:=hx e he;exact decide_eq_true (by omega)
    | succ k =>
      have hk':k≤l.length:=by simpa using hk
      have hxn:¬ cur<x.cookie:=by
        cases k with
        | zero=>exact h1 (by omega) (by simp)
        | succ j =>
          have a:=h1 (by omega) (by simp;omega)
          simp only [Nat.add_sub_cancel,List.getElem_cons_succ] at a
          have b:=hx l[j] (List.getElem_mem _)
          omega
      rw [List.filter_cons_of_neg (by simpa using hxn),List.drop_succ_cons]
      refine ih hp hk' (fun h h3=>?_) (fun h=>?_)
      · cases k with
        | zero=>omega
        | succ j =>
          have a:=h1 (by omega) (by simp;omega)
          simpa using a
      · have a:=h2 (by simp;omega)
        simpa using a
theorem valid_any (c:Int) (w:World):Calls Tryz.prog 128 #[.int .i64 c] w fun e w'=>e=.returned (.bool (decide (0≤c)))∧w=w':=by
  go_enter Tryz.func128,Tryz.ntmps128
  go_wp2
  go_ret
  exact ⟨rfl,rfl⟩
section
variable (a0:Option Addr) (ln cp:Nat) (cur n:Int) (w:World)
theorem cread_arg (hn:n<1∨64<n):Calls Tryz.prog 73 #[.slice a0 ln cp,.int .i64 cur,.int .i64 n] w (ReadF ([],0,1) w):=by
  have hf:Fresh w ((w.alloc (.cells #[.slice a0 ln cp] 83)).alloc (.cells #[.int .i64 cur] 2)):=((Fresh.refl _).alloc _).alloc _
  by_cases h1:n<1
  · clear hn
    go_enter Tryz.func73,Tryz.ntmps73
    go_wp2
    go_ret3
    exact ⟨none,0,rfl,SlG.nil _ _ _,hf⟩
  · have h2:64<n:=by omega
    clear hn
    go_enter Tryz.func73,Tryz.ntmps73
    go_wp2
    go_ret3
    exact ⟨none,0,rfl,SlG.nil _ _ _,hf⟩
theorem cread_cur (h1:1≤n) (h2:n≤64) (hc:cur<0):Calls Tryz.prog 73 #[.slice a0 ln cp,.int .i64 cur,.int .i64 n] w (ReadF ([],0,14) w):=by
  have hf:Fresh w ((w.alloc (.cells #[.slice a0 ln cp] 83)).alloc (.cells #[.int .i64 cur] 2)):=((Fresh.refl _).alloc _).alloc _
  have hd:decide (0≤cur)=false:=decide_eq_false (by omega)
  have i1:¬ n<1:=by omega
  have i2:¬ 64<n:=by omega
  go_enter Tryz.func73,Tryz.ntmps73
  go_wp2_with fail
  refine (valid_any cur _).mono ?_
  rintro e w2 ⟨rfl,rfl⟩
  rw [hd]
  clear hd
  go_wp2
  go_ret3
  exact ⟨none,0,rfl,SlG.nil _ _ _,hf⟩
set_option maxRecDepth 100000 in
set_option maxHeartbeats 3200000 in
theorem cread_main (A:Nat→Prop) (l:List Ent) (h:SlE w A (.slice a0 ln cp) l) (hln:l.length=ln) (hl:l.length≤10000) (hs:l.Pairwise (fun a b=>a.cookie<b.cookie)) (h1:1≤n) (h2:n≤64) (hc:0≤cur) :
    Calls Tryz.prog 73 #[.slice a0 ln cp,.int .i64 cur,.int .i64 n] w (ReadF (readR l cur n) w):=by
  obtain ⟨W0,hW0⟩:∃ W0,((w.alloc (.cells #[.slice a0 ln cp] 83)).alloc (.cells #[.int .i64 cur] 2))=W0:=⟨_,rfl⟩
  have hf0:Fresh w W0:=by rw [← hW0];exact ((Fresh.refl _).alloc _).alloc _
  have b0:Blk W0 w.heap.size 83 #[.slice a0 ln cp]:=by rw [← hW0];exact (Blk.new _ _ _).keep ((Fresh.refl _).alloc _)
  have b1:Blk W0 (w.heap.size+1) 2 #[.int .i64 cur]:=by
    rw [← hW0]
    have:=Blk.new (w.alloc (.cells #[.slice a0 ln cp] 83)) 2 #[.int .i64 cur]
    rw [World.size_alloc] at this
    exact this
  have hd:decide (0≤cur)=true:=decide_eq_true hc
  have i1:¬ n<1:=by omega
  have i2:¬ 64<n:=by omega
  rcases SlE.cases h with ⟨rfl,a,c,hv⟩ | ⟨hl0,g,off,cap,hv,hcap,hA,hg,hcl⟩
  · obtain rfl:ln=0:=by simpa using hln.symm
    clear hv
    have HX:Hid (Calls Tryz.prog 129 #[.int .i64 0,.func (.func 130) #[] #[.pointer (some ⟨w.heap.size,0,none⟩),.pointer (some ⟨w.heap.size+1,0,none⟩)]] W0 (SearchG (fun _=>true) 0 W0)):=Lib.hid (search_any 0 (by omega) 130 #[] #[.pointer (some ⟨w.heap.size,0,none⟩),.pointer (some ⟨w.heap.size+1,0,none⟩)] (fun i=>true) W0 ⟨enters_read1,fun W hW i hi=>by omega⟩)
    have d0:W0.cell? ⟨w.heap.size,0,none⟩=some (.slice a0 0 cp):=b0.cell 0
    have d1:W0.cell? ⟨w.heap.size+1,0,none⟩=some (.int .i64 cur):=b1.cell 0
    have H0:=Lib.hid (And.intro hf0 (And.intro b0 b1))
    obtain ⟨nn,rfl⟩:=Int.eq_ofNat_of_zero_le (show 0≤n by omega)
    have hR:Hid (readR [] cur (nn:Int)=([],cur,0)):=Lib.hid (by
      unfold readR
      rw [if_neg (by omega),if_neg (by omega)]
      simp)
    have hhi:min (nn:Int) 0=0:=by omega
    clear hf0 b0 b1 h hln hs hl
    cases a0
    case' some ad=>rcases Decidable.em (cp=0) with rfl | hcz
    all_goals
      go_enter Tryz.func73,Tryz.ntmps73
      go_wp2_with fail
      refine (valid_any cur _).mono ?_
      rintro e w2 ⟨rfl,rfl⟩
      rw [hd]
      clear hd
      go_wp2_with fail
      refine HX.out.mono ?_
      rintro e w3 ⟨k,rfl,hk,hk1,hk2,hf3⟩
      obtain rfl:k=0:=by omega
      have e0:w3.cell? ⟨w.heap.size,0,none⟩=some (.slice _ 0 _):=(H0.out.2.1.keep hf3).cell 0
      have HF3:=Lib.hid hf3
      clear hk1 hk2 hf3 d0 d1 hW0 hk
      go_wp2_with fail
      refine (cloneE_any (fun _=>True) (.slice _ 0 _) [] w3 ⟨by simp [ecs],_,_,rfl,Nat.zero_le _,.inl rfl⟩ (by simp)).mono ?_
      rintro e w4 ⟨v5,rfl,ho5,hf5⟩
      obtain ⟨a5,c5,rfl⟩:=ho5.shape
      simp only [List.length_nil]
      have g1:w4.cell? ⟨w.heap.size+1,0,none⟩=some (.int .i64 cur):=((H0.out.2.2.keep HF3.out).keep hf5).cell 0
      have HF5:=Lib.hid (HF3.out.trans hf5)
      clear hf5 ho5 e0
      go_wp2_with fail
      go_quiet (fail)
      all_goals
        go_wp2
        go_ret3
        rw [hR.out]
        exact ⟨a5,c5,rfl,⟨by simp [ecs],_,_,rfl,Nat.zero_le _,.inl rfl⟩,(H0.out.1.trans HF5.out).drewN _⟩
  · rw [hln] at hv
    injection hv with hv1 _ hv2
    subst hv1 hv2
    have HX:=Lib.hid (search_any ln (by omega) 130 #[] #[.pointer (some ⟨w.heap.size,0,none⟩),.pointer (some ⟨w.heap.size+1,0,none⟩)] (fun i=>decide (cur<(l.getD i ent0).cookie)) W0 ⟨enters_read1,fun W hW i hi=>by
      have c:=(hcl i (by omega)).2.2.2.1
      have hgi:(l.getD i ent0)=l[i]'(by omega):=by rw [List.getD_eq_getElem?_getD,List.getElem?_eq_getElem (by omega)];rfl
      show Calls _ _ _ W fun en W'=>en=Ending.returned (Value.bool (decide (cur<(l.getD i ent0).cookie)))∧Fresh W W'
      rw [hgi]
      exact read1_any g off ln cp i w.heap.size (w.heap.size+1) _ cur W hi (by omega) ((b0.keep hW).cell 0) ((b1.keep hW).cell 0) ((Below.cell (hf0.trans hW) (p:=⟨g,off+i * 5+3,none⟩) hg).trans c)⟩)
    have d0:W0.cell? ⟨w.heap.size,0,none⟩=some (.slice (some ⟨g,off,none⟩) ln cp):=b0.cell 0
    have d1:W0.cell? ⟨w.heap.size+1,0,none⟩=some (.int .i64 cur):=b1.cell 0
    have H0:=Lib.hid (And.intro hf0 (And.intro b0 (And.intro b1 (And.intro h (And.intro hs hcl)))))
    have HLN:=Lib.hid hln
    clear hf0 b0 b1 h hs hcl hln
    go_enter Tryz.func73,Tryz.ntmps73
    go_wp2_with fail
    refine (valid_any cur _).mono ?_
    rintro e w2 ⟨rfl,rfl⟩
    rw [hd]
    clear hd
    go_wp2_with fail
    refine HX.out.mono ?_
    rintro e w3 ⟨k,rfl,hk,hk1,hk2,hf3⟩
    have HTL:Hid (l.filter (fun e=>decide (cur<e.cookie))=l.drop k):=Lib.hid (by
      have hln:=HLN.out
      refine tail_filter H0.out.2.2.2.2.1 (by omega) (fun h h2=>?_) (fun h=>?_)
      · have a:=hk1 h
        simp only at a
        rw [List.getD_eq_getElem?_getD,List.getElem?_eq_getElem h2] at a
        simpa using a
      · have a:=hk2 (by omega)
        simp only at a
        rw [List.getD_eq_getElem?_getD,List.getElem?_eq_getElem h] at a
        simpa using a)
    have e0:w3.cell? ⟨w.heap.size,0,none⟩=some (.slice (some ⟨g,off,none⟩) ln cp):=(H0.out.2.1.keep hf3).cell 0
    have e1:w3.cell? ⟨w.heap.size+1,0,none⟩=some (.int .i64 cur):=(H0.out.2.2.1.keep hf3).cell 0
    have HF3:=Lib.hid hf3
    clear hk1 hk2 hf3 d0 d1 hW0
    obtain ⟨nn,rfl⟩:=Int.eq_ofNat_of_zero_le (show 0≤n by omega)
    have hlnb:ln≤10000∧ln≤cp:=by have:=HLN.out;omega
    by_cases hkl:k<ln
    · obtain ⟨hi,hhi,hik,hil,him⟩:∃ hi:Nat,min ((k:Int)+(nn:Int)) (ln:Int)=(hi:Int)∧k<hi∧hi≤ln∧hi - k=min nn (ln - k):=⟨min (k+nn) ln,by omega,by omega,by omega,by omega⟩
      have HIM:=Lib.hid him
      have j1:(hi:Int)≤(cp:Int):=by omega
      have j2:(k:Int)≤(hi:Int):=by omega
      have j3:¬ cp=k:=by omega
      clear him
      go_wp2_with fail
      obtain ⟨q,hq⟩:∃ q,hi - k=q+1:=⟨hi - k - 1,by omega⟩
      have HQ:=Lib.hid hq
      have j4:(q:Int)≤10000:=by omega
      have j5:(0:Int)≤(q:Int):=by omega
      have HSB:=Lib.hid (SlE.fresh (SlE.sub (k:=k) (m:=q+1) (cap':=cp - k) H0.out.2.2.2.1 (by have:=HLN.out;omega) (by omega)) (H0.out.1.trans HF3.out))
      have HXL:Hid (((l.drop k).take (q+1)).length=q+1):=Lib.hid (by have:=HLN.out;simp;omega)
      obtain ⟨x,hx⟩:∃ x,(l.drop k).take (q+1)=x:=⟨_,rfl⟩
      rw [hx] at HSB HXL
      have HXX:=Lib.hid hx
      rw [hq]
      clear hq hx hhi j1 j2
      refine (cloneE_any A _ x w3 HSB.out (by have:=HXL.out;have:=HQ.out;omega)).mono ?_
      rintro e w4 ⟨v5,rfl,ho5,hf5⟩
      rcases SlE.cases (OwnE.sl ho5) with ⟨h0,_⟩ | ⟨_,g5,o5,c5,rfl,hc5,hA5,hg5,hcl5⟩
      · have:=HXL.out;rw [h0] at this;simp at this
      · have HO5:=Lib.hid (And.intro ho5 hcl5)
        have hxl:=HXL.out
        rw [hxl]
        have d3:w4.cell? ⟨g5,o5+q * 5+3,none⟩=some (.int .i64 (x[q]'(by omega)).cookie):=(hcl5 q (by omega)).2.2.2.1
        have f1:w4.frozen? ⟨w.heap.size+1,0,none⟩=false:=((H0.out.2.2.1.keep HF3.out).keep hf5).frozen 0
        have g1:w4.cell? ⟨w.heap.size+1,0,none⟩=some (.int .i64 cur):=((H0.out.2.2.1.keep HF3.out).keep hf5).cell 0
        have HF5:=Lib.hid (HF3.out.trans hf5)
        obtain ⟨ck,hck⟩:∃ ck,(x[q]'(by omega)).cookie=ck:=⟨_,rfl⟩
        rw [hck] at d3
        have HCK:Hid ((x.getLast?.map (·.cookie)).getD cur=ck):=Lib.hid (by
          rw [List.getLast?_eq_getElem?,hxl,Nat.add_sub_cancel,List.getElem?_eq_getElem (by omega)]
          exact hck)
        clear hf5 ho5 hcl5 hxl hck e0 e1
        go_wp2_with fail
        go_quiet (fail)
        all_goals
          go_wp2
          go_ret3
          have hR:readR l cur (nn:Int)=(x,ck,0):=by
            have hln:=HLN.out
            have him:=HIM.out
            have hq:=HQ.out
            have htk:(l.drop k).take nn=x:=by
              rw [← HXX.out]
              by_cases hc:nn≤ln - k
              · rw [show q+1=nn by omega]
              · rw [List.take_of_length_le (by simp;omega),List.take_of_length_le (by simp;omega)]
            unfold readR
            rw [if_neg (by omega),if_neg (by omega),HTL.out,Int.toNat_natCast,htk,HCK.out]
          rw [hR]
          have z1:=H0.out.2.2.1.lt
          have z3:=HF3.out.size
          have z0:=H0.out.1.size
          have u6:Mut (fun j=>j=w.heap.size+1) w4 ((w4.setCell ⟨w.heap.size+1,0,none⟩ (.int .i64 ck)).drewN nq):=((Mut.refl (fun j=>j=w.heap.size+1) w4).setCell (p:=⟨w.heap.size+1,0,none⟩) (.inl rfl) _).drewN nq
          have s6:SlE ((w4.setCell ⟨w.heap.size+1,0,none⟩ (.int .i64 ck)).drewN nq) (fun g=>w3.heap.size≤g) _ x:=SlG.mut (OwnE.sl HO5.out.1) u6 (fun g hg e=>by omega)
          refine ⟨some ⟨g5,o5,none⟩,c5,by simp only [HXL.out];rfl,SlG.mono s6 (fun g _ hg=>by omega),(H0.out.1.trans HF5.out).mut2 u6 (fun j hj=>by omega)⟩
    · obtain rfl:k=ln:=by omega
      have hR:Hid (readR l cur (nn:Int)=([],cur,0)):=Lib.hid (by
        have hln:=HLN.out
        unfold readR
        rw [if_neg (by omega),if_neg (by omega),HTL.out,List.drop_of_length_le (by omega)]
        simp)
      have hhi:min ((k:Int)+(nn:Int)) (k:Int)=(k:Int):=by omega
      have j1:(k:Int)≤(cp:Int):=by omega
      have hk0:k ≠ 0:=by have:=HLN.out;omega
      by_cases j3:cp=k
      all_goals
        go_wp2_with fail
        refine (cloneE_any (fun _=>True) (.slice _ 0 _) [] w3 ⟨by simp [ecs],_,_,rfl,Nat.zero_le _,.inl rfl⟩ (by simp)).mono ?_
        rintro e w4 ⟨v5,rfl,ho5,hf5⟩
        obtain ⟨a5,c5,rfl⟩:=ho5.shape
        simp only [List.length_nil]
        have g1:w4.cell? ⟨w.heap.size+1,0,none⟩=some (.int .i64 cur):=((H0.out.2.2.1.keep HF3.out).keep hf5).cell 0
        have HF5:=Lib.hid (HF3.out.trans hf5)
        clear hf5 ho5 e0 e1
        go_wp2_with fail
        go_quiet (fail)
        all_goals
          go_wp2
          go_ret3
          rw [hR.out]
          exact ⟨a5,c5,rfl,⟨by simp [ecs],_,_,rfl,Nat.zero_le _,.inl rfl⟩,(H0.out.1.trans HF5.out).drewN _⟩
theorem readR_le (l:List Ent) (cur n:Int):(readR l cur n).1.length≤64:=by
  unfold readR
  split
  · simp
  · split
    · simp
    · have:=List.length_take_le n.toNat (l.filter fun e=>decide (cur<e.cookie))
      simp only
      omega
theorem cread_any (A:Nat→Prop) (l:List Ent) (h:SlE w A (.slice a0 ln cp) l) (hln:l.length=ln) (hl:l.length≤10000) (hs:l.Pairwise (fun a b=>a.cookie<b.cookie)) :
    Calls Tryz.prog 73 #[.slice a0 ln cp,.int .i64 cur,.int .i64 n] w (ReadF (readR l cur n) w):=by
  by_cases h1:n<1∨64<n
  · have hR:readR l cur n=([],0,1):=by unfold readR;rw [if_pos h1]
    rw [hR]
    exact cread_arg a0 ln cp cur n w h1
  · by_cases hc:cur<0
    · have hR:readR l cur n=([],0,14):=by unfold readR;rw [if_neg h1,if_pos hc]
      rw [hR]
      exact cread_cur a0 ln cp cur n w (by omega) (by omega) hc
    · exact cread_main a0 ln cp cur n w A l h hln hl hs (by omega) (by omega) (by omega)
end
end Go.Proofs.YtpmlggjhfiljmaaGreatDoor
namespace Go.Proofs.YtpmlggjhfiljmaaGreatDoor
open Go.RowKit
theorem step_append_part {ops:Array Oper} {o:Oper} {a:Act} {w:World} {K:Act→World→Prop} {Q:Exit→Act→World→Prop} {E:Prop} (hg:o.guard=none) (s x:Operand)
    (ho:o.op=.call { callee:=.builtin .append,args:=#[s,x],argTypes:=#[83,83] })
    (A:Nat→Prop) (g n cap:Nat) (xs:List Value) (hown:OwnA w A 88 5 (.slice (some ⟨g,0,none⟩) n cap) n xs) (ad:Addr) (m c:Nat) (news:List Value)
    (hs:a.eval s=.slice (some ⟨g,0,none⟩) n cap) (hx:a.eval x=.slice (some ad) m c) (hl:news.length=m * 5) (hn:∀ j u,news[j]?=some u→w.cell? (ad.add j)=some u) (h1:∀ u ∈ news,u.oneCell'=true) (hroom:n+m≤cap)
    (hK:∀ w',OwnA w' A 88 5 (.slice (some ⟨g,0,none⟩) (n+m) cap) (n+m) (xs++news)→Mut (fun k=>k=g) w w'→K (a.put o.dst (.slice (some ⟨g,0,none⟩) (n+m) cap)) w') :
    if Region.wanted o (yielded ops a.tmps)=true then Oper.wp Tryz.prog o a w K Q else E:=by
  have hw:Region.wanted o (yielded ops a.tmps)=true:=by simp [Region.wanted,hg]
  rw [if_pos hw]
  obtain ⟨i0,hi0,hz0,hz1,hz2⟩:=info_partsG infoEnt
  obtain ⟨w',hrun,r1,r2⟩:=run_append_fits (P:=Tryz.prog) w 0 83 o.type 88 i0 5 Tryz.underlying83 hi0 hz1 g n cap xs hown.1 ad m c news hl hn h1 hroom
  unfold Oper.wp
  simp [execOp,ho,resolve,invoke,builtin,hs,hx,hrun,Result.andThen]
  exact hK w' ⟨r1,fun g' hg'=>hown.2 g' hg'⟩ ⟨r2.os,r2.tape,r2.output,r2.size,fun k hk hn=>r2.block k hk (fun e=>hn (Option.some.inj e))⟩
theorem OwnE.shrink {w:World} {A:Nat→Prop} {g c:Nat} {l:List Ent} (h:OwnE w A (.slice (some ⟨g,0,none⟩) l.length c) l) {m:Nat} (hm:m≤l.length):OwnE w A (.slice (some ⟨g,0,none⟩) m c) (l.take m):=by
  obtain ⟨⟨h1,⟨h2,_⟩ | ⟨g',cap,cur,hv,hb,hh,q1,q2,q3,q4⟩⟩,hA⟩:=h
  · cases h2
  · injection hv with hv1 hv2 hv3
    injection hv1 with hv1
    injection hv1 with hv1
    subst hv1 hv3
    have hl:(l.take m).length=m:=by simp;omega
    unfold OwnE
    rw [hl,ecs_take,← q4,List.take_take]
    refine ⟨⟨by rw [List.length_take,Array.length_toList];show min (min (m * 5) (l.length * 5)) cur.size=m * 5;rw [q3];omega,.inr ⟨g,c,cur,rfl,hb,hh,by omega,q2,q3,?_⟩⟩,hA⟩
    congr 1
    omega
theorem OwnA.beyond {w:World} {A:Nat→Prop} {e:TypeId} {sz n g c:Nat} {xs:List Value} (h:OwnA w A e sz (.slice (some ⟨g,0,none⟩) n c) n xs) {j:Nat} (hj:n * sz≤j) (u:Value):OwnA (w.setCell ⟨g,j,none⟩ u) A e sz (.slice (some ⟨g,0,none⟩) n c) n xs:=by
  obtain ⟨⟨h1,⟨h2,_⟩ | ⟨g',cap,cur,hv,hb,hh,q1,q2,q3,q4⟩⟩,hA⟩:=h
  · cases h2
  · injection hv with hv1 hv2 hv3
    injection hv1 with hv1
    injection hv1 with hv1
    subst hv1 hv3
    refine ⟨⟨h1,.inr ⟨g,c,cur.setIfInBounds j u,rfl,hb,Blk.set (show Blk w g e cur from hh),q1,q2,by simpa using q3,?_⟩⟩,hA⟩
    rw [Array.toList_setIfInBounds,List.take_set,List.set_eq_of_length_le (by rw [q4,h1];exact hj)]
    exact q4
set_option maxRecDepth 100000 in
theorem zeroEnt (w:World):(zeroValue 88).run Tryz.prog w=.ok (.agg #[.string ⟨#[]⟩,.int .i64 0,.bool false,.int .i64 0,.int .i64 0]) w:=by kernel_rfl
def zeros5:List Value:=[.string ⟨#[]⟩,.int .i64 0,.bool false,.int .i64 0,.int .i64 0]
set_option maxRecDepth 100000 in
theorem clear_ent {A:Nat→Prop} {g q c cc:Nat} {xs:List Value} {w:World} (h:OwnA w A 88 5 (.slice (some ⟨g,0,none⟩) q c) q xs) (hc:q+1≤c) :
    (Builtin.clear_ #[83] 0 #[.slice (some ⟨g,q * 5,none⟩) 1 cc]).run Tryz.prog w=.ok (.tuple #[]) (w.setCells g (q * 5) zeros5):=by
  obtain ⟨⟨h1,⟨h2,_⟩ | ⟨g',cap,cur,hv,hb,hh,q1,q2,q3,q4⟩⟩,hA⟩:=h
  · cases h2
  · injection hv with hv1 hv2 hv3
    injection hv1 with hv1
    injection hv1 with hv1
    subst hv1 hv3
    have hB:Blk w g 88 cur:=hh
    have hst:=run_storeCells_cells (P:=Tryz.prog) g (q * 5) zeros5 0 w (fun j hj=>by
      rw [hB.cell]
      have:q * 5+0+j<cur.size:=by have:j<5:=hj;omega
      rw [Array.getElem?_eq_getElem this];rfl) (fun j hj=>hB.frozen _) (fun v hv=>by simp [zeros5] at hv;rcases hv with rfl | rfl | rfl | rfl | rfl <;> rfl)
    simp only [Nat.add_zero] at hst
    have hz:(Builtin.zeroCells #[.string ⟨#[]⟩,.int .i64 0,.bool false,.int .i64 0,.int .i64 0] 1).toList=zeros5:=by kernel_rfl
    simp [Builtin.clear_,run_underlying Tryz.underlying83,zeroEnt,Value.cells,hz,hst]
theorem OwnA.cleared {A:Nat→Prop} {g q c:Nat} {xs:List Value} {w:World} (h:OwnA w A 88 5 (.slice (some ⟨g,0,none⟩) q c) q xs):OwnA (w.setCells g (q * 5) zeros5) A 88 5 (.slice (some ⟨g,0,none⟩) q c) q xs∧Mut (fun k=>k=g) w (w.setCells g (q * 5) zeros5):=by
  unfold zeros5
  simp only [World.setCells]
  refine ⟨((((h.beyond (by omega) _).beyond (by omega) _).beyond (by omega) _).beyond (by omega) _).beyond (by omega) _,?_⟩
  exact (((((Mut.refl (fun k=>k=g) w).setCell (p:=⟨g,q * 5,none⟩) (.inl rfl) _).setCell (p:=⟨g,q * 5+1,none⟩) (.inl rfl) _).setCell (p:=⟨g,q * 5+1+1,none⟩) (.inl rfl) _).setCell (p:=⟨g,q * 5+1+1+1,none⟩) (.inl rfl) _).setCell (p:=⟨g,q * 5+1+1+1+1,none⟩) (.inl rfl) _
set_option maxRecDepth 100000 in
set_option maxHeartbeats 3200000 in
theorem deleteE_any (A:Nat→Prop) (g c:Nat) (l:List Ent) (i:Nat) (w:World) (h:OwnE w A (.slice (some ⟨g,0,none⟩) l.length c) l) (hi:i<l.length) (hl:l.length≤100000) :
    Calls Tryz.prog 385 #[.slice (some ⟨g,0,none⟩) l.length c,.int .i64 i,.int .i64 ((i+1:Nat):Int)] w fun e w'=>e=.returned (.slice (some ⟨g,0,none⟩) (l.length - 1) c)∧OwnE w' A (.slice (some ⟨g,0,none⟩) (l.length - 1) c) (l.take i++l.drop (i+1))∧Mut (fun k=>k=g) w w':=by
  have hcap:l.length≤c:=by
    obtain ⟨⟨h1,⟨h2,_⟩ | ⟨g',cap,cur,hv,hb,hh,q1,q2,q3,q4⟩⟩,hA⟩:=h
    · cases h2
    · injection hv with hv1 hv2 hv3;omega
  have H:=Lib.hid h
  obtain ⟨n,hn⟩:∃ n,l.length=n:=⟨_,rfl⟩
  have HN:=Lib.hid hn
  rw [hn] at hi hl hcap ⊢
  have i0:(0:Int)≤(i:Int):=by omega
  have i1:((i+1:Nat):Int)≤(n:Int):=by omega
  have i2:(i:Int)≤((i+1:Nat):Int):=by omega
  have i3:(n:Int)≤(c:Int):=by omega
  have i4:((i:Int) == ((i+1:Nat):Int))=false:=by rw [beq_eq_false_iff_ne];omega
  clear h hn
  by_cases hci:c=i+1
  · obtain rfl:n=i+1:=by omega
    subst hci
    go_enter Tryz.func385,Tryz.ntmps385
    go_wp2_with fail
    have HS:Hid (OwnA w A 88 5 (.slice (some ⟨g,0,none⟩) i (i+1)) i (ecs (l.take i))):=Lib.hid (by
      have hn:=HN.out
      have x:=OwnE.shrink (m:=i) H.out (by omega)
      unfold OwnE at x
      rw [show (l.take i).length=i by simp;omega] at x
      exact x)
    have HD:Hid (l.drop (i+1)=[]):=Lib.hid (List.drop_eq_nil_of_le (by have:=HN.out;omega))
    have q4:(i:Int)≤(i:Int)+1:=by omega
    have q5:(0:Int)≤(i:Int)+1:=by omega
    go_region_law (refine step_append_part rfl (.tmp 22) (.tmp 25) rfl A g i (i+1) (ecs (l.take i)) (HS.out.fresh (by repeat (first | exact Fresh.refl _ | refine Fresh.drew ?_))) ⟨g,0,none⟩ 0 0 [] (by simp [Act.eval,Act.put]) (by simp [Act.eval,Act.put]) rfl (fun j u hj=>by simp at hj) (fun u hu=>by simp at hu) (by omega) ?_;intro w2 ho2 hu2)
    all_goals
      have hh2:=Lib.hid ho2
      have HC:=Lib.hid (ho2.cleared)
      have hcl:(Builtin.clear_ #[83] 0 #[.slice (some ⟨g,i * 5,none⟩) 1 1]).run Tryz.prog w2=.ok (.tuple #[]) (w2.setCells g (i * 5) zeros5):=clear_ent ho2 (by omega)
      clear ho2
      have k6:i+1 - i=1:=by omega
      go_wp2
      go_ret
      refine ⟨rfl,?_,?_⟩
      · have x:=HC.out.1
        rw [HD.out,List.append_nil]
        unfold OwnE
        rw [show (l.take i).length=i by have:=HN.out;simp;omega]
        simp only [Nat.add_zero,List.append_nil] at x
        exact x
      · exact ((Mut.refl _ w).drew.trans hu2).trans HC.out.2
  · go_enter Tryz.func385,Tryz.ntmps385
    go_wp2_with fail
    have HS:Hid (OwnA w A 88 5 (.slice (some ⟨g,0,none⟩) i c) i (ecs (l.take i))):=Lib.hid (by
      have hn:=HN.out
      have x:=OwnE.shrink (m:=i) H.out (by omega)
      unfold OwnE at x
      rw [show (l.take i).length=i by simp;omega] at x
      exact x)
    have HL:Hid ((ecs (l.drop (i+1))).length=(n - (i+1)) * 5):=Lib.hid (by rw [ecs_len,List.length_drop,HN.out])
    have HNW:Hid (∀ j u,(ecs (l.drop (i+1)))[j]?=some u→w.cell? ((⟨g,(i+1) * 5,none⟩:Addr).add j)=some u):=Lib.hid (fun j u hj=>by
      rw [ecs_drop,List.getElem?_drop] at hj
      have x:=H.out.1.cells (g:=g) rfl ((i+1) * 5+j) u hj
      rw [Addr.add_lit,Nat.zero_add] at x
      rw [Addr.add_lit]
      exact x)
    have k1:i≤c:=by omega
    have k2:i+1≤n:=by omega
    have k3:(i:Int)+1≤(n:Int):=by omega
    have k4:(i:Int)≤(c:Int):=by omega
    have k5:(0:Int)≤(i:Int)+1:=by omega
    go_region_law (refine step_append_part rfl (.tmp 22) (.tmp 25) rfl A g i c (ecs (l.take i)) (HS.out.fresh (by repeat (first | exact Fresh.refl _ | refine Fresh.drew ?_))) ⟨g,(i+1) * 5,none⟩ (n - (i+1)) (c - (i+1)) (ecs (l.drop (i+1))) (by simp [Act.eval,Act.put]) (by simp [Act.eval,Act.put]) HL.out HNW.out (ec_one _) (by omega) ?_;intro w2 ho2 hu2)
    all_goals
      rw [show i+(n - (i+1))=n - 1 by omega] at ho2 ⊢
      have hh2:=Lib.hid ho2
      have HC:=Lib.hid (ho2.cleared)
      have hcl:(Builtin.clear_ #[83] 0 #[.slice (some ⟨g,(n - 1) * 5,none⟩) (n - (n - 1)) (c - (n - 1))]).run Tryz.prog w2=.ok (.tuple #[]) (w2.setCells g ((n - 1) * 5) zeros5):=by
        rw [show n - (n - 1)=1 by omega]
        exact clear_ent ho2 (by omega)
      clear ho2
      have k6:n - 1≤c:=by omega
      have k7:n≤c:=by omega
      have k8:n - 1≤n:=by omega
      have k9:((n - 1:Nat):Int)≤(n:Int):=by omega
      have k10:((n - 1:Nat):Int)≤(c:Int):=by omega
      have k11:(0:Int)≤((n - 1:Nat):Int):=by omega
      go_wp2
      go_ret
      refine ⟨rfl,?_,?_⟩
      · have x:=HC.out.1
        rw [← ecs_append] at x
        unfold OwnE
        rw [show (l.take i++l.drop (i+1)).length=n - 1 by have:=HN.out;simp;omega]
        exact x
      · exact ((Mut.refl _ w).drew.trans hu2).trans HC.out.2
open Go.RowKit
attribute [local go_sem ↓] Go.wp_at_zero Go.wp_at_succ
def dropT (T:TreS) (d:Int) (k:Nat):TreS:={ T with dirs:=fun i=>if i=d then some (((T.dirs d).getD []).take k++((T.dirs d).getD []).drop (k+1)) else T.dirs i }
theorem drop_fin {w w4 w6:World} {A Ap:Nat→Prop} {t gd gf pp q:Nat} {T:TreS} {d:Int} {k:Nat} {Md Mf:Int→Option Value} {v4:Value} {l:List Ent} (hApl:∀ k,Ap k→k<w.heap.size) (h1:Blk w t 159 #[.map (some gd),.map (some gf),.pointer (some ⟨pp,0,none⟩),.int .i64 T.next]) (h2:A t∧¬ Ap t) (h3:A gd∧¬ Ap gd) (h4:A gf∧¬ Ap gf) (h5:gd ≠ gf) (h6:MapAt w gd q Md) (h7:MapAt w gf q Mf)
    (h8:∀ i,Mf i=if T.files i=true then some (.int .i64 1) else none) (h9:∀ i l,T.dirs i=some l→∃ v,Md i=some v∧OwnE w (fun g=>A g∧¬ Ap g) v l) (h10:∀ i,T.dirs i=none→Md i=none) (h12:∀ k,Ap k→A k) (h11:PoolAt w Ap pp T.fr T.bk T.out q) (hl:T.dirs d=some l)
    (hf4:Fresh w w4) (o4:OwnE w4 (fun g=>w.heap.size≤g) v4 (l.take k++l.drop (k+1))) (m6:MapAt w6 gd (q+1) (fun i=>if i=d then some v4 else Md i)) (u6:Mut (fun j=>j=gd) w4 w6) :
    TreeAt w6 (ext A w w6) t (dropT T d k) (q+1)∧Mut A w w6:=by
  have hz4:=hf4.size
  have hz6:=u6.size
  have htd:t ≠ gd:=h1.neMap h6
  have hw4:MapAt w4 gd q Md:=h6.fresh hf4
  have hmu:Mut A w w6:=(hf4.mut A).trans2 u6 (fun _ h=>h) (fun j _ e=>by rw [e];exact h3.1)
  refine ⟨⟨gd,gf,pp,_,Mf,Ap,(h1.keep hf4).mut u6 htd,⟨.inl h2.1,h2.2⟩,⟨.inl h3.1,h3.2⟩,⟨.inl h4.1,h4.2⟩,h5,m6,((h7.fresh hf4).mut u6 (fun e=>h5 e.symm)).mono (by omega),h8,fun i l' hi=>?_,fun i hi=>?_,fun k hk=>.inl (h12 k hk),((h11.fresh hf4).mut u6 (fun k hk e=>h3.2 (e ▸ hk))).le (by omega)⟩,hmu⟩
  · unfold dropT at hi
    simp only [hl,Option.getD_some] at hi
    by_cases e:i=d
    · rw [if_pos e] at hi
      injection hi with hi
      subst hi
      refine ⟨v4,if_pos e,?_⟩
      have o6:OwnE w6 (fun g=>w.heap.size≤g) v4 _:=OwnA.mutB o4 u6 (fun g hg e=>OwnA.neMap o4 hw4 (by rw [hg,e]))
      exact OwnA.mono o6 (fun g hg hh=>⟨.inr ⟨by omega,hg⟩,fun q=>by have:=hApl g q;omega⟩)
    · rw [if_neg e] at hi
      obtain ⟨v,hv,ho⟩:=h9 i l' hi
      refine ⟨v,by rw [if_neg e];exact hv,?_⟩
      have oa:OwnE w4 _ v l':=OwnA.fresh ho hf4
      have o6:OwnE w6 _ v l':=OwnA.mutB oa u6 (fun g hg e=>OwnA.neMap oa hw4 (by rw [hg,e]))
      exact OwnA.mono o6 (fun g hg hh=>⟨.inl hh.1,hh.2⟩)
  · unfold dropT at hi
    simp only at hi
    by_cases e:i=d
    · rw [if_pos e] at hi;cases hi
    · rw [if_neg e] at hi;rw [if_neg e];exact h10 i hi
set_option maxRecDepth 100000 in
set_option maxHeartbeats 3200000 in
theorem tdrop_any (w:World) (A:Nat→Prop) (t:Nat) (T:TreS) (q:Nat) (h:TreeAt w A t T q) (d:Int) (hd:I64 d) (name:ByteArray) (k:Nat) (l:List Ent) (hl:T.dirs d=some l) (hll:l.length≤100000) (hk:fidx (nameB name) l=k) (hq:q≤1000000):Calls Tryz.prog 344 #[.pointer (some ⟨t,0,none⟩),.int .i64 d,.string name] w (PutPost A t (dropT T d k) (q+1) w):=by
  obtain ⟨gd,gf,pp,Md,Mf,Ap,hApl,h1,h2,h3,h4,h5,h6,h7,h8,h9,h10,h12,h11⟩:=h.open
  obtain ⟨v0,hv0,ho0⟩:=h9 d l hl
  have hkl:k<l.length:=by have:=fidx_lt (nameB name) l;omega
  have HH:=Lib.hid (fun (w4 w6:World) (v4:Value)=>drop_fin (w:=w) (w4:=w4) (w6:=w6) (v4:=v4) (k:=k) hApl h1 h2 h3 h4 h5 h6 h7 h8 h9 h10 h12 h11 hl)
  have c0:w.cell? ⟨t,0,none⟩=some (.map (some gd)):=by rw [h1.cell];rfl
  have htl:=h1.lt
  have htd:t ≠ gd:=h1.neMap h6
  have HCL:=Lib.hid (fun W (hW:Fresh w W)=>cloneE_any _ v0 l W ((OwnE.sl ho0).fresh hW) (by omega))
  obtain ⟨a0,cc0,rfl⟩:=ho0.shape
  have HV:=Lib.hid hv0
  have H6:=Lib.hid h6
  have HK:=Lib.hid hk
  clear h hApl h1 h4 h5 h7 h8 h9 h10 h12 h11 ho0 hv0 h6 hk
  go_enter Tryz.func344,Tryz.ntmps344
  go_wp2_with (at_lookup;refine wpList_lookI _ rfl _ _ 155 rfl 83 Tryz.underlying155 _ (zeroL _) gd q Md rfl H6.out d rfl hd (.slice a0 l.length cc0) (by rw [HV.out];rfl) ?_)
  refine (HCL.out _ (Fresh.refl _)).mono ?_
  rintro e w1 ⟨v1,rfl,ho1,hf1⟩
  have hlen:0<l.length:=by omega
  obtain ⟨g1,c1,rfl⟩:∃ g c,v1=.slice (some ⟨g,0,none⟩) l.length c:=by
    obtain ⟨⟨_,⟨h2,h3⟩ | ⟨g',cap,cur,hv,_⟩⟩,_⟩:=ho1
    · omega
    · exact ⟨_,_,hv⟩
  have HO1:=Lib.hid ho1
  have HF1:=Lib.hid hf1
  have HIX:=Lib.hid (tindex_any w1 _ _ l name (OwnE.sl ho1) (by omega))
  rw [HK.out] at HIX
  clear ho1 hf1
  go_wp2_with fail
  refine HIX.out.mono ?_
  rintro e w2 ⟨rfl,hf2⟩
  have HF2:=Lib.hid (HF1.out.trans hf2)
  have HO2:Hid (OwnE w2 (fun g=>w.heap.size≤g) (.slice (some ⟨g1,0,none⟩) l.length c1) l):=Lib.hid (OwnA.fresh HO1.out hf2)
  have c02:w2.cell? ⟨t,0,none⟩=some (.map (some gd)):=(Below.cell HF2.out (p:=⟨t,0,none⟩) htl).trans c0
  have HDE:Hid (∀ W,Fresh w2 W→Calls Tryz.prog 385 #[.slice (some ⟨g1,0,none⟩) l.length c1,.int .i64 k,.int .i64 ((k:Int)+1)] W fun e w'=>e=.returned (.slice (some ⟨g1,0,none⟩) (l.length - 1) c1)∧OwnE w' (fun g=>w.heap.size≤g) (.slice (some ⟨g1,0,none⟩) (l.length - 1) c1) (l.take k++l.drop (k+1))∧Mut (fun j=>j=g1) W w'):=Lib.hid (fun W hW=>by have x:=deleteE_any _ g1 c1 l k W (OwnA.fresh HO2.out hW) hkl hll;rw [show ((k+1:Nat):Int)=(k:Int)+1 by omega] at x;exact x)
  have n1:t ≠ g1:=fun e=>by have:=HO1.out.2 g1 rfl;omega
  have HG1:Hid (w.heap.size≤g1):=Lib.hid (HO1.out.2 g1 rfl)
  clear hf2
  have k1:(k:Int)≤100000:=by omega
  have HWR:Hid (IntKind.i64.wrap ((k:Int)+1)=(k:Int)+1):=Lib.hid (by rw [IntKind.wrap_i64];omega)
  have k2:(0:Int)≤(k:Int):=by omega
  obtain ⟨n,hn⟩:∃ n,l.length=n:=⟨_,rfl⟩
  rw [hn] at HDE ⊢
  clear hn HCL HIX HV
  go_wp2_with fail
  go_region_held3 (fun W=>W.cell? ⟨t,0,none⟩=some (.map (some gd))) (first | assumption | exact c02) (first
    | (go_at_call 385;rw [HWR.out];refine (HDE.out _ (Fresh.refl _).drew).mono ?_;rintro en w4 ⟨rfl,o4,u4⟩;have hf4:Fresh w w4:=Fresh.mut2 HF2.out.drew u4 (fun j hj=>by rw [hj];exact HG1.out);obtain ⟨w6,hrun6,m6,u6,z6⟩:=(H6.out.fresh hf4).storeRun Tryz.underlying155 (by omega) hd (.slice (some ⟨g1,0,none⟩) (n - 1) c1);have hs4:w4.cell? ⟨t,0,none⟩=some (.map (some gd)):=(Below.cell hf4 (p:=⟨t,0,none⟩) htl).trans c0;have hs6:w6.cell? ⟨t,0,none⟩=some (.map (some gd)):=(u6.cell (p:=⟨t,0,none⟩) (by have:=hf4.size;show t<_;omega) htd).trans hs4))
  all_goals
    have HE:=Lib.hid (HH.out _ _ _ hf4 o4 m6 u6)
    clear o4 u4 m6 u6 hf4 hs4 hs6 hrun6
    go_wp2
    go_end0
    exact ⟨_,rfl,HE.out.1,HE.out.2,Gr.ext _ _ _⟩
end Go.Proofs.YtpmlggjhfiljmaaGreatDoor
namespace Go.Proofs.YtpmlggjhfiljmaaGreatDoor
def sw (l:List Int) (i j:Nat):List Int:=(l.set i (l.getD j 0)).set j (l.getD i 0)
theorem sw_len (l:List Int) (i j:Nat):(sw l i j).length=l.length:=by simp [sw]
theorem set_getD (l:List Int) (i k:Nat) (x:Int) (hi:i<l.length):(l.set i x).getD k 0=if k=i then x else l.getD k 0:=by
  rw [List.getD_eq_getElem?_getD,List.getElem?_set]
  by_cases e:k=i
  · subst e
    rw [if_pos rfl,if_pos rfl,if_pos hi];rfl
  · rw [if_neg (fun h=>e h.symm),if_neg e,List.getD_eq_getElem?_getD]
theorem sw_get {l:List Int} {i j:Nat} (hi:i<l.length) (hj:j<l.length) (k:Nat):(sw l i j).getD k 0=if k=j then l.getD i 0 else if k=i then l.getD j 0 else l.getD k 0:=by
  unfold sw
  rw [set_getD _ _ _ _ (by simpa using hj),set_getD _ _ _ _ hi]
theorem sw_perm {l:List Int} {i j:Nat} (hi:i<l.length) (hj:j<l.length):(sw l i j).Perm l:=by
  rw [List.perm_iff_count]
  intro b
  have ei:l.getD i 0=l[i]:=by rw [List.getD_eq_getElem?_getD,List.getElem?_eq_getElem hi];rfl
  have ej:l.getD j 0=l[j]:=by rw [List.getD_eq_getElem?_getD,List.getElem?_eq_getElem hj];rfl
  have hm:∀ k (hk:k<l.length),l[k]=b→1≤l.count b:=fun k hk e=>by
    have:=List.count_pos_iff.2 (e ▸ List.getElem_mem hk:b ∈ l)
    omega
  have q1:=hm i hi
  have q2:=hm j hj
  unfold sw
  rw [ei,ej]
  have hg:(l.set i l[j])[j]'(by simpa using hj)=l[j]:=by
    rw [List.getElem_set]
    split
    · rfl
    · rfl
  rw [List.count_set (by simpa using hj),List.count_set hi,hg]
  obtain ⟨x,hx⟩:∃ x,l[i]=x:=⟨_,rfl⟩
  obtain ⟨y,hy⟩:∃ y,l[j]=y:=⟨_,rfl⟩
  rw [hx] at q1 ⊢
  rw [hy] at q2 ⊢
  by_cases h1:x=b
  · have q:=q1 h1
    by_cases h2:y=b
    · simp [h1,h2];omega
    · simp [h1,h2];omega
  · by_cases h2:y=b
    · simp [h1,h2]
    · simp [h1,h2]
def HpFrom (l:List Int) (n s:Nat):Prop:=∀ c,1≤c→c<n→s≤(c - 1) / 2→l.getD ((c - 1) / 2) 0≤l.getD c 0
abbrev Hp (l:List Int):Prop:=HpFrom l l.length 0
theorem HpFrom.min {l:List Int} {n:Nat} (h:HpFrom l n 0):∀ k,k<n→l.getD 0 0≤l.getD k 0:=by
  intro k
  induction k using Nat.strongRecOn with
  | _ k ih =>
    intro hk
    by_cases e:k=0
    · subst e;exact Int.le_refl _
    · have a:=ih ((k - 1) / 2) (by omega) (by omega)
      have b:=h k (by omega) hk (Nat.zero_le _)
      omega
structure DownInv (l0 l:List Int) (n s i:Nat):Prop where
  perm:l.Perm l0
  high:∀ k,n≤k→l.getD k 0=l0.getD k 0
  le:n≤l.length
  si:s≤i
  h1:∀ c,1≤c→c<n→s≤(c - 1) / 2→(c - 1) / 2 ≠ i→l.getD ((c - 1) / 2) 0≤l.getD c 0
  h2:i ≠ s→s≤(i - 1) / 2∧1≤i∧∀ c,1≤c→c<n→(c - 1) / 2=i→l.getD ((i - 1) / 2) 0≤l.getD c 0
structure Downed (l0 l:List Int) (n s:Nat):Prop where
  perm:l.Perm l0
  high:∀ k,n≤k→l.getD k 0=l0.getD k 0
  hp:HpFrom l n s
theorem DownInv.start {l:List Int} {n s:Nat} (hn:n≤l.length) (h:HpFrom l n (s+1)):DownInv l l n s s :=
  ⟨List.Perm.refl _,fun _ _=>rfl,hn,Nat.le_refl _,fun c a b d e=>h c a b (by omega),fun e=>absurd rfl e⟩
theorem DownInv.leaf {l0 l:List Int} {n s i:Nat} (h:DownInv l0 l n s i) (hn:n≤2 * i+1):Downed l0 l n s :=
  ⟨h.perm,h.high,fun c a b d=>h.h1 c a b d (by omega)⟩
theorem DownInv.stop {l0 l:List Int} {n s i j:Nat} (h:DownInv l0 l n s i) (hj:(j - 1) / 2=i∧1≤j∧j<n) (hm:∀ c,1≤c→c<n→(c - 1) / 2=i→l.getD j 0≤l.getD c 0) (hl:¬ l.getD j 0<l.getD i 0):Downed l0 l n s :=
  ⟨h.perm,h.high,fun c a b d=>by
    by_cases e:(c - 1) / 2=i
    · have:=hm c a b e;rw [e];omega
    · exact h.h1 c a b d e⟩
theorem DownInv.step {l0 l:List Int} {n s i j:Nat} (h:DownInv l0 l n s i) (hj:(j - 1) / 2=i∧1≤j∧j<n) (hm:∀ c,1≤c→c<n→(c - 1) / 2=i→l.getD j 0≤l.getD c 0) (hl:l.getD j 0<l.getD i 0):DownInv l0 (sw l i j) n s j:=by
  obtain ⟨e1,e2,e3⟩:=hj
  have hij:i<j:=by omega
  have hn:=h.le
  have hi:i<l.length:=by omega
  have hjl:j<l.length:=by omega
  have G:=sw_get hi hjl
  refine ⟨(sw_perm hi hjl).trans h.perm,fun k hk=>?_,by rw [sw_len];exact hn,by have:=h.si;omega,fun c a b d e=>?_,fun _=>⟨by rw [e1];exact h.si,e2,fun c a b d=>?_⟩⟩
  · rw [G,if_neg (by omega),if_neg (by omega)];exact h.high k hk
  · rw [G,G,if_neg e]
    by_cases ep:(c - 1) / 2=i
    · rw [if_pos ep]
      by_cases ec:c=j
      · rw [if_pos ec];omega
      · rw [if_neg ec,if_neg (by omega)];exact hm c a b ep
    · rw [if_neg ep]
      by_cases ec:c=j
      · exact absurd (by rw [ec];exact e1) ep
      · rw [if_neg ec]
        by_cases ei:c=i
        · rw [if_pos ei]
          have hs:i ≠ s:=by intro q;rw [ei] at d;omega
          have:=(h.h2 hs).2.2 j e2 e3 e1
          rw [ei];exact this
        · rw [if_neg ei];exact h.h1 c a b d ep
  · rw [G,G,e1,if_neg (by omega),if_pos rfl,if_neg (by omega),if_neg (by omega)]
    have:=h.h1 c a b (by have:=h.si;omega) (by omega)
    rw [d] at this
    exact this
structure UpInv (l0 l:List Int) (j:Nat):Prop where
  perm:l.Perm l0
  lt:j<l.length
  h1:∀ c,1≤c→c<l.length→c ≠ j→l.getD ((c - 1) / 2) 0≤l.getD c 0
  h2:1≤j→∀ c,1≤c→c<l.length→(c - 1) / 2=j→l.getD ((j - 1) / 2) 0≤l.getD c 0
theorem UpInv.start {l:List Int} (h:HpFrom l (l.length - 1) 0) (hl:1≤l.length):UpInv l l (l.length - 1) :=
  ⟨List.Perm.refl _,by omega,fun c a b e=>h c a (by omega) (Nat.zero_le _),fun _ c a b d=>by omega⟩
theorem UpInv.stop {l0 l:List Int} {j:Nat} (h:UpInv l0 l j) (hs:j=0∨¬ l.getD j 0<l.getD ((j - 1) / 2) 0):Hp l:=fun c a b _=>by
  by_cases e:c=j
  · subst e
    rcases hs with hs | hs
    · omega
    · omega
  · exact h.h1 c a b e
theorem UpInv.step {l0 l:List Int} {j:Nat} (h:UpInv l0 l j) (h1:1≤j) (hl:l.getD j 0<l.getD ((j - 1) / 2) 0):UpInv l0 (sw l ((j - 1) / 2) j) ((j - 1) / 2):=by
  have hj:=h.lt
  obtain ⟨i,hi⟩:∃ i,(j - 1) / 2=i:=⟨_,rfl⟩
  rw [hi] at hl ⊢
  have hil:i<l.length:=by omega
  have G:=sw_get hil hj
  refine ⟨(sw_perm hil hj).trans h.perm,by rw [sw_len];exact hil,fun c a b e=>?_,fun hi1 c a b d=>?_⟩
  · rw [sw_len] at b
    rw [G,G]
    by_cases ec:c=j
    · rw [ec,hi,if_neg (by omega),if_pos rfl,if_pos rfl];omega
    · rw [if_neg ec,if_neg e]
      by_cases ep:(c - 1) / 2=j
      · rw [if_pos ep]
        have:=h.h2 h1 c a b ep
        rw [hi] at this
        exact this
      · rw [if_neg ep]
        by_cases ei:(c - 1) / 2=i
        · rw [if_pos ei]
          have:=h.h1 c a b ec
          rw [ei] at this
          omega
        · rw [if_neg ei];exact h.h1 c a b ec
  · rw [sw_len] at b
    have hp:=h.h1 i hi1 hil (by omega)
    rw [G,G,if_neg (by omega),if_neg (by omega)]
    by_cases ec:c=j
    · rw [if_pos ec];exact hp
    · rw [if_neg ec,if_neg (by omega)]
      have:=h.h1 c a b ec
      rw [d] at this
      omega
end Go.Proofs.YtpmlggjhfiljmaaGreatDoor
