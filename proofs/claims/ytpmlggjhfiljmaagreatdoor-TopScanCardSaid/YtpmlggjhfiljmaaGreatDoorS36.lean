/- Part 36 of what the law rests on. -/
import Derived.Test.YtpmlggjhfiljmaaGreatDoorS28
import Derived.Test.YtpmlggjhfiljmaaGreatDoorS30
import Derived.Test.YtpmlggjhfiljmaaGreatDoorS33
import Derived.Test.YtpmlggjhfiljmaaGreatDoorS34
import Derived.Test.YtpmlggjhfiljmaaGreatDoorS35
set_option linter.all false
namespace Go.Proofs.YtpmlggjhfiljmaaGreatDoor
open Go.RowKit
attribute [local go_sem ↓] Go.wp_at_zero Go.wp_at_succ
def NewS (T:TreS) (raw:ByteArray) (isDir:Bool) (q qt:Nat) (a b:Int) (k2 t2 q2:Nat) (T2:TreS) (qt2:Nat):Prop :=
  a=1∧b=0∧k2=1∧t2=2+kfr (raw.size+9)∧q2=q+kfr (raw.size+9)∧T2=linkT T 0 raw isDir 0 1 1 []∧qt2=qt+3
theorem newS_of {T:TreS} {raw:ByteArray} {isDir:Bool} {q qt:Nat} (h0:IsT0 T) (hg:GoodN raw) {a b:Int} {k2 t2 q2:Nat} {T2:TreS} {qt2:Nat}
    (h:MakeS (LinkS (RNew T) T 0 raw isDir 0 0 2 q qt) (0,raw,0) 0 2 q T qt a b k2 t2 q2 T2 qt2):NewS T raw isDir q qt a b k2 t2 q2 T2 qt2:=by
  have hd:T.dirs 0=some []:=by rw [h0.1];rfl
  rcases h with ⟨h,_⟩ | ⟨_,h⟩
  · exact absurd rfl h
  · rcases h with ⟨hb,ha,h,_⟩ | ⟨_,fr,bk,hr,hi,rfl,rfl,rfl,rfl,rfl,rfl⟩
    · exfalso
      rcases h with (⟨h,_⟩ | ⟨l,hl,h⟩) | ⟨_,_,k,fr,bk,hr,hk⟩
      · rw [hd] at h;cases h
      · rw [hd] at hl
        injection hl with hl
        subst hl
        rcases h with ⟨h,_⟩ | ⟨_,h,_⟩ | ⟨_,_,_,h,_⟩
        · exact h hg
        · exact h (by omega)
        · exact absurd h (by unfold fidx;decide)
      · have:=h0.first hr;omega
    · have e:=h0.first hr
      obtain ⟨_,e2,e3⟩:=hr
      subst e3
      rw [e] at e2
      subst e2
      subst e
      exact ⟨rfl,rfl,rfl,rfl,rfl,rfl,rfl⟩
theorem FdoG.mono {S S':Int→Int→Nat→Nat→Nat→TreS→Nat→Prop} {F:Nat→Prop} {f:Nat} {enc:Int} {p:Nat} {m n:Int} {w:World} {e:Ending} {w':World} (h:FdoG S F f enc p m n w e w') (hs:∀ a b k t q T qt,S a b k t q T qt→S' a b k t q T qt):FdoG S' F f enc p m n w e w':=by
  obtain ⟨a,b,k,t,q,T,qt,F',h1,h2⟩:=h
  exact ⟨a,b,k,t,q,T,qt,F',hs _ _ _ _ _ _ _ h1,h2⟩
theorem fmake_t0 (enc:Int) (F:Nat→Prop) (f p:Nat) (m n:Int) (q:Nat) (T:TreS) (qt:Nat) (w:World) (h:FsAt w F f enc p m n 0 2 q T qt) (hT:IsT0 T) (hqt:qt≤10) (s raw:ByteArray) (hs:PathN s) (hr:rawF enc s=(raw,0)) (hg:GoodN raw) (isDir:Bool) (hGT:GT w)
    (h0:0≤enc) (h8:enc≤8) (hm:0≤m∧m+m≤n) (hn:n≤1000000) (hfit:7≤m) (hq:q≤70000) :
    Calls Tryz.prog 29 #[.pointer (some ⟨f,0,none⟩),.string (slashS++s),.bool isDir] w (FdoG (NewS T raw isDir q qt) F f enc p m n w):=by
  have hB:=TB.t0 hT (qt:=qt) (by omega)
  have hfr:freshR enc T (slashS++s)=(0,raw,0):=by rw [freshR_one hs (by rw [hT.root];rfl),hr]
  have hsz:=hs.2.1
  have H:=fmake_any (LinkS (RNew T) T 0 raw isDir 0 0 2 q qt) F f enc p m n 0 2 q T qt w h (TOK.t0 hT) hGT (slashS++s) isDir (by rw [slash_size];omega) h0 h8 (fun _ W Fs s' _ hst=>by
    rw [hfr]
    exact sdo_link (RNew T) Fs s' p m n 0 2 q T qt W hst (hT.takes (by omega)) (fun i fr bk hR=>by rw [hR.2.2];simp) 0 raw isDir 0 (by omega) (by omega) hg.2.1 hB (by omega) (fun i l hl=>by
      rw [hT.1] at hl
      split at hl
      · injection hl with hl;subst hl;simp
      · cases hl) (by rw [hT.2.1];omega) hm hn (by omega) (by omega) hq (by omega))
  rw [hfr] at H
  exact H.mono fun e w' h'=>(h'.fdo h hB).mono fun a b k2 t2 q2 T2 qt2 hS=>newS_of hT hg hS
theorem rawF_a:rawF 4 ⟨#[97]⟩=(⟨#[97]⟩,0):=by decide +kernel
theorem pathN_a:PathN ⟨#[97]⟩:=⟨by decide,by decide,by decide,by decide,by decide⟩
theorem good_a:GoodN ⟨#[97]⟩:=(goodB_iff _).1 (by decide +kernel)
set_option maxRecDepth 100000 in
set_option maxHeartbeats 3200000 in
theorem awake_any (w:World) (hGT:GT w):Calls Tryz.prog 8 #[] w fun e w'=>e=.returned (.bool true)∧Fresh w w':=by
  have HST:=Lib.hid (fun W=>start_any 30 4 15 rfl (by omega) (by omega) (by omega) (by omega) W)
  have HDO:=Lib.hid (fun F g p T qt W (h:TrlAt W F g 4 0 p 15 30 0 2 5 T qt) (hT:IsT0 T) (hq:qt≤10) (hgt:GT W) (hF3:¬ F 3)=>tdo_make (NewS T ⟨#[97]⟩ true 5 qt) ⟨#[47,97]⟩ ⟨#[]⟩ true 0 0 F g 4 0 (by omega) p 15 30 0 2 5 T qt W h (fun W' Ff f hmu hfs=>fmake_t0 4 Ff f p 15 30 5 T qt W' hfs hT hq ⟨#[97]⟩ ⟨#[97]⟩ pathN_a rawF_a good_a true (hgt.mut hmu hF3) (by omega) (by omega) (by omega) (by omega) (by omega) (by omega)))
  have hfd:∀ w:World,(Instr.field 40 (.agg #[.int .i64 0,.int .i64 1,.bool false,.string ⟨#[]⟩,.slice none 0 0,.int .i64 0]) 1).run Tryz.prog w=.ok (.int .i64 1) w:=fun _=>by kernel_rfl
  go_enter Tryz.func8,Tryz.ntmps8
  go_wp2_with fail
  refine (HST.out _).mono ?_
  rintro e w1 ⟨g,p,T,qt,F,rfl,htr,hT0,hqt,hf1,hF⟩
  have H1:=Lib.hid (And.intro htr (And.intro hT0 (And.intro hqt (And.intro hf1 hF))))
  clear htr hT0 hqt hf1 hF
  go_wp2_with fail
  refine (HDO.out F g p T qt _ H1.out.1 H1.out.2.1 H1.out.2.2.1 (hGT.fresh H1.out.2.2.2.1) (fun h=>by have:=H1.out.2.2.2.2 _ h;have:=hGT.2;omega)).mono ?_
  rintro e w2 ⟨a,b,k,t,q,T2,qt2,F',⟨rfl,rfl,_⟩,rfl,htr,hTB,hm,hg⟩
  have HF:Hid (Fresh w w2):=Lib.hid (H1.out.2.2.2.1.mut2 hm H1.out.2.2.2.2)
  clear htr hTB hm hg
  unfold ansV
  go_wp2
  go_ret
  exact ⟨rfl,HF.out⟩
end Go.Proofs.YtpmlggjhfiljmaaGreatDoor
namespace Go.Proofs.YtpmlggjhfiljmaaGreatDoor
open Go.RowKit
theorem dirs_inL {L:List Item} {T:TreS} {enc:Int} (h:TR enc L T) {d:Int} {l:List Ent} (hl:T.dirs d=some l):dirL L d=true∧l=inL L d:=by
  rw [h.dirs] at hl
  unfold dirsL at hl
  by_cases q:dirL L d=true
  · rw [if_pos q] at hl
    injection hl with hl
    exact ⟨q,hl.symm⟩
  · rw [if_neg q] at hl;cases hl
theorem TR.root {L:List Item} {T:TreS} {enc:Int} (h:TR enc L T):T.dirs 0=some (inL L 0):=by
  rw [h.dirs];unfold dirsL;rw [if_pos (dirL_iff.2 (.inl rfl))]
theorem TR.len {L:List Item} {T:TreS} {enc:Int} (h:TR enc L T) {d:Int} {l:List Ent} (hl:T.dirs d=some l):(l.length:Int)<T.next:=by
  have:=(dirs_inL h hl).2
  subst this
  have h1:=inL_len L d
  have h2:=h.li.len
  omega
theorem TR.tok {L:List Item} {T:TreS} {enc:Int} (h:TR enc L T) (e0:0≤enc) (e8:enc≤8) (hn:T.next≤100):TOK enc T :=
  ⟨fun d l hl e he=>by
    have:=(dirs_inL h hl).2
    subst this
    obtain ⟨x,hx,_,rfl⟩:=mem_inL.1 he
    have s:=h.li.short x hx
    have g:=(h.li.good x hx).2.1
    exact of_any enc x.e e0 e8 (by omega) ⟨s.1,by omega⟩,
   fun d l hl=>by have:=h.len hl;omega,
   fun d l hl e he=>by
    have:=(dirs_inL h hl).2
    subst this
    obtain ⟨x,hx,_,rfl⟩:=mem_inL.1 he
    have s:=h.li.node x hx
    exact ⟨by omega,by omega⟩⟩
theorem TR.tb {L:List Item} {T:TreS} {enc:Int} (h:TR enc L T) {qt:Nat} (hq:qt≤100000) (hb:T.bk.length≤100000) (hn:T.next≤100):TB T qt :=
  ⟨hq,hb,fun i l hl=>by have:=h.len hl;omega,by have:=h.li.len;omega⟩
theorem TR.takes {L:List Item} {T:TreS} {enc:Int} (h:TR enc L T) {qt:Nat} (hq:qt≤1000000) (hb:T.bk.length≤100000):Takes (TakeN T.out T.fr T.bk) T qt:=fun W A p hp =>
  take_any W A p T.fr T.bk T.out qt hp h.pool.out h.pool.fr (fun x hx=>by have:=h.pool.bk x hx;have:=h.pool.fr;omega) hb h.pool.hp hq
theorem TR.room {L:List Item} {T:TreS} {enc:Int} (h:TR enc L T) (hn:T.next≤100) {k fr2:Int} {bk2:List Int} (ht:TakeN T.out T.fr T.bk k fr2 bk2):k≤200:=by
  obtain ⟨_,h1,h2⟩:=h.pool.least ht
  rcases (by omega:k≤200∨200<k) with q | q
  · exact q
  · exfalso
    have:=upto_len 200 (L.map (·.e.node)) (fun j a b=>by
      have:=h2 j a (by omega)
      rw [h.out,outL_iff] at this
      obtain ⟨x,hx,e⟩:=this
      exact List.mem_map.2 ⟨x,hx,e⟩)
    rw [List.length_map] at this
    have:=h.li.len
    omega
theorem TakeN.bk {O:Int→Bool} {fr:Int} {bk:List Int} {k fr2:Int} {bk2:List Int} (h:TakeN O fr bk k fr2 bk2):bk2.length≤bk.length:=by
  rcases h.2 with ⟨rfl,_⟩ | ⟨_,_,_,hp,_⟩
  · exact Nat.le_refl _
  · have:=hp.length_eq;simp at this;omega
theorem GiveR.bk {fr:Int} {bk:List Int} {n:Int} {bk2:List Int} (h:GiveR fr bk n bk2):bk2.length≤bk.length+1:=by
  rcases h with ⟨_,hp,_⟩ | ⟨_,rfl⟩
  · have:=hp.length_eq;simp at this;omega
  · omega
theorem kfr_10 {n:Nat} (h:n≤600):kfr n≤10:=by unfold kfr;split <;> omega
structure St (w:World) (F:Nat→Prop) (f:Nat) (enc:Int) (p:Nat) (m n:Int) (L:List Item) (T:TreS) (c:Nat):Prop where
  fs:∃ k t q qt,FsAt w F f enc p m n k t q T qt∧1≤t∧t≤2+10 * c∧q≤5+10 * c∧k≤c∧qt≤10+3 * c
  tr:TR enc L T
  next:T.next≤1+c
  bk:T.bk.length≤c
theorem St.mut {S F:Nat→Prop} {w w':World} {f:Nat} {enc:Int} {p:Nat} {m n:Int} {L:List Item} {T:TreS} {c:Nat} (h:St w F f enc p m n L T c) (hf:Mut S w w') (hn:∀ j,F j→¬ S j):St w' F f enc p m n L T c:=by
  obtain ⟨⟨k,t,q,qt,h1,h2⟩,h3,h4,h5⟩:=h
  exact ⟨⟨k,t,q,qt,h1.mut hf hn,h2⟩,h3,h4,h5⟩
theorem St.fresh {F:Nat→Prop} {w w':World} {f:Nat} {enc:Int} {p:Nat} {m n:Int} {L:List Item} {T:TreS} {c:Nat} (h:St w F f enc p m n L T c) (hf:Fresh w w'):St w' F f enc p m n L T c:=h.mut (hf.mut fun _=>False) (fun _ _ q=>q)
theorem St.later {F:Nat→Prop} {w:World} {f:Nat} {enc:Int} {p:Nat} {m n:Int} {L:List Item} {T:TreS} {c c':Nat} (h:St w F f enc p m n L T c) (hc:c≤c'):St w F f enc p m n L T c':=by
  obtain ⟨⟨k,t,q,qt,h1,h2,h3,h4,h5,h6⟩,h7,h8,h9⟩:=h
  exact ⟨⟨k,t,q,qt,h1,h2,by omega,by omega,by omega,by omega⟩,h7,by omega,by omega⟩
theorem St.fb {F:Nat→Prop} {w:World} {f:Nat} {enc:Int} {p:Nat} {m n:Int} {L:List Item} {T:TreS} {c:Nat} (h:St w F f enc p m n L T c):FB F w:=by
  obtain ⟨⟨k,t,q,qt,h1,_⟩,_⟩:=h
  exact h1.fb
theorem SdoG.mono {S S':Int→Int→Nat→Nat→Nat→TreS→Nat→Prop} {F:Nat→Prop} {s p:Nat} {m n:Int} {w:World} {e:Ending} {w':World} (h:SdoG S F s p m n w e w') (hs:∀ a b k t q T qt,S a b k t q T qt→S' a b k t q T qt):SdoG S' F s p m n w e w':=by
  obtain ⟨a,b,k,t,q,T,qt,F',h1,h2⟩:=h
  exact ⟨a,b,k,t,q,T,qt,F',hs _ _ _ _ _ _ _ h1,h2⟩
def LinkOut (enc:Int) (L:List Item) (T:TreS) (d:Int) (l:List Ent) (raw:ByteArray) (isDir:Bool) (P:Int→Prop) (a b:Int) (L2:List Item) (T2:TreS):Prop :=
  (b ≠ 0∧a=0∧L2=L∧T2=T∧((255<raw.size∧b=1)∨(¬ GoodN raw∧b=3)∨(GoodN raw∧b=6∧∃ e ∈ l,e.name=raw))) ∨
  (b=0∧GoodN raw∧(∀ e ∈ l,e.name ≠ raw)∧(∃ short,P short∧L2=L++[⟨d,⟨raw,a,isDir,T.next,short⟩⟩])∧T2.next=T.next+1∧outL L a=false∧1≤a∧a≤200∧∀ i,1≤i→i<a→outL L i=true)
def StG (S:Int→Int→List Item→TreS→Prop) (c:Nat) (F:Nat→Prop) (f:Nat) (enc:Int) (p:Nat) (m n:Int) (w:World) (e:Ending) (w':World):Prop :=
  ∃ a b L T F',S a b L T∧e=.returned (.tuple #[.int .i64 a,.int .i64 b])∧St w' F' f enc p m n L T c∧Mut F w w'∧Gr F w w' F'
theorem root_list {enc:Int} {L:List Item} {T:TreS} (h:TR enc L T):listR enc T slashS=(0,inL L 0,0):=by
  have hpt:pathT enc T slashS=.inl (0,true):=rfl
  unfold listR
  rw [hpt]
  simp [nvR,h.root]
set_option maxHeartbeats 1600000 in
theorem St.plant {F:Nat→Prop} {w:World} {f:Nat} {enc:Int} {p:Nat} {m n:Int} {L:List Item} {T:TreS} {c:Nat} (h:St w F f enc p m n L T c) (hGT:GT w) (path raw:ByteArray) (isDir:Bool) (hp:path.size≤1000000) (e0:0≤enc) (e8:enc≤8) (hr:raw.size≤1000)
    {d:Int} {l:List Ent} (hli:listR enc T path=(d,l,0)) (hdl:T.dirs d=some l) (hd:0≤d∧d≤65535) (hc:c≤90) (hm:0≤m∧m+m≤n) (hn:n≤1000000) (hfit:2+10 * (c:Int)+10≤m) :
    Calls Tryz.prog 36 #[.pointer (some ⟨f,0,none⟩),.string path,.string raw,.bool isDir] w (StG (LinkOut enc L T d l raw isDir (PickIs enc l raw)) (c+1) F f enc p m n w):=by
  obtain ⟨⟨k,t,q,qt,hfs,b1,b2,b3,b4,b5⟩,htr,hnx,hbk⟩:=h
  have hTB:=htr.tb (qt:=qt) (by omega) (by omega) (by omega)
  obtain ⟨hdr,hlL⟩:=dirs_inL htr hdl
  subst hlL
  have hlen:=htr.len hdl
  have hli0:=htr.li
  refine (fplant_any (fun short a b k2 t2 q2 T2 qt2=>∃ L2,LinkOut enc L T d (inL L d) raw isDir (fun s=>s=short) a b L2 T2∧TR enc L2 T2∧T2.next≤1+(c+1:Nat)∧T2.bk.length≤c+1∧1≤t2∧t2≤2+10 * (c+1)∧q2≤5+10 * (c+1)∧k2≤c+1∧qt2≤10+3 * (c+1)) F f enc p m n k t q T qt w hfs (htr.tok e0 e8 (by omega)) hGT path raw isDir hp e0 e8 hr (by rw [hli];simp only;omega) (fun e he=>by
    rw [hli] at he
    obtain ⟨x,hx,_,rfl⟩:=mem_inL.1 he
    have:=(hli0.good x hx).2.1
    omega) (fun _ short hps W Fs s hW hst=>?_)).mono ?_
  · rw [hli] at hps ⊢
    simp only at hps ⊢
    have hpb:=hps.bounds
    have hil:=inL_len L d
    by_cases hrl:raw.size≤255
    · refine (sdo_link (TakeN T.out T.fr T.bk) Fs s p m n k t q T qt W hst (htr.takes (by omega) (by omega)) (fun i fr bk hR=>by have:=hR.bk;omega) d raw isDir short hd (by omega) hrl hTB (by omega) (fun i l hl=>by have:=htr.len hl;omega) (by omega) hm hn b1 (by omega) (by omega) (by omega)).mono ?_
      intro e w' h'
      refine SdoG.mono h' ?_
      rintro a b k2 t2 q2 T2 qt2 (⟨hb,ha,herr,rfl,rfl,rfl,rfl,rfl⟩ | ⟨hok,fr,bk,hR,ha,rfl,rfl,rfl,rfl,rfl,rfl⟩)
      · refine ⟨L,.inl ⟨hb,ha,rfl,rfl,?_⟩,htr,by omega,by omega,b1,by omega,by omega,by omega,by omega⟩
        rcases herr with (⟨h1,_⟩ | ⟨l',h1,h2⟩) | ⟨_,_,k',fr,bk,hR,h3⟩
        · rw [hdl] at h1;cases h1
        · rw [hdl] at h1
          injection h1 with h1
          subst h1
          rcases h2 with ⟨h2,h3⟩ | ⟨_,h3,_⟩ | ⟨h2,_,_,h3,h4⟩
          · exact .inr (.inl ⟨h2,h3⟩)
          · exact absurd (by omega) h3
          · obtain ⟨j,hj⟩:=Int.eq_ofNat_of_zero_le h3
            obtain ⟨hj2,hn2,_⟩:=fidx_pos hj
            exact .inr (.inr ⟨h2,h4,_,List.getElem_mem hj2,nameB_iff.1 hn2⟩)
        · have:=htr.room (by omega) hR;omega
      · have hk5:=kfr_10 (n:=raw.size+9) (by omega)
        have hlst:=htr.pool.least hR
        have hok2:=hok
        obtain ⟨l',h1,hg,_,_,hfi⟩:=hok
        rw [hdl] at h1
        injection h1 with h1
        subst h1
        refine ⟨_,.inr ⟨rfl,hg,fun e he hne=>?_,⟨short,rfl,rfl⟩,rfl,?_,hlst.2.1,ha,fun i a b=>?_⟩,htr.plant hps hR ha hok2,?_,?_,by omega,by omega,by omega,by omega,by omega⟩
        · have:=fidx_neg hfi e he
          rw [nameB_iff.2 hne] at this;cases this
        · rw [← htr.out];exact hlst.1
        · rw [← htr.out];exact hlst.2.2 i a b
        · show T.next+1≤_;omega
        · show bk.length≤_;have:=hR.bk;omega
    · refine (sdoG_any (fun r=>r=1) (fun _ _ _=>False) 1 d 0 raw ⟨#[]⟩ isDir short 1 Fs s p m n k t q T qt W hst (fun W' A' x _=>ddoLong_any W' A' x d raw isDir short hd (by omega) (by omega)) (fun h=>by obtain ⟨_,_,_,h⟩:=h;exact h.elim) (fun _ _ _ h=>h.elim) hTB (by decide) (by omega) (by omega) hm hn b1 (by have:kfr 1=1:=rfl;omega) (by omega) (by omega)).mono ?_
      intro e w' h'
      refine SdoG.mono h' ?_
      rintro a b k2 t2 q2 T2 qt2 (⟨hb,ha,herr,rfl,rfl,rfl,rfl,rfl⟩ | ⟨_,h,_⟩)
      · exact ⟨L,.inl ⟨hb,ha,rfl,rfl,.inl ⟨by omega,herr⟩⟩,htr,by omega,by omega,b1,by omega,by omega,by omega,by omega⟩
      · exact h.elim
  · rw [hli]
    rintro e w' (⟨h1,_⟩ | ⟨_,short,hps,a,b,k2,t2,q2,T2,qt2,F',⟨L2,hlo,g1,g2,g3,g4,g5,g6,g7,g8⟩,rfl,hfs2,_,hmu,hgr⟩)
    · exact absurd rfl h1
    · refine ⟨a,b,L2,T2,F',?_,rfl,⟨⟨k2,t2,q2,qt2,hfs2,g4,g5,g6,g7,g8⟩,g1,g2,g3⟩,hmu,hgr⟩
      rcases hlo with h | ⟨h1,h2,h3,⟨s,rfl,h4⟩,h5⟩
      · exact .inl h
      · exact .inr ⟨h1,h2,h3,⟨s,hps,h4⟩,h5⟩
open Go.RowKit
def Rises (T:TreS):Prop:=∀ d l,T.dirs d=some l→l.Pairwise (fun a b=>a.cookie<b.cookie)
def flistR (enc:Int) (T:TreS) (path:ByteArray) (cur n:Int):List ByteArray × Int × Int :=
  if (listR enc T path).2.2 ≠ 0 then ([],0,(listR enc T path).2.2) else
  if (readR (listR enc T path).2.1 cur n).2.2 ≠ 0 then ([],0,(readR (listR enc T path).2.1 cur n).2.2) else
  ((readR (listR enc T path).2.1 cur n).1.map (faceS enc),(readR (listR enc T path).2.1 cur n).2.1,0)
def FsListF (r:List ByteArray × Int × Int) (w:World) (e:Ending) (w':World):Prop:=∃ a c,e=.returned (.tuple #[.slice a r.1.length c,.int .i64 r.2.1,.int .i64 r.2.2])∧SlS w' (fun g=>w.heap.size≤g) (.slice a r.1.length c) r.1∧Fresh w w'
theorem listR_l {enc:Int} {T:TreS} {path:ByteArray}:(listR enc T path).2.1=[]∨∃ d,T.dirs d=some (listR enc T path).2.1:=by
  unfold listR
  simp only
  split
  · exact .inl rfl
  · split
    · exact .inl rfl
    · split
      · rename_i l hl;exact .inr ⟨_,hl⟩
      · exact .inl rfl
section
variable (enc:Int) (A:Nat→Prop) (f s tr:Nat) (T:TreS) (q:Nat) (hT:TOK enc T) (hR:Rises T) (w:World) (hv:FsV w f s enc tr) (h:TreeAt w A tr T q) (hGT:GT w)
include hT hR hv h hGT
set_option maxRecDepth 100000 in
set_option maxHeartbeats 1600000 in
theorem fslist_any (path:ByteArray) (hp:path.size≤1000000) (cur n:Int):Calls Tryz.prog 31 #[.pointer (some ⟨f,0,none⟩),.string path,.int .i64 cur,.int .i64 n] w (FsListF (flistR enc T path cur n) w):=by
  have HL:=Lib.hid (flist_any enc A f s tr T q hT w hv h hGT path hp)
  have HS:Hid (∀ W,Fresh w W→W.cell? ⟨f,1,none⟩=some (.int .i64 enc)):=Lib.hid (fun W hW=>(Blk.keep hv hW).cell 1)
  have hlo:∀ e ∈ (listR enc T path).2.1,OfOK enc e:=by
    rcases listR_l (enc:=enc) (T:=T) (path:=path) with h0 | ⟨d,hd⟩
    · rw [h0];intro e he;simp at he
    · exact hT.of d _ hd
  have hll:(listR enc T path).2.1.length≤10000:=by
    rcases listR_l (enc:=enc) (T:=T) (path:=path) with h0 | ⟨d,hd⟩
    · rw [h0];simp
    · exact hT.len d _ hd
  have hlr:(listR enc T path).2.1.Pairwise (fun a b=>a.cookie<b.cookie):=by
    rcases listR_l (enc:=enc) (T:=T) (path:=path) with h0 | ⟨d,hd⟩
    · rw [h0];exact List.Pairwise.nil
    · exact hR d _ hd
  unfold flistR
  obtain ⟨r,hr⟩:∃ r,listR enc T path=r:=⟨_,rfl⟩
  rw [hr] at HL hlo hll hlr ⊢
  obtain ⟨d,l,k⟩:=r
  simp only at hlo hll hlr ⊢
  unfold ListF at HL
  simp only at HL
  clear hr hT hR hv h
  by_cases hk:k=0
  · subst hk
    rw [if_neg (by simp)]
    have HCR:=Lib.hid (fun a c W (hs:SlE W (fun g=>w.heap.size≤g) (.slice a l.length c) l)=>cread_any a l.length c cur n W _ l hs rfl hll hlr)
    have hmem:∀ e ∈ (readR l cur n).1,OfOK enc e:=by
      intro e he
      refine hlo e ?_
      unfold readR at he
      split at he
      · simp at he
      · split at he
        · simp at he
        · exact (List.mem_filter.1 (List.mem_of_mem_take he)).1
    have hle:=readR_le l cur n
    obtain ⟨c,hc⟩:∃ c,readR l cur n=c:=⟨_,rfl⟩
    rw [hc] at HCR hmem hle ⊢
    obtain ⟨x,nx,k⟩:=c
    simp only at hmem hle ⊢
    unfold ReadF at HCR
    simp only at HCR
    have HNM:=Lib.hid (fun a c W (hfw:Fresh w W) (hs:SlE W (fun g=>w.heap.size≤g) (.slice a x.length c) x)=>names_any enc _ (.slice a x.length c) x W hs (by omega) hmem (hGT.fresh hfw))
    clear hc hlr hlo hmem
    obtain ⟨ll,hlle⟩:∃ ll,l.length=ll:=⟨_,rfl⟩
    by_cases hk:k=0
    · subst hk
      rw [if_neg (by simp)]
      clear hlle
      go_enter Tryz.func31,Tryz.ntmps31
      go_wp2_with fail
      refine HL.out.mono ?_
      rintro e w1 ⟨a1,c1,rfl,ho1,hf1⟩
      have H1:=Lib.hid (And.intro ho1 hf1)
      clear ho1 hf1
      go_wp2_with fail
      refine (HCR.out a1 c1 w1 H1.out.1).mono ?_
      rintro e w2 ⟨a2,c2,rfl,ho2,hf2⟩
      have H2:=Lib.hid (And.intro (SlG.mono ho2 (A':=fun g=>w.heap.size≤g) (fun g _ hg=>Nat.le_trans H1.out.2.size hg)) (H1.out.2.trans hf2))
      have d1:=HS.out w2 H2.out.2
      clear ho2 hf2
      go_wp2_with fail
      refine (HNM.out a2 c2 w2 H2.out.2 H2.out.1).mono ?_
      rintro e w3 ⟨a3,c3,rfl,ho3,hf3⟩
      have H3:=Lib.hid (And.intro (SlG.mono (OwnL.sl ho3) (A':=fun g=>w.heap.size≤g) (fun g _ hg=>Nat.le_trans H2.out.2.size hg)) (H2.out.2.trans hf3))
      clear ho3 hf3
      go_wp2
      go_ret3
      exact ⟨a3,c3,by simp only [List.length_map];rfl,H3.out.1,H3.out.2⟩
    · rw [if_pos hk]
      have hkb:(k != 0)=true:=by simp [hk]
      clear hk hlle
      go_enter Tryz.func31,Tryz.ntmps31
      go_wp2_with fail
      refine HL.out.mono ?_
      rintro e w1 ⟨a1,c1,rfl,ho1,hf1⟩
      have H1:=Lib.hid (And.intro ho1 hf1)
      clear ho1 hf1
      go_wp2_with fail
      refine (HCR.out a1 c1 w1 H1.out.1).mono ?_
      rintro e w2 ⟨a2,c2,rfl,ho2,hf2⟩
      have H2:=Lib.hid (H1.out.2.trans hf2)
      clear ho2 hf2
      go_wp2
      go_ret3
      exact ⟨none,0,rfl,SlG.nil _ _ _,H2.out⟩
  · rw [if_pos hk]
    have hkb:(k != 0)=true:=by simp [hk]
    clear hk hlr hlo
    go_enter Tryz.func31,Tryz.ntmps31
    go_wp2_with fail
    refine HL.out.mono ?_
    rintro e w1 ⟨a1,c1,rfl,ho1,hf1⟩
    have H1:=Lib.hid (And.intro ho1 hf1)
    clear ho1 hf1
    go_wp2
    go_ret3
    exact ⟨none,0,rfl,SlG.nil _ _ _,H1.out.2⟩
end
def OpenedPost (enc:Int) (F:Nat→Prop) (p:Nat) (m n:Int) (w:World) (e:Ending) (w':World):Prop :=
  ∃ f T qt F',e=.returned (.pointer (some ⟨f,0,none⟩))∧FsAt w' F' f enc p m n 0 2 5 T qt∧IsT0 T∧qt≤10∧Mut F w w'∧Gr F w w' F'
set_option maxHeartbeats 800000 in
theorem opened_any (F:Nat→Prop) (enc:Int) (p:Nat) (n:Int) (w:World) (m:Nat) (h:DevAt w F p n (fun _=>zer 64) 0) (hF:FB F w) (hm:n / 2=m) (hm1:4≤m) (hn:n≤1000000) (h0:0≤enc) (h8:enc≤8) :
    Calls Tryz.prog 27 #[.pointer (some ⟨p,0,none⟩),.int .i64 enc] w (OpenedPost enc F p m n w):=by
  have HFO:=Lib.hid (fformat_any F p n w m h hF hm hm1 hn)
  have HMT:=Lib.hid (fun F' W (hd:DevAt W F' p n (newD img0 m) 5) hF'=>fmount_any F' enc p n 5 W m hd hF' hm hm1 hn h0 h8)
  have HFF:=Lib.hid hF
  obtain ⟨D,hD⟩:∃ D,newD img0 m=D:=⟨_,rfl⟩
  rw [hD] at HFO HMT
  clear h hF hm hm1 hD
  go_enter Tryz.func27,Tryz.ntmps27
  go_wp2_with fail
  refine HFO.out.mono ?_
  rintro e w3 ⟨rfl,F3,hd3,hm3,hg3⟩
  have H3:=Lib.hid (And.intro hd3 (And.intro hm3 hg3))
  have hFB3:FB F3 w3:=fun j hj=>by
    have z:=hm3.size
    rcases hg3 j hj with q | q
    · have:=HFF.out j q;omega
    · exact q.2
  have HB3:=Lib.hid hFB3
  clear hd3 hm3 hg3 hFB3
  go_wp2_with fail
  refine (HMT.out F3 w3 H3.out.1 HB3.out).mono ?_
  rintro e w4 ⟨f,T,qt,F4,rfl,hfs,hT0,hqt,hfl,hm4,hg4⟩
  have HFIN:Hid (OpenedPost enc F p m n w (.returned (.pointer (some ⟨f,0,none⟩))) w4):=Lib.hid (by
    have z3:=H3.out.2.1.size
    have z4:=hm4.size
    refine ⟨f,T,qt,F4,rfl,hfs,hT0,hqt,?_,H3.out.2.2.trans hg4 z3 z4⟩
    exact H3.out.2.1.trans2 hm4 (fun _ h=>h) (fun j hj h=>by
      rcases H3.out.2.2 j h with q | q
      · exact q
      · have:=q.1;omega))
  clear hfs hT0 hqt hfl hm4 hg4
  go_wp2
  go_ret
  exact HFIN.out
end Go.Proofs.YtpmlggjhfiljmaaGreatDoor
namespace Go.Proofs.YtpmlggjhfiljmaaGreatDoor
open Go.RowKit
theorem TR.zero {T:TreS} (h:IsT0 T) (enc:Int):TR enc [] T:=by
  obtain ⟨h1,h2,h3,h4,h5,h6⟩:=h
  refine ⟨fun d=>?_,fun n=>?_,fun n=>?_,?_,by rw [h2];exact LI.zero⟩
  · rw [h1];unfold dirsL dirL inL;by_cases e:d=0 <;> simp [e]
  · rw [h3];rfl
  · rw [h4];rfl
  · rw [h5,h6]
    exact ⟨by omega,fun c a b=>by simp at b,List.nodup_nil,fun x hx=>by simp at hx,fun i a b=>by omega,fun i hi=>by rw [h4] at hi;cases hi⟩
theorem St.new {F:Nat→Prop} {w:World} {f:Nat} {enc:Int} {p:Nat} {m n:Int} {T:TreS} {qt:Nat} (h:FsAt w F f enc p m n 0 2 5 T qt) (hT:IsT0 T) (hq:qt≤10):St w F f enc p m n [] T 0 :=
  ⟨⟨0,2,5,qt,h,by omega,by omega,by omega,by omega,by omega⟩,TR.zero hT enc,by rw [hT.2.1];omega,by rw [hT.2.2.2.2.2];simp⟩
theorem findT_inL {enc:Int} {L:List Item} {T:TreS} (h:TR enc L T) {d:Int} {x:Item} (hx:x ∈ L) (hi:x.inn=d):findT T d x.e.name=some x.e:=by
  have hd:dirL L d=true:=hi ▸ h.li.home x hx
  have hT:T.dirs d=some (inL L d):=by rw [h.dirs];unfold dirsL;rw [if_pos hd]
  unfold findT
  rw [hT]
  show (inL L d).find? (nameB x.e.name)=some x.e
  cases hq:(inL L d).find? (nameB x.e.name) with
  | none=>exact absurd (nameB_iff.2 rfl) (List.find?_eq_none.1 hq x.e (mem_inL.2 ⟨x,hx,hi,rfl⟩))
  | some b =>
    have hb:=List.mem_of_find?_eq_some hq
    have hn:=nameB_iff.1 (List.find?_some hq)
    obtain ⟨y,hy,iy,rfl⟩:=mem_inL.1 hb
    rw [h.li.names_of hy hx (iy.trans hi.symm) hn]
theorem findT_mem {enc:Int} {L:List Item} {T:TreS} (h:TR enc L T) {d:Int} {name:ByteArray} {e:Ent} (hf:findT T d name=some e):∃ x ∈ L,x.inn=d∧x.e=e:=by
  obtain ⟨l,k,hdl,_,hk,rfl⟩:=findT_at hf
  obtain ⟨_,rfl⟩:=dirs_inL h hdl
  exact mem_inL.1 (List.getElem_mem hk)
theorem inL_none {enc:Int} {L:List Item} {T:TreS} (h:TR enc L T) {x:Item} (hx:x ∈ L) (he:(T.dirs x.e.node).getD []=[]):inL L x.e.node=[]:=by
  by_cases hd:dirL L x.e.node=true
  · rw [h.dirs] at he
    unfold dirsL at he
    rw [if_pos hd] at he
    exact he
  · cases hq:inL L x.e.node with
    | nil=>rfl
    | cons e r =>
      obtain ⟨y,hy,iy,_⟩:=mem_inL.1 (show e ∈ inL L x.e.node by rw [hq];simp)
      exact absurd (iy ▸ h.li.home y hy) hd
theorem TR.unOk {enc:Int} {L:List Item} {T:TreS} (h:TR enc L T) {d:Int} {x:Item} (hx:x ∈ L) (hi:x.inn=d) {isDir:Bool} {qt qt2:Nat} {a:Int} {T2:TreS} (ho:UnOk T qt d x.e.name isDir a T2 qt2):TR enc (outOf L x.e.node) T2∧T2.next=T.next∧T2.bk.length≤T.bk.length+1:=by
  obtain ⟨hE,_,_,y,l,k,bk2,hf,hdl,hfi,hg,rfl⟩:=ho
  rw [findT_inL h hx hi] at hf
  injection hf with hf
  subst hf
  obtain ⟨l',k',hdl',hfi',hk',hl'⟩:=findT_at (findT_inL h hx hi)
  rw [hdl] at hdl'
  injection hdl' with e1
  subst e1
  have e2:k=k':=by omega
  subst e2
  have hl:=(dirs_inL h hdl).2
  subst hl
  have he:(T.dirs x.e.node).getD []=[]:=by
    unfold unlinkE at hE
    rw [findT_inL h hx hi] at hE
    simp only at hE
    split at hE
    · omega
    · split at hE
      · omega
      · split at hE
        · omega
        · rename_i q;exact Decidable.byContradiction q
  exact ⟨h.unlink ⟨hx,hi,hk',hl'⟩ (inL_none h hx he) hg,rfl,hg.bk⟩
def RemOut (L:List Item) (T:TreS) (d:Int) (y:Ent) (isDir:Bool) (b:Int) (L2:List Item) (T2:TreS):Prop :=
  (b ≠ 0∧b=unlinkE T d y.name isDir∧L2=L∧T2=T)∨(b=0∧unlinkE T d y.name isDir=0∧L2=outOf L y.node∧T2.next=T.next)
def StU (S:Int→List Item→TreS→Prop) (c:Nat) (F:Nat→Prop) (f:Nat) (enc:Int) (p:Nat) (m n:Int) (w:World) (e:Ending) (w':World):Prop :=
  ∃ b L T F',S b L T∧e=.returned (.int .i64 b)∧St w' F' f enc p m n L T c∧Mut F w w'∧Gr F w w' F'
set_option maxHeartbeats 1600000 in
theorem St.remove {F:Nat→Prop} {w:World} {f:Nat} {enc:Int} {p:Nat} {m n:Int} {L:List Item} {T:TreS} {c:Nat} (h:St w F f enc p m n L T c) (hGT:GT w) (path:ByteArray) (isDir:Bool) (hp:path.size≤1000000) (e0:0≤enc) (e8:enc≤8)
    {d:Int} {nm:ByteArray} {x:Item} (hat:atR enc T path=(d,nm,x.e,0)) (hx:x ∈ L) (hi:x.inn=d) (hc:c≤90) (hm:0≤m∧m+m≤n) (hn:n≤1000000) (hfit:2+10 * (c:Int)+10≤m) :
    Calls Tryz.prog 40 #[.pointer (some ⟨f,0,none⟩),.string path,.bool isDir] w (StU (RemOut L T d x.e isDir) (c+1) F f enc p m n w):=by
  obtain ⟨⟨k,t,q,qt,hfs,b1,b2,b3,b4,b5⟩,htr,hnx,hbk⟩:=h
  have hTB:=htr.tb (qt:=qt) (by omega) (by omega) (by omega)
  have hd:0≤d∧d≤65535:=by
    rcases dirL_iff.1 (htr.li.home x hx) with q | ⟨y,hy,e,_⟩
    · omega
    · have:=htr.li.node y hy;omega
  have hg:=(htr.li.good x hx).2.1
  have hk5:=kfr_10 (n:=x.e.name.size+5) (by omega)
  refine (fremove_any (DoS (UnErr T d x.e.name isDir) (UnOk T qt d x.e.name isDir) (x.e.name.size+5) k t q T qt) F f enc p m n k t q T qt w hfs (htr.tok e0 e8 (by omega)) hGT path isDir hp (fun _ W Fs s hW hst=>?_)).mono ?_
  · rw [hat]
    refine sdoG_any (UnErr T d x.e.name isDir) (UnOk T qt d x.e.name isDir) 2 d 0 x.e.name ⟨#[]⟩ isDir 0 (x.e.name.size+5) Fs s p m n k t q T qt W hst (fun W' A' t' ht'=>ddoU_any W' A' t' T qt ht' d x.e.name isDir hd hg (fun i l hl=>by have:=htr.len hl;omega) (fun y hy=>?_) (by omega) (by omega) htr.pool.hp) (fun _ W'=>dencodeU_any d x.e.name isDir hd hg W') (fun a T2 qt2 ho=>?_) hTB hk5 (by omega) (by omega) hm hn b1 (by omega) (by omega) (by omega)
    · obtain ⟨z,hz,_,rfl⟩:=findT_mem htr hy
      have:=htr.li.node z hz
      exact ⟨⟨by omega,by omega⟩,by rw [htr.out];exact outL_iff.2 ⟨z,hz,rfl⟩⟩
    · obtain ⟨h1,h2,h3⟩:=htr.unOk hx hi ho
      have:=ho.2.2.1
      exact h1.tb (by omega) (by omega) (by omega)
  · rw [hat]
    rintro e w' (⟨h1,_⟩ | ⟨_,a,b,k2,t2,q2,T2,qt2,F',hS,rfl,hfs2,_,hmu,hgr⟩)
    · exact absurd rfl h1
    · rcases hS with ⟨hb,ha,herr,rfl,rfl,rfl,rfl,rfl⟩ | ⟨rfl,ho,rfl,rfl,rfl⟩
      · exact ⟨b,L,_,F',.inl ⟨hb,herr.2,rfl,rfl⟩,rfl,⟨⟨_,_,_,_,hfs2,by omega,by omega,by omega,by omega,by omega⟩,htr,by omega,by omega⟩,hmu,hgr⟩
      · obtain ⟨h1,h2,h3⟩:=htr.unOk hx hi ho
        have:=ho.2.2.1
        exact ⟨0,_,T2,F',.inr ⟨rfl,ho.1,rfl,h2⟩,rfl,⟨⟨_,_,_,_,hfs2,by omega,by omega,by omega,by omega,by omega⟩,h1,by omega,by omega⟩,hmu,hgr⟩
theorem St.lookup {F:Nat→Prop} {w:World} {f:Nat} {enc:Int} {p:Nat} {m n:Int} {L:List Item} {T:TreS} {c:Nat} (h:St w F f enc p m n L T c) (hGT:GT w) (path:ByteArray) (hp:path.size≤1000000) (e0:0≤enc) (e8:enc≤8) (hc:c≤90) :
    Calls Tryz.prog 41 #[.pointer (some ⟨f,0,none⟩),.string path] w (NodeF (nvR (pathT enc T path)) w):=by
  obtain ⟨⟨k,t,q,qt,hfs,_⟩,htr,hnx,hbk⟩:=h
  obtain ⟨s,tr,Fs,At,hb,hFf,hFs,hAt,hf1,hf2,hd,hs,ht,hF⟩:=hfs
  exact lookup_any enc At f s tr T qt (htr.tok e0 e8 (by omega)) w hb ht hGT path hp
open Go.RowKit
def childT (T:TreS) (c p:Int):Prop:=∃ l,T.dirs p=some l∧∃ e ∈ l,e.node=c
inductive Reach (T:TreS) (node:Int):Int→Prop
  | here:Reach T node node
  | down {a c:Int}:childT T c a→Reach T node c→Reach T node a
noncomputable def reachB (T:TreS) (node a:Int):Bool:=@decide (Reach T node a) (Classical.propDecidable _)
theorem reachB_iff {T:TreS} {node a:Int}:reachB T node a=true ↔ Reach T node a:=by unfold reachB;simp
theorem reachB_self (T:TreS) (node:Int):reachB T node node=true:=reachB_iff.2 .here
theorem reachB_down {T:TreS} {node a:Int} (h:a ≠ node) {l:List Ent} (hl:(T.dirs a).getD []=l):decide (0≤fidx (fun e=>reachB T node e.node) l)=reachB T node a:=by
  rw [Bool.eq_iff_iff,decide_eq_true_eq,reachB_iff]
  constructor
  · intro q
    obtain ⟨k,hk⟩:=Int.eq_ofNat_of_zero_le q
    obtain ⟨hk2,hp,_⟩:=fidx_pos hk
    have hr:=reachB_iff.1 hp
    refine .down ?_ hr
    cases hd:T.dirs a with
    | none=>rw [hd] at hl;subst hl;simp at hk2
    | some l' =>
      rw [hd] at hl
      subst hl
      exact ⟨l',hd,_,List.getElem_mem hk2,rfl⟩
  · intro q
    cases q with
    | here=>exact absurd rfl h
    | down hc hr =>
      obtain ⟨l',hd,e,he,rfl⟩:=hc
      rw [hd] at hl
      have hl:l'=l:=hl
      subst hl
      rcases Int.lt_or_le (fidx (fun e=>reachB T node e.node) l') 0 with q | q
      · have:=fidx_neg q e he
        rw [reachB_iff.2 hr] at this;cases this
      · exact q
def wkV (bn bt bw:Nat):Value:=.func (.func 387) #[] #[.pointer (some ⟨bn,0,none⟩),.pointer (some ⟨bt,0,none⟩),.pointer (some ⟨bw,0,none⟩)]
theorem enters_below1:∀ (args:Array Value) (W:World),Sem.run Tryz.prog (callFunc 387 args) W=.ok (.enter 387 args) W:=by intro args w;go_simp
theorem enters_below11:∀ (args:Array Value) (W:World),Sem.run Tryz.prog (callFunc 388 args) W=.ok (.enter 388 args) W:=by intro args w;go_simp
def BoolF (b:Bool) (w:World) (e:Ending) (w':World):Prop:=e=.returned (.bool b)∧Fresh w w'
set_option maxHeartbeats 800000 in
theorem below11_any (bn bt bw:Nat) (e:Ent) (b:Bool) (w:World) (hb:bw<w.heap.size) (hc:w.cell? ⟨bw,0,none⟩=some (wkV bn bt bw)) (hk:∀ W,Fresh w W→Calls Tryz.prog 387 #[.int .i64 e.node,.pointer (some ⟨bn,0,none⟩),.pointer (some ⟨bt,0,none⟩),.pointer (some ⟨bw,0,none⟩)] W (BoolF b W)) :
    Calls Tryz.prog 388 #[entV e,.pointer (some ⟨bw,0,none⟩)] w (BoolF b w):=by
  have hen:=enters_below1
  unfold wkV at hc
  obtain ⟨nm,node,dir,cookie,short⟩:=e
  have HK:=Lib.hid hk
  simp only at HK
  have hx:w.heap.size ≠ bw:=by omega
  have hc2:=fun o=>(Below.cell ((Fresh.refl w).alloc o) (p:=⟨bw,0,none⟩) hb).trans hc
  unfold entV
  simp only
  clear hk hc
  go_enter Tryz.func388,Tryz.ntmps388
  go_wp2_with fail
  refine (HK.out _ ((Fresh.refl w).alloc _)).mono ?_
  rintro e w2 ⟨rfl,hf2⟩
  have HF2:=Lib.hid (((Fresh.refl w).alloc _).trans hf2)
  clear hf2
  go_wp2
  go_ret
  exact ⟨rfl,HF2.out⟩
set_option maxRecDepth 100000 in
set_option maxHeartbeats 3200000 in
theorem below1_any (w:World) (A:Nat→Prop) (bn bt bw t:Nat) (T:TreS) (q:Nat) (node:Int) (h:TreeAt w A t T q) (ln:bn<w.heap.size) (lt:bt<w.heap.size) (lw:bw<w.heap.size)
    (cn:w.cell? ⟨bn,0,none⟩=some (.int .i64 node)) (ct:w.cell? ⟨bt,0,none⟩=some (.pointer (some ⟨t,0,none⟩))) (cw:w.cell? ⟨bw,0,none⟩=some (wkV bn bt bw))
    (hl:∀ i l,T.dirs i=some l→l.length≤10000) (hn:∀ i l,T.dirs i=some l→∀ e ∈ l,I64 e.node) :
    ∀ a,Acc (childT T) a→∀ W,Fresh w W→I64 a→Calls Tryz.prog 387 #[.int .i64 a,.pointer (some ⟨bn,0,none⟩),.pointer (some ⟨bt,0,none⟩),.pointer (some ⟨bw,0,none⟩)] W (BoolF (reachB T node a) W):=by
  intro a hacc
  induction hacc with
  | intro a _ ih =>
    intro W hW ha
    by_cases e:a=node
    · subst e
      have HR:=Lib.hid (reachB_self T a)
      have c1:=(Below.cell hW (p:=⟨bn,0,none⟩) ln).trans cn
      have c2:=(Below.cell hW (p:=⟨bt,0,none⟩) lt).trans ct
      clear ih h ct cw hl hn cn hW
      go_enter Tryz.func387,Tryz.ntmps387
      go_wp2
      go_ret
      exact ⟨by rw [HR.out];rfl,Fresh.refl _⟩
    · obtain ⟨l,hdl⟩:∃ l,(T.dirs a).getD []=l:=⟨_,rfl⟩
      have HR:=Lib.hid (reachB_down (node:=node) e hdl)
      have HIH:=Lib.hid ih
      have HCW:=Lib.hid cw
      have HN:Hid (∀ e ∈ l,childT T e.node a∧I64 e.node):=Lib.hid (fun e he=>by
        cases hd:T.dirs a with
        | none=>rw [hd] at hdl;subst hdl;cases he
        | some l' =>
          rw [hd] at hdl
          have hdl:l'=l:=hdl
          subst hdl
          exact ⟨⟨l',hd,e,he,rfl⟩,hn a l' hd e he⟩)
      have HL:Hid (l.length≤10000):=Lib.hid (by
        cases hd:T.dirs a with
        | none=>rw [hd] at hdl;subst hdl;simp
        | some l' =>
          rw [hd] at hdl
          have hdl:l'=l:=hdl
          subst hdl
          exact hl a l' hd)
      obtain ⟨gd,gf,pp,Md,Mf,Ap,hApl,g1,g2,g3,g4,g5,g6,g7,g8,g9,g10,g12,g11⟩:=(h.fresh hW).open
      have hv:∃ v A',Hid ((Instr.lookup 155 (.map (some gd)) (.int .i64 a) false).run Tryz.prog W=.ok v W)∧SlE W A' v l:=by
        cases hd:T.dirs a with
        | none =>
          rw [hd] at hdl
          subst hdl
          exact ⟨.slice none 0 0,fun _=>True,Lib.hid (g6.look Tryz.underlying155 zeroL ha (by rw [g10 a hd];rfl)),SlG.nil _ _ _⟩
        | some l' =>
          rw [hd] at hdl
          have hdl:l'=l:=hdl
          subst hdl
          obtain ⟨v,hv,ho⟩:=g9 a l' hd
          exact ⟨v,_,Lib.hid (g6.look Tryz.underlying155 zeroL ha (by rw [hv];rfl)),OwnE.sl ho⟩
      obtain ⟨v,A',HLK,hsl⟩:=hv
      have c0:W.cell? ⟨t,0,none⟩=some (.map (some gd)):=g1.cell 0
      have c1:=(Below.cell hW (p:=⟨bn,0,none⟩) ln).trans cn
      have c2:=(Below.cell hW (p:=⟨bt,0,none⟩) lt).trans ct
      have HSL:=Lib.hid hsl
      have hlk:=HLK.out
      have e1:(a == node)=false:=beq_false_of_ne e
      have HW:=Lib.hid hW
      clear ih h ct cw hl hn cn hW g1 g2 g3 g4 g5 g6 g7 g8 g9 g10 g12 g11 hApl hsl hdl
      have HCF:=Lib.hid (fun V (hV:Fresh W V)=>containsFunc_any A' v l V (HSL.out.fresh hV) (by have:=HL.out;omega) 388 #[] #[.pointer (some ⟨bw,0,none⟩)] (fun e=>reachB T node e.node) ⟨enters_below11,fun U hU e he=>below11_any bn bt bw e (reachB T node e.node) U (Nat.lt_of_lt_of_le lw ((HW.out.trans hV).trans hU).size) ((Below.cell ((HW.out.trans hV).trans hU) (p:=⟨bw,0,none⟩) lw).trans HCW.out) (fun X hX=>HIH.out e.node (HN.out e he).1 X (((HW.out.trans hV).trans hU).trans hX) (HN.out e he).2)⟩)
      go_enter Tryz.func387,Tryz.ntmps387
      go_wp2_with fail
      refine (HCF.out _ (Fresh.refl _)).mono ?_
      rintro e w2 ⟨rfl,hf2⟩
      have H2:=Lib.hid hf2
      clear hf2
      rw [HR.out]
      go_wp2
      go_ret
      exact ⟨rfl,H2.out⟩
set_option maxRecDepth 100000 in
set_option maxHeartbeats 1600000 in
theorem below_any (w:World) (A:Nat→Prop) (t:Nat) (T:TreS) (q:Nat) (node top:Int) (h:TreeAt w A t T q) (hl:∀ i l,T.dirs i=some l→l.length≤10000) (hn:∀ i l,T.dirs i=some l→∀ e ∈ l,I64 e.node) (ha:Acc (childT T) top) (htop:I64 top) :
    Calls Tryz.prog 346 #[.pointer (some ⟨t,0,none⟩),.int .i64 node,.int .i64 top] w (BoolF (reachB T node top) w):=by
  have hen:=enters_below1
  have HB:=Lib.hid (fun W (hW:Fresh w W) bn bt bw (b1:bn<W.heap.size) (b2:bt<W.heap.size) (b3:bw<W.heap.size) c1 c2 c3=>below1_any W A bn bt bw t T q node (h.fresh hW) b1 b2 b3 c1 c2 c3 hl hn top ha W (Fresh.refl _) htop)
  clear h hl hn ha htop
  unfold wkV at HB
  go_enter Tryz.func346,Tryz.ntmps346
  go_wp2_with fail
  refine (HB.out _ (by repeat (first | exact Fresh.refl _ | refine Fresh.alloc ?_ _ | refine Fresh.setCell ?_ (by simp) _)) _ _ _ (by simp;try omega) (by simp;try omega) (by simp;try omega) (by go_simp) (by go_simp) (by go_simp)).mono ?_
  rintro e w2 ⟨rfl,hf2⟩
  have HF2:=Lib.hid (Fresh.trans (a:=w) (by repeat (first | exact Fresh.refl _ | refine Fresh.alloc ?_ _ | refine Fresh.setCell ?_ (by simp) _)) hf2)
  clear hf2
  go_wp2
  go_ret
  exact ⟨rfl,HF2.out⟩
end Go.Proofs.YtpmlggjhfiljmaaGreatDoor
