/- Part 38 of what the law rests on. -/
import Derived.Test.YtpmlggjhfiljmaaGreatDoorS37
set_option linter.all false
namespace Go.Proofs.YtpmlggjhfiljmaaGreatDoor
open Go.RowKit
def MakeOut (enc:Int) (L:List Item) (T:TreS) (path:ByteArray) (isDir:Bool) (a b:Int) (L2:List Item) (T2:TreS):Prop :=
  ((freshR enc T path).2.2 ≠ 0∧a=0∧b=(freshR enc T path).2.2∧L2=L∧T2=T) ∨
  ((freshR enc T path).2.2=0∧LinkOut enc L T (freshR enc T path).1 (inL L (freshR enc T path).1) (freshR enc T path).2.1 isDir (fun s=>s=0) a b L2 T2)
theorem dir_le {enc:Int} {L:List Item} {next:Int} (h:LI enc L next) {d:Int} (hd:dirL L d=true):0≤d∧d≤65535:=by
  rcases dirL_iff.1 hd with q | ⟨y,hy,e,_⟩
  · omega
  · have:=h.node y hy;omega
set_option maxHeartbeats 1600000 in
theorem St.make {F:Nat→Prop} {w:World} {f:Nat} {enc:Int} {p:Nat} {m n:Int} {L:List Item} {T:TreS} {c:Nat} (h:St w F f enc p m n L T c) (hGT:GT w) (path:ByteArray) (isDir:Bool) (hp:path.size≤1000000) (e0:0≤enc) (e8:enc≤8) (hc:c≤90) (hm:0≤m∧m+m≤n) (hn:n≤1000000) (hfit:2+10 * (c:Int)+10≤m) :
    Calls Tryz.prog 29 #[.pointer (some ⟨f,0,none⟩),.string path,.bool isDir] w (StG (MakeOut enc L T path isDir) (c+1) F f enc p m n w):=by
  have hst:=h
  obtain ⟨⟨k,t,q,qt,hfs,b1,b2,b3,b4,b5⟩,htr,hnx,hbk⟩:=h
  have hTB:=htr.tb (qt:=qt) (by omega) (by omega) (by omega)
  refine (fmake_any (fun a b k2 t2 q2 T2 qt2=>(freshR enc T path).2.2=0∧∃ L2,LinkOut enc L T (freshR enc T path).1 (inL L (freshR enc T path).1) (freshR enc T path).2.1 isDir (fun s=>s=0) a b L2 T2∧TR enc L2 T2∧T2.next≤1+(c+1:Nat)∧T2.bk.length≤c+1∧1≤t2∧t2≤2+10 * (c+1)∧q2≤5+10 * (c+1)∧k2≤c+1∧qt2≤10+3 * (c+1)) F f enc p m n k t q T qt w hfs (htr.tok e0 e8 (by omega)) hGT path isDir hp e0 e8 (fun hz W Fs s hW hs=>?_)).mono ?_
  · obtain ⟨hd,hg,hps⟩:=fresh_ok htr hz
    obtain ⟨⟨d,raw,j⟩,hr⟩:∃ r,freshR enc T path=r:=⟨_,rfl⟩
    rw [hr] at hz hd hg hps ⊢
    simp only at hz hd hg hps ⊢
    have hdd:=dir_le htr.li hd
    have hdl:T.dirs d=some (inL L d):=by rw [htr.dirs];unfold dirsL;rw [if_pos hd]
    have hlen:=htr.len hdl
    have hrs:=hg.2.1
    have hpk:PickIs enc (inL L d) raw 0:=.inl ⟨hps,rfl⟩
    refine (sdo_link (TakeN T.out T.fr T.bk) Fs s p m n k t q T qt W hs (htr.takes (by omega) (by omega)) (fun i fr bk hR=>by have:=hR.bk;omega) d raw isDir 0 hdd (by omega) (by omega) hTB (by omega) (fun i l hl=>by have:=htr.len hl;omega) (by omega) hm hn b1 (by omega) (by omega) (by omega)).mono ?_
    intro e w' h'
    refine SdoG.mono h' ?_
    rintro a b k2 t2 q2 T2 qt2 (⟨hb,ha,herr,rfl,rfl,rfl,rfl,rfl⟩ | ⟨hok,fr,bk,hR,ha,rfl,rfl,rfl,rfl,rfl,rfl⟩)
    · refine ⟨hz,L,.inl ⟨hb,ha,rfl,rfl,?_⟩,htr,by omega,by omega,b1,by omega,by omega,by omega,by omega⟩
      rcases herr with (⟨h1,_⟩ | ⟨l',h1,h2⟩) | ⟨_,_,k',fr,bk,hR,h3⟩
      · rw [hdl] at h1;cases h1
      · rw [hdl] at h1
        injection h1 with h1
        subst h1
        rcases h2 with ⟨h2,h3⟩ | ⟨_,h3,_⟩ | ⟨h2,_,_,h3,h4⟩
        · exact .inr (.inl ⟨h2,h3⟩)
        · exact absurd (by omega) h3
        · obtain ⟨j,hj⟩:=Int.eq_ofNat_of_zero_le h3
          obtain ⟨hj2,hn2,_⟩:=fidx_pos hj
          exact .inr (.inr ⟨h2,h4,_,List.getElem_mem hj2,nameB_iff.1 hn2⟩)
      · have:=htr.room (by omega) hR;omega
    · have hk5:=kfr_10 (n:=raw.size+9) (by omega)
      have hlst:=htr.pool.least hR
      have hok2:=hok
      obtain ⟨l',h1,hg,_,_,hfi⟩:=hok
      rw [hdl] at h1
      injection h1 with h1
      subst h1
      refine ⟨hz,_,.inr ⟨rfl,hg,fun e he hne=>?_,⟨0,rfl,rfl⟩,rfl,?_,hlst.2.1,ha,fun i a b=>?_⟩,htr.plant hpk hR ha hok2,?_,?_,by omega,by omega,by omega,by omega,by omega⟩
      · have:=fidx_neg hfi e he
        rw [nameB_iff.2 hne] at this;cases this
      · rw [← htr.out];exact hlst.1
      · rw [← htr.out];exact hlst.2.2 i a b
      · show T.next+1≤_;omega
      · show bk.length≤_;have:=hR.bk;omega
  · rintro e w' (⟨h1,rfl,hf⟩ | ⟨_,a,b,k2,t2,q2,T2,qt2,F',⟨hz,L2,hlo,g1,g2,g3,g4,g5,g6,g7,g8⟩,rfl,hfs2,_,hmu,hgr⟩)
    · exact ⟨0,_,L,T,F,.inl ⟨h1,rfl,rfl,rfl,rfl⟩,rfl,(hst.fresh hf).later (by omega),hf.mut F,(Gr.refl F w).later hf.size⟩
    · exact ⟨a,b,L2,T2,F',.inr ⟨hz,hlo⟩,rfl,⟨⟨k2,t2,q2,qt2,hfs2,g4,g5,g6,g7,g8⟩,g1,g2,g3⟩,hmu,hgr⟩
def RemPOut (enc:Int) (L:List Item) (T:TreS) (path:ByteArray) (isDir:Bool) (b:Int) (L2:List Item) (T2:TreS):Prop :=
  ((atR enc T path).2.2.2 ≠ 0∧b=(atR enc T path).2.2.2∧L2=L∧T2=T) ∨
  ((atR enc T path).2.2.2=0∧RemOut L T (atR enc T path).1 (atR enc T path).2.2.1 isDir b L2 T2)
set_option maxHeartbeats 1600000 in
theorem St.removeP {F:Nat→Prop} {w:World} {f:Nat} {enc:Int} {p:Nat} {m n:Int} {L:List Item} {T:TreS} {c:Nat} (h:St w F f enc p m n L T c) (hGT:GT w) (path:ByteArray) (isDir:Bool) (hp:path.size≤1000000) (e0:0≤enc) (e8:enc≤8) (hc:c≤90) (hm:0≤m∧m+m≤n) (hn:n≤1000000) (hfit:2+10 * (c:Int)+10≤m) :
    Calls Tryz.prog 40 #[.pointer (some ⟨f,0,none⟩),.string path,.bool isDir] w (StU (RemPOut enc L T path isDir) (c+1) F f enc p m n w):=by
  by_cases hz:(atR enc T path).2.2.2=0
  · obtain ⟨X,hX,hi,he⟩:=at_ok h.tr hz
    have hat:atR enc T path=((atR enc T path).1,(atR enc T path).2.1,X.e,0):=by rw [he,← hz]
    refine (h.remove hGT path isDir hp e0 e8 hat hX hi hc hm hn hfit).mono ?_
    rintro e w' ⟨b,L2,T2,F',hr,rfl,hs⟩
    exact ⟨b,L2,T2,F',.inr ⟨hz,by rw [← he];exact hr⟩,rfl,hs⟩
  · have hst:=h
    obtain ⟨⟨k,t,q,qt,hfs,b1,b2,b3,b4,b5⟩,htr,hnx,hbk⟩:=h
    refine (fremove_any (fun _ _ _ _ _ _ _=>False) F f enc p m n k t q T qt w hfs (htr.tok e0 e8 (by omega)) hGT path isDir hp (fun hz2=>absurd hz2 hz)).mono ?_
    rintro e w' (⟨_,rfl,hf⟩ | ⟨h1,_⟩)
    · exact ⟨_,L,T,F,.inl ⟨hz,rfl,rfl,rfl⟩,rfl,(hst.fresh hf).later (by omega),hf.mut F,(Gr.refl F w).later hf.size⟩
    · exact absurd h1 hz
def RenOut (enc:Int) (L:List Item) (T:TreS) (a b:ByteArray) (r:Int) (L2:List Item) (T2:TreS):Prop :=
  (renR enc T a b ≠ 0∧r=renR enc T a b∧L2=L∧T2=T) ∨
  (renR enc T a b=0∧∃ X ∈ L,X.inn=(atR enc T a).1∧X.e=(atR enc T a).2.2.1∧((r ≠ 0∧MoveErr T (atR enc T a).1 X.e.name (freshR enc T b).1 (freshR enc T b).2.1 0 r∧L2=L∧T2=T)∨(r=0∧(∃ l l2 k,MoveOk T (atR enc T a).1 X.e.name (freshR enc T b).1 (freshR enc T b).2.1 0 X.e l l2 k)∧L2=outOf L X.e.node++[⟨(freshR enc T b).1,⟨(freshR enc T b).2.1,X.e.node,X.e.dir,T.next,0⟩⟩]∧T2.next=T.next+1)))
set_option maxHeartbeats 1600000 in
theorem St.rename {F:Nat→Prop} {w:World} {f:Nat} {enc:Int} {p:Nat} {m n:Int} {L:List Item} {T:TreS} {c:Nat} (h:St w F f enc p m n L T c) (hGT:GT w) (path path2:ByteArray) (hp:path.size≤1000000) (hp2:path2.size≤1000000) (e0:0≤enc) (e8:enc≤8) (hc:c≤90) (hm:0≤m∧m+m≤n) (hn:n≤1000000) (hfit:2+10 * (c:Int)+10≤m) :
    Calls Tryz.prog 75 #[.pointer (some ⟨f,0,none⟩),.string path,.string path2] w (StU (RenOut enc L T path path2) (c+1) F f enc p m n w):=by
  have hst:=h
  obtain ⟨⟨k,t,q,qt,hfs,b1,b2,b3,b4,b5⟩,htr,hnx,hbk⟩:=h
  have hTB:=htr.tb (qt:=qt) (by omega) (by omega) (by omega)
  refine (frename_any (fun a b k2 t2 q2 T2 qt2=>∃ X ∈ L,X.inn=(atR enc T path).1∧X.e=(atR enc T path).2.2.1∧DoS (MvErr T (atR enc T path).1 X.e.name (freshR enc T path2).1 (freshR enc T path2).2.1 0) (MvOk T qt (atR enc T path).1 X.e.name (freshR enc T path2).1 (freshR enc T path2).2.1 0) (X.e.name.size+(freshR enc T path2).2.1.size+11) k t q T qt a b k2 t2 q2 T2 qt2) F f enc p m n k t q T qt w hfs (htr.tok e0 e8 (by omega)) hGT path path2 hp hp2 e0 e8 (fun hz hz2 W Fs s hW hs=>?_)).mono ?_
  · obtain ⟨X,hX,hi,he⟩:=at_ok htr hz
    obtain ⟨hd2,hg2,hps⟩:=fresh_ok htr hz2
    rw [← he]
    obtain ⟨d,hd⟩:∃ d,(atR enc T path).1=d:=⟨_,rfl⟩
    obtain ⟨⟨dst,raw,j⟩,hr⟩:∃ r,freshR enc T path2=r:=⟨_,rfl⟩
    rw [hd] at hi ⊢
    rw [hr] at hd2 hg2 hps ⊢
    simp only at hd2 hg2 hps ⊢
    have hdd:=dir_le htr.li (hi ▸ htr.li.home X hX)
    have hdd2:=dir_le htr.li hd2
    have hg:=(htr.li.good X hX).2.1
    have hgr:=hg2.2.1
    have hk5:=kfr_10 (n:=X.e.name.size+raw.size+11) (by omega)
    refine (sdoG_any (MvErr T d X.e.name dst raw 0) (MvOk T qt d X.e.name dst raw 0) 3 d dst X.e.name raw false 0 (X.e.name.size+raw.size+11) Fs s p m n k t q T qt W hs (fun W' A' t' ht'=>ddoM_any W' A' t' T qt ht' d X.e.name dst raw 0 hdd hdd2 hg hgr (by omega) (fun i l hl=>by have:=htr.len hl;omega) htr.nodes htr.acc (by omega) (by have:=htr.li.len;omega)) (fun _ W'=>dencodeM_any d X.e.name dst raw 0 hdd hdd2 hg hgr (by omega) W') (fun a T2 qt2 ho=>?_) hTB hk5 (by omega) (by omega) hm hn b1 (by omega) (by omega) (by omega)).mono ?_
    · obtain ⟨g1,g2,g3⟩:=htr.mvOk hX hi hps ho
      have:=ho.2.1
      exact g1.tb (by omega) (by rw [g3];omega) (by omega)
    · intro e w' h'
      exact SdoG.mono h' (fun a b k2 t2 q2 T2 qt2 hh=>⟨X,hX,hi,by first | exact he | rfl,hh⟩)
  · rintro e w' (⟨h1,rfl,hf⟩ | ⟨h1,a,b,k2,t2,q2,T2,qt2,F',⟨X,hX,hi,he,hS⟩,rfl,hfs2,_,hmu,hgr⟩)
    · exact ⟨_,L,T,F,.inl ⟨h1,rfl,rfl,rfl⟩,rfl,(hst.fresh hf).later (by omega),hf.mut F,(Gr.refl F w).later hf.size⟩
    · rcases hS with ⟨hb,ha,herr,rfl,rfl,rfl,rfl,rfl⟩ | ⟨rfl,ho,rfl,rfl,rfl⟩
      · exact ⟨b,L,_,F',.inr ⟨h1,X,hX,hi,he,.inl ⟨hb,herr.2,rfl,rfl⟩⟩,rfl,⟨⟨_,_,_,_,hfs2,by omega,by omega,by omega,by omega,by omega⟩,htr,by omega,by omega⟩,hmu,hgr⟩
      · have hz2:(freshR enc T path2).2.2=0:=by
          unfold renR at h1
          split at h1
          · exact h1
          · rename_i q;exact absurd h1 q
        obtain ⟨hd2,hg2,hps⟩:=fresh_ok htr hz2
        obtain ⟨g1,g2,g3⟩:=htr.mvOk hX hi hps ho
        have hg:=(htr.li.good X hX).2.1
        have hgs:=hg2.2.1
        have hk5:=kfr_10 (n:=X.e.name.size+(freshR enc T path2).2.1.size+11) (by omega)
        obtain ⟨_,hqt,y,l,l2,k',hok,_⟩:=ho
        have hy:y=X.e:=by
          have:=hok.1
          rw [findT_inL htr hX hi] at this
          injection this with this
          exact this.symm
        subst hy
        exact ⟨0,_,T2,F',.inr ⟨h1,X,hX,hi,he,.inr ⟨rfl,⟨l,l2,k',hok⟩,rfl,g2⟩⟩,rfl,⟨⟨_,_,_,_,hfs2,by omega,by omega,by omega,by omega,by omega⟩,g1,by omega,by rw [g3];omega⟩,hmu,hgr⟩
open Go.RowKit
theorem FB.ext {F:Nat→Prop} {w w':World} (h:FB F w) (hs:w.heap.size≤w'.heap.size):FB (Go.Proofs.YtpmlggjhfiljmaaGreatDoor.ext F w w') w':=fun j hj=>hj.elim (fun q=>Nat.lt_of_lt_of_le (h j q) hs) (fun q=>q.2)
def SSyncPost (F:Nat→Prop) (s p:Nat) (m n:Int) (k t q:Nat) (T:TreS) (qt:Nat) (w:World) (e:Ending) (w':World):Prop:=∃ F',e=.returned (.int .i64 0)∧StoAt w' F' s p m n k t q T qt∧Mut F w w'∧Gr F w w' F'
theorem ssync_any (F:Nat→Prop) (s p:Nat) (m n:Int) (k t q:Nat) (T:TreS) (qt:Nat) (w:World) (h:StoAt w F s p m n k t q T qt):Calls Tryz.prog 131 #[.pointer (some ⟨s,0,none⟩)] w (SSyncPost F s p m n k t q T qt w):=by
  obtain ⟨v,tr,Fv,At,hb,hFs,hFv,hAt,hs1,hs2,hd,hv,ht,hF⟩:=h
  have c0:w.cell? ⟨s,0,none⟩=some (.pointer (some ⟨v,0,none⟩)):=hb.cell 0
  have HV:=Lib.hid (vsync_any Fv v p m n img0 t k q w hv)
  have HK:=Lib.hid (And.intro hb (And.intro hFs (And.intro hFv (And.intro hAt (And.intro hs1 (And.intro hs2 (And.intro hd (And.intro ht hF))))))))
  clear hb hFs hFv hAt hs1 hs2 hd hv ht hF
  go_enter Tryz.func131,Tryz.ntmps131
  go_wp2_with fail
  refine HV.out.mono ?_
  rintro e w2 ⟨rfl,Fv',hv',hm,hg⟩
  have HP:Hid (SSyncPost F s p m n k t q T qt w (.returned (.int .i64 0)) w2):=Lib.hid (by
    obtain ⟨hb,hFs,hFv,hAt,hs1,hs2,hd,ht,hF⟩:=HK.out
    refine ⟨ext F w w2,rfl,⟨v,tr,Fv',At,hb.mut hm hs1,.inl hFs,fun j hj=>(hg j hj).imp (hFv j) id,fun j hj=>.inl (hAt j hj),fun q=>?_,hs2,fun j hj q=>?_,hv',ht.mut hm (fun j hj q=>hd j hj q),hF.ext hm.size⟩,hm.mono (fun j _ q=>hFv j q),Gr.ext _ _ _⟩
    · rcases hg s q with r | r
      · exact hs1 r
      · have:=hF s hFs;omega
    · rcases hg j q with r | r
      · exact hd j hj r
      · have:=hF j (hAt j hj);omega)
  clear hv' hm hg
  go_wp2
  go_ret
  exact HP.out
def FSyncPost (F:Nat→Prop) (f:Nat) (enc:Int) (p:Nat) (m n:Int) (k t q:Nat) (T:TreS) (qt:Nat) (w:World) (e:Ending) (w':World):Prop:=∃ F',e=.returned (.int .i64 0)∧FsAt w' F' f enc p m n k t q T qt∧Mut F w w'∧Gr F w w' F'
theorem fsync_any (F:Nat→Prop) (f:Nat) (enc:Int) (p:Nat) (m n:Int) (k t q:Nat) (T:TreS) (qt:Nat) (w:World) (h:FsAt w F f enc p m n k t q T qt):Calls Tryz.prog 76 #[.pointer (some ⟨f,0,none⟩)] w (FSyncPost F f enc p m n k t q T qt w):=by
  obtain ⟨s,tr,Fs,At,hb,hFf,hFs,hAt,hf1,hf2,hd,hs,ht,hF⟩:=h
  have c0:w.cell? ⟨f,0,none⟩=some (.pointer (some ⟨s,0,none⟩)):=Blk.cell hb 0
  have HV:=Lib.hid (ssync_any Fs s p m n k t q T qt w hs)
  have HK:=Lib.hid (And.intro hb (And.intro hFf (And.intro hFs (And.intro hAt (And.intro hf1 (And.intro hf2 (And.intro hd (And.intro ht hF))))))))
  clear hb hFs hFf hAt hf1 hf2 hd hs ht hF
  go_enter Tryz.func76,Tryz.ntmps76
  go_wp2_with fail
  refine HV.out.mono ?_
  rintro e w2 ⟨Fs',rfl,hs',hm,hg⟩
  have HP:Hid (FSyncPost F f enc p m n k t q T qt w (.returned (.int .i64 0)) w2):=Lib.hid (by
    obtain ⟨hb,hFf,hFs,hAt,hf1,hf2,hd,ht,hF⟩:=HK.out
    refine ⟨ext F w w2,rfl,⟨s,tr,Fs',At,Blk.mut hb hm hf1,.inl hFf,fun j hj=>(hg j hj).imp (hFs j) id,fun j hj=>.inl (hAt j hj),fun q=>?_,hf2,fun j hj q=>?_,hs',ht.mut hm (fun j hj q=>hd j hj q),hF.ext hm.size⟩,hm.mono (fun j _ q=>hFs j q),Gr.ext _ _ _⟩
    · rcases hg f q with r | r
      · exact hf1 r
      · have:=hF f hFf;omega
    · rcases hg j q with r | r
      · exact hd j hj r
      · have:=hF j (hAt j hj);omega)
  clear hs' hm hg
  go_wp2
  go_ret
  exact HP.out
theorem St.sync {F:Nat→Prop} {w:World} {f:Nat} {enc:Int} {p:Nat} {m n:Int} {L:List Item} {T:TreS} {c:Nat} (h:St w F f enc p m n L T c) :
    Calls Tryz.prog 76 #[.pointer (some ⟨f,0,none⟩)] w (StU (fun b L2 T2=>b=0∧L2=L∧T2=T) (c+1) F f enc p m n w):=by
  obtain ⟨⟨k,t,q,qt,hfs,b1,b2,b3,b4,b5⟩,htr,hnx,hbk⟩:=h
  refine (fsync_any F f enc p m n k t q T qt w hfs).mono ?_
  rintro e w' ⟨F',rfl,hfs2,hm,hg⟩
  exact ⟨0,L,T,F',⟨rfl,rfl,rfl⟩,rfl,⟨⟨k,t,q,qt,hfs2,b1,by omega,by omega,by omega,by omega⟩,htr,by omega,by omega⟩,hm,hg⟩
theorem St.raw {F:Nat→Prop} {w:World} {f:Nat} {enc:Int} {p:Nat} {m n:Int} {L:List Item} {T:TreS} {c:Nat} (h:St w F f enc p m n L T c) (hGT:GT w) (path:ByteArray) (hp:path.size≤1000000) (e0:0≤enc) (e8:enc≤8) (hc:c≤90) :
    Calls Tryz.prog 30 #[.pointer (some ⟨f,0,none⟩),.string path] w fun e w'=>e=.returned (.tuple #[.string (atR enc T path).2.2.1.name,.int .i64 (atR enc T path).2.2.2])∧Fresh w w':=by
  obtain ⟨⟨k,t,q,qt,hfs,b1,b2,b3,b4,b5⟩,htr,hnx,hbk⟩:=h
  exact hfs.raw (htr.tok e0 e8 (by omega)) hGT path hp
theorem St.list {F:Nat→Prop} {w:World} {f:Nat} {enc:Int} {p:Nat} {m n:Int} {L:List Item} {T:TreS} {c:Nat} (h:St w F f enc p m n L T c) (hGT:GT w) (path:ByteArray) (hp:path.size≤1000000) (cur k0:Int) (e0:0≤enc) (e8:enc≤8) (hc:c≤90) :
    Calls Tryz.prog 31 #[.pointer (some ⟨f,0,none⟩),.string path,.int .i64 cur,.int .i64 k0] w (FsListF (flistR enc T path cur k0) w):=by
  obtain ⟨⟨k,t,q,qt,hfs,b1,b2,b3,b4,b5⟩,htr,hnx,hbk⟩:=h
  exact hfs.list (htr.tok e0 e8 (by omega)) htr.rises hGT path hp cur k0
theorem list_ok {enc:Int} {T:TreS} {path:ByteArray} (h:(listR enc T path).2.2=0):T.dirs (listR enc T path).1=some (listR enc T path).2.1:=by
  unfold listR at h ⊢
  simp only at h ⊢
  split at h
  · exact absurd h (by assumption)
  · rename_i h1
    rw [if_neg h1]
    split at h
    · simp at h
    · rename_i h2
      rw [if_neg h2]
      split at h
      · rename_i l hl
        rw [hl]
      · rename_i hl
        simp only at h
        split at h <;> omega
def PlantPOut (enc:Int) (L:List Item) (T:TreS) (path raw:ByteArray) (isDir:Bool) (a b:Int) (L2:List Item) (T2:TreS):Prop :=
  ((listR enc T path).2.2 ≠ 0∧a=0∧b=(listR enc T path).2.2∧L2=L∧T2=T) ∨
  ((listR enc T path).2.2=0∧LinkOut enc L T (listR enc T path).1 (listR enc T path).2.1 raw isDir (PickIs enc (listR enc T path).2.1 raw) a b L2 T2)
theorem St.plantP {F:Nat→Prop} {w:World} {f:Nat} {enc:Int} {p:Nat} {m n:Int} {L:List Item} {T:TreS} {c:Nat} (h:St w F f enc p m n L T c) (hGT:GT w) (path raw:ByteArray) (isDir:Bool) (hp:path.size≤1000000) (e0:0≤enc) (e8:enc≤8) (hr:raw.size≤1000) (hc:c≤90) (hm:0≤m∧m+m≤n) (hn:n≤1000000) (hfit:2+10 * (c:Int)+10≤m) :
    Calls Tryz.prog 36 #[.pointer (some ⟨f,0,none⟩),.string path,.string raw,.bool isDir] w (StG (PlantPOut enc L T path raw isDir) (c+1) F f enc p m n w):=by
  by_cases hz:(listR enc T path).2.2=0
  · have hdl:=list_ok hz
    have hd:=dir_le h.tr.li (dirs_inL h.tr hdl).1
    refine (h.plant hGT path raw isDir hp e0 e8 hr (d:=(listR enc T path).1) (l:=(listR enc T path).2.1) (by rw [← hz]) hdl hd hc hm hn hfit).mono ?_
    rintro e w' ⟨a,b,L2,T2,F',ho,hrest⟩
    exact ⟨a,b,L2,T2,F',.inr ⟨hz,ho⟩,hrest⟩
  · have hst:=h
    obtain ⟨⟨k,t,q,qt,hfs,b1,b2,b3,b4,b5⟩,htr,hnx,hbk⟩:=h
    have hl0:(listR enc T path).2.1=[]∨∃ d,T.dirs d=some (listR enc T path).2.1:=listR_l
    refine (fplant_any (fun _ _ _ _ _ _ _ _=>False) F f enc p m n k t q T qt w hfs (htr.tok e0 e8 (by omega)) hGT path raw isDir hp e0 e8 hr ?_ ?_ (fun hz2=>absurd hz2 hz)).mono ?_
    · rcases hl0 with q | ⟨d,q⟩
      · rw [q];simp
      · have:=htr.len q;omega
    · intro e he
      rcases hl0 with q | ⟨d,q⟩
      · rw [q] at he;cases he
      · have:=(dirs_inL htr q).2
        rw [this] at he
        obtain ⟨X,hX,_,rfl⟩:=mem_inL.1 he
        have:=(htr.li.good X hX).2.1
        omega
    · rintro e w' (⟨_,rfl,hf⟩ | ⟨h1,_⟩)
      · exact ⟨0,_,L,T,F,.inl ⟨hz,rfl,rfl,rfl,rfl⟩,rfl,(hst.fresh hf).later (by omega),hf.mut F,(Gr.refl F w).later hf.size⟩
      · exact absurd h1 hz
end Go.Proofs.YtpmlggjhfiljmaaGreatDoor
