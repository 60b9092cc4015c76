/- Part 27 of what the law rests on. -/
import Derived.Test.YtpmlggjhfiljmaaGreatDoorS09
import Derived.Test.YtpmlggjhfiljmaaGreatDoorS18
import Derived.Test.YtpmlggjhfiljmaaGreatDoorS25
import Derived.Test.YtpmlggjhfiljmaaGreatDoorS26
set_option linter.all false
namespace Go.Proofs.YtpmlggjhfiljmaaGreatDoor
open Go.RowKit
attribute [local go_sem ↓] Go.wp_at_zero Go.wp_at_succ
theorem splL_le:∀ (l:List UInt8),∀ x ∈ splL l,x.length≤l.length
  | [],x,hx=>by simp [splL] at hx;simp [hx]
  | c :: l,x,hx=>by
    have ih:=splL_le l
    unfold splL at hx
    split at hx
    · rcases List.mem_cons.1 hx with rfl | hx
      · simp
      · have:=ih x hx;simp;omega
    · split at hx
      · rename_i h t hq
        rw [hq] at ih
        rcases List.mem_cons.1 hx with rfl | hx
        · have:=ih h (by simp);simp;omega
        · have:=ih x (by simp [hx]);simp;omega
      · rename_i hq
        exact absurd hq (splL_ne l)
theorem splB_le (s:ByteArray):∀ x ∈ splB s,x.size≤s.size:=by
  intro x hx
  unfold splB at hx
  obtain ⟨l,hl,rfl⟩:=List.mem_map.1 hx
  have:=splL_le _ l hl
  have h2:s.data.toList.length=s.size:=Array.length_toList
  show l.toArray.size≤_
  simp
  omega
theorem splitP_le {s:ByteArray} {l:List ByteArray} (h:splitP s=.inl l):∀ x ∈ l,x.size≤s.size:=by
  unfold splitP at h
  have hr:(restP s).size≤s.size:=by unfold restP;rw [ByteArray.size_extract];omega
  split at h
  · cases h
  · split at h
    · cases h
    · split at h
      · injection h with h;subst h;intro x hx;simp at hx
      · split at h
        · cases h
        · split at h
          · cases h
          · injection h with h
            subst h
            intro x hx
            have:=splB_le _ x hx
            omega
theorem parT_le {enc:Int} {T:TreS} {s:ByteArray} {r:Int × ByteArray} (h:parT enc T s=.inl r):r.2.size≤s.size:=by
  unfold parT at h
  split at h
  · cases h
  · rename_i l hl
    split at h
    · cases h
    · rename_i hne
      split at h
      · cases h
      · split at h
        · injection h with h
          subst h
          refine splitP_le hl _ ?_
          simp only
          rw [List.getLastD_eq_getLast?,List.getLast?_eq_some_getLast hne]
          exact List.getLast_mem hne
        · cases h
theorem atR_le (enc:Int) (T:TreS) (s:ByteArray):(atR enc T s).2.1.size≤s.size:=by
  unfold atR
  split
  · exact Nat.zero_le _
  · rename_i r hr
    have:=parT_le hr
    split <;> exact this
def freshR (enc:Int) (T:TreS) (path:ByteArray):Int × ByteArray × Int :=
  if (atR enc T path).2.2.2=0 then (0,⟨#[]⟩,6) else if (atR enc T path).2.2.2 ≠ 5∨(atR enc T path).2.1.size=0 then (0,⟨#[]⟩,(atR enc T path).2.2.2) else ((atR enc T path).1,(rawF enc (atR enc T path).2.1).1,(rawF enc (atR enc T path).2.1).2)
def listR (enc:Int) (T:TreS) (path:ByteArray):Int × List Ent × Int :=
  let r:=nvR (pathT enc T path)
  if r.2.2 ≠ 0 then (0,[],r.2.2) else if r.2.1=false then (0,[],8) else match T.dirs r.1 with
    | some l=>(r.1,l,0)
    | none=>(r.1,[],if T.files r.1=true then 8 else 5)
def ListF (r:Int × List Ent × Int) (w:World) (e:Ending) (w':World):Prop:=∃ a c,e=.returned (.tuple #[.int .i64 r.1,.slice a r.2.1.length c,.int .i64 r.2.2])∧SlE w' (fun g=>w.heap.size≤g) (.slice a r.2.1.length c) r.2.1∧Fresh w w'
section
variable (enc:Int) (A:Nat→Prop) (f s tr:Nat) (T:TreS) (q:Nat) (hT:TOK enc T) (w:World) (hv:FsV w f s enc tr) (h:TreeAt w A tr T q) (hGT:GT w)
include hT hv h hGT
set_option maxRecDepth 100000 in
set_option maxHeartbeats 1600000 in
theorem fresh_any (path:ByteArray) (hp:path.size≤1000000) (h0:0≤enc) (h8:enc≤8):Calls Tryz.prog 69 #[.pointer (some ⟨f,0,none⟩),.string path] w (ParF (freshR enc T path) w):=by
  have HA:=Lib.hid (at_any2 enc A f s tr T q hT w hv h hGT path hp)
  have hle:=atR_le enc T path
  have HV:=Lib.hid hv
  unfold freshR
  obtain ⟨r,hr⟩:∃ r,atR enc T path=r:=⟨_,rfl⟩
  rw [hr] at HA hle ⊢
  obtain ⟨d,nm,⟨yn,yd,yr,yc,ys⟩,k⟩:=r
  simp only at HA hle ⊢
  clear hv h hT hr
  by_cases hk:k=0
  · subst hk
    rw [if_pos rfl]
    go_enter Tryz.func69,Tryz.ntmps69
    go_wp2_with fail
    refine HA.out.mono ?_
    rintro e w2 ⟨rfl,hf⟩
    have HF:=Lib.hid (hf.alloc (.cells #[.string yn,.int .i64 yd,.bool yr,.int .i64 yc,.int .i64 ys] 88))
    clear hf
    go_wp2
    go_ret3
    exact ⟨rfl,HF.out⟩
  · rw [if_neg hk]
    have hkb:((k == 0):Bool)=false:=by simp [hk]
    by_cases h5:k ≠ 5∨nm.size=0
    · rw [if_pos h5]
      by_cases h51:k=5
      · subst h51
        have hz:nm=⟨#[]⟩:=by
          have h0:nm.size=0:=by rcases h5 with h | h;exact absurd rfl h;exact h
          have:nm.data.toList=[]:=List.eq_nil_of_length_eq_zero (by rw [Array.length_toList];exact h0)
          exact bytes_inj.1 (by rw [ByteArray.toList_eq,ByteArray.toList_eq,this])
        subst hz
        clear h5 hk hkb
        go_enter Tryz.func69,Tryz.ntmps69
        go_wp2_with fail
        refine HA.out.mono ?_
        rintro e w2 ⟨rfl,hf⟩
        have HF:=Lib.hid (hf.alloc (.cells #[.string yn,.int .i64 yd,.bool yr,.int .i64 yc,.int .i64 ys] 88))
        clear hf
        go_wp2
        go_ret3
        exact ⟨rfl,HF.out⟩
      · have h5b:(k != 5)=true:=by simp [h51]
        clear h5 hk h51
        go_enter Tryz.func69,Tryz.ntmps69
        go_wp2_with fail
        refine HA.out.mono ?_
        rintro e w2 ⟨rfl,hf⟩
        have HF:=Lib.hid (hf.alloc (.cells #[.string yn,.int .i64 yd,.bool yr,.int .i64 yc,.int .i64 ys] 88))
        clear hf
        go_wp2
        go_ret3
        exact ⟨rfl,HF.out⟩
    · rw [if_neg h5]
      have h51:k=5:=by
        rcases Decidable.em (k=5) with h | h
        · exact h
        · exact absurd (.inl h) h5
      subst h51
      have hne:nm.toList.isEmpty=false:=ne_str (by rcases Nat.eq_zero_or_pos nm.size with h | h;exact absurd (.inr h) h5;exact h)
      have HR:=Lib.hid (fun W=>fraw_any enc nm h0 h8 (by omega) W)
      unfold RawPost at HR
      obtain ⟨r,hr⟩:∃ r,rawF enc nm=r:=⟨_,rfl⟩
      rw [hr] at HR ⊢
      obtain ⟨raw,j⟩:=r
      clear h5 hk hkb hr
      go_enter Tryz.func69,Tryz.ntmps69
      go_wp2_with fail
      refine HA.out.mono ?_
      rintro e w2 ⟨rfl,hf⟩
      have hf2:=hf.alloc (.cells #[.string yn,.int .i64 yd,.bool yr,.int .i64 yc,.int .i64 ys] 88)
      have HF:=Lib.hid hf2
      have c1:(w2.alloc (.cells #[.string yn,.int .i64 yd,.bool yr,.int .i64 yc,.int .i64 ys] 88)).cell? ⟨f,1,none⟩=some (.int .i64 enc):=(Blk.keep HV.out hf2).cell 1
      clear hf hf2
      go_wp2_with fail
      refine (HR.out _).mono ?_
      rintro e w3 ⟨rfl,hf3⟩
      have HF3:=Lib.hid (HF.out.trans hf3)
      clear hf3 c1
      go_wp2
      go_ret3
      exact ⟨rfl,HF3.out⟩
end
end Go.Proofs.YtpmlggjhfiljmaaGreatDoor
namespace Go.Proofs.YtpmlggjhfiljmaaGreatDoor
open Go.RowKit
attribute [local go_sem ↓] Go.wp_at_zero Go.wp_at_succ
theorem StoAt.mut {S F:Nat→Prop} {w w':World} {s p:Nat} {m n:Int} {k t q:Nat} {T:TreS} {qt:Nat} (h:StoAt w F s p m n k t q T qt) (hf:Mut S w w') (hn:∀ j,F j→¬ S j):StoAt w' F s p m n k t q T qt:=by
  obtain ⟨v,tr,Fv,At,hb,hFs,hFv,hAt,hs1,hs2,hd,hv,ht,hF⟩:=h
  exact ⟨v,tr,Fv,At,hb.mut hf (hn _ hFs),hFs,hFv,hAt,hs1,hs2,hd,hv.mut hf (fun j hj=>hn _ (hFv j hj)),ht.mut hf (fun j hj=>hn _ (hAt j hj)),hF.later hf.size⟩
theorem StoAt.fresh {F:Nat→Prop} {w w':World} {s p:Nat} {m n:Int} {k t q:Nat} {T:TreS} {qt:Nat} (h:StoAt w F s p m n k t q T qt) (hf:Fresh w w'):StoAt w' F s p m n k t q T qt:=h.mut (hf.mut fun _=>False) (fun _ _ q=>q)
theorem StoAt.fb {F:Nat→Prop} {w:World} {s p:Nat} {m n:Int} {k t q:Nat} {T:TreS} {qt:Nat} (h:StoAt w F s p m n k t q T qt):FB F w:=by
  obtain ⟨v,tr,Fv,At,hb,hFs,hFv,hAt,hs1,hs2,hd,hv,ht,hF⟩:=h
  exact hF
def FsAt (w:World) (F:Nat→Prop) (f:Nat) (enc:Int) (p:Nat) (m n:Int) (k t q:Nat) (T:TreS) (qt:Nat):Prop :=
  ∃ s tr Fs At,FsV w f s enc tr∧F f∧(∀ j,Fs j→F j)∧(∀ j,At j→F j)∧¬ Fs f∧¬ At f∧(∀ j,At j→¬ Fs j)∧StoAt w Fs s p m n k t q T qt∧TreeAt w At tr T qt∧FB F w
theorem FsAt.mut {S F:Nat→Prop} {w w':World} {f:Nat} {enc:Int} {p:Nat} {m n:Int} {k t q:Nat} {T:TreS} {qt:Nat} (h:FsAt w F f enc p m n k t q T qt) (hf:Mut S w w') (hn:∀ j,F j→¬ S j):FsAt w' F f enc p m n k t q T qt:=by
  obtain ⟨s,tr,Fs,At,hb,hFf,hFs,hAt,hf1,hf2,hd,hs,ht,hF⟩:=h
  exact ⟨s,tr,Fs,At,Blk.mut hb hf (hn _ hFf),hFf,hFs,hAt,hf1,hf2,hd,hs.mut hf (fun j hj=>hn _ (hFs j hj)),ht.mut hf (fun j hj=>hn _ (hAt j hj)),hF.later hf.size⟩
theorem FsAt.fresh {F:Nat→Prop} {w w':World} {f:Nat} {enc:Int} {p:Nat} {m n:Int} {k t q:Nat} {T:TreS} {qt:Nat} (h:FsAt w F f enc p m n k t q T qt) (hf:Fresh w w'):FsAt w' F f enc p m n k t q T qt:=h.mut (hf.mut fun _=>False) (fun _ _ q=>q)
theorem FsAt.fb {F:Nat→Prop} {w:World} {f:Nat} {enc:Int} {p:Nat} {m n:Int} {k t q:Nat} {T:TreS} {qt:Nat} (h:FsAt w F f enc p m n k t q T qt):FB F w:=by
  obtain ⟨s,tr,Fs,At,hb,hFf,hFs,hAt,hf1,hf2,hd,hs,ht,hF⟩:=h
  exact hF
structure TB (T:TreS) (qt:Nat):Prop where
  qt:qt≤100000
  bk:T.bk.length≤100000
  len:∀ i l,T.dirs i=some l→l.length≤10000
  next:0≤T.next∧T.next≤100000
abbrev deedV (kind dir dst:Int) (name as_:ByteArray) (isDir:Bool) (short:Int):Value:=.agg #[.int .i64 kind,.int .i64 dir,.int .i64 dst,.string name,.string as_,.bool isDir,.int .i64 short]
def SdoG (S:Int→Int→Nat→Nat→Nat→TreS→Nat→Prop) (F:Nat→Prop) (s p:Nat) (m n:Int) (w:World) (e:Ending) (w':World):Prop :=
  ∃ a b k t q T qt F',S a b k t q T qt∧e=.returned (.tuple #[.int .i64 a,.int .i64 b])∧StoAt w' F' s p m n k t q T qt∧TB T qt∧Mut F w w'∧Gr F w w' F'
def FdoG (S:Int→Int→Nat→Nat→Nat→TreS→Nat→Prop) (F:Nat→Prop) (f:Nat) (enc:Int) (p:Nat) (m n:Int) (w:World) (e:Ending) (w':World):Prop :=
  ∃ a b k t q T qt F',S a b k t q T qt∧e=.returned (.tuple #[.int .i64 a,.int .i64 b])∧FsAt w' F' f enc p m n k t q T qt∧TB T qt∧Mut F w w'∧Gr F w w' F'
theorem fover_any (F:Nat→Prop) (f:Nat) (enc:Int) (p:Nat) (m n:Int) (k t q:Nat) (T:TreS) (qt:Nat) (w:World) (h:FsAt w F f enc p m n k t q T qt):Calls Tryz.prog 68 #[.pointer (some ⟨f,0,none⟩)] w fun e w'=>e=.returned (.bool false)∧w=w':=by
  obtain ⟨s,tr,Fs,At,hb,hFf,hFs,hAt,hf1,hf2,hd,hs,ht,hF⟩:=h
  have c0:w.cell? ⟨f,0,none⟩=some (.pointer (some ⟨s,0,none⟩)):=hb.cell 0
  have HO:=Lib.hid (sover_any Fs s p m n k t q T qt w hs)
  clear hb hs ht hd hF hFs hAt
  go_enter Tryz.func68,Tryz.ntmps68
  go_wp2_with fail
  refine HO.out.mono ?_
  rintro e w1 ⟨rfl,rfl⟩
  go_wp2
  go_ret
  exact ⟨rfl,rfl⟩
set_option maxRecDepth 100000 in
set_option maxHeartbeats 3200000 in
theorem fdo_any (S:Int→Int→Nat→Nat→Nat→TreS→Nat→Prop) (kind dir dst:Int) (name as_:ByteArray) (isDir:Bool) (short:Int) (F:Nat→Prop) (f:Nat) (enc:Int) (p:Nat) (m n:Int) (k t q:Nat) (T:TreS) (qt:Nat) (w:World) (h:FsAt w F f enc p m n k t q T qt)
    (HS:∀ W Fs s,Fresh w W→StoAt W Fs s p m n k t q T qt→Calls Tryz.prog 127 #[.pointer (some ⟨s,0,none⟩),deedV kind dir dst name as_ isDir short] W (SdoG S Fs s p m n W)) :
    Calls Tryz.prog 70 #[.pointer (some ⟨f,0,none⟩),deedV kind dir dst name as_ isDir short] w (FdoG S F f enc p m n w):=by
  obtain ⟨s,tr,Fs,At,hb,hFf,hFs,hAt,hf1,hf2,hd,hs,ht,hF⟩:=h
  unfold FsV at hb
  obtain ⟨W5,hW5⟩:∃ W5,w.alloc (.cells #[.int .i64 kind,.int .i64 dir,.int .i64 dst,.string name,.string as_,.bool isDir,.int .i64 short] 142)=W5:=⟨_,rfl⟩
  have f5:Fresh w W5:=by rw [← hW5];exact (Fresh.refl _).alloc _
  have b5:Blk W5 w.heap.size 142 #[.int .i64 kind,.int .i64 dir,.int .i64 dst,.string name,.string as_,.bool isDir,.int .i64 short]:=by rw [← hW5];exact Blk.new _ _ _
  have HP:Hid (∀ W,Mut Fs W5 W→W.cell? ⟨f,0,none⟩=some (.pointer (some ⟨s,0,none⟩))∧W.cell? ⟨w.heap.size,0,none⟩=some (.int .i64 kind)∧W.cell? ⟨w.heap.size,1,none⟩=some (.int .i64 dir)∧W.cell? ⟨w.heap.size,2,none⟩=some (.int .i64 dst)∧W.cell? ⟨w.heap.size,3,none⟩=some (.string name)∧W.cell? ⟨w.heap.size,4,none⟩=some (.string as_)∧W.cell? ⟨w.heap.size,5,none⟩=some (.bool isDir)∧W.cell? ⟨w.heap.size,6,none⟩=some (.int .i64 short)):=Lib.hid (fun W hW=>by
    have c:=(hb.keep f5).mut hW hf1
    have d:=b5.mut hW (fun h=>by have:=hF _ (hFs _ h);omega)
    exact ⟨c.cell 0,d.cell 0,d.cell 1,d.cell 2,d.cell 3,d.cell 4,d.cell 5,d.cell 6⟩)
  have HDO:=Lib.hid (fun W (hW:Fresh W5 W)=>HS W Fs s (f5.trans hW) (hs.fresh (f5.trans hW)))
  have HF5:=Lib.hid f5
  have H:=Lib.hid (And.intro hb (And.intro hFf (And.intro hFs (And.intro hf1 hF))))
  have hfl:=hb.lt
  obtain ⟨e0,e1,e2,e3,e4,e5,e6,e7⟩:=HP.out W5 (Mut.refl _ _)
  clear hb hs ht hd hF hFs hAt f5 b5 HS
  go_enter Tryz.func70,Tryz.ntmps70
  go_wp2_with fail
  go_region_held3 (fun W=>W.cell? ⟨f,0,none⟩=some (.pointer (some ⟨s,0,none⟩))∧W.cell? ⟨w.heap.size,0,none⟩=some (.int .i64 kind)∧W.cell? ⟨w.heap.size,1,none⟩=some (.int .i64 dir)∧W.cell? ⟨w.heap.size,2,none⟩=some (.int .i64 dst)∧W.cell? ⟨w.heap.size,3,none⟩=some (.string name)∧W.cell? ⟨w.heap.size,4,none⟩=some (.string as_)∧W.cell? ⟨w.heap.size,5,none⟩=some (.bool isDir)∧W.cell? ⟨w.heap.size,6,none⟩=some (.int .i64 short)) (first | go_keep | exact hS8 | (have:=hS8;exact hS8)) (first
    | (go_at_call 127;refine (HDO.out _ (by repeat (first | exact Fresh.refl _ | refine Fresh.drew ?_))).mono ?_;rintro e w2 ⟨a,b,k2,t2,q2,T2,qt2,F2,hS,rfl,hst,hTB,hm,hg⟩;have hm5:Mut Fs W5 w2:=(Fresh.andMut (by repeat (first | exact Fresh.refl _ | refine Fresh.drew ?_)) hm);have hS8:=HP.out w2 hm5;have HM:=Lib.hid (And.intro hS (And.intro hst (And.intro hTB (And.intro hm5 hg))));clear hS hst hTB hm hg))
  all_goals
    have hb2:Blk w2 f 152 #[.pointer (some ⟨s,0,none⟩),.int .i64 enc,.pointer (some ⟨tr,0,none⟩)]:=(H.out.1.keep HF5.out).mut HM.out.2.2.2.1 hf1
    have c0:w2.cell? ⟨f,0,none⟩=some (.pointer (some ⟨s,0,none⟩)):=hb2.cell 0
    have HTR:=Lib.hid (stree_any F2 s p m n k2 t2 q2 T2 qt2 w2 HM.out.2.1 (by have:=HM.out.2.2.1.qt;omega) HM.out.2.2.1.bk (fun i l hl=>by have:=HM.out.2.2.1.len i l hl;omega))
    have HB2:=Lib.hid hb2
    clear hW5 hm5 hS8 e0 e1 e2 e3 e4 e5 e6 e7 hb2
    go_wp2_with fail
    refine HTR.out.mono ?_
    rintro e w3 ⟨x,rfl,hx,hf3⟩
    have hb3:=HB2.out.keep hf3
    have c2:w3.cell? ⟨f,2,none⟩=some (.pointer (some ⟨tr,0,none⟩)):=hb3.cell 2
    have z2:w3.frozen? ⟨f,2,none⟩=false:=hb3.frozen 2
    have HFIN:Hid (FdoG S F f enc p m n w (.returned (.tuple #[.int .i64 a,.int .i64 b])) (w3.setCell ⟨f,2,none⟩ (.pointer (some ⟨x,0,none⟩)))):=Lib.hid (by
      obtain ⟨hS,hst,hTB,hm5,hg⟩:=HM.out
      obtain ⟨_,_,hFs,_,hF⟩:=H.out
      have z5:=HF5.out.size
      have zz2:=hm5.size
      have z3:=hf3.size
      have hu:Mut (fun j=>j=f) w3 (w3.setCell ⟨f,2,none⟩ (.pointer (some ⟨x,0,none⟩))):=(Mut.refl (fun j=>j=f) w3).setCell (p:=⟨f,2,none⟩) (.inl rfl) _
      have zu:=hu.size
      have hF2:∀ j,F2 j→F j∨(w.heap.size≤j∧j<w2.heap.size):=fun j hj=>by
        rcases hg j hj with h | h
        · exact .inl (hFs j h)
        · have h1:W5.heap.size≤j:=h.1
          exact .inr ⟨by omega,h.2⟩
      have hF2f:¬ F2 f:=fun h=>by
        rcases hg f h with h | h
        · exact hf1 h
        · have h1:W5.heap.size≤f:=h.1
          omega
      have hF2l:∀ j,F2 j→j<w2.heap.size:=fun j hj=>by
        rcases hF2 j hj with h | h
        · have:=hF j h;omega
        · exact h.2
      refine ⟨a,b,k2,t2,q2,T2,qt2,ext F w (w3.setCell ⟨f,2,none⟩ (.pointer (some ⟨x,0,none⟩))),hS,rfl,⟨s,x,F2,fun j=>w2.heap.size≤j∧j<w3.heap.size,hb3.set (i:=2),.inl hFf,fun j hj=>?_,fun j hj=>.inr ⟨by omega,by omega⟩,hF2f,fun h=>by omega,fun j hj h=>by have:=hF2l j h;omega,(hst.fresh hf3).mut hu (fun j hj e=>hF2f (e ▸ hj)),(hx.mono (fun j h1 h2=>⟨h2,h1⟩)).mut hu (fun j hj e=>by omega),fun j hj=>?_⟩,hTB,?_,Gr.ext _ _ _⟩
      · rcases hF2 j hj with h | h
        · exact .inl h
        · exact .inr ⟨h.1,by omega⟩
      · rcases hj with h | h
        · have:=hF j h;omega
        · exact h.2
      · exact ((HF5.out.andMut (hm5.mono (T:=F) (fun j _ h=>hFs j h))).andFresh hf3).trans2 hu (fun _ h=>h) (fun j _ e=>by rw [e];exact hFf))
    clear hx hf3 hb3 HM
    go_wp2
    go_ret2
    exact HFIN.out
end Go.Proofs.YtpmlggjhfiljmaaGreatDoor
namespace Go.Proofs.YtpmlggjhfiljmaaGreatDoor
open Go.RowKit
def DoG (Serr:Int→Prop) (Sok:Int→TreS→Nat→Prop) (A:Nat→Prop) (x:Nat) (w:World) (e:Ending) (w':World):Prop :=
  (∃ r,r ≠ 0∧Serr r∧e=.returned (.tuple #[.int .i64 0,.int .i64 r])∧Mut A w w') ∨
  (∃ a T2 qt2 A',Sok a T2 qt2∧e=.returned (.tuple #[.int .i64 a,.int .i64 0])∧TreeAt w' A' x T2 qt2∧Mut A w w'∧Gr A w w' A')
def DoS (Serr:Int→Prop) (Sok:Int→TreS→Nat→Prop) (len:Nat) (k t q:Nat) (T:TreS) (qt:Nat) (a b:Int) (k2 t2 q2:Nat) (T2:TreS) (qt2:Nat):Prop :=
  (b ≠ 0∧a=0∧Serr b∧k2=k∧t2=t∧q2=q∧T2=T∧qt2=qt)∨(b=0∧Sok a T2 qt2∧k2=k+1∧t2=t+kfr len∧q2=q+kfr len)
set_option maxRecDepth 100000 in
set_option maxHeartbeats 3200000 in
theorem sdoG_any (Serr:Int→Prop) (Sok:Int→TreS→Nat→Prop) (kind dir dst:Int) (name as_:ByteArray) (isDir:Bool) (short:Int) (len:Nat) (F:Nat→Prop) (s p:Nat) (m n:Int) (k t q:Nat) (T:TreS) (qt:Nat) (w:World) (h:StoAt w F s p m n k t q T qt)
    (hdo:∀ W A x,TreeAt W A x T qt→Calls Tryz.prog 184 #[.pointer (some ⟨x,0,none⟩),deedV kind dir dst name as_ isDir short] W (DoG Serr Sok A x W))
    (hen:(∃ a T2 qt2,Sok a T2 qt2)→∀ W,Calls Tryz.prog 185 #[deedV kind dir dst name as_ isDir short] W (EncD len W))
    (hTB:∀ a T2 qt2,Sok a T2 qt2→TB T2 qt2) (hB:TB T qt) (hlen:kfr len≤10) (hlen1:1≤len) (hlen2:len≤1000) (hm:0≤m∧m+m≤n) (hn:n≤1000000) (ht:1≤t) (hfit:(t:Int)+kfr len≤m) (hq:q≤70000) (hk:k≤100000) :
    Calls Tryz.prog 127 #[.pointer (some ⟨s,0,none⟩),deedV kind dir dst name as_ isDir short] w (SdoG (DoS Serr Sok len k t q T qt) F s p m n w):=by
  have hSA:=h
  obtain ⟨v,tr,Fv,At,hb,hFs,hFv,hAt,hs1,hs2,hdj,hv,htr,hFB⟩:=h
  have hsl:=hb.lt
  have H:=Lib.hid (And.intro hb (And.intro hv (And.intro htr hFB)))
  have HOV:=Lib.hid (fun W (hW:Fresh w W)=>over_any Fv v p m n img0 t k q W (hv.fresh hW))
  have HTC:=Lib.hid (fun W (hW:Fresh w W)=>treeClone_any W At tr T qt (htr.fresh hW) (by have:=hB.qt;omega) hB.bk (fun i l hh=>by have:=hB.len i l hh;omega))
  have HEN:=Lib.hid hen
  have HDO:=Lib.hid hdo
  have HTB:=Lib.hid hTB
  have HBB:=Lib.hid hB
  have HSA:=Lib.hid hSA
  obtain ⟨W5,hW5⟩:∃ W5,((w.alloc (.cells #[.pointer (some ⟨s,0,none⟩)] 150)).alloc (.cells #[.int .i64 kind,.int .i64 dir,.int .i64 dst,.string name,.string as_,.bool isDir,.int .i64 short] 142))=W5:=⟨_,rfl⟩
  have f5:Fresh w W5:=by rw [← hW5];exact ((Fresh.refl w).alloc _).alloc _
  have b0:Blk W5 w.heap.size 150 #[.pointer (some ⟨s,0,none⟩)]:=by rw [← hW5];exact (Blk.new _ _ _).keep ((Fresh.refl _).alloc _)
  have b1:Blk W5 (w.heap.size+1) 142 #[.int .i64 kind,.int .i64 dir,.int .i64 dst,.string name,.string as_,.bool isDir,.int .i64 short]:=by
    rw [← hW5]
    have:=Blk.new (w.alloc (.cells #[.pointer (some ⟨s,0,none⟩)] 150)) 142 #[.int .i64 kind,.int .i64 dir,.int .i64 dst,.string name,.string as_,.bool isDir,.int .i64 short]
    rw [World.size_alloc] at this
    exact this
  have HS5:Hid (W5.heap.size=w.heap.size+2):=Lib.hid (by rw [← hW5];simp)
  have HSP:Hid (∀ W,Fresh W5 W→W.cell? ⟨w.heap.size,0,none⟩=some (.pointer (some ⟨s,0,none⟩))∧W.cell? ⟨s,0,none⟩=some (.pointer (some ⟨v,0,none⟩))∧W.cell? ⟨s,1,none⟩=some (.pointer (some ⟨tr,0,none⟩))∧W.cell? ⟨w.heap.size+1,0,none⟩=some (.int .i64 kind)∧W.cell? ⟨w.heap.size+1,1,none⟩=some (.int .i64 dir)∧W.cell? ⟨w.heap.size+1,2,none⟩=some (.int .i64 dst)∧W.cell? ⟨w.heap.size+1,3,none⟩=some (.string name)∧W.cell? ⟨w.heap.size+1,4,none⟩=some (.string as_)∧W.cell? ⟨w.heap.size+1,5,none⟩=some (.bool isDir)∧W.cell? ⟨w.heap.size+1,6,none⟩=some (.int .i64 short)):=Lib.hid (fun W hW=>by
    have c:=b0.keep hW
    have d:=b1.keep hW
    have a:=hb.keep (f5.trans hW)
    exact ⟨by rw [c.cell];rfl,by rw [a.cell];rfl,by rw [a.cell];rfl,by rw [d.cell];rfl,by rw [d.cell];rfl,by rw [d.cell];rfl,by rw [d.cell];rfl,by rw [d.cell];rfl,by rw [d.cell];rfl,by rw [d.cell];rfl⟩)
  have HF5:=Lib.hid f5
  obtain ⟨e0,e1,e2,e3,e4,e5,e6,e7,e8,e9⟩:=HSP.out W5 (Fresh.refl _)
  clear hb hv htr hFB b0 b1 f5 hdo hen hTB hB hSA
  go_enter Tryz.func127,Tryz.ntmps127
  go_wp2_with fail
  refine (HOV.out _ HF5.out).mono ?_
  rintro e w1 ⟨rfl,rfl⟩
  clear hW5
  go_wp2_with fail
  refine (HTC.out _ HF5.out).mono ?_
  rintro e w2 ⟨x,rfl,hx,hf2⟩
  have HX:=Lib.hid (And.intro hx hf2)
  clear e0 e1 e2 e3 e4 e5 e6 e7 e8 e9
  obtain ⟨e0,e1,e2,e3,e4,e5,e6,e7,e8,e9⟩:=HSP.out w2 hf2
  clear hx hf2
  go_wp2_with fail
  refine (HDO.out w2 (fun g=>W5.heap.size≤g∧g<w2.heap.size) x (HX.out.1.mono (fun g hg hh=>⟨hh,hg⟩))).mono ?_
  rintro e w3 (⟨r,hr0,hre,rfl,hm3⟩ | ⟨i,T2,qt2,A3,hok,rfl,ht3,hm3,hg3⟩)
  · have z5:=HF5.out.size
    have hrb:(r != 0)=true:=by simp [hr0]
    have hfin:Hid (SdoG (DoS Serr Sok len k t q T qt) F s p m n w (.returned (.tuple #[.int .i64 0,.int .i64 r])) w3):=Lib.hid (by
      have hf3:Fresh w w3:=(HF5.out.trans HX.out.2).mut2 hm3 (fun j hj=>Nat.le_trans z5 hj.1)
      exact ⟨0,r,k,t,q,T,qt,F,.inl ⟨hr0,rfl,hre,rfl,rfl,rfl,rfl,rfl⟩,rfl,HSA.out.fresh hf3,HBB.out,hf3.mut F,(Gr.refl F w).later hf3.size⟩)
    clear hre hm3 hr0
    go_wp2
    go_ret2
    exact hfin.out
  · have z5:=HF5.out.size
    have f3:Fresh W5 w3:=HX.out.2.mut2 hm3 (fun j hj=>hj.1)
    have HM3:=Lib.hid (And.intro hok (And.intro hg3 (And.intro ht3 (And.intro f3 hm3.size))))
    clear e0 e1 e2 e3 e4 e5 e6 e7 e8 e9
    obtain ⟨e0,e1,e2,e3,e4,e5,e6,e7,e8,e9⟩:=HSP.out w3 f3
    clear hok hm3 hg3 ht3 f3
    go_wp2_with fail
    refine (HEN.out ⟨_,_,_,HM3.out.1⟩ _).mono ?_
    rintro e w4 ⟨r,rfl,hrs,hf4⟩
    have f4:Fresh W5 (w4.alloc (.cells #[.string r] 9)):=(HM3.out.2.2.2.1.trans hf4).alloc _
    have hr9:(w4.alloc (.cells #[.string r] 9)).cell? ⟨w4.heap.size,0,none⟩=some (.string r):=by
      have:=(Blk.new w4 9 #[.string r]).cell 0
      exact this
    have z4:W5.heap.size≤w4.heap.size:=(HM3.out.2.2.2.1.trans hf4).size
    clear e0 e1 e2 e3 e4 e5 e6 e7 e8 e9
    obtain ⟨e0,e1,e2,e3,e4,e5,e6,e7,e8,e9⟩:=HSP.out _ f4
    have hkf:kfr r.size=kfr len:=by rw [hrs]
    have HRUN:=Lib.hid (run1_any Fv s v p m n k t q (w4.alloc (.cells #[.string r] 9)) w.heap.size w4.heap.size undef rfl r e0 hr9 e1 (by have:=HS5.out;simp;omega) (by simp) (by simp;omega) (H.out.2.1.fresh (HF5.out.trans f4)) hm hn ht (by omega) (by omega) (by omega) (by omega) (by omega))
    have HF4:=Lib.hid (And.intro hrs (And.intro hf4 f4))
    clear hrs hf4 f4 hr9 hkf
    go_wp2_with fail
    refine HRUN.out.mono ?_
    rintro e w5 ⟨rfl,F2,hv2,hm2,hg2⟩
    have hFvl:∀ j,Fv j→j<w.heap.size:=fun j hj=>by have:=H.out.2.2.2 j (hFv j hj);exact this
    have fC:Fresh w (w4.alloc (.cells #[.string r] 9)):=HF5.out.trans HF4.out.2.2
    have zC:=fC.size
    have e0':w5.cell? ⟨w.heap.size,0,none⟩=some (.pointer (some ⟨s,0,none⟩)):=(hm2.cell (p:=⟨w.heap.size,0,none⟩) (by have:=HS5.out;show w.heap.size<_;simp;omega) (fun h=>by have:=hFvl w.heap.size h;omega)).trans e0
    have bs5:Blk w5 s 201 #[.pointer (some ⟨v,0,none⟩),.pointer (some ⟨tr,0,none⟩)]:=(H.out.1.keep fC).mut hm2 hs1
    have e2':w5.cell? ⟨s,1,none⟩=some (.pointer (some ⟨tr,0,none⟩)):=by rw [bs5.cell];rfl
    have g2':w5.frozen? ⟨s,1,none⟩=false:=bs5.frozen 1
    have u6:Mut (fun j=>j=s) w5 (w5.setCell ⟨s,1,none⟩ (.pointer (some ⟨x,0,none⟩))):=(Mut.refl (fun j=>j=s) w5).setCell (p:=⟨s,1,none⟩) (.inl rfl) _
    have hfin:Hid (SdoG (DoS Serr Sok len k t q T qt) F s p m n w (.returned (.tuple #[.int .i64 i,.int .i64 0])) (w5.setCell ⟨s,1,none⟩ (.pointer (some ⟨x,0,none⟩)))):=Lib.hid (by
      obtain ⟨hok,hg3,ht3,f3,z3⟩:=HM3.out
      obtain ⟨hrs,hf4,f4⟩:=HF4.out
      have hz4:=hf4.size
      have hz5:=hm2.size
      have hz5':w4.heap.size+1≤w5.heap.size:=by simpa using hz5
      have hz6:=u6.size
      have hs5:=HS5.out
      have hz2:=HX.out.2.size
      have hA3:∀ j,A3 j→w.heap.size≤j∧j<w4.heap.size:=fun j hj=>by
        rcases hg3 j hj with h | h
        · omega
        · omega
      have hF2:∀ j,F2 j→F j∨(w4.heap.size≤j∧j<w5.heap.size):=fun j hj=>by
        rcases hg2 j hj with h | h
        · exact .inl (hFv j h)
        · have:=h.1;simp at this;exact .inr ⟨by omega,h.2⟩
      have hF2s:¬ F2 s:=fun h=>by
        rcases hg2 s h with h | h
        · exact hs1 h
        · have:=h.1;simp at this;omega
      rw [hrs] at hv2
      refine ⟨i,0,k+1,t+kfr len,q+kfr len,T2,qt2,ext F w (w5.setCell ⟨s,1,none⟩ (.pointer (some ⟨x,0,none⟩))),.inr ⟨rfl,hok,rfl,rfl,rfl⟩,rfl,⟨v,x,F2,A3,bs5.set (i:=1),.inl hFs,fun j hj=>?_,fun j hj=>.inr ⟨(hA3 j hj).1,by have:=(hA3 j hj).2;omega⟩,hF2s,fun h=>by have:=(hA3 s h).1;omega,fun j hj h=>?_,hv2.mut u6 (fun j hj e=>hF2s (e ▸ hj)),?_,fun j hj=>?_⟩,HTB.out _ _ _ hok,?_,Gr.ext _ _ _⟩
      · rcases hF2 j hj with h | h
        · exact .inl h
        · exact .inr ⟨by omega,by omega⟩
      · have ha:=hA3 j hj
        rcases hg2 j h with h | h
        · have:=hFvl j h;omega
        · have:=h.1;simp at this;omega
      · exact (((ht3.fresh hf4).fresh ((Fresh.refl _).alloc _)).mut hm2 (fun j hj h=>by have:=hFvl j h;have:=(hA3 j hj).1;omega)).mut u6 (fun j hj e=>by have:=(hA3 j hj).1;omega)
      · rcases hj with h | h
        · have:=H.out.2.2.2 j h;omega
        · exact h.2
      · exact (fC.andMut (hm2.mono (T:=F) (fun j _ h=>hFv j h))).trans2 u6 (fun _ h=>h) (fun j _ e=>by rw [e];exact hFs))
    clear hv2 hm2 hg2 u6 bs5 e1 e2 e3 e4 e5 e6 e7 e8 e9 e0
    go_wp2
    go_ret2
    exact hfin.out
open Go.RowKit
def findT (T:TreS) (d:Int) (name:ByteArray):Option Ent:=(T.dirs d).bind fun l=>l.find? (nameB name)
def findR (T:TreS) (d:Int) (name:ByteArray):Int:=match T.dirs d with
  | none=>if T.files d=true then 8 else 5
  | some l=>if (l.find? (nameB name)).isSome=true then 0 else 5
def TFindPost (T:TreS) (d:Int) (name:ByteArray) (w:World) (e:Ending) (w':World):Prop:=e=.returned (.tuple #[entV ((findT T d name).getD ent0),.int .i64 (findR T d name)])∧Fresh w w'
set_option maxRecDepth 100000 in
set_option maxHeartbeats 1600000 in
theorem tfind_any (w:World) (A:Nat→Prop) (t:Nat) (T:TreS) (q:Nat) (h:TreeAt w A t T q) (d:Int) (hd:I64 d) (name:ByteArray) (hl:∀ i l,T.dirs i=some l→l.length≤10000) :
    Calls Tryz.prog 343 #[.pointer (some ⟨t,0,none⟩),.int .i64 d,.string name] w (TFindPost T d name w):=by
  obtain ⟨W,hW⟩:∃ W,w.alloc (.cells #[.string ⟨#[]⟩,.int .i64 0,.bool false,.int .i64 0,.int .i64 0] 88)=W:=⟨_,rfl⟩
  have hf:Fresh w W:=by rw [← hW];exact (Fresh.refl w).alloc _
  have b2:Blk W w.heap.size 88 #[.string ⟨#[]⟩,.int .i64 0,.bool false,.int .i64 0,.int .i64 0]:=by rw [← hW];exact Blk.new _ _ _
  have HL:=Lib.hid (tlist_any W A t T q (h.fresh hf) d hd (fun l hl2=>by have:=hl d l hl2;omega))
  have HF:=Lib.hid hf
  have HB:=Lib.hid b2
  have HLL:=Lib.hid hl
  clear h hl b2 hf
  go_enter Tryz.func343,Tryz.ntmps343
  go_wp2_with fail
  refine HL.out.mono ?_
  rintro e w1 (⟨l,v,hdl,rfl,ho,hf1⟩ | ⟨hdn,rfl,hf1⟩)
  case inr =>
    obtain ⟨r,hr1,hr0,hre⟩:∃ r:Int,(if T.files d=true then 8 else 5)=r∧r ≠ 0∧findR T d name=r:=by
      cases hfl:T.files d
      · exact ⟨5,rfl,by omega,by simp [findR,hdn,hfl]⟩
      · exact ⟨8,rfl,by omega,by simp [findR,hdn,hfl]⟩
    rw [hr1]
    have HR:Hid (findR T d name=r∧findT T d name=none):=Lib.hid ⟨hre,by simp [findT,hdn]⟩
    have hrb:(r == 0)=false:=by simp [hr0]
    have hrb2:(r != 0)=true:=by simp [hr0]
    have HF1:=Lib.hid (HF.out.trans hf1)
    have hb:Blk w1 w.heap.size _ _:=HB.out.keep hf1
    have f0:w1.frozen? ⟨w.heap.size,0,none⟩=false:=hb.frozen 0
    have f1:w1.frozen? ⟨w.heap.size,1,none⟩=false:=hb.frozen 1
    have f2:w1.frozen? ⟨w.heap.size,2,none⟩=false:=hb.frozen 2
    have f3:w1.frozen? ⟨w.heap.size,3,none⟩=false:=hb.frozen 3
    have f4:w1.frozen? ⟨w.heap.size,4,none⟩=false:=hb.frozen 4
    have c0:w1.cell? ⟨w.heap.size,0,none⟩=some (.string ⟨#[]⟩):=hb.cell 0
    have c1:w1.cell? ⟨w.heap.size,1,none⟩=some (.int .i64 0):=hb.cell 1
    have c2:w1.cell? ⟨w.heap.size,2,none⟩=some (.bool false):=hb.cell 2
    have c3:w1.cell? ⟨w.heap.size,3,none⟩=some (.int .i64 0):=hb.cell 3
    have c4:w1.cell? ⟨w.heap.size,4,none⟩=some (.int .i64 0):=hb.cell 4
    have HZ:=Lib.hid (Blk.set5 hb (.string ⟨#[]⟩) (.int .i64 0) (.bool false) (.int .i64 0) (.int .i64 0))
    clear hre hdn hr1 hf1 hb
    go_wp2
    have hz:=HZ.out
    refine bodyPost_ret (v:=.tuple #[entV ent0,.int .i64 r]) ?_ rfl ?_
    · simp [results,Tryz.results343,go_sem,hz.cell 0,hz.cell 1,hz.cell 2,hz.cell 3,hz.cell 4]
      exact ⟨rfl,rfl,rfl,rfl,rfl⟩
    · refine ⟨?_,Fresh.setCell (Fresh.setCell (Fresh.setCell (Fresh.setCell (Fresh.setCell HF1.out (Nat.le_refl _) _) (Nat.le_refl _) _) (Nat.le_refl _) _) (Nat.le_refl _) _) (Nat.le_refl _) _⟩
      rw [HR.out.1,HR.out.2];rfl
  case inl =>
    have hlen:=HLL.out d l hdl
    have HIX:=Lib.hid (fun X (hX:Fresh w1 X)=>tindex_any X _ v l name ((OwnE.sl ho).fresh hX) (by omega))
    have HS:=Lib.hid (OwnE.sl ho)
    obtain ⟨r,hr⟩:∃ r,l.find? (nameB name)=r:=⟨_,rfl⟩
    have HR:Hid (findT T d name=r∧findR T d name=if r.isSome=true then 0 else 5):=Lib.hid ⟨by simp [findT,hdl,hr],by simp [findR,hdl,hr]⟩
    have HFX:=Lib.hid (fidx_find (pr:=nameB name) (l:=l))
    obtain ⟨k,hk⟩:∃ k,fidx (nameB name) l=k:=⟨_,rfl⟩
    have hge:=fidx_ge (nameB name) l
    have hlt:=fidx_lt (nameB name) l
    rw [hk] at HIX HFX hge hlt
    rw [hr] at HFX
    obtain ⟨a,c,rfl⟩:∃ a c,v=.slice a l.length c:=ho.shape
    have HF1:=Lib.hid (HF.out.trans hf1)
    have HB1:=Lib.hid (HB.out.keep hf1)
    clear ho hk hr hdl hf1
    by_cases hn:k<0
    · have hr0:=HFX.out.1 hn
      subst hr0
      go_wp2_with fail
      refine (HIX.out _ (Fresh.refl _)).mono ?_
      rintro e w2 ⟨rfl,hf2⟩
      have HF2:=Lib.hid (HF1.out.trans hf2)
      have hb:Blk w2 w.heap.size _ _:=HB1.out.keep hf2
      have f0:w2.frozen? ⟨w.heap.size,0,none⟩=false:=hb.frozen 0
      have f1:w2.frozen? ⟨w.heap.size,1,none⟩=false:=hb.frozen 1
      have f2:w2.frozen? ⟨w.heap.size,2,none⟩=false:=hb.frozen 2
      have f3:w2.frozen? ⟨w.heap.size,3,none⟩=false:=hb.frozen 3
      have f4:w2.frozen? ⟨w.heap.size,4,none⟩=false:=hb.frozen 4
      have c0:w2.cell? ⟨w.heap.size,0,none⟩=some (.string ⟨#[]⟩):=hb.cell 0
      have c1:w2.cell? ⟨w.heap.size,1,none⟩=some (.int .i64 0):=hb.cell 1
      have c2:w2.cell? ⟨w.heap.size,2,none⟩=some (.bool false):=hb.cell 2
      have c3:w2.cell? ⟨w.heap.size,3,none⟩=some (.int .i64 0):=hb.cell 3
      have c4:w2.cell? ⟨w.heap.size,4,none⟩=some (.int .i64 0):=hb.cell 4
      have HZ:=Lib.hid (Blk.set5 hb (.string ⟨#[]⟩) (.int .i64 0) (.bool false) (.int .i64 0) (.int .i64 0))
      clear hf2 hb
      go_wp2
      have hz:=HZ.out
      refine bodyPost_ret (v:=.tuple #[entV ent0,.int .i64 5]) ?_ rfl ?_
      · simp [results,Tryz.results343,go_sem,hz.cell 0,hz.cell 1,hz.cell 2,hz.cell 3,hz.cell 4]
        exact ⟨rfl,rfl,rfl,rfl,rfl⟩
      · refine ⟨?_,Fresh.setCell (Fresh.setCell (Fresh.setCell (Fresh.setCell (Fresh.setCell HF2.out (Nat.le_refl _) _) (Nat.le_refl _) _) (Nat.le_refl _) _) (Nat.le_refl _) _) (Nat.le_refl _) _⟩
        rw [HR.out.2,HR.out.1];rfl
    · obtain ⟨q,rfl⟩:=Int.eq_ofNat_of_zero_le (show 0≤k by omega)
      obtain ⟨hq,hr⟩:=HFX.out.2 q rfl
      subst hr
      rcases SlE.cases HS.out with ⟨h0,_⟩ | ⟨hl0,g,off,cap,hv,hcap,hA,hg,hc⟩
      · rw [h0] at hq;simp at hq
      · injection hv with hv1 _ hv2
        subst hv1 hv2
        have HC:=Lib.hid (hc q hq)
        obtain ⟨⟨nm,nd,dr,ck,sh⟩,he⟩:∃ e,l[q]=e:=⟨_,rfl⟩
        rw [he] at HC HR
        obtain ⟨n,hn2⟩:∃ n,l.length=n:=⟨_,rfl⟩
        rw [hn2] at hq hcap hl0 HIX hlen ⊢
        have i0:(0:Int)≤(q:Int):=by omega
        have i1:(q:Int)<(n:Int):=by omega
        clear hc hA he HFX hge hlt hn HS hl0 hn2
        go_wp2_with fail
        refine (HIX.out _ (Fresh.refl _)).mono ?_
        rintro e w2 ⟨rfl,hf2⟩
        have HF2:=Lib.hid (HF1.out.trans hf2)
        have hb:Blk w2 w.heap.size _ _:=HB1.out.keep hf2
        have f0:w2.frozen? ⟨w.heap.size,0,none⟩=false:=hb.frozen 0
        have f1:w2.frozen? ⟨w.heap.size,1,none⟩=false:=hb.frozen 1
        have f2:w2.frozen? ⟨w.heap.size,2,none⟩=false:=hb.frozen 2
        have f3:w2.frozen? ⟨w.heap.size,3,none⟩=false:=hb.frozen 3
        have f4:w2.frozen? ⟨w.heap.size,4,none⟩=false:=hb.frozen 4
        have c0:w2.cell? ⟨w.heap.size,0,none⟩=some (.string ⟨#[]⟩):=hb.cell 0
        have c1:w2.cell? ⟨w.heap.size,1,none⟩=some (.int .i64 0):=hb.cell 1
        have c2:w2.cell? ⟨w.heap.size,2,none⟩=some (.bool false):=hb.cell 2
        have c3:w2.cell? ⟨w.heap.size,3,none⟩=some (.int .i64 0):=hb.cell 3
        have c4:w2.cell? ⟨w.heap.size,4,none⟩=some (.int .i64 0):=hb.cell 4
        obtain ⟨x0,x1,x2,x3,x4⟩:=HC.out
        have d0:=(Below.cell hf2 (p:=⟨g,off+q * 5,none⟩) hg).trans x0
        have d1:=(Below.cell hf2 (p:=⟨g,off+q * 5+1,none⟩) hg).trans x1
        have d2:=(Below.cell hf2 (p:=⟨g,off+q * 5+2,none⟩) hg).trans x2
        have d3:=(Below.cell hf2 (p:=⟨g,off+q * 5+3,none⟩) hg).trans x3
        have d4:=(Below.cell hf2 (p:=⟨g,off+q * 5+4,none⟩) hg).trans x4
        have HZ:=Lib.hid (Blk.set5 hb (.string nm) (.int .i64 nd) (.bool dr) (.int .i64 ck) (.int .i64 sh))
        clear hf2 hb x0 x1 x2 x3 x4 HC
        go_wp2
        have hz:=HZ.out
        refine bodyPost_ret (v:=.tuple #[entV ⟨nm,nd,dr,ck,sh⟩,.int .i64 0]) ?_ rfl ?_
        · simp [results,Tryz.results343,go_sem,hz.cell 0,hz.cell 1,hz.cell 2,hz.cell 3,hz.cell 4]
        · refine ⟨?_,Fresh.setCell (Fresh.setCell (Fresh.setCell (Fresh.setCell (Fresh.setCell HF2.out (Nat.le_refl _) _) (Nat.le_refl _) _) (Nat.le_refl _) _) (Nat.le_refl _) _) (Nat.le_refl _) _⟩
          rw [HR.out.2,HR.out.1];rfl
open Go.RowKit
def PredN (w:World) (f:FuncId) (bd cp:Array Value) (p:Nat→Bool) (n:Nat):Prop :=
  (∀ (args:Array Value) (W:World),Sem.run Tryz.prog (callFunc f args) W=.ok (.enter f args) W)∧∀ W,Fresh w W→∀ i,i<n→Calls Tryz.prog f (bd.push (.int .i64 i)++cp) W fun en W'=>en=.returned (.bool (p i))∧Fresh W W'
def SearchG (p:Nat→Bool) (n:Nat) (w:World) (e:Ending) (w':World):Prop:=∃ k:Nat,e=.returned (.int .i64 k)∧k≤n∧(0<k→p (k - 1)=false)∧(k<n→p k=true)∧Fresh w w'
set_option maxRecDepth 100000 in
set_option maxHeartbeats 1600000 in
theorem search_any (n:Nat) (hn:n≤1000000) (f:FuncId) (bd cp:Array Value) (p:Nat→Bool) (w:World) (hp:PredN w f bd cp p n) :
    Calls Tryz.prog 129 #[.int .i64 n,.func (.func f) bd cp] w (SearchG p n w):=by
  obtain ⟨hen,hp⟩:=hp
  have HP:=Lib.hid hp
  clear hp
  go_enter Tryz.func129,Tryz.ntmps129
  go_wp2
  go_loopw [5,6,7] (fun i j h wr=>∃ a b:Nat,i=.int .i64 a∧j=.int .i64 b∧a≤b∧b≤n∧(0<a→p (a - 1)=false)∧(b<n→p b=true)∧Fresh w wr) (fun i j _ _=>(intOf j).toNat - (intOf i).toNat)
  case atStart=>exact ⟨0,n,rfl,rfl,by omega,by omega,fun h=>by omega,fun h=>by omega,Fresh.refl _⟩
  case round =>
    obtain ⟨a,b,rfl,rfl,hab,hbn,h1,h2,hf⟩:=hrel
    have H1:=Lib.hid (And.intro h1 h2)
    clear h1 h2
    by_cases hlt:a<b
    · have i1:(a:Int)<(b:Int):=by omega
      go_wp2_with fail
      obtain ⟨m,hm,ham,hmb⟩:∃ m:Nat,((a:Int)+(b:Int)) / 2=(m:Int)∧a≤m∧m<b:=⟨(a+b) / 2,by omega,by omega,by omega⟩
      rw [hm]
      have HM:=Lib.hid hm
      clear hm
      refine (HP.out wr hf m (by omega)).mono ?_
      rintro e w2 ⟨rfl,hf2⟩
      have HF:=Lib.hid (hf.trans hf2)
      clear hf2
      cases hpm:p m with
      | true =>
        have HQ:=Lib.hid hpm
        clear hpm
        go_wp2
        go_roundw
        case rel=>exact ⟨a,m,rfl,rfl,by omega,by omega,H1.out.1,fun _=>HQ.out,HF.out⟩
        case measure=>simp [intOf];omega
      | false =>
        have HQ:=Lib.hid hpm
        clear hpm
        go_wp2
        go_roundw
        case rel=>exact ⟨m+1,b,by go_num,rfl,by omega,by omega,fun _=>by simpa using HQ.out,H1.out.2,HF.out⟩
        case measure=>simp [intOf];omega
    · have i1:¬ (a:Int)<(b:Int):=by omega
      obtain rfl:a=b:=by omega
      go_wp2
      go_ret
      exact ⟨a,rfl,hbn,H1.out.1,H1.out.2,hf⟩
theorem enters_read1:∀ (args:Array Value) (W:World),Sem.run Tryz.prog (callFunc 130 args) W=.ok (.enter 130 args) W:=by intro args w;go_simp
set_option maxRecDepth 100000 in
set_option maxHeartbeats 1600000 in
theorem read1_any (g off n cap i b0 b1:Nat) (ck cur:Int) (w:World) (hi:i<n) (hn:n≤1000000) (c0:w.cell? ⟨b0,0,none⟩=some (.slice (some ⟨g,off,none⟩) n cap)) (c1:w.cell? ⟨b1,0,none⟩=some (.int .i64 cur)) (c2:w.cell? ⟨g,off+i * 5+3,none⟩=some (.int .i64 ck)) :
    Calls Tryz.prog 130 #[.int .i64 i,.pointer (some ⟨b0,0,none⟩),.pointer (some ⟨b1,0,none⟩)] w fun en w'=>en=.returned (.bool (decide (cur<ck)))∧Fresh w w':=by
  have i0:(0:Int)≤(i:Int):=by omega
  have i1:(i:Int)<(n:Int):=by omega
  go_enter Tryz.func130,Tryz.ntmps130
  go_wp2_with fail
  go_quiet (fail)
  all_goals
    go_wp2
    go_ret
    exact ⟨rfl,(Fresh.refl _).drewN _⟩
end Go.Proofs.YtpmlggjhfiljmaaGreatDoor
