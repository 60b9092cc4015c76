/- Part 14 of what the law rests on. -/
import Derived.Test.YtpmlggjhfiljmaaGreatDoorS01
import Derived.Test.YtpmlggjhfiljmaaGreatDoorS08
import Derived.Test.YtpmlggjhfiljmaaGreatDoorS13
set_option linter.all false
namespace Go.Proofs.YtpmlggjhfiljmaaGreatDoor
open Go.RowKit
theorem pair_yes {a b x:Int} (h:pairI a b=some x) (ha:-2147483648≤a∧a<2147483648) (hb:-2147483648≤b∧b<2147483648) (w:World):Calls Tryz.prog 60 #[.int .i32 a,.int .i32 b] w fun e w'=>e=.returned (.tuple #[.int .i32 x,.bool true])∧Fresh w w' :=
  (pair_any a b w ha hb).mono fun e w' ⟨he,hf⟩=>⟨by unfold OptI at he;rw [h] at he;exact he,hf⟩
theorem pair_not {a b:Int} (h:pairI a b=none) (ha:-2147483648≤a∧a<2147483648) (hb:-2147483648≤b∧b<2147483648) (w:World):Calls Tryz.prog 60 #[.int .i32 a,.int .i32 b] w fun e w'=>e=.returned (.tuple #[.int .i32 0,.bool false])∧Fresh w w' :=
  (pair_any a b w ha hb).mono fun e w' ⟨he,hf⟩=>⟨by unfold OptI at he;rw [h] at he;exact he,hf⟩
theorem own_set {w:World} {B g n cap:Nat} {P Q:List Int} {c x:Int} (h:OwnR w B (.slice (some ⟨g,0,none⟩) n cap) (P++c :: Q)) (hn:(P++c :: Q).length=n) :
    OwnR (w.setCell ⟨g,P.length,none⟩ (.int .i32 x)) B (.slice (some ⟨g,0,none⟩) n cap) (P++x :: Q):=by
  unfold OwnR at h ⊢
  have e:(P++x :: Q).length=n:=by rw [← hn];simp
  rw [hn] at h
  rw [e]
  have:=(World.ownsRow.stored h P.length (.int .i32 x)).1
  rw [List.map_append,List.map_cons] at this ⊢
  rw [List.set_append_right _ _ (by simp)] at this
  simpa using this
theorem own_frozen {w:World} {B g n cap:Nat} {xs:List Int} (h:OwnR w B (.slice (some ⟨g,0,none⟩) n cap) xs) (hn:xs.length=n) (j:Nat):w.frozen? ⟨g,j,none⟩=false:=by
  unfold OwnR at h
  rw [hn] at h
  exact World.ownsRow.frozenAt h j
def TgIn (w:World) (s:TS) (out base:Value) (wr:World):Prop:=OwnR wr w.heap.size out (tO s)∧base=.int .i64 (tB s)∧Fresh w wr
def TgRel (w:World) (l:List Int) (out base i:Value) (wr:World):Prop:=∃ k:Nat,i=.int .i64 (k:Nat)∧k≤l.length∧TgIn w (trun (l.take k)) out base wr
theorem getD_at (P Q:List Int) (c:Int):(P++c :: Q).getD P.length 0=c:=by simp [List.getD_eq_getElem?_getD]
theorem getD_last (P Q:List Int) (c:Int) (hQ:Q ≠ []):(P++c :: Q).getD (P.length+Q.length) 0=Q.getLastD 0:=by
  rcases List.eq_nil_or_concat Q with e | ⟨L,z,e⟩
  · exact absurd e hQ
  · have e:Q=L++[z]:=by simpa using e
    subst e
    have e2:P++c :: (L++[z])=(P++c :: L)++z :: []:=by simp
    have e3:P.length+(L++[z]).length=(P++c :: L).length:=by simp
    rw [e2,e3,getD_at]
    simp [List.getLastD_eq_getLast?]
theorem in32_tog {l:List Int} (h:In32 l):In32 (tO (trun l)):=tog_mem (p:=fun x=>-2147483648≤x∧x<2147483648) (fun c r x hx=>by have:=pairI_pos hx;omega) h
theorem in32_take {l:List Int} (h:In32 l) (k:Nat):In32 (l.take k):=fun x hx=>h x (List.mem_of_mem_take hx)
theorem in32_getD {l:List Int} (h:In32 l) {k:Nat} (hk:k<l.length):-2147483648≤l.getD k 0∧l.getD k 0<2147483648:=by
  refine h _ ?_
  rw [List.getD_eq_getElem?_getD,List.getElem?_eq_getElem hk];simp
theorem tg_eq {w w':World} {s:TS} {v:Value} {b b':Int} (h:TgIn w s v (.int .i64 b) w') (e:b=b'):TgIn w s v (.int .i64 b') w':=e ▸ h
theorem tg_push0 {w w':World} {v:Value} {P Q:List Int} {c:Option Int} {r:Int} {sl:Nat} (hr:clsI r=0) (h:w'.ownsRow w.heap.size 21 1 v (sl+1) ((tO (P,c,Q)).map (Value.int .i32)++[.int .i32 r])) (hf:Fresh w w') :
    TgIn w (tpush P c Q r) v (.int .i64 ((tO (P,c,Q)).length:Nat)) w':=by
  have hn:sl=(tO (P,c,Q)).length:=by have:=h.1;simp at this;omega
  subst hn
  refine ⟨?_,?_,hf⟩
  · rw [tO_push];exact OwnR.push h
  · unfold tpush;rw [if_pos hr];rfl
theorem tg_push1 {w w':World} {v:Value} {P Q:List Int} {c:Option Int} {r:Int} {sl:Nat} (hr:clsI r ≠ 0) (h:w'.ownsRow w.heap.size 21 1 v (sl+1) ((tO (P,c,Q)).map (Value.int .i32)++[.int .i32 r])) (hf:Fresh w w') :
    TgIn w (tpush P c Q r) v (.int .i64 (tB (P,c,Q))) w':=by
  have hn:sl=(tO (P,c,Q)).length:=by have:=h.1;simp at this;omega
  subst hn
  refine ⟨?_,?_,hf⟩
  · rw [tO_push];exact OwnR.push h
  · unfold tpush;rw [if_neg hr];cases c <;> rfl
set_option maxHeartbeats 3200000 in
set_option maxRecDepth 100000 in
theorem ctog_any (u:Value) (l:List Int) (w:World) (hu:Sl w u l) (hl:l.length≤100000) (h32:In32 l):Calls Tryz.prog 21 #[u] w (RunesPost (tog l) w):=by
  obtain ⟨i0,hi0,hz0,hz1,hz2⟩:=info_parts info32
  obtain ⟨a,ca,rfl,hu⟩:=hu
  rcases hu with rfl | ⟨b1,o1,rfl,hb1,hc1⟩
  · go_enter Tryz.func21,Tryz.ntmps21
    go_wp2
    refine wp_loop_rounds 1 ?_
    rw [rounds_succ]
    go_wp2
    go_ret
    exact ⟨_,rfl,OwnR.nil _ _,Fresh.refl _⟩
  have H1:=Lib.hid hc1
  clear hc1
  generalize hn:l.length=n at hl H1
  have HN:=Lib.hid hn
  clear hn
  go_enter Tryz.func21,Tryz.ntmps21
  go_wp2
  go_loopw [3,4,12] (fun out b i wr=>TgRel w l out b i wr) (fun _ _ i _=>n - (intOf i).toNat)
  case atStart=>exact ⟨0,rfl,Nat.zero_le _,OwnR.nil _ _,rfl,Fresh.refl _⟩
  case round =>
    obtain ⟨k,rfl,hk,hown,rfl,hf⟩:=hrel
    have hk':k≤n:=by have:=HN.out;omega
    clear hk
    by_cases hlt:k<n
    · have c1 : wr.cell? ⟨b1,o1+k,none⟩=some (.int .i32 (l.getD k 0)):=(Below.cell hf (p:=⟨b1,o1+k,none⟩) hb1).trans (H1.out k hlt)
      have hkl:k<l.length:=by have:=HN.out;omega
      have hr:=in32_getD h32 hkl
      have hTS:trun (l.take (k+1))=tstep (trun (l.take k)) (l.getD k 0):=by rw [take_snoc hkl,trun_snoc]
      have hlen:=trun_len (l.take k)
      rw [List.length_take] at hlen
      have h32s:=in32_tog (in32_take h32 k)
      generalize l.getD k 0=r at c1 hr hTS
      generalize trun (l.take k)=s at hTS hlen h32s hown ⊢
      have HTS:=Lib.hid hTS
      clear hTS hkl
      obtain ⟨P,c,Q⟩:=s
      cases c with
      | none =>
        have hlen3:(tO (P,none,Q)).length≤k:=by omega
        have HST:Hid (tstep (P,none,Q) r=tpush P none Q r):=Lib.hid rfl
        obtain ⟨ao,cpc,rfl,_⟩:=hown.sl
        have hown3:=hown
        unfold OwnR at hown3
        have hfW:=hf
        generalize hsl:(tO (P,none,Q)).length=sl at hown3 hlen3 ⊢
        have HSL:=Lib.hid hsl
        have HLEN:=Lib.hid hlen3
        clear hown hlen hsl
        simp only [tB]
        by_cases hx:clsI r=0
        · have hb:(clsI r == 0)=true:=by simp [hx]
          have HX:=Lib.hid hx
          clear hx
          go_wp2_with (first | (go_at_call 25;refine (class_any _ _).mono ?_;rintro e w9 ⟨rfl,rfl⟩) | (at_builtin;refine wpList_append_own2 _ rfl _ _ 50 rfl w.heap.size 21 i0 (.int .i32 0) 1 4 Tryz.underlying50 hi0 hz0 hz1 hz2 rfl (by decide) _ _ _ rfl (hown3.alloc _) ⟨wr.heap.size,0,none⟩ 1 1 [.int .i32 r] rfl rfl ?c1 ?c2 ?c3 ?c4 ?c5 ?_))
          case c1=>exact cell_new1 _ _ _
          case c2=>intro u hu;simp at hu;subst hu;rfl
          case c3=>have:=HLEN.out;unfold maxLen;omega
          case c4=>have:=HLEN.out;omega
          case c5=>have:=hfW.size;simp;omega
          intro v' w' hown' hgrow hblk
          have hf':=OwnR.fresh hfW hown3 hgrow
          have HP:=Lib.hid (tg_push0 (v:=v') (w':=w') (P:=P) (c:=none) (Q:=Q) (sl:=sl) HX.out (by have:=hown';simpa [tO] using this) hf')
          clear hown' hgrow hblk hf' hown3
          go_wp2
          refine ⟨⟨k+1,by rw [Int.natCast_add];rfl,by have:=HN.out;omega,by rw [HTS.out,HST.out];exact tg_eq HP.out (by first | rfl | (have:=HSL.out;omega) | (simp only [tO];have:=HLM.out;omega) | (simp only [tB];have:=HPM.out;omega) | (simp only [tB];have:=HP0.out;omega))⟩,by simp [intOf];omega⟩
        · have hb:(clsI r == 0)=false:=by simp [hx]
          have HX:=Lib.hid hx
          clear hx
          go_wp2_with (first | (go_at_call 25;refine (class_any _ _).mono ?_;rintro e w9 ⟨rfl,rfl⟩) | (at_builtin;refine wpList_append_own2 _ rfl _ _ 50 rfl w.heap.size 21 i0 (.int .i32 0) 1 4 Tryz.underlying50 hi0 hz0 hz1 hz2 rfl (by decide) _ _ _ rfl (hown3.alloc _) ⟨wr.heap.size,0,none⟩ 1 1 [.int .i32 r] rfl rfl ?c1 ?c2 ?c3 ?c4 ?c5 ?_))
          case c1=>exact cell_new1 _ _ _
          case c2=>intro u hu;simp at hu;subst hu;rfl
          case c3=>have:=HLEN.out;unfold maxLen;omega
          case c4=>have:=HLEN.out;omega
          case c5=>have:=hfW.size;simp;omega
          intro v' w' hown' hgrow hblk
          have hf':=OwnR.fresh hfW hown3 hgrow
          have HP:=Lib.hid (tg_push1 (v:=v') (w':=w') (P:=P) (c:=none) (Q:=Q) (sl:=sl) HX.out (by have:=hown';simpa [tO] using this) hf')
          clear hown' hgrow hblk hf' hown3
          go_wp2
          refine ⟨⟨k+1,by rw [Int.natCast_add];rfl,by have:=HN.out;omega,by rw [HTS.out,HST.out];exact tg_eq HP.out (by first | rfl | (have:=HSL.out;omega) | (simp only [tO];have:=HLM.out;omega) | (simp only [tB];have:=HPM.out;omega) | (simp only [tB];have:=HP0.out;omega))⟩,by simp [intOf];omega⟩
      | some c =>
        have hoO:tO (P,some c,Q)=P++c :: Q:=rfl
        rw [hoO] at hown h32s hlen
        have hc32:=h32s c (by simp)
        simp only [List.length_append,List.length_cons] at hlen
        obtain ⟨g,cap,rfl,hgs,hcell⟩:=hown.sl2 (by simp;omega)
        have hgb:=(hown.lt g rfl).1
        obtain ⟨m,hm⟩:∃ m,P.length+Q.length=m:=⟨_,rfl⟩
        have hlm:(P++c :: Q).length=m+1:=by simp;omega
        have cp:=hcell P.length (by rw [hlm];omega)
        rw [getD_at] at cp
        have hfz:=own_frozen hown rfl P.length
        have HCELL:=Lib.hid hcell
        rw [hlm] at hown ⊢
        have HOWN:=Lib.hid hown
        simp only [tB]
        have hlm2:m+1≤k:=by omega
        clear hown hcell hlen h32s hoO
        by_cases hQ:Q=[]
        · subst hQ
          have hpm:P.length=m:=by simpa using hm
          rw [hpm] at cp hfz ⊢
          have HPM:=Lib.hid hpm
          clear hpm hm
          have hcan:∀ z,mkO c [] z=pairI c z:=fun z=>by unfold mkO;rw [if_pos (.inl rfl)]
          have HCAN:=Lib.hid hcan
          clear hcan
          have HLM:=Lib.hid hlm
          clear hlm
          cases hpr:pairI c r with
          | some x =>
            have HPR:=Lib.hid (pair_yes hpr hc32 hr)
            have HST:Hid (tstep (P,some c,[]) r=(P,some x,[])):=Lib.hid (by unfold tstep;simp only [HCAN.out,hpr])
            clear hpr
            go_wp2_with (first | (go_at_call 25;refine (class_any _ _).mono ?_;rintro e w9 ⟨rfl,rfl⟩) | (go_at_call 60;refine (HPR.out _).mono ?_;rintro e w1 ⟨rfl,hf1⟩;have cp1:=(Below.cell hf1 (p:=⟨g,m,none⟩) hgs).trans cp;have fz1:=(Below.frozen hf1 (p:=⟨g,m,none⟩) hgs).trans hfz))
            have hown4:=HOWN.out.keep hf1
            have hown5:=own_set (x:=x) hown4 HLM.out
            have hf2:=(hf.trans hf1).setCell (p:=⟨g,m,none⟩) hgb (.int .i32 x)
            rw [HPM.out] at hown5
            refine ⟨⟨k+1,by rw [Int.natCast_add];rfl,by have:=HN.out;omega,by rw [HTS.out,HST.out];exact ⟨hown5,by simp only [tB,HPM.out],hf2⟩⟩,by simp [intOf];omega⟩
          | none =>
            have HPR:=Lib.hid (pair_not hpr hc32 hr)
            have HST:Hid (tstep (P,some c,[]) r=tpush P (some c) [] r):=Lib.hid (by unfold tstep;simp only [HCAN.out,hpr])
            have HLEN:=Lib.hid hlm2
            clear hpr
            by_cases hx:clsI r=0
            · have hb:(clsI r == 0)=true:=by simp [hx]
              have HX:=Lib.hid hx
              clear hx
              go_wp2_with (first | (go_at_call 25;refine (class_any _ _).mono ?_;rintro e w9 ⟨rfl,rfl⟩) | (go_at_call 60;refine (HPR.out _).mono ?_;rintro e w1 ⟨rfl,hf1⟩;have hown3:=HOWN.out.keep hf1;unfold OwnR at hown3;rw [HLM.out] at hown3;have hfW:=hf.trans hf1) | (at_builtin;refine wpList_append_own2 _ rfl _ _ 50 rfl w.heap.size 21 i0 (.int .i32 0) 1 4 Tryz.underlying50 hi0 hz0 hz1 hz2 rfl (by decide) _ _ _ rfl (hown3.alloc _) ⟨w1.heap.size,0,none⟩ 1 1 [.int .i32 r] rfl rfl ?c1 ?c2 ?c3 ?c4 ?c5 ?_))
              case c1=>exact cell_new1 _ _ _
              case c2=>intro u hu;simp at hu;subst hu;rfl
              case c3=>have:=HLEN.out;unfold maxLen;omega
              case c4=>have:=HLEN.out;omega
              case c5=>have:=hfW.size;simp;omega
              intro v' w' hown' hgrow hblk
              have hf':=OwnR.fresh hfW hown3 hgrow
              have HP:=Lib.hid (tg_push0 (v:=v') (w':=w') (P:=P) (c:=some c) (Q:=[]) (sl:=m+1) HX.out (by have:=hown';simpa [tO] using this) hf')
              clear hown' hgrow hblk hf' hown3
              go_wp2
              refine ⟨⟨k+1,by rw [Int.natCast_add];rfl,by have:=HN.out;omega,by rw [HTS.out,HST.out];exact tg_eq HP.out (by first | rfl | (have:=HSL.out;omega) | (simp only [tO];have:=HLM.out;omega) | (simp only [tB];have:=HPM.out;omega) | (simp only [tB];have:=HP0.out;omega))⟩,by simp [intOf];omega⟩
            · have hb:(clsI r == 0)=false:=by simp [hx]
              have HX:=Lib.hid hx
              clear hx
              go_wp2_with (first | (go_at_call 25;refine (class_any _ _).mono ?_;rintro e w9 ⟨rfl,rfl⟩) | (go_at_call 60;refine (HPR.out _).mono ?_;rintro e w1 ⟨rfl,hf1⟩;have hown3:=HOWN.out.keep hf1;unfold OwnR at hown3;rw [HLM.out] at hown3;have hfW:=hf.trans hf1) | (at_builtin;refine wpList_append_own2 _ rfl _ _ 50 rfl w.heap.size 21 i0 (.int .i32 0) 1 4 Tryz.underlying50 hi0 hz0 hz1 hz2 rfl (by decide) _ _ _ rfl (hown3.alloc _) ⟨w1.heap.size,0,none⟩ 1 1 [.int .i32 r] rfl rfl ?c1 ?c2 ?c3 ?c4 ?c5 ?_))
              case c1=>exact cell_new1 _ _ _
              case c2=>intro u hu;simp at hu;subst hu;rfl
              case c3=>have:=HLEN.out;unfold maxLen;omega
              case c4=>have:=HLEN.out;omega
              case c5=>have:=hfW.size;simp;omega
              intro v' w' hown' hgrow hblk
              have hf':=OwnR.fresh hfW hown3 hgrow
              have HP:=Lib.hid (tg_push1 (v:=v') (w':=w') (P:=P) (c:=some c) (Q:=[]) (sl:=m+1) HX.out (by have:=hown';simpa [tO] using this) hf')
              clear hown' hgrow hblk hf' hown3
              go_wp2
              refine ⟨⟨k+1,by rw [Int.natCast_add];rfl,by have:=HN.out;omega,by rw [HTS.out,HST.out];exact tg_eq HP.out (by first | rfl | (have:=HSL.out;omega) | (simp only [tO];have:=HLM.out;omega) | (simp only [tB];have:=HPM.out;omega) | (simp only [tB];have:=HP0.out;omega))⟩,by simp [intOf];omega⟩
        · have hQ1:1≤Q.length:=List.length_pos_iff.2 hQ
          have cm:=HCELL.out m (by rw [hlm];omega)
          rw [← hm,getD_last P Q c hQ,hm] at cm
          obtain ⟨p,hp⟩:∃ p,P.length=p:=⟨_,rfl⟩
          have hpm:p<m:=by omega
          rw [hp] at cp hfz ⊢
          have HP0:=Lib.hid hp
          have HM:=Lib.hid hm
          have HLM:=Lib.hid hlm
          clear hp hm hlm
          have hb1:((p:Int) == (m:Int))=false:=by simp only [beq_eq_false_iff_ne];omega
          generalize hql:Q.getLastD 0=ql at cm
          have HQL:=Lib.hid hql
          clear hql
          by_cases hcan:clsI ql<clsI r
          · have HCAN:=Lib.hid (show mkO c Q r=pairI c r by unfold mkO;rw [if_pos (.inr (by rw [HQL.out];exact hcan))])
            cases hpr:pairI c r with
            | some x =>
              have HPR:=Lib.hid (pair_yes hpr hc32 hr)
              have HST:Hid (tstep (P,some c,Q) r=(P,some x,Q)):=Lib.hid (by unfold tstep;simp only [HCAN.out,hpr])
              clear hpr
              go_wp2_with (first | (go_at_call 25;refine (class_any _ _).mono ?_;rintro e w9 ⟨rfl,rfl⟩) | (go_at_call 60;refine (HPR.out _).mono ?_;rintro e w1 ⟨rfl,hf1⟩;have cp1:=(Below.cell hf1 (p:=⟨g,p,none⟩) hgs).trans cp;have fz1:=(Below.frozen hf1 (p:=⟨g,p,none⟩) hgs).trans hfz))
              have hown4:=HOWN.out.keep hf1
              have hown5:=own_set (x:=x) hown4 HLM.out
              have hf2:=(hf.trans hf1).setCell (p:=⟨g,p,none⟩) hgb (.int .i32 x)
              rw [HP0.out] at hown5
              refine ⟨⟨k+1,by rw [Int.natCast_add];rfl,by have:=HN.out;omega,by rw [HTS.out,HST.out];exact ⟨hown5,by simp only [tB,HP0.out],hf2⟩⟩,by simp [intOf];omega⟩
            | none =>
              have HPR:=Lib.hid (pair_not hpr hc32 hr)
              have HST:Hid (tstep (P,some c,Q) r=tpush P (some c) Q r):=Lib.hid (by unfold tstep;simp only [HCAN.out,hpr])
              have HLEN:=Lib.hid hlm2
              clear hpr
              by_cases hx:clsI r=0
              · have hb:(clsI r == 0)=true:=by simp [hx]
                have HX:=Lib.hid hx
                clear hx
                go_wp2_with (first | (go_at_call 25;refine (class_any _ _).mono ?_;rintro e w9 ⟨rfl,rfl⟩) | (go_at_call 60;refine (HPR.out _).mono ?_;rintro e w1 ⟨rfl,hf1⟩;have hown3:=HOWN.out.keep hf1;unfold OwnR at hown3;rw [HLM.out] at hown3;have hfW:=hf.trans hf1) | (at_builtin;refine wpList_append_own2 _ rfl _ _ 50 rfl w.heap.size 21 i0 (.int .i32 0) 1 4 Tryz.underlying50 hi0 hz0 hz1 hz2 rfl (by decide) _ _ _ rfl (hown3.alloc _) ⟨w1.heap.size,0,none⟩ 1 1 [.int .i32 r] rfl rfl ?c1 ?c2 ?c3 ?c4 ?c5 ?_))
                case c1=>exact cell_new1 _ _ _
                case c2=>intro u hu;simp at hu;subst hu;rfl
                case c3=>have:=HLEN.out;unfold maxLen;omega
                case c4=>have:=HLEN.out;omega
                case c5=>have:=hfW.size;simp;omega
                intro v' w' hown' hgrow hblk
                have hf':=OwnR.fresh hfW hown3 hgrow
                have HP:=Lib.hid (tg_push0 (v:=v') (w':=w') (P:=P) (c:=some c) (Q:=Q) (sl:=m+1) HX.out (by have:=hown';simpa [tO] using this) hf')
                clear hown' hgrow hblk hf' hown3
                go_wp2
                refine ⟨⟨k+1,by rw [Int.natCast_add];rfl,by have:=HN.out;omega,by rw [HTS.out,HST.out];exact tg_eq HP.out (by first | rfl | (have:=HSL.out;omega) | (simp only [tO];have:=HLM.out;omega) | (simp only [tB];have:=HPM.out;omega) | (simp only [tB];have:=HP0.out;omega))⟩,by simp [intOf];omega⟩
              · have hb:(clsI r == 0)=false:=by simp [hx]
                have HX:=Lib.hid hx
                clear hx
                go_wp2_with (first | (go_at_call 25;refine (class_any _ _).mono ?_;rintro e w9 ⟨rfl,rfl⟩) | (go_at_call 60;refine (HPR.out _).mono ?_;rintro e w1 ⟨rfl,hf1⟩;have hown3:=HOWN.out.keep hf1;unfold OwnR at hown3;rw [HLM.out] at hown3;have hfW:=hf.trans hf1) | (at_builtin;refine wpList_append_own2 _ rfl _ _ 50 rfl w.heap.size 21 i0 (.int .i32 0) 1 4 Tryz.underlying50 hi0 hz0 hz1 hz2 rfl (by decide) _ _ _ rfl (hown3.alloc _) ⟨w1.heap.size,0,none⟩ 1 1 [.int .i32 r] rfl rfl ?c1 ?c2 ?c3 ?c4 ?c5 ?_))
                case c1=>exact cell_new1 _ _ _
                case c2=>intro u hu;simp at hu;subst hu;rfl
                case c3=>have:=HLEN.out;unfold maxLen;omega
                case c4=>have:=HLEN.out;omega
                case c5=>have:=hfW.size;simp;omega
                intro v' w' hown' hgrow hblk
                have hf':=OwnR.fresh hfW hown3 hgrow
                have HP:=Lib.hid (tg_push1 (v:=v') (w':=w') (P:=P) (c:=some c) (Q:=Q) (sl:=m+1) HX.out (by have:=hown';simpa [tO] using this) hf')
                clear hown' hgrow hblk hf' hown3
                go_wp2
                refine ⟨⟨k+1,by rw [Int.natCast_add];rfl,by have:=HN.out;omega,by rw [HTS.out,HST.out];exact tg_eq HP.out (by first | rfl | (have:=HSL.out;omega) | (simp only [tO];have:=HLM.out;omega) | (simp only [tB];have:=HPM.out;omega) | (simp only [tB];have:=HP0.out;omega))⟩,by simp [intOf];omega⟩
          · have hno:mkO c Q r=none:=by unfold mkO;rw [if_neg];rintro (e | e);exact hQ e;rw [HQL.out] at e;exact hcan e
            have HST:Hid (tstep (P,some c,Q) r=tpush P (some c) Q r):=Lib.hid (by unfold tstep;simp only [hno])
            have hfW:=hf
            have HLEN:=Lib.hid hlm2
            have hown3:=HOWN.out
            unfold OwnR at hown3
            rw [HLM.out] at hown3
            have hcan2:clsI r≤clsI ql:=by omega
            clear hno hcan
            by_cases hx:clsI r=0
            · have hb:(clsI r == 0)=true:=by simp [hx]
              have HX:=Lib.hid hx
              clear hx
              go_wp2_with (first | (go_at_call 25;refine (class_any _ _).mono ?_;rintro e w9 ⟨rfl,rfl⟩) | (at_builtin;refine wpList_append_own2 _ rfl _ _ 50 rfl w.heap.size 21 i0 (.int .i32 0) 1 4 Tryz.underlying50 hi0 hz0 hz1 hz2 rfl (by decide) _ _ _ rfl (hown3.alloc _) ⟨wr.heap.size,0,none⟩ 1 1 [.int .i32 r] rfl rfl ?c1 ?c2 ?c3 ?c4 ?c5 ?_))
              case c1=>exact cell_new1 _ _ _
              case c2=>intro u hu;simp at hu;subst hu;rfl
              case c3=>have:=HLEN.out;unfold maxLen;omega
              case c4=>have:=HLEN.out;omega
              case c5=>have:=hfW.size;simp;omega
              intro v' w' hown' hgrow hblk
              have hf':=OwnR.fresh hfW hown3 hgrow
              have HP:=Lib.hid (tg_push0 (v:=v') (w':=w') (P:=P) (c:=some c) (Q:=Q) (sl:=m+1) HX.out (by have:=hown';simpa [tO] using this) hf')
              clear hown' hgrow hblk hf' hown3
              go_wp2
              refine ⟨⟨k+1,by rw [Int.natCast_add];rfl,by have:=HN.out;omega,by rw [HTS.out,HST.out];exact tg_eq HP.out (by first | rfl | (have:=HSL.out;omega) | (simp only [tO];have:=HLM.out;omega) | (simp only [tB];have:=HPM.out;omega) | (simp only [tB];have:=HP0.out;omega))⟩,by simp [intOf];omega⟩
            · have hb:(clsI r == 0)=false:=by simp [hx]
              have HX:=Lib.hid hx
              clear hx
              go_wp2_with (first | (go_at_call 25;refine (class_any _ _).mono ?_;rintro e w9 ⟨rfl,rfl⟩) | (at_builtin;refine wpList_append_own2 _ rfl _ _ 50 rfl w.heap.size 21 i0 (.int .i32 0) 1 4 Tryz.underlying50 hi0 hz0 hz1 hz2 rfl (by decide) _ _ _ rfl (hown3.alloc _) ⟨wr.heap.size,0,none⟩ 1 1 [.int .i32 r] rfl rfl ?c1 ?c2 ?c3 ?c4 ?c5 ?_))
              case c1=>exact cell_new1 _ _ _
              case c2=>intro u hu;simp at hu;subst hu;rfl
              case c3=>have:=HLEN.out;unfold maxLen;omega
              case c4=>have:=HLEN.out;omega
              case c5=>have:=hfW.size;simp;omega
              intro v' w' hown' hgrow hblk
              have hf':=OwnR.fresh hfW hown3 hgrow
              have HP:=Lib.hid (tg_push1 (v:=v') (w':=w') (P:=P) (c:=some c) (Q:=Q) (sl:=m+1) HX.out (by have:=hown';simpa [tO] using this) hf')
              clear hown' hgrow hblk hf' hown3
              go_wp2
              refine ⟨⟨k+1,by rw [Int.natCast_add];rfl,by have:=HN.out;omega,by rw [HTS.out,HST.out];exact tg_eq HP.out (by first | rfl | (have:=HSL.out;omega) | (simp only [tO];have:=HLM.out;omega) | (simp only [tB];have:=HPM.out;omega) | (simp only [tB];have:=HP0.out;omega))⟩,by simp [intOf];omega⟩
    · have hkn:k=n:=by omega
      rw [hkn,← HN.out,List.take_length] at hown
      have HO:=Lib.hid hown
      clear hown
      go_wp2
      go_ret
      exact ⟨_,rfl,HO.out,hf⟩
open Go.RowKit
set_option maxHeartbeats 800000 in
theorem equal_any (u v:Value) (xs ys:List Int) (w:World) (hu:Sl w u xs) (hv:Sl w v ys) (hx:xs.length≤1000000) (hy:ys.length≤1000000) :
    Calls Tryz.prog 65 #[u,v] w (SamePost xs ys w):=by
  obtain ⟨a,ca,rfl,hu⟩:=hu
  obtain ⟨b,cb,rfl,hv⟩:=hv
  by_cases hl:xs.length=ys.length
  · have hne:((xs.length:Int) != (xs.length:Int))=false:=by simp
    rw [← hl]
    have HL:=Lib.hid hl
    clear hl hy
    rcases hu with rfl | ⟨b1,o1,rfl,hb1,hc1⟩
    · have hyn:ys=[]:=List.eq_nil_of_length_eq_zero (by have:=HL.out;simpa using this.symm)
      subst hyn
      go_enter Tryz.func65,Tryz.ntmps65
      go_wp2
      refine wp_loop_rounds 1 ?_
      rw [rounds_succ]
      go_wp2
      go_ret
      exact SamePost.mk rfl (Fresh.refl _)
    rcases hv with rfl | ⟨b2,o2,rfl,hb2,hc2⟩
    · have hyn:xs=[]:=List.eq_nil_of_length_eq_zero (by have:=HL.out;simpa using this)
      subst hyn
      go_enter Tryz.func65,Tryz.ntmps65
      go_wp2
      refine wp_loop_rounds 1 ?_
      rw [rounds_succ]
      go_wp2
      go_ret
      exact SamePost.mk rfl (Fresh.refl _)
    have H1:=Lib.hid hc1
    have H2:=Lib.hid hc2
    clear hc1 hc2
    generalize hn:xs.length=n at hx hne H1
    have HN:=Lib.hid hn
    clear hn
    go_enter Tryz.func65,Tryz.ntmps65
    go_wp2
    go_loopw [13] (fun i wr=>SameRel xs ys w i wr) (fun i _=>n - (intOf i).toNat)
    case atStart=>exact ⟨0,rfl,Nat.zero_le _,fun j hj=>absurd hj (Nat.not_lt_zero _),Fresh.refl _⟩
    case round =>
      obtain ⟨k,rfl,hk,he,hf⟩:=hrel
      have HE:=Lib.hid he
      clear he
      have hk':k≤n:=by have:=HN.out;omega
      clear hk
      by_cases hlt:k<n
      · have c1:wr.cell? ⟨b1,o1+k,none⟩=some (.int .i32 (xs.getD k 0)):=(Below.cell hf (p:=⟨b1,o1+k,none⟩) hb1).trans (H1.out k hlt)
        have c2:wr.cell? ⟨b2,o2+k,none⟩=some (.int .i32 (ys.getD k 0)):=(Below.cell hf (p:=⟨b2,o2+k,none⟩) hb2).trans (H2.out k (by have:=HL.out;have:=HN.out;omega))
        generalize hp:xs.getD k 0=p at c1
        generalize hq:ys.getD k 0=q at c2
        have HP:=Lib.hid hp
        have HQ:=Lib.hid hq
        clear hp hq
        have q8:(0:Int)≤(k:Int):=by omega
        have q9:(k:Int)<(n:Int):=by omega
        go_wp2
        go_quiet (fail)
        by_cases hpq:p=q
        · have HPQ:=Lib.hid hpq
          have hb:(p != q)=false:=by simp [hpq]
          clear hpq
          go_wp2
          refine ⟨⟨k+1,by rw [Int.natCast_add];rfl,by have:=HN.out;omega,fun j hj=>?_,hf.drewN _⟩,by simp [intOf];omega⟩
          by_cases hjk:j=k
          · rw [hjk,HP.out,HQ.out,HPQ.out]
          · exact HE.out j (by omega)
        · have HPQ:=Lib.hid hpq
          have hb:(p != q)=true:=by simp [hpq]
          clear hpq
          go_wp2
          go_ret
          exact SamePost.mk (by symm;rw [decide_eq_false_iff_not];intro e;apply HPQ.out;rw [← HP.out,← HQ.out,e]) (hf.drewN _)
      · have hkn:k=n:=by omega
        go_wp2
        go_ret
        exact SamePost.mk (by symm;rw [decide_eq_true_iff];exact take_eq_of HL.out (fun j hj=>HE.out j (by have:=HN.out;omega))) hf
  · have hne:((xs.length:Int) != (ys.length:Int))=true:=by simp;omega
    have HD:=Lib.hid hl
    generalize hn1:xs.length=n1 at hne HD
    generalize hn2:ys.length=n2 at hne HD
    have HN1:=Lib.hid hn1
    have HN2:=Lib.hid hn2
    clear hn1 hn2 hl
    go_enter Tryz.func65,Tryz.ntmps65
    go_wp2
    go_ret
    exact SamePost.mk (by symm;rw [decide_eq_false_iff_not];intro e;apply HD.out;rw [← HN1.out,← HN2.out,e]) (Fresh.refl _)
set_option maxHeartbeats 800000 in
theorem cstable_any (u:Value) (l:List Int) (w:World) (hu:Sl w u l) (hl:l.length≤10000) (h32:In32 l) :
    Calls Tryz.prog 24 #[u] w (SamePost (apt l) l w):=by
  have hal:=apt_len l
  go_enter Tryz.func24,Tryz.ntmps24
  go_wp2_with fail
  refine (capt_any _ l _ hu hl h32).mono ?_
  rintro e w1 ⟨v,rfl,ho,hf⟩
  go_wp2_with fail
  refine (equal_any _ _ (apt l) l _ ho.sl (hu.keep hf) (by omega) (by omega)).mono ?_
  rintro e w2 ⟨rfl,hf2⟩
  go_wp2
  go_ret
  exact ⟨rfl,hf.trans hf2⟩
open Go.RowKit
def hexS:ByteArray:=⟨#[48,49,50,51,52,53,54,55,56,57,97,98,99,100,101,102]⟩
def resS:ByteArray:=⟨#[34,37,42,47,58,60,62,63,92,124]⟩
theorem res_dec:((List.range 128).all fun n=>decide ((0≤Lib.indexByte resS.data.toList n.toUInt8) ↔ reservedL.contains (n:Int)=true))=true:=by decide +kernel
theorem res_byte {r:Int} (h0:0≤r) (h1:r<128):(0≤Lib.indexByte resS.data.toList r.toNat.toUInt8) ↔ reservedL.contains r=true:=by
  have:=List.all_eq_true.1 res_dec r.toNat (List.mem_range.2 (by omega))
  simp only [decide_eq_true_eq] at this
  rwa [Int.toNat_of_nonneg h0] at this
theorem hex_dec:((List.range 256).all fun n=>decide (Lib.indexByte hexS.data.toList n.toUInt8=digitI (n:Int)))=true:=by decide +kernel
theorem hex_byte {c:Int} (h0:0≤c) (h1:c<256):Lib.indexByte hexS.data.toList c.toNat.toUInt8=digitI c:=by
  have:=List.all_eq_true.1 hex_dec c.toNat (List.mem_range.2 (by omega))
  simp only [decide_eq_true_eq] at this
  rwa [Int.toNat_of_nonneg h0] at this
theorem resB_out {r:Int} (h:r<0∨128≤r):resB r=false:=by
  unfold resB reservedL
  simp
  omega
set_option maxHeartbeats 800000 in
theorem asIs_any (v:Value) (w:World):Calls Tryz.prog 51 #[v] w fun e w'=>e=.returned v∧w=w':=by
  go_enter Tryz.func51,Tryz.ntmps51
  go_wp2
  go_ret
  exact ⟨rfl,rfl⟩
set_option maxHeartbeats 800000 in
theorem digit_any (c:Int) (h0:0≤c) (h1:c<256) (w:World):Calls Tryz.prog 168 #[.int .u8 c] w fun e w'=>e=.returned (.int .i64 (digitI c))∧w=w':=by
  have HX:=Lib.hid (Tryz.strings_IndexByte hexS c)
  rw [hex_byte h0 h1] at HX
  unfold hexS at HX
  go_enter Tryz.func168,Tryz.ntmps168
  go_wp2_with fail
  refine (HX.out _).mono ?_
  rintro e w1 ⟨rfl,rfl⟩
  go_wp2
  go_ret
  exact ⟨rfl,rfl⟩
set_option maxHeartbeats 800000 in
theorem reserved_any (r:Int) (hr:-2147483648≤r∧r<2147483648) (w:World):Calls Tryz.prog 111 #[.int .i32 r] w fun e w'=>e=.returned (.bool (resB r))∧w=w':=by
  obtain ⟨r1,r2⟩:=hr
  by_cases h1:r<0
  · have HZ:=Lib.hid (resB_out (.inl h1))
    have hb:(r == 127)=false:=by simp;omega
    go_enter Tryz.func111,Tryz.ntmps111
    go_wp2
    go_ret
    exact ⟨ret_bool HZ.out.symm,rfl⟩
  by_cases h2:r<32
  · have HZ:Hid (resB r=true):=Lib.hid (by unfold resB;simp;omega)
    go_enter Tryz.func111,Tryz.ntmps111
    go_wp2
    go_ret
    exact ⟨ret_bool HZ.out.symm,rfl⟩
  by_cases h3:r=127
  · subst h3
    have HZ:Hid (resB 127=true):=Lib.hid (by decide)
    go_enter Tryz.func111,Tryz.ntmps111
    go_wp2
    go_ret
    exact ⟨ret_bool HZ.out.symm,rfl⟩
  have hb:(r == 127)=false:=by simp [h3]
  by_cases h4:r<127
  · have HX:=Lib.hid (Tryz.strings_IndexByte resS r)
    have HR:Hid (decide (0≤Lib.indexByte resS.data.toList r.toNat.toUInt8)=resB r):=Lib.hid (by
      have:=res_byte (r:=r) (by omega) (by omega)
      unfold resB
      have e1:decide (r<32)=false:=by simp;omega
      have e2:decide (r=127)=false:=by simp;omega
      rw [e1,e2,Bool.and_false,Bool.false_or,Bool.false_or]
      cases hc:reservedL.contains r with
      | true=>exact decide_eq_true (this.2 hc)
      | false=>exact decide_eq_false fun q=>by rw [this.1 q] at hc;cases hc)
    generalize Lib.indexByte resS.data.toList r.toNat.toUInt8=x at HX HR
    unfold resS at HX
    go_enter Tryz.func111,Tryz.ntmps111
    go_wp2_with fail
    refine (HX.out _).mono ?_
    rintro e w1 ⟨rfl,rfl⟩
    go_wp2
    go_ret
    exact ⟨by rw [← HR.out];rfl,rfl⟩
  · have HZ:Hid (resB r=false):=Lib.hid (by unfold resB reservedL;simp;omega)
    go_enter Tryz.func111,Tryz.ntmps111
    go_wp2
    go_ret
    exact ⟨ret_bool HZ.out.symm,rfl⟩
def partV (p:Part) (n:Int):Value:=.agg #[.int .i32 p.1,.int .i64 n,.string p.2.1,.bool p.2.2]
set_option maxHeartbeats 800000 in
theorem hidden_any (p:Part) (n:Int) (hr:-2147483648≤p.1∧p.1<2147483648) (w:World):Calls Tryz.prog 53 #[partV p n] w fun e w'=>e=.returned (.bool (hidB p))∧Fresh w w':=by
  obtain ⟨r,b,l⟩:=p
  simp only at hr
  have HR:=Lib.hid (reserved_any r hr)
  obtain ⟨r1,r2⟩:=hr
  unfold partV
  by_cases h1:r<0
  · have HZ:Hid (true=hidB (r,b,l)):=Lib.hid (by unfold hidB;simp [h1])
    go_enter Tryz.func53,Tryz.ntmps53
    go_wp2
    go_ret
    exact ⟨ret_bool HZ.out,(Fresh.refl _).alloc _⟩
  have h1':¬ r<0:=h1
  cases hres:resB r with
  | true =>
    have HZ:Hid (true=hidB (r,b,l)):=Lib.hid (by unfold hidB;simp [hres])
    rw [hres] at HR
    clear hres
    go_enter Tryz.func53,Tryz.ntmps53
    go_wp2_with fail
    refine (HR.out _).mono ?_
    rintro e w1 ⟨rfl,rfl⟩
    go_wp2
    go_ret
    exact ⟨ret_bool HZ.out,(Fresh.refl _).alloc _⟩
  | false =>
    cases l with
    | false =>
      have HZ:Hid (false=hidB (r,b,false)):=Lib.hid (by unfold hidB;simp [hres];omega)
      rw [hres] at HR
      clear hres
      go_enter Tryz.func53,Tryz.ntmps53
      go_wp2_with fail
      refine (HR.out _).mono ?_
      rintro e w1 ⟨rfl,rfl⟩
      go_wp2
      go_ret
      exact ⟨ret_bool HZ.out,(Fresh.refl _).alloc _⟩
    | true =>
      have HZ:Hid ((decide (r=46) || decide (r=32))=hidB (r,b,true)):=Lib.hid (by unfold hidB;simp [hres];omega)
      rw [hres] at HR
      clear hres
      by_cases h46:r=46
      · subst h46
        go_enter Tryz.func53,Tryz.ntmps53
        go_wp2_with fail
        refine (HR.out _).mono ?_
        rintro e w1 ⟨rfl,rfl⟩
        go_wp2
        go_ret
        exact ⟨by rw [← HZ.out];rfl,(Fresh.refl _).alloc _⟩
      · have hb:(r == 46)=false:=by simp [h46]
        have hd:decide (r=46)=false:=decide_eq_false h46
        rw [hd,Bool.false_or] at HZ
        by_cases h32:r=32
        · subst h32
          go_enter Tryz.func53,Tryz.ntmps53
          go_wp2_with fail
          refine (HR.out _).mono ?_
          rintro e w1 ⟨rfl,rfl⟩
          go_wp2
          go_ret
          exact ⟨by rw [← HZ.out];rfl,(Fresh.refl _).alloc _⟩
        · have hb2:(r == 32)=false:=by simp [h32]
          have hd2:decide (r=32)=false:=decide_eq_false h32
          rw [hd2] at HZ
          clear h46 h32 hd hd2
          go_enter Tryz.func53,Tryz.ntmps53
          go_wp2_with fail
          refine (HR.out _).mono ?_
          rintro e w1 ⟨rfl,rfl⟩
          go_wp2
          go_ret
          exact ⟨ret_bool HZ.out,(Fresh.refl _).alloc _⟩
set_option maxHeartbeats 800000 in
theorem strange_any (p:Part) (n:Int) (hr:-2147483648≤p.1∧p.1<2147483648) (w:World):Calls Tryz.prog 56 #[partV p n] w fun e w'=>e=.returned (.bool (strB p))∧Fresh w w':=by
  have HR:=Lib.hid (fun w=>hidden_any p n hr w)
  obtain ⟨r,b,l⟩:=p
  unfold partV at HR ⊢
  cases hres:hidB (r,b,l) with
  | true =>
    have HZ:Hid (true=strB (r,b,l)):=Lib.hid (by unfold strB;simp [hres])
    rw [hres] at HR
    clear hres
    go_enter Tryz.func56,Tryz.ntmps56
    go_wp2_with fail
    refine (HR.out _).mono ?_
    rintro e w1 ⟨rfl,hf⟩
    go_wp2
    go_ret
    exact ⟨ret_bool HZ.out,((Fresh.refl _).alloc _).trans hf⟩
  | false =>
    have HZ:Hid (decide (128≤r)=strB (r,b,l)):=Lib.hid (by unfold strB;simp [hres])
    rw [hres] at HR
    clear hres
    go_enter Tryz.func56,Tryz.ntmps56
    go_wp2_with fail
    refine (HR.out _).mono ?_
    rintro e w1 ⟨rfl,hf⟩
    have hcell:w1.cell? ⟨w.heap.size,0,none⟩=some (.int .i32 r):=by
      have:=Below.cell hf (p:=⟨w.heap.size,0,none⟩) (by simp)
      rw [this];simp
    go_wp2
    go_ret
    exact ⟨ret_bool HZ.out,((Fresh.refl _).alloc _).trans hf⟩
end Go.Proofs.YtpmlggjhfiljmaaGreatDoor
