/- Part 8 of what the law rests on. -/
import Derived.ArgAppend
import Derived.OwnWalk
import Derived.Laws.OwnMore
import Derived.Deep.RegionLaw
import Derived.Shelf.SlMaps.Clone
import Derived.Test.YtpmlggjhfiljmaaGreatDoorS03
import Derived.Test.YtpmlggjhfiljmaaGreatDoorS07
set_option linter.all false
namespace Go.Proofs.YtpmlggjhfiljmaaGreatDoor
open Go.RowKit
theorem own_base {w:World} {B B':Nat} {e:TypeId} {size:Nat} {v:Value} {n:Nat} {xs:List Value} (h:w.ownsRow B e size v n xs) (hb:B'≤B):w.ownsRow B' e size v n xs:=by
  obtain ⟨h1,h2 | ⟨g,cap,cur,hv,hb2,r⟩⟩:=h
  · exact ⟨h1,.inl h2⟩
  · exact ⟨h1,.inr ⟨g,cap,cur,hv,by omega,r⟩⟩
theorem wpList_append_own2 {P:Program} (w:World) {ops:Array Oper} {rest:List Oper} {o:Oper} {a:Act} {Q:Exit→Act→World→Prop} (hgd:o.guard=none) (s x:Operand) (t:TypeId)
    (ho:o.op=.call { callee:=.builtin .append,args:=#[s,x],argTypes:=#[t,t] })
    (base:Nat) (e:TypeId) (i:TypeInfo) (z:Value) (size bytes:Nat) (ht:P.underlying t=some (.slice e)) (hi:P.info? e=some i) (hz:i.zero=some z)
    (hsize:i.size=size) (hby:i.bytes=bytes) (hzs:z.cells.size=size) (hsz:0<size)
    (v:Value) (n:Nat) (xs:List Value) (hs:a.eval s=v) (hown:w.ownsRow base e size v n xs)
    (ad:Addr) (m c:Nat) (news:List Value) (hx:a.eval x=.slice (some ad) m c) (hl:news.length=m * size) (hnews:∀ j u,news[j]?=some u→w.cell? (ad.add j)=some u) (h1:∀ u ∈ news,u.oneCell'=true)
    (h63:n+m≤maxLen) (hbytes:(n+m) * bytes≤140737488355328) (hbase:base≤w.heap.size)
    (h:∀ v' w',w'.ownsRow base e size v' (n+m) (xs++news)→w.grownBy w' v.ownBlock→(∀ g2,v'.ownBlock=some g2→v.ownBlock=some g2∨w.heap.size≤g2)→wpList P ops Q rest (a.put o.dst v') w'):wpList P ops Q (o :: rest) a w:=by
  have h0:=hown
  obtain ⟨q1,⟨q2,q3⟩ | ⟨g,cap,cur,hv,hb,hh,hc1,hc2,hcs,hct⟩⟩:=hown
  · have hx0:xs=[]:=by subst q3;exact List.eq_nil_of_length_eq_zero (by simpa using q1)
    subst q2 q3 hx0
    refine wpList_append_own w hgd s x t ho w.heap.size e i z size bytes ht hi hz hsize hby hzs hsz (.slice none 0 0) 0 [] hs (World.ownsRow_nil _ _ _ _) ad m c news hx hl hnews h1 h63 hbytes (Nat.le_refl _) fun v' w' r1 r2 _=>h v' w' (own_base r1 hbase) r2 fun g2 hg2=>.inr (r1.lt _ hg2).1
  · subst hv
    by_cases hr:n+m≤cap
    · exact wpList_append_fits w hgd s x t ho base e i size ht hi hsize g n cap xs hs h0 ad m c news hx hl hnews h1 hr fun w' r1 r2=>h _ w' r1 r2 fun g2 hg2=>.inl (by simpa [Value.ownBlock] using hg2)
    · exact wpList_append_grows w hgd s x t ho e i z size bytes ht hi hz hsize hby hzs hsz (some ⟨g,0,none⟩) n cap xs hs (fun e=>by cases e) q1 (fun b hb2 j u hj=>by cases hb2;exact h0.cells rfl j u hj) ad m c news hx hl hnews h1 (by omega) h63 hbytes fun v' w' r1 r2=>h v' w' (own_base r1 hbase) ⟨r2.os,r2.tape,r2.output,r2.size,fun k hk _=>r2.block k hk (by simp)⟩ fun g2 hg2=>.inr (r1.lt _ hg2).1
/-! ### the plain steps -/
theorem ap_sort {F G M D:List Int} (hF:Nf F) (hG:Run G) (hh:F=[]∨∃ c R,G=c :: R∧clsI c=0) (ho:ordA (F++G)=ordA D) (h1:SP G M) (h2:Srt M):F++M=ordA D:=by
  have hM:=run_ord hG h1 h2
  have e1:ordA (F++M)=ordA D:=by
    rw [← ho];exact ordA_pre F (by rw [hM,ordA_idem])
  have e2:Nf (F++M):=by
    rcases hh with e | ⟨c,R,e,hc⟩
    · rw [e];exact nf_srt h2
    · have hM2:∃ R',M=c :: R':=by
        rw [hM,e]
        show ∃ R',ins c (ordA R)=c :: R'
        cases ordA R with
        | nil=>exact ⟨[],rfl⟩
        | cons y R=>simp only [ins];rw [if_neg (by omega)];exact ⟨_,rfl⟩
      obtain ⟨R',e3⟩:=hM2
      rw [e3] at h2 ⊢
      exact nf_app hc hF (nf_srt h2)
  rw [← nf_ord e2,e1]
theorem ordA_snoc {A D:List Int} (h:ordA A=ordA D) (x:Int):ordA (A++[x])=ordA (D++[x]):=ordA_congr h [x]
def ApIn (w:World) (D:List Int) (out from_:Value) (wr:World):Prop :=
  ∃ F G:List Int,from_=.int .i64 (F.length:Nat)∧OwnR wr w.heap.size out (F++G)∧(F++G=[]→out=.slice none 0 0)∧Fresh w wr∧Nf F∧Run G∧(F=[]∨∃ c R,G=c :: R∧clsI c=0)∧ordA (F++G)=ordA D
def ApMid (w:World) (D:List Int) (out:Value) (wr:World):Prop:=OwnR wr w.heap.size out (ordA D)∧(ordA D=[]→out=.slice none 0 0)∧Fresh w wr
theorem ApMid.push {w w':World} {D:List Int} {out:Value} {x:Int} (hx:clsI x=0) (h:OwnR w' w.heap.size out (ordA D++[x])) (hf:Fresh w w'):ApIn w (D++[x]) out (.int .i64 ((ordA D).length:Nat)) w' :=
  ⟨ordA D,[x],rfl,h,fun e=>by simp at e,hf,ord_nf D,fun y hy=>by simp at hy,.inr ⟨x,[],rfl,hx⟩,ordA_app D [x]⟩
theorem ApIn.push {w w':World} {D F G:List Int} {out:Value} {x:Int} (hx:clsI x ≠ 0) (h:OwnR w' w.heap.size out (F++G++[x])) (hf:Fresh w w') (hF:Nf F) (hG:Run G) (hh:F=[]∨∃ c R,G=c :: R∧clsI c=0) (ho:ordA (F++G)=ordA D) :
    ApIn w (D++[x]) out (.int .i64 (F.length:Nat)) w' :=
  ⟨F, G++[x],rfl,by rwa [← List.append_assoc],fun e=>by simp at e,hf,hF,fun y hy=>by
    cases G with
    | nil=>simp at hy
    | cons c R =>
      simp at hy
      rcases hy with e | e
      · exact hG y e
      · rw [e];exact hx,by
    rcases hh with e | ⟨c,R,e,hc⟩
    · exact .inl e
    · exact .inr ⟨c,R++[x],by rw [e];rfl,hc⟩,by rw [← List.append_assoc];exact ordA_snoc ho x⟩
def SpIn (w:World) (D s:List Int) (g2:Nat) (out from_ i:Value) (wr:World):Prop :=
  ∃ j:Nat,i=.int .i64 (j:Nat)∧j≤s.length∧ApIn w (D++s.take j) out from_ wr∧g2<wr.heap.size∧out.ownBlock ≠ some g2∧∀ k,k<s.length→wr.cell? ⟨g2,k,none⟩=some (.int .i32 (s.getD k 0))
def ApRel (w:World) (l:List Int) (out from_ i:Value) (wr:World):Prop:=∃ k:Nat,i=.int .i64 (k:Nat)∧k≤l.length∧ApIn w (spl (l.take k)) out from_ wr
theorem take_snoc {l:List Int} {k:Nat} (h:k<l.length):l.take (k+1)=l.take k++[l.getD k 0]:=by
  rw [List.take_add_one,List.getD_eq_getElem?_getD,List.getElem?_eq_getElem h];rfl
theorem spl_snoc {l:List Int} {k:Nat} (h:k<l.length):spl (l.take (k+1))=spl (l.take k)++splits (l.getD k 0):=by
  rw [take_snoc h,spl_app];simp [spl]
theorem OwnR.apart {w:World} {B g2:Nat} {v:Value} {xs:List Int} (h:OwnR w B v xs) (hg:w.heap.size≤g2):v.ownBlock ≠ some g2:=fun e=>by have:=(h.lt g2 e).2;omega
theorem sp_next {w3 w4:World} {s:List Int} {g2:Nat} {v v':Value} {o:Obj} (hcell:∀ k,k<s.length→w3.cell? ⟨g2,k,none⟩=some (.int .i32 (s.getD k 0))) (hg2:g2<w3.heap.size) (hne:v.ownBlock ≠ some g2)
    (hg:(w3.alloc o).grownBy w4 v.ownBlock) (hblk:∀ g2,v'.ownBlock=some g2→v.ownBlock=some g2∨(w3.alloc o).heap.size≤g2) :
    g2<w4.heap.size∧v'.ownBlock ≠ some g2∧∀ k,k<s.length→w4.cell? ⟨g2,k,none⟩=some (.int .i32 (s.getD k 0)):=by
  have hsz:=hg.size
  have ha:=((Fresh.refl w3).alloc o)
  have hsa:(w3.alloc o).heap.size=w3.heap.size+1:=by simp
  refine ⟨by omega,fun e=>?_,fun k hk=>?_⟩
  · rcases hblk g2 e with h | h
    · exact hne h
    · omega
  · exact hg.cell ((Below.cell ha (p:=⟨g2,k,none⟩) hg2).trans (hcell k hk)) (fun e=>hne e.symm)
set_option maxHeartbeats 3200000 in
set_option maxRecDepth 100000 in
theorem capt_any (u:Value) (l:List Int) (w:World) (hu:Sl w u l) (hl:l.length≤10000) (h32:In32 l):Calls Tryz.prog 66 #[u] w (RunesPost (apt l) w):=by
  obtain ⟨i0,hi0,hz0,hz1,hz2⟩:=info_parts info32
  obtain ⟨a,ca,rfl,hu⟩:=hu
  rcases hu with rfl | ⟨b1,o1,rfl,hb1,hc1⟩
  · go_enter Tryz.func66,Tryz.ntmps66
    go_wp2
    refine wp_loop_rounds 1 ?_
    rw [rounds_succ]
    go_wp2_with fail
    refine (order_nil w).mono ?_
    rintro e w1 ⟨rfl,rfl⟩
    go_wp2
    go_ret
    exact ⟨_,rfl,OwnR.nil _ _,Fresh.refl _⟩
  have H1:=Lib.hid hc1
  clear hc1
  generalize hn:l.length=n at hl H1
  have HN:=Lib.hid hn
  clear hn
  go_enter Tryz.func66,Tryz.ntmps66
  go_wp2
  go_loopw [3,4,11] (fun out f i wr=>ApRel w l out f i wr) (fun _ _ i _=>n - (intOf i).toNat)
  case atStart=>exact ⟨0,rfl,Nat.zero_le _,[],[],rfl,OwnR.nil _ _,fun _=>rfl,Fresh.refl _,trivial,fun _ h=>by simp at h,.inl rfl,rfl⟩
  case round =>
    obtain ⟨k,rfl,hk,hap⟩:=hrel
    have hk':k≤n:=by have:=HN.out;omega
    clear hk
    by_cases hlt:k<n
    · obtain ⟨F,G,rfl,hown,hnil,hf,hF,hG,hh,ho⟩:=hap
      have c1:wr.cell? ⟨b1,o1+k,none⟩=some (.int .i32 (l.getD k 0)):=(Below.cell hf (p:=⟨b1,o1+k,none⟩) hb1).trans (H1.out k hlt)
      have hm:l.getD k 0 ∈ l:=by rw [List.getD_eq_getElem?_getD,List.getElem?_eq_getElem (by have:=HN.out;omega)];simp
      have hr:=h32 _ hm
      have HD:=Lib.hid (spl_snoc (l:=l) (k:=k) (by have:=HN.out;omega))
      generalize l.getD k 0=r at c1 hr HD
      clear hm
      generalize hDD:spl (l.take k)=D at ho HD
      have HDD:=Lib.hid hDD
      have HO:=Lib.hid ho
      have HNIL:=Lib.hid hnil
      have HH:=Lib.hid hh
      have HOWN:=Lib.hid hown
      have HFF:=Lib.hid hF
      have HGG:=Lib.hid hG
      clear ho hnil hh hown hF hG hDD
      go_wp2_with fail
      refine (csplit r _ hr).mono ?_
      rintro e w2 ⟨v,rfl,hs,hf2⟩
      obtain ⟨g2,cap2,rfl,hg2,hcell⟩:=hs.sl2 (by have:=splits_len r;omega)
      have hg2b:wr.heap.size≤g2:=(hs.lt g2 rfl).1
      have hsl:=splits_len r
      have h32s:∀ x ∈ splits r,True:=fun _ _=>trivial
      clear h32s
      generalize hss:splits r=s at hs hcell HD hsl
      have HCELL:=Lib.hid hcell
      have hownF:=HOWN.out.keep hf2
      have hne:=HOWN.out.apart hg2b
      have H2:Hid (ApIn w D _ (.int .i64 (F.length:Nat)) w2):=Lib.hid ⟨F,G,rfl,hownF,HNIL.out,hf.trans hf2,HFF.out,HGG.out,HH.out,HO.out⟩
      clear hs hcell hss c1 hownF HOWN HNIL HFF HGG HH HO hf hf2
      go_wp2
      generalize hsn:s.length=sn at hsl HCELL
      have HSN:=Lib.hid hsn
      clear hsn
      go_loopw [3,4,18] (fun out f i wr=>SpIn w D s g2 out f i wr) (fun _ _ i _=>sn - (intOf i).toNat)
      case atStart=>exact ⟨0,rfl,Nat.zero_le _,by simpa using H2.out,hg2,hne,by rw [HSN.out];exact HCELL.out⟩
      case round =>
        clear HCELL H2 hne hg2b hg2
        obtain ⟨j,rfl,hj,hap,hg2,hne,hcell⟩:=hrel
        rw [HSN.out] at hj hcell
        by_cases hjl:j<sn
        · have c1:=hcell j hjl
          have hDS:=take_snoc (l:=s) (k:=j) (by rw [HSN.out];exact hjl)
          have HDS:=Lib.hid hDS
          clear hDS
          generalize s.getD j 0=x at c1 HDS
          have HCELL:=Lib.hid hcell
          have HC:=Lib.hid (class_any x)
          clear hcell
          by_cases hx:clsI x=0
          · have hb:(clsI x == 0)=true:=by simp [hx]
            have HXX:=Lib.hid hx
            clear hx
            obtain ⟨F,G,rfl,hown,hnil,hf,hF,hG,hh,ho⟩:=hap
            have HOWN:=Lib.hid hown
            have HH:=Lib.hid (And.intro hF (And.intro hG (And.intro hh ho)))
            by_cases hFG:F++G=[]
            · have ho0:=hnil hFG
              subst ho0
              have hfg:=List.append_eq_nil_iff.1 hFG
              obtain ⟨rfl,rfl⟩:=hfg
              have hD0:ordA (D++s.take j)=[]:=ho.symm
              have HD0:=Lib.hid hD0
              clear hown hF hG hh ho hnil hFG HH hD0
              simp only [List.length_nil]
              go_wp2_with ((go_at_call 25;refine (HC.out _).mono ?_;rintro e w1 ⟨rfl,rfl⟩))
              refine (order_nil wr).mono ?_
              rintro e w3 ⟨rfl,rfl⟩
              have hown3:=HOWN.out
              have hcp:True:=trivial
              unfold OwnR at hown3
              go_wp2_with (at_builtin;refine wpList_append_own2 _ rfl _ _ 50 rfl w.heap.size 21 i0 (.int .i32 0) 1 4 Tryz.underlying50 hi0 hz0 hz1 hz2 rfl (by decide) _ _ _ rfl (hown3.alloc _) ⟨w3.heap.size,0,none⟩ 1 1 [.int .i32 x] rfl rfl ?c1 ?c2 ?c3 ?c4 ?c5 ?_)
              case c1=>exact cell_new1 _ _ _
              case c2=>intro u hu;simp at hu;subst hu;rfl
              case c3=>simp [maxLen]
              case c4=>simp
              case c5=>have:=hf.size;simp;omega
              intro v' w' hown' hgrow hblk
              have hnx:=sp_next (o:=.cells #[.int .i32 x] 21) (v:=.slice none 0 0) (by rw [HSN.out];exact HCELL.out) hg2 hne hgrow (fun g2 h=>by have:=hblk g2 h;simpa using this)
              have hf':=OwnR.fresh hf hown3 hgrow
              have hn':=OwnR.push (acc:=[]) hown'
              have HP:=Lib.hid (ApMid.push (D:=D++s.take j) HXX.out (by rw [HD0.out];exact hn') hf')
              have HNX:=Lib.hid hnx
              clear hown' hgrow hblk hnx hf' hn' hown3 hne hg2
              rw [HD0.out] at HP
              go_wp2
              refine ⟨⟨j+1,by rw [Int.natCast_add];rfl,by have:=HSN.out;omega,by rw [HDS.out,← List.append_assoc];exact HP.out,HNX.out.1,HNX.out.2.1,HNX.out.2.2⟩,by simp [intOf];omega⟩
            · have hG1:1≤G.length:=by
                rcases hh with e | ⟨c,R,e,_⟩
                · rw [e] at hFG;exact List.length_pos_iff.2 hFG
                · rw [e];simp
              obtain ⟨g,cap,rfl,hbg,hcap,harr,hback⟩:=own_arr hown (by simp;omega)
              have HARR:=Lib.hid harr
              have HBACK:=Lib.hid hback
              have hgs:=harr.lt
              clear hown hF hG hh ho harr hback hnil hFG
              generalize hfl:F.length=fl at hcap HARR HBACK
              generalize hgl:G.length=gl at hG1 hcap HARR HBACK
              have HFL:=Lib.hid hfl
              have HGL:=Lib.hid hgl
              clear hfl hgl
              have hc9:¬ cap=fl:=by omega
              have hc8:fl≤fl+gl:=by omega
              have hc7:fl≤cap:=by omega
              go_wp2_with ((go_at_call 25;refine (HC.out _).mono ?_;rintro e w1 ⟨rfl,rfl⟩))
              have hcp:=HARR.out.len
              have hle:fl+gl≤40000:=by
                have h1:=ord_len (F++G)
                rw [HH.out.2.2.2,ord_len,List.length_append,List.length_append,HFL.out,HGL.out,List.length_take] at h1
                have h2:=spl_len (l.take k)
                rw [HDD.out,List.length_take,HN.out] at h2
                omega
              refine (order_any wr g fl gl G wr _ (by omega) (by omega) HARR.out).mono ?_
              rintro e w3 ⟨rfl,M,s1,t1,h3⟩
              have h3':Arr wr g fl gl M w3:=by simpa using h3
              have hown3:=HBACK.out M w3 h3'.len h3'
              have hfm:=ap_sort HH.out.1 HH.out.2.1 HH.out.2.2.1 HH.out.2.2.2 s1 t1
              have hlenM:=h3'.len
              have hl3:(ordA (D++s.take j)).length=fl+gl:=by rw [← hfm,List.length_append,HFL.out,hlenM]
              rw [hfm] at hown3
              have hf3:Fresh w w3:=Below.grown hf h3'.grown (by have:=hf.size;omega) (fun k hk=>by cases hk;exact hbg)
              have hcell3:∀ k,k<s.length→w3.cell? ⟨g2,k,none⟩=some (.int .i32 (s.getD k 0)):=fun k hk=>h3'.grown.cell (HCELL.out k (by have:=HSN.out;omega)) (fun e=>hne e.symm)
              have hg23:g2<w3.heap.size:=Nat.lt_of_lt_of_le hg2 h3'.grown.size
              have HC3:=Lib.hid hcell3
              have HL3:=Lib.hid hl3
              clear s1 t1 h3 h3' hfm hlenM hcell3 hg2 hf hgs HARR HBACK HFL HGL HH HCELL hb hl3
              unfold OwnR at hown3
              rw [HL3.out] at hown3
              go_wp2_with (at_builtin;refine wpList_append_own2 _ rfl _ _ 50 rfl w.heap.size 21 i0 (.int .i32 0) 1 4 Tryz.underlying50 hi0 hz0 hz1 hz2 rfl (by decide) _ _ _ rfl (hown3.alloc _) ⟨w3.heap.size,0,none⟩ 1 1 [.int .i32 x] rfl rfl ?c1 ?c2 ?c3 ?c4 ?c5 ?_)
              case c1=>exact cell_new1 _ _ _
              case c2=>intro u hu;simp at hu;subst hu;rfl
              case c3=>unfold maxLen;omega
              case c4=>omega
              case c5=>have:=hf3.size;simp;omega
              intro v' w' hown' hgrow hblk
              have hnx:=sp_next (o:=.cells #[.int .i32 x] 21) (v:=.slice (some ⟨g,0,none⟩) (fl+gl) cap) HC3.out hg23 hne hgrow (fun g2 h=>by have:=hblk g2 h;simpa using this)
              have hf':=OwnR.fresh hf3 hown3 hgrow
              rw [← HL3.out] at hown'
              have hn':=OwnR.push hown'
              have HP:=Lib.hid (ApMid.push HXX.out hn' hf')
              have HNX:=Lib.hid hnx
              clear hown' hgrow hblk hnx hf' hn' hown3 HC3 hg23 hne
              rw [HL3.out] at HP
              go_wp2
              refine ⟨⟨j+1,by rw [Int.natCast_add];rfl,by have:=HSN.out;omega,by rw [HDS.out,← List.append_assoc];exact HP.out,HNX.out.1,HNX.out.2.1,HNX.out.2.2⟩,by simp [intOf];omega⟩
          · have hb:(clsI x == 0)=false:=by simp [hx]
            have HXX:=Lib.hid hx
            clear hx
            obtain ⟨F,G,rfl,hown,hnil,hf,hF,hG,hh,ho⟩:=hap
            have hle:(F++G).length≤40000:=by
              have h1:=ord_len (F++G)
              rw [ho,ord_len,List.length_append,List.length_take] at h1
              have h2:=spl_len (l.take k)
              rw [HDD.out,List.length_take,HN.out] at h2
              omega
            have HOWN:=Lib.hid hown
            have HH:=Lib.hid (And.intro hF (And.intro hG (And.intro hh ho)))
            have hown3:=hown
            unfold OwnR at hown3
            clear hown hF hG hh ho hnil
            go_wp2_with (first | (go_at_call 25;refine (HC.out _).mono ?_;rintro e w1 ⟨rfl,rfl⟩) | (at_builtin;refine wpList_append_own2 _ rfl _ _ 50 rfl w.heap.size 21 i0 (.int .i32 0) 1 4 Tryz.underlying50 hi0 hz0 hz1 hz2 rfl (by decide) _ _ _ rfl (hown3.alloc _) ⟨wr.heap.size,0,none⟩ 1 1 [.int .i32 x] rfl rfl ?c1 ?c2 ?c3 ?c4 ?c5 ?_))
            case c1=>exact cell_new1 _ _ _
            case c2=>intro u hu;simp at hu;subst hu;rfl
            case c3=>unfold maxLen;omega
            case c4=>omega
            case c5=>have:=hf.size;simp;omega
            intro v' w' hown' hgrow hblk
            have hnx:=sp_next (o:=.cells #[.int .i32 x] 21) (by rw [HSN.out];exact HCELL.out) hg2 hne hgrow (fun g2 h=>by have:=hblk g2 h;simpa using this)
            have hf':=OwnR.fresh hf hown3 hgrow
            have hn':=OwnR.push (acc:=F++G) (r:=x) (by have:=hown';simpa using this)
            have HP:=Lib.hid (ApIn.push HXX.out hn' hf' HH.out.1 HH.out.2.1 HH.out.2.2.1 HH.out.2.2.2)
            have HNX:=Lib.hid hnx
            clear hown' hgrow hblk hnx hf' hn' hown3 hne hg2
            go_wp2
            refine ⟨⟨j+1,by rw [Int.natCast_add];rfl,by have:=HSN.out;omega,by rw [HDS.out,← List.append_assoc];exact HP.out,HNX.out.1,HNX.out.2.1,HNX.out.2.2⟩,by simp [intOf];omega⟩
        · have hjs:j=s.length:=by have:=HSN.out;omega
          have HP:Hid (ApIn w (spl (l.take (k+1))) _ _ wr):=Lib.hid (by rw [HD.out];rw [hjs,List.take_length] at hap;exact hap)
          clear hap hcell hne hg2 hjs
          go_wp2
          go_roundw
          case rel=>exact ⟨k+1,by rw [Int.natCast_add];rfl,by have:=HN.out;omega,HP.out⟩
          case measure=>simp [intOf];omega
    · have hkn:k=n:=by omega
      obtain ⟨F,G,rfl,hown,hnil,hf,hF,hG,hh,ho⟩:=hap
      rw [hkn,← HN.out,List.take_length] at ho
      have HO:Hid (ordA (F++G)=apt l):=Lib.hid ho
      have HOWN:=Lib.hid hown
      by_cases hFG:F++G=[]
      · have ho0:=hnil hFG
        subst ho0
        have hfg:=List.append_eq_nil_iff.1 hFG
        obtain ⟨rfl,rfl⟩:=hfg
        clear hown hF hG hh ho hnil hFG
        simp only [List.length_nil]
        go_wp2_with fail
        refine (order_nil wr).mono ?_
        rintro e w3 ⟨rfl,rfl⟩
        go_wp2
        go_ret
        exact ⟨_,rfl,by rw [← HO.out];exact HOWN.out,hf⟩
      · have hG1:1≤G.length:=by
          rcases hh with e | ⟨c,R,e,_⟩
          · rw [e] at hFG;exact List.length_pos_iff.2 hFG
          · rw [e];simp
        have hle:F.length+G.length≤40000:=by
          have h1:=ord_len (F++G)
          rw [ho,ord_len,List.length_append] at h1
          have h2:=spl_len l
          rw [HN.out] at h2
          omega
        obtain ⟨g,cap,rfl,hbg,hcap,harr,hback⟩:=own_arr hown (by simp;omega)
        have HARR:=Lib.hid harr
        have HBACK:=Lib.hid hback
        have HH:=Lib.hid (And.intro hF (And.intro hG (And.intro hh ho)))
        have hgs:=harr.lt
        clear hown hF hG hh ho harr hback hnil hFG
        generalize hfl:F.length=fl at hcap HARR HBACK hle
        generalize hgl:G.length=gl at hG1 hcap HARR HBACK hle
        have HFL:=Lib.hid hfl
        have HGL:=Lib.hid hgl
        clear hfl hgl
        have hc9:¬ cap=fl:=by omega
        have hc8:fl≤fl+gl:=by omega
        have hc7:fl≤cap:=by omega
        go_wp2_with fail
        refine (order_any wr g fl gl G wr _ (by omega) (by omega) HARR.out).mono ?_
        rintro e w3 ⟨rfl,M,s1,t1,h3⟩
        have h3':Arr wr g fl gl M w3:=by simpa using h3
        have hown3:=HBACK.out M w3 h3'.len h3'
        have hfm:=ap_sort HH.out.1 HH.out.2.1 HH.out.2.2.1 HH.out.2.2.2 s1 t1
        have HF3:Hid (Fresh w w3):=Lib.hid (Below.grown hf h3'.grown (by have:=hf.size;omega) (fun k hk=>by cases hk;exact hbg))
        rw [hfm] at hown3
        have HO3:Hid (OwnR w3 w.heap.size _ (apt l)):=Lib.hid hown3
        clear s1 t1 h3 h3' hfm hown3
        go_wp2
        go_ret
        exact ⟨_,rfl,HO3.out,HF3.out⟩
open Go.RowKit
theorem run_append_owned_nil {P:Program} {w:World} (base:Nat) (t ty e:TypeId) (i:TypeInfo) (size:Nat) (ht:P.underlying t=some (.slice e)) (hi:P.info? e=some i)
    (v:Value) (n:Nat) (xs:List Value) (hown:w.ownsRow base e size v n xs) (c:Nat) :
    (Builtin.append_ #[t,t] ty #[v,.slice none 0 c]).run P w=.ok v w:=by
  rcases hown.2 with ⟨rfl,rfl⟩ | ⟨g,cap,cur,rfl,_,_,hnc,_⟩
  · simp [Builtin.append_,run_underlying ht,sizeOf,typeInfo,hi,Builtin.lenOf,Builtin.firstCells]
  · simp [Builtin.append_,run_underlying ht,sizeOf,typeInfo,hi,Builtin.lenOf,Builtin.firstCells,hnc,storeCells]
theorem OwnR.empty (w:World) (B:Nat) (hB:B≤w.heap.size):OwnR (w.alloc (.cells #[] 21)) B (.slice (some ⟨w.heap.size,0,none⟩) 0 0) [] :=
  ⟨rfl,.inr ⟨_,0,#[],rfl,hB,heap_alloc_new _ _,Nat.le_refl _,by unfold maxLen;omega,rfl,rfl⟩⟩
theorem OwnR.alloc {w:World} {B:Nat} {v:Value} {xs:List Int} (h:OwnR w B v xs) (o:Obj):OwnR (w.alloc o) B v xs:=h.keep ((Fresh.refl _).alloc o)
theorem Sl.alloc {w:World} {v:Value} {xs:List Int} (h:Sl w v xs) (o:Obj):Sl (w.alloc o) v xs:=h.keep ((Fresh.refl _).alloc o)
theorem OwnR.grew {w w1 w':World} {v:Value} {xs:List Int} (hf:Fresh w w1) (ho:OwnR w1 w.heap.size v xs) (hg:w1.grownBy w' v.ownBlock):Fresh w w' :=
  Below.grown hf hg hf.size (fun k hk=>(ho.lt k hk).1)
open Go.RowKit
theorem step_append_new {P:Program} {ops:Array Oper} {o:Oper} {a:Act} {w:World} {K:Act→World→Prop} {Q:Exit→Act→World→Prop} {E:Prop} (hg:o.guard=none) (s x:Operand) (t:TypeId)
    (ho:o.op=.call { callee:=.builtin .append,args:=#[s,x],argTypes:=#[t,t] })
    (w0:World) (base:Nat) (e:TypeId) (i:TypeInfo) (z:Value) (size bytes:Nat) (ht:P.underlying t=some (.slice e)) (hi:P.info? e=some i) (hz:i.zero=some z)
    (hsize:i.size=size) (hby:i.bytes=bytes) (hzs:z.cells.size=size) (hsz:0<size)
    (v:Value) (n:Nat) (xs:List Value) (hown:w0.ownsRow base e size v n xs) (m:Nat) (news:List Value) (hl:news.length=m * size) (h1:∀ u ∈ news,u.oneCell'=true)
    (h63:n+m≤maxLen) (hbytes:(n+m) * bytes≤140737488355328) (hbase:base≤w0.heap.size)
    (hs:a.eval s=v) (hx:a.eval x=.slice (some ⟨w0.heap.size,0,none⟩) m m) (hfr:Fresh (w0.alloc (.cells news.toArray e)) w)
    (hK:∀ v' w',w'.ownsRow base e size v' (n+m) (xs++news)→w.grownBy w' v.ownBlock→(∀ g2,v'.ownBlock=some g2→v.ownBlock=some g2∨w0.heap.size<g2)→K (a.put o.dst v') w') :
    if Region.wanted o (yielded ops a.tmps)=true then Oper.wp P o a w K Q else E:=by
  have hw:Region.wanted o (yielded ops a.tmps)=true:=by simp [Region.wanted,hg]
  rw [if_pos hw]
  have hsa:(w0.alloc (.cells news.toArray e)).heap.size=w0.heap.size+1:=by simp
  have hws:=hfr.size
  have hown1:w.ownsRow base e size v n xs:=by
    refine World.ownsRow.kept (row:=none) (hown.alloc (.cells news.toArray e)) ⟨hfr.os,hfr.tape,hfr.output,hfr.size,fun k hk _=>hfr.block k hk⟩ ?_
    cases hv:v.ownBlock with
    | none=>exact .inl rfl
    | some k=>exact .inr (by simp)
  have hc:∀ j u,news[j]?=some u→w.cell? ((⟨w0.heap.size,0,none⟩:Addr).add j)=some u:=fun j u hj=>by
    have hb:((⟨w0.heap.size,0,none⟩:Addr).add j).block<(w0.alloc (.cells news.toArray e)).heap.size:=by rw [Addr.add_lit,hsa];exact Nat.lt_succ_self _
    rw [Below.cell hfr hb,Addr.add_lit,World.cell?_alloc_at _ _ _ _ rfl]
    simpa using hj
  obtain ⟨q1,⟨q2,q3⟩ | ⟨g,cap,cur,hv,hb,hh,hc1,hc2,hcs,hct⟩⟩:=hown1
  · have hx0:xs=[]:=by subst q3;exact List.eq_nil_of_length_eq_zero (by simpa using q1)
    subst q2 q3 hx0
    obtain ⟨v',w',hr,r1,r2,_⟩:=run_append_own (P:=P) w w.heap.size t o.type e i z size bytes ht hi hz hsize hby hzs hsz (.slice none 0 0) 0 [] (World.ownsRow_nil _ _ _ _) ⟨w0.heap.size,0,none⟩ m m news hl hc h1 h63 hbytes (Nat.le_refl _)
    unfold Oper.wp
    simp [execOp,ho,resolve,invoke,builtin,hs,hx,hr,Result.andThen]
    exact hK v' w' (own_base r1 (by omega)) r2 fun g2 hg2=>.inr (by have:=(r1.lt _ hg2).1;omega)
  · subst hv
    have h0:w.ownsRow base e size (.slice (some ⟨g,0,none⟩) n cap) n xs:=⟨q1,.inr ⟨g,cap,cur,rfl,hb,hh,hc1,hc2,hcs,hct⟩⟩
    by_cases hr:n+m≤cap
    · obtain ⟨w',hrun,r1,r2⟩:=run_append_fits (P:=P) w base t o.type e i size ht hi hsize g n cap xs h0 ⟨w0.heap.size,0,none⟩ m m news hl hc h1 hr
      unfold Oper.wp
      simp [execOp,ho,resolve,invoke,builtin,hs,hx,hrun,Result.andThen]
      exact hK _ w' r1 r2 fun g2 hg2=>.inl (by simpa [Value.ownBlock] using hg2)
    · obtain ⟨v',w',hrun,r1,r2⟩:=run_append_arg_grows (P:=P) w t o.type e i z size bytes ht hi hz hsize hby hzs hsz ⟨g,0,none⟩ n cap xs q1 (fun j u hj=>h0.cells rfl j u hj) ⟨w0.heap.size,0,none⟩ m m news hl hc (by omega) h63 hbytes
      unfold Oper.wp
      simp [execOp,ho,resolve,invoke,builtin,hs,hx,hrun,Result.andThen]
      exact hK v' w' (own_base r1 (by omega)) ⟨r2.os,r2.tape,r2.output,r2.size,fun k hk _=>r2.block k hk (by simp)⟩ fun g2 hg2=>.inr (by have:=(r1.lt _ hg2).1;omega)
open Go.RowKit
def OwnA (w:World) (A:Nat→Prop) (e:TypeId) (sz:Nat) (v:Value) (n:Nat) (xs:List Value):Prop:=w.ownsRow 0 e sz v n xs∧∀ g,v.ownBlock=some g→A g
theorem OwnA.nil (w:World) (A:Nat→Prop) (e:TypeId) (sz:Nat):OwnA w A e sz (.slice none 0 0) 0 []:=⟨World.ownsRow_nil _ _ _ _,fun g h=>by cases h⟩
theorem OwnA.mono {w:World} {A A':Nat→Prop} {e:TypeId} {sz:Nat} {v:Value} {n:Nat} {xs:List Value} (h:OwnA w A e sz v n xs) (ha:∀ g,g<w.heap.size→A g→A' g):OwnA w A' e sz v n xs :=
  ⟨h.1,fun g hg=>ha g (h.1.lt g hg).2 (h.2 g hg)⟩
theorem OwnA.mut {S A:Nat→Prop} {w w':World} {e:TypeId} {sz:Nat} {v:Value} {n:Nat} {xs:List Value} (h:OwnA w A e sz v n xs) (hf:Mut S w w') (hn:∀ g,A g→¬ S g):OwnA w' A e sz v n xs :=
  ⟨own_mut h.1 hf fun g hg=>hn g (h.2 g hg),h.2⟩
theorem OwnA.fresh {A:Nat→Prop} {w w':World} {e:TypeId} {sz:Nat} {v:Value} {n:Nat} {xs:List Value} (h:OwnA w A e sz v n xs) (hf:Fresh w w'):OwnA w' A e sz v n xs:=h.mut (hf.mut fun _=>False) (fun _ _ q=>q)
theorem OwnA.ne {w:World} {A:Nat→Prop} {e t:TypeId} {sz:Nat} {v:Value} {n:Nat} {xs:List Value} {p:Nat} {cs:Array Value} (h:OwnA w A e sz v n xs) (hp:Blk w p t cs) (ht:e ≠ t):v.ownBlock ≠ some p:=by
  intro hv
  obtain ⟨_,⟨rfl,_⟩ | ⟨g,cap,cur,rfl,_,hh,_⟩⟩:=h.1
  · cases hv
  · injection hv with hv
    subst hv
    unfold Blk at hp
    rw [hh] at hp
    injection hp with hp
    injection hp with _ hp
    exact ht hp
theorem OwnA.neMap {w:World} {A:Nat→Prop} {e:TypeId} {sz:Nat} {v:Value} {n m:Nat} {xs:List Value} {p:Nat} {M:Int→Option Value} (h:OwnA w A e sz v n xs) (hp:MapAt w p m M):v.ownBlock ≠ some p:=by
  intro hv
  obtain ⟨_,⟨rfl,_⟩ | ⟨g,cap,cur,rfl,_,hh,_⟩⟩:=h.1
  · cases hv
  · injection hv with hv
    subst hv
    obtain ⟨D,⟨es,clock,hb,_⟩,_⟩:=hp
    rw [show (⟨g,0,none⟩:Addr).block=g from rfl,hh] at hb
    cases hb
theorem Blk.neMap {w:World} {t:TypeId} {cs:Array Value} {m p b:Nat} {M:Int→Option Value} (hp:Blk w p t cs) (h:MapAt w b m M):p ≠ b:=by
  intro e
  subst e
  obtain ⟨D,⟨es,clock,hb,_⟩,_⟩:=h
  unfold Blk at hp
  rw [hp] at hb
  cases hb
theorem Blk.neBlk {w:World} {t t':TypeId} {cs cs':Array Value} {p p':Nat} (hp:Blk w p t cs) (hp':Blk w p' t' cs') (ht:t ≠ t'):p ≠ p':=by
  intro e
  subst e
  unfold Blk at hp hp'
  rw [hp] at hp'
  injection hp' with hp'
  injection hp' with _ hp'
  exact ht hp'
theorem OwnA.mutB {S A:Nat→Prop} {w w':World} {e:TypeId} {sz:Nat} {v:Value} {n:Nat} {xs:List Value} (h:OwnA w A e sz v n xs) (hf:Mut S w w') (hn:∀ g,v.ownBlock=some g→¬ S g):OwnA w' A e sz v n xs:=⟨own_mut h.1 hf hn,h.2⟩
theorem newCells (w:World) (e:TypeId) (news:List Value) (j:Nat) (u:Value) (hj:news[j]?=some u):(w.alloc (.cells news.toArray e)).cell? ((⟨w.heap.size,0,none⟩:Addr).add j)=some u:=by
  rw [Addr.add_lit,World.cell?_alloc_at _ _ _ _ rfl]
  simpa using hj
theorem info_partsG {i:Option TypeInfo} {z:Value} {s b:Nat} (h:i.map (fun i=>(i.zero,i.size,i.bytes))=some (some z,s,b)):∃ i0,i=some i0∧i0.zero=some z∧i0.size=s∧i0.bytes=b:=by
  cases i with
  | none=>cases h
  | some i0=>simp at h;exact ⟨i0,rfl,h.1,h.2.1,h.2.2⟩
def SlG (w:World) (A:Nat→Prop) (v:Value) (sz n:Nat) (cs:List Value):Prop :=
  cs.length=n * sz∧∃ a cap,v=.slice a n cap∧n≤cap∧(n=0∨∃ g off,a=some ⟨g,off,none⟩∧A g∧g<w.heap.size∧∀ j,j<n * sz→w.cell? ⟨g,off+j,none⟩=cs[j]?)
theorem SlG.nil (w:World) (A:Nat→Prop) (sz:Nat):SlG w A (.slice none 0 0) sz 0 []:=⟨by simp,none,0,rfl,Nat.le_refl _,.inl rfl⟩
theorem SlG.mono {w:World} {A A':Nat→Prop} {v:Value} {sz n:Nat} {cs:List Value} (h:SlG w A v sz n cs) (ha:∀ g,g<w.heap.size→A g→A' g):SlG w A' v sz n cs:=by
  obtain ⟨h1,a,cap,h2,hcap,h3⟩:=h
  refine ⟨h1,a,cap,h2,hcap,h3.imp id ?_⟩
  rintro ⟨g,off,e,hA,hg,hc⟩
  exact ⟨g,off,e,ha g hg hA,hg,hc⟩
theorem SlG.mut {S A:Nat→Prop} {w w':World} {v:Value} {sz n:Nat} {cs:List Value} (h:SlG w A v sz n cs) (hf:Mut S w w') (hn:∀ g,A g→¬ S g):SlG w' A v sz n cs:=by
  obtain ⟨h1,a,cap,h2,hcap,h3⟩:=h
  refine ⟨h1,a,cap,h2,hcap,h3.imp id ?_⟩
  rintro ⟨g,off,e,hA,hg,hc⟩
  exact ⟨g,off,e,hA,Nat.lt_of_lt_of_le hg hf.size,fun j hj=>(hf.cell (p:=⟨g,off+j,none⟩) hg (hn g hA)).trans (hc j hj)⟩
theorem SlG.fresh {A:Nat→Prop} {w w':World} {v:Value} {sz n:Nat} {cs:List Value} (h:SlG w A v sz n cs) (hf:Fresh w w'):SlG w' A v sz n cs:=h.mut (hf.mut fun _=>False) (fun _ _ q=>q)
theorem OwnA.sl {w:World} {A:Nat→Prop} {e:TypeId} {sz:Nat} {v:Value} {n:Nat} {xs:List Value} (h:OwnA w A e sz v n xs):SlG w A v sz n xs:=by
  obtain ⟨h,hA⟩:=h
  have h0:=h
  obtain ⟨h1,⟨rfl,rfl⟩ | ⟨g,cap,cur,rfl,_,hh,h3⟩⟩:=h
  · exact ⟨h1,none,0,rfl,Nat.le_refl _,.inl rfl⟩
  · refine ⟨h1,_,cap,rfl,h3.1,.inr ⟨g,0,rfl,hA g rfl,?_,fun j hj=>?_⟩⟩
    · rcases Nat.lt_or_ge g w.heap.size with q | q
      · exact q
      · rw [Array.getElem?_eq_none q] at hh;cases hh
    · have:=World.ownsRow.cellAt h0 j (by omega)
      rw [show 0+j=j from by omega,this]
theorem Fresh.mut2 {S:Nat→Prop} {w a b:World} (h:Fresh w a) (k:Mut S a b) (hs:∀ j,S j→w.heap.size≤j):Fresh w b :=
  ⟨k.os.trans h.os,k.tape.trans h.tape,k.output.trans h.output,Nat.le_trans h.size k.size,fun i hi=>(k.block i (Nat.lt_of_lt_of_le hi h.size) (fun q=>by have:=hs i q;omega)).trans (h.block i hi)⟩
theorem OwnA.grew {w a b:World} {e:TypeId} {sz:Nat} {v:Value} {n:Nat} {xs:List Value} (h:OwnA b (fun k=>w.heap.size≤k∨(a.heap.size≤k∧k<b.heap.size)) e sz v n xs) (hf:w.heap.size≤a.heap.size):OwnA b (fun k=>w.heap.size≤k) e sz v n xs :=
  h.mono fun g _ hg=>hg.elim id fun q=>Nat.le_trans hf q.1
def Gr (F:Nat→Prop) (w w':World) (F':Nat→Prop):Prop:=∀ k,F' k→F k∨(w.heap.size≤k∧k<w'.heap.size)
theorem Gr.refl (F:Nat→Prop) (w:World):Gr F w w F:=fun k h=>.inl h
theorem Gr.trans {F F' F'':Nat→Prop} {a b c:World} (h:Gr F a b F') (k:Gr F' b c F'') (h1:a.heap.size≤b.heap.size) (h2:b.heap.size≤c.heap.size):Gr F a c F'':=fun j hj=>by
  rcases k j hj with q | q
  · rcases h j q with r | r
    · exact .inl r
    · exact .inr ⟨r.1,by omega⟩
  · exact .inr ⟨by omega,q.2⟩
theorem Gr.later {F F':Nat→Prop} {a b c:World} (h:Gr F a b F') (h2:b.heap.size≤c.heap.size):Gr F a c F':=fun j hj=>(h j hj).imp id fun q=>⟨q.1,by omega⟩
theorem Gr.ahead {F F':Nat→Prop} {a b c:World} (h:Gr F b c F') (h2:a.heap.size≤b.heap.size):Gr F a c F':=fun j hj=>(h j hj).imp id fun q=>⟨by omega,q.2⟩
def ext (F:Nat→Prop) (w w':World) (k:Nat):Prop:=F k∨(w.heap.size≤k∧k<w'.heap.size)
theorem Gr.ext (F:Nat→Prop) (w w':World):Gr F w w' (ext F w w'):=fun _ h=>h
theorem wpList_append_ownA (w:World) {ops:Array Oper} {rest:List Oper} {o:Oper} {a:Act} {Q:Exit→Act→World→Prop} (hgd:o.guard=none) (s x:Operand) (t:TypeId)
    (ho:o.op=.call { callee:=.builtin .append,args:=#[s,x],argTypes:=#[t,t] })
    (A:Nat→Prop) (e:TypeId) (i:TypeInfo) (z:Value) (size bytes:Nat) (ht:Tryz.prog.underlying t=some (.slice e)) (hi:Tryz.prog.info? e=some i) (hz:i.zero=some z)
    (hsize:i.size=size) (hby:i.bytes=bytes) (hzs:z.cells.size=size) (hsz:0<size)
    (v:Value) (n:Nat) (xs:List Value) (hs:a.eval s=v) (hown:OwnA w A e size v n xs)
    (ad:Addr) (m c:Nat) (news:List Value) (hx:a.eval x=.slice (some ad) m c) (hl:news.length=m * size) (hnews:∀ j u,news[j]?=some u→w.cell? (ad.add j)=some u) (h1:∀ u ∈ news,u.oneCell'=true)
    (hN:n+m≤1000000) (hB:bytes≤1000)
    (h:∀ a' c' w',OwnA w' (ext A w w') e size (.slice a' (n+m) c') (n+m) (xs++news)→Mut (fun k=>v.ownBlock=some k) w w'→wpList Tryz.prog ops Q rest (a.put o.dst (.slice a' (n+m) c')) w'):wpList Tryz.prog ops Q (o :: rest) a w:=by
  have h':∀ v' w',OwnA w' (ext A w w') e size v' (n+m) (xs++news)→Mut (fun k=>v.ownBlock=some k) w w'→wpList Tryz.prog ops Q rest (a.put o.dst v') w':=by
    intro v' w' h1 h2
    obtain ⟨a',c',rfl⟩:∃ a' c',v'=.slice a' (n+m) c':=by
      obtain ⟨_,⟨q1,q2⟩ | ⟨g,cap,cur,q,_⟩⟩:=h1.1
      · exact ⟨none,0,by rw [q1,q2]⟩
      · exact ⟨_,_,q⟩
    exact h a' c' w' h1 h2
  refine wpList_append_own2 w hgd s x t ho 0 e i z size bytes ht hi hz hsize hby hzs hsz v n xs hs hown.1 ad m c news hx hl hnews h1 (by unfold maxLen;omega) ?_ (Nat.zero_le _) fun v' w' r1 r2 r3=>h' v' w' ⟨r1,fun g hg=>?_⟩ ?_
  · exact Nat.le_trans (Nat.mul_le_mul hN hB) (by decide)
  · rcases r3 g hg with q | q
    · exact .inl (hown.2 g q)
    · exact .inr ⟨q,(r1.lt g hg).2⟩
  · exact ⟨r2.os,r2.tape,r2.output,r2.size,fun k hk hn=>r2.block k hk fun e=>hn e.symm⟩
theorem mapsClone_any {f:FuncId} {fn:Func} {t:TypeId} {e:TypeId} (b n:Nat) (M:Int→Option Value) (w:World) (h:MapAt w b n M)
    (hc:∀ es clock,w.heap[b]?=some (.map es clock)→Calls Tryz.prog f #[.map (some b)] w fun e w'=>e=.returned (.map (some w.heap.size))∧w'=w.alloc (.map es clock)) :
    Calls Tryz.prog f #[.map (some b)] w fun e w'=>e=.returned (.map (some w.heap.size))∧MapAt w' w.heap.size n M∧Fresh w w'∧w'.heap.size=w.heap.size+1:=by
  obtain ⟨D,⟨es,clock,hb,F,hs,hD⟩,hM⟩:=h
  refine (hc es clock hb).mono fun e w' ⟨he,hw⟩=>?_
  subst hw
  exact ⟨he,⟨D,⟨es,clock,(MapKept.heap_alloc w _).1,F,hs,hD⟩,hM⟩,(Fresh.refl _).alloc _,by simp⟩
set_option maxRecDepth 100000 in
set_option maxHeartbeats 1000000 in
theorem mapsClone_string (b n:Nat) (M:Int→Option Value) (w:World) (h:MapAt w b n M) :
    Calls Tryz.prog 304 #[.map (some b)] w fun e w'=>e=.returned (.map (some w.heap.size))∧MapAt w' w.heap.size n M∧Fresh w w'∧w'.heap.size=w.heap.size+1:=by
  refine mapsClone_any (fn:=Tryz.f279) (t:=0) (e:=0) b n M w h fun es clock hb=>?_
  have hq:=fun w=>run_eql_map_nil_sl (P:=Tryz.prog) w 134 _ _ (some b) Tryz.underlying134
  go_enter Tryz.func304,Tryz.ntmps304
  go_wp2
  rw [run_callFunc_extern Tryz.func279 (by kernel_rfl) (by kernel_rfl) (by kernel_rfl) (e:=Extern.MapsClone.clone) (by kernel_rfl),run_maps_clone_sl w 134 hb]
  simp only [Result.andThen]
  rw [Oper.upon_value]
  go_wp2
  rw [run_typeAssert_map_sl _ 134 20 _ _ _ Tryz.underlying134]
  simp only [Result.andThen]
  rw [Oper.upon_value]
  go_wp2
  go_ret
  exact ⟨rfl,rfl⟩
set_option maxRecDepth 100000 in
set_option maxHeartbeats 1000000 in
theorem mapsClone_int (b n:Nat) (M:Int→Option Value) (w:World) (h:MapAt w b n M) :
    Calls Tryz.prog 192 #[.map (some b)] w fun e w'=>e=.returned (.map (some w.heap.size))∧MapAt w' w.heap.size n M∧Fresh w w'∧w'.heap.size=w.heap.size+1:=by
  refine mapsClone_any (fn:=Tryz.f279) (t:=0) (e:=0) b n M w h fun es clock hb=>?_
  have hq:=fun w=>run_eql_map_nil_sl (P:=Tryz.prog) w 156 _ _ (some b) Tryz.underlying156
  go_enter Tryz.func192,Tryz.ntmps192
  go_wp2
  rw [run_callFunc_extern Tryz.func279 (by kernel_rfl) (by kernel_rfl) (by kernel_rfl) (e:=Extern.MapsClone.clone) (by kernel_rfl),run_maps_clone_sl w 156 hb]
  simp only [Result.andThen]
  rw [Oper.upon_value]
  go_wp2
  rw [run_typeAssert_map_sl _ 156 20 _ _ _ Tryz.underlying156]
  simp only [Result.andThen]
  rw [Oper.upon_value]
  go_wp2
  go_ret
  exact ⟨rfl,rfl⟩
end Go.Proofs.YtpmlggjhfiljmaaGreatDoor
