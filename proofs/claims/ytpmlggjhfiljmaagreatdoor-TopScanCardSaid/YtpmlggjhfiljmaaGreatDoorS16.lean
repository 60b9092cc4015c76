/- Part 16 of what the law rests on. -/
import Derived.Laws.EntriesVeiled
import Derived.Test.YtpmlggjhfiljmaaGreatDoorS15
set_option linter.all false
namespace Go.Proofs.YtpmlggjhfiljmaaGreatDoor
open Go.RowKit
theorem prL_step (J:List Int→List Int) (hid:Part→Bool) (mk:Bool) (out:ByteArray) (p:Part) (ps:List Part) (o:List Int) {c:Bool} (hc:(hid p || (mk && o.isEmpty && decide (clsI p.1 ≠ 0)))=c) :
    out++joinS (prL J hid mk (p :: ps) o)=stO J c out o p++joinS (prL J hid mk ps (stL c o p)):=by
  rw [prL,hc]
  cases c with
  | true=>rw [if_pos rfl];unfold stO stL;rw [if_pos rfl,if_pos rfl,joinS_append,joinS_append];simp only [ByteArray.append_assoc]
  | false=>rw [if_neg (by simp)];unfold stO stL;rw [if_neg (by simp),if_neg (by simp)]
theorem stL_len (c:Bool) (o:List Int) (p:Part):(stL c o p).length≤o.length+1:=by unfold stL;split <;> simp
theorem stL_in32 (c:Bool) {o:List Int} {p:Part} (h:In32 o) (hp:-2147483648≤p.1∧p.1<2147483648):In32 (stL c o p):=by
  unfold stL
  split
  · intro x hx;cases hx
  · intro x hx
    rcases List.mem_append.1 hx with q | q
    · exact h x q
    · simp at q;rw [q];exact hp
def SlT (w:World) (B:Nat) (v:Value) (xs:List PN):Prop:=(xs=[]∧∃ a cap,v=.slice a 0 cap)∨(0<xs.length∧∃ g cap,v=.slice (some ⟨g,0,none⟩) xs.length cap∧g<B ∧
  ∀ j (hj:j<xs.length),w.cell? ⟨g,j * 4,none⟩=some (.int .i32 (xs[j]).1.1)∧w.cell? ⟨g,j * 4+1,none⟩=some (.int .i64 (xs[j]).2)∧w.cell? ⟨g,j * 4+2,none⟩=some (.string (xs[j]).1.2.1)∧w.cell? ⟨g,j * 4+3,none⟩=some (.bool (xs[j]).1.2.2))
theorem OwnT.sl {w:World} {B:Nat} {v:Value} {xs:List PN} (h:OwnT w B v xs):SlT w w.heap.size v xs:=by
  have h0:=h
  obtain ⟨h1,h2 | ⟨g,cap,cur,hv,hb,hh,h3⟩⟩:=h
  · obtain ⟨hv,hn⟩:=h2
    have:xs=[]:=List.eq_nil_of_length_eq_zero hn
    subst this
    exact .inl ⟨rfl,none,0,hv⟩
  · by_cases hz:0<xs.length
    · refine .inr ⟨hz,g,cap,hv,?_,fun j hj=>?_⟩
      · rcases Nat.lt_or_ge g w.heap.size with q | q
        · exact q
        · rw [Array.getElem?_eq_none q] at hh;cases hh
      · subst hv
        have e0:=World.ownsRow.cellAt h0 (j * 4) (by omega)
        have e1:=World.ownsRow.cellAt h0 (j * 4+1) (by omega)
        have e2:=World.ownsRow.cellAt h0 (j * 4+2) (by omega)
        have e3:=World.ownsRow.cellAt h0 (j * 4+3) (by omega)
        have g0:=ptcs_get xs j hj 0 (by omega)
        have g1:=ptcs_get xs j hj 1 (by omega)
        have g2:=ptcs_get xs j hj 2 (by omega)
        have g3:=ptcs_get xs j hj 3 (by omega)
        rw [show j * 4+0=j * 4 by omega] at g0
        rw [e0,g0,e1,g1,e2,g2,e3,g3]
        exact ⟨rfl,rfl,rfl,rfl⟩
    · have:xs=[]:=List.eq_nil_of_length_eq_zero (by omega)
      subst this
      exact .inl ⟨rfl,_,_,hv⟩
theorem SlT.below {w w':World} {B:Nat} {v:Value} {xs:List PN} (h:SlT w B v xs) (hf:Below B w w'):SlT w' B v xs:=by
  rcases h with h | ⟨h0,g,cap,hv,hg,hc⟩
  · exact .inl h
  · refine .inr ⟨h0,g,cap,hv,hg,fun j hj=>?_⟩
    rw [Below.cell hf (p:=⟨g,j * 4,none⟩) hg,Below.cell hf (p:=⟨g,j * 4+1,none⟩) hg,Below.cell hf (p:=⟨g,j * 4+2,none⟩) hg,Below.cell hf (p:=⟨g,j * 4+3,none⟩) hg]
    exact hc j hj
def Enters (f:FuncId):Prop:=∀ (args:Array Value) (w:World),Sem.run Tryz.prog (callFunc f args) w=.ok (.enter f args) w
theorem enters_hidden:Enters 53:=by intro args w;go_simp
theorem enters_strange:Enters 56:=by intro args w;go_simp
theorem enters_show:Enters 54:=by intro args w;go_simp
theorem enters_mark:Enters 57:=by intro args w;go_simp
def HidFn (fh:FuncId) (hid:Part→Bool):Prop:=∀ (p:Part) (n:Int) (w:World),-2147483648≤p.1∧p.1<2147483648→Calls Tryz.prog fh #[partV p n] w fun e w'=>e=.returned (.bool (hid p))∧Fresh w w'
def ShowFn (fs:FuncId) (jf:Value) (J:List Int→List Int) (mk:Bool):Prop:=∀ (gw:Nat) (out:ByteArray) (o:List Int) (p:Part) (n:Int) (w:World),o.length≤100000→In32 o→out.size≤10000000→p.2.1.size≤100000→WrAt w gw out o jf →
  Calls Tryz.prog fs #[.pointer (some ⟨gw,0,none⟩),partV p n] w (ShPost gw w (stO J (mk && o.isEmpty && decide (clsI p.1 ≠ 0)) out o p) (stL (mk && o.isEmpty && decide (clsI p.1 ≠ 0)) o p) jf)
def WAllRel (J:List Int→List Int) (hid:Part→Bool) (mk:Bool) (jf:Value) (gw:Nat) (xs:List PN) (T:ByteArray) (w:World) (i:Value) (wr:World):Prop :=
  ∃ (l1 l2:List PN) (out:ByteArray) (o:List Int),xs=l1++l2∧i=.int .i64 (l1.length:Nat)∧WrAt wr gw out o jf∧out++joinS (prL J hid mk (l2.map (·.1)) o)=T∧o.length≤l1.length∧In32 o∧Below gw w wr
def PartsOK (xs:List PN):Prop:=∀ x ∈ xs,(-2147483648≤x.1.1∧x.1.1<2147483648)∧x.1.2.1.size≤100000
set_option maxHeartbeats 3200000 in
set_option maxRecDepth 100000 in
theorem all_any (fh fs:FuncId) (hid:Part→Bool) (mk:Bool) (jf:Value) (J:List Int→List Int) (HF:Flushes jf J) (HH:HidFn fh hid) (HS:ShowFn fs jf J mk) (HEh:Enters fh) (HEs:Enters fs)
    (gw:Nat) (xs:List PN) (w:World) (hx:xs.length≤100000) (hok:PartsOK xs) (T:ByteArray) (hT:joinS (prL J hid mk (xs.map (·.1)) [])=T) (hTs:T.size≤10000000) (v:Value) (hsl:SlT w gw v xs) (h:WrAt w gw ByteArray.empty [] jf) :
    Calls Tryz.prog 52 #[.pointer (some ⟨gw,0,none⟩),v,.func (.func fh) #[] #[],.func (.func fs) #[.pointer (some ⟨gw,0,none⟩)] #[]] w fun e w'=>e=.returned (.string T)∧Below gw w w':=by
  have hg:gw<w.heap.size:=by obtain ⟨v,h1,_⟩:=h;exact h1.lt
  have HF0:=Lib.hid HF
  have HH0:=Lib.hid HH
  have HS0:=Lib.hid HS
  have HW:=Lib.hid h
  have HOK:=Lib.hid hok
  have HT:=Lib.hid hT
  clear HF HH HS h hok hT
  unfold Enters at HEh HEs
  rcases hsl with ⟨rfl,a,cap,rfl⟩ | ⟨hxp,g,cap,rfl,hgB,hcell⟩
  · have HX:=Lib.hid (HF0.out.2 gw ByteArray.empty [] w (by simp) (fun x hx=>by cases hx) (by show (0:Nat)≤_;omega) HW.out)
    go_enter Tryz.func52,Tryz.ntmps52
    go_wp2
    refine wp_loop_rounds 1 ?_
    rw [rounds_succ]
    go_wp2_with fail
    refine HX.out.mono ?_
    rintro e w1 ⟨rfl,⟨v,hblk,_⟩,hm⟩
    have c0:w1.cell? ⟨gw,0,none⟩=some (.string T):=by rw [hblk.cell,← HT.out];simp [prL]
    go_wp2
    go_ret
    exact ⟨rfl,hm.below (by omega) fun k hk q=>by have:k=gw:=q;omega⟩
  have HCELL:=Lib.hid hcell
  obtain ⟨n,hn⟩:∃ n,xs.length=n:=⟨_,rfl⟩
  have HN:=Lib.hid hn
  rw [hn] at hxp hx ⊢
  clear hcell hn
  go_enter Tryz.func52,Tryz.ntmps52
  go_wp2
  go_loopw [13] (fun i wr=>WAllRel J hid mk jf gw xs T w i wr) (fun i _=>n - (intOf i).toNat)
  case atStart=>exact ⟨[],xs,ByteArray.empty,[],rfl,rfl,HW.out,by rw [HT.out];simp,Nat.zero_le _,(fun x hx=>nomatch hx),Below.refl _ _⟩
  case round =>
    obtain ⟨l1,l2,out,o,hx12,rfl,hat,heq,hol,h32,hf⟩:=hrel
    have hgr:gw<wr.heap.size:=Nat.lt_of_lt_of_le hg hf.size
    have hln:l1.length+l2.length=n:=by rw [← HN.out,hx12];simp
    have hos:out.size≤10000000:=by have:=congrArg ByteArray.size heq;rw [ByteArray.size_append] at this;omega
    have HX12:=Lib.hid hx12
    have HA:=Lib.hid hat
    have HE:=Lib.hid heq
    have H32:=Lib.hid h32
    clear hx12 hat heq h32
    cases l2 with
    | nil =>
      have hk0:l1.length=n:=by simpa using hln
      have hk1:¬ (l1.length:Int)<(n:Int):=by omega
      have HX:=Lib.hid (HF0.out.2 gw out o wr (by omega) H32.out hos HA.out)
      clear hln
      go_wp2_with fail
      refine HX.out.mono ?_
      rintro e w1 ⟨rfl,⟨v,hblk,_⟩,hm⟩
      have c0:w1.cell? ⟨gw,0,none⟩=some (.string T):=by rw [hblk.cell,← HE.out];simp [prL]
      have HP:=Lib.hid (hf.trans (hm.below (B:=gw) (by omega) fun k hk q=>by have:k=gw:=q;omega))
      clear hblk
      go_wp2
      go_ret
      exact ⟨rfl,HP.out⟩
    | cons x l2 =>
      have hk:l1.length<n:=by simp at hln;omega
      have hcc:=HCELL.out l1.length (by rw [HN.out];exact hk)
      have hxk:xs[l1.length]'(by rw [HN.out];exact hk)=x:=by
        have:=HX12.out
        subst this
        simp
      rw [hxk] at hcc
      obtain ⟨⟨r,b,l⟩,m⟩:=x
      obtain ⟨cA,cB,cC,cD⟩:=hcc
      have dA:=(Below.cell hf (p:=⟨g,l1.length * 4,none⟩) hgB).trans cA
      have dB:=(Below.cell hf (p:=⟨g,l1.length * 4+1,none⟩) hgB).trans cB
      have dC:=(Below.cell hf (p:=⟨g,l1.length * 4+2,none⟩) hgB).trans cC
      have dD:=(Below.cell hf (p:=⟨g,l1.length * 4+3,none⟩) hgB).trans cD
      simp only at dA dB dC dD
      have hpk:=HOK.out ((r,b,l),m) (by rw [HX12.out];simp)
      simp only at hpk
      obtain ⟨k,hkk⟩:∃ k,l1.length=k:=⟨_,rfl⟩
      rw [hkk] at dA dB dC dD hk hol ⊢
      have HK:=Lib.hid hkk
      have i1:(0:Int)≤(k:Int):=by omega
      have i2:(k:Int)<(n:Int):=by omega
      have HP:=Lib.hid hpk
      have HHp:=Lib.hid (fun W=>HH0.out (r,b,l) m W hpk.1)
      have hbx:=partcells wr (r,b,l) m
      simp only at hbx
      unfold partV at HHp
      clear cA cB cC cD hxk hkk hln hpk
      have hre:∀ W',Below gw (wr.alloc (.cells #[.int .i32 r,.int .i64 m,.string b,.bool l] 121)) W'→Below gw w W':=fun W' h'=>(hf.alloc (by omega) _).trans h'
      have HRE:=Lib.hid hre
      have hen:∀ (c:Bool) (W':World),(hid (r,b,l) || (mk && o.isEmpty && decide (clsI r ≠ 0)))=c→WrAt W' gw (stO J c out o (r,b,l)) (stL c o (r,b,l)) jf→Below gw (wr.alloc (.cells #[.int .i32 r,.int .i64 m,.string b,.bool l] 121)) W'→WAllRel J hid mk jf gw xs T w (.int .i64 ((k:Int)+1)) W':=by
        intro c W' hc hat' hbel
        refine ⟨l1++[((r,b,l),m)],l2,_,_,by rw [HX12.out];simp,by rw [List.length_append,HK.out];rfl,hat',?_,?_,stL_in32 c H32.out HP.out.1,HRE.out _ hbel⟩
        · rw [← prL_step J hid mk out (r,b,l) _ o hc]
          exact HE.out
        · have:=stL_len c o (r,b,l)
          rw [List.length_append,HK.out]
          simp;omega
      have HEN:=Lib.hid hen
      clear hre hen
      cases hh:hid (r,b,l) with
      | true =>
        rw [hh] at HHp
        have HC:Hid ((hid (r,b,l) || (mk && o.isEmpty && decide (clsI r ≠ 0)))=true):=Lib.hid (by rw [hh];rfl)
        clear hh
        go_wp2_with fail
        refine (HHp.out _).mono ?_
        rintro e w2 ⟨rfl,hf2⟩
        have hb2:=hbx.keep hf2
        have c0:w2.cell? ⟨wr.heap.size,0,none⟩=some (.int .i32 r):=by rw [hb2.cell];rfl
        have c1:w2.cell? ⟨wr.heap.size,1,none⟩=some (.int .i64 m):=by rw [hb2.cell];rfl
        have c2:w2.cell? ⟨wr.heap.size,2,none⟩=some (.string b):=by rw [hb2.cell];rfl
        have c3:w2.cell? ⟨wr.heap.size,3,none⟩=some (.bool l):=by rw [hb2.cell];rfl
        have HX:=Lib.hid (hide_any jf J HF0.out gw out o (r,b,l) m w2 (by omega) H32.out hos HP.out.2 ((HA.out.fresh ((Fresh.refl _).alloc _)).fresh hf2))
        unfold partV at HX
        simp only at HX
        have HB2:=Lib.hid (hf2.below.mono (B':=gw) (by simp;omega))
        have hg2:gw<w2.heap.size:=by have:=hf2.size;simp at this;omega
        clear hb2 hbx
        go_wp2_with fail
        refine HX.out.mono ?_
        rintro e w3 ⟨rfl,hat3,hm3⟩
        have HR:=Lib.hid (HEN.out true w3 HC.out hat3 (HB2.out.trans (hm3.below (by omega) fun k hk q=>by have:k=gw:=q;omega)))
        clear hat3 hm3
        go_wp2
        exact ⟨HR.out,by simp [intOf];omega⟩
      | false =>
        rw [hh] at HHp
        obtain ⟨c,hc⟩:∃ c,(mk && o.isEmpty && decide (clsI r ≠ 0))=c:=⟨_,rfl⟩
        have HC:Hid ((hid (r,b,l) || (mk && o.isEmpty && decide (clsI r ≠ 0)))=c):=Lib.hid (by rw [hh,hc];rfl)
        have HCC:=Lib.hid hc
        clear hh hc
        go_wp2_with fail
        refine (HHp.out _).mono ?_
        rintro e w2 ⟨rfl,hf2⟩
        have hb2:=hbx.keep hf2
        have c0:w2.cell? ⟨wr.heap.size,0,none⟩=some (.int .i32 r):=by rw [hb2.cell];rfl
        have c1:w2.cell? ⟨wr.heap.size,1,none⟩=some (.int .i64 m):=by rw [hb2.cell];rfl
        have c2:w2.cell? ⟨wr.heap.size,2,none⟩=some (.string b):=by rw [hb2.cell];rfl
        have c3:w2.cell? ⟨wr.heap.size,3,none⟩=some (.bool l):=by rw [hb2.cell];rfl
        have HX:=Lib.hid (HS0.out gw out o (r,b,l) m w2 (by omega) H32.out hos HP.out.2 ((HA.out.fresh ((Fresh.refl _).alloc _)).fresh hf2))
        simp only at HX
        rw [HCC.out] at HX
        unfold partV at HX
        simp only at HX
        have HB2:=Lib.hid (hf2.below.mono (B':=gw) (by simp;omega))
        clear hb2 hbx
        go_wp2_with fail
        refine HX.out.mono ?_
        rintro e w3 ⟨rfl,hat3,hm3⟩
        have HR:=Lib.hid (HEN.out c w3 HC.out hat3 (HB2.out.trans hm3))
        clear hat3 hm3
        go_wp2
        exact ⟨HR.out,by simp [intOf];omega⟩
open Go.RowKit
def RgRel (xs:List PN) (w:World) (out i:Value) (wr:World):Prop :=
  ∃ (l1 l2:List PN),xs=l1++l2∧i=.int .i64 (l1.length:Nat)∧OwnR wr w.heap.size out (runesOf (l1.map (·.1)))∧(∀ x ∈ l1,0≤x.1.1)∧Fresh w wr
theorem regB_neg {l1 l2:List PN} {x:PN} (h:x.1.1<0):regB ((l1++x :: l2).map (·.1))=false:=by
  unfold regB
  simp
  intro h2 h3
  omega
theorem regB_pos {xs:List PN} (h:∀ x ∈ xs,0≤x.1.1):regB (xs.map (·.1))=decide (apt (runesOf (xs.map (·.1)))=runesOf (xs.map (·.1))):=by
  unfold regB
  have:(xs.map (·.1)).all (fun p=>decide (0≤p.1))=true:=by
    rw [List.all_eq_true]
    intro p hp
    rw [List.mem_map] at hp
    obtain ⟨x,hx,rfl⟩:=hp
    exact decide_eq_true (h x hx)
  rw [this,Bool.true_and]
theorem runes_in32 {xs:List PN} (h:PartsOK xs):In32 (runesOf (xs.map (·.1))):=by
  intro r hr
  unfold runesOf at hr
  rw [List.mem_map] at hr
  obtain ⟨p,hp,rfl⟩:=hr
  rw [List.mem_map] at hp
  obtain ⟨x,hx,rfl⟩:=hp
  exact (h x hx).1
theorem runesOf_snoc (l1:List PN) (x:PN):runesOf ((l1++[x]).map (·.1))=runesOf (l1.map (·.1))++[x.1.1]:=by simp [runesOf]
theorem runesOf_len (l:List PN):(runesOf (l.map (·.1))).length=l.length:=by simp [runesOf]
set_option maxHeartbeats 3200000 in
set_option maxRecDepth 100000 in
theorem regular_any (xs:List PN) (w:World) (hx:xs.length≤10000) (hok:PartsOK xs) (v:Value) (hsl:SlT w w.heap.size v xs) :
    Calls Tryz.prog 55 #[v] w fun e w'=>e=.returned (.bool (regB (xs.map (·.1))))∧Fresh w w':=by
  obtain ⟨i0,hi0,hz0,hz1,hz2⟩:=info_parts info32
  have HOK:=Lib.hid hok
  have HST:Hid (∀ (u:Value) (W:World),Sl W u (runesOf (xs.map (·.1)))→Calls Tryz.prog 24 #[u] W (SamePost (apt (runesOf (xs.map (·.1)))) (runesOf (xs.map (·.1))) W)):=Lib.hid (fun u W h=>cstable_any u _ W h (by rw [runesOf_len];omega) (runes_in32 hok))
  clear hok
  rcases hsl with ⟨rfl,a,cap,rfl⟩ | ⟨hxp,g,cap,rfl,hgB,hcell⟩
  · have HX:=Lib.hid (HST.out (.slice none 0 0) w (OwnR.nil w 0).sl)
    have HRB:Hid (regB (([]:List PN).map (·.1))=decide (apt (runesOf (([]:List PN).map (·.1)))=runesOf (([]:List PN).map (·.1)))):=Lib.hid (regB_pos fun x hx=>by cases hx)
    go_enter Tryz.func55,Tryz.ntmps55
    go_wp2
    refine wp_loop_rounds 1 ?_
    rw [rounds_succ]
    go_wp2_with fail
    refine HX.out.mono ?_
    rintro e w1 ⟨rfl,hf⟩
    go_wp2
    go_ret
    exact ⟨by rw [HRB.out];rfl,hf⟩
  have HCELL:=Lib.hid hcell
  obtain ⟨n,hn⟩:∃ n,xs.length=n:=⟨_,rfl⟩
  have HN:=Lib.hid hn
  rw [hn] at hxp hx ⊢
  clear hcell hn
  go_enter Tryz.func55,Tryz.ntmps55
  go_wp2
  go_loopw [3,8] (fun out i wr=>RgRel xs w out i wr) (fun _ i _=>n - (intOf i).toNat)
  case atStart=>exact ⟨[],xs,rfl,rfl,OwnR.nil _ _,(fun x hx=>nomatch hx),Fresh.refl _⟩
  case round =>
    obtain ⟨l1,l2,hx12,rfl,hown,hpos,hf⟩:=hrel
    have hln:l1.length+l2.length=n:=by rw [← HN.out,hx12];simp
    have HX12:=Lib.hid hx12
    have HPOS:=Lib.hid hpos
    clear hx12 hpos
    cases l2 with
    | nil =>
      have hk0:l1.length=n:=by simpa using hln
      have hk1:¬ (l1.length:Int)<(n:Int):=by omega
      have hxe:xs=l1:=by have:=HX12.out;simpa using this
      have HX:=Lib.hid (HST.out _ wr (by rw [hxe];exact hown.sl))
      have HRB:=Lib.hid (regB_pos (xs:=xs) (by rw [hxe];exact HPOS.out))
      clear hln hxe hown
      go_wp2_with fail
      refine HX.out.mono ?_
      rintro e w1 ⟨rfl,hf1⟩
      go_wp2
      go_ret
      exact ⟨by rw [HRB.out];rfl,hf.trans hf1⟩
    | cons x l2 =>
      have hk:l1.length<n:=by simp at hln;omega
      have hcc:=HCELL.out l1.length (by rw [HN.out];exact hk)
      have hxk:xs[l1.length]'(by rw [HN.out];exact hk)=x:=by
        have:=HX12.out
        subst this
        simp
      rw [hxk] at hcc
      obtain ⟨⟨r,b,l⟩,m⟩:=x
      obtain ⟨cA,cB,cC,cD⟩:=hcc
      have dA:=(Below.cell hf (p:=⟨g,l1.length * 4,none⟩) hgB).trans cA
      have dB:=(Below.cell hf (p:=⟨g,l1.length * 4+1,none⟩) hgB).trans cB
      have dC:=(Below.cell hf (p:=⟨g,l1.length * 4+2,none⟩) hgB).trans cC
      have dD:=(Below.cell hf (p:=⟨g,l1.length * 4+3,none⟩) hgB).trans cD
      simp only at dA dB dC dD
      obtain ⟨k,hkk⟩:∃ k,l1.length=k:=⟨_,rfl⟩
      rw [hkk] at dA dB dC dD hk ⊢
      have HK:=Lib.hid hkk
      have i1:(0:Int)≤(k:Int):=by omega
      have i2:(k:Int)<(n:Int):=by omega
      clear cA cB cC cD hxk hkk hln
      by_cases hr:r<0
      · have HRB:Hid (regB (xs.map (·.1))=false):=Lib.hid (by rw [HX12.out];exact regB_neg hr)
        clear hown
        go_wp2
        go_ret
        exact ⟨by rw [HRB.out];rfl,hf.alloc _⟩
      · have HR0:Hid (0≤r):=Lib.hid (by omega)
        have hown3:=hown
        unfold OwnR at hown3
        rw [runesOf_len,HK.out] at hown3
        go_wp2_with (at_builtin;refine wpList_append_own2 _ rfl _ _ 50 rfl w.heap.size 21 i0 (.int .i32 0) 1 4 Tryz.underlying50 hi0 hz0 hz1 hz2 rfl (by decide) _ _ _ rfl ((hown3.alloc _).alloc _) ⟨wr.heap.size+1,0,none⟩ 1 1 [.int .i32 r] rfl rfl ?c1 ?c2 ?c3 ?c4 ?c5 ?_)
        case c2=>rfl
        case c3=>unfold maxLen;omega
        case c4=>omega
        case c5=>have:=hf.size;omega
        intro v' w' hown' hgrow hblk
        have hf':Fresh w w':=Below.grown ((hf.alloc _).alloc _) hgrow (by have:=hf.size;simp;omega) (fun g hg=>(hown.lt g hg).1)
        have hn':OwnR w' w.heap.size v' (runesOf ((l1++[((r,b,l),m)]).map (·.1))):=by
          rw [runesOf_snoc]
          refine OwnR.push ?_
          rw [runesOf_len,HK.out]
          exact hown'
        have HP:Hid (RgRel xs w v' (.int .i64 ((k:Int)+1)) w'):=Lib.hid ⟨l1++[((r,b,l),m)],l2,by rw [HX12.out];simp,by rw [List.length_append,HK.out];rfl,hn',(fun x hx=>by
          rcases List.mem_append.1 hx with q | q
          · exact HPOS.out x q
          · simp at q;rw [q];exact HR0.out),hf'⟩
        clear hown' hgrow hblk hown hown3 hf' hn'
        go_wp2
        exact ⟨HP.out,by simp [intOf];omega⟩
open Go.RowKit
def pcsF (enc:Int) (s:ByteArray):Nat→Nat→List (Int × Int)
  | 0,_=>[]
  | f+1,p=>if p<s.size then nextC enc s p :: pcsF enc s f (p+(nextC enc s p).2.toNat) else []
def pcsS (enc:Int) (s:ByteArray):List (Int × Int):=pcsF enc s s.size 0
theorem pcsF_chain {enc:Int} {s:ByteArray} (h0:0≤enc) (h8:enc≤8):∀ (f p:Nat),s.size - p≤f→p≤s.size→Chain enc s p (pcsF enc s f p) s.size
  | 0,p,h1,h2=>by
    have:p=s.size:=by omega
    exact this
  | f + 1,p,h1,h2=>by
    unfold pcsF
    by_cases hp:p<s.size
    · rw [if_pos hp]
      have:=next_step h0 h8 hp
      exact ⟨hp,rfl,pcsF_chain h0 h8 f _ (by omega) (by omega)⟩
    · rw [if_neg hp]
      have:p=s.size:=by omega
      exact this
theorem pcs_chain {enc:Int} {s:ByteArray} (h0:0≤enc) (h8:enc≤8):Chain enc s 0 (pcsS enc s) s.size:=pcsF_chain h0 h8 _ _ (by omega) (Nat.zero_le _)
theorem chain_unique {enc:Int} {s:ByteArray}:∀ {xs ys:List (Int × Int)} {p:Nat},Chain enc s p xs s.size→Chain enc s p ys s.size→xs=ys
  | [],[],_,_,_=>rfl
  | [],y :: ys,p,h,k=>by
    have h:p=s.size:=h
    have:=k.1
    omega
  | x :: xs,[],p,h,k=>by
    have k:p=s.size:=k
    have:=h.1
    omega
  | x :: xs,y :: ys,p,h,k=>by
    have e:x=y:=h.2.1.symm.trans k.2.1
    subst e
    rw [chain_unique h.2.2 k.2.2]
def presC (enc:Int) (s:ByteArray):List Int:=presL enc (prt s 0 (pcsS enc s))
def presS (enc:Int) (s:ByteArray):ByteArray:=joinS (presC enc s)
theorem chain_len {enc:Int} {s:ByteArray} (h0:0≤enc) (h8:enc≤8):∀ {xs:List (Int × Int)} {p:Nat},p≤s.size→Chain enc s p xs s.size→xs.length≤s.size - p
  | [],_,_,_=>Nat.zero_le _
  | x :: xs,p,hp,h=>by
    have hs:=next_step h0 h8 h.1
    rw [h.2.1] at hs
    have:=chain_len h0 h8 (by omega) h.2.2
    rw [List.length_cons]
    omega
theorem prn_mem {s:ByteArray}:∀ {xs:List (Int × Int)} {p:Nat} {x:PN},x ∈ prn s p xs→x.1.2.1.size≤s.size
  | [],_,_,h=>nomatch h
  | y :: ys,p,x,h=>by
    rcases List.mem_cons.1 h with e | h
    · subst e
      simp only [ByteArray.size_extract]
      omega
    · exact prn_mem h
theorem prn_ok {enc:Int} {s:ByteArray} {xs:List (Int × Int)} (h0:0≤enc) (h8:enc≤8) (hs:s.size≤10000) (hc:Chain enc s 0 xs s.size):PartsOK (prn s 0 xs):=by
  intro x hx
  have h1:=prn_mem hx
  have h2:x.1 ∈ prt s 0 xs:=by rw [← prn_fst];exact List.mem_map_of_mem hx
  have h3:=(prt_ok h0 h8 xs 0 (Nat.zero_le _) hc).1 _ h2
  refine ⟨?_,by omega⟩
  rcases h3 with ⟨a,b,_⟩ | ⟨a,_⟩
  · have:=isC_true b;omega
  · omega
theorem hidFn:HidFn 53 hidB:=fun p n w h=>hidden_any p n h w
theorem strFn:HidFn 56 strB:=fun p n w h=>strange_any p n h w
theorem showFn (J:List Int→List Int) (jf:Value):ShowFn 54 jf J false:=fun gw out o p n w h1 _ _ _ h=>by
  have:=show_any jf gw out o p n w h1 h
  simpa [stO,stL] using this
theorem markFn (J:List Int→List Int) (jf:Value) (HF:Flushes jf J):ShowFn 57 jf J true:=fun gw out o p n w h1 h2 h3 h4 h=>by
  have:=mark_any jf J HF gw out o p n w h1 h2 h3 h4 h
  simpa using this
open Go.RowKit
theorem presC_len {enc:Int} {s:ByteArray} (h0:0≤enc) (h8:enc≤8):(presC enc s).length≤3 * s.size:=pres_len h0 h8 (pcs_chain h0 h8)
theorem presS_size {enc:Int} {s:ByteArray} (h0:0≤enc) (h8:enc≤8):(presS enc s).size≤12 * s.size:=by
  have:=joinS_size (presC enc s)
  have:=presC_len (s:=s) h0 h8
  unfold presS
  omega
theorem SlT.alloc {w:World} {v:Value} {xs:List PN} (h:SlT w w.heap.size v xs) (o:Obj):SlT (w.alloc o) w.heap.size v xs:=h.below ((Below.refl _ _).alloc (Nat.le_refl _) o)
theorem WrAt.new (w:World) (jf:Value):WrAt (w.alloc (.cells #[.string ⟨#[]⟩,.slice none 0 0,jf] 115)) w.heap.size ByteArray.empty [] jf:=⟨_,Blk.new _ _ _,OwnR.nil _ _⟩
theorem WrAt.join {w:World} {gw:Nat} {out:ByteArray} {o:List Int} {jf:Value} (h:WrAt w gw out o jf) (j2:Value):WrAt (w.setCell ⟨gw,2,none⟩ j2) gw out o j2:=by
  obtain ⟨v,h1,h2⟩:=h
  exact ⟨v,h1.set (i:=2) (u:=j2),h2.mut ((Mut.refl (fun k=>k=gw) _).setCell (p:=⟨gw,2,none⟩) (.inl rfl) _) fun k hk q=>by omega⟩
set_option maxHeartbeats 3200000 in
set_option maxRecDepth 100000 in
theorem present_any (enc:Int) (s:ByteArray) (h0:0≤enc) (h8:enc≤8) (hs:s.size≤10000) (w:World) :
    Calls Tryz.prog 16 #[.int .i64 enc,.string s] w fun e w'=>e=.returned (.string (presS enc s))∧Fresh w w':=by
  have HPT:=Lib.hid (parts_any enc s h0 h8 (by omega) w)
  have hch:=pcs_chain (s:=s) h0 h8
  have HCH:=Lib.hid hch
  have HOK:=Lib.hid (prn_ok h0 h8 hs hch)
  have HLN:=Lib.hid (chain_len h0 h8 (Nat.zero_le _) hch)
  have HPL:=Lib.hid (prn_len s (pcsS enc s) 0)
  have HSZ:=Lib.hid (presS_size (s:=s) h0 h8)
  have HFS:=Lib.hid (prn_fst s (pcsS enc s) 0)
  clear hch
  by_cases he:enc=8
  · subst he
    go_enter Tryz.func16,Tryz.ntmps16
    go_wp2_with fail
    refine HPT.out.mono ?_
    rintro e w1 ⟨v,xs,rfl,hc1,hl1,hown,hf1⟩
    have hxe:=chain_unique hc1 HCH.out
    subst hxe
    have hsl:=hown.sl
    have hnl:(prn s 0 (pcsS 8 s)).length≤10000:=by have:=HPL.out;have:=HLN.out;omega
    have HA0:=Lib.hid (WrAt.new w1 jfA)
    have HSL:=Lib.hid hsl
    have HF1:=Lib.hid hf1
    have HRG:=Lib.hid (regular_any (prn s 0 (pcsS 8 s)) (w1.alloc (.cells #[.string ⟨#[]⟩,.slice none 0 0,jfA] 115)) hnl HOK.out v ((HSL.out.alloc _).below (Below.refl _ _) |> fun h=>by
      rcases h with h | ⟨q0,g,cap,q1,q2,q3⟩
      · exact .inl h
      · exact .inr ⟨q0,g,cap,q1,by simp;omega,q3⟩))
    rw [HFS.out] at HRG
    unfold jfA at HRG
    clear hown hc1 hsl hf1
    go_wp2_with fail
    refine HRG.out.mono ?_
    rintro e w2 ⟨rfl,hf2⟩
    have HW2:=Lib.hid (HA0.out.fresh (by unfold jfA;exact hf2))
    have HB2:=Lib.hid (((Below.refl w1.heap.size w1).alloc (Nat.le_refl _) _).trans (hf2.below.mono (B':=w1.heap.size) (by simp)))
    have HSL2:=Lib.hid (HSL.out.below HB2.out)
    cases hr:regB (prt s 0 (pcsS 8 s)) with
    | true =>
      have hT:joinS (prL tog hidB true ((prn s 0 (pcsS 8 s)).map (·.1)) [])=presS 8 s:=by
        rw [HFS.out]
        unfold presS presC presL
        rw [if_neg (by decide),if_pos hr]
      have HX:=Lib.hid (all_any 53 57 hidB true jfT tog flushesT hidFn (markFn _ _ flushesT) enters_hidden enters_mark w1.heap.size (prn s 0 (pcsS 8 s)) (w2.setCell ⟨w1.heap.size,2,none⟩ jfT) (by omega) HOK.out (presS 8 s) hT (by have:=HSZ.out;omega) v (HSL2.out.below ((Below.refl w1.heap.size w2).setCell (p:=⟨w1.heap.size,2,none⟩) (Nat.le_refl _) _)) (HW2.out.join jfT))
      unfold jfT at HX
      clear hr hT
      obtain ⟨vv,hblk,_⟩:=HW2.out
      have hfz:w2.frozen? ⟨w1.heap.size,2,none⟩=false:=hblk.frozen 2
      have hc2:w2.cell? ⟨w1.heap.size,2,none⟩=some jfA:=by rw [hblk.cell];rfl
      unfold jfA at hc2
      clear hblk
      go_wp2_with fail
      refine HX.out.mono ?_
      rintro e w3 ⟨rfl,hb3⟩
      have HE:=Lib.hid ((HF1.out.trans ((HB2.out.setCell (p:=⟨w1.heap.size,2,none⟩) (Nat.le_refl _) _).trans hb3)))
      clear hb3
      go_wp2
      go_ret
      exact ⟨rfl,HE.out⟩
    | false =>
      have hT:joinS (prL id strB false ((prn s 0 (pcsS 8 s)).map (·.1)) [])=presS 8 s:=by
        rw [HFS.out]
        unfold presS presC presL
        rw [if_neg (by decide),if_neg (by rw [hr];simp)]
      have HX:=Lib.hid (all_any 56 54 strB false jfA id flushesA strFn (showFn _ _) enters_strange enters_show w1.heap.size (prn s 0 (pcsS 8 s)) w2 (by omega) HOK.out (presS 8 s) hT (by have:=HSZ.out;omega) v HSL2.out HW2.out)
      clear hr hT
      go_wp2_with fail
      refine HX.out.mono ?_
      rintro e w3 ⟨rfl,hb3⟩
      have HE:=Lib.hid (HF1.out.trans (HB2.out.trans hb3))
      clear hb3
      go_wp2
      go_ret
      exact ⟨rfl,HE.out⟩
  · have hne:(enc != 8)=true:=by simp [he]
    have hT:joinS (prL id hidB false ((prn s 0 (pcsS enc s)).map (·.1)) [])=presS enc s:=by
      rw [HFS.out]
      unfold presS presC presL
      rw [if_pos he]
    have HT:=Lib.hid hT
    clear he hT
    go_enter Tryz.func16,Tryz.ntmps16
    go_wp2_with fail
    refine HPT.out.mono ?_
    rintro e w1 ⟨v,xs,rfl,hc1,hl1,hown,hf1⟩
    have hxe:=chain_unique hc1 HCH.out
    subst hxe
    have hsl:=hown.sl
    have hnl:(prn s 0 (pcsS enc s)).length≤10000:=by have:=HPL.out;have:=HLN.out;omega
    have HF1:=Lib.hid hf1
    have HX:=Lib.hid (all_any 53 54 hidB false jfA id flushesA hidFn (showFn _ _) enters_hidden enters_show w1.heap.size (prn s 0 (pcsS enc s)) _ (by omega) HOK.out (presS enc s) HT.out (by have:=HSZ.out;omega) v (hsl.alloc _) (WrAt.new w1 jfA))
    unfold jfA at HX
    clear hown hc1 hsl hf1
    go_wp2_with fail
    refine HX.out.mono ?_
    rintro e w3 ⟨rfl,hb3⟩
    have HE:=Lib.hid (HF1.out.trans (((Below.refl w1.heap.size w1).alloc (Nat.le_refl _) _).trans hb3))
    clear hb3
    go_wp2
    go_ret
    exact ⟨rfl,HE.out⟩
open Go.RowKit
def RdAt (w:World) (gr:Nat) (enc:Int) (raw:ByteArray) (o:List Int) (ok:Bool):Prop:=∃ v,Blk w gr 182 #[.int .i64 enc,.string raw,v,.bool ok]∧OwnR w (gr+1) v o
def RdPost (gr:Nat) (w:World) (enc:Int) (raw:ByteArray) (o:List Int) (ok:Bool) (e:Ending) (w':World):Prop:=e=.returned (.tuple #[])∧RdAt w' gr enc raw o ok∧Mut (fun k=>k=gr) w w'
def FlRel (gr:Nat) (enc:Int) (raw:ByteArray) (v:Value) (o:List Int) (ok:Bool) (W0:World) (i:Value) (wr:World):Prop :=
  ∃ k:Nat,i=.int .i64 (k:Nat)∧k≤o.length∧Blk wr gr 182 #[.int .i64 enc,.string (raw++encL enc (o.take k)),v,.bool (ok && encAll enc (o.take k))]∧Mut (fun k=>k=gr) W0 wr
theorem encL_snoc (enc:Int) (x:Int):∀ o:List Int,encL enc (o++[x])=encL enc o++encB enc x
  | []=>by simp [encL]
  | y :: o=>by rw [List.cons_append,encL,encL,encL_snoc enc x o,ByteArray.append_assoc]
theorem encAll_snoc (enc:Int) (x:Int) (o:List Int):encAll enc (o++[x])=(encAll enc o && (encC enc x).isSome):=by simp [encAll]
theorem encB_size (enc r:Int):(encB enc r).size≤4:=by
  unfold encB
  cases h:encC enc r with
  | none=>exact Nat.zero_le _
  | some l=>have:=encC_bytes h;simp only [strOfNums_size];omega
theorem encL_size (enc:Int):∀ o:List Int,(encL enc o).size≤4 * o.length
  | []=>Nat.zero_le _
  | x :: o=>by have:=encB_size enc x;have:=encL_size enc o;rw [encL,ByteArray.size_append,List.length_cons];omega
theorem rdEnc_any (enc r:Int) (h0:0≤enc) (h8:enc≤8) (w:World) :
    Calls Tryz.prog 169 #[.int .i64 enc,.int .i32 r] w fun e w'=>e=.returned (.tuple #[.string (encB enc r),.bool (encC enc r).isSome])∧Fresh w w':=by
  have:=pEnc_any enc r w
  unfold encP at this
  rw [if_pos ⟨h0,h8⟩] at this
  exact this
theorem opn_len (enc:Int) (o:List Int):(opn enc o).length≤3 * o.length:=by unfold opn;split;exact apt_len o;omega
theorem RdAt.cells {w:World} {gr:Nat} {enc:Int} {raw:ByteArray} {o:List Int} {ok:Bool} (h:RdAt w gr enc raw o ok):∃ v,Blk w gr 182 #[.int .i64 enc,.string raw,v,.bool ok]∧OwnR w (gr+1) v o:=h
theorem fl_next {gr:Nat} {enc:Int} {raw:ByteArray} {v:Value} {o:List Int} {ok:Bool} {W0 wr w1:World} {k:Nat} {c:Int} {raw1:ByteArray} {ok1:Bool} (hk:k<o.length) (hc:o.getD k 0=c)
    (hr:raw++encL enc (o.take k)=raw1) (ho:(ok && encAll enc (o.take k))=ok1) (hb:Blk wr gr 182 #[.int .i64 enc,.string raw1,v,.bool ok1]) (hm:Mut (fun k=>k=gr) W0 wr) (hf:Fresh wr w1) {eb:ByteArray} {es ok2:Bool} (heb:encB enc c=eb) (hes:(encC enc c).isSome=es) (hk2:(ok1 && es)=ok2) :
    FlRel gr enc raw v o ok W0 (.int .i64 ((k:Int)+1)) ((w1.setCell ⟨gr,1,none⟩ (.string (raw1++eb))).setCell ⟨gr,3,none⟩ (.bool ok2)):=by
  refine ⟨k+1,rfl,hk,?_,((hm.andFresh hf).setCell (p:=⟨gr,1,none⟩) (.inl rfl) _).setCell (p:=⟨gr,3,none⟩) (.inl rfl) _⟩
  have h1:=((hb.keep hf).set (i:=1) (u:=.string (raw1++eb))).set (i:=3) (u:=.bool ok2)
  have e1:=take_succ_getD o k hk
  rw [hc] at e1
  rw [e1,encL_snoc,encAll_snoc,← ByteArray.append_assoc,hr,heb,← Bool.and_assoc,ho,hes,hk2]
  exact h1
theorem fl_done {gr:Nat} {enc:Int} {raw1:ByteArray} {v:Value} {ok1:Bool} {w wr:World} (hb:Blk wr gr 182 #[.int .i64 enc,.string raw1,v,.bool ok1]) (hm:Mut (fun k=>k=gr) w wr) :
    RdAt (wr.setCell ⟨gr,2,none⟩ (.slice none 0 0)) gr enc raw1 [] ok1∧Mut (fun k=>k=gr) w (wr.setCell ⟨gr,2,none⟩ (.slice none 0 0)) :=
  ⟨⟨_,hb.set (i:=2) (u:=.slice none 0 0),OwnR.nil _ _⟩,hm.setCell (p:=⟨gr,2,none⟩) (.inl rfl) _⟩
set_option maxHeartbeats 3200000 in
set_option maxRecDepth 100000 in
theorem rflush_any (gr:Nat) (enc:Int) (raw:ByteArray) (o:List Int) (ok:Bool) (w:World) (h0:0≤enc) (h8:enc≤8) (ho:o.length≤10000) (h32:In32 o) (hs:raw.size≤10000000) (h:RdAt w gr enc raw o ok) :
    Calls Tryz.prog 115 #[.pointer (some ⟨gr,0,none⟩)] w (RdPost gr w enc (raw++flB enc o) [] (ok && flK enc o)):=by
  obtain ⟨v,hblk,hown⟩:=h
  have hg:=hblk.lt
  have HENC:=Lib.hid (fun r W=>rdEnc_any enc r h0 h8 W)
  have c0:w.cell? ⟨gr,0,none⟩=some (.int .i64 enc):=by rw [hblk.cell];rfl
  have c2:w.cell? ⟨gr,2,none⟩=some v:=by rw [hblk.cell];rfl
  have f2:w.frozen? ⟨gr,2,none⟩=false:=hblk.frozen 2
  have hol:=opn_len enc o
  have HFB:Hid (flB enc o=encL enc (opn enc o)):=Lib.hid rfl
  have HFK:Hid (flK enc o=encAll enc (opn enc o)):=Lib.hid rfl
  by_cases he:enc=8
  · subst he
    have hop:opn 8 o=apt o:=by unfold opn;rw [if_pos rfl]
    rw [hop] at hol HFB HFK
    have HAP:=Lib.hid (capt_any v o w hown.sl ho h32)
    have HB:=Lib.hid hblk
    clear hop hown hblk
    go_enter Tryz.func115,Tryz.ntmps115
    go_wp2_with fail
    refine HAP.out.mono ?_
    rintro e w1 ⟨v1,rfl,hown1,hf1⟩
    have hb1:=HB.out.keep hf1
    have HM1:=Lib.hid (hf1.mut (fun k=>k=gr))
    have d0:w1.cell? ⟨gr,0,none⟩=some (.int .i64 8):=by rw [hb1.cell];rfl
    have d2:w1.cell? ⟨gr,2,none⟩=some v:=by rw [hb1.cell];rfl
    have e2:w1.frozen? ⟨gr,2,none⟩=false:=hb1.frozen 2
    obtain ⟨o2,ho2⟩:∃ o2,apt o=o2:=⟨_,rfl⟩
    rw [ho2] at hol HFB HFK hown1
    have hown2:OwnR (w1.setCell ⟨gr,2,none⟩ v1) (gr+1) v1 o2:=OwnR.mut (hown1.base (by omega)) ((Mut.refl (fun k=>k=gr) _).setCell (p:=⟨gr,2,none⟩) (.inl rfl) _) fun k hk q=>by omega
    have hb2:Blk (w1.setCell ⟨gr,2,none⟩ v1) gr 182 #[.int .i64 8,.string raw,v1,.bool ok]:=hb1.set (i:=2) (u:=v1)
    have HM:Hid (Mut (fun k=>k=gr) w (w1.setCell ⟨gr,2,none⟩ v1)):=Lib.hid (HM1.out.setCell (p:=⟨gr,2,none⟩) (.inl rfl) _)
    have hg2:gr<(w1.setCell ⟨gr,2,none⟩ v1).heap.size:=hb2.lt
    clear ho2 hf1 hb1 hown1
    obtain ⟨n,hn⟩:∃ n,o2.length=n:=⟨_,rfl⟩
    have HN:=Lib.hid hn
    rcases Nat.eq_zero_or_pos n with hn0 | hnp
    · have ho2:o2=[]:=List.eq_nil_of_length_eq_zero (by omega)
      have hE:raw++flB 8 o=raw:=by rw [HFB.out,ho2];simp [encL]
      have hK:(ok && flK 8 o)=ok:=by rw [HFK.out,ho2];simp [encAll]
      have HE:=Lib.hid hE
      have HK:=Lib.hid hK
      clear hE hK
      obtain ⟨hl0,⟨hv,hv0⟩ | ⟨g,cap,cur,hv,hv0⟩⟩:=hown2
      · subst hv
        have HRES:Hid (RdAt _ gr 8 (raw++flB 8 o) [] (ok && flK 8 o)∧_):=Lib.hid (by rw [HE.out,HK.out];exact fl_done hb2 HM.out)
        clear hb2 hl0 hv0
        go_wp2
        refine wp_loop_rounds 1 ?_
        rw [rounds_succ]
        go_wp2
        go_end0
        exact ⟨rfl,HRES.out.1,HRES.out.2⟩
      · rw [hn,hn0] at hv
        subst hv
        have HRES:Hid (RdAt _ gr 8 (raw++flB 8 o) [] (ok && flK 8 o)∧_):=Lib.hid (by rw [HE.out,HK.out];exact fl_done hb2 HM.out)
        clear hb2 hl0 hv0
        go_wp2
        refine wp_loop_rounds 1 ?_
        rw [rounds_succ]
        go_wp2
        go_end0
        exact ⟨rfl,HRES.out.1,HRES.out.2⟩
    obtain ⟨g,cap,hv,hgl,hcell⟩:=hown2.sl2 (by omega)
    have hgg:gr+1≤g:=(hown2.lt g (by rw [hv];rfl)).1
    rw [hn] at hv hcell
    subst hv
    have HB2:=Lib.hid hb2
    have HCELL:=Lib.hid hcell
    have hnn:n≤30000:=by omega
    clear hown2 hb2 hcell hn
    go_wp2
    go_loopw [24] (fun i wr=>FlRel gr 8 raw (.slice (some ⟨g,0,none⟩) n cap) o2 ok (w1.setCell ⟨gr,2,none⟩ (.slice (some ⟨g,0,none⟩) n cap)) i wr) (fun i _=>n - (intOf i).toNat)
    case atStart=>exact ⟨0,rfl,Nat.zero_le _,by simpa [encL,encAll] using HB2.out,Mut.refl _ _⟩
    case round =>
      obtain ⟨k,rfl,hk,hb,hm⟩:=hrel
      have hkn:k≤n:=by have:=HN.out;omega
      have hgw:gr<wr.heap.size:=hb.lt
      have k2:wr.cell? ⟨gr,2,none⟩=some (.slice (some ⟨g,0,none⟩) n cap):=by rw [hb.cell];rfl
      have q2:wr.frozen? ⟨gr,2,none⟩=false:=hb.frozen 2
      have HBr:=Lib.hid hb
      have HMr:=Lib.hid hm
      clear hk
      by_cases hlt:k<n
      · have cc:wr.cell? ⟨g,k,none⟩=some (.int .i32 (o2.getD k 0)):=(hm.cell (p:=⟨g,k,none⟩) hgl (by show ¬ g=gr;omega)).trans (HCELL.out k hlt)
        have k0:wr.cell? ⟨gr,0,none⟩=some (.int .i64 8):=by rw [hb.cell];rfl
        have hsz:=encL_size 8 (o2.take k)
        have htl:(o2.take k).length≤k:=List.length_take_le _ _
        obtain ⟨c,hc⟩:∃ c,o2.getD k 0=c:=⟨_,rfl⟩
        obtain ⟨raw1,hr1⟩:∃ raw1,raw++encL 8 (o2.take k)=raw1:=⟨_,rfl⟩
        obtain ⟨ok1,hk1⟩:∃ ok1,(ok && encAll 8 (o2.take k))=ok1:=⟨_,rfl⟩
        have hr1s:raw1.size≤10200000:=by have:=HN.out;rw [← hr1,ByteArray.size_append];omega
        have HX:=Lib.hid (HENC.out c)
        have hes:=encB_size 8 c
        obtain ⟨eb,heb⟩:∃ eb,encB 8 c=eb:=⟨_,rfl⟩
        obtain ⟨es,hese⟩:∃ es,(encC 8 c).isSome=es:=⟨_,rfl⟩
        rw [heb] at hes
        rw [heb,hese] at HX
        rw [hc] at cc
        have hns:¬ 9223372036854775807<raw1.size+eb.size:=by omega
        have HNX:=Lib.hid (fun (w1:World) (hf:Fresh wr w1) (ok2:Bool) (h2:(ok1 && es)=ok2)=>fl_next (raw:=raw) (ok:=ok) (by have:=HN.out;omega) hc hr1 hk1 (by have:=HBr.out;rw [hr1,hk1] at this;exact this) HMr.out hf heb hese h2)
        have HB1:Hid (Blk wr gr 182 #[.int .i64 8,.string raw1,.slice (some ⟨g,0,none⟩) n cap,.bool ok1]):=Lib.hid (by have:=hb;rw [hr1,hk1] at this;exact this)
        have i1:(0:Int)≤(k:Int):=by omega
        have i2:(k:Int)<(n:Int):=by omega
        clear hc hr1 hk1 heb hese hsz htl hb hm
        go_wp2_with fail
        refine (HX.out _).mono ?_
        rintro e w1 ⟨rfl,hf1⟩
        have hb1:=HB1.out.keep hf1
        have m1:w1.cell? ⟨gr,1,none⟩=some (.string raw1):=by rw [hb1.cell];rfl
        have m3:w1.cell? ⟨gr,3,none⟩=some (.bool ok1):=by rw [hb1.cell];rfl
        have n1:w1.frozen? ⟨gr,1,none⟩=false:=hb1.frozen 1
        have n3:w1.frozen? ⟨gr,3,none⟩=false:=hb1.frozen 3
        have HF1:=Lib.hid hf1
        clear hb1 hf1
        cases ok1 with
        | true =>
          have HR:=Lib.hid (HNX.out w1 HF1.out es rfl)
          clear HNX
          go_wp2
          exact ⟨HR.out,by simp [intOf];omega⟩
        | false =>
          have HR:=Lib.hid (HNX.out w1 HF1.out false rfl)
          clear HNX
          go_wp2
          exact ⟨HR.out,by simp [intOf];omega⟩
      · have hkE:o2.take k=o2:=List.take_of_length_le (by have:=HN.out;omega)
        have hb3:=HBr.out
        rw [hkE,← HFB.out,← HFK.out] at hb3
        have HRES:=Lib.hid (fl_done hb3 (HM.out.trans HMr.out))
        have hk1:¬ (k:Int)<(n:Int):=by omega
        clear hb hm hb3 hkE
        go_wp2
        go_end0
        exact ⟨rfl,HRES.out.1,HRES.out.2⟩
  · have hne:(enc == 8)=false:=by simp [he]
    obtain ⟨o2,ho2⟩:∃ o2,opn enc o=o2:=⟨_,rfl⟩
    have hoe:o=o2:=by rw [← ho2];unfold opn;rw [if_neg he]
    rw [ho2] at hol HFB HFK
    rw [hoe] at hown
    have hown2:=hown
    have hb2:=hblk
    have HM:Hid (Mut (fun k=>k=gr) w w):=Lib.hid (Mut.refl _ _)
    clear ho2 hoe hown hblk he
    go_enter Tryz.func115,Tryz.ntmps115
    obtain ⟨n,hn⟩:∃ n,o2.length=n:=⟨_,rfl⟩
    have HN:=Lib.hid hn
    rcases Nat.eq_zero_or_pos n with hn0 | hnp
    · have ho2:o2=[]:=List.eq_nil_of_length_eq_zero (by omega)
      have hE:raw++flB enc o=raw:=by rw [HFB.out,ho2];simp [encL]
      have hK:(ok && flK enc o)=ok:=by rw [HFK.out,ho2];simp [encAll]
      have HE:=Lib.hid hE
      have HK:=Lib.hid hK
      clear hE hK
      obtain ⟨hl0,⟨hv,hv0⟩ | ⟨g,cap,cur,hv,hv0⟩⟩:=hown2
      · subst hv
        have HRES:Hid (RdAt _ gr enc (raw++flB enc o) [] (ok && flK enc o)∧_):=Lib.hid (by rw [HE.out,HK.out];exact fl_done hb2 HM.out)
        clear hb2 hl0 hv0
        go_wp2
        refine wp_loop_rounds 1 ?_
        rw [rounds_succ]
        go_wp2
        go_end0
        exact ⟨rfl,HRES.out.1,HRES.out.2⟩
      · rw [hn,hn0] at hv
        subst hv
        have HRES:Hid (RdAt _ gr enc (raw++flB enc o) [] (ok && flK enc o)∧_):=Lib.hid (by rw [HE.out,HK.out];exact fl_done hb2 HM.out)
        clear hb2 hl0 hv0
        go_wp2
        refine wp_loop_rounds 1 ?_
        rw [rounds_succ]
        go_wp2
        go_end0
        exact ⟨rfl,HRES.out.1,HRES.out.2⟩
    obtain ⟨g,cap,hv,hgl,hcell⟩:=hown2.sl2 (by omega)
    have hgg:gr+1≤g:=(hown2.lt g (by rw [hv];rfl)).1
    rw [hn] at hv hcell
    subst hv
    have HB2:=Lib.hid hb2
    have HCELL:=Lib.hid hcell
    have hnn:n≤30000:=by omega
    clear hown2 hb2 hcell hn
    go_wp2
    go_loopw [24] (fun i wr=>FlRel gr enc raw (.slice (some ⟨g,0,none⟩) n cap) o2 ok (w) i wr) (fun i _=>n - (intOf i).toNat)
    case atStart=>exact ⟨0,rfl,Nat.zero_le _,by simpa [encL,encAll] using HB2.out,Mut.refl _ _⟩
    case round =>
      obtain ⟨k,rfl,hk,hb,hm⟩:=hrel
      have hkn:k≤n:=by have:=HN.out;omega
      have hgw:gr<wr.heap.size:=hb.lt
      have k2:wr.cell? ⟨gr,2,none⟩=some (.slice (some ⟨g,0,none⟩) n cap):=by rw [hb.cell];rfl
      have q2:wr.frozen? ⟨gr,2,none⟩=false:=hb.frozen 2
      have HBr:=Lib.hid hb
      have HMr:=Lib.hid hm
      clear hk
      by_cases hlt:k<n
      · have cc:wr.cell? ⟨g,k,none⟩=some (.int .i32 (o2.getD k 0)):=(hm.cell (p:=⟨g,k,none⟩) hgl (by show ¬ g=gr;omega)).trans (HCELL.out k hlt)
        have k0:wr.cell? ⟨gr,0,none⟩=some (.int .i64 enc):=by rw [hb.cell];rfl
        have hsz:=encL_size enc (o2.take k)
        have htl:(o2.take k).length≤k:=List.length_take_le _ _
        obtain ⟨c,hc⟩:∃ c,o2.getD k 0=c:=⟨_,rfl⟩
        obtain ⟨raw1,hr1⟩:∃ raw1,raw++encL enc (o2.take k)=raw1:=⟨_,rfl⟩
        obtain ⟨ok1,hk1⟩:∃ ok1,(ok && encAll enc (o2.take k))=ok1:=⟨_,rfl⟩
        have hr1s:raw1.size≤10200000:=by have:=HN.out;rw [← hr1,ByteArray.size_append];omega
        have HX:=Lib.hid (HENC.out c)
        have hes:=encB_size enc c
        obtain ⟨eb,heb⟩:∃ eb,encB enc c=eb:=⟨_,rfl⟩
        obtain ⟨es,hese⟩:∃ es,(encC enc c).isSome=es:=⟨_,rfl⟩
        rw [heb] at hes
        rw [heb,hese] at HX
        rw [hc] at cc
        have hns:¬ 9223372036854775807<raw1.size+eb.size:=by omega
        have HNX:=Lib.hid (fun (w1:World) (hf:Fresh wr w1) (ok2:Bool) (h2:(ok1 && es)=ok2)=>fl_next (raw:=raw) (ok:=ok) (by have:=HN.out;omega) hc hr1 hk1 (by have:=HBr.out;rw [hr1,hk1] at this;exact this) HMr.out hf heb hese h2)
        have HB1:Hid (Blk wr gr 182 #[.int .i64 enc,.string raw1,.slice (some ⟨g,0,none⟩) n cap,.bool ok1]):=Lib.hid (by have:=hb;rw [hr1,hk1] at this;exact this)
        have i1:(0:Int)≤(k:Int):=by omega
        have i2:(k:Int)<(n:Int):=by omega
        clear hc hr1 hk1 heb hese hsz htl hb hm
        go_wp2_with fail
        refine (HX.out _).mono ?_
        rintro e w1 ⟨rfl,hf1⟩
        have hb1:=HB1.out.keep hf1
        have m1:w1.cell? ⟨gr,1,none⟩=some (.string raw1):=by rw [hb1.cell];rfl
        have m3:w1.cell? ⟨gr,3,none⟩=some (.bool ok1):=by rw [hb1.cell];rfl
        have n1:w1.frozen? ⟨gr,1,none⟩=false:=hb1.frozen 1
        have n3:w1.frozen? ⟨gr,3,none⟩=false:=hb1.frozen 3
        have HF1:=Lib.hid hf1
        clear hb1 hf1
        cases ok1 with
        | true =>
          have HR:=Lib.hid (HNX.out w1 HF1.out es rfl)
          clear HNX
          go_wp2
          exact ⟨HR.out,by simp [intOf];omega⟩
        | false =>
          have HR:=Lib.hid (HNX.out w1 HF1.out false rfl)
          clear HNX
          go_wp2
          exact ⟨HR.out,by simp [intOf];omega⟩
      · have hkE:o2.take k=o2:=List.take_of_length_le (by have:=HN.out;omega)
        have hb3:=HBr.out
        rw [hkE,← HFB.out,← HFK.out] at hb3
        have HRES:=Lib.hid (fl_done hb3 (HM.out.trans HMr.out))
        have hk1:¬ (k:Int)<(n:Int):=by omega
        clear hb hm hb3 hkE
        go_wp2
        go_end0
        exact ⟨rfl,HRES.out.1,HRES.out.2⟩
end Go.Proofs.YtpmlggjhfiljmaaGreatDoor
