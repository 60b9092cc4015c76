/- Part 15 of what the law rests on. -/
import Derived.Deep.RegionHeld3
import Derived.Test.YtpmlggjhfiljmaaGreatDoorS03
import Derived.Test.YtpmlggjhfiljmaaGreatDoorS08
import Derived.Test.YtpmlggjhfiljmaaGreatDoorS14
set_option linter.all false
namespace Go.Proofs.YtpmlggjhfiljmaaGreatDoor
open Go.RowKit
def OwnS (w:World) (B:Nat) (v:Value) (T:ByteArray):Prop:=w.ownsRow B 5 1 v T.size (Lib.strCells T)
theorem OwnS.nil (w:World) (B:Nat):OwnS w B (.slice none 0 0) ByteArray.empty:=World.ownsRow_nil _ _ _ _
theorem OwnS.keep {w w':World} {B:Nat} {v:Value} {xs:ByteArray} (h:OwnS w B v xs) (hf:Fresh w w'):OwnS w' B v xs:=by
  refine World.ownsRow.kept (row:=none) h ⟨hf.os,hf.tape,hf.output,hf.size,fun k hk _=>hf.block k hk⟩ ?_
  cases hv:v.ownBlock with
  | none=>exact .inl rfl
  | some k=>exact .inr (by simp)
theorem hex_at_dec:((List.range 16).all fun n=>decide ((((ByteArray.mk #[48,49,50,51,52,53,54,55,56,57,97,98,99,100,101,102]).data.toList.getD n 0).toNat:Int)=hexI (n:Int)))=true:=by decide +kernel
theorem hex_at {d:Int} (h:0≤d∧d<16):(((ByteArray.mk #[48,49,50,51,52,53,54,55,56,57,97,98,99,100,101,102])[d.toNat]'(by show d.toNat<16;omega)).toNat:Int)=hexI d:=by
  have:=List.all_eq_true.1 hex_at_dec d.toNat (List.mem_range.2 (by omega))
  simp only [decide_eq_true_eq] at this
  rw [Int.toNat_of_nonneg h.1] at this
  rw [← this,B_at _ _ (by show d.toNat<16;omega)]
  rfl
def escB (b:ByteArray) (k:Nat):ByteArray:=strOfNums (((bl b).take k).flatMap escI)
theorem escB_size (b:ByteArray) (k:Nat) (h:k≤b.size):(escB b k).size=3 * k:=by
  have hel:∀ l:List Int,(l.flatMap escI).length=3 * l.length:=by
    intro l
    induction l with
    | nil=>rfl
    | cons x l ih=>rw [List.flatMap_cons,List.length_append,ih];simp [escI];omega
  unfold escB
  rw [strOfNums_size,hel,List.length_take]
  have:(bl b).length=b.size:=by simp [bl]
  omega
theorem escB_all (b:ByteArray):escB b b.size=joinS (esc b):=by
  have hl:(bl b).length=b.size:=by simp [bl]
  unfold escB esc
  rw [List.take_of_length_le (by omega)]
  have hb:∀ c ∈ bl b,0≤c∧c<256:=fun c hc=>by
    simp only [bl,List.mem_map] at hc
    obtain ⟨x,_,rfl⟩:=hc
    have:=x.toNat_lt
    omega
  generalize bl b=l at hb
  induction l with
  | nil=>rfl
  | cons c l ih =>
    rw [List.flatMap_cons,strOfNums_append,joinS_append,ih fun x hx=>hb x (by simp [hx])]
    congr 1
    have hc:=hb c (by simp)
    have h1:=hex_facts (d:=c / 16) (by omega)
    have h2:=hex_facts (d:=c % 16) (by omega)
    have e:∀ r:Int,0≤r→r<128→encS r=strOfNums [r]:=fun r h0 h1=>by
      unfold encS
      rw [if_pos (isC_of (by omega))]
      have:encI r=[r]:=by unfold encI;rw [if_pos h1]
      rw [this]
    have e3:escI c=[37]++([hexI (c / 16)]++[hexI (c % 16)]):=rfl
    rw [e3,strOfNums_append,strOfNums_append,joinS_append,joinS_append,joinS_one,joinS_one,joinS_one,e 37 (by omega) (by omega),e _ h1.2.2.2.1 h1.2.2.1,e _ h2.2.2.2.1 h2.2.2.1]
theorem strCells_nums {l:List Int} (h:∀ x ∈ l,0≤x∧x<256):Lib.strCells (strOfNums l)=l.map (Value.int .u8):=by
  unfold Lib.strCells strOfNums
  simp only [List.map_map]
  apply List.map_congr_left
  intro x hx
  have:=h x hx
  simp only [Function.comp]
  congr 1
  rw [UInt8.toNat_ofNat']
  omega
theorem esc_push {w':World} {B:Nat} {v':Value} {b:ByteArray} {k:Nat} {c:Int} (h:w'.ownsRow B 5 1 v' (3 * k+3) (Lib.strCells (escB b k)++[.int .u8 37,.int .u8 (hexI (c / 16)),.int .u8 (hexI (c % 16))])) (hc:c=Go.Proofs.YtpmlggjhfiljmaaGreatDoor.B b k) (hk:k<b.size) (hr:0≤c∧c<256) :
    OwnS w' B v' (escB b (k+1)):=by
  have hl:(bl b).length=b.size:=by simp [bl]
  have hbk:(bl b)[k]'(by omega)=c:=by
    rw [hc]
    simp [bl,Go.Proofs.YtpmlggjhfiljmaaGreatDoor.B,List.getD_eq_getElem?_getD,hk]
  have e1:escB b (k+1)=escB b k++strOfNums (escI c):=by
    unfold escB
    rw [List.take_succ_eq_append_getElem (by omega),List.flatMap_append,strOfNums_append,hbk]
    simp
  unfold OwnS
  rw [e1,strCells_append]
  have h1:=hex_facts (d:=c / 16) (by omega)
  have h2:=hex_facts (d:=c % 16) (by omega)
  have e2:Lib.strCells (strOfNums (escI c))=[.int .u8 37,.int .u8 (hexI (c / 16)),.int .u8 (hexI (c % 16))]:=by
    rw [strCells_nums fun x hx=>by simp [escI] at hx;omega]
    rfl
  have e3:(escB b k++strOfNums (escI c)).size=3 * k+3:=by rw [ByteArray.size_append,escB_size b k (by omega),strOfNums_size];rfl
  rw [e2,e3]
  exact h
def EscRel (b:ByteArray) (w:World) (out i:Value) (wr:World):Prop:=∃ k:Nat,i=.int .i64 (k:Nat)∧k≤b.size∧OwnS wr w.heap.size out (escB b k)∧Fresh w wr
set_option maxHeartbeats 1600000 in
set_option maxRecDepth 100000 in
theorem escaped_any (b:ByteArray) (hb:b.size≤100000) (w:World):Calls Tryz.prog 161 #[.string b] w fun e w'=>e=.returned (.string (joinS (esc b)))∧Fresh w w':=by
  obtain ⟨i0,hi0,hz0,hz1,hz2⟩:=info_parts info8
  have hcv:=fun W:World=>Lib.run_convert_string_bytes (P:=Tryz.prog) W 9 131 5 b Tryz.underlying9 Tryz.underlying131 Tryz.underlying5
  have hcell:=fun (W:World) (j:Nat) (hj:j<b.size)=>Lib.bytesWorld_cell W 5 b j hj
  have hfw:∀ W:World,Fresh W (Lib.bytesWorld W 5 b):=fun W=>fresh_bytes W _ _
  have HCELL:=Lib.hid hcell
  have HFW:=Lib.hid hfw
  clear hcell hfw
  obtain ⟨n,hn⟩:∃ n,b.size=n:=⟨_,rfl⟩
  have HN:=Lib.hid hn
  rw [hn] at hb hcv
  clear hn
  have hlt:w.heap.size<(Lib.bytesWorld w 5 b).heap.size:=by rw [Lib.bytesWorld_size];omega
  have HLT:=Lib.hid hlt
  clear hlt
  go_enter Tryz.func161,Tryz.ntmps161
  go_wp2
  go_loopw [3,9] (fun out i wr=>EscRel b (Lib.bytesWorld w 5 b) out i wr) (fun _ i _=>n - (intOf i).toNat)
  case atStart=>exact ⟨0,rfl,Nat.zero_le _,OwnS.nil _ _,Fresh.refl _⟩
  case round =>
    obtain ⟨k,rfl,hk,hown,hf⟩:=hrel
    have hkn:k≤n:=by have:=HN.out;omega
    clear hk
    by_cases hlt:k<n
    · have c1:wr.cell? ⟨w.heap.size,k,none⟩=some (.int .u8 (B b k)):=(Below.cell hf (p:=⟨w.heap.size,k,none⟩) HLT.out).trans (HCELL.out w k (by have:=HN.out;omega))
      have hbr:=B_range b k
      generalize hc:B b k=c at c1 hbr
      have HC:=Lib.hid hc
      obtain ⟨hc0,hc1⟩:=hbr
      have i1:(0:Int)≤(k:Int):=by omega
      have i2:(k:Int)<(n:Int):=by omega
      clear hc
      go_wp2
      have hq1:0≤c / 16∧c / 16<16:=by omega
      have hq2:0≤c % 16∧c % 16<16:=by omega
      obtain ⟨H,hH⟩:∃ H,(ByteArray.mk #[48,49,50,51,52,53,54,55,56,57,97,98,99,100,101,102])=H:=⟨_,rfl⟩
      have hHs:H.size=16:=by rw [← hH];rfl
      have hand:bits .and .u8 c 15=c % 16:=u8_and15 c hc0 hc1
      have hx1:((H[(c / 16).toNat]'(by rw [hHs];omega)).toNat:Int)=hexI (c / 16):=by
        have:=hex_at (d:=c / 16) hq1
        subst hH;exact this
      have hx2:((H[(c % 16).toNat]'(by rw [hHs];omega)).toNat:Int)=hexI (c % 16):=by
        have:=hex_at (d:=c % 16) hq2
        subst hH;exact this
      rw [hH]
      clear hH
      have hsz:(escB b k).size=3 * k:=escB_size b k (by have:=HN.out;omega)
      have hown3:=hown
      unfold OwnS at hown3
      rw [hsz] at hown3
      go_region_law (refine step_append_new rfl (.tmp 13) (.tmp 20) 131 rfl wr (Lib.bytesWorld w 5 b).heap.size 5 i0 (.int .u8 0) 1 1 Tryz.underlying131 hi0 hz0 hz1 hz2 rfl (by decide) _ _ _ hown3 3 [.int .u8 37,.int .u8 (hexI (c / 16)),.int .u8 (hexI (c % 16))] rfl (by intro u hu;simp at hu;rcases hu with rfl | rfl | rfl <;> rfl) (by unfold maxLen;omega) (by omega) hf.size (by simp [Act.eval,Act.put]) (by simp [Act.eval,Act.put]) (by repeat (first | exact Fresh.refl _ | refine Fresh.drew ?_)) ?_;intro v' w' hown' hgrow hblk)
      all_goals
        have hn':OwnS w' (Lib.bytesWorld w 5 b).heap.size v' (escB b (k+1)):=esc_push hown' HC.out.symm (by have:=HN.out;omega) ⟨hc0,hc1⟩
        have hf':Fresh (Lib.bytesWorld w 5 b) w':=Below.grown (hf.trans (b:=wr) (by repeat (first | exact (Fresh.refl _).alloc _ | refine Fresh.drew ?_))) hgrow (by have:=hf.size;simp;omega) (fun g hg=>(hown.lt g hg).1)
        clear hown' hgrow hblk hown hown3 hx1 hx2 hand
        go_wp2
        exact ⟨⟨k+1,by rw [Int.natCast_add];rfl,by have:=HN.out;omega,hn',hf'⟩,by simp [intOf];omega⟩
    · have hkE:k=n:=by omega
      have hE:escB b k=joinS (esc b):=by rw [hkE,← HN.out];exact escB_all b
      rw [hE] at hown
      unfold OwnS at hown
      have hcv2:=conv_own hown
      have HF:=Lib.hid ((HFW.out w).trans hf)
      have hlt9:¬ (k:Int)<(n:Int):=by omega
      generalize hJ:joinS (esc b)=J at hcv2
      have HJ:=Lib.hid hJ
      clear hJ
      clear hown hE hf hcv
      go_wp2
      go_ret
      exact ⟨by rw [HJ.out];rfl,HF.out⟩
open Go.RowKit
abbrev PN:=Part × Int
def ptc (x:PN):List Value:=[.int .i32 x.1.1,.int .i64 x.2,.string x.1.2.1,.bool x.1.2.2]
def ptcs (xs:List PN):List Value:=xs.flatMap ptc
theorem ptcs_get:∀ (xs:List PN) (k:Nat) (hk:k<xs.length) (j:Nat),j<4→(ptcs xs)[k * 4+j]?=(ptc xs[k])[j]?
  | [],k,hk,_,_=>by simp at hk
  | x :: l,0,_,j,hj=>by
    unfold ptcs
    rw [List.flatMap_cons,List.getElem?_append_left (by simp [ptc];omega)]
    simp
  | x :: l,k+1,hk,j,hj=>by
    have ih:=ptcs_get l k (by simpa using hk) j hj
    unfold ptcs at *
    rw [List.flatMap_cons,List.getElem?_append_right (by simp [ptc];omega)]
    have:(k+1) * 4+j - (ptc x).length=k * 4+j:=by simp [ptc];omega
    rw [this,ih]
    simp
def OwnT (w:World) (B:Nat) (v:Value) (xs:List PN):Prop:=w.ownsRow B 121 4 v xs.length (ptcs xs)
theorem OwnT.nil (w:World) (B:Nat):OwnT w B (.slice none 0 0) []:=World.ownsRow_nil _ _ _ _
theorem OwnT.keep {w w':World} {B:Nat} {v:Value} {xs:List PN} (h:OwnT w B v xs) (hf:Fresh w w'):OwnT w' B v xs:=by
  refine World.ownsRow.kept (row:=none) h ⟨hf.os,hf.tape,hf.output,hf.size,fun k hk _=>hf.block k hk⟩ ?_
  cases hv:v.ownBlock with
  | none=>exact .inl rfl
  | some k=>exact .inr (by simp)
theorem OwnT.push {w':World} {B:Nat} {v':Value} {acc:List PN} {x:PN} (h:w'.ownsRow B 121 4 v' (acc.length+1) (ptcs acc++ptc x)):OwnT w' B v' (acc++[x]):=by
  unfold OwnT
  have:ptcs (acc++[x])=ptcs acc++ptc x:=by unfold ptcs;rw [List.flatMap_append];simp
  rw [this]
  simpa using h
theorem OwnT.base {w:World} {B B':Nat} {v:Value} {xs:List PN} (h:OwnT w B v xs) (hb:B'≤B):OwnT w B' v xs:=own_base h hb
theorem infoT:(Tryz.prog.info? 121).map (fun i=>(i.zero,i.size,i.bytes))=some (some (.agg #[.int .i32 0,.int .i64 0,.string ByteArray.empty,.bool false]),4,40):=by kernel_rfl
theorem info_partsT {i:Option TypeInfo} {z:Value} {s b:Nat} (h:i.map (fun i=>(i.zero,i.size,i.bytes))=some (some z,s,b)):∃ i0,i=some i0∧i0.zero=some z∧i0.size=s∧i0.bytes=b:=by
  cases i with
  | none=>cases h
  | some i0=>simp at h;exact ⟨i0,rfl,h.1,h.2.1,h.2.2⟩
def prn (s:ByteArray):Nat→List (Int × Int)→List PN
  | _,[]=>[]
  | p,x :: l=>((x.1,s.extract p (p+x.2.toNat),decide (p+x.2.toNat=s.size)),x.2) :: prn s (p+x.2.toNat) l
theorem prn_fst (s:ByteArray):∀ (xs:List (Int × Int)) (p:Nat),(prn s p xs).map (·.1)=prt s p xs
  | [],_=>rfl
  | x :: l,p=>by simp [prn,prt,prn_fst s l]
theorem prn_len (s:ByteArray):∀ (xs:List (Int × Int)) (p:Nat),(prn s p xs).length=xs.length
  | [],_=>rfl
  | x :: l,p=>by simp [prn,prn_len s l]
theorem prn_snoc {enc:Int} {s:ByteArray} {x:Int × Int}:∀ {l1:List (Int × Int)} {q p:Nat},Chain enc s q l1 p →
    prn s q (l1++[x])=prn s q l1++[((x.1,s.extract p (p+x.2.toNat),decide (p+x.2.toNat=s.size)),x.2)]
  | [],q,p,h=>by
    have h:q=p:=h
    subst h;rfl
  | y :: l,q,p,h=>by
    have:=prn_snoc (x:=x) h.2.2
    simp [prn,this]
def PartsPost (enc:Int) (s:ByteArray) (w:World) (e:Ending) (w':World):Prop:=∃ v xs,e=.returned v∧Chain enc s 0 xs s.size∧xs.length≤s.size∧OwnT w' w.heap.size v (prn s 0 xs)∧Fresh w w'
def PtRel (enc:Int) (s:ByteArray) (xs:List (Int × Int)) (w:World) (out at_ i:Value) (wr:World):Prop :=
  ∃ (l1 l2:List (Int × Int)) (p:Nat),xs=l1++l2∧i=.int .i64 (l1.length:Nat)∧at_=.int .i64 (p:Nat)∧p≤s.size∧Chain enc s 0 l1 p∧Chain enc s p l2 s.size∧OwnT wr w.heap.size out (prn s 0 l1)∧Fresh w wr
set_option maxHeartbeats 1600000 in
set_option maxRecDepth 100000 in
theorem parts_any (enc:Int) (s:ByteArray) (h0:0≤enc) (h8:enc≤8) (hs:s.size≤100000) (w:World):Calls Tryz.prog 50 #[.int .i64 enc,.string s] w (PartsPost enc s w):=by
  obtain ⟨i0,hi0,hz0,hz1,hz2⟩:=info_partsT infoT
  go_enter Tryz.func50,Tryz.ntmps50
  go_wp2_with fail
  refine (pieces_any enc s h0 h8 (by omega) w).mono ?_
  rintro e w1 ⟨v,xs,rfl,hown,hch,hxl,hf1⟩
  have HCH:=Lib.hid hch
  rcases hown.sl with ⟨hx0,ao,cp,rfl⟩ | ⟨hxp,g,cp,rfl,hg,hcell⟩
  · subst hx0
    have hs0:s.size=0:=by have:0=s.size:=hch;omega
    clear hch
    go_wp2
    refine wp_loop_rounds 1 ?_
    rw [rounds_succ]
    go_wp2
    go_ret
    exact ⟨_,[],rfl,HCH.out,Nat.zero_le _,OwnT.nil _ _,hf1⟩
  have HCELL:=Lib.hid hcell
  obtain ⟨n,hn⟩:∃ n,xs.length=n:=⟨_,rfl⟩
  have HN:=Lib.hid hn
  have HXL:=Lib.hid hxl
  rw [hn] at hxp ⊢
  have hnn:n≤100000:=by omega
  clear hcell hn hch hown hxl
  go_wp2
  go_loopw [5,6,13] (fun out at_ i wr=>PtRel enc s xs w1 out at_ i wr) (fun _ _ i _=>n - (intOf i).toNat)
  case atStart=>exact ⟨[],xs,0,rfl,rfl,rfl,Nat.zero_le _,rfl,HCH.out,OwnT.nil _ _,Fresh.refl _⟩
  case round =>
    obtain ⟨l1,l2,p,hx12,rfl,rfl,hp,hc1,hc2,hown,hf⟩:=hrel
    have HX:=Lib.hid hx12
    have HC1:=Lib.hid hc1
    have HC2:=Lib.hid hc2
    have hln:l1.length+l2.length=n:=by rw [← HN.out,hx12];simp
    clear hx12 hc1 hc2
    cases l2 with
    | nil =>
      have hk0:l1.length=n:=by simpa using hln
      have hxe:xs=l1:=by have:=HX.out;simpa using this
      have hps:p=s.size:=HC2.out
      have HP:Hid (OwnT wr w1.heap.size _ (prn s 0 xs)):=Lib.hid (by rw [hxe];exact hown)
      have hk1:¬ (l1.length:Int)<(n:Int):=by omega
      clear hown hln hps hxe
      go_wp2
      go_ret
      exact ⟨_,xs,rfl,HCH.out,HXL.out,HP.out.base hf1.size,hf1.trans hf⟩
    | cons x l2 =>
      obtain ⟨hlt,hx,_⟩:=HC2.out
      have hst:=next_step h0 h8 hlt
      rw [hx] at hst
      clear hx
      have hk:l1.length<n:=by simp at hln;omega
      have hcc:=HCELL.out l1.length (by rw [HN.out];exact hk)
      have hxk:xs[l1.length]'(by rw [HN.out];exact hk)=x:=by
        have:=HX.out
        subst this
        simp
      rw [hxk] at hcc
      obtain ⟨r,m⟩:=x
      obtain ⟨cA,cB⟩:=hcc
      have dA:=(Below.cell hf (p:=⟨g,l1.length * 2,none⟩) hg).trans cA
      have dB:=(Below.cell hf (p:=⟨g,l1.length * 2+1,none⟩) hg).trans cB
      simp only at dA dB hst
      obtain ⟨k,hkk⟩:∃ k,l1.length=k:=⟨_,rfl⟩
      rw [hkk] at dA dB hk ⊢
      have HK:=Lib.hid hkk
      obtain ⟨q,hq⟩:∃ q:Nat,(q:Int)=(p:Int)+m:=⟨(p+m).toNat,by omega⟩
      have hq2:p+m.toNat=q:=by omega
      have HQ:=Lib.hid hq2
      have hqs:q≤s.size:=by omega
      obtain ⟨m1,m4,_⟩:=hst
      have e1:IntKind.i64.wrap ((p:Int)+m)=(q:Int):=by rw [IntKind.wrap_i64];omega
      have e2:IntKind.i64.wrap ((q:Int) - m)=(p:Int):=by rw [IntKind.wrap_i64];omega
      clear cA cB hxk hkk hln hq2
      have hpqm:p≤q∧(q:Int) - m=(p:Int):=by omega
      have hpq1:p≤q:=hpqm.1
      have hkp:k≤100000:=by omega
      have hown3:=hown
      unfold OwnT at hown3
      rw [prn_len,HK.out] at hown3
      have HD:Hid (∀ o v' w',o=(.cells #[.int .i32 r,.int .i64 m] 119:Obj)→w'.ownsRow w1.heap.size 121 4 v' (k+1) (ptcs (prn s 0 l1)++[.int .i32 r,.int .i64 m,.string (s.extract p q),.bool (decide (q=s.size))])→Fresh w1 w'→PtRel enc s xs w1 v' (.int .i64 (q:Nat)) (.int .i64 ((k+1:Nat):Int)) w'):=Lib.hid (fun o v' w' _ ho hf'=>by
        have hsn:=prn_snoc (x:=(r,m)) HC1.out
        simp only [HQ.out] at hsn
        refine ⟨l1++[(r,m)],l2,q,by rw [HX.out];simp,by rw [List.length_append,HK.out];rfl,rfl,hqs,?_,?_,?_,hf'⟩
        · have:=HC1.out.push hlt
          have e:=HC2.out.2.1
          rw [e] at this
          simpa [HQ.out] using this
        · have:=HC2.out.2.2
          simpa [HQ.out] using this
        · rw [hsn]
          refine OwnT.push ?_
          rw [prn_len,HK.out]
          exact ho)
      clear hq hpqm
      go_wp2
      clear e1
      by_cases hqe:q=s.size
      · skip
        have hb:((q:Int) == (s.size:Int))=true:=by simp [hqe]
        have hd:decide (q=s.size)=true:=decide_eq_true hqe
        rw [hd] at HD
        clear hd hqe
        go_region_law (refine step_append_new rfl (.tmp 21) (.tmp 35) 111 rfl (wr.alloc (.cells #[.int .i32 r,.int .i64 m] 119)) w1.heap.size 121 i0 _ 4 40 Tryz.underlying111 hi0 hz0 hz1 hz2 rfl (by decide) _ _ _ (hown3.alloc _) 1 [.int .i32 r,.int .i64 m,.string (s.extract p q),.bool true] rfl (by intro u hu;simp at hu;rcases hu with rfl | rfl | rfl | rfl <;> rfl) (by unfold maxLen;omega) (by omega) (by have:=hf.size;simp;omega) (by simp [Act.eval,Act.put]) (by simp [Act.eval,Act.put]) (by repeat (first | exact Fresh.refl _ | refine Fresh.drew ?_)) ?_;intro v' w' hown' hgrow hblk)
        all_goals
          have hf':Fresh w1 w':=Below.grown (hf.trans (b:=wr) (by repeat (first | exact ((Fresh.refl _).alloc _).alloc _ | refine Fresh.drew ?_))) hgrow (by have:=hf.size;simp;omega) (fun g hg=>(hown.lt g hg).1)
          have HP:=Lib.hid (HD.out _ v' w' rfl hown' hf')
          clear hown' hgrow hblk hown hown3 hf'
          go_wp2
          exact ⟨HP.out,by simp [intOf];omega⟩
      · skip
        have hb:((q:Int) == (s.size:Int))=false:=by simp only [beq_eq_false_iff_ne];omega
        have hd:decide (q=s.size)=false:=decide_eq_false hqe
        rw [hd] at HD
        clear hd hqe
        go_region_law (refine step_append_new rfl (.tmp 21) (.tmp 35) 111 rfl (wr.alloc (.cells #[.int .i32 r,.int .i64 m] 119)) w1.heap.size 121 i0 _ 4 40 Tryz.underlying111 hi0 hz0 hz1 hz2 rfl (by decide) _ _ _ (hown3.alloc _) 1 [.int .i32 r,.int .i64 m,.string (s.extract p q),.bool false] rfl (by intro u hu;simp at hu;rcases hu with rfl | rfl | rfl | rfl <;> rfl) (by unfold maxLen;omega) (by omega) (by have:=hf.size;simp;omega) (by simp [Act.eval,Act.put]) (by simp [Act.eval,Act.put]) (by repeat (first | exact Fresh.refl _ | refine Fresh.drew ?_)) ?_;intro v' w' hown' hgrow hblk)
        all_goals
          have hf':Fresh w1 w':=Below.grown (hf.trans (b:=wr) (by repeat (first | exact ((Fresh.refl _).alloc _).alloc _ | refine Fresh.drew ?_))) hgrow (by have:=hf.size;simp;omega) (fun g hg=>(hown.lt g hg).1)
          have HP:=Lib.hid (HD.out _ v' w' rfl hown' hf')
          clear hown' hgrow hblk hown hown3 hf'
          go_wp2
          exact ⟨HP.out,by simp [intOf];omega⟩
open Go.RowKit
def WrAt (w:World) (gw:Nat) (out:ByteArray) (o:List Int) (jf:Value):Prop:=∃ v,Blk w gw 115 #[.string out,v,jf]∧OwnR w (gw+1) v o
def WrPost (gw:Nat) (w:World) (out:ByteArray) (o:List Int) (jf:Value) (e:Ending) (w':World):Prop:=e=.returned (.tuple #[])∧WrAt w' gw out o jf∧Mut (fun k=>k=gw) w w'
def jfA:Value:=.func (.func 51) #[] #[]
def jfT:Value:=.func (.func 21) #[] #[]
theorem wr_keep {w w4:World} {gw:Nat} {a b c:Value} (hg:gw<w.heap.size) (c0:w.cell? ⟨gw,0,none⟩=some a) (c1:w.cell? ⟨gw,1,none⟩=some b) (c2:w.cell? ⟨gw,2,none⟩=some c) (f0:w.frozen? ⟨gw,0,none⟩=false) (h:Fresh w.drew w4) :
    Fresh w w4∧w4.cell? ⟨gw,0,none⟩=some a∧w4.cell? ⟨gw,1,none⟩=some b∧w4.cell? ⟨gw,2,none⟩=some c∧w4.frozen? ⟨gw,0,none⟩=false :=
  ⟨(Fresh.refl _).drew.trans h,(Below.cell h (p:=⟨gw,0,none⟩) hg).trans c0,(Below.cell h (p:=⟨gw,1,none⟩) hg).trans c1,(Below.cell h (p:=⟨gw,2,none⟩) hg).trans c2,(Below.frozen h (p:=⟨gw,0,none⟩) hg).trans f0⟩
theorem wr_keep2 {w w4:World} {gw:Nat} {a b c:Value} (hg:gw<w.heap.size) (c0:w.cell? ⟨gw,0,none⟩=some a) (c1:w.cell? ⟨gw,1,none⟩=some b) (c2:w.cell? ⟨gw,2,none⟩=some c) (f0:w.frozen? ⟨gw,0,none⟩=false) (h:Fresh w w4) :
    Fresh w w4∧w4.cell? ⟨gw,0,none⟩=some a∧w4.cell? ⟨gw,1,none⟩=some b∧w4.cell? ⟨gw,2,none⟩=some c∧w4.frozen? ⟨gw,0,none⟩=false :=
  ⟨h,(Below.cell h (p:=⟨gw,0,none⟩) hg).trans c0,(Below.cell h (p:=⟨gw,1,none⟩) hg).trans c1,(Below.cell h (p:=⟨gw,2,none⟩) hg).trans c2,(Below.frozen h (p:=⟨gw,0,none⟩) hg).trans f0⟩
theorem wr_done {gw:Nat} {w w4:World} {out out':ByteArray} {v jf:Value} (hb:Blk w gw 115 #[.string out,v,jf]) (h:Fresh w w4) :
    WrAt ((w4.setCell ⟨gw,0,none⟩ (.string out')).setCell ⟨gw,1,none⟩ (.slice none 0 0)) gw out' [] jf∧Mut (fun k=>k=gw) w ((w4.setCell ⟨gw,0,none⟩ (.string out')).setCell ⟨gw,1,none⟩ (.slice none 0 0)):=by
  refine ⟨⟨_,((hb.keep h).set (i:=0) (u:=.string out')).set (i:=1) (u:=.slice none 0 0),World.ownsRow_nil _ _ _ _⟩,?_⟩
  exact ((h.mut (fun k=>k=gw)).setCell (p:=⟨gw,0,none⟩) (.inl rfl) _).setCell (p:=⟨gw,1,none⟩) (.inl rfl) _
theorem joinS_sz2 {o:List Int} (h:o.length≤100000):(joinS o).size≤400000:=by have:=joinS_size o;omega
set_option maxHeartbeats 3200000 in
set_option maxRecDepth 100000 in
theorem flushA_any (gw:Nat) (out:ByteArray) (o:List Int) (w:World) (ho:o.length≤100000) (hs:out.size≤10000000) (h:WrAt w gw out o jfA) :
    Calls Tryz.prog 110 #[.pointer (some ⟨gw,0,none⟩)] w (WrPost gw w (out++joinS o) [] jfA):=by
  obtain ⟨v,hblk,hown⟩:=h
  have hg:=hblk.lt
  have c0:w.cell? ⟨gw,0,none⟩=some (.string out):=by rw [hblk.cell];rfl
  have c1:w.cell? ⟨gw,1,none⟩=some v:=by rw [hblk.cell];rfl
  have c2:w.cell? ⟨gw,2,none⟩=some jfA:=by rw [hblk.cell];rfl
  have f0:w.frozen? ⟨gw,0,none⟩=false:=hblk.frozen 0
  have f1:w.frozen? ⟨gw,1,none⟩=false:=hblk.frozen 1
  have HB:=Lib.hid hblk
  have HJN:=fun (W:World) (h:Sl W v o)=>utfJoin_any v o W h (by omega)
  have hjs:=joinS_sz2 ho
  generalize hJ:joinS o=J at HJN hjs ⊢
  clear hJ
  have hns:¬ 9223372036854775807<out.size+J.size:=by omega
  have HO:=Lib.hid hown
  have HJ:=Lib.hid HJN
  unfold jfA at c2
  clear hblk hown HJN
  go_enter Tryz.func110,Tryz.ntmps110
  go_wp2_with fail
  go_region_law (first
      | (go_simp;go_at_call 51;refine (asIs_any _ _).mono ?_;rintro e w3 ⟨rfl,rfl⟩)
      | (go_simp;go_at_call 162;refine (HJ.out _ ((HO.out.keep (by repeat (first | exact Fresh.refl _ | refine Fresh.drew ?_))).sl)).mono ?_;rintro e w4 ⟨rfl,h4⟩;obtain ⟨h5,d0,d1,d2,e0⟩:=wr_keep hg c0 c1 c2 f0 h4))
  all_goals
    have e1:(w4.setCell ⟨gw,0,none⟩ (.string (out++J))).frozen? ⟨gw,1,none⟩=false:=by rw [World.frozen?_setCell];exact (Below.frozen h5 (p:=⟨gw,1,none⟩) hg).trans f1
    go_wp2
    have hd:=wr_done (out':=out++J) HB.out h5
    go_end0
    exact ⟨rfl,hd.1,hd.2⟩
set_option maxHeartbeats 3200000 in
set_option maxRecDepth 100000 in
theorem flushT_any (gw:Nat) (out:ByteArray) (o:List Int) (w:World) (ho:o.length≤100000) (h32:In32 o) (hs:out.size≤10000000) (h:WrAt w gw out o jfT) :
    Calls Tryz.prog 110 #[.pointer (some ⟨gw,0,none⟩)] w (WrPost gw w (out++joinS (tog o)) [] jfT):=by
  obtain ⟨v,hblk,hown⟩:=h
  have hg:=hblk.lt
  have c0:w.cell? ⟨gw,0,none⟩=some (.string out):=by rw [hblk.cell];rfl
  have c1:w.cell? ⟨gw,1,none⟩=some v:=by rw [hblk.cell];rfl
  have c2:w.cell? ⟨gw,2,none⟩=some jfT:=by rw [hblk.cell];rfl
  have f0:w.frozen? ⟨gw,0,none⟩=false:=hblk.frozen 0
  have f1:w.frozen? ⟨gw,1,none⟩=false:=hblk.frozen 1
  have HB:=Lib.hid hblk
  have htl:=tog_len2 o
  have HT:=Lib.hid (fun (W:World) (h:Sl W v o)=>ctog_any v o W h ho h32)
  have HJN:=fun (u:Value) (W:World) (h:Sl W u (tog o))=>utfJoin_any u (tog o) W h (by omega)
  have hjs:=joinS_sz2 (o:=tog o) (by omega)
  generalize hJ:joinS (tog o)=J at HJN hjs ⊢
  clear hJ
  have hns:¬ 9223372036854775807<out.size+J.size:=by omega
  have HO:=Lib.hid hown
  have HJ:=Lib.hid HJN
  unfold jfT at c2
  clear hblk hown HJN
  go_enter Tryz.func110,Tryz.ntmps110
  go_wp2_with fail
  go_region_law (first
      | (go_simp;go_at_call 21;refine (HT.out _ ((HO.out.keep (by repeat (first | exact Fresh.refl _ | refine Fresh.drew ?_))).sl)).mono ?_;rintro e w3 ⟨u,rfl,hu,h3⟩;obtain ⟨h5,d0,d1,d2,e0⟩:=wr_keep hg c0 c1 c2 f0 h3)
      | (go_simp;go_at_call 162;refine (HJ.out _ _ hu.sl).mono ?_;rintro e w4 ⟨rfl,h4⟩;obtain ⟨h6,d3,d4,d5,e3⟩:=wr_keep2 (Nat.lt_of_lt_of_le hg h5.size) d0 d1 d2 e0 h4))
  all_goals
    have e1:(w4.setCell ⟨gw,0,none⟩ (.string (out++J))).frozen? ⟨gw,1,none⟩=false:=by rw [World.frozen?_setCell];exact (Below.frozen (h5.trans h6) (p:=⟨gw,1,none⟩) hg).trans f1
    go_wp2
    have hd:=wr_done (out':=out++J) HB.out (h5.trans h6)
    go_end0
    exact ⟨rfl,hd.1,hd.2⟩
open Go.RowKit
def Flushes (jf:Value) (J:List Int→List Int):Prop:=(∀ o,(J o).length≤o.length)∧∀ (gw:Nat) (out:ByteArray) (o:List Int) (w:World),o.length≤100000→In32 o→out.size≤10000000→WrAt w gw out o jf →
  Calls Tryz.prog 110 #[.pointer (some ⟨gw,0,none⟩)] w (WrPost gw w (out++joinS (J o)) [] jf)
theorem flushesA:Flushes jfA id:=⟨fun _=>Nat.le_refl _,fun gw out o w h1 _ h3 h4=>flushA_any gw out o w h1 h3 h4⟩
theorem flushesT:Flushes jfT tog:=⟨tog_len2,fun gw out o w h1 h2 h3 h4=>flushT_any gw out o w h1 h2 h3 h4⟩
theorem WrAt.mut {S:Nat→Prop} {w w':World} {gw:Nat} {out:ByteArray} {o:List Int} {jf:Value} (h:WrAt w gw out o jf) (hf:Mut S w w') (hn:∀ k,gw≤k→¬ S k):WrAt w' gw out o jf:=by
  obtain ⟨v,h1,h2⟩:=h
  exact ⟨v,h1.mut hf (hn gw (Nat.le_refl _)),h2.mut hf fun k hk=>hn k (by omega)⟩
theorem WrAt.fresh {w w':World} {gw:Nat} {out:ByteArray} {o:List Int} {jf:Value} (h:WrAt w gw out o jf) (hf:Fresh w w'):WrAt w' gw out o jf:=h.mut (hf.mut fun _=>False) (fun _ _ q=>q)
theorem WrAt.set {w w':World} {gw:Nat} {out:ByteArray} {o:List Int} {jf:Value} (h:WrAt w gw out o jf) (hf:Fresh w w') (out':ByteArray):WrAt (w'.setCell ⟨gw,0,none⟩ (.string out')) gw out' o jf:=by
  obtain ⟨v,h1,h2⟩:=h.fresh hf
  exact ⟨v,h1.set (i:=0) (u:=.string out'),h2.mut ((Mut.refl (fun k=>k=gw) _).setCell (p:=⟨gw,0,none⟩) (.inl rfl) _) fun k hk=>by omega⟩
theorem partcells (w:World) (p:Part) (n:Int):Blk (w.alloc (.cells #[.int .i32 p.1,.int .i64 n,.string p.2.1,.bool p.2.2] 121)) w.heap.size 121 #[.int .i32 p.1,.int .i64 n,.string p.2.1,.bool p.2.2]:=Blk.new _ _ _
theorem wr_keep4 {w w4:World} {gw b1:Nat} {a b:Value} (hg:gw<w.heap.size) (hb:b1<w.heap.size) (c0:w.cell? ⟨gw,0,none⟩=some a) (c1:w.cell? ⟨b1,2,none⟩=some b) (f0:w.frozen? ⟨gw,0,none⟩=false) (h:Fresh w.drew w4) :
    Fresh w w4∧w4.cell? ⟨gw,0,none⟩=some a∧w4.cell? ⟨b1,2,none⟩=some b∧w4.frozen? ⟨gw,0,none⟩=false :=
  ⟨(Fresh.refl _).drew.trans h,(Below.cell h (p:=⟨gw,0,none⟩) hg).trans c0,(Below.cell h (p:=⟨b1,2,none⟩) hb).trans c1,(Below.frozen h (p:=⟨gw,0,none⟩) hg).trans f0⟩
set_option maxHeartbeats 3200000 in
set_option maxRecDepth 100000 in
theorem hide_any (jf:Value) (J:List Int→List Int) (HF:Flushes jf J) (gw:Nat) (out:ByteArray) (o:List Int) (p:Part) (n:Int) (w:World) (ho:o.length≤100000) (h32:In32 o) (hs:out.size≤10000000) (hp:p.2.1.size≤100000) (h:WrAt w gw out o jf) :
    Calls Tryz.prog 109 #[.pointer (some ⟨gw,0,none⟩),partV p n] w (WrPost gw w (out++joinS (J o)++joinS (esc p.2.1)) [] jf):=by
  obtain ⟨r,b,l⟩:=p
  unfold partV
  simp only at hp ⊢
  have hbx:=partcells w (r,b,l) n
  simp only at hbx
  have hg:gw<w.heap.size:=by obtain ⟨v,h1,_⟩:=h;exact h1.lt
  have HX:=Lib.hid (HF.2 gw out o (w.alloc (.cells #[.int .i32 r,.int .i64 n,.string b,.bool l] 121)) ho h32 hs (h.fresh ((Fresh.refl _).alloc _)))
  have hjl:=HF.1 o
  have hjs:=joinS_sz2 (o:=J o) (by omega)
  generalize hout:out++joinS (J o)=out1 at HX ⊢
  have hs1:out1.size≤10400000:=by rw [← hout,ByteArray.size_append];omega
  have hes:=joinS_size (esc b)
  rw [esc_len] at hes
  have HE:=Lib.hid (fun W=>escaped_any b hp W)
  generalize joinS (esc b)=E at HE hes ⊢
  have hns:¬ 9223372036854775807<out1.size+E.size:=by omega
  clear hout hjs hjl HF h
  go_enter Tryz.func109,Tryz.ntmps109
  go_wp2_with fail
  refine HX.out.mono ?_
  rintro e w1 ⟨rfl,hat,hm⟩
  have HA:=Lib.hid hat
  obtain ⟨v,hblk,hown⟩:=hat
  have hg1:=hblk.lt
  have c0:w1.cell? ⟨gw,0,none⟩=some (.string out1):=by rw [hblk.cell];rfl
  have f0:w1.frozen? ⟨gw,0,none⟩=false:=hblk.frozen 0
  have hb1:=hbx.mut hm (by show ¬ _=gw;omega)
  have hbl1:=hb1.lt
  have c1:w1.cell? ⟨w.heap.size,2,none⟩=some (.string b):=by rw [hb1.cell];rfl
  clear hblk hown hb1 hbx
  go_wp2_with fail
  go_region_law (first
      | (go_simp;go_at_call 161;refine (HE.out _).mono ?_;rintro e w4 ⟨rfl,h4⟩;obtain ⟨h5,d0,d1,e0⟩:=wr_keep4 hg1 hbl1 c0 c1 f0 h4))
  all_goals
    have hd:=HA.out.set h5 (out1++E)
    have hf:Mut (fun k=>k=gw) w (w4.setCell ⟨gw,0,none⟩ (.string (out1++E))):=(((((Fresh.refl w).alloc _).andMut hm).andFresh h5).setCell (p:=⟨gw,0,none⟩) (.inl rfl) _)
    go_wp2
    go_end0
    exact ⟨rfl,hd,hf⟩
open Go.RowKit
def ShPost (gw:Nat) (w:World) (out:ByteArray) (o:List Int) (jf:Value) (e:Ending) (w':World):Prop:=e=.returned (.tuple #[])∧WrAt w' gw out o jf∧Below gw w w'
theorem WrPost.sh {gw:Nat} {w:World} {out:ByteArray} {o:List Int} {jf:Value} {e:Ending} {w':World} (hg:gw≤w.heap.size) (h:WrPost gw w out o jf e w'):ShPost gw w out o jf e w' :=
  ⟨h.1,h.2.1,h.2.2.below hg fun k hk q=>by have:k=gw:=q;omega⟩
theorem own_slice {w:World} {B:Nat} {e:TypeId} {size:Nat} {v:Value} {n:Nat} {xs:List Value} (h:w.ownsRow B e size v n xs) (hn:0<n):∃ g cap,v=.slice (some ⟨g,0,none⟩) n cap:=by
  obtain ⟨_,⟨_,h0⟩ | ⟨g,cap,cur,hv,_⟩⟩:=h
  · omega
  · exact ⟨g,cap,hv⟩
theorem show_keep {W W2 W':World} {gw:Nat} {o:Obj} {v:Value} {xs:List Int} {cs:Array Value} (h1:Blk W gw 115 cs) (h2:OwnR W (gw+1) v xs) (hf:Fresh (W.alloc o) W2) (hg:W2.grownBy W' v.ownBlock):Blk W' gw 115 cs:=by
  have h3:=(h1.keep ((Fresh.refl _).alloc o)).keep hf
  exact (hg.block gw h3.lt (fun e=>by have:=(h2.lt gw e.symm).1;omega)).trans h3
theorem show_below {w W W2 W':World} {gw:Nat} {o:Obj} {v:Value} {xs:List Int} (h1:Below gw w W) (hgw:gw<W.heap.size) (h2:OwnR W (gw+1) v xs) (hf:Fresh (W.alloc o) W2) (hg:W2.grownBy W' v.ownBlock):Below gw w W':=by
  have h3:Below gw w W2:=(h1.alloc (by omega) o).trans (hf.below.mono (by simp;omega))
  exact h3.grown hg (by have:=hf.size;simp at this;omega) fun k hk=>by have:=(h2.lt k hk).1;omega
set_option maxHeartbeats 3200000 in
set_option maxRecDepth 100000 in
theorem show_any (jf:Value) (gw:Nat) (out:ByteArray) (o:List Int) (p:Part) (n:Int) (w:World) (ho:o.length≤100000) (h:WrAt w gw out o jf) :
    Calls Tryz.prog 54 #[.pointer (some ⟨gw,0,none⟩),partV p n] w (ShPost gw w out (o++[p.1]) jf):=by
  obtain ⟨i0,hi0,hz0,hz1,hz2⟩:=info_parts info32
  obtain ⟨r,b,l⟩:=p
  unfold partV
  simp only
  obtain ⟨v,hblk,hown⟩:=h
  have hg:=hblk.lt
  have hblk1:=hblk.keep ((Fresh.refl w).alloc (.cells #[.int .i32 r,.int .i64 n,.string b,.bool l] 121))
  have hown1:=hown.keep ((Fresh.refl w).alloc (.cells #[.int .i32 r,.int .i64 n,.string b,.bool l] 121))
  have c1:w.cell? ⟨gw,1,none⟩=some v:=by rw [hblk.cell];rfl
  have HB:=Lib.hid hblk1
  have HO:=Lib.hid hown1
  have hown3:=hown1
  unfold OwnR at hown3
  clear hblk hown hblk1 hown1
  go_enter Tryz.func54,Tryz.ntmps54
  go_wp2_with fail
  go_region_law (refine step_append_new rfl (.tmp 8) (.tmp 12) 50 rfl (w.alloc (.cells #[.int .i32 r,.int .i64 n,.string b,.bool l] 121)) (gw+1) 21 i0 (.int .i32 0) 1 4 Tryz.underlying50 hi0 hz0 hz1 hz2 rfl (by decide) _ _ _ hown3 1 [.int .i32 r] rfl (by intro u hu;simp at hu;subst hu;rfl) (by unfold maxLen;omega) (by omega) (by simp;omega) (by simp [Act.eval,Act.put]) (by simp [Act.eval,Act.put]) (by repeat (first | exact Fresh.refl _ | refine Fresh.drew ?_)) ?_;intro v' w' hown' hgrow hblk;obtain ⟨g',cap',rfl⟩:=own_slice hown' (by omega);have hb2:=show_keep HB.out HO.out (by repeat (first | exact Fresh.refl _ | refine Fresh.drew ?_)) hgrow;have d1:w'.cell? ⟨gw,1,none⟩=some v:=(by rw [hb2.cell];rfl);have e1:w'.frozen? ⟨gw,1,none⟩=false:=hb2.frozen 1)
  all_goals
    have hbel:=show_below (w:=w) ((Below.refl gw w).alloc (by omega) _) (by simp;omega) HO.out (by repeat (first | exact Fresh.refl _ | refine Fresh.drew ?_)) hgrow
    have hbe2:=hbel.setCell (p:=⟨gw,1,none⟩) (Nat.le_refl _) (.slice (some ⟨g',0,none⟩) (o.length+1) cap')
    have hat:WrAt (w'.setCell ⟨gw,1,none⟩ (.slice (some ⟨g',0,none⟩) (o.length+1) cap')) gw out (o++[r]) jf:=⟨_,hb2.set (i:=1),OwnR.mut (OwnR.push hown') ((Mut.refl (fun k=>k=gw) _).setCell (p:=⟨gw,1,none⟩) (.inl rfl) _) fun k hk q=>by omega⟩
    go_wp2
    go_end0
    exact ⟨rfl,hat,hbe2⟩
open Go.RowKit
def stO (J:List Int→List Int) (hid:Bool) (out:ByteArray) (o:List Int) (p:Part):ByteArray:=if hid=true then out++joinS (J o)++joinS (esc p.2.1) else out
def stL (hid:Bool) (o:List Int) (p:Part):List Int:=if hid=true then [] else o++[p.1]
theorem WrAt.slice {w:World} {gw:Nat} {out:ByteArray} {o:List Int} {jf:Value} (h:WrAt w gw out o jf):∃ a cap,Blk w gw 115 #[.string out,.slice a o.length cap,jf]:=by
  obtain ⟨v,h1,h2⟩:=h
  obtain ⟨h3,⟨rfl,h4⟩ | ⟨g,cap,cur,rfl,_⟩⟩:=h2
  · exact ⟨none,0,by rw [h4];exact h1⟩
  · exact ⟨_,_,h1⟩
set_option maxHeartbeats 3200000 in
set_option maxRecDepth 100000 in
theorem mark_any (jf:Value) (J:List Int→List Int) (HF:Flushes jf J) (gw:Nat) (out:ByteArray) (o:List Int) (p:Part) (n:Int) (w:World) (ho:o.length≤100000) (h32:In32 o) (hs:out.size≤10000000) (hp:p.2.1.size≤100000) (h:WrAt w gw out o jf) :
    Calls Tryz.prog 57 #[.pointer (some ⟨gw,0,none⟩),partV p n] w (ShPost gw w (stO J (o.isEmpty && decide (clsI p.1 ≠ 0)) out o p) (stL (o.isEmpty && decide (clsI p.1 ≠ 0)) o p) jf):=by
  have h1:=h.fresh ((Fresh.refl w).alloc (.cells #[.int .i32 p.1,.int .i64 n,.string p.2.1,.bool p.2.2] 121))
  have HH:=Lib.hid (hide_any jf J HF gw out o p n _ ho h32 hs hp h1)
  have HS:=Lib.hid (show_any jf gw out o p n _ ho h1)
  obtain ⟨a,cap,hblk⟩:=h.slice
  have hg:=hblk.lt
  have c1:w.cell? ⟨gw,1,none⟩=some (.slice a o.length cap):=by rw [hblk.cell];rfl
  have hF1:Below gw w (w.alloc (.cells #[.int .i32 p.1,.int .i64 n,.string p.2.1,.bool p.2.2] 121)):=(Below.refl gw w).alloc (by omega) _
  have HF1:=Lib.hid hF1
  obtain ⟨r,b,l⟩:=p
  unfold partV at HH HS ⊢
  simp only at HH HS HF1 ⊢
  clear h h1 hblk HF hF1
  cases o with
  | nil =>
    simp only [List.length_nil] at c1
    by_cases hc:clsI r=0
    · have e1:((([]:List Int).isEmpty) && decide (clsI r ≠ 0))=false:=by simp [hc]
      rw [e1]
      clear e1
      go_enter Tryz.func57,Tryz.ntmps57
      go_wp2_with (first | (go_at_call 25;refine (class_any _ _).mono ?_;rw [hc];rintro e w9 ⟨rfl,rfl⟩))
      refine HS.out.mono ?_
      rintro e w1 ⟨rfl,hat,hm⟩
      go_wp2
      go_end0
      exact ⟨rfl,hat,HF1.out.trans hm⟩
    · have e1:((([]:List Int).isEmpty) && decide (clsI r ≠ 0))=true:=by simp [hc]
      rw [e1]
      clear e1
      have hcb:(clsI r == 0)=false:=by simp [hc]
      generalize hcc:clsI r=c at hcb hc
      have HC:=Lib.hid hcc
      clear hcc
      go_enter Tryz.func57,Tryz.ntmps57
      go_wp2_with (first | (go_at_call 25;refine (class_any _ _).mono ?_;rw [HC.out];rintro e w9 ⟨rfl,rfl⟩))
      refine HH.out.mono ?_
      intro e w1 hpost
      obtain ⟨rfl,hat,hm⟩:=hpost.sh (by simp;omega)
      go_wp2
      go_end0
      exact ⟨rfl,hat,HF1.out.trans hm⟩
  | cons x o =>
    have e1:(((x :: o).isEmpty) && decide (clsI r ≠ 0))=false:=by simp
    rw [e1]
    clear e1
    have hz:(((x :: o).length:Int) == 0)=false:=by simp;omega
    generalize (x :: o).length=m at c1 hz
    go_enter Tryz.func57,Tryz.ntmps57
    go_wp2_with fail
    refine HS.out.mono ?_
    rintro e w1 ⟨rfl,hat,hm⟩
    go_wp2
    go_end0
    exact ⟨rfl,hat,HF1.out.trans hm⟩
end Go.Proofs.YtpmlggjhfiljmaaGreatDoor
