/- Part 34 of what the law rests on. -/
import Derived.Test.YtpmlggjhfiljmaaGreatDoorS21
import Derived.Test.YtpmlggjhfiljmaaGreatDoorS24
import Derived.Test.YtpmlggjhfiljmaaGreatDoorS31
import Derived.Test.YtpmlggjhfiljmaaGreatDoorS32
import Derived.Test.YtpmlggjhfiljmaaGreatDoorS33
set_option linter.all false
namespace Go.Proofs.YtpmlggjhfiljmaaGreatDoor
open Go.RowKit
def PathN (s:ByteArray):Prop:=1≤s.size∧s.size≤1000∧(∀ b ∈ s.data.toList,b.toNat ≠ 47)∧s ≠ dotS∧s ≠ dotsS
theorem splL_plain:∀ (l:List UInt8),(∀ b ∈ l,b.toNat ≠ 47)→splL l=[l]
  | [],_=>rfl
  | c :: l,h=>by
    unfold splL
    rw [if_neg (h c (by simp)),splL_plain l (fun b hb=>h b (by simp [hb]))]
theorem slash_size (s:ByteArray):(slashS++s).size=s.size+1:=by
  rw [ByteArray.size_append]
  show 1+_=_
  omega
theorem slash_rest (s:ByteArray):restP (slashS++s)=s:=by
  unfold restP
  rw [slash_size]
  exact ByteArray.extract_append_eq_right rfl (by show _=1+_;omega)
theorem slash_head (s:ByteArray):((slashS++s).data.toList.getD 0 0).toNat=47:=by
  have:(slashS++s).data.toList=47 :: s.data.toList:=by rw [ByteArray.data_append,Array.toList_append];rfl
  rw [this];rfl
theorem badN_one {s:ByteArray} (h:PathN s):¬ badN [s]=true:=by
  obtain ⟨h1,h2,h3,h4,h5⟩:=h
  intro hb
  unfold badN at hb
  simp only [List.any_cons,List.any_nil,Bool.or_false,Bool.or_eq_true,beq_iff_eq] at hb
  rcases hb with (hb | hb) | hb
  · rw [toList_inj] at hb;rw [hb] at h1;exact absurd h1 (by decide)
  · exact h4 (toList_inj.1 hb)
  · exact h5 (toList_inj.1 hb)
theorem splB_one {s:ByteArray} (h:PathN s):splB s=[s]:=by
  unfold splB
  rw [splL_plain _ h.2.2.1]
  simp
theorem splitP_one {s:ByteArray} (h:PathN s):splitP (slashS++s)=.inl [s]:=by
  have h1:=h.1
  have h2:=h.2.1
  unfold splitP
  rw [slash_size,slash_rest,splB_one h,slash_head]
  rw [if_neg (by omega),if_neg (by simp),if_neg (by omega),if_neg (badN_one h),if_neg (by simp)]
theorem parT_one {enc:Int} {T:TreS} {s:ByteArray} (h:PathN s):parT enc T (slashS++s)=.inl (0,s):=by
  unfold parT
  rw [splitP_one h]
  rfl
def rootL (T:TreS):List Ent:=(T.dirs 0).getD []
theorem atR_one {enc:Int} {T:TreS} {s:ByteArray} (h:PathN s):atR enc T (slashS++s)=match (rootL T).find? (faceB enc s) with
    | none=>(0,s,ent0,5)
    | some e=>(0,s,e,0):=by
  unfold atR
  rw [parT_one h]
  rfl
theorem freshR_one {enc:Int} {T:TreS} {s:ByteArray} (h:PathN s) (hf:(rootL T).find? (faceB enc s)=none):freshR enc T (slashS++s)=(0,(rawF enc s).1,(rawF enc s).2):=by
  have h1:=h.1
  unfold freshR
  rw [atR_one h,hf]
  simp only
  rw [if_neg (by decide),if_neg (by intro q;rcases q with q | q;exact q rfl;omega)]
theorem next_le {O:Int→Bool} {fr k:Int} (hO:OutOK O) (hf:fr≤201) (h:NextIs O fr k):k≤201:=by
  obtain ⟨h1,h2,h3⟩:=h
  rcases (by omega:201<k∨k≤201) with q | q
  · have:=(hO _ (h3 201 hf q)).2;omega
  · exact q
def RNew (T:TreS) (k fr:Int) (bk:List Int):Prop:=NextIs T.out T.fr k∧fr=k∧bk=[]
theorem takes_new {T:TreS} {qt:Nat} (hb:T.bk=[]) (hO:OutOK T.out) (hf:1≤T.fr∧T.fr≤201) (hq:qt≤1000000):Takes (RNew T) T qt:=by
  intro W A p h
  rw [hb] at h
  refine (take_new W A p T.fr T.out qt h hO hf hq).mono ?_
  rintro e w' ⟨k,A',hn,hm,hg,h⟩
  have hk:=next_le hO hf.2 hn
  have h1:=hn.1
  refine ⟨k,k,[],A',⟨hn,rfl,rfl⟩,⟨by omega,by omega⟩,hm,hg,?_⟩
  rcases h with ⟨h1,h2,h3⟩ | ⟨h1,h2,h3⟩
  · exact .inl ⟨h1,h2,h3⟩
  · exact .inr ⟨h1,h2,h3.le (by omega)⟩
theorem IsT0.root {T:TreS} (h:IsT0 T):rootL T=[]:=by
  unfold rootL
  rw [h.1]
  rfl
theorem IsT0.out {T:TreS} (h:IsT0 T):OutOK T.out:=fun i hi=>by rw [h.2.2.2.1] at hi;cases hi
theorem IsT0.takes {T:TreS} {qt:Nat} (h:IsT0 T) (hq:qt≤1000000):Takes (RNew T) T qt:=takes_new h.2.2.2.2.2 h.out (by rw [h.2.2.2.2.1];omega) hq
theorem IsT0.first {T:TreS} (h:IsT0 T) {k fr:Int} {bk:List Int} (hr:RNew T k fr bk):k=1:=by
  obtain ⟨⟨h1,h2,h3⟩,_,_⟩:=hr
  rw [h.2.2.2.2.1] at h1 h3
  rcases (by omega:1<k∨k≤1) with q | q
  · have:=h3 1 (by omega) q;rw [h.2.2.2.1] at this;cases this
  · omega
open Go.RowKit
theorem pw_of {α:Type} {R:α→α→Prop} (hs:∀ x y,R x y→R y x) {L:List α} (h:L.Pairwise R):∀ {x y:α},x ∈ L→y ∈ L→x ≠ y→R x y:=by
  induction h with
  | nil=>intro x y hx;cases hx
  | cons h1 h2 ih =>
    intro x y hx hy e
    rcases List.mem_cons.1 hx with hx1 | hx1
    · rcases List.mem_cons.1 hy with hy1 | hy1
      · exact absurd (hx1.trans hy1.symm) e
      · rw [hx1];exact h1 _ hy1
    · rcases List.mem_cons.1 hy with hy1 | hy1
      · rw [hy1];exact hs _ _ (h1 _ hx1)
      · exact ih hx1 hy1 e
theorem LI.names_of {enc:Int} {L:List Item} {next:Int} (h:LI enc L next) {x y:Item} (hx:x ∈ L) (hy:y ∈ L) (hi:x.inn=y.inn) (hn:x.e.name=y.e.name):x=y:=by
  rcases Classical.em (x=y) with q | q
  · exact q
  · exact absurd hn (pw_of (R:=fun x y:Item=>x.inn=y.inn→x.e.name ≠ y.e.name) (fun a b r e f=>r e.symm f.symm) h.names hx hy q hi)
def takenL (l:List Ent) (raw:ByteArray):List Int:=(l.filter fun e=>decide (hashI e.name=hashI raw)).map (·.short)
theorem mem_takenL {l:List Ent} {raw:ByteArray} {n:Int}:n ∈ takenL l raw ↔ ∃ e ∈ l,hashI e.name=hashI raw∧e.short=n:=by
  unfold takenL
  simp only [List.mem_map,List.mem_filter,decide_eq_true_eq]
  exact ⟨fun ⟨x,⟨a,b⟩,c⟩=>⟨x,a,b,c⟩,fun ⟨x,a,b,c⟩=>⟨x,⟨a,b⟩,c⟩⟩
theorem takenL_len (l:List Ent) (raw:ByteArray):(takenL l raw).length≤l.length:=by unfold takenL;rw [List.length_map];exact List.length_filter_le _ _
def PickIs (enc:Int) (l:List Ent) (raw:ByteArray) (n:Int):Prop:=((presS enc raw).size≤255∧n=0)∨(255<(presS enc raw).size∧FreeIs (takenL l raw) n)
theorem PickIs.bounds {enc:Int} {l:List Ent} {raw:ByteArray} {n:Int} (h:PickIs enc l raw n):0≤n∧n≤l.length+1:=by
  rcases h with ⟨_,rfl⟩ | ⟨_,h⟩
  · omega
  · have:=h.le;have:=takenL_len l raw;have:=h.1;omega
theorem PickIs.fits {enc:Int} {l:List Ent} {raw:ByteArray} {n:Int} (h:PickIs enc l raw n):n=0 ↔ (presS enc raw).size≤255:=by
  rcases h with ⟨a,rfl⟩ | ⟨a,h⟩
  · exact ⟨fun _=>a,fun _=>rfl⟩
  · have:=h.1;constructor <;> intro q <;> omega
theorem PickIs.own {enc:Int} {l:List Ent} {raw:ByteArray} {n:Int} (h:PickIs enc l raw n):∀ e ∈ l,e.short ≠ 0→e.short=n→hashI e.name ≠ hashI raw:=fun e he h0 hn hh=>by
  rcases h with ⟨_,rfl⟩ | ⟨_,h⟩
  · exact h0 hn
  · exact h.2.1 (mem_takenL.2 ⟨e,he,hh,hn⟩)
theorem TR.plant {enc:Int} {L:List Item} {T:TreS} (h:TR enc L T) {d:Int} {name:ByteArray} {isDir:Bool} {short k fr2:Int} {bk2:List Int} (hp:PickIs enc (inL L d) name short) (ht:TakeN T.out T.fr T.bk k fr2 bk2) (hk:k≤200) (hok:LinkOk T d name short):TR enc (L++[⟨d,⟨name,k,isDir,T.next,short⟩⟩]) (linkT T d name isDir short k fr2 bk2):=by
  have hb:=hp.bounds
  have hl:=h.li.len
  have hi:=inL_len L d
  exact h.link ht hk hok (by omega) hp.fits hp.own
/-! ### TopLong -/
structure LQ (L:List Item) (all:List ByteArray):Prop where
  root:∀ x ∈ L,x.inn=0
  file:∀ x ∈ L,x.e.dir=false
  names:L.map (·.e.name)=all
  down:∀ x ∈ L,∀ j,1≤j→j<x.e.short→∃ y ∈ L,hashI y.e.name=hashI x.e.name∧y.e.short=j
theorem LQ.zero:LQ [] []:=⟨(fun _ h=>nomatch h),(fun _ h=>nomatch h),rfl,(fun _ h=>nomatch h)⟩
theorem LQ.inL {L:List Item} {all:List ByteArray} (h:LQ L all):Go.Proofs.YtpmlggjhfiljmaaGreatDoor.inL L 0=L.map (·.e):=by
  unfold Go.Proofs.YtpmlggjhfiljmaaGreatDoor.inL
  rw [List.filter_eq_self.2 fun x hx=>by simpa using h.root x hx]
theorem LQ.plant {L:List Item} {all:List ByteArray} (h:LQ L all) {name:ByteArray} {short k next:Int} (hp:PickIs 0 (Go.Proofs.YtpmlggjhfiljmaaGreatDoor.inL L 0) name short):LQ (L++[⟨0,⟨name,k,false,next,short⟩⟩]) (all++[name]):=by
  refine ⟨?_,?_,?_,?_⟩
  · intro x hx;rcases List.mem_append.1 hx with hx | hx
    · exact h.root x hx
    · rw [List.mem_singleton] at hx;subst hx;rfl
  · intro x hx;rcases List.mem_append.1 hx with hx | hx
    · exact h.file x hx
    · rw [List.mem_singleton] at hx;subst hx;rfl
  · rw [List.map_append,h.names];rfl
  · intro x hx j h1 h2
    rcases List.mem_append.1 hx with hx | hx
    · obtain ⟨y,hy,r⟩:=h.down x hx j h1 h2
      exact ⟨y,List.mem_append.2 (.inl hy),r⟩
    · rw [List.mem_singleton] at hx;subst hx
      have h2:j<short:=h2
      rcases hp with ⟨_,rfl⟩ | ⟨_,hp⟩
      · omega
      · obtain ⟨e,he,e1,e2⟩:=mem_takenL.1 (hp.2.2 j h1 h2)
        obtain ⟨y,hy,_,rfl⟩:=mem_inL.1 he
        exact ⟨y,List.mem_append.2 (.inl hy),e1,e2⟩
open Go.RowKit
def NamesPost (ls:List ByteArray) (w:World) (e:Ending) (w':World):Prop:=∃ a c,e=.returned (.slice a ls.length c)∧OwnL w' (fun g=>w.heap.size≤g) (.slice a ls.length c) ls∧Fresh w w'
theorem OwnL.shape {w:World} {A:Nat→Prop} {v:Value} {l:List ByteArray} (h:OwnL w A v l):∃ a c,v=.slice a l.length c:=OwnA.shape h
set_option maxRecDepth 100000 in
set_option maxHeartbeats 1600000 in
theorem names_any (enc:Int) (A:Nat→Prop) (v:Value) (l:List Ent) (w:World) (h:SlE w A v l) (hl:l.length≤100000) (ho:∀ e ∈ l,OfOK enc e) (hGT:GT w) :
    Calls Tryz.prog 74 #[.int .i64 enc,v] w (NamesPost (l.map (faceS enc)) w):=by
  rcases h.cases with ⟨rfl,a,c,rfl⟩ | ⟨hl0,g,off,cap,rfl,hcap,hA,hg,hc⟩
  · refine (names_nil enc a c w).mono ?_
    rintro e w' ⟨rfl,rfl⟩
    exact ⟨none,0,rfl,OwnA.nil _ _ _ _,Fresh.refl _⟩
  · have HC:=Lib.hid hc
    have HO:=Lib.hid ho
    clear hc h ho
    obtain ⟨i0,hi0,hz0,hz1,hz2⟩:=info_partsG infoStr
    obtain ⟨n,hn⟩:∃ n,l.length=n:=⟨_,rfl⟩
    have HN:=Lib.hid hn
    rw [hn] at hl hl0 hcap ⊢
    clear hn
    go_enter Tryz.func74,Tryz.ntmps74
    go_wp2
    go_loopw [5,10] (fun v i wr=>∃ k:Nat,i=.int .i64 k∧k≤n∧OwnL wr (fun g=>w.heap.size≤g) v ((l.take k).map (faceS enc))∧Fresh w wr) (fun _ i _=>n - (intOf i).toNat)
    case atStart=>exact ⟨0,rfl,by omega,OwnA.nil _ _ _ _,Fresh.refl _⟩
    case round =>
      obtain ⟨k,rfl,hk,hown,hf⟩:=hrel
      by_cases hlt:k<n
      · have hkl:k<l.length:=by rw [HN.out];exact hlt
        obtain ⟨c0,c1,c2,c3,c4⟩:=HC.out k hkl
        have d0:=(Below.cell hf (p:=⟨g,off+k * 5,none⟩) hg).trans c0
        have d1:=(Below.cell hf (p:=⟨g,off+k * 5+1,none⟩) hg).trans c1
        have d2:=(Below.cell hf (p:=⟨g,off+k * 5+2,none⟩) hg).trans c2
        have d3:=(Below.cell hf (p:=⟨g,off+k * 5+3,none⟩) hg).trans c3
        have d4:=(Below.cell hf (p:=⟨g,off+k * 5+4,none⟩) hg).trans c4
        have HT:Hid ((l.take (k+1)).map (faceS enc)=(l.take k).map (faceS enc)++[faceS enc l[k]]):=Lib.hid (by rw [List.take_succ_eq_append_getElem hkl,List.map_append];rfl)
        have HK:=Lib.hid (HO.out l[k] (List.getElem_mem _))
        have hll:((l.take k).map (faceS enc)).length=k:=by simp;omega
        unfold OwnL at hown
        rw [hll] at hown
        obtain ⟨acc,hacc⟩:∃ acc,(l.take k).map (faceS enc)=acc:=⟨_,rfl⟩
        rw [hacc] at hown HT hll
        obtain ⟨fc,hfc⟩:∃ fc,faceS enc l[k]=fc:=⟨_,rfl⟩
        have HLL:=Lib.hid hll
        unfold OfOK at HK
        rw [hfc] at HK HT
        obtain ⟨⟨nm,nd,dr,ck,sh⟩,he⟩:∃ e,l[k]=e:=⟨_,rfl⟩
        rw [he] at d0 d1 d2 d3 d4 HK
        have i1:(k:Int)<(n:Int):=by omega
        obtain ⟨W1,hW1⟩:∃ W1,wr.alloc (.cells #[.string nm,.int .i64 nd,.bool dr,.int .i64 ck,.int .i64 sh] 88)=W1:=⟨_,rfl⟩
        have h01:Fresh wr W1:=by rw [← hW1];exact (Fresh.refl _).alloc _
        have e1:Blk W1 wr.heap.size 88 #[.string nm,.int .i64 nd,.bool dr,.int .i64 ck,.int .i64 sh]:=by rw [← hW1];exact Blk.new _ _ _
        have q0:W1.cell? ⟨wr.heap.size,0,none⟩=some (.string nm):=e1.cell 0
        have q1:W1.cell? ⟨wr.heap.size,1,none⟩=some (.int .i64 nd):=e1.cell 1
        have q2:W1.cell? ⟨wr.heap.size,2,none⟩=some (.bool dr):=e1.cell 2
        have q3:W1.cell? ⟨wr.heap.size,3,none⟩=some (.int .i64 ck):=e1.cell 3
        have q4:W1.cell? ⟨wr.heap.size,4,none⟩=some (.int .i64 sh):=e1.cell 4
        clear c0 c1 c2 c3 c4 hacc hfc he hll e1
        go_wp2_with fail
        refine (HK.out _ (hGT.fresh (hf.trans h01))).mono ?_
        rintro e w3 ⟨rfl,hf3⟩
        have hf13:=h01.trans hf3
        have hf4:=Lib.hid (hf.trans hf13)
        clear q0 q1 q2 q3 q4 d0 d1 d2 d3 d4 hW1
        go_wp2_with (at_builtin;refine wpList_append_ownA _ rfl _ _ 38 rfl (fun g=>w.heap.size≤g) 9 i0 _ 1 16 Tryz.underlying38 hi0 hz0 hz1 hz2 rfl (by decide) _ k _ rfl (hown.fresh (hf13.alloc _)) ⟨w3.heap.size,0,none⟩ 1 1 [.string fc] rfl rfl (newCells _ _ _) (by intro u hu;simp at hu;rcases hu with rfl;rfl) (by omega) (by decide) ?_;intro a' c' w2 o2 u2)
        have HZ:=Lib.hid (And.intro (OwnA.grew o2 (by have:=hf4.out.size;simp;omega)) ((hf4.out.alloc _).mut2 u2 (fun j hj=>hown.2 j hj)))
        clear o2 u2 hown hf13
        go_roundw
        case rel =>
          obtain ⟨g1,g2⟩:=HZ.out
          refine ⟨k+1,by go_num,by omega,?_,g2⟩
          unfold OwnL
          rw [HT.out,List.length_append,HLL.out]
          unfold strs at *
          rw [List.map_append]
          exact g1
        case measure=>simp [intOf];omega
      · have hks:(l.take k)=l:=List.take_of_length_le (by have:=HN.out;omega)
        rw [hks] at hown
        have hml:(l.map (faceS enc)).length=k:=by simp;have:=HN.out;omega
        obtain ⟨a',c',rfl⟩:=hown.shape
        have HOW:=Lib.hid hown
        have HML:=Lib.hid hml
        rw [hml]
        clear hks hml hown
        go_wp2
        go_ret
        exact ⟨a',c',by rw [HML.out];rfl,HOW.out,hf⟩
open Go.RowKit
theorem takenL_snoc (l:List Ent) (raw:ByteArray) (k:Nat) (hk:k<l.length):takenL (l.take (k+1)) raw=takenL (l.take k) raw++if hashI l[k].name=hashI raw then [l[k].short] else []:=by
  unfold takenL
  rw [List.take_succ_eq_append_getElem hk,List.filter_append,List.map_append]
  congr 1
  by_cases h:hashI l[k].name=hashI raw <;> simp [List.filter_cons,h]
def PickPost (enc:Int) (l:List Ent) (raw:ByteArray) (w:World) (e:Ending) (w':World):Prop:=∃ n,e=.returned (.int .i64 n)∧PickIs enc l raw n∧Fresh w w'
def PkRel (l:List Ent) (raw:ByteArray) (w:World) (v i:Value) (wr:World):Prop:=∃ k:Nat,i=.int .i64 k∧k≤l.length∧OwnI wr (fun g=>w.heap.size≤g) v (takenL (l.take k) raw)∧Fresh w wr
theorem OwnI.nil (w:World) (A:Nat→Prop):OwnI w A (.slice none 0 0) []:=OwnA.nil _ _ _ _
set_option maxRecDepth 100000 in
set_option maxHeartbeats 3200000 in
theorem pick_any (enc:Int) (A:Nat→Prop) (v:Value) (l:List Ent) (raw:ByteArray) (w:World) (h:SlE w A v l) (hl:l.length≤1000) (h0:0≤enc) (h8:enc≤8) (hr:raw.size≤1000) (hn:∀ e ∈ l,e.name.size≤1000) :
    Calls Tryz.prog 79 #[.int .i64 enc,v,.string raw] w (PickPost enc l raw w):=by
  have HLG:=Lib.hid (long_any enc raw h0 h8 (by omega) w)
  by_cases hs:(presS enc raw).size≤255
  · have hd:decide (255<((presS enc raw).size:Int))=false:=by simp;omega
    rw [hd] at HLG
    have HP:Hid (PickIs enc l raw 0):=Lib.hid (.inl ⟨hs,rfl⟩)
    obtain ⟨a,c,rfl⟩:∃ a c,v=.slice a l.length c:=by obtain ⟨_,a,c,q,_⟩:=h;exact ⟨a,c,q⟩
    clear hd hs hn h
    go_enter Tryz.func79,Tryz.ntmps79
    go_wp2_with fail
    refine HLG.out.mono ?_
    rintro e w1 ⟨rfl,hf⟩
    go_wp2
    go_ret
    exact ⟨0,rfl,HP.out,hf⟩
  · have hd : decide (255<((presS enc raw).size:Int))=true:=by simp;omega
    rw [hd] at HLG
    have HB:Hid (255<(presS enc raw).size):=Lib.hid (by omega)
    have HHR:=Lib.hid (fun W=>hash_any raw (by omega) W)
    have HHE:=Lib.hid (fun (e:Ent) (he:e ∈ l) W=>hash_any e.name (by have:=hn e he;omega) W)
    unfold HashPost at HHR HHE
    have HFR:=Lib.hid (fun A v l W (ho:OwnI W A v l) (hl:l.length≤10000)=>free_any A v l W ho hl)
    obtain ⟨hr0,hhr⟩:∃ x,hashI raw=x:=⟨_,rfl⟩
    rw [hhr] at HHR
    have HR0:=Lib.hid hhr
    clear hd hs hn hhr
    have HCS:=Lib.hid h.cases
    obtain ⟨a,c,rfl⟩:∃ a c,v=.slice a l.length c:=by obtain ⟨_,a,c,q,_⟩:=h;exact ⟨a,c,q⟩
    obtain ⟨i0,hi0,hz0,hz1,hz2⟩:=info_partsG infoInt
    obtain ⟨n,hn⟩:∃ n,l.length=n:=⟨_,rfl⟩
    have HN:=Lib.hid hn
    rw [hn] at hl ⊢
    clear h hn
    go_enter Tryz.func79,Tryz.ntmps79
    go_wp2_with fail
    refine HLG.out.mono ?_
    rintro e w1 ⟨rfl,hf1⟩
    have HF1:=Lib.hid hf1
    clear hf1
    go_wp2
    go_loopw [7,16] (fun v i wr=>PkRel l raw w v i wr) (fun _ i _=>n - (intOf i).toNat)
    case atStart=>exact ⟨0,rfl,Nat.zero_le _,OwnI.nil _ _,HF1.out⟩
    case round =>
      obtain ⟨k,rfl,hk,hown,hf⟩:=hrel
      have hkn:k≤n:=by have:=HN.out;omega
      clear hk
      have htl:=takenL_len (l.take k) raw
      have htk:(takenL (l.take k) raw).length≤1000:=by have:=List.length_take_le k l;omega
      have HO:=Lib.hid (And.intro hown hf)
      clear htl hown hf
      by_cases hlt:k<n
      · rcases HCS.out with ⟨e0,_⟩ | ⟨_,g,off,cap,hv,hcap,hA,hg,hc⟩
        · have:=HN.out;rw [e0] at this;simp at this;omega
        injection hv with hv1 _ hv2
        subst hv1 hv2
        have hkl:k<l.length:=by rw [HN.out];exact hlt
        obtain ⟨c0,c1,c2,c3,c4⟩:=hc k hkl
        have d0:=(Below.cell HO.out.2 (p:=⟨g,off+k * 5,none⟩) hg).trans c0
        have d1:=(Below.cell HO.out.2 (p:=⟨g,off+k * 5+1,none⟩) hg).trans c1
        have d2:=(Below.cell HO.out.2 (p:=⟨g,off+k * 5+2,none⟩) hg).trans c2
        have d3:=(Below.cell HO.out.2 (p:=⟨g,off+k * 5+3,none⟩) hg).trans c3
        have d4:=(Below.cell HO.out.2 (p:=⟨g,off+k * 5+4,none⟩) hg).trans c4
        have HT:=Lib.hid (takenL_snoc l raw k hkl)
        have HK:=Lib.hid (HHE.out l[k] (List.getElem_mem _))
        rw [HR0.out] at HT
        obtain ⟨acc,hacc⟩:∃ acc,takenL (l.take k) raw=acc:=⟨_,rfl⟩
        rw [hacc] at HO HT htk
        obtain ⟨⟨nm,nd,dr,ck,sh⟩,he⟩:∃ e,l[k]=e:=⟨_,rfl⟩
        rw [he] at d0 d1 d2 d3 d4 HK HT
        simp only at d0 d1 d2 d3 d4 HK HT
        obtain ⟨hx,hhx⟩:∃ x,hashI nm=x:=⟨_,rfl⟩
        rw [hhx] at HK HT
        have i1:(k:Int)<(n:Int):=by omega
        obtain ⟨W1,hW1⟩:∃ W1,wr.alloc (.cells #[.string nm,.int .i64 nd,.bool dr,.int .i64 ck,.int .i64 sh] 88)=W1:=⟨_,rfl⟩
        have h01:Fresh wr W1:=by rw [← hW1];exact (Fresh.refl _).alloc _
        have e1:Blk W1 wr.heap.size 88 #[.string nm,.int .i64 nd,.bool dr,.int .i64 ck,.int .i64 sh]:=by rw [← hW1];exact Blk.new _ _ _
        have q0:W1.cell? ⟨wr.heap.size,0,none⟩=some (.string nm):=e1.cell 0
        have HE:=Lib.hid (And.intro h01 e1)
        clear hacc hhx he c0 c1 c2 c3 c4 hc h01 e1
        go_wp2_with fail
        refine (HK.out _).mono ?_
        rintro e w2 ⟨rfl,hf2⟩
        have H2:=Lib.hid (HE.out.1.trans hf2)
        have p4:w2.cell? ⟨wr.heap.size,4,none⟩=some (.int .i64 sh):=(HE.out.2.keep hf2).cell 4
        have P4:=Lib.hid (And.intro (HE.out.2.keep hf2) p4)
        clear hf2 q0 d0 d1 d2 d3 d4 hW1 p4
        go_wp2_with fail
        refine (HHR.out _).mono ?_
        rintro e w3 ⟨rfl,hf3⟩
        have H3:=Lib.hid (And.intro (H2.out.trans hf3) (HO.out.2.trans (H2.out.trans hf3)))
        have p4:w3.cell? ⟨wr.heap.size,4,none⟩=some (.int .i64 sh):=(P4.out.1.keep hf3).cell 4
        clear hf3
        by_cases hxr:hx=hr0
        · subst hxr
          rw [if_pos rfl] at HT
          have hown3:=OwnI.fresh HO.out.1 H3.out.1
          obtain ⟨av,cv,rfl⟩:=hown3.shape
          have HOW:=Lib.hid hown3
          obtain ⟨m,hm⟩:∃ m,acc.length=m:=⟨_,rfl⟩
          have HM:=Lib.hid hm
          rw [hm] at htk ⊢
          have hownA:OwnA w3 (fun g=>w.heap.size≤g) 3 1 (.slice av m cv) m (ints acc):=by unfold OwnI at hown3;rw [hm] at hown3;exact hown3
          clear hown3 hm
          go_wp2_with (at_builtin;refine wpList_append_ownA _ rfl _ _ 195 rfl (fun g=>w.heap.size≤g) 3 i0 _ 1 8 Tryz.underlying195 hi0 hz0 hz1 hz2 rfl (by decide) _ m _ rfl (hownA.fresh ((Fresh.refl _).alloc _)) ⟨w3.heap.size,0,none⟩ 1 1 [.int .i64 sh] rfl rfl (newCells _ _ _) (by intro u hu;simp at hu;subst hu;rfl) (by omega) (by decide) ?_;intro a' c' w4 o4 u4)
          have HZ:Hid (OwnI w4 (fun g=>w.heap.size≤g) (.slice a' (m+1) c') (acc++[sh])∧Fresh w w4):=Lib.hid (by
            have hz:=H3.out.2.size
            refine ⟨?_,(H3.out.2.alloc _).mut2 u4 (fun j hj=>hownA.2 j hj)⟩
            unfold OwnI
            rw [List.length_append,HM.out,show ints (acc++[sh])=ints acc++[.int .i64 sh] by simp [ints]]
            exact OwnA.mono o4 (fun g _ hg=>hg.elim id (fun q=>by have:=q.1;simp at this;omega)))
          clear o4 u4 hownA p4
          go_roundw
          case rel=>exact ⟨k+1,by go_num,by have:=HN.out;omega,by rw [HT.out];exact HZ.out.1,HZ.out.2⟩
          case measure=>simp [intOf];omega
        · rw [if_neg hxr,List.append_nil] at HT
          have hxb:(hx == hr0)=false:=by simpa using hxr
          have hown3:=OwnI.fresh HO.out.1 H3.out.1
          have HOW:=Lib.hid hown3
          clear hxr hown3 p4
          go_wp2
          go_roundw
          case rel=>exact ⟨k+1,by go_num,by have:=HN.out;omega,by rw [HT.out];exact HOW.out,H3.out.2⟩
          case measure=>simp [intOf];omega
      · have hkE:k=n:=by omega
        have hE:l.take k=l:=List.take_of_length_le (by have:=HN.out;omega)
        rw [hE] at HO htk
        have HF:=Lib.hid (HFR.out _ _ _ wr HO.out.1 (by omega))
        have i1:¬ (k:Int)<(n:Int):=by omega
        obtain ⟨av,cv,rfl⟩:=HO.out.1.shape
        clear hE
        go_wp2_with fail
        refine HF.out.mono ?_
        rintro e w2 ⟨r,rfl,hfr,hf2⟩
        have HZ:=Lib.hid (And.intro hfr (HO.out.2.trans hf2))
        clear hfr hf2
        go_wp2
        go_ret
        exact ⟨r,rfl,.inr ⟨HB.out,HZ.out.1⟩,HZ.out.2⟩
open Go.RowKit
attribute [local go_sem ↓] Go.wp_at_zero Go.wp_at_succ
section
variable (enc:Int) (A:Nat→Prop) (f s tr:Nat) (T:TreS) (q:Nat) (hT:TOK enc T) (w:World) (hv:FsV w f s enc tr) (h:TreeAt w A tr T q) (hGT:GT w)
include hT hv h hGT
set_option maxRecDepth 100000 in
set_option maxHeartbeats 1600000 in
theorem flist_any (path:ByteArray) (hp:path.size≤1000000):Calls Tryz.prog 72 #[.pointer (some ⟨f,0,none⟩),.string path] w (ListF (listR enc T path) w):=by
  have HL:=Lib.hid (lookup_any enc A f s tr T q hT w hv h hGT path hp)
  have HS:Hid (∀ W,Fresh w W→W.cell? ⟨f,2,none⟩=some (.pointer (some ⟨tr,0,none⟩))):=Lib.hid (fun W hW=>(Blk.keep hv hW).cell 2)
  cases hpt:pathT enc T path with
  | inr k =>
    have hk:=pathT_ne hpt
    have hR:listR enc T path=(0,[],k):=by unfold listR;rw [hpt];simp [nvR,hk]
    rw [hR]
    rw [hpt] at HL
    simp only [nvR] at HL
    have hkb:(k != 0)=true:=by simp [hk]
    clear hR hk hpt hT hv h
    go_enter Tryz.func72,Tryz.ntmps72
    go_wp2_with fail
    refine HL.out.mono ?_
    rintro e w1 ⟨rfl,hf1⟩
    have HF:=Lib.hid hf1
    clear hf1
    go_wp2
    go_ret3
    exact ⟨none,0,rfl,SlG.nil _ _ _,HF.out⟩
  | inl st =>
    obtain ⟨n,b⟩:=st
    have hn:I64 n:=pathT_node hT hpt
    rw [hpt] at HL
    simp only [nvR] at HL
    cases b with
    | false =>
      have hR:listR enc T path=(0,[],8):=by unfold listR;rw [hpt];simp [nvR]
      rw [hR]
      clear hR hpt hT hv h
      go_enter Tryz.func72,Tryz.ntmps72
      go_wp2_with fail
      refine HL.out.mono ?_
      rintro e w1 ⟨rfl,hf1⟩
      have HF:=Lib.hid hf1
      clear hf1
      go_wp2
      go_ret3
      exact ⟨none,0,rfl,SlG.nil _ _ _,HF.out⟩
    | true =>
      cases hd:T.dirs n with
      | none =>
        have hR:listR enc T path=(n,[],if T.files n=true then 8 else 5):=by unfold listR;rw [hpt];simp [nvR,hd];rfl
        rw [hR]
        have HLS:=Lib.hid (fun W (hW:Fresh w W)=>ls_no (h.fresh hW) hn hd)
        obtain ⟨k,hk⟩:∃ k:Int,(if T.files n=true then 8 else 5)=k:=⟨_,rfl⟩
        rw [hk] at HLS ⊢
        clear hR hpt hT hv h hk hd
        go_enter Tryz.func72,Tryz.ntmps72
        go_wp2_with fail
        refine HL.out.mono ?_
        rintro e w1 ⟨rfl,hf1⟩
        have HF:=Lib.hid hf1
        have c2:=HS.out w1 hf1
        clear hf1
        go_wp2_with fail
        refine (HLS.out w1 HF.out).mono ?_
        rintro e w2 ⟨rfl,hf2⟩
        go_wp2
        go_ret3
        exact ⟨none,0,rfl,SlG.nil _ _ _,HF.out.trans hf2⟩
      | some l =>
        have hR:listR enc T path=(n,l,0):=by unfold listR;rw [hpt];simp [nvR,hd]
        rw [hR]
        have HLS:=Lib.hid (fun W (hW:Fresh w W)=>ls_yes (h.fresh hW) hn hd (hT.len n l hd))
        clear hR hpt hT hv h hd
        go_enter Tryz.func72,Tryz.ntmps72
        go_wp2_with fail
        refine HL.out.mono ?_
        rintro e w1 ⟨rfl,hf1⟩
        have HF:=Lib.hid hf1
        have c2:=HS.out w1 hf1
        clear hf1
        go_wp2_with fail
        refine (HLS.out w1 HF.out).mono ?_
        rintro e w2 ⟨a,c,rfl,ho,hf2⟩
        have HO:=Lib.hid (And.intro ho hf2)
        clear ho hf2
        go_wp2
        go_ret3
        exact ⟨a,c,rfl,SlG.mono (OwnE.sl HO.out.1) (fun g _ hg=>Nat.le_trans HF.out.size hg),HF.out.trans HO.out.2⟩
def ThereF (r:Int × ByteArray × Ent × Int) (w:World) (e:Ending) (w':World):Prop:=e=.returned (.tuple #[.int .i64 r.1,entV r.2.2.1,.int .i64 r.2.2.2])∧Fresh w w'
set_option maxRecDepth 100000 in
set_option maxHeartbeats 1600000 in
theorem there_any (path:ByteArray) (hp:path.size≤1000000):Calls Tryz.prog 71 #[.pointer (some ⟨f,0,none⟩),.string path] w (ThereF (atR enc T path) w):=by
  obtain ⟨W0,hW0⟩:∃ W0,w.alloc (.cells #[.string ⟨#[]⟩,.int .i64 0,.bool false,.int .i64 0,.int .i64 0] 88)=W0:=⟨_,rfl⟩
  have HW0:Hid (Fresh w W0∧Blk W0 w.heap.size 88 #[.string ⟨#[]⟩,.int .i64 0,.bool false,.int .i64 0,.int .i64 0]):=Lib.hid (by rw [← hW0];exact ⟨(Fresh.refl _).alloc _,Blk.new _ _ _⟩)
  have HAT:=Lib.hid (at_any2 enc A f s tr T q hT W0 (Blk.keep hv HW0.out.1) (h.fresh HW0.out.1) (hGT.fresh HW0.out.1) path hp)
  obtain ⟨r,hr⟩:∃ r,atR enc T path=r:=⟨_,rfl⟩
  rw [hr] at HAT ⊢
  obtain ⟨d,nm,⟨yn,yd,yr,yc,ys⟩,k⟩:=r
  unfold AtF at HAT
  unfold ThereF
  simp only at HAT ⊢
  clear hr hT hv h
  go_enter Tryz.func71,Tryz.ntmps71
  go_wp2_with fail
  refine HAT.out.mono ?_
  rintro e w2 ⟨rfl,hf2⟩
  obtain ⟨W5,hW5⟩:∃ W5,w2.alloc (.cells #[.string yn,.int .i64 yd,.bool yr,.int .i64 yc,.int .i64 ys] 88)=W5:=⟨_,rfl⟩
  have h25:Fresh w2 W5:=by rw [← hW5];exact (Fresh.refl _).alloc _
  have HF5:=Lib.hid (HW0.out.1.trans (hf2.trans h25))
  have hb:=HW0.out.2.keep (hf2.trans h25)
  have hc:Blk W5 w2.heap.size 88 #[.string yn,.int .i64 yd,.bool yr,.int .i64 yc,.int .i64 ys]:=by rw [← hW5];exact Blk.new _ _ _
  have hne:w.heap.size ≠ w2.heap.size:=by have:=HW0.out.2.lt;have:=hf2.size;omega
  have f0:W5.frozen? ⟨w.heap.size,0,none⟩=false:=hb.frozen 0
  have g0:W5.cell? ⟨w.heap.size,0,none⟩=some (.string ⟨#[]⟩):=hb.cell 0
  have f1:W5.frozen? ⟨w.heap.size,1,none⟩=false:=hb.frozen 1
  have g1:W5.cell? ⟨w.heap.size,1,none⟩=some (.int .i64 0):=hb.cell 1
  have f2:W5.frozen? ⟨w.heap.size,2,none⟩=false:=hb.frozen 2
  have g2:W5.cell? ⟨w.heap.size,2,none⟩=some (.bool false):=hb.cell 2
  have f3:W5.frozen? ⟨w.heap.size,3,none⟩=false:=hb.frozen 3
  have g3:W5.cell? ⟨w.heap.size,3,none⟩=some (.int .i64 0):=hb.cell 3
  have f4:W5.frozen? ⟨w.heap.size,4,none⟩=false:=hb.frozen 4
  have g4:W5.cell? ⟨w.heap.size,4,none⟩=some (.int .i64 0):=hb.cell 4
  have c0:W5.cell? ⟨w2.heap.size,0,none⟩=some (.string yn):=hc.cell 0
  have c1:W5.cell? ⟨w2.heap.size,1,none⟩=some (.int .i64 yd):=hc.cell 1
  have c2:W5.cell? ⟨w2.heap.size,2,none⟩=some (.bool yr):=hc.cell 2
  have c3:W5.cell? ⟨w2.heap.size,3,none⟩=some (.int .i64 yc):=hc.cell 3
  have c4:W5.cell? ⟨w2.heap.size,4,none⟩=some (.int .i64 ys):=hc.cell 4
  have HZ:=Lib.hid (Blk.set5 hb (.string yn) (.int .i64 yd) (.bool yr) (.int .i64 yc) (.int .i64 ys))
  clear h25 hb hc hf2
  go_wp2_with fail
  clear hW5 hW0
  go_region
  all_goals
    go_wp2
    have hz:=HZ.out
    refine bodyPost_ret (v:=.tuple #[.int .i64 d,entV ⟨yn,yd,yr,yc,ys⟩,.int .i64 k]) ?_ rfl ?_
    · simp [results,Tryz.results71,go_sem,hz.cell 0,hz.cell 1,hz.cell 2,hz.cell 3,hz.cell 4]
    · exact ⟨rfl,by repeat (first | exact HF5.out | refine Fresh.drew ?_ | refine Fresh.setCell ?_ (Nat.le_refl _) _)⟩
set_option maxRecDepth 100000 in
set_option maxHeartbeats 1600000 in
theorem fraw2_any (path:ByteArray) (hp:path.size≤1000000):Calls Tryz.prog 30 #[.pointer (some ⟨f,0,none⟩),.string path] w fun e w'=>e=.returned (.tuple #[.string (atR enc T path).2.2.1.name,.int .i64 (atR enc T path).2.2.2])∧Fresh w w':=by
  have HTH:=Lib.hid (there_any enc A f s tr T q hT w hv h hGT path hp)
  obtain ⟨r,hr⟩:∃ r,atR enc T path=r:=⟨_,rfl⟩
  rw [hr] at HTH ⊢
  obtain ⟨d,nm,⟨yn,yd,yr,yc,ys⟩,k⟩:=r
  unfold ThereF at HTH
  simp only at HTH ⊢
  clear hr hT hv h
  go_enter Tryz.func30,Tryz.ntmps30
  go_wp2_with fail
  refine HTH.out.mono ?_
  rintro e w2 ⟨rfl,hf2⟩
  have HF:=Lib.hid hf2
  clear hf2
  go_wp2
  go_ret2
  exact ⟨rfl,HF.out.alloc _⟩
end
end Go.Proofs.YtpmlggjhfiljmaaGreatDoor
namespace Go.Proofs.YtpmlggjhfiljmaaGreatDoor
open Go.RowKit
attribute [local go_sem ↓] Go.wp_at_zero Go.wp_at_succ
def PlantG (S:Int→Int→Int→Nat→Nat→Nat→TreS→Nat→Prop) (r:Int × List Ent × Int) (raw:ByteArray) (F:Nat→Prop) (f:Nat) (enc:Int) (p:Nat) (m n:Int) (w:World) (e:Ending) (w':World):Prop :=
  (r.2.2 ≠ 0∧e=.returned (.tuple #[.int .i64 0,.int .i64 r.2.2])∧Fresh w w')∨(r.2.2=0∧∃ short,PickIs enc r.2.1 raw short∧FdoG (S short) F f enc p m n w e w')
set_option maxRecDepth 100000 in
set_option maxHeartbeats 1600000 in
theorem fplant_any (S:Int→Int→Int→Nat→Nat→Nat→TreS→Nat→Prop) (F:Nat→Prop) (f:Nat) (enc:Int) (p:Nat) (m n:Int) (k t q:Nat) (T:TreS) (qt:Nat) (w:World) (h:FsAt w F f enc p m n k t q T qt) (hT:TOK enc T) (hGT:GT w) (path raw:ByteArray) (isDir:Bool) (hp:path.size≤1000000) (h0:0≤enc) (h8:enc≤8) (hr:raw.size≤1000)
    (hl:(listR enc T path).2.1.length≤1000) (hn:∀ e ∈ (listR enc T path).2.1,e.name.size≤1000)
    (HS:(listR enc T path).2.2=0→∀ short,PickIs enc (listR enc T path).2.1 raw short→∀ W Fs s,Fresh w W→StoAt W Fs s p m n k t q T qt→Calls Tryz.prog 127 #[.pointer (some ⟨s,0,none⟩),deedV 1 (listR enc T path).1 0 raw ⟨#[]⟩ isDir short] W (SdoG (S short) Fs s p m n W)) :
    Calls Tryz.prog 36 #[.pointer (some ⟨f,0,none⟩),.string path,.string raw,.bool isDir] w (PlantG S (listR enc T path) raw F f enc p m n w):=by
  have HO:=Lib.hid (fover_any F f enc p m n k t q T qt w h)
  have HLI:Hid (Calls Tryz.prog 72 #[.pointer (some ⟨f,0,none⟩),.string path] w (ListF (listR enc T path) w)):=Lib.hid (by
    obtain ⟨s,tr,Fs,At,hb,hFf,hFs,hAt,hf1,hf2,hd,hs,ht,hF⟩:=h
    exact flist_any enc At f s tr T qt hT w hb ht hGT path hp)
  have HEN:Hid (∀ W,Fresh w W→W.cell? ⟨f,1,none⟩=some (.int .i64 enc)):=Lib.hid (by
    obtain ⟨s,tr,Fs,At,hb,hFf,hFs,hAt,hf1,hf2,hd,hs,ht,hF⟩:=h
    exact fun W hW=>(Blk.keep hb hW).cell 1)
  have HDO:=Lib.hid (fun (hz:(listR enc T path).2.2=0) short (hsh:PickIs enc (listR enc T path).2.1 raw short) W (hW:Fresh w W)=>fdo_any (S short) 1 (listR enc T path).1 0 raw ⟨#[]⟩ isDir short F f enc p m n k t q T qt W (h.fresh hW) (fun W' Fs s hW' hs=>HS hz short hsh W' Fs s (hW.trans hW') hs))
  obtain ⟨r,hrr⟩:∃ r,listR enc T path=r:=⟨_,rfl⟩
  rw [hrr] at HLI HDO hl hn ⊢
  obtain ⟨d,l,j⟩:=r
  unfold ListF at HLI
  simp only at HLI HDO hl hn
  have HPK:=Lib.hid (fun A a c W (hs:SlE W A (.slice a l.length c) l)=>pick_any enc A (.slice a l.length c) l raw W hs hl h0 h8 hr hn)
  clear h HS hT hGT hrr hn
  by_cases hj:j=0
  · subst hj
    have HDO2:=Lib.hid (HDO.out rfl)
    clear HDO
    obtain ⟨ln,hln⟩:∃ ln,l.length=ln:=⟨_,rfl⟩
    rw [hln] at HLI HPK
    have hll:ln≤1000:=by omega
    clear hln hl
    go_enter Tryz.func36,Tryz.ntmps36
    go_wp2_with fail
    refine HO.out.mono ?_
    rintro e w1 ⟨rfl,rfl⟩
    go_wp2_with fail
    refine HLI.out.mono ?_
    rintro e w2 ⟨a,c,rfl,hsl,hf2⟩
    have HPK2:=Lib.hid (HPK.out _ a c w2 hsl)
    have HF2:=Lib.hid hf2
    have c1:=HEN.out w2 hf2
    clear hsl hf2
    go_wp2_with fail
    refine HPK2.out.mono ?_
    rintro e w3 ⟨sh,rfl,hpk,hf3⟩
    have HF3:=Lib.hid (And.intro hpk (HF2.out.trans hf3))
    clear hpk hf3 c1
    go_wp2_with fail
    refine (HDO2.out sh HF3.out.1 w3 HF3.out.2).mono ?_
    rintro e w4 ⟨a,b,k2,t2,q2,T2,qt2,F2,hS,rfl,hfs,hTB,hm,hg⟩
    have HFIN:Hid (PlantG S (d,l,0) raw F f enc p m n w (.returned (.tuple #[.int .i64 a,.int .i64 b])) w4):=Lib.hid (.inr ⟨rfl,sh,HF3.out.1,a,b,k2,t2,q2,T2,qt2,F2,hS,rfl,hfs,hTB,HF3.out.2.andMut hm,hg.ahead HF3.out.2.size⟩)
    clear hS hfs hTB hm hg
    go_wp2
    go_ret2
    exact HFIN.out
  · have hjb:(j != 0)=true:=by simp [hj]
    have HJ:=Lib.hid hj
    clear hj HDO HPK
    go_enter Tryz.func36,Tryz.ntmps36
    go_wp2_with fail
    refine HO.out.mono ?_
    rintro e w1 ⟨rfl,rfl⟩
    go_wp2_with fail
    refine HLI.out.mono ?_
    rintro e w2 ⟨a,c,rfl,hsl,hf2⟩
    have HF2:=Lib.hid hf2
    clear hsl hf2
    go_wp2
    go_ret2
    exact .inl ⟨HJ.out,rfl,HF2.out⟩
def RemG (S:Int→Int→Nat→Nat→Nat→TreS→Nat→Prop) (k0:Int) (F:Nat→Prop) (f:Nat) (enc:Int) (p:Nat) (m n:Int) (w:World) (e:Ending) (w':World):Prop :=
  (k0 ≠ 0∧e=.returned (.int .i64 k0)∧Fresh w w')∨(k0=0∧∃ a b k t q T qt F',S a b k t q T qt∧e=.returned (.int .i64 b)∧FsAt w' F' f enc p m n k t q T qt∧TB T qt∧Mut F w w'∧Gr F w w' F')
set_option maxRecDepth 100000 in
set_option maxHeartbeats 1600000 in
theorem fremove_any (S:Int→Int→Nat→Nat→Nat→TreS→Nat→Prop) (F:Nat→Prop) (f:Nat) (enc:Int) (p:Nat) (m n:Int) (k t q:Nat) (T:TreS) (qt:Nat) (w:World) (h:FsAt w F f enc p m n k t q T qt) (hT:TOK enc T) (hGT:GT w) (path:ByteArray) (isDir:Bool) (hp:path.size≤1000000)
    (HS:(atR enc T path).2.2.2=0→∀ W Fs s,Fresh w W→StoAt W Fs s p m n k t q T qt→Calls Tryz.prog 127 #[.pointer (some ⟨s,0,none⟩),deedV 2 (atR enc T path).1 0 (atR enc T path).2.2.1.name ⟨#[]⟩ isDir 0] W (SdoG S Fs s p m n W)) :
    Calls Tryz.prog 40 #[.pointer (some ⟨f,0,none⟩),.string path,.bool isDir] w (RemG S (atR enc T path).2.2.2 F f enc p m n w):=by
  have HO:=Lib.hid (fover_any F f enc p m n k t q T qt w h)
  have HTH:Hid (Calls Tryz.prog 71 #[.pointer (some ⟨f,0,none⟩),.string path] w (ThereF (atR enc T path) w)):=Lib.hid (by
    obtain ⟨s,tr,Fs,At,hb,hFf,hFs,hAt,hf1,hf2,hd,hs,ht,hF⟩:=h
    exact there_any enc At f s tr T qt hT w hb ht hGT path hp)
  have HDO:=Lib.hid (fun (hz:(atR enc T path).2.2.2=0) W (hW:Fresh w W)=>fdo_any S 2 (atR enc T path).1 0 (atR enc T path).2.2.1.name ⟨#[]⟩ isDir 0 F f enc p m n k t q T qt W (h.fresh hW) (fun W' Fs s hW' hs=>HS hz W' Fs s (hW.trans hW') hs))
  obtain ⟨r,hrr⟩:∃ r,atR enc T path=r:=⟨_,rfl⟩
  rw [hrr] at HTH HDO ⊢
  obtain ⟨d,nm,⟨yn,yd,yr,yc,ys⟩,j⟩:=r
  unfold ThereF at HTH
  simp only at HTH HDO ⊢
  clear h HS hT hGT hrr
  by_cases hj:j=0
  · subst hj
    have HDO2:=Lib.hid (HDO.out rfl)
    clear HDO
    go_enter Tryz.func40,Tryz.ntmps40
    go_wp2_with fail
    refine HO.out.mono ?_
    rintro e w1 ⟨rfl,rfl⟩
    go_wp2_with fail
    refine HTH.out.mono ?_
    rintro e w2 ⟨rfl,hf2⟩
    have HF2:=Lib.hid (hf2.alloc (.cells #[.string yn,.int .i64 yd,.bool yr,.int .i64 yc,.int .i64 ys] 88))
    clear hf2
    go_wp2_with fail
    refine (HDO2.out _ HF2.out).mono ?_
    rintro e w4 ⟨a,b,k2,t2,q2,T2,qt2,F2,hS,rfl,hfs,hTB,hm,hg⟩
    have HFIN:Hid (RemG S 0 F f enc p m n w (.returned (.int .i64 b)) w4):=Lib.hid (.inr ⟨rfl,a,b,k2,t2,q2,T2,qt2,F2,hS,rfl,hfs,hTB,HF2.out.andMut hm,hg.ahead HF2.out.size⟩)
    clear hS hfs hTB hm hg
    go_wp2
    go_ret
    exact HFIN.out
  · have hjb:(j == 0)=false:=by simp [hj]
    have HJ:=Lib.hid hj
    clear hj HDO
    go_enter Tryz.func40,Tryz.ntmps40
    go_wp2_with fail
    refine HO.out.mono ?_
    rintro e w1 ⟨rfl,rfl⟩
    go_wp2_with fail
    refine HTH.out.mono ?_
    rintro e w2 ⟨rfl,hf2⟩
    have HF2:=Lib.hid (hf2.alloc (.cells #[.string yn,.int .i64 yd,.bool yr,.int .i64 yc,.int .i64 ys] 88))
    clear hf2
    go_wp2
    go_ret
    exact .inl ⟨HJ.out,rfl,HF2.out⟩
end Go.Proofs.YtpmlggjhfiljmaaGreatDoor
