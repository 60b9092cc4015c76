/- Part 33 of what the law rests on. -/
import Derived.Test.YtpmlggjhfiljmaaGreatDoorS24
import Derived.Test.YtpmlggjhfiljmaaGreatDoorS27
import Derived.Test.YtpmlggjhfiljmaaGreatDoorS30
import Derived.Test.YtpmlggjhfiljmaaGreatDoorS32
set_option linter.all false
namespace Go.Proofs.YtpmlggjhfiljmaaGreatDoor
structure Item where
  inn:Int
  e:Ent
def dirL (L:List Item) (d:Int):Bool:=decide (d=0) || L.any fun x=>decide (x.e.node=d) && x.e.dir
def inL (L:List Item) (d:Int):List Ent:=(L.filter fun x=>decide (x.inn=d)).map (·.e)
def dirsL (L:List Item) (d:Int):Option (List Ent):=if dirL L d=true then some (inL L d) else none
def fileL (L:List Item) (n:Int):Bool:=L.any fun x=>decide (x.e.node=n) && !x.e.dir
def outL (L:List Item) (n:Int):Bool:=L.any fun x=>decide (x.e.node=n)
theorem dirL_iff {L:List Item} {d:Int}:dirL L d=true ↔ d=0∨∃ x ∈ L,x.e.node=d∧x.e.dir=true:=by
  unfold dirL;simp
theorem fileL_iff {L:List Item} {d:Int}:fileL L d=true ↔ ∃ x ∈ L,x.e.node=d∧x.e.dir=false:=by
  unfold fileL;simp
theorem outL_iff {L:List Item} {d:Int}:outL L d=true ↔ ∃ x ∈ L,x.e.node=d:=by
  unfold outL;simp
theorem mem_inL {L:List Item} {d:Int} {e:Ent}:e ∈ inL L d ↔ ∃ x ∈ L,x.inn=d∧x.e=e:=by
  unfold inL
  simp only [List.mem_map,List.mem_filter,decide_eq_true_eq]
  exact ⟨fun ⟨x,⟨a,b⟩,c⟩=>⟨x,a,b,c⟩,fun ⟨x,a,b,c⟩=>⟨x,⟨a,b⟩,c⟩⟩
theorem inL_append (L M:List Item) (d:Int):inL (L++M) d=inL L d++inL M d:=by unfold inL;rw [List.filter_append,List.map_append]
theorem inL_one (x:Item) (d:Int):inL [x] d=if x.inn=d then [x.e] else []:=by
  unfold inL
  by_cases h:x.inn=d <;> simp [List.filter_cons,h]
theorem inL_len (L:List Item) (d:Int):(inL L d).length≤L.length:=by unfold inL;rw [List.length_map];exact List.length_filter_le _ _
theorem dirL_append (L M:List Item) (d:Int):dirL (L++M) d=(dirL L d || M.any fun x=>decide (x.e.node=d) && x.e.dir):=by unfold dirL;rw [List.any_append,Bool.or_assoc]
/-! ### the pool -/
structure PoolOK (O:Int→Bool) (F:Int) (K:List Int):Prop where
  fr:1≤F∧F≤201
  hp:Hp K
  nd:K.Nodup
  bk:∀ x ∈ K,1≤x∧x<F∧O x=false
  all:∀ i,1≤i→i<F→O i=true∨i ∈ K
  out:∀ i,O i=true→1≤i∧i≤200
theorem PoolOK.least {O:Int→Bool} {fr:Int} {bk:List Int} (h:PoolOK O fr bk) {k fr2:Int} {bk2:List Int} (ht:TakeN O fr bk k fr2 bk2):O k=false∧1≤k∧∀ i,1≤i→i<k→O i=true:=by
  obtain ⟨⟨n1,n2,n3⟩,⟨rfl,rfl,hb⟩ | ⟨hne,hlt,rfl,hpm,hhp⟩⟩:=ht
  · have hn:bk2=[]:=by
      rcases hb with hb | hb
      · exact hb
      · rcases Decidable.em (bk2=[]) with q | q
        · exact q
        · have:=(h.bk _ (getD0_mem q)).2.1;omega
    have f1:=h.fr
    refine ⟨n2,by omega,fun i a b=>?_⟩
    by_cases c:i<fr
    · rcases h.all i a c with q | q
      · exact q
      · rw [hn] at q;simp at q
    · exact n3 i (by omega) b
  · have hm:=getD0_mem hne
    have q:=h.bk _ hm
    refine ⟨q.2.2,q.1,fun i a b=>?_⟩
    rcases h.all i a (by omega) with c | c
    · exact c
    · have:=hp_min h.hp i c;omega
theorem PoolOK.take {O:Int→Bool} {fr:Int} {bk:List Int} (h:PoolOK O fr bk) {k fr2:Int} {bk2:List Int} (ht:TakeN O fr bk k fr2 bk2) (hk:k≤200):PoolOK (fun i=>O i || decide (i=k)) fr2 bk2:=by
  have hl:=h.least ht
  have f1:=h.fr
  obtain ⟨⟨n1,n2,n3⟩,⟨rfl,rfl,hb⟩ | ⟨hne,hlt,rfl,hpm,hhp⟩⟩:=ht
  · have hn:bk2=[]:=by
      rcases hb with hb | hb
      · exact hb
      · rcases Decidable.em (bk2=[]) with q | q
        · exact q
        · have:=(h.bk _ (getD0_mem q)).2.1;omega
    subst hn
    exact ⟨by omega,h.hp,h.nd,fun x hx=>by simp at hx,fun i a b=>.inl (by simp [hl.2.2 i a b]),fun i hi=>by
      simp only [Bool.or_eq_true,decide_eq_true_eq] at hi
      rcases hi with hi | hi
      · exact h.out i hi
      · omega⟩
  · have hsub:∀ x,x ∈ bk2→x ∈ bk:=fun x hx=>hpm.mem_iff.1 (by simp [hx])
    have hnd:(bk2++[bk.getD 0 0]).Nodup:=hpm.nodup_iff.2 h.nd
    rw [List.nodup_append] at hnd
    have f2:fr2≤201:=by
      by_cases e:fr2=fr
      · omega
      · have:=h.out (fr2 - 1) (n3 (fr2 - 1) (by omega) (by omega));omega
    refine ⟨by omega,hhp,hnd.1,fun x hx=>?_,fun i a b=>?_,fun i hi=>?_⟩
    · have q:=h.bk x (hsub x hx)
      refine ⟨q.1,by omega,?_⟩
      have:x ≠ bk.getD 0 0:=hnd.2.2 x hx _ (by simp)
      simp only [q.2.2,Bool.false_or,decide_eq_false_iff_not]
      exact this
    · by_cases c:i<fr
      · rcases h.all i a c with q | q
        · exact .inl (by simp [q])
        · have:=hpm.mem_iff.2 q
          rw [List.mem_append,List.mem_singleton] at this
          rcases this with r | r
          · exact .inr r
          · exact .inl (by simp only [Bool.or_eq_true,decide_eq_true_eq];exact .inr r)
      · exact .inl (by rw [n3 i (by omega) b];rfl)
    · simp only [Bool.or_eq_true,decide_eq_true_eq] at hi
      rcases hi with hi | hi
      · exact h.out i hi
      · omega
theorem PoolOK.give {O:Int→Bool} {fr:Int} {bk:List Int} (h:PoolOK O fr bk) {n:Int} {bk2:List Int} (hn:O n=true) (hg:GiveR fr bk n bk2):PoolOK (fun i=>O i && !decide (i=n)) fr bk2:=by
  have hn2:=h.out n hn
  have hnb:n ∉ bk:=fun q=>by rw [(h.bk n q).2.2] at hn;cases hn
  rcases hg with ⟨hlt,hpm,hhp⟩ | ⟨hge,rfl⟩
  · refine ⟨h.fr,hhp,hpm.nodup_iff.2 (List.nodup_append.2 ⟨h.nd,by simp,fun a ha b hb=>by rw [List.mem_singleton] at hb;rw [hb];intro e;exact hnb (e ▸ ha)⟩),fun x hx=>?_,fun i a b=>?_,fun i hi=>?_⟩
    · have:=hpm.mem_iff.1 hx
      rw [List.mem_append,List.mem_singleton] at this
      rcases this with r | r
      · have q:=h.bk x r;exact ⟨q.1,q.2.1,by simp [q.2.2]⟩
      · subst r;exact ⟨hn2.1,hlt,by simp⟩
    · by_cases e:i=n
      · exact .inr (hpm.mem_iff.2 (by rw [List.mem_append,List.mem_singleton];exact .inr e))
      · rcases h.all i a b with r | r
        · exact .inl (by simp [r,e])
        · exact .inr (hpm.mem_iff.2 (by rw [List.mem_append];exact .inl r))
    · simp only [Bool.and_eq_true] at hi
      exact h.out i hi.1
  · refine ⟨h.fr,h.hp,h.nd,fun x hx=>?_,fun i a b=>?_,fun i hi=>?_⟩
    · have q:=h.bk x hx;exact ⟨q.1,q.2.1,by simp [q.2.2]⟩
    · rcases h.all i a b with r | r
      · have:i ≠ n:=by omega
        exact .inl (by simp [r,this])
      · exact .inr r
    · simp only [Bool.and_eq_true] at hi
      exact h.out i hi.1
/-! ### what holds of such a list -/
def childL (L:List Item) (c p:Int):Prop:=∃ x ∈ L,x.inn=p∧x.e.dir=true∧x.e.node=c
structure LI (enc:Int) (L:List Item) (next:Int):Prop where
  node:∀ x ∈ L,1≤x.e.node∧x.e.node≤200
  good:∀ x ∈ L,GoodN x.e.name
  cook:∀ x ∈ L,1≤x.e.cookie∧x.e.cookie<next
  short:∀ x ∈ L,0≤x.e.short∧x.e.short<next
  fits:∀ x ∈ L,(x.e.short=0 ↔ (presS enc x.e.name).size≤255)
  home:∀ x ∈ L,dirL L x.inn=true
  asc:L.Pairwise fun x y=>x.e.cookie<y.e.cookie
  uniq:L.Pairwise fun x y=>x.e.node ≠ y.e.node
  names:L.Pairwise fun x y=>x.inn=y.inn→x.e.name ≠ y.e.name
  shorts:L.Pairwise fun x y=>x.inn=y.inn→x.e.short ≠ 0→x.e.short=y.e.short→hashI x.e.name ≠ hashI y.e.name
  wf:∀ d,Acc (childL L) d
  len:(L.length:Int)<next
structure TR (enc:Int) (L:List Item) (T:TreS):Prop where
  dirs:∀ d,T.dirs d=dirsL L d
  files:∀ n,T.files n=fileL L n
  out:∀ n,T.out n=outL L n
  pool:PoolOK T.out T.fr T.bk
  li:LI enc L T.next
theorem uniq_eq {L:List Item} (h:L.Pairwise fun x y=>x.e.node ≠ y.e.node):∀ {x y:Item},x ∈ L→y ∈ L→x.e.node=y.e.node→x=y:=by
  induction h with
  | nil=>intro x y hx;cases hx
  | cons h1 h2 ih =>
    intro x y hx hy e
    rcases List.mem_cons.1 hx with hx1 | hx1
    · rcases List.mem_cons.1 hy with hy1 | hy1
      · rw [hx1,hy1]
      · rw [hx1] at e;exact absurd e (h1 _ hy1)
    · rcases List.mem_cons.1 hy with hy1 | hy1
      · rw [hy1] at e;exact absurd e.symm (h1 _ hx1)
      · exact ih hx1 hy1 e
theorem LI.file_dir {enc:Int} {L:List Item} {next:Int} (h:LI enc L next) {x:Item} (hx:x ∈ L) (hd:x.e.dir=false):dirL L x.e.node=false:=by
  rw [Bool.eq_false_iff]
  intro q
  rcases dirL_iff.1 q with q | ⟨y,hy,e1,e2⟩
  · have:=h.node x hx;omega
  · rw [uniq_eq h.uniq hy hx e1] at e2;rw [hd] at e2;cases e2
theorem LI.dir_file {enc:Int} {L:List Item} {next:Int} (h:LI enc L next) {x:Item} (hx:x ∈ L) (hd:x.e.dir=true):fileL L x.e.node=false:=by
  rw [Bool.eq_false_iff]
  intro q
  obtain ⟨y,hy,e1,e2⟩:=fileL_iff.1 q
  rw [uniq_eq h.uniq hy hx e1] at e2;rw [hd] at e2;cases e2
theorem LI.zero {enc:Int}:LI enc [] 1:=by
  refine ⟨?_,?_,?_,?_,?_,?_,.nil,.nil,.nil,.nil,fun d=>⟨_,fun c hc=>?_⟩,by simp⟩
  all_goals first | (intro x hx;cases hx;done) | skip
  obtain ⟨x,hx,_⟩:=hc
  cases hx
/-! ### Link -/
theorem LI.link {enc:Int} {L:List Item} {next:Int} (h:LI enc L next) {d:Int} {name:ByteArray} {isDir:Bool} {short k:Int} (hd:dirL L d=true) (hk:1≤k∧k≤200) (hk2:outL L k=false) (hg:GoodN name) (hs:0≤short∧short≤next) (hf:short=0 ↔ (presS enc name).size≤255)
    (hn:∀ e ∈ inL L d,e.name ≠ name) (hsh:∀ e ∈ inL L d,e.short ≠ 0→e.short=short→hashI e.name ≠ hashI name):LI enc (L++[⟨d,⟨name,k,isDir,next,short⟩⟩]) (next+1):=by
  have hnk:∀ x ∈ L,x.e.node ≠ k:=fun x hx e=>by rw [Bool.eq_false_iff] at hk2;exact hk2 (outL_iff.2 ⟨x,hx,e⟩)
  have hkd:d ≠ k:=fun e=>by
    rcases dirL_iff.1 hd with q | ⟨y,hy,e1,_⟩
    · omega
    · exact hnk y hy (e1.trans e)
  have hkc:∀ x ∈ L,x.inn ≠ k:=fun x hx e=>by
    rcases dirL_iff.1 (h.home x hx) with q | ⟨y,hy,e1,_⟩
    · omega
    · exact hnk y hy (e1.trans e)
  have hl:=h.len
  refine ⟨?_,?_,?_,?_,?_,?_,?_,?_,?_,?_,?_,by simp;omega⟩
  · intro x hx;rcases List.mem_append.1 hx with hx | hx
    · exact h.node x hx
    · rw [List.mem_singleton] at hx;subst hx;exact hk
  · intro x hx;rcases List.mem_append.1 hx with hx | hx
    · exact h.good x hx
    · rw [List.mem_singleton] at hx;subst hx;exact hg
  · intro x hx;rcases List.mem_append.1 hx with hx | hx
    · have:=h.cook x hx;omega
    · rw [List.mem_singleton] at hx;subst hx;exact ⟨by show 1≤next;omega,by show next<next+1;omega⟩
  · intro x hx;rcases List.mem_append.1 hx with hx | hx
    · have:=h.short x hx;omega
    · rw [List.mem_singleton] at hx;subst hx;exact ⟨hs.1,by show short<next+1;omega⟩
  · intro x hx;rcases List.mem_append.1 hx with hx | hx
    · exact h.fits x hx
    · rw [List.mem_singleton] at hx;subst hx;exact hf
  · intro x hx
    rw [dirL_append]
    rcases List.mem_append.1 hx with hx | hx
    · rw [h.home x hx];rfl
    · rw [List.mem_singleton] at hx;subst hx;rw [show dirL L d=true from hd];rfl
  · rw [List.pairwise_append]
    exact ⟨h.asc,List.pairwise_singleton _ _,fun x hx y hy=>by rw [List.mem_singleton] at hy;subst hy;exact (h.cook x hx).2⟩
  · rw [List.pairwise_append]
    exact ⟨h.uniq,List.pairwise_singleton _ _,fun x hx y hy=>by rw [List.mem_singleton] at hy;subst hy;exact hnk x hx⟩
  · rw [List.pairwise_append]
    exact ⟨h.names,List.pairwise_singleton _ _,fun x hx y hy=>by rw [List.mem_singleton] at hy;subst hy;exact fun e=>hn _ (mem_inL.2 ⟨x,hx,e,rfl⟩)⟩
  · rw [List.pairwise_append]
    exact ⟨h.shorts,List.pairwise_singleton _ _,fun x hx y hy=>by rw [List.mem_singleton] at hy;subst hy;exact fun e=>hsh _ (mem_inL.2 ⟨x,hx,e,rfl⟩)⟩
  · have hak:Acc (childL (L++[⟨d,⟨name,k,isDir,next,short⟩⟩])) k:=⟨_,fun c hc=>by
      obtain ⟨x,hx,e1,_⟩:=hc
      rcases List.mem_append.1 hx with hx | hx
      · exact absurd e1 (hkc x hx)
      · rw [List.mem_singleton] at hx;subst hx;exact absurd e1 hkd⟩
    intro p
    induction h.wf p with
    | intro p _ ih =>
      refine ⟨_,fun c hc=>?_⟩
      obtain ⟨x,hx,e1,e2,e3⟩:=hc
      rcases List.mem_append.1 hx with hx | hx
      · exact ih c ⟨x,hx,e1,e2,e3⟩
      · rw [List.mem_singleton] at hx;subst hx
        have e3:k=c:=e3
        rw [← e3];exact hak
theorem TR.link {enc:Int} {L:List Item} {T:TreS} (h:TR enc L T) {d:Int} {name:ByteArray} {isDir:Bool} {short k fr2:Int} {bk2:List Int} (ht:TakeN T.out T.fr T.bk k fr2 bk2) (hk:k≤200) (hok:LinkOk T d name short) (hs:short≤T.next) (hf:short=0 ↔ (presS enc name).size≤255)
    (hsh:∀ e ∈ inL L d,e.short ≠ 0→e.short=short→hashI e.name ≠ hashI name):TR enc (L++[⟨d,⟨name,k,isDir,T.next,short⟩⟩]) (linkT T d name isDir short k fr2 bk2):=by
  obtain ⟨ok,k1,kall⟩:=h.pool.least ht
  obtain ⟨l,hl,hg,hs0,hs1,hfi⟩:=hok
  rw [h.dirs] at hl
  unfold dirsL at hl
  by_cases hd:dirL L d=true
  case neg=>rw [if_neg hd] at hl;cases hl
  rw [if_pos hd] at hl
  injection hl with hl
  subst hl
  have hok2:outL L k=false:=by rw [← h.out];exact ok
  have hli:=h.li.link (isDir:=isDir) hd ⟨k1,hk⟩ hok2 hg ⟨hs0,hs⟩ hf (fun e he q=>by have:=fidx_neg hfi e he;rw [Bool.eq_false_iff] at this;exact this (nameB_iff.2 q)) hsh
  have hnk:∀ x ∈ L,x.e.node ≠ k:=fun x hx e=>by rw [Bool.eq_false_iff] at hok2;exact hok2 (outL_iff.2 ⟨x,hx,e⟩)
  have hkc:∀ x ∈ L,x.inn ≠ k:=fun x hx e=>by
    rcases dirL_iff.1 (h.li.home x hx) with q | ⟨y,hy,e1,_⟩
    · omega
    · exact hnk y hy (e1.trans e)
  have hkd:d ≠ k:=fun e=>by
    rcases dirL_iff.1 hd with q | ⟨y,hy,e1,_⟩
    · omega
    · exact hnk y hy (e1.trans e)
  have hink:inL L k=[]:=by
    cases hq:inL L k with
    | nil=>rfl
    | cons e r =>
      obtain ⟨x,hx,e1,_⟩:=mem_inL.1 (show e ∈ inL L k by rw [hq];simp)
      exact absurd e1 (hkc x hx)
  have hdk:dirL L k=false:=by
    rw [Bool.eq_false_iff]
    intro q
    rcases dirL_iff.1 q with q | ⟨y,hy,e1,_⟩
    · omega
    · exact hnk y hy e1
  refine ⟨fun i=>?_,fun n=>?_,fun n=>?_,h.pool.take ht hk,hli⟩
  · unfold linkT putT nodeT dirsL
    simp only
    rw [dirL_append,inL_append,inL_one]
    by_cases ei:i=d
    · subst ei
      rw [if_pos rfl,if_pos (show (dirL L i || [(⟨i,⟨name,k,isDir,T.next,short⟩⟩:Item)].any fun x=>decide (x.e.node=i) && x.e.dir)=true by rw [hd];rfl),if_pos rfl]
      cases isDir with
      | false =>
        simp only [Bool.false_eq_true,if_false]
        rw [h.dirs]
        unfold dirsL
        rw [if_pos hd]
        rfl
      | true =>
        simp only [if_true]
        rw [if_neg hkd,h.dirs]
        unfold dirsL
        rw [if_pos hd]
        rfl
    · rw [if_neg ei,if_neg (show ¬ d=i from fun e=>ei e.symm),List.append_nil]
      by_cases ek:i=k
      · subst ek
        rw [hdk,hink]
        cases isDir with
        | false =>
          simp only [Bool.false_eq_true,if_false,List.any_cons,List.any_nil]
          rw [h.dirs]
          unfold dirsL
          rw [hdk]
          simp
        | true=>simp
      · have e1:([(⟨d,⟨name,k,isDir,T.next,short⟩⟩:Item)].any fun x=>decide (x.e.node=i) && x.e.dir)=false:=by
          simp only [List.any_cons,List.any_nil,Bool.or_false,Bool.and_eq_false_imp,decide_eq_true_eq]
          intro q;exact absurd q.symm ek
        rw [e1,Bool.or_false]
        cases isDir with
        | false=>simp only [Bool.false_eq_true,if_false];rw [h.dirs];rfl
        | true=>simp only [if_true];rw [if_neg ek,h.dirs];rfl
  · unfold linkT putT nodeT fileL
    simp only
    rw [List.any_append]
    cases isDir with
    | false =>
      simp only [Bool.false_eq_true,if_false,List.any_cons,List.any_nil,Bool.not_false,Bool.and_true,Bool.or_false]
      rw [h.files]
      unfold fileL
      congr 1
      exact decide_eq_decide.2 ⟨fun e=>e.symm,fun e=>e.symm⟩
    | true =>
      simp only [if_true,List.any_cons,List.any_nil,Bool.not_true,Bool.and_false,Bool.or_false]
      rw [h.files]
      rfl
  · unfold linkT putT nodeT outL
    simp only
    rw [List.any_append,h.out]
    unfold outL
    simp only [List.any_cons,List.any_nil,Bool.or_false]
    congr 1
    exact decide_eq_decide.2 ⟨fun e=>e.symm,fun e=>e.symm⟩
def outOf (L:List Item) (n:Int):List Item:=L.filter fun x=>decide (x.e.node ≠ n)
theorem mem_outOf {L:List Item} {n:Int} {x:Item}:x ∈ outOf L n ↔ x ∈ L∧x.e.node ≠ n:=by unfold outOf;simp [List.mem_filter]
theorem inL_outOf (L:List Item) (n d:Int):inL (outOf L n) d=(inL L d).filter fun e=>decide (e.node ≠ n):=by
  unfold inL outOf
  rw [List.filter_map,List.filter_filter,List.filter_filter]
  congr 1
  exact List.filter_congr fun x _=>Bool.and_comm _ _
theorem filter_at {l:List Ent} (hu:l.Pairwise fun x y=>x.node ≠ y.node):∀ {k:Nat} (hk:k<l.length),l.filter (fun e=>decide (e.node ≠ l[k].node))=l.take k++l.drop (k+1):=by
  induction hu with
  | nil=>intro k hk;simp at hk
  | @cons x l h1 h2 ih =>
    intro k hk
    cases k with
    | zero =>
      rw [List.filter_cons]
      simp only [List.getElem_cons_zero,ne_eq,not_true_eq_false,decide_false,Bool.false_eq_true,if_false,List.take_zero,List.nil_append]
      show _=l.drop 0
      rw [List.drop_zero,List.filter_eq_self]
      intro y hy
      simpa using fun e=>h1 y hy e.symm
    | succ k =>
      have hk2:k<l.length:=by simpa using hk
      have:=ih hk2
      rw [List.filter_cons]
      have e1:(x :: l)[k+1]=l[k]:=rfl
      rw [if_pos (by rw [e1];simpa using h1 _ (List.getElem_mem hk2))]
      rw [e1,this]
      rfl
theorem inL_uniq {L:List Item} (h:L.Pairwise fun x y=>x.e.node ≠ y.e.node) (d:Int):(inL L d).Pairwise fun x y=>x.node ≠ y.node:=by
  unfold inL
  rw [List.pairwise_map]
  exact h.sublist List.filter_sublist
theorem fileL_outOf (L:List Item) (n i:Int):fileL (outOf L n) i=(fileL L i && !decide (i=n)):=by
  rw [Bool.eq_iff_iff,Bool.and_eq_true,fileL_iff,fileL_iff]
  simp only [Bool.not_eq_true',decide_eq_false_iff_not]
  constructor
  · rintro ⟨x,hx,e1,e2⟩
    have:=mem_outOf.1 hx
    exact ⟨⟨x,this.1,e1,e2⟩,fun e=>this.2 (e1.trans e)⟩
  · rintro ⟨⟨x,hx,e1,e2⟩,hn⟩
    exact ⟨x,mem_outOf.2 ⟨hx,fun e=>hn (e1.symm.trans e)⟩,e1,e2⟩
theorem outL_outOf (L:List Item) (n i:Int):outL (outOf L n) i=(outL L i && !decide (i=n)):=by
  rw [Bool.eq_iff_iff,Bool.and_eq_true,outL_iff,outL_iff]
  simp only [Bool.not_eq_true',decide_eq_false_iff_not]
  constructor
  · rintro ⟨x,hx,e1⟩
    have:=mem_outOf.1 hx
    exact ⟨⟨x,this.1,e1⟩,fun e=>this.2 (e1.trans e)⟩
  · rintro ⟨⟨x,hx,e1⟩,hn⟩
    exact ⟨x,mem_outOf.2 ⟨hx,fun e=>hn (e1.symm.trans e)⟩,e1⟩
theorem dirL_outOf {L:List Item} {n:Int} (hn:1≤n) (i:Int):dirL (outOf L n) i=(dirL L i && !decide (i=n)):=by
  rw [Bool.eq_iff_iff,Bool.and_eq_true,dirL_iff,dirL_iff]
  simp only [Bool.not_eq_true',decide_eq_false_iff_not]
  constructor
  · rintro (h | ⟨x,hx,e1,e2⟩)
    · exact ⟨.inl h,by omega⟩
    · have:=mem_outOf.1 hx
      exact ⟨.inr ⟨x,this.1,e1,e2⟩,fun e=>this.2 (e1.trans e)⟩
  · rintro ⟨h | ⟨x,hx,e1,e2⟩,hn⟩
    · exact .inl h
    · exact .inr ⟨x,mem_outOf.2 ⟨hx,fun e=>hn (e1.symm.trans e)⟩,e1,e2⟩
theorem outOf_len (L:List Item) (n:Int):(outOf L n).length≤L.length:=List.length_filter_le _ _
theorem LI.unlink {enc:Int} {L:List Item} {next:Int} (h:LI enc L next) {x:Item} (hx:x ∈ L) (he:inL L x.e.node=[]):LI enc (outOf L x.e.node) next:=by
  have hs:(outOf L x.e.node).Sublist L:=List.filter_sublist
  have hm:∀ y,y ∈ outOf L x.e.node→y ∈ L:=fun y hy=>(mem_outOf.1 hy).1
  have hc:∀ y ∈ L,y.inn ≠ x.e.node:=fun y hy e=>by
    have:y.e ∈ inL L x.e.node:=mem_inL.2 ⟨y,hy,e,rfl⟩
    rw [he] at this;cases this
  exact ⟨fun y hy=>h.node y (hm y hy),fun y hy=>h.good y (hm y hy),fun y hy=>h.cook y (hm y hy),fun y hy=>h.short y (hm y hy),fun y hy=>h.fits y (hm y hy),
    fun y hy=>by rw [dirL_outOf (h.node x hx).1,h.home y (hm y hy)];simpa using hc y (hm y hy),
    h.asc.sublist hs,h.uniq.sublist hs,h.names.sublist hs,h.shorts.sublist hs,
    fun d=>Subrelation.accessible (r:=childL L) (fun {a b} ⟨y,hy,r⟩=>⟨y,hm y hy,r⟩) (h.wf d),by have:=h.len;have:=outOf_len L x.e.node;omega⟩
structure StAt (L:List Item) (T:TreS) (d:Int) (k:Nat) (x:Item):Prop where
  mem:x ∈ L
  inn:x.inn=d
  lt:k<(inL L d).length
  get:(inL L d)[k]'lt=x.e
theorem TR.dropAt {enc:Int} {L:List Item} {T:TreS} (h:TR enc L T) {d:Int} {k:Nat} {x:Item} (ha:StAt L T d k x) (i:Int):(dropT T d k).dirs i=if dirL L i=true then some (inL (outOf L x.e.node) i) else none:=by
  obtain ⟨hx,hi,hk,hg⟩:=ha
  have hd:dirL L d=true:=hi ▸ h.li.home x hx
  unfold dropT
  simp only
  rw [h.dirs,h.dirs]
  unfold dirsL
  rw [inL_outOf]
  by_cases e:i=d
  · subst e
    rw [if_pos rfl,if_pos hd,if_pos hd,Option.getD_some]
    have:=filter_at (inL_uniq h.li.uniq i) hk
    rw [hg] at this
    rw [this]
  · rw [if_neg e]
    by_cases q:dirL L i=true
    · rw [if_pos q,if_pos q]
      congr 1
      refine (List.filter_eq_self.2 fun e' he'=>?_).symm
      obtain ⟨y,hy,e1,rfl⟩:=mem_inL.1 he'
      simp only [ne_eq,decide_not,Bool.not_eq_true',decide_eq_false_iff_not]
      intro e2
      have:=uniq_eq h.li.uniq hy hx e2
      subst this
      exact e (e1.symm.trans hi)
    · rw [if_neg q,if_neg q]
theorem TR.unlink {enc:Int} {L:List Item} {T:TreS} (h:TR enc L T) {d:Int} {k:Nat} {x:Item} (ha:StAt L T d k x) (he:inL L x.e.node=[]) {bk2:List Int} (hg:GiveR T.fr T.bk x.e.node bk2):TR enc (outOf L x.e.node) (unlinkT T d k x.e.node bk2):=by
  have hx:=ha.mem
  have ho:T.out x.e.node=true:=by rw [h.out];exact outL_iff.2 ⟨x,hx,rfl⟩
  refine ⟨fun i=>?_,fun n=>?_,fun n=>?_,h.pool.give ho hg,h.li.unlink hx he⟩
  · unfold unlinkT dirsL
    simp only
    rw [h.dropAt ha,dirL_outOf (h.li.node x hx).1]
    by_cases e:i=x.e.node
    · rw [if_pos e];simp [e]
    · rw [if_neg e];simp [e]
  · unfold unlinkT
    simp only
    rw [fileL_outOf,h.files]
  · unfold unlinkT
    simp only
    rw [outL_outOf,h.out]
/-! ### Move -/
inductive Under (L:List Item) (a:Int):Int→Prop
  | refl:Under L a a
  | step {b c:Int}:Under L a b→childL L c b→Under L a c
def moveT (T:TreS) (d:Int) (k:Nat) (dst:Int) (e:Ent):TreS:=putT (dropT T d k) dst e
theorem LI.move {enc:Int} {L:List Item} {next:Int} (h:LI enc L next) {x:Item} (hx:x ∈ L) {dst:Int} {name:ByteArray} {short:Int} (hd:dirL L dst=true) (hu:¬ Under L x.e.node dst) (hg:GoodN name) (hs:0≤short∧short≤next) (hf:short=0 ↔ (presS enc name).size≤255)
    (hn:∀ e ∈ inL L dst,e.name ≠ name) (hsh:∀ e ∈ inL L dst,e.short ≠ 0→e.short=short→hashI e.name ≠ hashI name):LI enc (outOf L x.e.node++[⟨dst,⟨name,x.e.node,x.e.dir,next,short⟩⟩]) (next+1):=by
  have hs0:(outOf L x.e.node).Sublist L:=List.filter_sublist
  have hm:∀ y,y ∈ outOf L x.e.node→y ∈ L:=fun y hy=>(mem_outOf.1 hy).1
  have hl:=h.len
  have hol:=outOf_len L x.e.node
  refine ⟨?_,?_,?_,?_,?_,?_,?_,?_,?_,?_,?_,by simp;omega⟩
  · intro y hy;rcases List.mem_append.1 hy with hy | hy
    · exact h.node y (hm y hy)
    · rw [List.mem_singleton] at hy;subst hy;exact h.node x hx
  · intro y hy;rcases List.mem_append.1 hy with hy | hy
    · exact h.good y (hm y hy)
    · rw [List.mem_singleton] at hy;subst hy;exact hg
  · intro y hy;rcases List.mem_append.1 hy with hy | hy
    · have:=h.cook y (hm y hy);omega
    · rw [List.mem_singleton] at hy;subst hy;exact ⟨by show 1≤next;omega,by show next<next+1;omega⟩
  · intro y hy;rcases List.mem_append.1 hy with hy | hy
    · have:=h.short y (hm y hy);omega
    · rw [List.mem_singleton] at hy;subst hy;exact ⟨hs.1,by show short<next+1;omega⟩
  · intro y hy;rcases List.mem_append.1 hy with hy | hy
    · exact h.fits y (hm y hy)
    · rw [List.mem_singleton] at hy;subst hy;exact hf
  · have hw:∀ i,dirL L i=true→dirL (outOf L x.e.node++[⟨dst,⟨name,x.e.node,x.e.dir,next,short⟩⟩]) i=true:=fun i hi=>by
      rcases dirL_iff.1 hi with q | ⟨y,hy,e1,e2⟩
      · exact dirL_iff.2 (.inl q)
      · by_cases e:y.e.node=x.e.node
        · have:=uniq_eq h.uniq hy hx e
          subst this
          exact dirL_iff.2 (.inr ⟨_,List.mem_append.2 (.inr (List.mem_singleton.2 rfl)),e1,e2⟩)
        · exact dirL_iff.2 (.inr ⟨y,List.mem_append.2 (.inl (mem_outOf.2 ⟨hy,e⟩)),e1,e2⟩)
    intro y hy;rcases List.mem_append.1 hy with hy | hy
    · exact hw _ (h.home y (hm y hy))
    · rw [List.mem_singleton] at hy;subst hy;exact hw _ hd
  · rw [List.pairwise_append]
    exact ⟨h.asc.sublist hs0,List.pairwise_singleton _ _,fun y hy z hz=>by rw [List.mem_singleton] at hz;subst hz;exact (h.cook y (hm y hy)).2⟩
  · rw [List.pairwise_append]
    exact ⟨h.uniq.sublist hs0,List.pairwise_singleton _ _,fun y hy z hz=>by rw [List.mem_singleton] at hz;subst hz;exact (mem_outOf.1 hy).2⟩
  · rw [List.pairwise_append]
    exact ⟨h.names.sublist hs0,List.pairwise_singleton _ _,fun y hy z hz=>by rw [List.mem_singleton] at hz;subst hz;exact fun e=>hn _ (mem_inL.2 ⟨y,hm y hy,e,rfl⟩)⟩
  · rw [List.pairwise_append]
    exact ⟨h.shorts.sublist hs0,List.pairwise_singleton _ _,fun y hy z hz=>by rw [List.mem_singleton] at hz;subst hz;exact fun e=>hsh _ (mem_inL.2 ⟨y,hm y hy,e,rfl⟩)⟩
  · have hA:∀ p,Under L x.e.node p→Acc (childL (outOf L x.e.node++[⟨dst,⟨name,x.e.node,x.e.dir,next,short⟩⟩])) p:=by
      intro p
      induction h.wf p with
      | intro p _ ih =>
        intro hp
        refine ⟨_,fun c hc=>?_⟩
        obtain ⟨y,hy,e1,e2,e3⟩:=hc
        rcases List.mem_append.1 hy with hy | hy
        · have q:childL L c p:=⟨y,hm y hy,e1,e2,e3⟩
          exact ih c q (.step hp q)
        · rw [List.mem_singleton] at hy;subst hy
          have e1:dst=p:=e1
          subst e1
          exact absurd hp hu
    intro p
    induction h.wf p with
    | intro p _ ih =>
      refine ⟨_,fun c hc=>?_⟩
      obtain ⟨y,hy,e1,e2,e3⟩:=hc
      rcases List.mem_append.1 hy with hy | hy
      · exact ih c ⟨y,hm y hy,e1,e2,e3⟩
      · rw [List.mem_singleton] at hy;subst hy
        have e3:x.e.node=c:=e3
        subst e3
        exact hA _ .refl
theorem TR.move {enc:Int} {L:List Item} {T:TreS} (h:TR enc L T) {d:Int} {k:Nat} {x:Item} (ha:StAt L T d k x) {dst:Int} {name:ByteArray} {short:Int} (hd:dirL L dst=true) (hu:¬ Under L x.e.node dst) (hg:GoodN name) (hs:0≤short∧short≤T.next) (hf:short=0 ↔ (presS enc name).size≤255)
    (hn:∀ e ∈ inL L dst,e.name ≠ name) (hsh:∀ e ∈ inL L dst,e.short ≠ 0→e.short=short→hashI e.name ≠ hashI name):TR enc (outOf L x.e.node++[⟨dst,⟨name,x.e.node,x.e.dir,T.next,short⟩⟩]) (moveT T d k dst ⟨name,x.e.node,x.e.dir,0,short⟩):=by
  have hx:=ha.mem
  have hnx:=h.li.node x hx
  refine ⟨fun i=>?_,fun n=>?_,fun n=>?_,h.pool,h.li.move hx hd hu hg hs hf hn hsh⟩
  · unfold moveT putT dirsL
    simp only
    rw [h.dropAt ha,h.dropAt ha,dirL_append,dirL_outOf hnx.1,inL_append,inL_one]
    have e2:((dirL L i && !decide (i=x.e.node)) || ([(⟨dst,⟨name,x.e.node,x.e.dir,T.next,short⟩⟩:Item)].any fun y=>decide (y.e.node=i) && y.e.dir))=dirL L i:=by
      simp only [List.any_cons,List.any_nil,Bool.or_false]
      by_cases e:i=x.e.node
      · subst e
        cases hdx:x.e.dir with
        | true=>simp;exact dirL_iff.2 (.inr ⟨x,hx,rfl,hdx⟩)
        | false=>simp;exact h.li.file_dir hx hdx
      · have e':¬ x.e.node=i:=fun q=>e q.symm
        simp [e,e']
    rw [e2]
    by_cases e:i=dst
    · subst e
      rw [if_pos rfl,if_pos hd,if_pos hd,if_pos rfl]
      rfl
    · rw [if_neg e,if_neg (show ¬ dst=i from fun q=>e q.symm),List.append_nil]
  · unfold moveT putT dropT
    simp only
    rw [h.files]
    unfold fileL
    rw [List.any_append]
    show fileL L n=(fileL (outOf L x.e.node) n || _)
    rw [fileL_outOf]
    simp only [List.any_cons,List.any_nil,Bool.or_false]
    by_cases e:n=x.e.node
    · subst e
      cases hdx:x.e.dir with
      | true=>simp;exact h.li.dir_file hx hdx
      | false=>simp;exact fileL_iff.2 ⟨x,hx,rfl,hdx⟩
    · have e':¬ x.e.node=n:=fun q=>e q.symm
      simp [e,e']
  · unfold moveT putT dropT
    simp only
    rw [h.out]
    unfold outL
    rw [List.any_append]
    show outL L n=(outL (outOf L x.e.node) n || _)
    rw [outL_outOf]
    simp only [List.any_cons,List.any_nil,Bool.or_false]
    by_cases e:n=x.e.node
    · subst e
      simp;exact outL_iff.2 ⟨x,hx,rfl⟩
    · have e':¬ x.e.node=n:=fun q=>e q.symm
      simp [e,e']
open Go.RowKit
def LinkS (R:Int→Int→List Int→Prop) (T:TreS) (d:Int) (name:ByteArray) (isDir:Bool) (short:Int) (k t q qt:Nat) (a b:Int) (k2 t2 q2:Nat) (T2:TreS) (qt2:Nat):Prop :=
  (b ≠ 0∧a=0∧(LinkErr T d name short b∨(LinkOk T d name short∧b=12∧∃ k fr bk,R k fr bk∧200<k))∧k2=k∧t2=t∧q2=q∧T2=T∧qt2=qt) ∨
  (LinkOk T d name short∧∃ fr bk,R a fr bk∧a≤200∧b=0∧k2=k+1∧t2=t+kfr (name.size+9)∧q2=q+kfr (name.size+9)∧T2=linkT T d name isDir short a fr bk∧qt2=qt+3)
theorem TB.link {T:TreS} {qt:Nat} (h:TB T qt) (hq:qt+3≤100000) (hl:∀ i l,T.dirs i=some l→l.length+1≤10000) (hn:T.next+1≤100000) {d:Int} {name:ByteArray} {isDir:Bool} {short k fr:Int} {bk:List Int} (hb:bk.length≤100000):TB (linkT T d name isDir short k fr bk) (qt+3):=by
  have hN:∀ i l,(nodeT T isDir k fr bk).dirs i=some l→l.length+1≤10000:=fun i l hh=>by
    unfold nodeT at hh
    simp only at hh
    cases isDir with
    | false=>exact hl i l hh
    | true =>
      simp only [if_true] at hh
      split at hh
      · injection hh with hh;subst hh;simp
      · exact hl i l hh
  refine ⟨hq,hb,fun i l hh=>?_,?_⟩
  · unfold linkT putT at hh
    simp only at hh
    split at hh
    · injection hh with hh
      subst hh
      rw [List.length_append,List.length_singleton]
      cases hd:(nodeT T isDir k fr bk).dirs d with
      | none=>simp
      | some l'=>have:=hN d l' hd;simp;omega
    · have:=hN i l hh;omega
  · have:=h.next
    show 0≤(nodeT T isDir k fr bk).next+1∧(nodeT T isDir k fr bk).next+1≤100000
    have e:(nodeT T isDir k fr bk).next=T.next:=rfl
    rw [e]
    omega
theorem sdo_link (R:Int→Int→List Int→Prop) (F:Nat→Prop) (s p:Nat) (m n:Int) (k t q:Nat) (T:TreS) (qt:Nat) (w:World) (h:StoAt w F s p m n k t q T qt) (hT:Takes R T qt) (hRb:∀ i fr bk,R i fr bk→bk.length≤100000) (dir:Int) (name:ByteArray) (isDir:Bool) (short:Int) (hd:0≤dir∧dir≤65535) (hs:0≤short∧short≤1000000) (hnm:name.size≤255)
    (hB:TB T qt) (hqt:qt+3≤100000) (hl:∀ i l,T.dirs i=some l→l.length+1≤10000) (hnx:T.next+1≤100000) (hm:0≤m∧m+m≤n) (hn:n≤1000000) (ht:1≤t) (hfit:(t:Int)+5≤m) (hq:q≤70000) (hk:k≤100000) :
    Calls Tryz.prog 127 #[.pointer (some ⟨s,0,none⟩),deedV 1 dir 0 name ⟨#[]⟩ isDir short] w (SdoG (LinkS R T dir name isDir short k t q qt) F s p m n w):=by
  refine (sdo_any R F s p m n k t q T qt w h hT dir name isDir short hd hs hnm hB.qt hB.bk (fun i l hh=>by have:=hl i l hh;omega) hB.next hm hn ht hfit hq hk).mono ?_
  rintro e w' (⟨r,hr,hre,rfl,hf⟩ | ⟨hok,i,fr,bk,F',hR,hi,rfl,hst,hm2,hg⟩)
  · exact ⟨0,r,k,t,q,T,qt,F,.inl ⟨hr,rfl,hre,rfl,rfl,rfl,rfl,rfl⟩,rfl,h.fresh hf,hB,hf.mut F,(Gr.refl F w).later hf.size⟩
  · exact ⟨i,0,k+1,_,_,_,qt+3,F',.inr ⟨hok,fr,bk,hR,hi,rfl,rfl,rfl,rfl,rfl,rfl⟩,rfl,hst,hB.link hqt hl hnx (hRb i fr bk hR),hm2,hg⟩
def MakeG (S:Int→Int→Nat→Nat→Nat→TreS→Nat→Prop) (r:Int × ByteArray × Int) (F:Nat→Prop) (f:Nat) (enc:Int) (p:Nat) (m n:Int) (w:World) (e:Ending) (w':World):Prop :=
  (r.2.2 ≠ 0∧e=.returned (.tuple #[.int .i64 0,.int .i64 r.2.2])∧Fresh w w')∨(r.2.2=0∧FdoG S F f enc p m n w e w')
set_option maxRecDepth 100000 in
set_option maxHeartbeats 1600000 in
theorem fmake_any (S:Int→Int→Nat→Nat→Nat→TreS→Nat→Prop) (F:Nat→Prop) (f:Nat) (enc:Int) (p:Nat) (m n:Int) (k t q:Nat) (T:TreS) (qt:Nat) (w:World) (h:FsAt w F f enc p m n k t q T qt) (hT:TOK enc T) (hGT:GT w) (path:ByteArray) (isDir:Bool) (hp:path.size≤1000000) (h0:0≤enc) (h8:enc≤8)
    (HS:(freshR enc T path).2.2=0→∀ W Fs s,Fresh w W→StoAt W Fs s p m n k t q T qt→Calls Tryz.prog 127 #[.pointer (some ⟨s,0,none⟩),deedV 1 (freshR enc T path).1 0 (freshR enc T path).2.1 ⟨#[]⟩ isDir 0] W (SdoG S Fs s p m n W)) :
    Calls Tryz.prog 29 #[.pointer (some ⟨f,0,none⟩),.string path,.bool isDir] w (MakeG S (freshR enc T path) F f enc p m n w):=by
  have HO:=Lib.hid (fover_any F f enc p m n k t q T qt w h)
  have HFR:Hid (Calls Tryz.prog 69 #[.pointer (some ⟨f,0,none⟩),.string path] w (ParF (freshR enc T path) w)):=Lib.hid (by
    obtain ⟨s,tr,Fs,At,hb,hFf,hFs,hAt,hf1,hf2,hd,hs,ht,hF⟩:=h
    exact fresh_any enc At f s tr T qt hT w hb ht hGT path hp h0 h8)
  have HDO:=Lib.hid (fun (hz:(freshR enc T path).2.2=0) W (hW:Fresh w W)=>fdo_any S 1 (freshR enc T path).1 0 (freshR enc T path).2.1 ⟨#[]⟩ isDir 0 F f enc p m n k t q T qt W (h.fresh hW) (fun W' Fs s hW' hs=>HS hz W' Fs s (hW.trans hW') hs))
  obtain ⟨r,hr⟩:∃ r,freshR enc T path=r:=⟨_,rfl⟩
  rw [hr] at HFR HDO ⊢
  obtain ⟨d,raw,j⟩:=r
  unfold ParF at HFR
  simp only at HFR HDO
  clear h HS hT hr
  by_cases hj:j=0
  · subst hj
    have HDO2:=Lib.hid (HDO.out rfl)
    clear HDO
    go_enter Tryz.func29,Tryz.ntmps29
    go_wp2_with fail
    refine HO.out.mono ?_
    rintro e w1 ⟨rfl,rfl⟩
    go_wp2_with fail
    refine HFR.out.mono ?_
    rintro e w2 ⟨rfl,hf2⟩
    have HF2:=Lib.hid hf2
    clear hf2
    go_wp2_with fail
    refine (HDO2.out w2 HF2.out).mono ?_
    rintro e w3 ⟨a,b,k2,t2,q2,T2,qt2,F2,hS,rfl,hfs,hTB,hm,hg⟩
    have HFIN:Hid (MakeG S (d,raw,0) F f enc p m n w (.returned (.tuple #[.int .i64 a,.int .i64 b])) w3):=Lib.hid (.inr ⟨rfl,a,b,k2,t2,q2,T2,qt2,F2,hS,rfl,hfs,hTB,HF2.out.andMut hm,hg.ahead HF2.out.size⟩)
    clear hS hfs hTB hm hg
    go_wp2
    go_ret2
    exact HFIN.out
  · have hjb:(j != 0)=true:=by simp [hj]
    have HJ:=Lib.hid hj
    clear hj HDO
    go_enter Tryz.func29,Tryz.ntmps29
    go_wp2_with fail
    refine HO.out.mono ?_
    rintro e w1 ⟨rfl,rfl⟩
    go_wp2_with fail
    refine HFR.out.mono ?_
    rintro e w2 ⟨rfl,hf2⟩
    go_wp2
    go_ret2
    exact .inl ⟨HJ.out,rfl,hf2⟩
open Go.RowKit
attribute [local go_sem ↓] Go.wp_at_zero Go.wp_at_succ
theorem TOK.t0 {enc:Int} {T:TreS} (h:IsT0 T):TOK enc T:=by
  have hd:∀ d l,T.dirs d=some l→l=[]:=fun d l hl=>by
    rw [h.1] at hl
    split at hl
    · injection hl with hl;exact hl.symm
    · cases hl
  exact ⟨fun d l hl e he=>by rw [hd d l hl] at he;simp at he,fun d l hl=>by rw [hd d l hl];simp,fun d l hl e he=>by rw [hd d l hl] at he;simp at he⟩
theorem TB.t0 {T:TreS} {qt:Nat} (h:IsT0 T) (hq:qt≤100000):TB T qt:=by
  have hd:∀ d l,T.dirs d=some l→l=[]:=fun d l hl=>by
    rw [h.1] at hl
    split at hl
    · injection hl with hl;exact hl.symm
    · cases hl
  obtain ⟨_,h2,_,_,_,h6⟩:=h
  exact ⟨hq,by rw [h6];simp,fun d l hl=>by rw [hd d l hl];simp,by rw [h2];omega⟩
theorem enters_clean1:∀ (args:Array Value) (W:World),Sem.run Tryz.prog (callFunc 81 args) W=.ok (.enter 81 args) W:=by intro args w;go_simp
set_option maxHeartbeats 800000 in
theorem names_nil (enc:Int) (a:Option Addr) (c:Nat) (w:World):Calls Tryz.prog 74 #[.int .i64 enc,.slice a 0 c] w fun e w'=>e=.returned (.slice none 0 0)∧w=w':=by
  go_enter Tryz.func74,Tryz.ntmps74
  go_wp2
  refine wp_loop_rounds 1 ?_
  rw [rounds_succ]
  go_wp2
  go_ret
  exact ⟨rfl,rfl⟩
set_option maxHeartbeats 800000 in
theorem clean_nil (enc:Int) (a:Option Addr) (c:Nat) (w:World):Calls Tryz.prog 38 #[.int .i64 enc,.slice a 0 c] w fun e w'=>e=.returned (.bool true)∧Fresh w w':=by
  have hf:Fresh w (w.alloc (.cells #[.int .i64 enc] 3)):=(Fresh.refl _).alloc _
  have HX:=Lib.hid (fun W=>containsFunc_any (fun _=>True) (.slice a 0 c) [] W ⟨by simp [ecs],a,c,rfl,Nat.zero_le _,.inl rfl⟩ (by simp) 81 #[] #[.pointer (some ⟨w.heap.size,0,none⟩)] (fun _=>false) ⟨enters_clean1,fun W hW e he=>by simp at he⟩)
  have HN:=Lib.hid (fun W=>names_nil enc a c W)
  have HS:=Lib.hid (fun W=>Tryz.slices_Sort_string_none none 0 W)
  have HC:=Lib.hid (fun W=>Tryz.slices_Compact_string_empty none 0 W)
  have hfx:fidx (fun _:Ent=>false) []=-1:=rfl
  rw [hfx] at HX
  clear hf hfx
  go_enter Tryz.func38,Tryz.ntmps38
  go_wp2_with fail
  refine (HX.out _).mono ?_
  rintro e w1 ⟨rfl,hf1⟩
  have HF:=Lib.hid (((Fresh.refl w).alloc _).trans hf1)
  have c0:w1.cell? ⟨w.heap.size,0,none⟩=some (.int .i64 enc):=((Blk.new w 3 #[.int .i64 enc]).keep hf1).cell 0
  clear hf1
  go_wp2_with fail
  refine (HN.out _).mono ?_
  rintro e w2 ⟨rfl,rfl⟩
  go_wp2_with fail
  refine (HS.out _).mono ?_
  rintro e w3 ⟨rfl,rfl⟩
  go_wp2_with fail
  refine (HC.out _).mono ?_
  rintro e w3 ⟨rfl,rfl⟩
  go_wp2
  go_ret
  exact ⟨rfl,HF.out⟩
end Go.Proofs.YtpmlggjhfiljmaaGreatDoor
