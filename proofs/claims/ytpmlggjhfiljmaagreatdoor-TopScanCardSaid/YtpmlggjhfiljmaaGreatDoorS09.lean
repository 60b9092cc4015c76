/- Part 9 of what the law rests on. -/
import Derived.WalkSpells
import Derived.Deep.RegionLaw
import Derived.Deep.RegionHeld3
import Derived.Deep.QuietTactic
import Derived.BigQuiet
import Derived.Test.YtpmlggjhfiljmaaGreatDoorS01
import Derived.Test.YtpmlggjhfiljmaaGreatDoorS08
set_option linter.all false
namespace Go.Proofs.YtpmlggjhfiljmaaGreatDoor
open Go.RowKit
structure Ent where
  name:ByteArray
  node:Int
  dir:Bool
  cookie:Int
  short:Int
def ec (e:Ent):List Value:=[.string e.name,.int .i64 e.node,.bool e.dir,.int .i64 e.cookie,.int .i64 e.short]
def ecs (l:List Ent):List Value:=l.flatMap ec
abbrev entV (e:Ent):Value:=.agg #[.string e.name,.int .i64 e.node,.bool e.dir,.int .i64 e.cookie,.int .i64 e.short]
theorem ecs_len (l:List Ent):(ecs l).length=l.length * 5:=by
  induction l with
  | nil=>rfl
  | cons x l ih=>unfold ecs at *;rw [List.flatMap_cons,List.length_append,ih];simp [ec];omega
theorem ecs_append (a b:List Ent):ecs (a++b)=ecs a++ecs b:=by unfold ecs;rw [List.flatMap_append]
theorem ecs_get:∀ (xs:List Ent) (k:Nat) (hk:k<xs.length) (j:Nat),j<5→(ecs xs)[k * 5+j]?=(ec xs[k])[j]?
  | [],k,hk,_,_=>by simp at hk
  | x :: l,0,_,j,hj=>by
    unfold ecs
    rw [List.flatMap_cons,List.getElem?_append_left (by simp [ec];omega)]
    simp
  | x :: l,k+1,hk,j,hj=>by
    have ih:=ecs_get l k (by simpa using hk) j hj
    unfold ecs at *
    rw [List.flatMap_cons,List.getElem?_append_right (by simp [ec];omega)]
    have:(k+1) * 5+j - (ec x).length=k * 5+j:=by simp [ec];omega
    rw [this,ih]
    simp
def OwnE (w:World) (A:Nat→Prop) (v:Value) (l:List Ent):Prop:=OwnA w A 88 5 v l.length (ecs l)
def SlE (w:World) (A:Nat→Prop) (v:Value) (l:List Ent):Prop:=SlG w A v 5 l.length (ecs l)
theorem OwnE.sl {w:World} {A:Nat→Prop} {v:Value} {l:List Ent} (h:OwnE w A v l):SlE w A v l:=OwnA.sl h
theorem SlE.fresh {w w':World} {A:Nat→Prop} {v:Value} {l:List Ent} (h:SlE w A v l) (hf:Fresh w w'):SlE w' A v l:=SlG.fresh h hf
theorem SlE.cases {w:World} {A:Nat→Prop} {v:Value} {l:List Ent} (h:SlE w A v l):(l=[]∧∃ a c,v=.slice a 0 c)∨(0<l.length∧∃ g off cap,v=.slice (some ⟨g,off,none⟩) l.length cap∧l.length≤cap∧A g∧g<w.heap.size ∧
    ∀ k (hk:k<l.length),w.cell? ⟨g,off+k * 5,none⟩=some (.string l[k].name)∧w.cell? ⟨g,off+k * 5+1,none⟩=some (.int .i64 l[k].node)∧w.cell? ⟨g,off+k * 5+2,none⟩=some (.bool l[k].dir)∧w.cell? ⟨g,off+k * 5+3,none⟩=some (.int .i64 l[k].cookie)∧w.cell? ⟨g,off+k * 5+4,none⟩=some (.int .i64 l[k].short)):=by
  obtain ⟨h1,a,cap,rfl,hcap,h0 | ⟨g,off,rfl,hA,hg,hc⟩⟩:=h
  · have:l=[]:=List.eq_nil_of_length_eq_zero h0
    subst this
    exact .inl ⟨rfl,_,_,rfl⟩
  · by_cases hl:0<l.length
    · refine .inr ⟨hl,g,off,cap,rfl,hcap,hA,hg,fun k hk=>?_⟩
      have hkm:k * 5+5≤l.length * 5:=by omega
      have e0:=hc (k * 5+0) (by omega)
      have e1:=hc (k * 5+1) (by omega)
      have e2:=hc (k * 5+2) (by omega)
      have e3:=hc (k * 5+3) (by omega)
      have e4:=hc (k * 5+4) (by omega)
      rw [ecs_get l k hk _ (by omega)] at e0 e1 e2 e3 e4
      refine ⟨?_,?_,?_,?_,?_⟩
      · rw [show off+k * 5=off+(k * 5+0) by omega,e0];rfl
      · rw [show off+k * 5+1=off+(k * 5+1) by omega,e1];rfl
      · rw [show off+k * 5+2=off+(k * 5+2) by omega,e2];rfl
      · rw [show off+k * 5+3=off+(k * 5+3) by omega,e3];rfl
      · rw [show off+k * 5+4=off+(k * 5+4) by omega,e4];rfl
    · have:l=[]:=List.eq_nil_of_length_eq_zero (by omega)
      subst this
      exact .inl ⟨rfl,_,_,rfl⟩
theorem infoEnt:(Tryz.prog.info? 88).map (fun i=>(i.zero,i.size,i.bytes))=some (some (.agg #[.string ByteArray.empty,.int .i64 0,.bool false,.int .i64 0,.int .i64 0]),5,48):=by kernel_rfl
theorem ec_one (l:List Ent):∀ u ∈ ecs l,u.oneCell'=true:=by
  intro u hu
  unfold ecs at hu
  obtain ⟨e,_,he⟩:=List.mem_flatMap.1 hu
  simp [ec] at he
  rcases he with rfl | rfl | rfl | rfl | rfl <;> rfl
set_option maxRecDepth 100000 in
theorem wpList_append_ent (w:World) {ops:Array Oper} {rest:List Oper} {o:Oper} {a:Act} {Q:Exit→Act→World→Prop} (hgd:o.guard=none) (s x:Operand)
    (ho:o.op=.call { callee:=.builtin .append,args:=#[s,x],argTypes:=#[83,83] })
    (A B:Nat→Prop) (v v2:Value) (xs ys:List Ent) (hs:a.eval s=v) (hown:OwnE w A v xs) (hx:a.eval x=v2) (hsl:SlE w B v2 ys) (hN:xs.length+ys.length≤1000000)
    (h:∀ a' c' w',OwnE w' (ext A w w') (.slice a' (xs.length+ys.length) c') (xs++ys)→Mut (fun k=>v.ownBlock=some k) w w'→wpList Tryz.prog ops Q rest (a.put o.dst (.slice a' (xs.length+ys.length) c')) w'):wpList Tryz.prog ops Q (o :: rest) a w:=by
  obtain ⟨i0,hi0,hz0,hz1,hz2⟩:=info_partsG infoEnt
  obtain ⟨h1,a2,cap,rfl,hcap,h0⟩:=hsl
  cases a2 with
  | some ad =>
    refine wpList_append_ownA w hgd s x 83 ho A 88 i0 _ 5 48 Tryz.underlying83 hi0 hz0 hz1 hz2 rfl (by decide) v xs.length (ecs xs) hs hown ad ys.length cap (ecs ys) hx (ecs_len ys) (fun j u hj=>?_) (ec_one ys) hN (by decide) fun a' c' w' o2 u2=>h a' c' w' (by unfold OwnE;rw [ecs_append,List.length_append];exact o2) u2
    rcases h0 with h0 | ⟨g,off,e,_,hg,hc⟩
    · have:ys=[]:=List.eq_nil_of_length_eq_zero h0
      subst this
      simp [ecs] at hj
    · injection e with e
      subst e
      have hjl:j<ys.length * 5:=by
        rcases Nat.lt_or_ge j (ys.length * 5) with q | q
        · exact q
        · rw [List.getElem?_eq_none (by rw [ecs_len];exact q)] at hj;cases hj
      rw [Addr.add_lit,hc j hjl,hj]
  | none =>
    rcases h0 with h0 | ⟨g,off,e,_⟩
    · have:ys=[]:=List.eq_nil_of_length_eq_zero h0
      subst this
      refine wpList_plain hgd fun K hK'=>?_
      have hrun:=run_append_owned_nil (P:=Tryz.prog) 0 83 o.type 88 i0 5 Tryz.underlying83 hi0 v _ _ hown.1 cap
      simp only [List.length_nil] at hx
      unfold Oper.wp
      simp [execOp,ho,resolve,invoke,builtin,hs,hx,hrun,Result.andThen]
      obtain ⟨a',c',e⟩:∃ a' c',v=.slice a' xs.length c':=by
        obtain ⟨_,⟨q1,q2⟩ | ⟨g,cap,cur,q,_⟩⟩:=hown.1
        · exact ⟨none,0,by rw [q1,q2]⟩
        · exact ⟨_,_,q⟩
      subst e
      refine hK' _ _ (h a' c' w ?_ (Mut.refl _ _))
      rw [List.append_nil]
      exact OwnA.mono hown fun g _ hg=>.inl hg
    · cases e
theorem OwnE.empty (w:World) (A:Nat→Prop) (hA:A w.heap.size):OwnE (w.alloc (.cells #[] 88)) A (.slice (some ⟨w.heap.size,0,none⟩) 0 0) [] :=
  ⟨⟨rfl,.inr ⟨_,0,#[],rfl,Nat.zero_le _,heap_alloc_new _ _,Nat.le_refl _,by unfold maxLen;omega,rfl,rfl⟩⟩,fun g hg=>by injection hg with hg;exact hg ▸ hA⟩
def CloneE (l:List Ent) (w:World) (e:Ending) (w':World):Prop:=∃ v,e=.returned v∧OwnE w' (fun g=>w.heap.size≤g) v l∧Fresh w w'
set_option maxRecDepth 100000 in
set_option maxHeartbeats 1600000 in
theorem cloneE_any (A:Nat→Prop) (v:Value) (l:List Ent) (w:World) (h:SlE w A v l) (hl:l.length≤1000000):Calls Tryz.prog 78 #[v] w (CloneE l w):=by
  have H:=Lib.hid h
  obtain ⟨h1,a,cap,rfl,hcap,h0⟩:=h
  cases a with
  | none =>
    have hl0:l=[]:=by
      rcases h0 with h0 | ⟨g,off,e,_⟩
      · exact List.eq_nil_of_length_eq_zero h0
      · cases e
    subst hl0
    have hq:=fun W=>Lib.run_eql_slice_nil (P:=Tryz.prog) W 83 88 none 0 cap 0 0 Tryz.underlying83
    clear h1 h0
    go_enter Tryz.func78,Tryz.ntmps78
    go_wp2
    go_ret
    exact ⟨_,rfl,OwnA.nil _ _ _ _,Fresh.refl _⟩
  | some ad =>
    have hq:=fun W=>Lib.run_eql_slice_nil (P:=Tryz.prog) W 83 88 (some ad) l.length cap 0 0 Tryz.underlying83
    clear h1 h0
    go_enter Tryz.func78,Tryz.ntmps78
    go_wp2_with (at_builtin;refine wpList_append_ent _ rfl _ _ rfl (fun g=>w.heap.size≤g) A (.slice (some ⟨w.heap.size,0,none⟩) 0 0) _ [] l rfl (OwnE.empty w _ (Nat.le_refl _)) rfl (H.out.fresh ((Fresh.refl _).alloc _)) (by simpa using hl) ?_;intro a' c' w2 o2 u2;simp only [List.length_nil,Nat.zero_add,List.nil_append] at o2;have hz1:OwnE w2 (fun g=>w.heap.size≤g) (.slice a' l.length c') l:=OwnA.mono o2 (fun g _ hg=>Or.elim hg id (fun q=>by have:=q.1;simp at this;omega));have hz2:Fresh w w2:=((Fresh.refl w).alloc _).mut2 u2 (fun j hj=>Nat.le_of_eq (Option.some.inj hj));clear o2 u2)
    go_ret
    exact ⟨_,rfl,hz1,hz2⟩
def fidx (pr:Ent→Bool):List Ent→Int
  | []=>-1
  | e :: l=>if pr e then 0 else (if fidx pr l<0 then -1 else fidx pr l+1)
theorem fidx_ge (pr:Ent→Bool):∀ l,-1≤fidx pr l
  | []=>by simp [fidx]
  | e :: l=>by have:=fidx_ge pr l;unfold fidx;split <;> (try split) <;> omega
theorem fidx_lt (pr:Ent→Bool):∀ l,fidx pr l<l.length
  | []=>by simp [fidx]
  | e :: l=>by have:=fidx_lt pr l;unfold fidx;simp only [List.length_cons];split <;> (try split) <;> omega
theorem fidx_none (pr:Ent→Bool):∀ l,(∀ e ∈ l,pr e=false)→fidx pr l=-1
  | [],_=>rfl
  | e :: l,h=>by unfold fidx;rw [if_neg (by rw [h e (by simp)];simp),fidx_none pr l fun x hx=>h x (by simp [hx])];rfl
theorem fidx_at (pr:Ent→Bool):∀ (l:List Ent) (k:Nat) (hk:k<l.length),pr l[k]=true→(∀ j (hj:j<k),pr (l[j]'(by omega))=false)→fidx pr l=k
  | [],k,hk,_,_=>by simp at hk
  | e :: l,0,hk,h,_=>by unfold fidx;rw [if_pos (show pr e=true from h)];rfl
  | e :: l,k+1,hk,h,hj=>by
    have ih:=fidx_at pr l k (by simpa using hk) h fun j hjk=>hj (j+1) (by omega)
    have h0:=hj 0 (by omega)
    unfold fidx
    rw [if_neg (by simp at h0;rw [h0];simp),ih,if_neg (by omega)]
    omega
theorem fidx_neg {pr:Ent→Bool}:∀ {l:List Ent},fidx pr l<0→∀ e ∈ l,pr e=false
  | [],_,e,he=>by simp at he
  | x :: l,h,e,he=>by
    unfold fidx at h
    cases hx:pr x with
    | true=>rw [hx] at h;simp at h
    | false =>
      rw [hx] at h
      simp only [Bool.false_eq_true,if_false] at h
      rcases List.mem_cons.1 he with rfl | he
      · exact hx
      · by_cases h2:fidx pr l<0
        · exact fidx_neg h2 e he
        · rw [if_neg h2] at h;omega
theorem fidx_pos {pr:Ent→Bool}:∀ {l:List Ent} {k:Nat},fidx pr l=k→∃ hk:k<l.length,pr l[k]=true∧∀ j (hj:j<k),pr (l[j]'(by omega))=false
  | [],k,h=>by simp [fidx] at h
  | x :: l,k,h=>by
    unfold fidx at h
    cases hx:pr x with
    | true =>
      rw [hx] at h
      simp only [if_true] at h
      have:k=0:=by omega
      subst this
      exact ⟨by simp,hx,fun j hj=>by omega⟩
    | false =>
      rw [hx] at h
      simp only [Bool.false_eq_true,if_false] at h
      split at h
      · omega
      · cases k with
        | zero=>have:=fidx_ge pr l;omega
        | succ k =>
          obtain ⟨hk,h1,h2⟩:=fidx_pos (pr:=pr) (l:=l) (k:=k) (by omega)
          refine ⟨by simpa using hk,h1,fun j hj=>?_⟩
          cases j with
          | zero=>exact hx
          | succ j=>exact h2 j (by omega)
def PredE (w:World) (f:FuncId) (bd cp:Array Value) (pr:Ent→Bool) (l:List Ent):Prop :=
  (∀ (args:Array Value) (W:World),Sem.run Tryz.prog (callFunc f args) W=.ok (.enter f args) W)∧∀ W,Fresh w W→∀ e ∈ l,Calls Tryz.prog f (bd++#[entV e]++cp) W fun en W'=>en=.returned (.bool (pr e))∧Fresh W W'
def NumF (r:Int) (w:World) (e:Ending) (w':World):Prop:=e=.returned (.int .i64 r)∧Fresh w w'
set_option maxRecDepth 100000 in
set_option maxHeartbeats 1600000 in
theorem indexFunc_any (A:Nat→Prop) (v:Value) (l:List Ent) (w:World) (h:SlE w A v l) (hl:l.length≤1000000) (f:FuncId) (bd cp:Array Value) (pr:Ent→Bool) (hp:PredE w f bd cp pr l) :
    Calls Tryz.prog 134 #[v,.func (.func f) bd cp] w (NumF (fidx pr l) w):=by
  obtain ⟨hen,hp⟩:=hp
  have HP:=Lib.hid hp
  clear hp
  rcases h.cases with ⟨rfl,a,c,rfl⟩ | ⟨hl0,g,off,cap,rfl,hcap,hA,hg,hc⟩
  · clear h HP
    go_enter Tryz.func134,Tryz.ntmps134
    go_wp2
    refine wp_loop_rounds 1 ?_
    rw [rounds_succ]
    go_wp2
    go_ret
    exact ⟨rfl,Fresh.refl _⟩
  · have HC := Lib.hid hc
    clear hc h
    obtain ⟨n,hn⟩:∃ n,l.length=n:=⟨_,rfl⟩
    have HN:=Lib.hid hn
    rw [hn] at hl hl0 hcap ⊢
    clear hn
    go_enter Tryz.func134,Tryz.ntmps134
    go_wp2
    go_loopw [8] (fun i wr=>∃ k:Nat,i=.int .i64 k∧k≤n∧(∀ j (hj:j<l.length),j<k→pr l[j]=false)∧Fresh w wr) (fun i _=>n - (intOf i).toNat)
    case atStart=>exact ⟨0,rfl,by omega,fun j _ h=>by omega,Fresh.refl _⟩
    case round =>
      obtain ⟨k,rfl,hk,hnot,hf⟩:=hrel
      have HNOT:=Lib.hid hnot
      clear hnot
      by_cases hlt:k<n
      · have hkl:k<l.length:=by rw [HN.out];exact hlt
        obtain ⟨c0,c1,c2,c3,c4⟩:=HC.out k hkl
        have d0:=(Below.cell hf (p:=⟨g,off+k * 5,none⟩) hg).trans c0
        have d1:=(Below.cell hf (p:=⟨g,off+k * 5+1,none⟩) hg).trans c1
        have d2:=(Below.cell hf (p:=⟨g,off+k * 5+2,none⟩) hg).trans c2
        have d3:=(Below.cell hf (p:=⟨g,off+k * 5+3,none⟩) hg).trans c3
        have d4:=(Below.cell hf (p:=⟨g,off+k * 5+4,none⟩) hg).trans c4
        obtain ⟨e,he⟩:∃ e,l[k]=e:=⟨_,rfl⟩
        have HK:=Lib.hid (HP.out wr hf l[k] (List.getElem_mem _))
        rw [he] at d0 d1 d2 d3 d4 HK
        have HE:=Lib.hid he
        have i1:(k:Int)<(n:Int):=by omega
        clear c0 c1 c2 c3 c4 he
        go_wp2_with fail
        refine HK.out.mono ?_
        rintro en w2 ⟨rfl,hf2⟩
        clear d0 d1 d2 d3 d4
        cases hpr:pr e with
        | true =>
          have HR:Hid (fidx pr l=(k:Int)):=Lib.hid (fidx_at pr l k hkl (by rw [HE.out];exact hpr) fun j hj=>HNOT.out j (by omega) hj)
          clear hpr
          go_wp2
          go_ret
          exact ⟨by rw [HR.out];rfl,hf.trans hf2⟩
        | false =>
          have HR:Hid (∀ j (hj:j<l.length),j<k+1→pr l[j]=false):=Lib.hid (fun j hj hjk=>by
            by_cases ej:j=k
            · subst ej;rw [HE.out];exact hpr
            · exact HNOT.out j hj (by omega))
          clear hpr
          go_wp2
          go_roundw
          case rel=>exact ⟨k+1,by go_num,by omega,HR.out,hf.trans hf2⟩
          case measure=>simp [intOf];omega
      · have HR:Hid (fidx pr l=-1):=Lib.hid (fidx_none pr l fun e he=>by
          obtain ⟨j,hj,rfl⟩:=List.mem_iff_getElem.1 he
          have:=HN.out
          exact HNOT.out j hj (by omega))
        go_wp2
        go_ret
        exact ⟨by rw [HR.out];rfl,hf⟩
theorem containsFunc_any (A:Nat→Prop) (v:Value) (l:List Ent) (w:World) (h:SlE w A v l) (hl:l.length≤1000000) (f:FuncId) (bd cp:Array Value) (pr:Ent→Bool) (hp:PredE w f bd cp pr l) :
    Calls Tryz.prog 80 #[v,.func (.func f) bd cp] w fun e w'=>e=.returned (.bool (decide (0≤fidx pr l)))∧Fresh w w':=by
  have HX:=Lib.hid (indexFunc_any A v l w h hl f bd cp pr hp)
  clear h hp
  go_enter Tryz.func80,Tryz.ntmps80
  go_wp2_with fail
  refine HX.out.mono ?_
  rintro e w2 ⟨rfl,hf2⟩
  go_wp2
  go_ret
  exact ⟨rfl,hf2⟩
open Go.RowKit
theorem zeroI (w:World):(zeroValue 3).run Tryz.prog w=.ok (.int .i64 0) w:=by kernel_rfl
theorem MapAt.look {w:World} {b n:Nat} {M:Int→Option Value} (h:MapAt w b n M) {t e:TypeId} (ht:Tryz.prog.underlying t=some (.map 3 e)) {z:Value} (hz:∀ w,(zeroValue e).run Tryz.prog w=.ok z w) {k:Int} (hk:I64 k) {r:Value} (hr:(M k).getD z=r) :
    (Instr.lookup t (.map (some b)) (.int .i64 k) false).run Tryz.prog w=.ok r w:=by
  obtain ⟨D,hown,hM⟩:=h
  obtain ⟨v,ps,hrun,hv⟩:=hown.lookup keyI ht (hz w) (zd:=.held z) (zp:=[]) rfl (keyOfI hk)
  have e1:=mget_of_at (held_inv hv)
  rw [hM,hr] at e1
  subst e1
  exact hrun
theorem MapAt.drewN {w:World} {b n:Nat} {M:Int→Option Value} (h:MapAt w b n M) (k:Nat):MapAt (w.drewN k) b n M:=h
theorem infoInt:(Tryz.prog.info? 3).map (fun i=>(i.zero,i.size,i.bytes))=some (some (.int .i64 0),1,8):=by kernel_rfl
theorem OwnA.shape {w:World} {A:Nat→Prop} {e:TypeId} {sz:Nat} {v:Value} {n:Nat} {xs:List Value} (h:OwnA w A e sz v n xs):∃ a c,v=.slice a n c:=by
  obtain ⟨_,⟨q1,q2⟩ | ⟨g,cap,cur,q,_⟩⟩:=h.1
  · exact ⟨none,0,by rw [q1,q2]⟩
  · exact ⟨_,_,q⟩
def ints (l:List Int):List Value:=l.map (.int .i64)
def PoolAt (w:World) (A:Nat→Prop) (p:Nat) (fr:Int) (bk:List Int) (O:Int→Bool) (q:Nat):Prop :=
  ∃ bv go M,Blk w p 362 #[.int .i64 200,.int .i64 fr,bv,.map (some go)]∧A p∧A go∧MapAt w go q M∧(∀ i,M i=if O i=true then some (.int .i64 1) else none)∧OwnA w A 3 1 bv bk.length (ints bk)
theorem PoolAt.mut {S A:Nat→Prop} {w w':World} {p:Nat} {fr:Int} {bk:List Int} {O:Int→Bool} {q:Nat} (h:PoolAt w A p fr bk O q) (hf:Mut S w w') (hn:∀ k,A k→¬ S k):PoolAt w' A p fr bk O q:=by
  obtain ⟨bv,go,M,h1,h2,h3,h4,h5,h6⟩:=h
  exact ⟨bv,go,M,h1.mut hf (hn _ h2),h2,h3,h4.mut hf (hn _ h3),h5,h6.mut hf hn⟩
theorem PoolAt.fresh {A:Nat→Prop} {w w':World} {p:Nat} {fr:Int} {bk:List Int} {O:Int→Bool} {q:Nat} (h:PoolAt w A p fr bk O q) (hf:Fresh w w'):PoolAt w' A p fr bk O q:=h.mut (hf.mut fun _=>False) (fun _ _ q=>q)
theorem PoolAt.mono {A A':Nat→Prop} {w:World} {p:Nat} {fr:Int} {bk:List Int} {O:Int→Bool} {q:Nat} (h:PoolAt w A p fr bk O q) (hA:∀ k,k<w.heap.size→A k→A' k):PoolAt w A' p fr bk O q:=by
  obtain ⟨bv,go,M,h1,h2,h3,h4,h5,h6⟩:=h
  exact ⟨bv,go,M,h1,hA _ h1.lt h2,hA _ h4.lt h3,h4,h5,h6.mono hA⟩
def PoolNew (fr:Int) (bk:List Int) (O:Int→Bool) (q:Nat) (w:World) (e:Ending) (w':World):Prop:=∃ p,e=.returned (.pointer (some ⟨p,0,none⟩))∧PoolAt w' (fun g=>w.heap.size≤g) p fr bk O q∧Fresh w w'
set_option maxHeartbeats 1600000 in
theorem idsNew_none (w:World) (a:Option Addr) (c:Nat):Calls Tryz.prog 231 #[.int .i64 200,.slice a 0 c] w (PoolNew 1 [] (fun _=>false) 0 w):=by
  have hmm:=@run_makeMap Tryz.prog
  go_enter Tryz.func231,Tryz.ntmps231
  go_wp2
  refine wp_loop_rounds 1 ?_
  rw [rounds_succ]
  go_wp2
  go_ret
  have hf:Fresh w (w.alloc (.map #[] 0)):=(Fresh.refl _).alloc _
  have e2:(min (max (200:Int) 0) 200)=200:=by decide
  rw [e2]
  refine ⟨_,rfl,⟨.slice none 0 0,w.heap.size,fun _=>none,by have:=Blk.new (w.alloc (.map #[] 0)) 362 #[.int .i64 200,.int .i64 1,.slice none 0 0,.map (some w.heap.size)];simpa using this,by simp,Nat.le_refl _,(MapAt.made w).alloc _,fun i=>by simp,OwnA.nil _ _ _ _⟩,(hf.alloc _)⟩
set_option maxRecDepth 100000 in
set_option maxHeartbeats 3200000 in
theorem poolClone_any (w:World) (A:Nat→Prop) (p:Nat) (fr:Int) (bk:List Int) (O:Int→Bool) (q:Nat) (h:PoolAt w A p fr bk O q) (hb:bk.length≤100000):Calls Tryz.prog 193 #[.pointer (some ⟨p,0,none⟩)] w (PoolNew fr bk O q w):=by
  obtain ⟨bv,go,M,h1,h2,h3,h4,h5,h6⟩:=h
  have c0:w.cell? ⟨p,0,none⟩=some (.int .i64 200):=by rw [h1.cell];rfl
  have c1:w.cell? ⟨p,1,none⟩=some (.int .i64 fr):=by rw [h1.cell];rfl
  have c2:w.cell? ⟨p,2,none⟩=some bv:=by rw [h1.cell];rfl
  have c3:w.cell? ⟨p,3,none⟩=some (.map (some go)):=by rw [h1.cell];rfl
  have hpl:=h1.lt
  have HCL:Hid (∀ W,Fresh w W→Calls Tryz.prog 280 #[bv] W fun e w'=>∃ a c,e=.returned (.slice a bk.length c)∧OwnA w' (fun g=>w.heap.size≤g) 3 1 (.slice a bk.length c) bk.length (ints bk)∧Fresh W w'∧Fresh w w'∧∀ o,w'.cell? ⟨p,o,none⟩=w.cell? ⟨p,o,none⟩):=Lib.hid (fun W hW=>by
    have fin:∀ w',Fresh W w'→Fresh w w'∧∀ o,w'.cell? ⟨p,o,none⟩=w.cell? ⟨p,o,none⟩:=fun w' h=>⟨hW.trans h,fun o=>Below.cell (hW.trans h) (p:=⟨p,o,none⟩) hpl⟩
    obtain ⟨i0,hi0,hz0,hz1,hz2⟩:=info_partsG infoInt
    have h7:=h6.fresh hW
    have h70:=h7.1
    rcases h7.1.2 with ⟨rfl,hn⟩ | ⟨g,cap,cur,rfl,_⟩
    · have hb0:bk=[]:=List.eq_nil_of_length_eq_zero hn
      subst hb0
      exact (Tryz.slices_Clone_nil_f280 0 0 W).mono fun e w' ⟨he,hw⟩=>⟨none,0,he,OwnA.nil _ _ _ _,hw ▸ Fresh.refl _,fin w' (hw ▸ Fresh.refl _)⟩
    · skip
      have hc:∀ j,j<bk.length * 1→W.cell? ⟨g,0+j,none⟩=(ints bk)[j]?:=fun j hj=>by
          have:=World.ownsRow.cellAt h70 j (by omega)
          rw [show 0+j=j by omega,this]
      refine (Tryz.slices_Clone_f280 i0 _ 1 8 hi0 hz0 hz1 hz2 rfl (by decide) (fun W=>by kernel_rfl) g 0 bk.length cap (ints bk) W (by simp [ints]) (by unfold maxLen;omega) (by omega) (fun j u hj=>?_) (fun u hu=>?_)).mono ?_
      · have hjl:j<bk.length * 1:=by
          rcases Nat.lt_or_ge j (bk.length * 1) with q | q
          · exact q
          · rw [List.getElem?_eq_none (by simp [ints];omega)] at hj;cases hj
        rw [hc j hjl,hj]
      · unfold ints at hu
        obtain ⟨x,_,rfl⟩:=List.mem_map.1 hu
        rfl
      · rintro e w' ⟨v',he,hr,_,hf⟩
        have ho:OwnA w' (fun g=>w.heap.size≤g) 3 1 v' bk.length (ints bk):=⟨own_base hr (Nat.zero_le _),fun g hg=>Nat.le_trans hW.size (hr.lt g hg).1⟩
        obtain ⟨a',c',rfl⟩:=ho.shape
        exact ⟨a',c',he,ho,hf,fin w' hf⟩)
  have HMC:Hid (∀ W,Fresh w W→Calls Tryz.prog 192 #[.map (some go)] W fun e w'=>e=.returned (.map (some W.heap.size))∧MapAt w' W.heap.size q M∧w.heap.size≤W.heap.size∧Fresh W w'∧Fresh w w'∧∀ o,w'.cell? ⟨p,o,none⟩=w.cell? ⟨p,o,none⟩):=Lib.hid (fun W hW=>(mapsClone_int go q M W (h4.fresh hW)).mono fun e w' ⟨he,hm,hf,_⟩=>⟨he,hm,hW.size,hf,hW.trans hf,fun o=>Below.cell (hW.trans hf) (p:=⟨p,o,none⟩) hpl⟩)
  have H5:=Lib.hid h5
  clear h1 h4 h5 h6
  go_enter Tryz.func193,Tryz.ntmps193
  go_wp2_with fail
  go_region_held3 (fun W=>W.cell? ⟨p,0,none⟩=some (.int .i64 200)∧W.cell? ⟨p,1,none⟩=some (.int .i64 fr)∧W.cell? ⟨p,2,none⟩=some bv∧W.cell? ⟨p,3,none⟩=some (.map (some go))) (go_keep) (first
    | (go_at_call 280;refine (HCL.out _ (by repeat (first | exact Fresh.refl _ | assumption | refine Fresh.drew ?_))).mono ?_;rintro e wA ⟨aA,kA,rfl,hoA,hfA,hfA2,hcA⟩)
    | (go_at_call 192;refine (HMC.out _ (by repeat (first | exact Fresh.refl _ | assumption | refine Fresh.drew ?_))).mono ?_;rintro e wB ⟨rfl,hmB,hsB,hfB,hfB2,hcB⟩))
  all_goals
    have hfin:PoolAt (wB.alloc (.cells #[.int .i64 200,.int .i64 fr,.slice aA bk.length kA,.map (some wA.heap.size)] 362)) (fun g=>w.heap.size≤g) wB.heap.size fr bk O q:=⟨_,_,M,Blk.new _ _ _,hfB2.size,hfA2.size,hmB.alloc _,H5.out,(hoA.fresh hfB).fresh ((Fresh.refl _).alloc _)⟩
    have hfin2:Fresh w (wB.alloc (.cells #[.int .i64 200,.int .i64 fr,.slice aA bk.length kA,.map (some wA.heap.size)] 362)):=hfB2.alloc _
    clear hoA hmB hfA hfA2 hfB hfB2 hcA hcB
    go_wp2
    go_ret
    exact ⟨_,rfl,hfin,hfin2⟩
open Go.RowKit
theorem lenIS_any (a:Option Addr) (n c:Nat) (w:World):Calls Tryz.prog 384 #[.slice a n c] w fun e w'=>e=.returned (.int .i64 n)∧w=w':=by
  go_enter Tryz.func384,Tryz.ntmps384
  go_wp2
  go_ret
  exact ⟨rfl,rfl⟩
def frOf (w:World) (p:Nat):Int:=match w.cell? ⟨p,1,none⟩ with | some (.int _ k)=>k | _=>0
def OutOK (O:Int→Bool):Prop:=∀ i,O i=true→1≤i∧i≤200
def NextIs (O:Int→Bool) (fr k:Int):Prop:=fr≤k∧O k=false∧∀ i,fr≤i→i<k→O i=true
def TakePost (A:Nat→Prop) (p:Nat) (fr:Int) (O:Int→Bool) (q:Nat) (w:World) (e:Ending) (w':World):Prop :=
  ∃ k A',NextIs O fr k∧Mut A w w'∧Gr A w w' A'∧((k≤200∧e=.returned (.tuple #[.int .i64 k,.bool true])∧PoolAt w' A' p k [] (fun i=>O i || decide (i=k)) (q+1))∨(200<k∧e=.returned (.tuple #[.int .i64 0,.bool false])∧PoolAt w' A' p k [] O q))
set_option maxRecDepth 100000 in
set_option maxHeartbeats 3200000 in
theorem take_new (w:World) (A:Nat→Prop) (p:Nat) (fr:Int) (O:Int→Bool) (q:Nat) (h:PoolAt w A p fr [] O q) (hO:OutOK O) (hf1:1≤fr∧fr≤201) (hq:q≤1000000):Calls Tryz.prog 341 #[.pointer (some ⟨p,0,none⟩)] w (TakePost A p fr O q w):=by
  have HO:=Lib.hid hO
  have HAp:A p:=by obtain ⟨bv,go,M,h1,h2,_⟩:=h;exact h2
  have HP:=Lib.hid h
  clear h hO
  go_enter Tryz.func341,Tryz.ntmps341
  go_wp2
  go_loopw [14] (fun _ wr=>∃ k,PoolAt wr A p k [] O q∧Mut (fun j=>j=p) w wr∧fr≤k∧k≤201∧∀ i,fr≤i→i<k→O i=true) (fun _ wr=>(201 - frOf wr p).toNat)
  case atStart=>exact ⟨fr,HP.out,Mut.refl _ _,by omega,by omega,fun i _ _=>by omega⟩
  case round =>
    obtain ⟨k,hp,hm,hk1,hk2,hall⟩:=hrel
    have HALL:=Lib.hid hall
    obtain ⟨bv,go,M,h1,h2,h3,h4,h5,h6⟩:=hp
    have c0:wr.cell? ⟨p,0,none⟩=some (.int .i64 200):=by rw [h1.cell];rfl
    have c1:wr.cell? ⟨p,1,none⟩=some (.int .i64 k):=by rw [h1.cell];rfl
    have c2:wr.cell? ⟨p,2,none⟩=some bv:=by rw [h1.cell];rfl
    have c3:wr.cell? ⟨p,3,none⟩=some (.map (some go)):=by rw [h1.cell];rfl
    have f1:wr.frozen? ⟨p,1,none⟩=false:=h1.frozen 1
    have hfrof:frOf wr p=k:=by unfold frOf;rw [c1]
    have HFR:=Lib.hid hfrof
    have H1:=Lib.hid h1
    have H5:=Lib.hid h5
    have H6:=Lib.hid h6
    clear hall h1 hfrof
    cases hOk:O k with
    | true =>
      have hk3:=HO.out k hOk
      have hlk:=fun nq=>(h4.drewN nq).look Tryz.underlying156 zeroI (k:=k) (by unfold I64;omega) (r:=.int .i64 1) (by rw [h5,hOk];rfl)
      have HOk:=Lib.hid hOk
      have HM4:=Lib.hid h4
      clear hOk h5 h6
      go_wp2_with fail
      go_quiet (fail)
      all_goals
        go_wp2
        have b1:=(show Blk (wr.drewN nq) p _ _ from H1.out).set (i:=1) (u:=.int .i64 (k+1))
        have u1:Mut (fun j=>j=p) wr ((wr.drewN nq).setCell ⟨p,1,none⟩ (.int .i64 (k+1))):=((Mut.refl (fun j=>j=p) wr).drewN nq).setCell (p:=⟨p,1,none⟩) (.inl rfl) _
        have hpg:=H1.out.neMap HM4.out
        refine ⟨⟨k+1,⟨bv,go,M,b1,h2,h3,HM4.out.mut u1 (fun e=>hpg e.symm),H5.out,H6.out.mutB u1 (fun g hg e=>H6.out.ne H1.out (by decide) (by rw [hg,e]))⟩,hm.trans u1,by omega,by omega,fun i h1 h2=>?_⟩,?_⟩
        · by_cases e:i=k
          · rw [e];exact HOk.out
          · exact HALL.out i h1 (by omega)
        · have:frOf ((wr.drewN nq).setCell ⟨p,1,none⟩ (.int .i64 (k+1))) p=k+1:=by
            unfold frOf
            rw [b1.cell]
            rfl
          rw [this,HFR.out]
          omega
    | false =>
      have hlk:=fun nq=>(h4.drewN nq).look Tryz.underlying156 zeroI (k:=k) (by unfold I64;omega) (r:=.int .i64 0) (by rw [h5,hOk];rfl)
      have HOk:=Lib.hid hOk
      have HM4:=Lib.hid h4
      obtain ⟨aB,cB,rfl⟩:=h6.shape
      clear hOk h5 h6
      go_wp2_with fail
      go_quiet (fail)
      all_goals
        clear hlk
        go_wp2_with fail
        refine (lenIS_any aB 0 cB _).mono ?_
        rintro e w2 ⟨rfl,rfl⟩
        by_cases hk200:k≤200
        · have hk3:¬ (200:Int)<k:=by omega
          have hmm:MapAt (wr.drewN nq) go q M:=HM4.out
          go_wp2_with (at_mapUpdate;refine wpList_storeI _ rfl _ _ _ 156 rfl 3 Tryz.underlying156 go q M rfl hmm (by omega) k rfl (by unfold I64;omega) (.int .i64 1) rfl ?_;intro w3 m3 u3 z3)
          have hpg:=H1.out.neMap HM4.out
          have hfin:PoolAt w3 A p k [] (fun i=>O i || decide (i=k)) (q+1):=⟨_,go,_,(show Blk (wr.drewN nq) p _ _ from H1.out).mut u3 hpg,h2,h3,m3,fun i=>by
            by_cases e:i=k
            · subst e;simp
            · rw [if_neg e,H5.out];simp [e],(show OwnA (wr.drewN nq) A 3 1 _ _ _ from H6.out).mutB u3 (fun g hg e=>H6.out.neMap HM4.out (by rw [hg,e]))⟩
          have hmu:Mut A w w3:=((hm.mono (T:=A) (fun j _ e=>by rw [e];exact h2)).drewN nq).trans2 u3 (fun _ h=>h) (fun j _ e=>by rw [e];exact h3)
          clear m3 u3 hm hmm
          go_ret2
          exact ⟨k,A,⟨hk1,HOk.out,HALL.out⟩,hmu,fun j h=>.inl h,.inl ⟨hk200,rfl,hfin⟩⟩
        · have hk3:(200:Int)<k:=by omega
          have hfin:PoolAt (wr.drewN nq) A p k [] O q:=⟨_,go,M,H1.out,h2,h3,HM4.out,H5.out,H6.out⟩
          have hmu:Mut A w (wr.drewN nq):=(hm.mono (T:=A) (fun j _ e=>by rw [e];exact h2)).drewN nq
          clear hm
          go_wp2
          go_ret2
          exact ⟨k,A,⟨hk1,HOk.out,HALL.out⟩,hmu,fun j h=>.inl h,.inr ⟨by omega,rfl,hfin⟩⟩
open Go.RowKit
theorem MapAt.storeRun {w:World} {b n:Nat} {M:Int→Option Value} (h:MapAt w b n M) {t e:TypeId} (ht:Tryz.prog.underlying t=some (.map 3 e)) (hn:n≤1000000000) {k:Int} (hk:I64 k) (val:Value) :
    ∃ w',(Instr.mapUpdate t (.map (some b)) (.int .i64 k) val).run Tryz.prog w=.ok () w'∧MapAt w' b (n+1) (fun i=>if i=k then some val else M i)∧Mut (fun j=>j=b) w w'∧Hid (w'.heap.size=w.heap.size):=by
  obtain ⟨D,hown,hM⟩:=h
  have hi:=own_isMap hown
  obtain ⟨w',hrun,h1,h2⟩:=hown.store keyI ht (by unfold maxLen;omega) (keyOfI hk) (d:=.held val) (ps:=[]) rfl
  refine ⟨w',hrun,⟨_,h1,fun i=>by rw [mget_put hi,hM]⟩,?_,Lib.hid ?_⟩
  · obtain ⟨es,clock,es',clock',hb,rfl⟩:=h2
    exact ⟨rfl,rfl,rfl,by simp [ChangeMaps.setBlock],fun j hj hn=>ChangeMaps.heap_setBlock_other hb _ hn⟩
  · obtain ⟨es,clock,es',clock',hb,rfl⟩:=h2
    simp [ChangeMaps.setBlock]
theorem PoolAt.le {w:World} {A:Nat→Prop} {p:Nat} {fr:Int} {bk:List Int} {O:Int→Bool} {q q':Nat} (h:PoolAt w A p fr bk O q) (hq:q≤q'):PoolAt w A p fr bk O q':=by
  obtain ⟨bv,go,M,q1,q2,q3,q4,q5⟩:=h
  exact ⟨bv,go,M,q1,q2,q3,q4.mono hq,q5⟩
structure TreS where
  dirs:Int→Option (List Ent)
  files:Int→Bool
  out:Int→Bool
  fr:Int
  bk:List Int
  next:Int
def T0:TreS:=⟨fun i=>if i=0 then some [] else none,fun _=>false,fun _=>false,1,[],1⟩
def TreeAt (w:World) (A:Nat→Prop) (t:Nat) (T:TreS) (q:Nat):Prop :=
  ∃ gd gf pp Md Mf Ap,Blk w t 159 #[.map (some gd),.map (some gf),.pointer (some ⟨pp,0,none⟩),.int .i64 T.next]∧(A t∧¬ Ap t)∧(A gd∧¬ Ap gd)∧(A gf∧¬ Ap gf)∧gd ≠ gf∧MapAt w gd q Md∧MapAt w gf q Mf∧(∀ i,Mf i=if T.files i=true then some (.int .i64 1) else none) ∧
    (∀ i l,T.dirs i=some l→∃ v,Md i=some v∧OwnE w (fun g=>A g∧¬ Ap g) v l)∧(∀ i,T.dirs i=none→Md i=none)∧(∀ k,Ap k→A k)∧PoolAt w Ap pp T.fr T.bk T.out q
theorem TreeAt.mut {S A:Nat→Prop} {w w':World} {t:Nat} {T:TreS} {q:Nat} (h:TreeAt w A t T q) (hf:Mut S w w') (hn:∀ k,A k→¬ S k):TreeAt w' A t T q:=by
  obtain ⟨gd,gf,pp,Md,Mf,Ap,h1,h2,h3,h4,h5,h6,h7,h8,h9,h10,h11,h12⟩:=h
  exact ⟨gd,gf,pp,Md,Mf,Ap,h1.mut hf (hn _ h2.1),h2,h3,h4,h5,h6.mut hf (hn _ h3.1),h7.mut hf (hn _ h4.1),h8,fun i l hi=>by obtain ⟨v,hv,ho⟩:=h9 i l hi;exact ⟨v,hv,OwnA.mut ho hf (fun g hg=>hn g hg.1)⟩,h10,h11,h12.mut hf (fun k hk=>hn k (h11 k hk))⟩
theorem TreeAt.fresh {A:Nat→Prop} {w w':World} {t:Nat} {T:TreS} {q:Nat} (h:TreeAt w A t T q) (hf:Fresh w w'):TreeAt w' A t T q:=h.mut (hf.mut fun _=>False) (fun _ _ q=>q)
theorem TreeAt.mono {A A':Nat→Prop} {w:World} {t:Nat} {T:TreS} {q:Nat} (h:TreeAt w A t T q) (hA:∀ k,k<w.heap.size→A k→A' k):TreeAt w A' t T q:=by
  obtain ⟨gd,gf,pp,Md,Mf,Ap,h1,h2,h3,h4,h5,h6,h7,h8,h9,h10,h11,h12⟩:=h
  exact ⟨gd,gf,pp,Md,Mf,fun k=>Ap k∧k<w.heap.size,h1,⟨hA _ h1.lt h2.1,fun q=>h2.2 q.1⟩,⟨hA _ h6.lt h3.1,fun q=>h3.2 q.1⟩,⟨hA _ h7.lt h4.1,fun q=>h4.2 q.1⟩,h5,h6,h7,h8,fun i l hi=>by obtain ⟨v,hv,ho⟩:=h9 i l hi;exact ⟨v,hv,OwnA.mono ho (fun g hg hh=>⟨hA g hg hh.1,fun q=>hh.2 q.1⟩)⟩,h10,fun k hk=>hA k hk.2 (h11 k hk.1),h12.mono (fun k hk hh=>⟨hh,hk⟩)⟩
theorem TreeAt.le {w:World} {A:Nat→Prop} {t:Nat} {T:TreS} {q q':Nat} (h:TreeAt w A t T q) (hq:q≤q'):TreeAt w A t T q':=by
  obtain ⟨gd,gf,pp,Md,Mf,Ap,h1,h2,h3,h4,h5,h6,h7,h8,h9,h10,h11,h12⟩:=h
  exact ⟨gd,gf,pp,Md,Mf,Ap,h1,h2,h3,h4,h5,h6.mono hq,h7.mono hq,h8,h9,h10,h11,h12.le hq⟩
theorem zeroL (w:World):(zeroValue 83).run Tryz.prog w=.ok (.slice none 0 0) w:=by kernel_rfl
def TreeNew (T:TreS) (q:Nat) (w:World) (e:Ending) (w':World):Prop:=∃ t,e=.returned (.pointer (some ⟨t,0,none⟩))∧TreeAt w' (fun g=>w.heap.size≤g) t T q∧Fresh w w'
set_option maxRecDepth 100000 in
set_option maxHeartbeats 1600000 in
theorem treeNew_any (w:World):Calls Tryz.prog 144 #[] w (TreeNew T0 1 w):=by
  have hmm:=@run_makeMap Tryz.prog
  obtain ⟨w1,hrun,m1,u1,z1⟩:=(MapAt.made w).storeRun Tryz.underlying155 (by omega) (k:=0) (by unfold I64;omega) (.slice none 0 0)
  have hf1:Fresh w w1:=(Fresh.refl w |>.alloc (.map #[] 0)).mut2 u1 (fun j e=>by omega)
  have HF1:=Lib.hid hf1
  have M1:=Lib.hid m1
  have HN:=Lib.hid (idsNew_none (w1.alloc (.map #[] 0)) none 0)
  clear hf1 m1 u1
  go_enter Tryz.func144,Tryz.ntmps144
  go_wp2_with fail
  refine HN.out.mono ?_
  rintro e w2 ⟨pp,rfl,hp,hf2⟩
  have hz1:=z1.out
  simp only [World.size_alloc] at hz1
  have hs2:=hf2.size
  simp only [World.size_alloc] at hs2
  have hfin:Hid (TreeAt (w2.alloc (.cells #[.map (some w.heap.size),.map (some w1.heap.size),.pointer (some ⟨pp,0,none⟩),.int .i64 1] 159)) (fun g=>w.heap.size≤g) w2.heap.size T0 1):=Lib.hid ⟨w.heap.size,w1.heap.size,pp,_,_,fun k=>w1.heap.size+1≤k∧k<w2.heap.size,Blk.new _ _ _,⟨by omega,by omega⟩,⟨Nat.le_refl _,by omega⟩,⟨by omega,by omega⟩,by omega,(((M1.out.alloc _).fresh hf2).alloc _).mono (by omega),(((MapAt.made w1).fresh hf2).alloc _).mono (by omega),fun i=>rfl,fun i l hi=>by
      have h0:i=0∧l=[]:=by
        unfold T0 at hi
        simp only at hi
        split at hi
        · rename_i e;exact ⟨e,(by injection hi with hi;exact hi.symm)⟩
        · cases hi
      obtain ⟨rfl,rfl⟩:=h0
      exact ⟨_,if_pos rfl,OwnA.nil _ _ _ _⟩,fun i hi=>by
      unfold T0 at hi
      simp only at hi
      split at hi
      · cases hi
      · rename_i e;rw [if_neg e],fun k hk=>by omega,((hp.mono (A':=fun k=>w1.heap.size+1≤k∧k<w2.heap.size) (fun k hk1 hk2=>⟨by simpa using hk2,hk1⟩)).fresh ((Fresh.refl _).alloc _)).le (by omega)⟩
  have hfin2:=Lib.hid (((HF1.out.alloc (.map #[] 0)).trans hf2).alloc (.cells #[.map (some w.heap.size),.map (some w1.heap.size),.pointer (some ⟨pp,0,none⟩),.int .i64 1] 159))
  clear hp hf2 hz1 hs2
  go_wp2
  go_ret
  exact ⟨_,rfl,hfin.out,hfin2.out⟩
section
variable (w:World) (A:Nat→Prop) (t:Nat) (T:TreS) (q:Nat)
theorem cookie_any (h:TreeAt w A t T q):Calls Tryz.prog 229 #[.pointer (some ⟨t,0,none⟩)] w fun e w'=>e=.returned (.int .i64 T.next)∧w=w':=by
  obtain ⟨gd,gf,pp,Md,Mf,Ap,h1,h2,h3,h4,h5,h6,h7,h8,h9,h10,h12,h11⟩:=h
  have c3:w.cell? ⟨t,3,none⟩=some (.int .i64 T.next):=by rw [h1.cell];rfl
  clear h1 h6 h7 h8 h9 h10 h11
  go_enter Tryz.func229,Tryz.ntmps229
  go_wp2
  go_ret
  exact ⟨rfl,rfl⟩
def ListPost (w:World) (T:TreS) (d:Int) (e:Ending) (w':World):Prop :=
  (∃ l v,T.dirs d=some l∧e=.returned (.tuple #[v,.int .i64 0])∧OwnE w' (fun g=>w.heap.size≤g) v l∧Fresh w w') ∨
  (T.dirs d=none∧e=.returned (.tuple #[.slice none 0 0,.int .i64 (if T.files d=true then 8 else 5)])∧Fresh w w')
set_option maxRecDepth 100000 in
set_option maxHeartbeats 1600000 in
theorem tlist_any (h:TreeAt w A t T q) (d:Int) (hd:I64 d) (hl:∀ l,T.dirs d=some l→l.length≤1000000):Calls Tryz.prog 35 #[.pointer (some ⟨t,0,none⟩),.int .i64 d] w (ListPost w T d):=by
  obtain ⟨gd,gf,pp,Md,Mf,Ap,h1,h2,h3,h4,h5,h6,h7,h8,h9,h10,h12,h11⟩:=h
  have c0:w.cell? ⟨t,0,none⟩=some (.map (some gd)):=by rw [h1.cell];rfl
  have c1:w.cell? ⟨t,1,none⟩=some (.map (some gf)):=by rw [h1.cell];rfl
  cases hT:T.dirs d with
  | some l =>
    obtain ⟨v,hv,ho⟩:=h9 d l hT
    have HO:=Lib.hid ho
    have HCL:=Lib.hid (fun W hW=>cloneE_any _ v l W ((OwnE.sl ho).fresh hW) (hl l hT))
    obtain ⟨a,c,rfl⟩:=ho.shape
    have HV:=Lib.hid hv
    have HT:=Lib.hid hT
    clear h1 h7 h8 h9 h10 h11 ho hv hT hl
    go_enter Tryz.func35,Tryz.ntmps35
    go_wp2_with (at_lookup;refine wpList_lookOkI _ rfl _ _ 155 rfl 83 Tryz.underlying155 _ (zeroL _) gd q Md rfl h6 d rfl hd (.slice a l.length c) (by rw [HV.out];rfl) true (by rw [HV.out];rfl) ?_)
    refine (HCL.out _ (Fresh.refl _)).mono ?_
    rintro e w2 ⟨v2,rfl,ho2,hf2⟩
    have HZ:=Lib.hid (And.intro ho2 hf2)
    clear ho2 hf2
    go_wp2
    go_ret2
    exact .inl ⟨l,_,HT.out,rfl,HZ.out.1,HZ.out.2⟩
  | none =>
    have HT:=Lib.hid hT
    have HM:=Lib.hid (h10 d hT)
    have H8:=Lib.hid (h8 d)
    clear h1 h8 h9 h10 h11 hT hl
    cases hfl:T.files d with
    | true =>
      rw [hfl] at H8
      have HFL:=Lib.hid hfl
      clear hfl
      go_enter Tryz.func35,Tryz.ntmps35
      go_wp2_with (first
        | (at_lookup;refine wpList_lookOkI _ rfl _ _ 155 rfl 83 Tryz.underlying155 _ (zeroL _) gd q Md rfl h6 d rfl hd (.slice none 0 0) (by rw [HM.out];rfl) false (by rw [HM.out];rfl) ?_)
        | (at_lookup;refine wpList_lookI _ rfl _ _ 156 rfl 3 Tryz.underlying156 _ (zeroI _) gf q Mf rfl h7 d rfl hd (.int .i64 1) (by rw [H8.out];rfl) ?_))
      go_ret2
      exact .inr ⟨HT.out,by rw [HFL.out];rfl,Fresh.refl _⟩
    | false =>
      rw [hfl] at H8
      have HFL:=Lib.hid hfl
      clear hfl
      go_enter Tryz.func35,Tryz.ntmps35
      go_wp2_with (first
        | (at_lookup;refine wpList_lookOkI _ rfl _ _ 155 rfl 83 Tryz.underlying155 _ (zeroL _) gd q Md rfl h6 d rfl hd (.slice none 0 0) (by rw [HM.out];rfl) false (by rw [HM.out];rfl) ?_)
        | (at_lookup;refine wpList_lookI _ rfl _ _ 156 rfl 3 Tryz.underlying156 _ (zeroI _) gf q Mf rfl h7 d rfl hd (.int .i64 0) (by rw [H8.out];rfl) ?_))
      go_ret2
      exact .inr ⟨HT.out,by rw [HFL.out];rfl,Fresh.refl _⟩
end
theorem toList_inj {a b:ByteArray}:a.toList=b.toList ↔ a=b:=by
  rw [ByteArray.toList_eq,ByteArray.toList_eq]
  exact ⟨fun h=>ByteArray.ext (Array.toList_inj.1 h),fun h=>by rw [h]⟩
def nameB (n:ByteArray) (e:Ent):Bool:=e.name.toList == n.toList
theorem nameB_iff {n:ByteArray} {e:Ent}:nameB n e=true ↔ e.name=n:=by unfold nameB;rw [beq_iff_eq,toList_inj]
theorem enters383:∀ (args:Array Value) (W:World),Sem.run Tryz.prog (callFunc 383 args) W=.ok (.enter 383 args) W:=by intro args w;go_simp
theorem index1_any (e:Ent) (b:Nat) (n:ByteArray) (w:World) (hb:w.cell? ⟨b,0,none⟩=some (.string n)) (hbl:b<w.heap.size):Calls Tryz.prog 383 #[entV e,.pointer (some ⟨b,0,none⟩)] w fun en w'=>en=.returned (.bool (nameB n e))∧Fresh w w':=by
  go_enter Tryz.func383,Tryz.ntmps383
  go_wp2
  go_ret
  exact ⟨rfl,(Fresh.refl _).alloc _⟩
theorem tindex_any (w:World) (A:Nat→Prop) (v:Value) (l:List Ent) (n:ByteArray) (h:SlE w A v l) (hl:l.length≤1000000):Calls Tryz.prog 340 #[v,.string n] w (NumF (fidx (nameB n) l) w):=by
  have hf:Fresh w (w.alloc (.cells #[.string n] 9)):=(Fresh.refl _).alloc _
  have HX:=Lib.hid (indexFunc_any A v l _ (h.fresh hf) hl 383 #[] #[.pointer (some ⟨w.heap.size,0,none⟩)] (nameB n) ⟨enters383,fun W hW e _=>index1_any e w.heap.size n W ((Below.cell hW (p:=⟨w.heap.size,0,none⟩) (by simp)).trans (by go_simp)) (Nat.lt_of_lt_of_le (by simp) hW.size)⟩)
  clear h
  go_enter Tryz.func340,Tryz.ntmps340
  go_wp2_with fail
  refine HX.out.mono ?_
  rintro e w2 ⟨rfl,hf2⟩
  go_wp2
  go_ret
  exact ⟨rfl,hf.trans hf2⟩
end Go.Proofs.YtpmlggjhfiljmaaGreatDoor
