/- Part 19 of what the law rests on. -/
import Derived.Shelf.RegionOpen
import Derived.Shelf.SlIterI.Nil
import Derived.Shelf.SortM.Plain
import Derived.Shelf.SortM.SortNone
import Derived.Ground.GgzProg
import Derived.Ground.SlgmProg
import Derived.Test.YtpmlggjhfiljmaaGreatDoorS10
import Derived.Test.YtpmlggjhfiljmaaGreatDoorS18
set_option linter.all false
namespace Go.Proofs.YtpmlggjhfiljmaaGreatDoor
open Go.RowKit
theorem cellsU8:Tryz.prog.cellsOf 5=1:=by kernel_rfl
theorem Mut.freeze {S:Nat→Prop} {a b:World} (h:Mut S a b) {p:Addr} (hp:S p.block) (n:Nat):Mut S a (b.freeze p n):=by
  have k:Mut (fun j=>j=p.block) b (b.freeze p n):=by
    unfold World.freeze
    split
    · exact Mut.refl _ b
    · exact ⟨rfl,rfl,rfl,by simp,fun k hk hn=>by
        simp only [Array.getElem?_modify]
        rw [if_neg (fun e=>hn e.symm)]⟩
  exact h.trans2 k (fun _ h=>h) (fun j _ e=>by rw [e];exact hp)
set_option maxHeartbeats 2000000 in
set_option maxRecDepth 100000 in
theorem bstring_any (A:Nat→Prop) (b:Nat) (l:List UInt8) (w:World) (h:BldAt w A b l) (h0:l ≠ []) :
    Calls Tryz.prog 214 #[.pointer (some ⟨b,0,none⟩)] w fun e w'=>e=.returned (.string ⟨l.toArray⟩)∧Mut A w w':=by
  obtain ⟨hAb,p,v,hp,hbk,hownA⟩:=h
  have hown:=hownA.1
  have hl0:l.length ≠ 0:=by simpa using h0
  obtain ⟨g,cap,cur,rfl,hbg,hg,hnc,hcm,hcs,htake⟩:∃ g cap cur,v=.slice (some ⟨g,0,none⟩) l.length cap∧0≤g∧w.heap[g]?=some (.cells cur 5 (0,0))∧l.length≤cap∧cap≤maxLen∧cur.size=cap * 1∧cur.toList.take (l.length * 1)=Lib.byteCells l:=by
    rcases hown.2 with ⟨_,hz⟩ | ⟨g,cap,cur,hv,r⟩
    · exact absurd hz hl0
    · exact ⟨g,cap,cur,hv,r⟩
  have c1:w.drew.cell? ⟨b,1,none⟩=some (.slice (some ⟨g,0,none⟩) l.length cap):=by
    have:Blk w.drew b 302 #[p,.slice (some ⟨g,0,none⟩) l.length cap]:=hbk
    rw [this.cell];rfl
  have hSD:(Builtin.unsafeSliceData_ #[131] 383 #[.slice (some ⟨g,0,none⟩) l.length cap]).run Tryz.prog w.drew=.ok (.pointer (some ⟨g,0,none⟩)) w.drew :=
    Lib.run_unsafeSliceData_row _ _ _ _ _ _ (by omega)
  have hUS:(Builtin.unsafeString_ #[383,3] 9 #[.pointer (some ⟨g,0,none⟩),.int .i64 l.length]).run Tryz.prog w.drew=.ok (.string ⟨l.toArray⟩) (w.drew.freeze ⟨g,0,none⟩ l.length):=by
    refine Lib.run_unsafeString_row w.drew 383 3 9 5 Tryz.underlying383 cellsU8 g cur.size (by have hg':w.drew.heap[g]?=some (.cells cur 5 (0,0)):=hg;simp [World.shape?,hg']) l h0 (by omega) (by unfold maxLen at hcm;omega) ?_
    intro j x hx
    have:=hown.cells (g:=g) rfl j (.int .u8 x.toNat) (by simp [Lib.byteCells,hx])
    exact this
  have mixed:Tryz.prog.follows Departure.mixedOrders=true:=by kernel_rfl
  have hgA:A g:=hownA.2 g rfl
  clear hbk hown hg htake hownA
  go_enter Tryz.func214,Tryz.ntmps214
  go_wp2
  go_region_o
  all_goals (go_wp2;go_ret;exact ⟨rfl,((Mut.refl A w).drew).freeze (p:=⟨g,0,none⟩) hgA _⟩)
def beB (n:Nat):Nat→List UInt8
  | 0=>[]
  | k+1=>(n / 256 ^ k % 256).toUInt8 :: beB n k
theorem beB_len (n:Nat):∀ k,(beB n k).length=k
  | 0=>rfl
  | k+1=>by simp [beB,beB_len n k]
theorem shr_byte (n j:Nat):IntKind.u8.wrap ((n:Int) / 2 ^ (8 * ((j:Int)+1) - 8).toNat)=((n / 256 ^ j % 256).toUInt8.toNat:Nat):=by
  have e:(8 * ((j:Int)+1) - 8).toNat=8 * j:=by omega
  have e2:(2:Int) ^ (8 * j)=((256 ^ j:Nat):Int):=by
    rw [Int.pow_mul,Int.natCast_pow]
    rfl
  rw [e,e2,← Int.natCast_ediv]
  generalize n / 256 ^ j=m
  have:(m % 256).toUInt8.toNat=m % 256:=by simp
  rw [this]
  show ((m:Int) % 256)=_
  omega
set_option maxHeartbeats 2000000 in
set_option maxRecDepth 100000 in
theorem number_any (A:Nat→Prop) (b:Nat) (l:List UInt8) (n k:Nat) (hk:1≤k∧k≤8) (hn:n<18446744073709551616) (w:World) (h:BldAt w A b l) (hl:l.length≤90000) :
    Calls Tryz.prog 228 #[.pointer (some ⟨b,0,none⟩),.int .u64 n,.int .i64 k] w fun e w'=>e=.returned (.tuple #[])∧BldAt w' (ext A w w') b (l++beB n k)∧Mut A w w':=by
  have HB:=Lib.hid h
  clear h
  go_enter Tryz.func228,Tryz.ntmps228
  go_wp2_with fail
  go_loopw [6] (fun i wr=>∃ j:Nat,i=.int .i64 (8 * (j:Int) - 8)∧j≤k∧Mut A w wr∧∃ l',BldAt wr (ext A w wr) b l'∧l'++beB n j=l++beB n k) (fun i wr=>(intOf i+8).toNat)
  case atStart=>exact ⟨k,by go_num,Nat.le_refl _,Mut.refl _ _,l,HB.out.mono (fun _ _ h=>.inl h),rfl⟩
  case round =>
    obtain ⟨j,rfl,hj,hbl,l',hb,hll⟩:=hrel
    have HLL:=Lib.hid hll
    cases j with
    | zero =>
      have hfin:BldAt wr (ext A w wr) b (l++beB n k):=by rw [← HLL.out];simpa [beB] using hb
      clear hll hb
      have hc:¬ (0:Int)≤8 * ((0:Nat):Int) - 8:=by omega
      go_wp2
      go_end0
      exact ⟨rfl,hfin,hbl⟩
    | succ j =>
      have hc:(0:Int)≤8 * ((j+1:Nat):Int) - 8:=by omega
      have hc2:(8:Int)≤8 * ((j:Int)+1):=by omega
      have hlen:l'.length≤100000:=by
        have:=congrArg List.length hll
        simp [beB_len] at this
        omega
      have HW:Hid (∀ (W:World),Fresh wr W→Calls Tryz.prog 307 #[.pointer (some ⟨b,0,none⟩),.int .u8 ((n / 256 ^ j % 256).toUInt8.toNat:Nat)] W fun e w'=>e=.returned .nilIface∧BldAt w' (ext A w w') b (l'++[(n / 256 ^ j % 256).toUInt8])∧Mut A w w'):=Lib.hid (fun W hW=>(writeByte_any _ b l' _ W (hb.fresh hW) hlen).mono fun e w' ⟨he,h1,h2⟩=>by
        have z1:=hbl.size
        have z2:=hW.size
        have z3:=h2.size
        refine ⟨he,h1.mono (fun g hg hh=>?_),(hbl.andFresh hW).trans2 h2 (fun _ h=>h) (fun j hj hh=>?_)⟩
        · rcases hh with (q | q) | q
          · exact .inl q
          · exact .inr ⟨q.1,by omega⟩
          · exact .inr ⟨by omega,q.2⟩
        · rcases hh with q | q
          · exact q
          · omega)
      have HC:Hid (IntKind.u8.wrap ((n:Int) / 2 ^ (8 * ((j:Int)+1) - 8).toNat)=((n / 256 ^ j % 256).toUInt8.toNat:Nat)):=Lib.hid (shr_byte n j)
      clear hll hb
      go_wp2_with fail
      go_region_law (first
        | (go_simp;go_at_call 307;rw [HC.out];refine (HW.out _ (by repeat (first | exact Fresh.refl _ | refine Fresh.drew ?_))).mono ?_;rintro e w2 ⟨rfl,hb2,hl2⟩))
      all_goals
        go_wp2
        refine ⟨⟨j,by go_num,by omega,hl2,_,hb2,by rw [← HLL.out];simp [beB]⟩,by simp [intOf];omega⟩
open Go.RowKit Go.Maps Go.Sort Go.Shelf
shelf_lay_g SlLaysZI.n7 Ggz 7 at Tryz 180 as Tryz.keysA
shelf_lay_g SlLaysZI.n6 Ggz 6 at Tryz 179 as Tryz.sortedA
shelf_lay_g SlLaysM.n5 Slgm 5 at Tryz 268 as Tryz.sortA
theorem sortsA (m:Nat):AnyZI.SortsIn Tryz.prog Tryz.sortedA_ren Fence.wide m :=
  ⟨fun blk off cap ss W hH hblk hsz=>callsIn_wide.2 (AnyM.slices_Sort_int Tryz.sortA blk off cap ss W hH hblk hsz),
   fun p cap W=>callsIn_wide.2 (AnyM.slices_Sort_int_none Tryz.sortA p cap W)⟩
theorem intKeys_facts {w:World} {b n:Nat} {D0:DataW Value} (hown:w.ownsMap Tryz.prog 3 heldR b n D0):(intKeys D0).Nodup∧∀ x,x ∈ intKeys D0 ↔ Maps.has D0 (.int .i64 x)=true:=by
  obtain ⟨es,hD,hpw,_⟩:=hown.entries keyI
  obtain ⟨es',hD',hko⟩:=hown.keysOf
  obtain rfl:es=es':=by rw [hD] at hD';simpa using hD'
  subst hD
  have hk:∀ p ∈ es,∃ x,p.1=.int .i64 x:=fun p hp=>by obtain ⟨v,hv⟩:=hko p hp;obtain ⟨x,_,hx,_⟩:=Maps.keyOf_i64 Tryz.underlying3 hv;exact ⟨x,hx⟩
  refine ⟨?_,fun x=>?_⟩
  · show (es.map _).Nodup
    refine List.pairwise_map.2 (hpw.imp_of_mem fun {p q} hp' hq' hne e=>hne ?_)
    obtain ⟨a,ha⟩:=hk p hp'
    obtain ⟨b,hb⟩:=hk q hq'
    rw [ha,hb] at e ⊢
    exact congrArg _ e
  · rw [has_eq,List.any_eq_true]
    unfold intKeys
    rw [List.mem_map]
    constructor
    · rintro ⟨p,hp',rfl⟩
      obtain ⟨a,ha⟩:=hk p hp'
      exact ⟨p,hp',by rw [ha];simp [Lit.sameKey,Go.intOf]⟩
    · rintro ⟨p,hp',hs⟩
      obtain ⟨a,ha⟩:=hk p hp'
      rw [ha] at hs
      exact ⟨p,hp',by rw [ha];simpa [Lit.sameKey,Go.intOf] using hs⟩
def DirsPost (T:TreS) (q:Nat) (w:World) (e:Ending) (w':World):Prop :=
  ∃ v ks,e=.returned v∧OwnA w' (fun g=>w.heap.size≤g) 3 1 v ks.length (ints ks)∧ks.Pairwise (·<·)∧(∀ i,i ∈ ks ↔ (T.dirs i).isSome=true)∧ks.length≤q∧Fresh w w'
set_option maxHeartbeats 1000000 in
theorem dirs_any (w:World) (A:Nat→Prop) (t:Nat) (T:TreS) (q:Nat) (h:TreeAt w A t T q) (hq:q≤1000000):Calls Tryz.prog 124 #[.pointer (some ⟨t,0,none⟩)] w (DirsPost T q w):=by
  obtain ⟨gd,gf,pp,Md,Mf,Ap,h1,h2,h3,h4,h5,h6,h7,h8,h9,h10,h12,h11⟩:=h
  have c0:w.cell? ⟨t,0,none⟩=some (.map (some gd)):=by rw [h1.cell];rfl
  obtain ⟨D0,hown,hM⟩:=h6
  have hsize:Maps.size D0≤q:=hown.size_le
  have HF:Hid (∀ ss:List Int,ss.Perm (intKeys D0)→((ss.mergeSort (fun x y=>decide (x≤y))).Pairwise (·<·)∧(∀ i,i ∈ ss.mergeSort (fun x y=>decide (x≤y)) ↔ (T.dirs i).isSome=true))∧(ss.mergeSort (fun x y=>decide (x≤y))).length=ss.length∧ss.length≤q):=Lib.hid (fun ss hp=>by
    obtain ⟨f1,f2⟩:=intKeys_facts hown
    have hpm:=(List.mergeSort_perm ss (fun x y=>decide (x≤y))).trans hp
    have hnd:(ss.mergeSort (fun x y=>decide (x≤y))).Nodup:=hpm.nodup_iff.2 f1
    have hle:(ss.mergeSort (fun x y=>decide (x≤y))).Pairwise (fun x y=>decide (x≤y)=true):=List.pairwise_mergeSort (fun a b c h1 h2=>by simp at *;omega) (fun a b=>by simp;omega) ss
    refine ⟨⟨?_,fun i=>?_⟩,List.length_mergeSort _,?_⟩
    · refine (hle.and hnd).imp fun {x y} hh=>?_
      have:=hh.1
      simp at this
      have:=hh.2
      omega
    · rw [hpm.mem_iff,f2]
      rw [show Maps.has D0 (.int .i64 i)=Maps.has D0 (kl i) from rfl,own_has hown,hM]
      cases hT:T.dirs i with
      | none=>rw [h10 i hT];simp
      | some l =>
        obtain ⟨v,hv,_⟩:=h9 i l hT
        rw [hv]
        rfl
    · have:ss.length=(intKeys D0).length:=hp.length_eq
      rw [this]
      have e:(intKeys D0).length=Maps.size D0:=by
        obtain ⟨es,rfl⟩:=own_isMap hown
        simp [intKeys,Maps.size]
      omega)
  refine (callsIn_wide (n:=6)).1 ?_
  have hbl:=hown.lt
  have hseq:SeqGives Fence.wide 2 Tryz.prog 269 #[.pointer (some ⟨w.heap.size,0,none⟩)] encZ (fun ss=>ss.Perm (intKeys D0)) (Maps.size D0) (w.alloc (.cells #[.map (some gd)] 155)) :=
    AnyZI.keys_gives (ρ:=Tryz.keysA_ren) { Tryz.keysA with } Fence.wide _ trivial rfl (by omega) w.heap.size gd q D0 _ (by simp) (by simp) (by
      obtain ⟨es,clock,hb,Ft,hs,hD⟩:=hown
      exact ⟨es,clock,(Below.heap_alloc _ _ gd hbl).trans hb,Ft,hs,hD⟩)
  have cK:∀ mb W,CallsIn Fence.wide 5 Tryz.prog 180 #[.map mb] W fun e w'=>e=.returned (.func (.func 269) #[] #[.pointer (some ⟨W.heap.size,0,none⟩)])∧w'=W.alloc (.cells #[.map mb] 155):=fun mb W=>AnyZI.keys_in Tryz.keysA Fence.wide 5 trivial rfl mb W
  have cS:=AnyZI.sorted_in Tryz.sortedA Fence.wide 5 trivial trivial trivial trivial rfl (by omega) (sortsA _) (enters_of Tryz.func268 (by kernel_rfl) rfl) 269 #[.pointer (some ⟨w.heap.size,0,none⟩)] trivial (enters_of Tryz.func269 (by kernel_rfl) rfl) _ _ (by unfold maxLen;omega) (by omega) _ hseq
  change CallsIn _ _ Tryz.prog 179 _ _ _ at cS
  have hfK:Fence.wide.fn 180:=trivial
  have hfS:Fence.wide.fn 179:=trivial
  clear h1 h2 h3 h4 h5 h7 h8 h9 h10 h11 h12 hseq hown hM
  refine callsIn_of_wp Tryz.func124 rfl trivial ?_ rfl
  simp only [Tryz.ntmps124,List.size_toArray,List.length_cons,List.length_nil,Nat.reduceAdd,Nat.reduceSub,Array.replicate_succ,Array.replicate_zero,List.push_toArray,List.append_toArray,List.nil_append,List.cons_append]
  gi_wp2_with (first
    | (gi_at_call 180;refine (cK _ _).mono ?_;rintro e w' ⟨rfl,rfl⟩)
    | (gi_at_call 179;refine cS.mono ?_;rintro e w' ⟨v,ss,rfl,hS,hrow,hnil,hb⟩))
  go_ret
  obtain ⟨⟨f1,f2⟩,f3,f4⟩:=HF.out ss hS
  refine ⟨v,_,rfl,?_,f1,f2,by omega,((Fresh.refl w).alloc _).trans hb⟩
  rw [f3]
  exact ⟨own_base hrow (Nat.zero_le _),fun g hg=>by have:=(hrow.lt g hg).1;simp at this;omega⟩
end Go.Proofs.YtpmlggjhfiljmaaGreatDoor
namespace Go.Proofs.YtpmlggjhfiljmaaGreatDoor
open Go.RowKit
def img0L:List UInt8:=(([]++beB 1 8)++beB 1 2++beB 0 2)++beB 0 2
def img0:ByteArray:=⟨img0L.toArray⟩
def IsT0 (T:TreS):Prop:=(∀ i,T.dirs i=if i=0 then some [] else none)∧T.next=1∧(∀ i,T.files i=false)∧(∀ i,T.out i=false)∧T.fr=1∧T.bk=[]
theorem isT0:IsT0 T0:=⟨fun _=>rfl,rfl,fun _=>rfl,fun _=>rfl,rfl,rfl⟩
theorem dirs0 {T:TreS} (h:IsT0 T) {ks:List Int} (h1:ks.Pairwise (·<·)) (h2:∀ i,i ∈ ks ↔ (T.dirs i).isSome=true):ks=[0]:=by
  have m:∀ i,i ∈ ks ↔ i=0:=fun i=>by
    rw [h2,h.1]
    by_cases e:i=0
    · simp [e]
    · simp [e]
  match ks,h1,m with
  | [],_,m=>exact absurd ((m 0).2 rfl) (by simp)
  | [a],_,m=>rw [(m a).1 (by simp)]
  | a :: b :: l,h1,m =>
    have e1:=(m a).1 (by simp)
    have e2:=(m b).1 (by simp)
    have:=(List.pairwise_cons.1 h1).1 b (by simp)
    omega
set_option maxHeartbeats 2000000 in
set_option maxRecDepth 100000 in
theorem encode0_any (w:World) (A:Nat→Prop) (t:Nat) (T:TreS) (q:Nat) (h:TreeAt w A t T q) (hT:IsT0 T) (hq:q≤1000000):Calls Tryz.prog 143 #[.pointer (some ⟨t,0,none⟩)] w fun e w'=>e=.returned (.string img0)∧Fresh w w':=by
  have HT:=Lib.hid hT
  have HTR:=Lib.hid (fun W hW=>h.fresh (w':=W) hW)
  have HCK:=Lib.hid (fun W hW=>cookie_any W A t T q (h.fresh hW))
  have HDR:=Lib.hid (fun W hW=>dirs_any W A t T q (h.fresh hW) hq)
  have HLS:=Lib.hid (fun W hW=>tlist_any W A t T q (h.fresh hW) 0 (by unfold I64;omega) (fun l hl=>by rw [hT.1 0] at hl;injection hl with hl;subst hl;simp))
  have HN8:Hid (∀ A b l W,BldAt W A b l→l.length≤1000→Calls Tryz.prog 228 #[.pointer (some ⟨b,0,none⟩),.int .u64 1,.int .i64 8] W fun e w'=>e=.returned (.tuple #[])∧BldAt w' (ext A W w') b (l++beB 1 8)∧Mut A W w'):=Lib.hid (fun A b l W h1 h2=>number_any A b l 1 8 (by omega) (by omega) W h1 (by omega))
  have HN2:Hid (∀ A b l W,BldAt W A b l→l.length≤1000→Calls Tryz.prog 228 #[.pointer (some ⟨b,0,none⟩),.int .u64 1,.int .i64 2] W fun e w'=>e=.returned (.tuple #[])∧BldAt w' (ext A W w') b (l++beB 1 2)∧Mut A W w'):=Lib.hid (fun A b l W h1 h2=>number_any A b l 1 2 (by omega) (by omega) W h1 (by omega))
  have HN0:Hid (∀ A b l W,BldAt W A b l→l.length≤1000→Calls Tryz.prog 228 #[.pointer (some ⟨b,0,none⟩),.int .u64 0,.int .i64 2] W fun e w'=>e=.returned (.tuple #[])∧BldAt w' (ext A W w') b (l++beB 0 2)∧Mut A W w'):=Lib.hid (fun A b l W h1 h2=>number_any A b l 0 2 (by omega) (by omega) W h1 (by omega))
  have HB0:Hid (BldAt (w.alloc (.cells #[.pointer none,.slice none 0 0] 302)) (fun j=>j=w.heap.size) w.heap.size []):=Lib.hid ⟨rfl,_,_,.inl rfl,Blk.new _ _ _,OwnA.nil _ _ _ _⟩
  clear h hT
  go_enter Tryz.func143,Tryz.ntmps143
  go_wp2_with fail
  refine (HCK.out _ ((Fresh.refl w).alloc _)).mono ?_
  rintro e w0 ⟨rfl,rfl⟩
  rw [HT.out.2.1]
  go_wp2_with fail
  refine (HN8.out _ _ _ _ HB0.out (by decide)).mono ?_
  rintro e w1 ⟨rfl,b1,u1⟩
  have hf1:Fresh w w1:=Fresh.mut2 ((Fresh.refl w).alloc _) u1 (fun j e=>by omega)
  have HB1:Hid (BldAt w1 (fun j=>w.heap.size≤j∧j<w1.heap.size) w.heap.size ([]++beB 1 8)):=Lib.hid (b1.mono (fun g hg hh=>by
    rcases hh with q | q
    · exact ⟨by omega,hg⟩
    · exact ⟨by have:=q.1;simp at this;omega,hg⟩))
  clear b1 u1
  go_wp2_with fail
  refine (HDR.out _ hf1).mono ?_
  rintro e w2 ⟨v,ks,rfl,hks,hk1,hk2,_,hf2⟩
  have hk:=dirs0 HT.out hk1 hk2
  subst hk
  obtain ⟨a2,c2,rfl⟩:=hks.shape
  have HKS:=Lib.hid hks
  have HB2:=Lib.hid (HB1.out.fresh hf2)
  have HF2:=Lib.hid (hf1.trans hf2)
  have z2:=hf2.size
  clear hks hk1 hk2 hf2 hf1
  go_wp2_with fail
  refine (HN2.out _ _ _ _ HB2.out (by simp [beB_len])).mono ?_
  rintro e w3 ⟨rfl,b3,u3⟩
  have hk3:=HKS.out.mut u3 (fun g hg hh=>by omega)
  have HB3:=Lib.hid b3
  have HF3:Hid (Fresh w w3):=Lib.hid (HF2.out.mut2 u3 (fun j h=>h.1))
  obtain ⟨g,hg⟩:∃ g,a2=some ⟨g,0,none⟩:=by
    obtain ⟨_,⟨q1,q2⟩ | ⟨g,cap,cur,q,_⟩⟩:=HKS.out.1
    · cases q2
    · injection q with q;exact ⟨g,q⟩
  subst hg
  have ck:w3.cell? ⟨g,0,none⟩=some (.int .i64 0):=by
    have:=hk3.1.cells (g:=g) rfl 0 (.int .i64 0) rfl
    exact this
  clear b3 u3 hk3
  go_wp2_with fail
  refine wp_loop_rounds 2 ?_
  rw [rounds_succ]
  go_wp2_with fail
  refine (HLS.out _ HF3.out).mono ?_
  rintro e w4 (⟨l4,v4,hl4,rfl,ho4,hf4⟩ | ⟨hn,_⟩)
  case inr=>rw [HT.out.1 0] at hn;cases hn
  rw [HT.out.1 0] at hl4
  injection hl4 with hl4
  subst hl4
  obtain ⟨a4,c4,rfl⟩:=ho4.shape
  have HB4:=Lib.hid (HB3.out.fresh hf4)
  have HF4:=Lib.hid (HF3.out.trans hf4)
  clear ho4 hf4
  go_wp2_with fail
  refine (HN0.out _ _ _ _ HB4.out (by simp [beB_len])).mono ?_
  rintro e w5 ⟨rfl,b5,u5⟩
  have z3:w.heap.size≤w2.heap.size:=HF2.out.size
  have z4:w.heap.size≤w4.heap.size:=HF4.out.size
  have HF5:Hid (Fresh w w5):=Lib.hid (HF4.out.mut2 u5 (fun j h=>by
    rcases h with h | h
    · exact h.1
    · omega))
  have HB5:=Lib.hid b5
  clear b5 u5
  go_wp2_with fail
  refine (HN0.out _ _ _ _ HB5.out (by simp [beB_len])).mono ?_
  rintro e w6 ⟨rfl,b6,u6⟩
  have HF6:Hid (Fresh w w6):=Lib.hid (HF5.out.mut2 u6 (fun j h=>by
    rcases h with (h | h) | h
    · exact h.1
    · omega
    · omega))
  have HB6:=Lib.hid (bstring_any _ _ _ _ b6 (by
    intro e
    have:=congrArg List.length e
    simp [beB_len] at this))
  have HFU:Hid (∀ w',Mut (ext (ext (ext (fun j=>w.heap.size≤j∧j<w1.heap.size) w2 w3) w4 w5) w5 w6) w6 w'→Fresh w w'):=Lib.hid (fun w' hm=>HF6.out.mut2 hm (fun j h=>by
    have z5:w.heap.size≤w5.heap.size:=HF5.out.size
    rcases h with ((h | h) | h) | h
    · exact h.1
    · omega
    · omega
    · omega))
  clear b6 u6
  go_wp2_with fail
  refine wp_loop_rounds 1 ?_
  rw [rounds_succ]
  go_wp2
  rw [rounds_succ]
  go_wp2_with fail
  refine HB6.out.mono ?_
  rintro e w7 ⟨rfl,hm⟩
  have HF7:=Lib.hid (HFU.out w7 hm)
  clear hm
  go_wp2
  go_ret
  exact ⟨rfl,HF7.out⟩
open Go.RowKit
def ImRd (w:World) (r:Nat) (S:ByteArray):Prop:=Blk w r 338 #[.string S,.bool false]
def TakeR (r:Nat) (S:ByteArray) (k:Nat) (w:World) (e:Ending) (w':World):Prop:=e=.returned (.string (S.extract 0 k))∧ImRd w' r (S.extract k S.size)∧Mut (fun j=>j=r) w w'
set_option maxRecDepth 100000 in
set_option maxHeartbeats 1600000 in
theorem rtake_any (r:Nat) (S:ByteArray) (k:Nat) (hk:k≤S.size) (hS:S.size≤100000) (w:World) (h:ImRd w r S):Calls Tryz.prog 330 #[.pointer (some ⟨r,0,none⟩),.int .i64 k] w (TakeR r S k w):=by
  have c0:w.cell? ⟨r,0,none⟩=some (.string S):=by rw [h.cell];rfl
  have c1:w.cell? ⟨r,1,none⟩=some (.bool false):=by rw [h.cell];rfl
  have f0:w.frozen? ⟨r,0,none⟩=false:=h.frozen 0
  have H:=Lib.hid h
  have h1:¬ (S.size:Int)<(k:Int):=by omega
  have h2:(k:Int)≤(S.size:Int):=by omega
  clear h hk
  go_enter Tryz.func330,Tryz.ntmps330
  go_wp2
  go_ret
  exact ⟨rfl,(show Blk w r _ _ from H.out).set (i:=0),(Mut.refl (fun j=>j=r) w).setCell (p:=⟨r,0,none⟩) (.inl rfl) _⟩
def NumR (r:Nat) (S:ByteArray) (k:Nat) (e:Int) (w:World) (en:Ending) (w':World):Prop:=en=.returned (.int .u64 e)∧ImRd w' r (S.extract k S.size)∧Mut (fun j=>j=r) w w'
def NumRel (n:Nat) (e:Int) (w:World) (m i:Value) (wr:World):Prop:=∃ k:Nat,i=.int .i64 k∧((k<n∧m=.int .u64 0)∨(k=n∧m=.int .u64 e))∧Fresh w wr
set_option maxRecDepth 100000 in
set_option maxHeartbeats 1600000 in
theorem rnum_any (r:Nat) (S:ByteArray) (k:Nat) (e:Int) (hk0:1≤k) (hk:k≤S.size) (hS:S.size≤100000) (he:0≤e∧e<256) (hor:bits .or .u64 0 e=e) (hB:∀ j,j<k→B (S.extract 0 k) j=if j=k - 1 then e else 0) (w:World) (h:ImRd w r S):Calls Tryz.prog 261 #[.pointer (some ⟨r,0,none⟩),.int .i64 k] w (NumR r S k e w):=by
  have HTK:=Lib.hid (rtake_any r S k hk hS w h)
  have hk100:k≤100000:=by omega
  obtain ⟨t,ht⟩:∃ t,S.extract 0 k=t:=⟨_,rfl⟩
  have hts:t.size=k:=by rw [← ht,ByteArray.size_extract];omega
  have HT:=Lib.hid ht
  rw [ht] at hB
  have HTS:=Lib.hid hts
  have HBB:=Lib.hid hB
  have HOR:=Lib.hid hor
  have hcv:=fun W:World=>Lib.run_convert_string_bytes (P:=Tryz.prog) W 9 131 5 t Tryz.underlying9 Tryz.underlying131 Tryz.underlying5
  rw [hts] at hcv
  have HCELL:=Lib.hid (fun (W:World) (j:Nat) (hj:j<t.size)=>Lib.bytesWorld_cell W 5 t j hj)
  have HFW:Hid (∀ W:World,Fresh W (Lib.bytesWorld W 5 t)):=Lib.hid (fun W=>fresh_bytes W _ _)
  have HLT:Hid (∀ W:World,W.heap.size<(Lib.bytesWorld W 5 t).heap.size):=Lib.hid (fun W=>by rw [Lib.bytesWorld_size];omega)
  clear hts hB hor h hk
  go_enter Tryz.func261,Tryz.ntmps261
  go_wp2_with fail
  refine HTK.out.mono ?_
  rintro e1 w1 ⟨rfl,hr1,hu1⟩
  rw [ht]
  have HR1:=Lib.hid hr1
  have HU1:=Lib.hid hu1
  clear ht hr1 hu1
  go_wp2
  go_loopw [5,13] (fun m i wr=>NumRel k e (Lib.bytesWorld w1 5 t) m i wr) (fun _ i _=>k - (intOf i).toNat)
  case atStart=>exact ⟨0,rfl,.inl ⟨by omega,rfl⟩,Fresh.refl _⟩
  case round =>
    obtain ⟨i,rfl,hi,hf⟩:=hrel
    rcases hi with ⟨hi,rfl⟩ | ⟨rfl,rfl⟩
    · have c1:wr.cell? ⟨w1.heap.size,i,none⟩=some (.int .u8 (B t i)):=(Below.cell hf (p:=⟨w1.heap.size,i,none⟩) (HLT.out w1)).trans (HCELL.out w1 i (by rw [HTS.out];exact hi))
      rw [HBB.out i hi] at c1
      have i1:(i:Int)<(k:Int):=by omega
      have i2:(i:Int)≤100000:=by omega
      by_cases h7:i=k - 1
      · rw [if_pos h7] at c1
        have HH7:=Lib.hid h7
        have hor:=HOR.out
        clear h7
        go_wp2
        go_roundw
        case rel=>exact ⟨i+1,by go_num,.inr ⟨by have:=HH7.out;omega,rfl⟩,hf⟩
        case measure=>simp [intOf];omega
      · rw [if_neg h7] at c1
        have hor:bits .or .u64 0 0=0:=by decide
        have hk7:i<k - 1:=by omega
        clear h7
        go_wp2
        go_roundw
        case rel=>exact ⟨i+1,by go_num,.inl ⟨by omega,rfl⟩,hf⟩
        case measure=>simp [intOf];omega
    · go_wp2
      go_ret
      exact ⟨rfl,((show Blk w1 r _ _ from HR1.out).keep ((HFW.out w1).trans hf)),HU1.out.andFresh ((HFW.out w1).trans hf)⟩
open Go.RowKit
def im (k:Nat):ByteArray:=img0.extract k 14
theorem im_facts:((im 0=img0∧(im 0).extract 8 (im 0).size=im 8)∧(im 8).extract 2 (im 8).size=im 10∧(im 10).extract 2 (im 10).size=im 12∧(im 12).extract 2 (im 12).size=im 14)∧((im 0).size=14∧(im 8).size=6∧(im 10).size=4∧(im 12).size=2):=by decide +kernel
theorem im_b0:((List.range 8).all fun j=>decide (B ((im 0).extract 0 8) j=if j=8 - 1 then 1 else 0))=true:=by decide +kernel
theorem im_b8:((List.range 2).all fun j=>decide (B ((im 8).extract 0 2) j=if j=2 - 1 then 1 else 0))=true:=by decide +kernel
theorem im_b10:((List.range 2).all fun j=>decide (B ((im 10).extract 0 2) j=if j=2 - 1 then 0 else 0))=true:=by decide +kernel
theorem im_b12:((List.range 2).all fun j=>decide (B ((im 12).extract 0 2) j=if j=2 - 1 then 0 else 0))=true:=by decide +kernel
theorem all_of {n:Nat} {f:Nat→Prop} [DecidablePred f] (h:((List.range n).all fun j=>decide (f j))=true):∀ j,j<n→f j:=fun j hj=>by
  have:=List.all_eq_true.1 h j (List.mem_range.2 hj)
  simpa using this
def NumI (r k':Nat) (e:Int) (w:World) (en:Ending) (w':World):Prop:=en=.returned (.int .u64 e)∧ImRd w' r (im k')∧Mut (fun j=>j=r) w w'
theorem num0 (r:Nat) (w:World) (h:ImRd w r img0):Calls Tryz.prog 261 #[.pointer (some ⟨r,0,none⟩),.int .i64 8] w (NumI r 8 1 w):=by
  rw [← im_facts.1.1.1] at h
  have:=rnum_any r (im 0) 8 1 (by omega) (by rw [im_facts.2.1];omega) (by rw [im_facts.2.1];omega) (by omega) (by decide) (all_of im_b0) w h
  unfold NumR at this
  rw [im_facts.1.1.2] at this
  exact this
theorem num8 (r:Nat) (w:World) (h:ImRd w r (im 8)):Calls Tryz.prog 261 #[.pointer (some ⟨r,0,none⟩),.int .i64 2] w (NumI r 10 1 w):=by
  have:=rnum_any r (im 8) 2 1 (by omega) (by rw [im_facts.2.2.1];omega) (by rw [im_facts.2.2.1];omega) (by omega) (by decide) (all_of im_b8) w h
  unfold NumR at this
  rw [im_facts.1.2.1] at this
  exact this
theorem num10 (r:Nat) (w:World) (h:ImRd w r (im 10)):Calls Tryz.prog 261 #[.pointer (some ⟨r,0,none⟩),.int .i64 2] w (NumI r 12 0 w):=by
  have:=rnum_any r (im 10) 2 0 (by omega) (by rw [im_facts.2.2.2.1];omega) (by rw [im_facts.2.2.2.1];omega) (by omega) (by decide) (all_of im_b10) w h
  unfold NumR at this
  rw [im_facts.1.2.2.1] at this
  exact this
theorem num12 (r:Nat) (w:World) (h:ImRd w r (im 12)):Calls Tryz.prog 261 #[.pointer (some ⟨r,0,none⟩),.int .i64 2] w (NumI r 14 0 w):=by
  have:=rnum_any r (im 12) 2 0 (by omega) (by rw [im_facts.2.2.2.2];omega) (by rw [im_facts.2.2.2.2];omega) (by omega) (by decide) (all_of im_b12) w h
  unfold NumR at this
  rw [im_facts.1.2.2.2] at this
  exact this
set_option maxRecDepth 100000 in
set_option maxHeartbeats 1600000 in
theorem sevE_any (r:Nat) (v:Value) (w:World) (h:ImRd w r (im 12)):Calls Tryz.prog 331 #[.pointer (some ⟨r,0,none⟩),v] w fun e w'=>e=.returned (.slice none 0 0)∧ImRd w' r (im 14)∧Mut (fun j=>j=r) w w':=by
  have HN:=Lib.hid (num12 r w h)
  clear h
  go_enter Tryz.func331,Tryz.ntmps331
  go_wp2_with fail
  refine HN.out.mono ?_
  rintro e w1 ⟨rfl,h1,u1⟩
  have HF:=Lib.hid (And.intro h1 u1)
  clear h1 u1
  go_wp2_with fail
  refine wp_loop_rounds 1 ?_
  rw [rounds_succ]
  go_wp2
  go_ret
  exact ⟨rfl,HF.out.1,HF.out.2⟩
theorem enters263:∀ (args:Array Value) (W:World),Sem.run Tryz.prog (callFunc 263 args) W=.ok (.enter 263 args) W:=by intro args w;go_simp
theorem results_cell1 {fn:Func} {p:Tmp} {ty:TypeId} (h:fn.results=#[.cell p ty]) (tmps:Array Value) (P:Program) (w:World) :
    (results fn tmps).run P w=((asAddr (tmps.getD p undef)).run P w).andThen fun a w₁=>(loadVar ty a).run P w₁:=by
  simp only [results,h]
  simp [Sem.run_bind,Result.andThen]
set_option maxRecDepth 100000 in
set_option maxHeartbeats 1600000 in
theorem rdir_any (r:Nat) (w:World) (h:ImRd w r (im 10)):Calls Tryz.prog 263 #[.pointer (some ⟨r,0,none⟩)] w fun e w'=>e=.returned (.agg #[.int .i64 0,.slice none 0 0])∧ImRd w' r (im 14)∧Mut (fun j=>j=r) w w':=by
  have HN:=Lib.hid (fun W hW=>num10 r W ((show Blk w r _ _ from h).keep hW))
  have HS:=Lib.hid (fun v W hW=>sevE_any r v W hW)
  have hrl:=(show Blk w r _ _ from h).lt
  clear h
  go_enter Tryz.func263,Tryz.ntmps263
  go_wp2_with fail
  refine (HN.out _ ((Fresh.refl w).alloc _)).mono ?_
  rintro e w1 ⟨rfl,h1,u1⟩
  have b1:Blk w1 w.heap.size 343 #[.int .i64 0,.slice none 0 0]:=(Blk.new w _ _).mut u1 (by omega)
  have U1:Hid (Mut (fun j=>j=r) w w1):=Lib.hid (Fresh.andMut ((Fresh.refl w).alloc _) u1)
  have B1:=Lib.hid b1
  have R1:=Lib.hid h1
  clear h1 u1 b1
  go_wp2_with fail
  refine (HS.out _ _ R1.out).mono ?_
  rintro e w2 ⟨rfl,h2,u2⟩
  have b2:Blk w2 w.heap.size 343 #[.int .i64 0,.slice none 0 0]:=B1.out.mut u2 (by omega)
  have c0:w2.cell? ⟨w.heap.size,0,none⟩=some (.int .i64 0):=by rw [b2.cell];rfl
  have c1:w2.cell? ⟨w.heap.size,1,none⟩=some (.slice none 0 0):=by rw [b2.cell];rfl
  have f0:w2.frozen? ⟨w.heap.size,0,none⟩=false:=b2.frozen 0
  have f1:w2.frozen? ⟨w.heap.size,1,none⟩=false:=b2.frozen 1
  have B2:=Lib.hid b2
  have HF:=Lib.hid (And.intro h2 (U1.out.trans u2))
  have HZ:=Lib.hid u2.size
  have HZ1:=Lib.hid U1.out.size
  clear h2 u2 b2
  go_wp2
  have b3:Blk ((w2.setCell ⟨w.heap.size,0,none⟩ (.int .i64 0)).setCell ⟨w.heap.size,1,none⟩ (.slice none 0 0)) w.heap.size 343 #[.int .i64 0,.slice none 0 0]:=(B2.out.set (i:=0) (u:=.int .i64 0)).set (i:=1) (u:=.slice none 0 0)
  have d0:((w2.setCell ⟨w.heap.size,0,none⟩ (.int .i64 0)).setCell ⟨w.heap.size,1,none⟩ (.slice none 0 0)).cell? ⟨w.heap.size,0,none⟩=some (.int .i64 0):=by rw [b3.cell];rfl
  have d1:((w2.setCell ⟨w.heap.size,0,none⟩ (.int .i64 0)).setCell ⟨w.heap.size,1,none⟩ (.slice none 0 0)).cell? ⟨w.heap.size,1,none⟩=some (.slice none 0 0):=by rw [b3.cell];rfl
  refine bodyPost_ret (v:=.agg #[.int .i64 0,.slice none 0 0]) ?_ rfl ⟨rfl,?_⟩
  · rw [results_cell1 rfl]
    go_simp
  · have hs:Mut (fun j=>j=w.heap.size) w2 ((w2.setCell ⟨w.heap.size,0,none⟩ (.int .i64 0)).setCell ⟨w.heap.size,1,none⟩ (.slice none 0 0)):=((Mut.refl (fun j=>j=w.heap.size) w2).setCell (p:=⟨w.heap.size,0,none⟩) (.inl rfl) _).setCell (p:=⟨w.heap.size,1,none⟩) (.inl rfl) _
    exact ⟨(show Blk w2 r _ _ from HF.out.1).mut hs (by omega),HF.out.2.trans2 hs (fun _ h=>h) (fun j hj e=>by omega)⟩
theorem infoDir:(Tryz.prog.info? 343).map (fun i=>(i.zero,i.size,i.bytes))=some (some (.agg #[.int .i64 0,.slice none 0 0]),2,32):=by kernel_rfl
set_option maxRecDepth 100000 in
set_option maxHeartbeats 1600000 in
theorem sevD_any (r:Nat) (w:World) (h:ImRd w r (im 8)):Calls Tryz.prog 262 #[.pointer (some ⟨r,0,none⟩),.func (.func 263) #[.pointer (some ⟨r,0,none⟩)] #[]] w fun e w'=>(∃ g c,e=.returned (.slice (some ⟨g,0,none⟩) 1 c)∧w'.cell? ⟨g,0,none⟩=some (.int .i64 0)∧w'.cell? ⟨g,1,none⟩=some (.slice none 0 0)∧w.heap.size≤g)∧ImRd w' r (im 14)∧Mut (fun j=>j=r) w w':=by
  have HN:=Lib.hid (num8 r w h)
  have HD:=Lib.hid (fun W hW=>rdir_any r W hW)
  have hrl:=(show Blk w r _ _ from h).lt
  have hen:=enters263
  clear h
  go_enter Tryz.func262,Tryz.ntmps262
  go_wp2_with fail
  refine HN.out.mono ?_
  rintro e w1 ⟨rfl,h1,u1⟩
  have c1:w1.cell? ⟨r,1,none⟩=some (.bool false):=by rw [(show Blk w1 r _ _ from h1).cell];rfl
  have HF:=Lib.hid (And.intro h1 u1)
  clear h1 u1
  go_wp2_with fail
  refine wp_loop_rounds 2 ?_
  rw [rounds_succ]
  go_wp2_with fail
  refine (HD.out _ HF.out.1).mono ?_
  rintro e w2 ⟨rfl,h2,u2⟩
  have H2:=Lib.hid (And.intro h2 (HF.out.2.trans u2))
  have HZ:Hid (w.heap.size≤w2.heap.size):=Lib.hid (HF.out.2.trans u2).size
  clear h2 u2 c1
  obtain ⟨i0,hi0,hz0,hz1,hz2⟩:=info_partsG infoDir
  go_wp2_with (at_builtin;refine wpList_append_ownA _ rfl _ _ 340 rfl (fun g=>w2.heap.size≤g) 343 i0 _ 2 32 Tryz.underlying340 hi0 hz0 hz1 hz2 rfl (by decide) (.slice none 0 0) 0 [] rfl (OwnA.nil _ _ _ _) ⟨w2.heap.size,0,none⟩ 1 1 [.int .i64 0,.slice none 0 0] rfl rfl (newCells _ _ _) (by intro u hu;simp at hu;rcases hu with rfl | rfl <;> rfl) (by omega) (by decide) ?_;intro a' c' w' hown' hgrow)
  have hf3:Fresh w2 w':=Fresh.mut2 ((Fresh.refl w2).alloc _) hgrow (fun j e=>by cases e)
  have hg:∃ g,a'=some ⟨g,0,none⟩:=by
    obtain ⟨_,⟨q1,q2⟩ | ⟨g,cap,cur,q,_⟩⟩:=hown'.1
    · cases q2
    · injection q with q;exact ⟨g,q⟩
  obtain ⟨g,rfl⟩:=hg
  have d0:w'.cell? ⟨g,0,none⟩=some (.int .i64 0):=hown'.1.cells (g:=g) rfl 0 (.int .i64 0) rfl
  have d1:w'.cell? ⟨g,1,none⟩=some (.slice none 0 0):=hown'.1.cells (g:=g) rfl 1 (.slice none 0 0) rfl
  have hgl:w.heap.size≤g:=by
    have:=HZ.out
    rcases hown'.2 g rfl with q | q
    · omega
    · have:=q.1;simp at this;omega
  have HG:=Lib.hid (And.intro d0 (And.intro d1 (And.intro hgl hf3)))
  clear hown' hgrow hf3 d0 d1 hgl
  go_wp2_with fail
  rw [rounds_succ]
  go_wp2
  go_ret
  exact ⟨⟨g,_,rfl,HG.out.1,HG.out.2.1,HG.out.2.2.1⟩,(show Blk w2 r _ _ from H2.out.1).keep HG.out.2.2.2,H2.out.2.andFresh HG.out.2.2.2⟩
open Go.RowKit
def MkAt (w:World) (m gd gc:Nat) (nm:Value):Prop:=Blk w m 420 #[.int .i64 1,.map (some gd),.slice none 0 0,.map (some gc),nm,.bool false]
theorem must_any (w:World) (m gd gc:Nat) (nm:Value) (h:MkAt w m gd gc nm):Calls Tryz.prog 333 #[.pointer (some ⟨m,0,none⟩),.bool true] w fun e w'=>e=.returned (.tuple #[])∧MkAt w' m gd gc nm∧Mut (fun j=>j=m) w w':=by
  have c5:w.cell? ⟨m,5,none⟩=some (.bool false):=by rw [h.cell];rfl
  have f5:w.frozen? ⟨m,5,none⟩=false:=h.frozen 5
  have H:=Lib.hid h
  clear h
  go_enter Tryz.func333,Tryz.ntmps333
  go_wp2
  go_end0
  exact ⟨rfl,(show Blk w m _ _ from H.out).set (i:=5),(Mut.refl (fun j=>j=m) w).setCell (p:=⟨m,5,none⟩) (.inl rfl) _⟩
theorem isSorted_nil (f:Value) (w:World):Calls Tryz.prog 370 #[.slice none 0 0,f] w fun e w'=>e=.returned (.bool true)∧w=w':=by
  go_enter Tryz.func370,Tryz.ntmps370
  go_wp2
  refine wp_loop_rounds 1 ?_
  rw [rounds_succ]
  go_wp2
  go_ret
  exact ⟨rfl,rfl⟩
set_option maxRecDepth 100000 in
set_option maxHeartbeats 1600000 in
theorem mdir_any (w:World) (m gd gc q:Nat) (Md:Int→Option Value) (h:MkAt w m gd gc (.map none)) (hm:MapAt w gd q Md) (h0:Md 0=some (.slice none 0 0)):Calls Tryz.prog 334 #[.pointer (some ⟨m,0,none⟩),.int .i64 0] w fun e w'=>e=.returned (.tuple #[])∧(∃ b,MkAt w' m gd gc (.map (some b)))∧Mut (fun j=>j=m) w w':=by
  have hmm:=@run_makeMap Tryz.prog
  have c1:w.cell? ⟨m,1,none⟩=some (.map (some gd)):=by rw [h.cell];rfl
  have c4:w.cell? ⟨m,4,none⟩=some (.map none):=by rw [h.cell];rfl
  have f4:w.frozen? ⟨m,4,none⟩=false:=h.frozen 4
  have hml:=h.lt
  have u0:Mut (fun j=>j=m) w ((w.setCell ⟨m,4,none⟩ (.map (some w.heap.size))).alloc (.map #[] 0)):=((Mut.refl (fun j=>j=m) w).setCell (p:=⟨m,4,none⟩) (.inl rfl) _).alloc _
  have hM1:MapAt ((w.setCell ⟨m,4,none⟩ (.map (some w.heap.size))).alloc (.map #[] 0)) gd q Md:=hm.mut u0 (fun e=>h.neMap hm e.symm)
  have H1:Hid (MkAt ((w.setCell ⟨m,4,none⟩ (.map (some w.heap.size))).alloc (.map #[] 0)) m gd gc (.map (some w.heap.size))):=Lib.hid (((show Blk w m _ _ from h).set (i:=4)).keep ((Fresh.refl _).alloc _))
  have HMU:=Lib.hid (fun W b hW=>must_any W m gd gc (.map (some b)) hW)
  have U0:=Lib.hid u0
  have HIS:=Lib.hid (fun f W=>isSorted_nil f W)
  clear h hm u0
  go_enter Tryz.func334,Tryz.ntmps334
  go_wp2_with (first
    | (at_lookup;refine wpList_lookI _ rfl _ _ 155 rfl 83 Tryz.underlying155 _ (zeroL _) gd q Md rfl hM1 0 rfl (by unfold I64;omega) (.slice none 0 0) (by rw [h0];rfl) ?_)
    | fail)
  refine (HIS.out _ _).mono ?_
  rintro e w1 ⟨rfl,rfl⟩
  go_wp2_with fail
  refine (HMU.out _ _ H1.out).mono ?_
  rintro e w2 ⟨rfl,h2,u2⟩
  have H2:=Lib.hid (And.intro h2 (U0.out.trans u2))
  clear h2 u2 hM1 c1 c4 f4
  go_wp2_with fail
  refine wp_loop_rounds 1 ?_
  rw [rounds_succ]
  go_wp2_with fail
  refine wp_loop_rounds 1 ?_
  rw [rounds_succ]
  go_wp2
  go_end0
  exact ⟨rfl,⟨_,H2.out.1⟩,H2.out.2⟩
theorem MapAt.size {w:World} {b n:Nat} {M:Int→Option Value} (h:MapAt w b n M) {ks:List Int} (hk:ks.Nodup) (hm:∀ i,i ∈ ks ↔ (M i).isSome=true) {t e:TypeId} (ht:Tryz.prog.underlying t=some (.map 3 e)) (ty:TypeId):(Builtin.len_ #[t] ty #[.map (some b)]).run Tryz.prog w=.ok (.int .i64 ks.length) w:=by
  obtain ⟨D,hown,hM⟩:=h
  rw [hown.len ht ty]
  obtain ⟨f1,f2⟩:=intKeys_facts hown
  have hp:ks.Perm (Go.intKeys D):=(List.perm_ext_iff_of_nodup hk f1).2 fun x=>by
    rw [hm,f2]
    rw [show Maps.has D (.int .i64 x)=Maps.has D (kl x) from rfl,own_has hown,hM]
  have e2:(Go.intKeys D).length=Maps.size D:=by
    obtain ⟨es,rfl⟩:=own_isMap hown
    simp [Go.intKeys,Maps.size]
  rw [hp.length_eq,e2]
end Go.Proofs.YtpmlggjhfiljmaaGreatDoor
