/- Part 24 of what the law rests on. -/
import Derived.Test.YtpmlggjhfiljmaaGreatDoorS16
import Derived.Test.YtpmlggjhfiljmaaGreatDoorS17
import Derived.Test.YtpmlggjhfiljmaaGreatDoorS20
import Derived.Test.YtpmlggjhfiljmaaGreatDoorS23
set_option linter.all false
namespace Go.Proofs.YtpmlggjhfiljmaaGreatDoor
open Go.RowKit
def rs0 (enc:Int) (s:ByteArray):ByteArray × Bool:=rsS enc s (s.size+1) 0 [] ByteArray.empty true
def RestIs (enc:Int) (s r:ByteArray) (k:Int):Prop :=
  ((rs0 enc s).2=true∧GoodN (rs0 enc s).1∧presS enc (rs0 enc s).1=s∧r=(rs0 enc s).1∧k=0) ∨
  (¬ ((rs0 enc s).2=true∧GoodN (rs0 enc s).1∧presS enc (rs0 enc s).1=s)∧r=ByteArray.empty∧k=3)
theorem bytes_inj {a b:ByteArray}:a.toList=b.toList ↔ a=b:=by
  rw [ByteArray.toList_eq,ByteArray.toList_eq]
  exact ⟨fun h=>ByteArray.ext (Array.toList_inj.1 h),fun h=>by rw [h]⟩
def goodB (s:ByteArray):Bool:=decide (1≤s.size) && decide (s.size≤255) && !(s.data.toList.any fun b=>b.toNat == 0 || b.toNat == 47) && !(s.toList == dotS.toList) && !(s.toList == dotsS.toList)
theorem goodB_iff (s:ByteArray):goodB s=true ↔ GoodN s:=by
  unfold goodB GoodN
  rw [← zs_has]
  simp only [Bool.and_eq_true,Bool.not_eq_true',decide_eq_true_eq,beq_eq_false_iff_ne,ne_eq,bytes_inj,List.any_eq_false,Bool.or_eq_true,beq_iff_eq,and_assoc]
  constructor
  · rintro ⟨h1,h2,h3,h4,h5⟩
    exact ⟨h1,h2,fun ⟨b,hb,hz⟩=>h3 b hb hz,h4,h5⟩
  · rintro ⟨h1,h2,h3,h4,h5⟩
    exact ⟨h1,h2,fun b hb hz=>h3 ⟨b,hb,hz⟩,h4,h5⟩
def restF (enc:Int) (s:ByteArray):ByteArray × Int:=if (rs0 enc s).2=true∧goodB (rs0 enc s).1=true∧(presS enc (rs0 enc s).1).toList=s.toList then ((rs0 enc s).1,0) else (ByteArray.empty,3)
theorem rest_fun {enc:Int} {s r:ByteArray} {k:Int} (h:RestIs enc s r k):r=(restF enc s).1∧k=(restF enc s).2:=by
  unfold restF
  rcases h with ⟨h1,h2,h3,rfl,rfl⟩ | ⟨h1,rfl,rfl⟩
  · rw [if_pos ⟨h1,(goodB_iff _).2 h2,by rw [h3]⟩]
    exact ⟨rfl,rfl⟩
  · rw [if_neg (fun q=>h1 ⟨q.1,(goodB_iff _).1 q.2.1,bytes_inj.1 q.2.2⟩)]
    exact ⟨rfl,rfl⟩
theorem restF_ok {enc:Int} {s:ByteArray} (h:(restF enc s).2=0):GoodN (restF enc s).1∧presS enc (restF enc s).1=s:=by
  unfold restF at h ⊢
  split at h
  case isTrue q=>rw [if_pos q];exact ⟨(goodB_iff _).1 q.2.1,bytes_inj.1 q.2.2⟩
  case isFalse q=>simp at h
def rawF (enc:Int) (s:ByteArray):ByteArray × Int:=if 255<s.size then (ByteArray.empty,4) else restF enc s
structure RsAt (enc:Int) (s:ByteArray) (p:Nat) (o:List Int) (raw:ByteArray) (ok:Bool):Prop where
  run:∃ f,rsS enc s f p o raw ok=rs0 enc s∧(ok=true→s.size<f+p)
  pos:ok=true→p≤s.size
  len:o.length≤s.size
  len2:ok=true→raw.size+12 * o.length≤12 * p
  in32:In32 o
  sz:raw.size+12 * o.length≤12 * s.size
theorem RsAt.start (enc:Int) (s:ByteArray):RsAt enc s 0 [] ByteArray.empty true :=
  ⟨⟨s.size+1,rfl,fun _=>by omega⟩,fun _=>by omega,by simp,fun _=>Nat.le_refl _,(fun x hx=>nomatch hx),by show 0+12 * 0≤_;omega⟩
theorem RsAt.fin {enc:Int} {s:ByteArray} {p:Nat} {o:List Int} {raw:ByteArray} {ok:Bool} (h:RsAt enc s p o raw ok) (hd:ok=false∨s.size≤p):rs0 enc s=(raw++flB enc o,ok && flK enc o):=by
  obtain ⟨f,h1,h2⟩:=h.run
  rw [← h1]
  cases f with
  | zero=>rw [rsS]
  | succ f=>rw [rsS,if_neg (by
    rintro ⟨q,q2⟩
    rcases hd with hd | hd
    · rw [hd] at q2;cases q2
    · omega)]
theorem RsAt.none {enc:Int} {s:ByteArray} {p:Nat} {o:List Int} {raw:ByteArray} (h:RsAt enc s p o raw true) (hp:p<s.size) (hn:(nxt s p).2=0):RsAt enc s p o raw false:=by
  obtain ⟨f,h1,h2⟩:=h.run
  obtain ⟨f',rfl⟩:∃ f',f=f'+1:=⟨f - 1,by have:=h2 rfl;omega⟩
  rw [rsS,if_pos ⟨hp,rfl⟩,if_pos hn] at h1
  exact ⟨⟨f',h1,(fun h=>nomatch h)⟩,(fun h=>nomatch h),h.len,(fun h=>nomatch h),h.in32,h.sz⟩
theorem RsAt.char {enc:Int} {s:ByteArray} {p:Nat} {o:List Int} {raw:ByteArray} (h:RsAt enc s p o raw true) (hp:p<s.size) (hn:(nxt s p).2 ≠ 0) (h37:(nxt s p).1 ≠ 37):RsAt enc s (p+(nxt s p).2.toNat) (o++[(nxt s p).1]) raw true:=by
  obtain ⟨f,h1,h2⟩:=h.run
  obtain ⟨f',rfl⟩:∃ f',f=f'+1:=⟨f - 1,by have:=h2 rfl;omega⟩
  rw [rsS,if_pos ⟨hp,rfl⟩,if_neg hn,if_neg h37] at h1
  have hq:=nxt_pos hp hn
  have hl2:=h.len2 rfl
  have h2:=h2 rfl
  have hlen:=h.len
  have hl3:o.length≤p:=by omega
  refine ⟨⟨f',h1,fun _=>by omega⟩,fun _=>by omega,by simp;omega,fun _=>by simp;omega,fun x hx=>?_,by simp;omega⟩
  rcases List.mem_append.1 hx with q | q
  · exact h.in32 x q
  · have q2:x=(nxt s p).1:=List.mem_singleton.1 q
    have hc:=isC_true (nxt_sound hp hn).1
    rw [← q2] at hc
    exact ⟨by omega,by omega⟩
theorem RsAt.esc {enc:Int} {s:ByteArray} {p:Nat} {o:List Int} {raw:ByteArray} (h:RsAt enc s p o raw true) (hp:p<s.size) (hn:(nxt s p).2 ≠ 0) (h37:(nxt s p).1=37) (hk:escOK s (p+1)) :
    RsAt enc s (p+3) [] (raw++flB enc o++byteS (digitI (B s (p+1)) * 16+digitI (B s (p+2)))) (flK enc o):=by
  obtain ⟨f,h1,h2⟩:=h.run
  obtain ⟨f',rfl⟩:∃ f',f=f'+1:=⟨f - 1,by have:=h2 rfl;omega⟩
  rw [rsS,if_pos ⟨hp,rfl⟩,if_neg hn,if_pos h37,if_pos hk] at h1
  have hl2:=h.len2 rfl
  have h2:=h2 rfl
  have hk1:=hk.1
  have hfs:=encL_size enc (opn enc o)
  have hfo:=opn_len enc o
  have hff:(flB enc o).size=(encL enc (opn enc o)).size:=rfl
  have hbs:∀ c,(byteS c).size=1:=fun c=>by unfold byteS;rw [strOfNums_size];rfl
  refine ⟨⟨f',h1,fun _=>by omega⟩,fun _=>by omega,by simp,fun _=>?_,(fun x hx=>nomatch hx),?_⟩
  · simp only [ByteArray.size_append,hbs,List.length_nil];omega
  · simp only [ByteArray.size_append,hbs,List.length_nil];omega
theorem RsAt.bad {enc:Int} {s:ByteArray} {p:Nat} {o:List Int} {raw:ByteArray} (h:RsAt enc s p o raw true) (hp:p<s.size) (hn:(nxt s p).2 ≠ 0) (h37:(nxt s p).1=37) (hk:¬ escOK s (p+1)):RsAt enc s (p+3) o raw false:=by
  obtain ⟨f,h1,h2⟩:=h.run
  obtain ⟨f',rfl⟩:∃ f',f=f'+1:=⟨f - 1,by have:=h2 rfl;omega⟩
  rw [rsS,if_pos ⟨hp,rfl⟩,if_neg hn,if_pos h37,if_neg hk] at h1
  exact ⟨⟨f',h1,(fun h=>nomatch h)⟩,(fun h=>nomatch h),h.len,(fun h=>nomatch h),h.in32,h.sz⟩
open Go.RowKit
def okOf (w:World) (g:Nat):Nat:=match w.cell? ⟨g,3,none⟩ with | some (.bool true)=>1 | _=>0
theorem RdAt.ok {w:World} {gr:Nat} {enc:Int} {raw:ByteArray} {o:List Int} {ok:Bool} (h:RdAt w gr enc raw o ok):okOf w gr=if ok=true then 1 else 0:=by
  obtain ⟨v,h1,_⟩:=h
  unfold okOf
  rw [h1.cell]
  cases ok <;> rfl
theorem RdAt.new (w:World) (enc:Int) (b:Bool):RdAt (w.alloc (.cells #[.int .i64 enc,.string ⟨#[]⟩,.slice none 0 0,.bool b] 182)) w.heap.size enc ByteArray.empty [] b:=⟨_,Blk.new _ _ _,OwnR.nil _ _⟩
def RsRel (enc:Int) (s:ByteArray) (gr:Nat) (w:World) (at_:Value) (wr:World):Prop :=
  ∃ (p:Nat) (o:List Int) (raw:ByteArray) (ok:Bool),at_=.int .i64 p∧p≤s.size+3∧RdAt wr gr enc raw o ok∧RsAt enc s p o raw ok∧Fresh w wr
def RestPost (enc:Int) (s:ByteArray) (w:World) (e:Ending) (w':World):Prop:=e=.returned (.tuple #[.string (restF enc s).1,.int .i64 (restF enc s).2])∧Fresh w w'
theorem escOK_ext (s:ByteArray) (a:Nat) (ha:a≤s.size):escOK (s.extract a s.size) 0 ↔ escOK s a:=by
  unfold escOK
  rw [ByteArray.size_extract]
  constructor
  · rintro ⟨h1,h2,h3⟩
    rw [B_tail s a _ ha] at h2 h3
    exact ⟨by omega,h2,h3⟩
  · rintro ⟨h1,h2,h3⟩
    rw [B_tail s a _ ha,B_tail s a _ ha]
    exact ⟨by omega,h2,h3⟩
theorem rd_keep {W W':World} {gr:Nat} {o:Obj} {v:Value} {xs:List Int} {t:TypeId} {cs:Array Value} (h1:Blk W gr t cs) (h2:OwnR W (gr+1) v xs) (hg:(W.alloc o).grownBy W' v.ownBlock):Blk W' gr t cs:=by
  have h3:=h1.keep ((Fresh.refl W).alloc o)
  exact (hg.block gr h3.lt (fun e=>by have:=(h2.lt gr e.symm).1;omega)).trans h3
theorem rest_no {enc:Int} {s:ByteArray} (h:RestIs enc s ByteArray.empty 3) {w w':World} (hf:Fresh w w'):RestPost enc s w (.returned (.tuple #[.string ⟨#[]⟩,.int .i64 3])) w':=by
  obtain ⟨h1,h2⟩:=rest_fun h
  unfold RestPost
  rw [← h1,← h2]
  exact ⟨rfl,hf⟩
theorem rest_yes {enc:Int} {s r:ByteArray} (h:RestIs enc s r 0) {w w':World} (hf:Fresh w w'):RestPost enc s w (.returned (.tuple #[.string r,.int .i64 0])) w':=by
  obtain ⟨h1,h2⟩:=rest_fun h
  unfold RestPost
  rw [← h1,← h2]
  exact ⟨rfl,hf⟩
set_option maxHeartbeats 3200000 in
set_option maxRecDepth 100000 in
theorem restore_any (enc:Int) (s:ByteArray) (h0:0≤enc) (h8:enc≤8) (hs:s.size≤1000) (w:World) :
    Calls Tryz.prog 59 #[.int .i64 enc,.string s] w (RestPost enc s w):=by
  have hrb:rightB enc=true:=by unfold rightB;simp;omega
  have HRT:=Lib.hid (fun W=>right_any enc W)
  rw [hrb] at HRT
  have HNX:=Lib.hid (fun (p:Nat) W=>utfNext_any s (p:Nat) (by omega) W)
  have HSS:=Lib.hid (Nat.le_refl s.size)
  go_enter Tryz.func59,Tryz.ntmps59
  go_wp2_with fail
  refine (HRT.out _).mono ?_
  rintro e w1 ⟨rfl,rfl⟩
  clear hrb
  go_wp2_with fail
  go_loopw [7] (fun at_ wr=>RsRel enc s w.heap.size w at_ wr) (fun at_ wr=>okOf wr w.heap.size * (s.size+10)+(s.size+4 - (intOf at_).toNat))
  case atStart=>exact ⟨0,[],ByteArray.empty,true,rfl,by omega,RdAt.new _ _ _,RsAt.start _ _,(Fresh.refl _).alloc _⟩
  case round =>
    obtain ⟨p,o,raw,ok,rfl,hp3,hat,hrs,hf⟩:=hrel
    obtain ⟨gr,hgr⟩:∃ gr,w.heap.size=gr:=⟨_,rfl⟩
    have HF:=Lib.hid hf
    have HG:=Lib.hid hgr
    rw [hgr] at hat ⊢
    have hokv:=hat.ok
    have HOKV:=Lib.hid hokv
    have HAT:=Lib.hid hat
    have HRS:=Lib.hid hrs
    have hge:=HF.out.size
    obtain ⟨v,hblk,hown⟩:=hat
    have c0:wr.cell? ⟨gr,0,none⟩=some (.int .i64 enc):=by rw [hblk.cell];rfl
    have c2:wr.cell? ⟨gr,2,none⟩=some v:=by rw [hblk.cell];rfl
    have c3:wr.cell? ⟨gr,3,none⟩=some (.bool ok):=by rw [hblk.cell];rfl
    have f2:wr.frozen? ⟨gr,2,none⟩=false:=hblk.frozen 2
    have f3:wr.frozen? ⟨gr,3,none⟩=false:=hblk.frozen 3
    have hgl:=hblk.lt
    have HB:=Lib.hid hblk
    have HO:=Lib.hid hown
    have hown3:=hown
    unfold OwnR at hown3
    have hol:=hrs.len
    have hsz:=hrs.sz
    have H32:=Lib.hid hrs.in32
    clear hf hgr hokv hblk hown hrs
    by_cases hb:ok=true∧p<s.size
    · obtain ⟨rfl,hlt⟩:=hb
      have i1:(p:Int)<(s.size:Int):=by omega
      have hnx:nextI s (p:Int)=nxt s p:=by unfold nextI;rw [if_pos ⟨by omega,by omega⟩];rfl
      have HN:=Lib.hid (HNX.out p wr)
      rw [hnx] at HN
      obtain ⟨r,n,hrn⟩:∃ r n,nxt s p=(r,n):=⟨_,_,rfl⟩
      have hr1:(nxt s p).1=r:=by rw [hrn]
      have hr2:(nxt s p).2=n:=by rw [hrn]
      rw [hr1,hr2] at HN
      have HR1:=Lib.hid hr1
      have HR2:=Lib.hid hr2
      clear hnx hrn hr1 hr2
      by_cases hn:n=0
      · subst hn
        go_wp2_with fail
        refine HN.out.mono ?_
        rintro e w1 ⟨rfl,hf1⟩
        have hbd:=(HAT.out.fresh hf1).bad false
        have HBD:=Lib.hid hbd
        have f31:w1.frozen? ⟨gr,3,none⟩=false:=(Below.frozen hf1 (p:=⟨gr,3,none⟩) hgl).trans f3
        have c31:w1.cell? ⟨gr,3,none⟩=some (.bool true):=(Below.cell hf1 (p:=⟨gr,3,none⟩) hgl).trans c3
        have HF1:=Lib.hid hf1
        have HFIN:=Lib.hid (And.intro HBD.out.1 (And.intro (HRS.out.none hlt HR2.out) ((HF.out.trans HF1.out).setCell (p:=⟨gr,3,none⟩) (by have:=HG.out;show _≤gr;omega) (.bool false))))
        have hmes:Hid (okOf (w1.setCell ⟨gr,3,none⟩ (.bool false)) gr=0):=Lib.hid (by rw [HBD.out.1.ok];rfl)
        clear hbd hf1 c0 c2 c3 f2 f3
        go_wp2
        go_roundw
        case rel=>exact ⟨p,o,raw,false,by go_num,hp3,HFIN.out.1,HFIN.out.2.1,HFIN.out.2.2⟩
        case measure =>
          rw [hmes.out,HOKV.out]
          simp [intOf]
      · have hn0:((n == 0):Bool)=false:=by simp [hn]
        have hns:=nxt_pos hlt (by rw [HR2.out];exact hn)
        rw [HR2.out] at hns
        obtain ⟨m,rfl⟩:=Int.eq_ofNat_of_zero_le (show 0≤n by omega)
        have hm1:1≤m:=by omega
        have hm4:p+m≤s.size:=by omega
        clear hns
        have hne:(nxt s p).2 ≠ 0:=by rw [HR2.out];exact hn
        have HNE:=Lib.hid hne
        clear hne hn
        by_cases h37:r=37
        · subst h37
          have i2:((p:Int)+1)≤(s.size:Int):=by omega
          have i3:p+1≤s.size:=by omega
          clear c0 c2 f2 f3 hown3
          by_cases hk:escOK s (p+1)
          · have hk2:=(escOK_ext s (p+1) (by omega)).2 hk
            have HE:=Lib.hid (fun W (hW:Fresh wr W)=>by
              have q:=rescape_any gr enc raw o true (s.extract (p+1) s.size) W h0 h8 (by omega) H32.out (by omega) (HAT.out.fresh hW) (by rw [ByteArray.size_extract];omega)
              rw [if_pos hk2,B_tail s (p+1) 0 (by omega),B_tail s (p+1) 1 (by omega)] at q
              exact q)
            have HRE:=Lib.hid (HRS.out.esc hlt HNE.out HR1.out hk)
            clear hk hk2
            go_wp2_with fail
            refine HN.out.mono ?_
            rintro e w1 ⟨rfl,hf1⟩
            go_wp2_with fail
            refine (HE.out _ hf1).mono ?_
            rintro e w2 ⟨rfl,hat2,hm2⟩
            have HFIN:=Lib.hid (And.intro hat2 (And.intro hf1 hm2))
            clear hat2 hm2 hf1
            go_wp2
            go_roundw
            case rel=>exact ⟨p+3,[],_,_,by go_num,by omega,HFIN.out.1,HRE.out,Mut.fresh (Fresh.andMut (HF.out.trans HFIN.out.2.1) HFIN.out.2.2) (fun j hj q=>by have:=HG.out;omega)⟩
            case measure =>
              have:=HFIN.out.1.ok
              rw [HOKV.out,this]
              simp [intOf]
              split <;> omega
          · have hk2:¬ escOK (s.extract (p+1) s.size) 0:=fun h=>hk ((escOK_ext s (p+1) (by omega)).1 h)
            have HE:=Lib.hid (fun W (hW:Fresh wr W)=>by
              have q:=rescape_any gr enc raw o true (s.extract (p+1) s.size) W h0 h8 (by omega) H32.out (by omega) (HAT.out.fresh hW) (by rw [ByteArray.size_extract];omega)
              rw [if_neg hk2] at q
              exact q)
            have HRE:=Lib.hid (HRS.out.bad hlt HNE.out HR1.out hk)
            clear hk hk2
            go_wp2_with fail
            refine HN.out.mono ?_
            rintro e w1 ⟨rfl,hf1⟩
            go_wp2_with fail
            refine (HE.out _ hf1).mono ?_
            rintro e w2 ⟨rfl,hat2,hm2⟩
            have HFIN:=Lib.hid (And.intro hat2 (And.intro hf1 hm2))
            clear hat2 hm2 hf1
            go_wp2
            go_roundw
            case rel=>exact ⟨p+3,o,raw,false,by go_num,by omega,HFIN.out.1,HRE.out,Mut.fresh (Fresh.andMut (HF.out.trans HFIN.out.2.1) HFIN.out.2.2) (fun j hj q=>by have:=HG.out;omega)⟩
            case measure =>
              have:=HFIN.out.1.ok
              rw [HOKV.out,this]
              simp [intOf]
              omega
        · have hr37:((r == 37):Bool)=false:=by simp [h37]
          have hch:=HRS.out.char hlt HNE.out (by rw [HR1.out];exact h37)
          rw [HR1.out,HR2.out] at hch
          have HCH:=Lib.hid hch
          clear hch h37
          obtain ⟨i0,hi0,hz0,hz1,hz2⟩:=info_parts info32
          go_wp2_with fail
          refine HN.out.mono ?_
          rintro e w1 ⟨rfl,hf1⟩
          have c21:w1.cell? ⟨gr,2,none⟩=some v:=(Below.cell hf1 (p:=⟨gr,2,none⟩) hgl).trans c2
          have f21:w1.frozen? ⟨gr,2,none⟩=false:=(Below.frozen hf1 (p:=⟨gr,2,none⟩) hgl).trans f2
          have hown4:=HO.out.keep hf1
          unfold OwnR at hown4
          have HF1:=Lib.hid hf1
          have HO4:=Lib.hid (And.intro (HB.out.keep hf1) (HO.out.keep hf1))
          have hgl1:=Nat.lt_of_lt_of_le hgl hf1.size
          clear hf1 c0 c2 c3 f2 f3 hown3
          go_wp2_with (at_builtin;refine wpList_append_own2 _ rfl _ _ 50 rfl (gr+1) 21 i0 (.int .i32 0) 1 4 Tryz.underlying50 hi0 hz0 hz1 hz2 rfl (by decide) _ _ _ rfl (hown4.alloc _) ⟨w1.heap.size,0,none⟩ 1 1 [.int .i32 r] rfl rfl ?c1 ?c2 ?c3 ?c4 ?c5 ?_)
          case c1=>exact cell_new1 _ _ _
          case c2=>intro u hu;simp at hu;subst hu;rfl
          case c3=>unfold maxLen;omega
          case c4=>omega
          case c5=>simp;omega
          intro v' w' hown' hgrow hblk
          obtain ⟨g',cap',rfl⟩:=own_slice hown' (by omega)
          have hb2:=rd_keep HO4.out.1 HO4.out.2 hgrow
          have f22:w'.frozen? ⟨gr,2,none⟩=false:=hb2.frozen 2
          have c22:w'.cell? ⟨gr,2,none⟩=some v:=by rw [hb2.cell];rfl
          have hrd:RdAt (w'.setCell ⟨gr,2,none⟩ (.slice (some ⟨g',0,none⟩) (o.length+1) cap')) gr enc raw (o++[r]) true:=⟨_,hb2.set (i:=2),OwnR.mut (OwnR.push hown') ((Mut.refl (fun k=>k=gr) _).setCell (p:=⟨gr,2,none⟩) (.inl rfl) _) fun k hk q=>by omega⟩
          have hff:Fresh w (w'.setCell ⟨gr,2,none⟩ (.slice (some ⟨g',0,none⟩) (o.length+1) cap')):=Fresh.setCell (Below.grown ((HF.out.trans HF1.out).alloc _) hgrow (by have:=(HF.out.trans HF1.out).size;simp;omega) (fun g hg=>by have:=(HO4.out.2.lt g hg).1;have:=HG.out;omega)) (by have:=HG.out;show _≤gr;omega) _
          have HFIN:=Lib.hid (And.intro hrd hff)
          clear hown' hgrow hblk hb2 hrd hff
          go_wp2
          go_roundw
          case rel=>exact ⟨p+m,o++[r],raw,true,by go_num,by omega,HFIN.out.1,HCH.out,HFIN.out.2⟩
          case measure =>
            have:=HFIN.out.1.ok
            rw [HOKV.out,this]
            simp [intOf]
            omega
    · have hd : ok=false∨s.size≤p:=by
        cases ok with
        | false=>exact .inl rfl
        | true=>exact .inr (by have:¬ p<s.size:=fun h=>hb ⟨rfl,h⟩;omega)
      have hz:=HRS.out.fin hd
      have HFL:=Lib.hid (rflush_any gr enc raw o ok wr h0 h8 (by omega) H32.out (by omega) HAT.out)
      have hfs:=encL_size enc (opn enc o)
      have hfo:=opn_len enc o
      obtain ⟨raw1,hr1⟩:∃ raw1,raw++flB enc o=raw1:=⟨_,rfl⟩
      obtain ⟨kf,hkf⟩:∃ kf,(ok && flK enc o)=kf:=⟨_,rfl⟩
      rw [hr1,hkf] at HFL hz
      have HZ:=Lib.hid hz
      clear hz hr1 hkf hfs hfo
      have hcond:Hid ((∃ _:ok=false,p<s.size)∨¬ p<s.size):=Lib.hid (by
        rcases hd with h | h
        · by_cases q:p<s.size
          · exact .inl ⟨h,q⟩
          · exact .inr q
        · exact .inr (by omega))
      clear hb hd c0 c2 f2 f3 hown3
      rcases hcond.out with ⟨rfl,hlt⟩ | hlt
      all_goals
        first
        | (have i1:(p:Int)<(s.size:Int):=by omega)
        | (have i1:¬ (p:Int)<(s.size:Int):=by omega)
        go_wp2_with fail
        refine HFL.out.mono ?_
        rintro e w2 ⟨rfl,⟨v2,hb2,ho2⟩,hm2⟩
        have d1:w2.cell? ⟨gr,1,none⟩=some (.string raw1):=by rw [hb2.cell];rfl
        have d3:w2.cell? ⟨gr,3,none⟩=some (.bool kf):=by rw [hb2.cell];rfl
        have HF2:=Lib.hid (Mut.fresh (Fresh.andMut HF.out hm2) (fun j hj q=>by have:=HG.out;omega))
        have hgl2:=hb2.lt
        clear hb2 ho2 hm2 c3
        cases kf with
        | false =>
          go_wp2
          go_ret2
          exact rest_no (by unfold RestIs;rw [HZ.out];exact .inr ⟨by simp,rfl,rfl⟩) HF2.out
        | true =>
          go_wp2_with fail
          refine (good_any raw1 _).mono ?_
          rintro e w3 ⟨b,rfl,hb,hf3⟩
          have HBB:=Lib.hid hb
          have hgl3:=Nat.lt_of_lt_of_le hgl2 hf3.size
          have d13:w3.cell? ⟨gr,1,none⟩=some (.string raw1):=(Below.cell hf3 (p:=⟨gr,1,none⟩) hgl2).trans d1
          have HF3:=Lib.hid (HF2.out.trans hf3)
          clear hb d1 d3 hf3
          cases b with
          | false =>
            have HFIN:Hid (RestIs enc s ByteArray.empty 3):=Lib.hid (by unfold RestIs;rw [HZ.out];exact .inr ⟨fun h=>absurd (HBB.out.2 h.2.1) (by simp),rfl,rfl⟩)
            go_wp2
            go_ret2
            exact rest_no HFIN.out HF3.out
          | true =>
            have hgd:=HBB.out.1 rfl
            have HPR:=Lib.hid (present_any enc raw1 h0 h8 (by have:=hgd.2.1;omega))
            have HGD:=Lib.hid hgd
            clear hgd
            obtain ⟨ps,hps⟩:∃ ps,presS enc raw1=ps:=⟨_,rfl⟩
            rw [hps] at HPR
            have HPS:=Lib.hid hps
            clear hps
            go_wp2_with fail
            refine (HPR.out _).mono ?_
            rintro e w4 ⟨rfl,hf4⟩
            have d14:w4.cell? ⟨gr,1,none⟩=some (.string raw1):=(Below.cell hf4 (p:=⟨gr,1,none⟩) hgl3).trans d13
            have HF4:=Lib.hid (HF3.out.trans hf4)
            clear hf4 d13
            go_wp2
            · rename_i hq
              have hne:ps ≠ s:=fun h=>by rw [h] at hq;simp at hq
              have HNE:Hid (RestIs enc s ByteArray.empty 3):=Lib.hid (by unfold RestIs;rw [HZ.out];exact .inr ⟨fun h=>hne (by rw [← HPS.out];exact h.2.2),rfl,rfl⟩)
              go_ret2
              exact rest_no HNE.out HF4.out
            · rename_i hq
              have hne:ps=s:=bytes_inj.1 (by simpa using hq)
              have HNE:Hid (RestIs enc s raw1 0):=Lib.hid (by unfold RestIs;rw [HZ.out];exact .inl ⟨rfl,HGD.out,by rw [← hne];exact HPS.out,rfl,rfl⟩)
              go_ret2
              exact rest_yes HNE.out HF4.out
open Go.RowKit
/-! ### faces -/
def hashI (b:ByteArray):Int:=(b.data.toList.foldl (fun h c=>bits .xor .u32 h (c.toNat:Int) * 16777619 % 4294967296) 2166136261)
def decL (n:Int):List Int:=if n<10 then [48+n] else [48+n / 10,48+n % 10]
def hexL (h:Int):List Int:=[hexI (h / 268435456 % 16),hexI (h / 16777216 % 16),hexI (h / 1048576 % 16),hexI (h / 65536 % 16),hexI (h / 4096 % 16),hexI (h / 256 % 16),hexI (h / 16 % 16),hexI (h % 16)]
def nameS (h n:Int):ByteArray:=if n<1∨1000000<n then ByteArray.empty else strOfNums ([37,126]++hexL h++[45]++decL n)
def faceS (enc:Int) (e:Ent):ByteArray:=if e.short=0 then presS enc e.name else nameS (hashI e.name) e.short
def faceB (enc:Int) (name:ByteArray) (e:Ent):Bool:=(faceS enc e).toList == name.toList
theorem fidx_find {pr:Ent→Bool}:∀ {l:List Ent},(fidx pr l<0→l.find? pr=none)∧∀ k:Nat,fidx pr l=k→∃ hk:k<l.length,l.find? pr=some l[k]
  | []=>⟨fun _=>rfl,fun k h=>by simp [fidx] at h⟩
  | x :: l=>by
    have ih:=fidx_find (pr:=pr) (l:=l)
    unfold fidx
    cases hx:pr x with
    | true =>
      refine ⟨fun h=>by simp at h,fun k h=>?_⟩
      simp only [if_true] at h
      have:k=0:=by omega
      subst this
      exact ⟨by simp,by rw [List.find?_cons_of_pos hx];rfl⟩
    | false =>
      have hne:¬ pr x=true:=by rw [hx];simp
      refine ⟨fun h=>?_,fun k h=>?_⟩
      · rw [List.find?_cons_of_neg hne]
        simp only [Bool.false_eq_true,if_false] at h
        by_cases h2:fidx pr l<0
        · exact ih.1 h2
        · rw [if_neg h2] at h;omega
      · simp only [Bool.false_eq_true,if_false] at h
        by_cases h2:fidx pr l<0
        · rw [if_pos h2] at h;omega
        · rw [if_neg h2] at h
          cases k with
          | zero=>omega
          | succ k =>
            obtain ⟨hk,h3⟩:=ih.2 k (by omega)
            exact ⟨by simpa using hk,by rw [List.find?_cons_of_neg hne,h3];simp⟩
/-! ### paths -/
def splL:List UInt8→List (List UInt8)
  | []=>[[]]
  | c :: l=>if c.toNat=47 then [] :: splL l else (match splL l with
    | h :: t=>(c :: h) :: t
    | []=>[[c]])
def splB (s:ByteArray):List ByteArray:=(splL s.data.toList).map fun l=>⟨l.toArray⟩
def restP (path:ByteArray):ByteArray:=path.extract 1 path.size
def badN (l:List ByteArray):Bool:=l.any fun s=>s.toList == ByteArray.empty.toList || s.toList == dotS.toList || s.toList == dotsS.toList
def splitP (path:ByteArray):List ByteArray ⊕ Int :=
  if 1024<path.size then .inr 4
  else if ¬ (1≤path.size∧(path.data.toList.getD 0 0).toNat=47) then .inr 3
  else if path.size=1 then .inl []
  else if badN (splB (restP path))=true then .inr 3
  else if 16<(splB (restP path)).length then .inr 4
  else .inl (splB (restP path))
def stepT (enc:Int) (T:TreS) (d:Int) (name:ByteArray):Ent ⊕ Int:=match T.dirs d with
  | none=>.inr (if T.files d=true then 8 else 5)
  | some l=>match l.find? (faceB enc name) with
    | none=>.inr 5
    | some e=>.inl e
def walkT (enc:Int) (T:TreS):Int × Bool→List ByteArray→(Int × Bool) ⊕ Int
  | st,[]=>.inl st
  | st,n :: ns=>match stepT enc T st.1 n with
    | .inl e=>walkT enc T (e.node,e.dir) ns
    | .inr k=>.inr k
def pathT (enc:Int) (T:TreS) (path:ByteArray):(Int × Bool) ⊕ Int:=match splitP path with
  | .inr k=>.inr k
  | .inl l=>walkT enc T (0,true) l
def parT (enc:Int) (T:TreS) (path:ByteArray):(Int × ByteArray) ⊕ Int:=match splitP path with
  | .inr k=>.inr k
  | .inl l=>if l=[] then .inr 1 else match walkT enc T (0,true) l.dropLast with
    | .inr k=>.inr k
    | .inl st=>if st.2=true then .inl (st.1,l.getLastD ByteArray.empty) else .inr 8
open Go.RowKit
def RawPost (enc:Int) (s:ByteArray) (w:World) (e:Ending) (w':World):Prop:=e=.returned (.tuple #[.string (rawF enc s).1,.int .i64 (rawF enc s).2])∧Fresh w w'
theorem fraw_any (enc:Int) (s:ByteArray) (h0:0≤enc) (h8:enc≤8) (hs:s.size≤1000000) (w:World):Calls Tryz.prog 18 #[.int .i64 enc,.string s] w (RawPost enc s w):=by
  by_cases hl:255<s.size
  · have HZ:Hid (rawF enc s=(ByteArray.empty,4)):=Lib.hid (by unfold rawF;rw [if_pos hl])
    have i1:(255:Int)<(s.size:Int):=by omega
    clear hl
    go_enter Tryz.func18,Tryz.ntmps18
    go_wp2
    go_ret2
    exact ⟨by rw [HZ.out];rfl,Fresh.refl _⟩
  · have HZ:Hid (rawF enc s=restF enc s):=Lib.hid (by unfold rawF;rw [if_neg hl])
    have i1:¬ (255:Int)<(s.size:Int):=by omega
    have HR:=Lib.hid (fun W=>restore_any enc s h0 h8 (by omega) W)
    unfold RestPost at HR
    rw [← HZ.out] at HR
    unfold RawPost
    obtain ⟨r,hr⟩:∃ r,rawF enc s=r:=⟨_,rfl⟩
    rw [hr] at HR ⊢
    clear hl HZ hr
    obtain ⟨r,k⟩:=r
    go_enter Tryz.func18,Tryz.ntmps18
    go_wp2_with fail
    refine (HR.out _).mono ?_
    rintro e w1 ⟨rfl,hf1⟩
    go_wp2
    go_ret2
    exact ⟨rfl,hf1⟩
theorem long_any (enc:Int) (s:ByteArray) (h0:0≤enc) (h8:enc≤8) (hs:s.size≤10000) (w:World):Calls Tryz.prog 19 #[.int .i64 enc,.string s] w fun e w'=>e=.returned (.bool (decide (255<((presS enc s).size:Int))))∧Fresh w w':=by
  have HP:=Lib.hid (present_any enc s h0 h8 hs w)
  obtain ⟨r,hr⟩:∃ r,presS enc s=r:=⟨_,rfl⟩
  rw [hr] at HP ⊢
  clear hr
  go_enter Tryz.func19,Tryz.ntmps19
  go_wp2_with fail
  refine HP.out.mono ?_
  rintro e w1 ⟨rfl,hf1⟩
  go_wp2
  go_ret
  exact ⟨rfl,hf1⟩
def GT (w:World):Prop:=w.cell? ⟨3,15,none⟩=some (.int .u8 4)∧3<w.heap.size
theorem GT.mut {S:Nat→Prop} {w w':World} (h:GT w) (hf:Mut S w w') (hn:¬ S 3):GT w':=⟨(hf.cell (p:=⟨3,15,none⟩) h.2 hn).trans h.1,Nat.lt_of_lt_of_le h.2 hf.size⟩
theorem GT.fresh {w w':World} (h:GT w) (hf:Fresh w w'):GT w':=h.mut (hf.mut fun _=>False) (fun q=>q)
def OfOK (enc:Int) (e:Ent):Prop:=∀ W,GT W→Calls Tryz.prog 39 #[.int .i64 enc,entV e] W fun en W'=>en=.returned (.string (faceS enc e))∧Fresh W W'
theorem of_short (enc:Int) (e:Ent) (h0:0≤enc) (h8:enc≤8) (hs:e.name.size≤10000) (he:e.short=0):OfOK enc e:=fun w _=>by
  obtain ⟨name,node,dir,cookie,short⟩:=e
  simp only at he hs
  subst he
  have HP:=Lib.hid (fun W=>present_any enc name h0 h8 hs W)
  unfold faceS
  rw [if_pos rfl]
  simp only
  obtain ⟨r,hr⟩:∃ r,presS enc name=r:=⟨_,rfl⟩
  rw [hr] at HP ⊢
  clear hr
  unfold entV
  simp only
  go_enter Tryz.func39,Tryz.ntmps39
  go_wp2_with fail
  refine (HP.out _).mono ?_
  rintro e w1 ⟨rfl,hf1⟩
  have HF:=Lib.hid (((Fresh.refl w).alloc _).trans hf1)
  clear hf1
  go_wp2
  go_ret
  exact ⟨rfl,HF.out⟩
theorem enters_find1:∀ (args:Array Value) (W:World),Sem.run Tryz.prog (callFunc 270 args) W=.ok (.enter 270 args) W:=by intro args w;go_simp
set_option maxHeartbeats 800000 in
theorem find1_any (enc:Int) (name:ByteArray) (e:Ent) (h:OfOK enc e) (b0 b1:Nat) (w:World) (h0:w.cell? ⟨b0,0,none⟩=some (.int .i64 enc)) (h1:w.cell? ⟨b1,0,none⟩=some (.string name)) (l0:b0<w.heap.size) (l1:b1<w.heap.size) (hGT:GT w) :
    Calls Tryz.prog 270 #[entV e,.pointer (some ⟨b0,0,none⟩),.pointer (some ⟨b1,0,none⟩)] w fun en w'=>en=.returned (.bool (faceB enc name e))∧Fresh w w':=by
  have HO:=Lib.hid h
  unfold faceB
  unfold OfOK at HO
  obtain ⟨r,hr⟩:∃ r,faceS enc e=r:=⟨_,rfl⟩
  rw [hr] at HO ⊢
  clear hr h
  obtain ⟨nm,node,dir,cookie,short⟩:=e
  unfold entV at HO ⊢
  simp only at HO ⊢
  go_enter Tryz.func270,Tryz.ntmps270
  go_wp2_with fail
  go_region_law (first
    | (go_simp;go_at_call 39;refine (HO.out _ (hGT.fresh (by repeat (first | exact Fresh.refl _ | refine Fresh.drew ?_ | refine Fresh.alloc ?_ _)))).mono ?_;rintro e w2 ⟨rfl,hf2⟩;have HF:Hid (Fresh w w2):=Lib.hid (Fresh.trans (by repeat (first | exact Fresh.refl _ | refine Fresh.drew ?_ | refine Fresh.alloc ?_ _)) hf2);have q1:w2.cell? ⟨b1,0,none⟩=some (.string name):=(Below.cell HF.out (p:=⟨b1,0,none⟩) l1).trans h1;clear hf2))
  all_goals
    go_wp2
    go_ret
    exact ⟨rfl,HF.out⟩
open Go.RowKit
section
variable (F:Nat→Prop) (s p:Nat) (m n:Int) (k t q:Nat) (T:TreS) (qt:Nat) (w:World)
theorem sover_any (h:StoAt w F s p m n k t q T qt):Calls Tryz.prog 125 #[.pointer (some ⟨s,0,none⟩)] w fun e w'=>e=.returned (.bool false)∧w=w':=by
  obtain ⟨v,tr,Fv,At,hb,hFs,hFv,hAt,hs1,hs2,hd,hv,ht,hF⟩:=h
  have c0:w.cell? ⟨s,0,none⟩=some (.pointer (some ⟨v,0,none⟩)):=by rw [hb.cell];rfl
  have HO:=Lib.hid (over_any Fv v p m n img0 t k q w hv)
  clear hb hv ht hd hF hFv hAt
  go_enter Tryz.func125,Tryz.ntmps125
  go_wp2_with fail
  refine HO.out.mono ?_
  rintro e w1 ⟨rfl,rfl⟩
  go_wp2
  go_ret
  exact ⟨rfl,rfl⟩
theorem stree_any (h:StoAt w F s p m n k t q T qt) (hq:qt≤1000000) (hbk:T.bk.length≤100000) (hl:∀ i l,T.dirs i=some l→l.length≤100000):Calls Tryz.prog 77 #[.pointer (some ⟨s,0,none⟩)] w (TreeNew T qt w):=by
  obtain ⟨v,tr,Fv,At,hb,hFs,hFv,hAt,hs1,hs2,hd,hv,ht,hF⟩:=h
  have c1:w.cell? ⟨s,1,none⟩=some (.pointer (some ⟨tr,0,none⟩)):=by rw [hb.cell];rfl
  have HC:=Lib.hid (treeClone_any w At tr T qt ht hq hbk hl)
  clear hb hv ht hd hF hFv hAt hq hbk hl
  go_enter Tryz.func77,Tryz.ntmps77
  go_wp2_with fail
  refine HC.out.mono ?_
  rintro e w1 ⟨x,rfl,hx,hf⟩
  have HX:=Lib.hid (And.intro hx hf)
  clear hx hf
  go_wp2
  go_ret
  exact ⟨x,rfl,HX.out.1,HX.out.2⟩
end
end Go.Proofs.YtpmlggjhfiljmaaGreatDoor
namespace Go.Proofs.YtpmlggjhfiljmaaGreatDoor
open Go.RowKit
section
variable (Fv:Nat→Prop) (s v p:Nat) (m n:Int) (k t q:Nat) (w:World)
set_option maxHeartbeats 1600000 in
theorem do1_any (b0 b1:Nat) (r:ByteArray) (h0:w.cell? ⟨b0,0,none⟩=some (.pointer (some ⟨s,0,none⟩))) (h1:w.cell? ⟨b1,0,none⟩=some (.string r)) (h2:w.cell? ⟨s,0,none⟩=some (.pointer (some ⟨v,0,none⟩)))
    (hv:VltAt w Fv v p m n img0 t k q) (hm:0≤m∧m+m≤n) (hn:n≤1000000) (ht:1≤t) (hr:1≤r.size) (hr2:r.size≤60000) (hfit:(t:Int)+kfr r.size≤m) (hq:q+kfr r.size≤80000) (hk:k≤1000000) :
    Calls Tryz.prog 186 #[.pointer (some ⟨b0,0,none⟩),.pointer (some ⟨b1,0,none⟩)] w (VltPost Fv v p m n img0 (t+kfr r.size) (k+1) (q+kfr r.size) w (.int .i64 0)):=by
  have HA:=Lib.hid (fun W (hW:Fresh w W)=>vappend_any Fv v p m n img0 t k q W (hv.fresh hW) r hm hn ht hr hr2 hfit hq hk)
  clear hv hm hn ht hr hr2 hfit hq hk
  go_enter Tryz.func186,Tryz.ntmps186
  go_wp2_with fail
  go_region_law (first
    | (go_simp;go_at_call 187;refine (HA.out _ (by repeat (first | exact Fresh.refl _ | refine Fresh.drew ?_))).mono ?_;rintro e w2 ⟨rfl,F2,hv2,hm2,hg2⟩))
  all_goals
    have hfin:VltPost Fv v p m n img0 (t+kfr r.size) (k+1) (q+kfr r.size) w (.int .i64 0) (.returned (.int .i64 0)) w2:=⟨rfl,F2,hv2,⟨hm2.os,hm2.tape,hm2.output,hm2.size,hm2.block⟩,hg2⟩
    have HF:=Lib.hid hfin
    clear hfin hv2 hm2 hg2
    go_wp2
    go_ret
    exact HF.out
theorem enters186:∀ (args:Array Value) (W:World),Sem.run Tryz.prog (callFunc 186 args) W=.ok (.enter 186 args) W:=by intro args w;go_simp
set_option maxHeartbeats 1600000 in
theorem run1_any (b0 b1:Nat) (fr:Value) (hfr:fr.cells.size=1) (r:ByteArray) (h0:w.cell? ⟨b0,0,none⟩=some (.pointer (some ⟨s,0,none⟩))) (h1:w.cell? ⟨b1,0,none⟩=some (.string r)) (h2:w.cell? ⟨s,0,none⟩=some (.pointer (some ⟨v,0,none⟩))) (l0:b0<w.heap.size) (l1:b1<w.heap.size) (l2:s<w.heap.size)
    (hv:VltAt w Fv v p m n img0 t k q) (hm:0≤m∧m+m≤n) (hn:n≤1000000) (ht:1≤t) (hr:1≤r.size) (hr2:r.size≤60000) (hfit:(t:Int)+kfr r.size≤m) (hq:q+kfr r.size≤80000) (hk:k≤1000000) :
    Calls Tryz.prog 190 #[.agg #[.func (.func 186) #[] #[.pointer (some ⟨b0,0,none⟩),.pointer (some ⟨b1,0,none⟩)],.func (.func 188) #[] #[.pointer (some ⟨b0,0,none⟩)]]] w (VltPost Fv v p m n img0 (t+kfr r.size) (k+1) (q+kfr r.size) w (.int .i64 0)):=by
  have HD:=Lib.hid (fun W (hW:Fresh w W)=>do1_any Fv s v p m n k t q W b0 b1 r ((Below.cell hW (p:=⟨b0,0,none⟩) l0).trans h0) ((Below.cell hW (p:=⟨b1,0,none⟩) l1).trans h1) ((Below.cell hW (p:=⟨s,0,none⟩) l2).trans h2) (hv.fresh hW) hm hn ht hr hr2 hfit hq hk)
  have hen:=enters186
  clear hv hm hn ht hr hr2 hfit hq hk h0 h1 h2
  go_enter Tryz.func190,Tryz.ntmps190
  go_wp2_with fail
  refine (HD.out _ ((Fresh.refl w).alloc _)).mono ?_
  rintro e w2 ⟨rfl,F2,hv2,hm2,hg2⟩
  have HF:Hid (VltPost Fv v p m n img0 (t+kfr r.size) (k+1) (q+kfr r.size) w (.int .i64 0) (.returned (.int .i64 0)) w2):=Lib.hid ⟨rfl,F2,hv2,((Fresh.refl w).alloc _).andMut hm2,hg2.ahead (by simp)⟩
  clear hv2 hm2 hg2
  go_wp2
  go_ret
  exact HF.out
end
end Go.Proofs.YtpmlggjhfiljmaaGreatDoor
