/- Part 7 of what the law rests on. -/
import Derived.Test.YtpmlggjhfiljmaaGreatDoorS05
import Derived.Test.YtpmlggjhfiljmaaGreatDoorS06
set_option linter.all false
namespace Go.Proofs.YtpmlggjhfiljmaaGreatDoor
open Go.RowKit
def SB (bs:Nat) (L:List Int):Prop:=∀ k:Nat,Srt ((L.drop (k * bs)).take bs)
theorem srt_nil:Srt []:=List.Pairwise.nil
theorem srt_take {L:List Int} (h:Srt L) (k:Nat):Srt (L.take k):=List.Pairwise.sublist (List.take_sublist k L) h
theorem sb_nil (bs:Nat):SB bs []:=fun k=>by simp;exact srt_nil
theorem sb_one {bs:Nat} {L:List Int} (h:Srt L) (hl:L.length≤bs):SB bs L:=fun k=>by
  cases k with
  | zero=>simpa using srt_take h bs
  | succ k =>
    have:L.drop ((k+1) * bs)=[]:=List.drop_eq_nil_of_le (by rw [Nat.succ_mul];omega)
    rw [this];simp;exact srt_nil
theorem sb_all {bs:Nat} {L:List Int} (h:SB bs L) (hl:L.length≤bs):Srt L:=by
  have:=h 0
  simp only [Nat.zero_mul,List.drop_zero] at this
  rwa [List.take_of_length_le hl] at this
theorem sb_append {bs q:Nat} {M R:List Int} (hM:M.length=q * bs) (h1:SB bs M) (h2:SB bs R):SB bs (M++R):=fun k=>by
  by_cases hk:k<q
  · have h3:k * bs+bs≤M.length:=by
      rw [hM]
      have:=Nat.mul_le_mul_right bs (Nat.succ_le_of_lt hk)
      rw [Nat.succ_mul] at this
      exact this
    rw [List.drop_append_of_le_length (by omega),List.take_append_of_le_length (by rw [List.length_drop];omega)]
    exact h1 k
  · have h3:M.length≤k * bs:=by rw [hM];exact Nat.mul_le_mul_right bs (by omega)
    have e:(M++R).drop (k * bs)=R.drop ((k - q) * bs):=by
      rw [List.drop_append,List.drop_eq_nil_of_le h3,List.nil_append,hM,Nat.mul_sub_right_distrib]
    rw [e]
    exact h2 (k - q)
theorem sb_drop {bs:Nat} {L:List Int} (h:SB bs L) (q:Nat):SB bs (L.drop (q * bs)):=fun k=>by
  rw [List.drop_drop,← Nat.add_mul];exact h (q+k)
theorem sb_take {bs:Nat} {L:List Int} (h:SB bs L):Srt (L.take bs):=by have:=h 0;simpa using this
theorem sb_drop1 {bs:Nat} {L:List Int} (h:SB bs L):SB bs (L.drop bs):=by have:=sb_drop h 1;rwa [Nat.one_mul] at this
theorem sp_mid {X M R R':List Int} (h:SP X (M++R)) (k:SP R R'):SP X (M++R'):=h.trans ((SP.refl M).append k)
def BlkRel (w0:World) (g off n:Nat) (X:List Int) (a b:Value) (wr:World):Prop :=
  ∃ (k:Nat) (M R:List Int),a=.int .i64 ((20 * k:Nat):Int)∧b=.int .i64 ((20 * k+20:Nat):Int)∧M.length=20 * k∧SB 20 M∧SP X (M++R)∧Arr w0 g off n (M++R) wr
def RoundRel (w0:World) (g off n:Nat) (X:List Int) (bs a b:Value) (wr:World):Prop :=
  ∃ (s:Nat) (M:List Int),bs=.int .i64 (s:Nat)∧20≤s∧s≤2000000∧SB s M∧SP X M∧Arr w0 g off n M wr
def HalfRel (w0:World) (g off n s:Nat) (X:List Int) (a b:Value) (wr:World):Prop :=
  ∃ (q l:Nat) (M R:List Int),a=.int .i64 (l:Nat)∧b=.int .i64 ((l+2 * s:Nat):Int)∧M.length=l∧l=q * (2 * s)∧SB (2 * s) M∧SB s R∧SP X (M++R)∧Arr w0 g off n (M++R) wr
set_option maxHeartbeats 800000 in
set_option maxRecDepth 100000 in
theorem insert_none (V F:Value) (a:Nat) (ha:a≤1000000) (w:World) :
    Calls Tryz.prog 322 #[V,.int .i64 (a:Nat),.int .i64 (a:Nat),F] w (fun e w'=>e=.returned (.tuple #[])∧w'=w):=by
  go_enter Tryz.func322,Tryz.ntmps322
  go_wp2
  refine wp_loop_rounds 1 ?_
  rw [rounds_succ]
  go_wp2
  go_end0
  exact ⟨rfl,rfl⟩
set_option maxHeartbeats 800000 in
theorem insert_all (w0:World) (g off n:Nat) (P A S:List Int) (a b:Nat) (w:World) (cap:Nat) (hn:n≤1000000) (hoff:off≤1000000) (ha:a=P.length) (hb:b=P.length+A.length) (h:Arr w0 g off n (P++A++S) w) :
    Calls Tryz.prog 322 #[.slice (some ⟨g,off,none⟩) n cap,.int .i64 (a:Nat),.int .i64 (b:Nat),.func (.func 173) #[] #[]] w (SortPost w0 g off n P A S):=by
  by_cases hA:1≤A.length
  · subst ha hb
    exact insert_any w0 g off n P A S w cap hn hoff hA h
  · have hA0:A=[]:=List.length_eq_zero_iff.1 (by omega)
    subst hA0
    have hl:=h.len
    simp at hl hb
    have e:b=a:=by omega
    subst e
    refine (insert_none _ _ b (by omega) w).mono ?_
    rintro e w1 ⟨rfl,rfl⟩
    exact ⟨rfl,[],SP.refl _,srt_nil,h⟩
set_option maxHeartbeats 3200000 in
set_option maxRecDepth 100000 in
theorem stable_any (w0:World) (g off n:Nat) (X:List Int) (w:World) (cap:Nat) (hn:n≤1000000) (hoff:off≤1000000) (h:Arr w0 g off n X w) :
    Calls Tryz.prog 257 #[.slice (some ⟨g,off,none⟩) n cap,.int .i64 (n:Nat),.func (.func 173) #[] #[]] w (SortPost w0 g off n [] X []):=by
  have hl:=h.len
  have H:=Lib.hid h
  have HL:=Lib.hid hl
  clear h hl
  go_enter Tryz.func257,Tryz.ntmps257
  go_wp2
  go_loopw [7,8] (fun a b wr=>BlkRel w0 g off n X a b wr) (fun _ b _=>n+20 - (intOf b).toNat)
  case atStart=>exact ⟨0,[],X,rfl,rfl,rfl,sb_nil 20,SP.refl _,H.out⟩
  case round =>
    obtain ⟨k,M,R,rfl,rfl,hM,hsb,hsp,harr⟩:=hrel
    have hlen:=harr.len
    rw [List.length_append,hM] at hlen
    have HSB:=Lib.hid hsb
    have HSP:=Lib.hid hsp
    have HAR:=Lib.hid harr
    have HMM:=Lib.hid hM
    obtain ⟨l,hl⟩:∃ l:Nat,20 * k=l:=⟨_,rfl⟩
    have HKL:=Lib.hid hl
    rw [hl] at hlen ⊢
    clear hsb hsp harr hM hl
    by_cases hb:l+20≤n
    · have hb':((l+20:Nat):Int)≤(n:Int):=by omega
      go_wp2_with fail
      refine (insert_all w0 g off n M (R.take 20) (R.drop 20) l (l+20) _ cap hn hoff (by rw [HMM.out,HKL.out]) (by rw [HMM.out,HKL.out,List.length_take];omega) (by rw [List.append_assoc,List.take_append_drop];exact HAR.out)).mono ?_
      rintro e w2 ⟨rfl,M1,s1,t1,h1⟩
      have hl1:M1.length=20:=by rw [← s1.length,List.length_take];omega
      have hmm:=HMM.out
      have hkl:=HKL.out
      have H2:Hid (∃ (M' R':List Int),M'.length=20 * (k+1)∧SB 20 M'∧SP X (M'++R')∧Arr w0 g off n (M'++R') w2):=Lib.hid ⟨M++M1,R.drop 20,by rw [List.length_append];omega,sb_append (q:=k) (by omega) HSB.out (sb_one t1 (by omega)),by
        have e1:SP R (M1++R.drop 20):=by
          have:=s1.append (SP.refl (R.drop 20))
          rwa [List.take_append_drop] at this
        have:=sp_mid HSP.out e1
        rwa [← List.append_assoc] at this,h1⟩
      clear s1 t1 h1 hl1 hmm hkl
      go_wp2
      obtain ⟨M',R',q1,q2,q3,q4⟩:=H2.out
      have hkl:=HKL.out
      refine ⟨⟨k+1,M',R',congrArg (Value.int .i64) (by omega),congrArg (Value.int .i64) (by omega),q1,q2,q3,q4⟩,?_⟩
      simp [intOf];omega
    · have hb':¬ ((l+20:Nat):Int)≤(n:Int):=by omega
      have hb2:¬ (l:Int)+20≤(n:Int):=by omega
      go_wp2_with fail
      refine (insert_all w0 g off n M R [] l n _ cap hn hoff (by rw [HMM.out,HKL.out]) (by rw [HMM.out,HKL.out];omega) (by rw [List.append_nil];exact HAR.out)).mono ?_
      rintro e w2 ⟨rfl,M1,s1,t1,h1⟩
      have hl1:M1.length=R.length:=s1.length.symm
      have hmm:=HMM.out
      have hkl:=HKL.out
      have H2:Hid (∃ (M':List Int),SB 20 M'∧SP X M'∧Arr w0 g off n M' w2):=Lib.hid ⟨M++M1,sb_append (q:=k) (by omega) HSB.out (sb_one t1 (by omega)),sp_mid HSP.out s1,by simpa using h1⟩
      clear s1 t1 h1 hl1 hmm hkl HSB HSP HAR HMM HKL hlen hb hb' hb2
      go_wp2
      go_loopw [6,7,8] (fun bs a b wr=>RoundRel w0 g off n X bs a b wr) (fun bs _ _ _=>n - (intOf bs).toNat)
      case atStart =>
        obtain ⟨M',q1,q2,q3⟩:=H2.out
        exact ⟨20,M',rfl,Nat.le_refl _,by omega,q1,q2,q3⟩
      case round =>
        clear H2
        obtain ⟨s,N,rfl,hs1,hs2,hsb,hsp,harr⟩:=hrel
        have hlen:=harr.len
        have HSB:=Lib.hid hsb
        have HSP:=Lib.hid hsp
        have HAR:=Lib.hid harr
        have HMM:=Lib.hid hlen
        clear hsb hsp harr hlen
        by_cases hb:s<n
        · have hb':(s:Int)<(n:Int):=by omega
          go_wp2
          go_loopw [7,8] (fun a b wr=>HalfRel w0 g off n s X a b wr) (fun a _ _=>n - (intOf a).toNat)
          case atStart=>exact ⟨0,0,[],N,rfl,congrArg (Value.int .i64) (by omega),rfl,by omega,sb_nil _,HSB.out,HSP.out,HAR.out⟩
          case round =>
            clear HSB HSP HAR HMM
            obtain ⟨q,l,M',R,rfl,rfl,hM,hlq,hsb,hsb2,hsp,harr⟩:=hrel
            have hlen:=harr.len
            rw [List.length_append,hM] at hlen
            have HSB:=Lib.hid hsb
            have HSB2:=Lib.hid hsb2
            have HSP:=Lib.hid hsp
            have HAR:=Lib.hid harr
            have HMM:=Lib.hid hM
            have HLQ:=Lib.hid hlq
            have HLN:=Lib.hid hlen
            have hln:l≤n:=by omega
            clear hsb hsb2 hsp harr hM hlq hlen
            have e1:IntKind.i64.wrap ((l:Int)+(s:Int))=((l+s:Nat):Int):=by rw [IntKind.wrap_i64];omega
            have e2:IntKind.i64.wrap (2 * (s:Int))=((2 * s:Nat):Int):=by rw [IntKind.wrap_i64];omega
            have e3:IntKind.i64.wrap ((s:Int) * 2)=((2 * s:Nat):Int):=by rw [IntKind.wrap_i64];omega
            have e4:IntKind.i64.wrap (((l+2 * s:Nat):Int)+((2 * s:Nat):Int))=((l+2 * s+2 * s:Nat):Int):=by rw [IntKind.wrap_i64];omega
            have e5:IntKind.i64.wrap (((l:Nat):Int)+2 * (s:Nat)+2 * (s:Nat))=((l+2 * s+2 * s:Nat):Int):=by rw [IntKind.wrap_i64];omega
            by_cases hc:l+2 * s≤n
            · have hc':((l+2 * s:Nat):Int)≤(n:Int):=by omega
              have hc2:(l:Int)+2 * (s:Int)≤(n:Int):=by omega
              go_wp2_with fail
              have hr:=HLN.out
              refine (merge_at _ w0 g off n M' (R.take s) ((R.drop s).take s) (R.drop (2 * s)) l (l+s) (l+2 * s) _ cap hn hoff (Nat.le_refl _) (by rw [List.length_take];omega) (by rw [List.length_take,List.length_drop];omega) (sb_take HSB2.out) (sb_take (sb_drop1 HSB2.out)) HMM.out.symm (by rw [HMM.out,List.length_take];omega) (by rw [HMM.out,List.length_take,List.length_take,List.length_drop];omega) ?_).mono ?_
              · have h3:R.take s++((R.drop s).take s++R.drop (2 * s))=R:=by
                  rw [show R.drop (2 * s)=(R.drop s).drop s by rw [List.drop_drop];congr 1;omega,List.take_append_drop,List.take_append_drop]
                rw [List.append_assoc,List.append_assoc,h3]
                exact HAR.out
              rintro e w2 ⟨rfl,M1,s1,t1,h1⟩
              have hl1:M1.length=2 * s:=by rw [← s1.length,List.length_append,List.length_take,List.length_take,List.length_drop];omega
              have H2:Hid (∃ (M2 R':List Int),M2.length=l+2 * s∧l+2 * s=(q+1) * (2 * s)∧SB (2 * s) M2∧SB s R'∧SP X (M2++R')∧Arr w0 g off n (M2++R') w2):=Lib.hid ⟨M'++M1,R.drop (2 * s),by rw [List.length_append,HMM.out,hl1],by have:=Nat.add_mul q 1 (2 * s);rw [this,← HLQ.out,Nat.one_mul],sb_append (q:=q) (by rw [HMM.out,← HLQ.out]) HSB.out (sb_one t1 (by omega)),sb_drop HSB2.out 2,by
                have e1:SP R (M1++R.drop (2 * s)):=by
                  have:=s1.append (SP.refl (R.drop (2 * s)))
                  rwa [List.append_assoc,show R.drop (2 * s)=(R.drop s).drop s by rw [List.drop_drop];congr 1;omega,List.take_append_drop,List.take_append_drop,show (R.drop s).drop s=R.drop (2 * s) by rw [List.drop_drop];congr 1;omega] at this
                have:=sp_mid HSP.out e1
                rwa [← List.append_assoc] at this,h1⟩
              clear s1 t1 h1 hl1 hr
              go_wp2
              obtain ⟨M2,R',q1,q2,q3,q4,q5,q6⟩:=H2.out
              refine ⟨⟨q+1,l+2 * s,M2,R',congrArg (Value.int .i64) (by omega),congrArg (Value.int .i64) (by omega),q1,q2,q3,q4,q5,q6⟩,?_⟩
              simp [intOf];omega
            · have hc':¬ ((l+2 * s:Nat):Int)≤(n:Int):=by omega
              have hc2:¬ (l:Int)+2 * (s:Int)≤(n:Int):=by omega
              by_cases hd:l+s<n
              · have hd':((l+s:Nat):Int)<(n:Int):=by omega
                have hd2:(l:Int)+(s:Int)<(n:Int):=by omega
                go_wp2_with fail
                have hr:=HLN.out
                refine (merge_at _ w0 g off n M' (R.take s) (R.drop s) [] l (l+s) n _ cap hn hoff (Nat.le_refl _) (by rw [List.length_take];omega) (by rw [List.length_drop];omega) (sb_take HSB2.out) (sb_all (sb_drop1 HSB2.out) (by rw [List.length_drop];omega)) HMM.out.symm (by rw [HMM.out,List.length_take];omega) (by rw [HMM.out,List.length_take,List.length_drop];omega) (by rw [List.append_nil,List.append_assoc,List.take_append_drop];exact HAR.out)).mono ?_
                rintro e w2 ⟨rfl,M1,s1,t1,h1⟩
                have hl1:M1.length=R.length:=by rw [← s1.length,List.take_append_drop]
                have H2:Hid (∃ (M2:List Int),SB (2 * s) M2∧SP X M2∧Arr w0 g off n M2 w2):=Lib.hid ⟨M'++M1,sb_append (q:=q) (by rw [HMM.out,← HLQ.out]) HSB.out (sb_one t1 (by omega)),sp_mid HSP.out (by rwa [List.take_append_drop] at s1),by simpa using h1⟩
                clear s1 t1 h1 hl1 hr
                go_wp2
                go_roundw
                case rel =>
                  obtain ⟨M2,q1,q2,q3⟩:=H2.out
                  exact ⟨2 * s,M2,rfl,by omega,by omega,q1,q2,q3⟩
                case measure=>simp [intOf];omega
              · have hd':¬ ((l+s:Nat):Int)<(n:Int):=by omega
                have hd2:¬ (l:Int)+(s:Int)<(n:Int):=by omega
                have hr:=HLN.out
                have H2:Hid (∃ (M2:List Int),SB (2 * s) M2∧SP X M2∧Arr w0 g off n M2 wr):=Lib.hid ⟨M'++R,sb_append (q:=q) (by rw [HMM.out,← HLQ.out]) HSB.out (sb_one (sb_all HSB2.out (by omega)) (by omega)),HSP.out,HAR.out⟩
                clear hr
                go_wp2
                go_roundw
                case rel =>
                  obtain ⟨M2,q1,q2,q3⟩:=H2.out
                  exact ⟨2 * s,M2,rfl,by omega,by omega,q1,q2,q3⟩
                case measure=>simp [intOf];omega
        · have hb':¬ (s:Int)<(n:Int):=by omega
          go_wp2
          go_end0
          exact ⟨rfl,N,HSP.out,sb_all HSB.out (by have:=HMM.out;omega),by simpa using HAR.out⟩
/-! ### the canonical order -/
def ins (x:Int):List Int→List Int
  | []=>[x]
  | y :: ys=>if 0<clsI y∧clsI y<clsI x then y :: ins x ys else x :: y :: ys
def ordA:List Int→List Int
  | []=>[]
  | x :: l=>ins x (ordA l)
def Nf:List Int→Prop
  | []=>True
  | [_]=>True
  | x :: y :: l=>¬ (0<clsI y∧clsI y<clsI x)∧Nf (y :: l)
theorem ins_swap {x y:Int} (h:0<clsI y∧clsI y<clsI x):∀ R:List Int,ins x (ins y R)=ins y (ins x R)
  | []=>by
    have h2:¬ (0<clsI x∧clsI x<clsI y):=by omega
    simp [ins,h,h2]
  | z :: R=>by
    have ih:=ins_swap h R
    have h2:¬ (0<clsI x∧clsI x<clsI y):=by omega
    by_cases q1:0<clsI z∧clsI z<clsI y
    · have q2:0<clsI z∧clsI z<clsI x:=by omega
      simp [ins,q1,q2,ih]
    · by_cases q2:0<clsI z∧clsI z<clsI x
      · simp only [ins,if_pos q2,if_neg q1,if_pos h]
      · simp only [ins,if_neg q2,if_neg q1,if_pos h,if_neg h2]
theorem ordA_pre (P:List Int) {Z Z':List Int} (h:ordA Z=ordA Z'):ordA (P++Z)=ordA (P++Z'):=by
  induction P with
  | nil=>exact h
  | cons x P ih=>exact congrArg (ins x) ih
theorem ordA_swap (P S:List Int) {x y:Int} (h:0<clsI y∧clsI y<clsI x):ordA (P++x :: y :: S)=ordA (P++y :: x :: S):=ordA_pre P (ins_swap h (ordA S))
theorem ins_app {x:Int}:∀ (R S:List Int),ordA (ins x R++S)=ordA (x :: R++S)
  | [],S=>rfl
  | y :: R,S=>by
    by_cases q:0<clsI y∧clsI y<clsI x
    · have ih:=ins_app (x:=x) R S
      simp only [ins,if_pos q]
      have e1:ordA (y :: ins x R++S)=ordA (y :: (x :: R++S)):=ordA_pre [y] ih
      rw [e1]
      exact (ordA_swap [] (R++S) q).symm
    · simp only [ins,if_neg q]
theorem ordA_app:∀ (A S:List Int),ordA (ordA A++S)=ordA (A++S)
  | [],S=>rfl
  | x :: A,S=>by
    show ordA (ins x (ordA A)++S)=_
    rw [ins_app]
    exact ordA_pre [x] (ordA_app A S)
theorem ordA_idem (A:List Int):ordA (ordA A)=ordA A:=by have:=ordA_app A [];simpa using this
theorem ordA_congr {A B:List Int} (h:ordA A=ordA B) (S:List Int):ordA (A++S)=ordA (B++S):=by rw [← ordA_app A,← ordA_app B,h]
theorem nf_ord:∀ {A:List Int},Nf A→ordA A=A
  | [],_=>rfl
  | [x],_=>rfl
  | x :: y :: l,h=>by
    have ih:=nf_ord h.2
    show ins x (ordA (y :: l))=_
    rw [ih]
    simp only [ins,if_neg h.1]
theorem Nf.tail {x:Int} {l:List Int} (h:Nf (x :: l)):Nf l:=by
  cases l with
  | nil=>trivial
  | cons y l=>exact h.2
theorem ins_nf {x:Int}:∀ {R:List Int},Nf R→Nf (ins x R)
  | [],_=>trivial
  | [y],_=>by
    by_cases q:0<clsI y∧clsI y<clsI x
    · simp only [ins,if_pos q];exact ⟨by omega,trivial⟩
    · simp only [ins,if_neg q];exact ⟨q,trivial⟩
  | y :: z :: R,h=>by
    by_cases q:0<clsI y∧clsI y<clsI x
    · have ih:=ins_nf (x:=x) h.2
      simp only [ins,if_pos q]
      by_cases q2:0<clsI z∧clsI z<clsI x
      · simp only [ins,if_pos q2] at ih ⊢
        exact ⟨h.1,ih⟩
      · simp only [ins,if_neg q2] at ih ⊢
        exact ⟨by omega,ih⟩
    · simp only [ins,if_neg q]
      exact ⟨q,h⟩
theorem ord_nf:∀ A:List Int,Nf (ordA A)
  | []=>trivial
  | x :: A=>ins_nf (ord_nf A)
theorem ins_len (x:Int):∀ R:List Int,(ins x R).length=R.length+1
  | []=>rfl
  | y :: R=>by
    have:=ins_len x R
    simp only [ins];split <;> simp [this]
theorem ord_len:∀ A:List Int,(ordA A).length=A.length
  | []=>rfl
  | x :: A=>by show (ins x (ordA A)).length=_;rw [ins_len,ord_len A];rfl
theorem ins_mem {x z:Int}:∀ {R:List Int},z ∈ ins x R ↔ z=x∨z ∈ R
  | []=>by simp [ins]
  | y :: R=>by
    have:=ins_mem (x:=x) (z:=z) (R:=R)
    simp only [ins];split
    · simp [this];constructor
      · rintro (h | h | h) <;> simp [h]
      · rintro (h | h | h) <;> simp [h]
    · simp
theorem ord_mem {z:Int}:∀ {A:List Int},z ∈ ordA A ↔ z ∈ A
  | []=>Iff.rfl
  | x :: A=>by show z ∈ ins x (ordA A) ↔ _;rw [ins_mem,ord_mem,List.mem_cons]
theorem nf_srt:∀ {M:List Int},Srt M→Nf M
  | [],_=>trivial
  | [x],_=>trivial
  | x :: y :: l,h=>by
    have:=List.pairwise_cons.1 h
    have h1:=this.1 y (by simp)
    exact ⟨by omega,nf_srt this.2⟩
theorem nf_app {c:Int} {M:List Int} (hc:clsI c=0):∀ {F:List Int},Nf F→Nf (c :: M)→Nf (F++c :: M)
  | [],_,h=>h
  | [x],_,h=>⟨by omega,h⟩
  | x :: y :: F,h1,h2=>⟨h1.1,nf_app (F:=y :: F) hc h1.2 h2⟩
def Run (G:List Int):Prop:=∀ x ∈ G.tail,clsI x ≠ 0
theorem ins_sp {x:Int}:∀ {R:List Int},SP (x :: R) (ins x R)
  | []=>SP.refl _
  | y :: R=>by
    simp only [ins]
    split
    · rename_i q
      have ih:=ins_sp (x:=x) (R:=R)
      have h1:SP (x :: y :: R) (y :: x :: R):=(SP.flip (a:=[x]) (b:=[y]) (fun a ha b hb=>by simp at ha hb;subst ha hb;omega)).append (SP.refl R)
      exact h1.trans ((SP.refl [y]).append ih)
    · exact SP.refl _
theorem ord_sp:∀ A:List Int,SP A (ordA A)
  | []=>SP.refl _
  | x :: A=>((SP.refl [x]).append (ord_sp A)).trans ins_sp
theorem ins_srt {x:Int}:∀ {R:List Int},Srt R→(∀ y ∈ R,clsI y ≠ 0)→Srt (ins x R)
  | [],_,_=>List.pairwise_singleton _ _
  | y :: R,h,hz=>by
    have hp:=List.pairwise_cons.1 h
    have hy:=hz y (by simp)
    have hy0:=cls_range y
    simp only [ins]
    split
    · rename_i q
      refine List.pairwise_cons.2 ⟨fun z hz2=>?_,ins_srt hp.2 fun z hz2=>hz z (by simp [hz2])⟩
      rcases ins_mem.1 hz2 with e | e
      · subst e;omega
      · exact hp.1 z e
    · rename_i q
      refine List.pairwise_cons.2 ⟨fun z hz2=>?_,h⟩
      rcases List.mem_cons.1 hz2 with e | e
      · subst e;omega
      · have:=hp.1 z e;omega
theorem ord_srt0:∀ {G:List Int},(∀ x ∈ G,clsI x ≠ 0)→Srt (ordA G)
  | [],_=>List.Pairwise.nil
  | x :: G,h=>ins_srt (ord_srt0 fun y hy=>h y (by simp [hy])) fun y hy=>h y (by simp [ord_mem.1 hy])
theorem run_ord {G M:List Int} (hG:Run G) (h1:SP G M) (h2:Srt M):M=ordA G:=by
  cases G with
  | nil=>exact srt_unique h2 List.Pairwise.nil h1.symm
  | cons x G =>
    exact srt_unique h2 (ins_srt (ord_srt0 hG) fun y hy=>hG y (ord_mem.1 hy)) (h1.symm.trans (ord_sp _))
/-! ### taken apart -/
theorem T_facts2:(T.all fun t=>splitI t.2.1 == none && splitI t.1 == none && decide (t.1<t.2.2) && decide (t.2.2<768))=true:=by decide +kernel
theorem T_of2 {t:Int × Int × Int} (h:t ∈ T):splitI t.2.1=none∧splitI t.1=none∧t.1<t.2.2∧t.2.2<768:=by
  have:=List.all_eq_true.1 T_facts2 t h
  simpa [and_assoc] using this
theorem no_r2 {r:Int} (h:4352≤r):T.find? (isR r)=none:=by
  cases ht:T.find? (isR r) with
  | none=>rfl
  | some t =>
    have:=T_of (List.mem_of_find?_eq_some ht)
    have:=find_r ht
    omega
theorem split_han {r:Int} (h:4352≤r):splitI r=hanS r:=by unfold splitI;rw [no_r2 h]
theorem split_no {r:Int} (h1:4352≤r) (h2:r<44032):splitI r=none:=by rw [split_han h1];unfold hanS;rw [if_neg (by omega)]
theorem cls_big {r:Int} (h:809≤r):clsI r=0:=by unfold clsI;rw [if_neg (by omega),if_neg (by omega)]
theorem splitI_facts {r a b:Int} (h:splitI r=some (a,b)):a<r∧0≤a∧splitI b=none∧(∀ a2 b2,splitI a=some (a2,b2)→splitI a2=none)∧clsI r=0∧clsI a=0:=by
  unfold splitI at h
  cases ht:T.find? (isR r) with
  | some t =>
    rw [ht] at h
    have ht1:=T_of (List.mem_of_find?_eq_some ht)
    have ht2:=T_of2 (List.mem_of_find?_eq_some ht)
    have hr:=find_r ht
    simp only [Option.some.injEq,Prod.mk.injEq] at h
    obtain ⟨e1,e2⟩:=h
    subst e1 e2 hr
    exact ⟨ht2.2.2.1,ht1.2.2.2.2.1,ht2.1,fun a2 b2 h=>by rw [ht2.2.1] at h;(cases h),ht1.2.2.2.2.2.2.2.2.1,ht1.2.2.2.2.2.2.2.2.2.1⟩
  | none =>
    rw [ht] at h
    simp only at h
    unfold hanS at h
    split at h
    · split at h
      · simp only [Option.some.injEq,Prod.mk.injEq] at h
        obtain ⟨e1,e2⟩:=h
        refine ⟨by omega,by omega,split_no (by omega) (by omega),fun a2 b2 h2=>?_,cls_big (by omega),cls_big (by omega)⟩
        rw [split_han (by omega)] at h2
        unfold hanS at h2
        rw [if_pos (by omega),if_neg (by omega)] at h2
        simp only [Option.some.injEq,Prod.mk.injEq] at h2
        exact split_no (by omega) (by omega)
      · simp only [Option.some.injEq,Prod.mk.injEq] at h
        obtain ⟨e1,e2⟩:=h
        refine ⟨by omega,by omega,split_no (by omega) (by omega),fun a2 b2 h2=>?_,cls_big (by omega),cls_big (by omega)⟩
        rw [split_no (by omega) (by omega)] at h2
        cases h2
    · cases h
def splits (r:Int):List Int:=match h:splitI r with
  | none=>[r]
  | some (a,b)=>splits a++[b]
termination_by r.toNat
decreasing_by have:=splitI_facts h;omega
theorem splits_none {r:Int} (h:splitI r=none):splits r=[r]:=by
  unfold splits;split
  · rfl
  · rename_i h2;rw [h] at h2;cases h2
theorem splits_some {r a b:Int} (h:splitI r=some (a,b)):splits r=splits a++[b]:=by
  rw [splits];split
  · rename_i h2;rw [h] at h2;cases h2
  · rename_i h2;rw [h] at h2;cases h2;rfl
theorem splits_len (r:Int):1≤(splits r).length∧(splits r).length≤3:=by
  cases h:splitI r with
  | none=>rw [splits_none h];simp
  | some p =>
    obtain ⟨a,b⟩:=p
    rw [splits_some h]
    cases h2:splitI a with
    | none=>rw [splits_none h2];simp
    | some p2 =>
      obtain ⟨a2,b2⟩:=p2
      rw [splits_some h2,splits_none ((splitI_facts h).2.2.2.1 _ _ h2)]
      simp
def spl (l:List Int):List Int:=l.flatMap splits
def apt (l:List Int):List Int:=ordA (spl l)
theorem spl_app (a b:List Int):spl (a++b)=spl a++spl b:=List.flatMap_append
theorem spl_len:∀ l:List Int,(spl l).length≤3 * l.length
  | []=>by simp [spl]
  | x :: l=>by
    have:=spl_len l
    have h:=splits_len x
    unfold spl at *
    rw [List.flatMap_cons,List.length_append,List.length_cons]
    omega
theorem apt_len (l:List Int):(apt l).length≤3 * l.length:=by unfold apt;rw [ord_len];exact spl_len l
open Go.RowKit
set_option maxHeartbeats 800000 in
theorem sort_any (w0:World) (g off n:Nat) (X:List Int) (w:World) (cap:Nat) (hn:n≤1000000) (hoff:off≤1000000) (h:Arr w0 g off n X w) :
    Calls Tryz.prog 172 #[.slice (some ⟨g,off,none⟩) n cap,.func (.func 173) #[] #[]] w (SortPost w0 g off n [] X []):=by
  have HX:=Lib.hid (stable_any w0 g off n X w cap hn hoff h)
  clear h
  go_enter Tryz.func172,Tryz.ntmps172
  go_wp2_with fail
  refine HX.out.mono ?_
  rintro e w2 ⟨rfl,h2⟩
  go_wp2
  go_end0
  exact ⟨rfl,h2⟩
set_option maxHeartbeats 800000 in
theorem order_any (w0:World) (g off n:Nat) (X:List Int) (w:World) (cap:Nat) (hn:n≤1000000) (hoff:off≤1000000) (h:Arr w0 g off n X w) :
    Calls Tryz.prog 122 #[.slice (some ⟨g,off,none⟩) n cap] w (SortPost w0 g off n [] X []):=by
  have HX:=Lib.hid (sort_any w0 g off n X w cap hn hoff h)
  clear h
  go_enter Tryz.func122,Tryz.ntmps122
  go_wp2_with fail
  refine HX.out.mono ?_
  rintro e w2 ⟨rfl,h2⟩
  go_wp2
  go_end0
  exact ⟨rfl,h2⟩
set_option maxHeartbeats 800000 in
theorem stable_nil (w:World) (F:Value):Calls Tryz.prog 257 #[.slice none 0 0,.int .i64 0,F] w (fun e w'=>e=.returned (.tuple #[])∧w'=w):=by
  go_enter Tryz.func257,Tryz.ntmps257
  go_wp2
  refine wp_loop_rounds 1 ?_
  rw [rounds_succ]
  go_wp2_with fail
  refine (insert_none _ _ 0 (by omega) w).mono ?_
  rintro e w1 ⟨rfl,rfl⟩
  go_wp2
  refine wp_loop_rounds 1 ?_
  rw [rounds_succ]
  go_wp2
  go_end0
  exact ⟨rfl,rfl⟩
set_option maxHeartbeats 800000 in
theorem order_nil (w:World):Calls Tryz.prog 122 #[.slice none 0 0] w (fun e w'=>e=.returned (.tuple #[])∧w'=w):=by
  go_enter Tryz.func122,Tryz.ntmps122
  go_wp2_with fail
  go_enter Tryz.func172,Tryz.ntmps172
  go_wp2_with fail
  refine (stable_nil w _).mono ?_
  rintro e w1 ⟨rfl,rfl⟩
  go_wp2
  go_end0
  go_wp2
  go_end0
  exact ⟨rfl,rfl⟩
theorem own_arr {w:World} {B:Nat} {v:Value} {F G:List Int} (h:OwnR w B v (F++G)) (hG:1≤(F++G).length) :
    ∃ g cap,v=.slice (some ⟨g,0,none⟩) (F.length+G.length) cap∧B≤g∧F.length+G.length≤cap∧Arr w g F.length G.length G w ∧
      (∀ M w',M.length=G.length→Arr w g F.length G.length M w'→OwnR w' B v (F++M)):=by
  obtain ⟨h1,h2 | ⟨g,cap,cur,hv,hb,hh,hc1,hc2,hs,ht⟩⟩:=h
  · exact absurd h2.2 (by omega)
  · have hlen:(F++G).length=F.length+G.length:=List.length_append
    have hcell:∀ i,i<F.length+G.length→cur[i]?=some (.int .i32 ((F++G).getD i 0)):=fun i hi=>by
      have e1:(cur.toList.take ((F++G).length * 1))[i]?=cur[i]?:=by
        rw [List.getElem?_take_of_lt (by omega)];simp
      rw [← e1,ht,List.getElem?_map,List.getElem?_eq_getElem (by omega),List.getD_eq_getElem?_getD,List.getElem?_eq_getElem (by omega)]
      rfl
    refine ⟨g,cap,by rw [← hlen];exact hv,hb,by omega,⟨rfl,⟨rfl,rfl,rfl,Nat.le_refl _,fun _ _ _=>rfl⟩,cur,cur,hh,hh,rfl,by omega,fun _ _=>rfl,fun j hj=>?_⟩,fun M w' hM hA=>?_⟩
    · rw [hcell _ (by omega)]
      congr 2
      simp [List.getD_eq_getElem?_getD,List.getElem?_append_right]
    · obtain ⟨cs0,cs,k1,k2,k3,k4,k5,k6⟩:=hA.mem
      have e0:cs0=cur:=by
        unfold Blk at k1
        rw [hh] at k1
        simp only [Option.some.injEq,Obj.cells.injEq] at k1
        exact k1.1.symm
      subst e0
      refine ⟨by simp,.inr ⟨g,cap,cs,by rw [hv];simp [hM],hb,k2,by simp [hM];omega,hc2,by omega,?_⟩⟩
      apply List.ext_getElem?
      intro i
      by_cases hi:i<F.length+G.length
      · rw [List.getElem?_take_of_lt (by simp [hM];omega)]
        have e2:cs.toList[i]?=cs[i]?:=by simp
        rw [e2]
        by_cases hF:i<F.length
        · rw [k5 i (.inl hF),hcell i hi]
          rw [List.getElem?_map,List.getElem?_append_left hF,List.getD_eq_getElem?_getD,List.getElem?_append_left hF,List.getElem?_eq_getElem hF]
          rfl
        · have:=k6 (i - F.length) (by omega)
          rw [show F.length+(i - F.length)=i by omega] at this
          rw [this,List.getElem?_map,List.getElem?_append_right (by omega),List.getElem?_eq_getElem (by omega),List.getD_eq_getElem?_getD,List.getElem?_eq_getElem (by omega)]
          rfl
      · rw [List.getElem?_eq_none (by simp [hM];omega),List.getElem?_eq_none (by simp [hM];omega)]
def In32 (xs:List Int):Prop:=∀ x ∈ xs,-2147483648≤x∧x<2147483648
def RunesPost (xs:List Int) (w:World) (e:Ending) (w':World):Prop:=∃ v,e=.returned v∧OwnR w' w.heap.size v xs∧Fresh w w'
theorem OwnR.base {w:World} {B B':Nat} {v:Value} {xs:List Int} (h:OwnR w B v xs) (hb:B'≤B):OwnR w B' v xs:=by
  obtain ⟨h1,h2 | ⟨g,cap,cur,hv,hb2,r⟩⟩:=h
  · exact ⟨h1,.inl h2⟩
  · exact ⟨h1,.inr ⟨g,cap,cur,hv,by omega,r⟩⟩
theorem split_yes {r a b:Int} (h:splitI r=some (a,b)) (hr:-2147483648≤r∧r<2147483648) (w:World):Calls Tryz.prog 171 #[.int .i32 r] w fun e w'=>e=.returned (.tuple #[.int .i32 a,.int .i32 b,.bool true])∧Fresh w w' :=
  (split_any r w hr).mono fun e w' ⟨he,hf⟩=>⟨by unfold OptP at he;rw [h] at he;exact he,hf⟩
theorem split_not {r:Int} (h:splitI r=none) (hr:-2147483648≤r∧r<2147483648) (w:World):Calls Tryz.prog 171 #[.int .i32 r] w fun e w'=>e=.returned (.tuple #[.int .i32 0,.int .i32 0,.bool false])∧Fresh w w' :=
  (split_any r w hr).mono fun e w' ⟨he,hf⟩=>⟨by unfold OptP at he;rw [h] at he;exact he,hf⟩
set_option maxHeartbeats 1600000 in
theorem csplit_any:∀ (k:Nat) (r:Int) (w:World),r.toNat≤k→-2147483648≤r∧r<2147483648→Calls Tryz.prog 121 #[.int .i32 r] w (RunesPost (splits r) w)
  | k,r,w,hk,hr=>by
    obtain ⟨i0,hi0,hz0,hz1,hz2⟩:=info_parts info32
    cases h:splitI r with
    | none =>
      have HS:=Lib.hid (split_not h hr)
      have HN:=Lib.hid (splits_none h)
      clear h
      go_enter Tryz.func121,Tryz.ntmps121
      go_wp2_with fail
      refine (HS.out _).mono ?_
      rintro e w1 ⟨rfl,hf⟩
      go_wp2
      go_ret
      rw [HN.out]
      refine ⟨_,rfl,?_,hf.alloc _⟩
      have hsz:=hf.size
      refine ⟨rfl,.inr ⟨_,1,#[.int .i32 r],rfl,by simpa using hsz,heap_alloc_new _ _,by simp,by unfold maxLen;omega,rfl,rfl⟩⟩
    | some p =>
      obtain ⟨a,b⟩:=p
      have hf:=splitI_facts h
      have HS:=Lib.hid (split_yes h hr)
      have HN:=Lib.hid (splits_some h)
      match k,hk with
      | 0,hk=>exact absurd hk (by omega)
      | k+1,hk =>
        have HIH:=Lib.hid (fun w=>csplit_any k a w (by omega) (by omega))
        clear h hf
        go_enter Tryz.func121,Tryz.ntmps121
        go_wp2_with fail
        refine (HS.out _).mono ?_
        rintro e w1 ⟨rfl,hf⟩
        go_wp2_with fail
        refine (HIH.out _).mono ?_
        rintro e w2 ⟨v,rfl,ho,hf2⟩
        have hown1:=ho.base hf.size
        have hf1:=hf.trans hf2
        have hlen:=(splits_len a).2
        unfold OwnR at hown1
        clear ho hf hf2
        go_wp2_with (at_builtin;refine wpList_append_own _ rfl _ _ 50 rfl w.heap.size 21 i0 (.int .i32 0) 1 4 Tryz.underlying50 hi0 hz0 hz1 hz2 rfl (by decide) _ _ _ rfl (hown1.alloc _) ⟨w2.heap.size,0,none⟩ 1 1 [.int .i32 b] rfl rfl ?c1 ?c2 ?c3 ?c4 ?c5 ?_)
        case c1=>exact cell_new1 _ _ _
        case c2=>intro u hu;simp at hu;subst hu;rfl
        case c3=>unfold maxLen;omega
        case c4=>omega
        case c5=>have:=hf1.size;simp;omega
        intro v' w' hown' hgrow _
        have hn':=OwnR.push hown'
        have hf':=OwnR.fresh hf1 hown1 hgrow
        clear hown' hgrow hown1
        go_wp2
        go_ret
        rw [HN.out]
        exact ⟨_,rfl,hn',hf'⟩
theorem csplit (r:Int) (w:World) (hr:-2147483648≤r∧r<2147483648):Calls Tryz.prog 121 #[.int .i32 r] w (RunesPost (splits r) w):=csplit_any _ r w (Nat.le_refl _) hr
end Go.Proofs.YtpmlggjhfiljmaaGreatDoor
