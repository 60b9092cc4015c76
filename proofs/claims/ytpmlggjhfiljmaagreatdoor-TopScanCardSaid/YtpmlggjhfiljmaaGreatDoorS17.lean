/- Part 17 of what the law rests on. -/
import Derived.Lib.OthersKept
import Derived.Laws.RangeAny
import Derived.Test.YtpmlggjhfiljmaaGreatDoorS16
set_option linter.all false
namespace Go.Proofs.YtpmlggjhfiljmaaGreatDoor
open Go.RowKit
theorem or16_dec:((List.range 16).all fun a=>(List.range 16).all fun b=>decide (bits .or .i64 ((a:Int) * 16) (b:Int)=(a:Int) * 16+b))=true:=by decide +kernel
theorem or16 {a b:Int} (ha:0≤a∧a<16) (hb:0≤b∧b<16):bits .or .i64 (a * 16) b=a * 16+b:=by
  have h1:=List.all_eq_true.1 or16_dec a.toNat (List.mem_range.2 (by omega))
  have h2:=List.all_eq_true.1 h1 b.toNat (List.mem_range.2 (by omega))
  simp only [decide_eq_true_eq] at h2
  rwa [Int.toNat_of_nonneg ha.1,Int.toNat_of_nonneg hb.1] at h2
theorem digitI_range (c:Int):-1≤digitI c∧digitI c<16:=by unfold digitI;split <;> (try split) <;> omega
theorem B_get (s:ByteArray) (k:Nat) (h:k<s.size):(s[k]'h).toNat=B s k:=B_at s k h
theorem RdAt.bad {w:World} {gr:Nat} {enc:Int} {raw:ByteArray} {o:List Int} {ok:Bool} (h:RdAt w gr enc raw o ok) (b:Bool):RdAt (w.setCell ⟨gr,3,none⟩ (.bool b)) gr enc raw o b∧Mut (fun k=>k=gr) w (w.setCell ⟨gr,3,none⟩ (.bool b)):=by
  obtain ⟨v,h1,h2⟩:=h
  have hm:=(Mut.refl (fun k=>k=gr) w).setCell (p:=⟨gr,3,none⟩) (.inl rfl) (.bool b)
  exact ⟨⟨v,h1.set (i:=3) (u:=.bool b),h2.mut hm fun k hk q=>by omega⟩,hm⟩
theorem RdAt.mut {S:Nat→Prop} {w w':World} {gr:Nat} {enc:Int} {raw:ByteArray} {o:List Int} {ok:Bool} (h:RdAt w gr enc raw o ok) (hf:Mut S w w') (hn:∀ k,gr≤k→¬ S k):RdAt w' gr enc raw o ok:=by
  obtain ⟨v,h1,h2⟩:=h
  exact ⟨v,h1.mut hf (hn gr (Nat.le_refl _)),h2.mut hf fun k hk=>hn k (by omega)⟩
theorem RdAt.fresh {w w':World} {gr:Nat} {enc:Int} {raw:ByteArray} {o:List Int} {ok:Bool} (h:RdAt w gr enc raw o ok) (hf:Fresh w w'):RdAt w' gr enc raw o ok:=h.mut (hf.mut fun _=>False) (fun _ _ q=>q)
theorem RdAt.raw {w w':World} {gr:Nat} {enc:Int} {raw:ByteArray} {ok:Bool} (h:RdAt w gr enc raw [] ok) (hf:Fresh w w') (raw':ByteArray):RdAt (w'.setCell ⟨gr,1,none⟩ (.string raw')) gr enc raw' [] ok∧Mut (fun k=>k=gr) w (w'.setCell ⟨gr,1,none⟩ (.string raw')):=by
  obtain ⟨v,h1,h2⟩:=h
  have hm:=(hf.mut (fun k=>k=gr)).setCell (p:=⟨gr,1,none⟩) (.inl rfl) (.string raw')
  exact ⟨⟨v,(h1.keep hf).set (i:=1) (u:=.string raw'),h2.mut hm fun k hk q=>by omega⟩,hm⟩
set_option maxHeartbeats 3200000 in
set_option maxRecDepth 100000 in
theorem rescape_any (gr:Nat) (enc:Int) (raw:ByteArray) (o:List Int) (ok:Bool) (s:ByteArray) (w:World) (h0:0≤enc) (h8:enc≤8) (ho:o.length≤10000) (h32:In32 o) (hs:raw.size≤9000000) (h:RdAt w gr enc raw o ok) (hss:s.size≤1000000) :
    Calls Tryz.prog 114 #[.pointer (some ⟨gr,0,none⟩),.string s] w
      (if escOK s 0 then RdPost gr w enc (raw++flB enc o++byteS (digitI (B s 0) * 16+digitI (B s 1))) [] (ok && flK enc o) else RdPost gr w enc raw o false):=by
  have HR:=Lib.hid h
  have HFL:=Lib.hid (rflush_any gr enc raw o ok w h0 h8 ho h32 (by omega) h)
  obtain ⟨v,hblk,_⟩:=h
  have c3:w.cell? ⟨gr,3,none⟩=some (.bool ok):=by rw [hblk.cell];rfl
  have f3:w.frozen? ⟨gr,3,none⟩=false:=hblk.frozen 3
  have HBAD:=Lib.hid (HR.out.bad false)
  clear hblk
  by_cases hl:s.size<2
  · rw [if_neg (by unfold escOK;omega)]
    go_enter Tryz.func114,Tryz.ntmps114
    go_wp2
    go_end0
    exact ⟨rfl,HBAD.out.1,HBAD.out.2⟩
  have hl2:¬ ((s.size:Int)<2):=by omega
  have i0:(0:Int)<(s.size:Int):=by omega
  have i1:(1:Int)<(s.size:Int):=by omega
  have g0:=B_get s 0 (by omega)
  have g1:=B_get s 1 (by omega)
  have r0:=B_range s 0
  have r1:=B_range s 1
  obtain ⟨b0,hb0⟩:∃ b0,B s 0=b0:=⟨_,rfl⟩
  obtain ⟨b1,hb1⟩:∃ b1,B s 1=b1:=⟨_,rfl⟩
  rw [hb0] at g0 r0
  rw [hb1] at g1 r1
  rw [hb0,hb1]
  have HB0:=Lib.hid hb0
  have HB1:=Lib.hid hb1
  have HD0:=Lib.hid (fun W=>digit_any b0 r0.1 r0.2 W)
  have HD1:=Lib.hid (fun W=>digit_any b1 r1.1 r1.2 W)
  have q0:=digitI_range b0
  have q1:=digitI_range b1
  have hesc:escOK s 0 ↔ 0≤digitI b0∧0≤digitI b1:=by
    unfold escOK
    rw [HB0.out,HB1.out]
    omega
  clear hb0 hb1
  obtain ⟨d0,hd0⟩:∃ d0,digitI b0=d0:=⟨_,rfl⟩
  obtain ⟨d1,hd1⟩:∃ d1,digitI b1=d1:=⟨_,rfl⟩
  rw [hd0] at HD0 q0
  rw [hd1] at HD1 q1
  rw [hd0,hd1] at hesc ⊢
  clear hd0 hd1
  obtain ⟨q00,q01⟩:=q0
  obtain ⟨q10,q11⟩:=q1
  by_cases hn0:d0<0
  · rw [if_neg (by rw [hesc];omega)]
    clear hesc
    go_enter Tryz.func114,Tryz.ntmps114
    go_wp2_with fail
    refine (HD0.out _).mono ?_
    rintro e w1 ⟨rfl,rfl⟩
    go_wp2
    go_end0
    exact ⟨rfl,HBAD.out.1,HBAD.out.2⟩
  by_cases hn1:d1<0
  · rw [if_neg (by rw [hesc];omega)]
    clear hesc
    go_enter Tryz.func114,Tryz.ntmps114
    go_wp2_with fail
    refine (HD0.out _).mono ?_
    rintro e w1 ⟨rfl,rfl⟩
    go_wp2_with fail
    refine (HD1.out _).mono ?_
    rintro e w1 ⟨rfl,rfl⟩
    go_wp2
    go_end0
    exact ⟨rfl,HBAD.out.1,HBAD.out.2⟩
  rw [if_pos (by rw [hesc];omega)]
  have hor:bits .or .i64 (d0 * 16) d1=d0 * 16+d1:=or16 (by omega) (by omega)
  clear hesc
  have hfs:=encL_size enc (opn enc o)
  have hfo:=opn_len enc o
  obtain ⟨raw1,hr1⟩:∃ raw1,raw++flB enc o=raw1:=⟨_,rfl⟩
  have hr1s:raw1.size≤10000000:=by
    rw [← hr1,ByteArray.size_append]
    have:(flB enc o).size=(encL enc (opn enc o)).size:=rfl
    omega
  rw [hr1] at HFL ⊢
  clear hr1 hfs hfo
  have HCV:=fun (W:World) (b:Nat) (h:W.cell? ⟨b,0,none⟩=some (.int .u8 (d0 * 16+d1)))=>run_convert_bytes_arg (P:=Tryz.prog) W 131 5 Tryz.underlying131 Tryz.underlying5 b 0 1 1 [d0 * 16+d1] rfl (by intro i hi;have:i=0:=(by omega);subst this;simpa using h) 9 Tryz.underlying9
  have hbs:(byteS (d0 * 16+d1)).size=1:=by unfold byteS;rw [strOfNums_size];rfl
  have hbd:strOfNums [d0 * 16+d1]=byteS (d0 * 16+d1):=rfl
  rw [hbd] at HCV
  generalize byteS (d0 * 16+d1)=bs at HCV hbs ⊢
  have hns:¬ 9223372036854775807<raw1.size+bs.size:=by omega
  clear hbs
  have w0:IntKind.i64.wrap (d0 * 16)=d0 * 16:=by rw [IntKind.wrap_i64];omega
  have w1:IntKind.u8.wrap (d0 * 16+d1)=d0 * 16+d1:=by rw [IntKind.wrap_u8];omega
  have j0:0<s.size:=by omega
  have j1:1<s.size:=by omega
  go_enter Tryz.func114,Tryz.ntmps114
  go_wp2_with fail
  refine (HD0.out _).mono ?_
  rintro e w1 ⟨rfl,rfl⟩
  go_wp2_with fail
  refine (HD1.out _).mono ?_
  rintro e w1 ⟨rfl,rfl⟩
  go_wp2_with fail
  refine HFL.out.mono ?_
  rintro e w2 ⟨rfl,hat,hm⟩
  have HAT:=Lib.hid hat
  have HM:=Lib.hid hm
  obtain ⟨v2,hblk,_⟩:=hat
  have m1:w2.cell? ⟨gr,1,none⟩=some (.string raw1):=by rw [hblk.cell];rfl
  have n1:w2.frozen? ⟨gr,1,none⟩=false:=hblk.frozen 1
  have hg2:=hblk.lt
  clear hblk hm
  go_wp2_with fail
  go_region_law (first
      | (go_simp;go_at_call 168;refine (HD0.out _).mono ?_;rintro e w4 ⟨rfl,rfl⟩)
      | (go_simp;go_at_call 168;refine (HD1.out _).mono ?_;rintro e w4 ⟨rfl,rfl⟩))
  all_goals
    have hz:=HAT.out.raw (Fresh.refl _) (raw1++bs)
    have HZ:=Lib.hid (And.intro (hz.1.fresh (((Fresh.refl _).alloc (.cells #[.int .u8 (d0 * 16+d1)] 5)).drew)) (hz.2.andFresh (((Fresh.refl _).alloc (.cells #[.int .u8 (d0 * 16+d1)] 5)).drew)))
    clear hz
    have HMZ:=Lib.hid (HM.out.trans HZ.out.2)
    go_wp2
    go_end0
    exact ⟨rfl,HZ.out.1,HMZ.out⟩
open Go.RowKit
set_option maxRecDepth 100000 in
set_option maxHeartbeats 1000000 in
theorem decode_skip (s:ByteArray) (p:Nat) (h:p<s.size) (ha:128≤(s[p]'h).toNat) :
    128≤(Utf8.decode s p).1∧((Utf8.decode s p).1<55296∨(57344≤(Utf8.decode s p).1∧(Utf8.decode s p).1≤1114111))∧1≤(Utf8.decode s p).2∧p+(Utf8.decode s p).2≤s.size∧∀ j (hj:j<s.size),p≤j→j<p+(Utf8.decode s p).2→128≤(s[j]'hj).toNat:=by
  have hg:∀ k (hk:p+k<s.size),s.get! (p+k)=s[p+k]'hk:=fun k hk=>by simp [ByteArray.get!,getElem!_pos,hk];rfl
  have h0:=hg 0 h
  have hb:∀ k,(s.get! (p+k)).toNat<256:=fun k=>(s.get! (p+k)).toNat_lt
  have q1:=hb 1
  have q2:=hb 2
  have q3:=hb 3
  have ha0:128≤(s.get! (p+0)).toNat:=by rw [h0];exact ha
  have one:∀ j (hj:j<s.size),p≤j→j<p+1→128≤(s[j]'hj).toNat:=fun j hj h1 h2=>by
    have:j=p:=by omega
    subst this;exact ha
  have hre:Utf8.runeError=65533:=rfl
  have hvl:∀ c:Nat,Utf8.valid (c:Int)=true→c<55296∨(57344≤c∧c≤1114111):=fun c hc=>by unfold Utf8.valid at hc;simp at hc;omega
  have ha1:¬ (s.get! (p+0)).toNat<128:=by omega
  simp only [Utf8.decode,if_neg ha1]
  split
  · rename_i hc
    simp only [Bool.and_eq_true,decide_eq_true_eq,beq_iff_eq] at hc
    split
    · refine ⟨by simp only;omega,by simp only;omega,by simp,by simp only;omega,fun j hj h1 h2=>?_⟩
      simp only at h2
      by_cases e:j=p
      · subst e;exact ha
      · have e:j=p+1:=by omega
        subst e
        have:=hg 1 hj
        rw [← this];omega
    · exact ⟨by simp only;omega,by simp only;omega,by simp,by simp only;omega,one⟩
  · split
    · rename_i hc
      simp only [Bool.and_eq_true,decide_eq_true_eq,beq_iff_eq] at hc
      split
      · rename_i hv
        simp only [Bool.and_eq_true,decide_eq_true_eq] at hv
        have hv2:=hvl _ hv.2
        refine ⟨by simp only;omega,by simp only;omega,by simp,by simp only;omega,fun j hj h1 h2=>?_⟩
        simp only at h2
        by_cases e:j=p
        · subst e;exact ha
        · by_cases e1:j=p+1
          · subst e1
            have:=hg 1 hj
            rw [← this];omega
          · have e:j=p+2:=by omega
            subst e
            have:=hg 2 hj
            rw [← this];omega
      · exact ⟨by simp only;omega,by simp only;omega,by simp,by simp only;omega,one⟩
    · split
      · rename_i hc
        simp only [Bool.and_eq_true,decide_eq_true_eq,beq_iff_eq] at hc
        split
        · rename_i hv
          simp only [Bool.and_eq_true,decide_eq_true_eq] at hv
          have hv2:=hvl _ hv.2
          refine ⟨by simp only;omega,by simp only;omega,by simp,by simp only;omega,fun j hj h1 h2=>?_⟩
          simp only at h2
          by_cases e:j=p
          · subst e;exact ha
          · by_cases e1:j=p+1
            · subst e1
              have:=hg 1 hj
              rw [← this];omega
            · by_cases e2:j=p+2
              · subst e2
                have:=hg 2 hj
                rw [← this];omega
              · have e:j=p+3:=by omega
                subst e
                have:=hg 3 hj
                rw [← this];omega
        · exact ⟨by simp only;omega,by simp only;omega,by simp,by simp only;omega,one⟩
      · exact ⟨by simp only;omega,by simp only;omega,by simp,by simp only;omega,one⟩
def zsS:ByteArray:=⟨#[0,47]⟩
theorem enc_facts {r:Int} (h0:128≤r) (h1:r<55296∨(57344≤r∧r≤1114111)) :
    ((Utf8.encode r).size=2∨(Utf8.encode r).size=3∨(Utf8.encode r).size=4)∧∀ j (hj:j<(Utf8.encode r).size),1≤j→128≤((Utf8.encode r)[j]'hj).toNat:=by
  have hv:Utf8.valid r=true:=by unfold Utf8.valid;simp;omega
  have u:∀ n,128≤n→n<256→128≤(UInt8.ofNat n).toNat:=fun n h h'=>by rw [UInt8.toNat_ofNat'];omega
  have key:∀ e,Utf8.encode r=e→(e.size=2∨e.size=3∨e.size=4)∧∀ j (hj:j<e.size),1≤j→128≤(e[j]'hj).toNat:=by
    intro e he
    unfold Utf8.encode at he
    rw [if_pos hv] at he
    simp only at he
    rw [if_neg (by omega)] at he
    by_cases c2:r.toNat<2048
    · rw [if_pos c2] at he
      subst he
      refine ⟨.inl rfl,fun j hj h=>?_⟩
      have hj:j<2:=hj
      have e:j=1:=by omega
      subst e
      exact u _ (by omega) (by omega)
    rw [if_neg c2] at he
    by_cases c3:r.toNat<65536
    · rw [if_pos c3] at he
      subst he
      refine ⟨.inr (.inl rfl),fun j hj h=>?_⟩
      have hj:j<3:=hj
      have e:j=1∨j=2:=by omega
      rcases e with e | e <;> subst e
      · exact u _ (by omega) (by omega)
      · exact u _ (by omega) (by omega)
    rw [if_neg c3] at he
    subst he
    refine ⟨.inr (.inr rfl),fun j hj h=>?_⟩
    have hj:j<4:=hj
    have e:j=1∨j=2∨j=3:=by omega
    rcases e with e | e | e <;> subst e
    · exact u _ (by omega) (by omega)
    · exact u _ (by omega) (by omega)
    · exact u _ (by omega) (by omega)
  exact key _ rfl
set_option maxHeartbeats 1600000 in
set_option maxRecDepth 100000 in
theorem indexRune_err (w:World):Calls Tryz.prog 156 #[.string zsS,.int .i32 65533] w fun e w'=>e=.returned (.int .i64 (-1))∧Fresh w w':=by
  obtain ⟨S,hS⟩:∃ S,zsS=S:=⟨_,rfl⟩
  have n0:∀ (W:World) (ty:TypeId),(Instr.next (.pointer (some ⟨W.heap.size,0,none⟩)) true ty).run Tryz.prog (W.iter S 0)=.ok (.tuple #[.bool true,.int .i64 0,.int .i32 0]) (W.iter S 1):=fun W ty=>by subst hS;exact run_next_ascii (P:=Tryz.prog) W zsS 0 ty (by decide) (by decide)
  have n1:∀ (W:World) (ty:TypeId),(Instr.next (.pointer (some ⟨W.heap.size,0,none⟩)) true ty).run Tryz.prog (W.iter S 1)=.ok (.tuple #[.bool true,.int .i64 1,.int .i32 47]) (W.iter S 2):=fun W ty=>by subst hS;exact run_next_ascii (P:=Tryz.prog) W zsS 1 ty (by decide) (by decide)
  have n2:∀ (W:World) (ty:TypeId),(Instr.next (.pointer (some ⟨W.heap.size,0,none⟩)) true ty).run Tryz.prog (W.iter S 2)=.ok (.tuple #[.bool false]) (W.iter S 2):=fun W ty=>by subst hS;exact run_next_end (P:=Tryz.prog) W zsS 2 ty (by decide)
  rw [hS]
  clear hS
  go_enter Tryz.func156,Tryz.ntmps156
  go_wp2
  refine wp_loop_rounds 3 ?_
  rw [rounds_succ]
  go_wp2
  rw [rounds_succ]
  go_wp2
  rw [rounds_succ]
  go_wp2
  go_ret
  exact ⟨rfl,(Fresh.refl w).alloc _⟩
set_option maxHeartbeats 1600000 in
set_option maxRecDepth 100000 in
theorem indexRune_hi (r:Int) (h0:128≤r) (h1:r<55296∨(57344≤r∧r≤1114111)) (hne:r ≠ 65533) (w:World):Calls Tryz.prog 156 #[.string zsS,.int .i32 r] w fun e w'=>e=.returned (.int .i64 (-1))∧Fresh w w':=by
  obtain ⟨S,hS⟩:∃ S,zsS=S:=⟨_,rfl⟩
  have hSs:S.size=2:=by rw [← hS];rfl
  have hb:(r == 65533)=false:=by simp [hne]
  have k1:¬ r<128:=by omega
  have k2:(0:Int)≤r:=by omega
  have hvr:Lib.validRune r=true:=by unfold Lib.validRune;simp;omega
  have henc:=enc_facts h0 h1
  obtain ⟨E,hE⟩:∃ E,Utf8.encode r=E:=⟨_,rfl⟩
  rw [hE] at henc
  obtain ⟨hsz,hby⟩:=henc
  have HBY:=Lib.hid hby
  have hS1:∀ h:1<S.size,S[1]=47:=fun h=>by subst hS;rfl
  have hV:=Tryz.utf8_ValidRune r w
  rw [hvr] at hV
  have HV:=Lib.hid hV
  rw [hS]
  clear hS hby hV hvr
  go_enter Tryz.func156,Tryz.ntmps156
  go_wp2_with fail
  refine HV.out.mono ?_
  rintro e w1 ⟨rfl,rfl⟩
  rcases hsz with h2 | h3 | h4
  · have hl1:1<E.size:=by omega
    have hl2:1<S.size:=by omega
    have hE1:128≤(E[1]'hl1).toNat:=HBY.out 1 hl1 (by omega)
    have hS1':(S[1]'hl2).toNat=47:=by rw [hS1 hl2];rfl
    have hi1:(1:Int)<(E.size:Int):=by omega
    have hi2:(1:Int)<(S.size:Int):=by omega
    have hi0:(0:Int)≤1:=by omega
    obtain ⟨c,hc⟩:∃ c,(E[1]'hl1).toNat=c:=⟨_,rfl⟩
    rw [hc] at hE1
    have hne2:((47:Int) != (c:Int))=true:=by rw [bne_iff_ne];omega
    have hwr:wrap64 ((E.size:Int) - 1)=1:=by rw [h2];unfold wrap64;omega
    have HIB:=Lib.hid (fun (c:Int) (W:World)=>Tryz.strings_IndexByte (S.extract 2 S.size) c W)
    have hib:∀ c:Int,Lib.indexByte (S.extract 2 S.size).data.toList c.toNat.toUInt8=-1:=by
      intro c
      have:(S.extract 2 S.size).data.toList=[]:=by
        apply List.eq_nil_of_length_eq_zero
        have:=ByteArray.size_extract (a:=S) (b:=2) (e:=S.size)
        rw [Array.length_toList]
        show (S.extract 2 S.size).size=0
        omega
      rw [this]
      rfl
    simp only [hib] at HIB
    have hw2:IntKind.i64.wrap 2=2:=rfl
    have hw3:IntKind.i64.wrap (1+1)=2:=rfl
    have hi3:(2:Int)≤(S.size:Int):=by omega
    have hi4:¬ (S.size:Int)<2:=by omega
    have hi5:(2:Nat)≤S.size:=by omega
    clear hib h2 hS1 hSs
    go_wp2
    go_step3
    go_wp2
    rw [hwr]
    refine wp_loop_rounds 1 ?_
    rw [rounds_succ]
    go_wp2_with fail
    go_step3
    go_wp2_with fail
    go_quiet (fail)
    all_goals
      go_wp2_with fail
      go_quiet ((exact (HIB.out _ _).mono fun _ _ ⟨he,hw⟩=>⟨he,_,hw⟩))
      all_goals
        go_wp2
        rw [Exit.noGoto_ret]
        go_wp2
        rw [Exit.noGoto_ret]
        go_ret
        exact ⟨rfl,by repeat (first | exact Fresh.refl _ | refine Fresh.drewN ?_ _ | refine Fresh.drew ?_)⟩
  · have hwr:wrap64 ((E.size:Int) - 1)=2:=by rw [h3];unfold wrap64;omega
    clear h3 hS1
    go_wp2
    go_step3
    go_wp2
    rw [hwr]
    refine wp_loop_rounds 1 ?_
    rw [rounds_succ]
    go_wp2
    rw [Exit.noGoto_ret]
    go_ret
    exact ⟨rfl,Fresh.refl _⟩
  · have hwr:wrap64 ((E.size:Int) - 1)=3:=by rw [h4];unfold wrap64;omega
    clear h4 hS1
    go_wp2
    go_step3
    go_wp2
    rw [hwr]
    refine wp_loop_rounds 1 ?_
    rw [rounds_succ]
    go_wp2
    rw [Exit.noGoto_ret]
    go_ret
    exact ⟨rfl,Fresh.refl _⟩
def hasZs (s:ByteArray) (p:Nat):Prop:=∃ j,∃ hj:j<s.size,j<p∧((s[j]'hj).toNat=0∨(s[j]'hj).toNat=47)
def ZsPost (s:ByteArray) (w:World) (e:Ending) (w':World):Prop:=∃ k:Int,e=.returned (.int .i64 k)∧(0≤k ↔ hasZs s s.size)∧Fresh w w'
structure ZsAt (s:ByteArray) (w wr:World) (p:Nat):Prop where
  le:p≤s.size
  no:¬ hasZs s p
  it:wr.heap[w.heap.size]?=some (.stringIter s p)
  fr:Fresh w wr
def ZsRel (s:ByteArray) (w:World) (wr:World):Prop:=∃ p,ZsAt s w wr p
theorem ZsAt.step {s:ByteArray} {w wr w':World} {p d:Nat} (h:ZsAt s w wr p) (hd:p+d≤s.size) (hn:∀ j (hj:j<s.size),p≤j→j<p+d→¬ ((s[j]'hj).toNat=0∨(s[j]'hj).toNat=47)) (hw:Fresh (wr.iterAt w.heap.size s (p+d)) w'):ZsAt s w w' (p+d):=by
  have hlt:w.heap.size<wr.heap.size:=by
    rcases Nat.lt_or_ge w.heap.size wr.heap.size with q | q
    · exact q
    · have:=h.it;rw [Array.getElem?_eq_none q] at this;cases this
  refine ⟨hd,?_,?_,?_⟩
  · rintro ⟨j,hj,h1,h2⟩
    by_cases q:j<p
    · exact h.no ⟨j,hj,q,h2⟩
    · exact hn j hj (by omega) h1 h2
  · have:=hw.block w.heap.size (by rw [Lib.iterAt_size];exact hlt)
    rw [this]
    exact Lib.iterAt_heap _ _ _ _ _ h.it
  · exact Fresh.trans (Lib.below_iterAt h.fr (Nat.le_refl _) s (p+d)) hw
theorem zs_index (r:Int) (h0:0≤r) (h1:r<128):(0≤Lib.indexByte zsS.data.toList r.toNat.toUInt8) ↔ (r=0∨r=47):=by
  obtain ⟨n,rfl⟩:∃ n:Nat,r=n:=⟨r.toNat,by omega⟩
  have:n<128:=by omega
  rw [Int.toNat_natCast]
  have key:∀ n:Fin 128,(0≤Lib.indexByte zsS.data.toList n.val.toUInt8) ↔ (n.val=0∨n.val=47):=by decide
  rw [key ⟨n,this⟩]
  simp only
  omega
theorem set_any (n:Int) (w:World):Calls Tryz.prog 157 #[.int .i64 n] w fun e w'=>e=.returned (.bool (decide (8<n)))∧w'=w:=by
  go_enter Tryz.func157,Tryz.ntmps157
  go_wp2
  go_ret
  exact ⟨rfl,rfl⟩
def RunePost (b:Prop) (W:World) (e:Ending) (w':World):Prop:=∃ k:Int,e=.returned (.int .i64 k)∧(0≤k ↔ b)∧Fresh W w'
theorem rune_any (q:Int) (h0:0≤q) (h1:q<55296∨(57344≤q∧q≤1114111)) (W:World):Calls Tryz.prog 156 #[.string zsS,.int .i32 q] W (RunePost (q=0∨q=47) W):=by
  by_cases a:q<128
  · exact (Tryz.strings_IndexRune_ascii zsS q W h0 a).mono fun e w' ⟨he,hw⟩=>⟨_,he,zs_index q h0 a,by rw [hw];exact Fresh.refl _⟩
  · by_cases b:q=65533
    · subst b
      exact (indexRune_err W).mono fun e w' ⟨he,hw⟩=>⟨_,he,by omega,hw⟩
    · exact (indexRune_hi q (by omega) h1 b W).mono fun e w' ⟨he,hw⟩=>⟨_,he,by omega,hw⟩
theorem decode_low (s:ByteArray) (p:Nat) (h:p<s.size) (ha:(s[p]'h).toNat<128):Utf8.decode s p=((s[p]'h).toNat,1):=by
  have hg:s.get! p=s[p]'h:=by simp [ByteArray.get!,getElem!_pos,h];rfl
  have ha2:(s.get! (p+0)).toNat<128:=by rw [Nat.add_zero,hg];exact ha
  simp only [Utf8.decode,if_pos ha2]
  rw [Nat.add_zero,hg]
theorem zs_char (s:ByteArray) (p:Nat) (h:p<s.size):∃ q d:Nat,Utf8.decode s p=(q,d)∧(q<55296∨(57344≤q∧q≤1114111))∧1≤d∧p+d≤s.size∧((q=0∨q=47)→(s[p]'h).toNat=0∨(s[p]'h).toNat=47)∧(¬ (q=0∨q=47)→∀ j (hj:j<s.size),p≤j→j<p+d→¬ ((s[j]'hj).toNat=0∨(s[j]'hj).toNat=47)):=by
  by_cases a:(s[p]'h).toNat<128
  · refine ⟨_,_,decode_low s p h a,by omega,Nat.le_refl _,h,fun x=>x,fun x j hj h1 h2=>?_⟩
    have:j=p:=by omega
    subst this
    exact x
  · obtain ⟨c1,c2,c3,c4,c5⟩:=decode_skip s p h (by omega)
    refine ⟨(Utf8.decode s p).1,(Utf8.decode s p).2,rfl,c2,c3,c4,fun x=>absurd x (by omega),fun x j hj h1 h2=>?_⟩
    have:=c5 j hj h1 h2
    omega
set_option maxHeartbeats 1600000 in
set_option maxRecDepth 100000 in
theorem indexAny_short (s:ByteArray) (hs:s.size≤8) (w:World):Calls Tryz.prog 107 #[.string s,.string zsS] w (ZsPost s w):=by
  have n1:zsS.size=2:=rfl
  go_enter Tryz.func107,Tryz.ntmps107
  have he:zsS.toList.isEmpty=false:=by decide +kernel
  have HS:Hid (∀ W,Calls Tryz.prog 157 #[.int .i64 s.size] W fun e w'=>e=.returned (.bool false)∧w'=W):=Lib.hid (fun W=>by have:=set_any s.size W;rw [show decide ((8:Int)<s.size)=false by simp;omega] at this;exact this)
  go_wp2_with fail
  refine (HS.out _).mono ?_
  rintro e w1 ⟨rfl,rfl⟩
  go_wp2_with fail
  have HI:=Lib.hid hs
  clear hs
  go_loopw [] (fun wr=>ZsRel s w1 wr) (fun wr=>s.size - wr.iterPos w1.heap.size)
  case atStart=>exact ⟨0,Nat.zero_le _,(fun ⟨_,_,h,_⟩=>absurd h (Nat.not_lt_zero _)),World.iter_heap _ _ _,(Fresh.refl _).alloc _⟩
  case round =>
    obtain ⟨p,hat⟩:=hrel
    have hip:wr.iterPos w1.heap.size=p:=by simp [World.iterPos,hat.it]
    by_cases hp:p<s.size
    · obtain ⟨q,d,hqd,hv,hd1,hd2,hy,hn⟩:=zs_char s p hp
      have hnx:∀ ty,(Instr.next (.pointer (some ⟨w1.heap.size,0,none⟩)) true ty).run Tryz.prog wr=.ok (.tuple #[.bool true,.int .i64 p,.int .i32 q]) (wr.iterAt w1.heap.size s (p+d)):=fun ty=>by
        have:=Lib.run_next_any_at (P:=Tryz.prog) wr _ s p ty hat.it hp
        rw [hqd] at this;exact this
      have HQ:=Lib.hid (fun W=>rune_any (q:Int) (by omega) (by omega) W)
      have HAT:=Lib.hid hat
      have HD:=Lib.hid hd1
      have HD2:=Lib.hid hd2
      have HV:=Lib.hid hy
      have HN:=Lib.hid hn
      clear hat hv hy hn hqd hd1 hd2
      go_wp2_with fail
      refine (HQ.out _).mono ?_
      rintro e w2 ⟨k,rfl,hk,hfr⟩
      by_cases hb:(q=0∨q=47)
      · have hk0:0≤k:=hk.2 (by omega)
        have HB:=Lib.hid (HV.out hb)
        clear hk hb
        go_wp2
        go_ret
        exact ⟨p,rfl,⟨fun _=>⟨p,hp,hp,HB.out⟩,fun _=>by omega⟩,Fresh.trans (Lib.below_iterAt HAT.out.fr (Nat.le_refl _) s (p+d)) hfr⟩
      · have hk0:¬ 0≤k:=fun h=>hb (by have:=hk.1 h;omega)
        have HB:=Lib.hid (HN.out hb)
        clear hk hb
        go_wp2
        have nx:=HAT.out.step HD2.out HB.out hfr
        refine ⟨⟨p+d,nx⟩,?_⟩
        rw [hip]
        have:w2.iterPos w1.heap.size=p+d:=by simp [World.iterPos,nx.it]
        rw [this]
        have:=HD.out
        omega
    · have hnx:∀ ty,(Instr.next (.pointer (some ⟨w1.heap.size,0,none⟩)) true ty).run Tryz.prog wr=.ok (.tuple #[.bool false]) wr:=fun ty=>Lib.run_next_end_at wr _ s p ty hat.it hp
      have HAT:=Lib.hid hat
      clear hat
      go_wp2
      go_ret
      have:=HAT.out
      exact ⟨-1,rfl,⟨fun h=>by omega,fun h=>absurd (by rw [show p=s.size from by have:=this.le;omega];exact h) this.no⟩,this.fr⟩
open Go.RowKit
theorem zs_list:∀ l:List UInt8,(0≤Lib.indexAny l zsS.data.toList) ↔ ∃ b ∈ l,b.toNat=0∨b.toNat=47
  | []=>by simp [Lib.indexAny]
  | b :: l=>by
    have ih:=zs_list l
    have hc:(zsS.data.toList.contains b=true) ↔ (b.toNat=0∨b.toNat=47):=by
      show (([0,47]:List UInt8).contains b=true) ↔ _
      have e0:(b=0) ↔ b.toNat=0:=⟨fun h=>by rw [h];rfl,fun h=>UInt8.toNat_inj.1 (by rw [h];rfl)⟩
      have e1:(b=47) ↔ b.toNat=47:=⟨fun h=>by rw [h];rfl,fun h=>UInt8.toNat_inj.1 (by rw [h];rfl)⟩
      simp [e0,e1]
    have hge:=Lib.indexAny_ge zsS.data.toList l
    unfold Lib.indexAny
    by_cases h:zsS.data.toList.contains b=true
    · rw [if_pos h]
      exact ⟨fun _=>⟨b,List.mem_cons_self,hc.1 h⟩,fun _=>Int.le_refl _⟩
    · rw [if_neg h]
      by_cases g:(Lib.indexAny l zsS.data.toList == -1)=true
      · rw [if_pos g]
        have:Lib.indexAny l zsS.data.toList=-1:=by simpa using g
        rw [this] at ih
        constructor
        · intro q;omega
        · rintro ⟨c,hm,hz⟩
          rcases List.mem_cons.1 hm with e | e
          · subst e;exact absurd (hc.2 hz) h
          · exact absurd (ih.2 ⟨c,e,hz⟩) (by omega)
      · rw [if_neg g]
        have:¬ Lib.indexAny l zsS.data.toList=-1:=by simpa using g
        constructor
        · intro q
          obtain ⟨c,hm,hz⟩:=ih.1 (by omega)
          exact ⟨c,List.mem_cons_of_mem _ hm,hz⟩
        · intro _;omega
theorem zs_has (s:ByteArray):(∃ b ∈ s.data.toList,b.toNat=0∨b.toNat=47) ↔ hasZs s s.size:=by
  constructor
  · rintro ⟨b,hm,hz⟩
    obtain ⟨j,hj,e⟩:=List.mem_iff_getElem.1 hm
    have hj2:j<s.size:=by rw [Array.length_toList] at hj;exact hj
    refine ⟨j,hj2,hj2,?_⟩
    have:s[j]'hj2=b:=by rw [← e];rfl
    rw [this];exact hz
  · rintro ⟨j,hj,_,hz⟩
    refine ⟨s[j]'hj,?_,hz⟩
    show s.data[j]'hj ∈ s.data.toList
    rw [Array.mem_toList_iff]
    exact Array.getElem_mem _
theorem zero256:∀ w,(zeroValue 231).run Tryz.prog w=.ok (.agg (Array.replicate 256 (.bool false))) w:=fun w=>by kernel_rfl
def BoolPost (p:Prop) (w:World) (e:Ending) (w':World):Prop:=∃ b:Bool,e=.returned (.bool b)∧(b=true ↔ p)∧Fresh w w'
theorem indexAny_any (s:ByteArray) (hs:s.size≤100000) (w:World):Calls Tryz.prog 107 #[.string s,.string zsS] w (ZsPost s w):=by
  by_cases h:s.size≤8
  · exact indexAny_short s h w
  · refine (Tryz.strings_IndexAny_long zero256 s zsS w (by decide) (by omega) (by omega) (by decide) ?_).mono ?_
    · intro j b hb
      have:zsS.data.toList=[0,47]:=rfl
      rw [this] at hb
      match j with
      | 0=>cases hb;decide
      | 1=>cases hb;decide
      | j+2=>cases hb
    · rintro e w' ⟨he,hw⟩
      refine ⟨_,he,(zs_list _).trans (zs_has s),?_⟩
      rw [hw]
      exact ((Fresh.refl _).alloc _).alloc _
set_option maxHeartbeats 800000 in
theorem containsAny_any (s:ByteArray) (hs:s.size≤100000) (w:World):Calls Tryz.prog 49 #[.string s,.string zsS] w (BoolPost (hasZs s s.size) w):=by
  have HI:=Lib.hid (fun W=>indexAny_any s hs W)
  clear hs
  go_enter Tryz.func49,Tryz.ntmps49
  go_wp2_with fail
  refine (HI.out _).mono ?_
  rintro e w1 ⟨k,rfl,hk,hf⟩
  have HK:=Lib.hid hk
  clear hk
  go_wp2
  go_ret
  exact ⟨_,rfl,by simpa using HK.out,hf⟩
theorem bytes_toList (s:ByteArray):s.toList=s.data.toList:=ByteArray.toList_eq s
theorem bytes_of {s:ByteArray} {l:List UInt8} (h:s.toList=l):s=⟨⟨l⟩⟩:=by
  rw [bytes_toList] at h
  rw [← h]
def dotS:ByteArray:=⟨#[46]⟩
def dotsS:ByteArray:=⟨#[46,46]⟩
def GoodN (s:ByteArray):Prop:=1≤s.size∧s.size≤255∧¬ hasZs s s.size∧s ≠ dotS∧s ≠ dotsS
set_option maxHeartbeats 800000 in
theorem good_any (s:ByteArray) (w:World):Calls Tryz.prog 15 #[.string s] w (BoolPost (GoodN s) w):=by
  by_cases h1:1≤s.size
  case neg =>
    have h1':¬ (1:Int)≤s.size:=by omega
    go_enter Tryz.func15,Tryz.ntmps15
    go_wp2
    go_ret
    exact ⟨_,rfl,by simp [GoodN];omega,Fresh.refl _⟩
  case pos =>
    have h1':(1:Int)≤s.size:=by omega
    by_cases h2:s.size≤255
    case neg =>
      have h2':¬ (s.size:Int)≤255:=by omega
      go_enter Tryz.func15,Tryz.ntmps15
      go_wp2
      go_ret
      exact ⟨_,rfl,by simp [GoodN];omega,Fresh.refl _⟩
    case pos =>
      have h2':(s.size:Int)≤255:=by omega
      have HI:=Lib.hid (fun W=>containsAny_any s (by omega) W)
      have H1:=Lib.hid h1
      have H2:=Lib.hid h2
      clear h1 h2
      go_enter Tryz.func15,Tryz.ntmps15
      go_wp2_with fail
      refine (HI.out _).mono ?_
      rintro e w1 ⟨k,rfl,hk,hf⟩
      have HK:=Lib.hid hk
      clear hk
      cases k
      · go_wp2
        · go_ret
          rename_i hd
          exact ⟨_,rfl,⟨fun h=>absurd h (by simp),fun h=>absurd (bytes_of hd) h.2.2.2.1⟩,hf⟩
        · go_ret
          refine ⟨_,rfl,?_,hf⟩
          rename_i hd
          have hd2:s ≠ dotS:=fun h=>hd (by rw [bytes_toList,h];rfl)
          have HK2:¬ hasZs s s.size:=fun h=>absurd (HK.out.2 h) (by simp)
          rw [show (s.toList == [46])=false by simpa using hd]
          constructor
          · intro h
            simp at h
            exact ⟨H1.out,H2.out,HK2,hd2,fun h'=>h (by rw [bytes_toList,h'];rfl)⟩
          · rintro ⟨_,_,_,_,h⟩
            simp
            intro h'
            exact h (bytes_of h')
      · go_wp2
        go_ret
        exact ⟨_,rfl,⟨fun h=>absurd h (by simp),fun h=>absurd (HK.out.1 (by first | rfl | trivial)) h.2.2.1⟩,hf⟩
end Go.Proofs.YtpmlggjhfiljmaaGreatDoor
