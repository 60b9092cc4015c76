/- Part 12 of what the law rests on. -/
import Derived.Test.YtpmlggjhfiljmaaGreatDoorS11
set_option linter.all false
namespace Go.Proofs.YtpmlggjhfiljmaaGreatDoor
open Go.RowKit
set_option maxHeartbeats 400000 in
theorem euro_any (w:World) :
    Calls Tryz.prog 320 #[] w fun e w'=>e=.returned (.tuple #[.slice (some ⟨w.heap.size,0,none⟩) 8 8,.slice (some ⟨w.heap.size+1,0,none⟩) 8 8])∧Fresh w w' ∧
      Blk w' w.heap.size 5 (euB.map (Value.int .u8)).toArray∧Blk w' (w.heap.size+1) 21 (euR.map (Value.int .i32)).toArray:=by
  go_enter Tryz.func320,Tryz.ntmps320
  go_wp2
  go_ret2
  refine ⟨rfl,((Fresh.refl _).alloc _).alloc _,(Blk.new w _ _).keep ((Fresh.refl _).alloc _),?_⟩
  have:=Blk.new (w.alloc (.cells (euB.map (Value.int .u8)).toArray 5)) 21 (euR.map (Value.int .i32)).toArray
  have e:(w.alloc (.cells (euB.map (Value.int .u8)).toArray 5)).heap.size=w.heap.size+1:=by simp
  rw [e] at this
  exact this
def SingleIs (r:Int) (w:World) (e:Ending) (w':World):Prop:=e=.returned (.int .i32 r)∧Fresh w w'
theorem SingleIs.mk {r a:Int} {w w':World} (h:r=a) (hf:Fresh w w'):SingleIs r w (.returned (.int .i32 a)) w':=⟨by rw [h],hf⟩
set_option maxHeartbeats 400000 in
theorem single_low (enc b:Int) (hb:0≤b) (hb2:b<256) (h:b<128∨enc=1∨(enc=2∧b<160)) (w:World) :
    Calls Tryz.prog 249 #[.int .i64 enc,.int .u8 b] w (SingleIs (oneI enc b) w):=by
  have HZ:Hid (oneI enc b=b):=by
    unfold oneI
    by_cases h1:b<128∨enc=1
    · rw [if_pos h1];exact rfl
    · rw [if_neg h1,if_pos (by omega),if_pos (by omega)];exact rfl
  by_cases h1:b<128
  · clear h
    go_enter Tryz.func249,Tryz.ntmps249
    go_wp2_with fail
    refine (upper_any _ _).mono ?_
    rintro e w1 ⟨rfl,rfl⟩
    generalize rowS enc=R
    generalize fromI enc=f
    go_wp2
    go_ret
    exact SingleIs.mk HZ.out (Fresh.refl _)
  · rcases h with h | h | ⟨h,h2⟩
    · exact absurd h h1
    · subst h
      go_enter Tryz.func249,Tryz.ntmps249
      go_wp2_with fail
      refine (upper_any _ _).mono ?_
      rintro e w1 ⟨rfl,rfl⟩
      generalize rowS 1=R
      generalize fromI 1=f
      go_wp2
      go_ret
      exact SingleIs.mk HZ.out (Fresh.refl _)
    · subst h
      go_enter Tryz.func249,Tryz.ntmps249
      go_wp2_with fail
      refine (upper_any _ _).mono ?_
      rintro e w1 ⟨rfl,rfl⟩
      generalize rowS 2=R
      generalize fromI 2=f
      go_wp2
      go_ret
      exact SingleIs.mk HZ.out (Fresh.refl _)
theorem row_ne:(L2S.toList.isEmpty=false∧C4S.toList.isEmpty=false)∧C8S.toList.isEmpty=false:=by decide +kernel
set_option maxHeartbeats 400000 in
theorem single_row (enc b f:Int) (R:ByteArray) (l:List Int) (hR:rowS enc=R) (hf:fromI enc=f) (hl:rowI enc=l) (hne:R.toList.isEmpty=false) (hb:128≤b) (hb2:b<256) (hfb:f≤b) (hf0:128≤f)
    (e1:(enc == 1)=false) (e2:(enc == 2 && decide (b<160))=false) (h2:enc ≠ 2∨160≤b) (w:World) :
    Calls Tryz.prog 249 #[.int .i64 enc,.int .u8 b] w (SingleIs (l.getD (b - f).toNat (-1)) w):=by
  have hd:=row_dec enc
  rw [hR,hl] at hd
  have HD:=Lib.hid hd
  have HR:=Lib.hid hR
  have HF:=Lib.hid hf
  have hn2:¬ R.toList=[]:=by intro h;rw [h] at hne;cases hne
  clear hd hR hf hl e2
  by_cases c2:enc=2
  · subst c2
    have c3:160≤b:=by omega
    clear h2 e1
    go_enter Tryz.func249,Tryz.ntmps249
    go_wp2_with fail
    refine (upper_any _ _).mono ?_
    rintro e w1 ⟨rfl,rfl⟩
    rw [HR.out,HF.out]
    go_wp2_with fail
    refine (at_any R l (b - f) _ HD.out (by omega) (by omega)).mono ?_
    rintro e w2 ⟨rfl,h2⟩
    go_wp2
    go_ret
    exact SingleIs.mk rfl h2
  · have c3:(enc == 2)=false:=by simp [c2]
    clear h2 c2
    go_enter Tryz.func249,Tryz.ntmps249
    go_wp2_with fail
    refine (upper_any _ _).mono ?_
    rintro e w1 ⟨rfl,rfl⟩
    rw [HR.out,HF.out]
    go_wp2_with fail
    refine (at_any R l (b - f) _ HD.out (by omega) (by omega)).mono ?_
    rintro e w2 ⟨rfl,h2⟩
    go_wp2
    go_ret
    exact SingleIs.mk rfl h2
def EuRel (b:Int) (w:World) (i:Value) (wr:World):Prop:=∃ k:Nat,i=.int .i64 k∧k≤8∧euI euB euR b=euI (euB.drop k) (euR.drop k) b∧Fresh w wr
theorem eu_step {k:Nat} (hk:k<8) (b:Int):euI (euB.drop k) (euR.drop k) b=if euB.getD k 0=b then euR.getD k 0 else euI (euB.drop (k+1)) (euR.drop (k+1)) b:=by
  match k,hk with
  | 0,_=>rfl
  | 1,_=>rfl
  | 2,_=>rfl
  | 3,_=>rfl
  | 4,_=>rfl
  | 5,_=>rfl
  | 6,_=>rfl
  | 7,_=>rfl
set_option maxHeartbeats 800000 in
theorem single_three (b:Int) (hb:128≤b) (hb2:b<256) (w:World) :
    Calls Tryz.prog 249 #[.int .i64 3,.int .u8 b] w (SingleIs (oneI 3 b) w):=by
  have HO:Hid (oneI 3 b=euI euB euR b):=by unfold oneI;rw [if_neg (by omega),if_neg (by omega),if_pos rfl];exact rfl
  have HR:Hid (rowS 3=ByteArray.empty):=rfl
  have HF:Hid (fromI 3=0):=rfl
  go_enter Tryz.func249,Tryz.ntmps249
  go_wp2_with fail
  refine (upper_any _ _).mono ?_
  rintro e w1 ⟨rfl,rfl⟩
  rw [HR.out,HF.out]
  go_wp2_with fail
  refine (euro_any _).mono ?_
  rintro e w1 ⟨rfl,h1,hblk1,hblk2⟩
  go_wp2
  go_loopw [47] (fun i wr=>EuRel b w1 i wr) (fun i _=>8 - (intOf i).toNat)
  case atStart=>exact ⟨0,rfl,by omega,rfl,Fresh.refl _⟩
  case round =>
    obtain ⟨k,rfl,hk,heu,hf⟩:=hrel
    have HEU:=Lib.hid heu
    clear heu
    by_cases hlt:k<8
    · have c1:wr.cell? ⟨w.heap.size,k,none⟩=some (.int .u8 (euB.getD k 0)):=by
        rw [(hblk1.keep hf).cell]
        have:k<euB.length:=hlt
        simp [List.getD_eq_getElem?_getD,this]
      have c2:wr.cell? ⟨w.heap.size+1,k,none⟩=some (.int .i32 (euR.getD k 0)):=by
        rw [(hblk2.keep hf).cell]
        have:k<euR.length:=hlt
        simp [List.getD_eq_getElem?_getD,this]
      have HS:=Lib.hid (eu_step hlt b)
      generalize euB.getD k 0=x at c1 HS
      generalize euR.getD k 0=y at c2 HS
      by_cases hx:x=b
      · have hb1:(x == b)=true:=by simp [hx]
        have HX:=Lib.hid hx
        clear hx
        go_wp2
        go_ret
        exact SingleIs.mk (by rw [HO.out,HEU.out,HS.out,if_pos HX.out]) (h1.trans hf)
      · have hb1:(x == b)=false:=by simp [hx]
        have HX:=Lib.hid hx
        clear hx
        go_wp2
        exact ⟨⟨k+1,by rw [Int.natCast_add];rfl,by omega,by rw [HEU.out,HS.out,if_neg HX.out],hf⟩,by simp [intOf];omega⟩
    · have hk8:k=8:=by omega
      subst hk8
      go_wp2
      go_ret
      exact SingleIs.mk (by rw [HO.out,HEU.out];rfl) (h1.trans hf)
set_option maxHeartbeats 400000 in
theorem single_zero (b:Int) (hb:128≤b) (hb2:b<256) (w:World) :
    Calls Tryz.prog 249 #[.int .i64 0,.int .u8 b] w (SingleIs (oneI 0 b) w):=by
  have HO:Hid (oneI 0 b=-1):=by unfold oneI;rw [if_neg (by omega),if_neg (by omega),if_neg (by omega),if_neg (by omega),if_neg (by omega),if_neg (by omega)];exact rfl
  have HR:Hid (rowS 0=ByteArray.empty):=rfl
  have HF:Hid (fromI 0=0):=rfl
  go_enter Tryz.func249,Tryz.ntmps249
  go_wp2_with fail
  refine (upper_any _ _).mono ?_
  rintro e w1 ⟨rfl,rfl⟩
  rw [HR.out,HF.out]
  go_wp2
  go_ret
  exact SingleIs.mk HO.out (Fresh.refl _)
theorem single_any (enc b:Int) (h0:0≤enc) (h5:enc≤5) (hb:0≤b) (hb2:b<256) (w:World) :
    Calls Tryz.prog 249 #[.int .i64 enc,.int .u8 b] w (SingleIs (oneI enc b) w):=by
  by_cases h:b<128∨enc=1∨(enc=2∧b<160)
  · exact single_low enc b hb hb2 h w
  by_cases e0:enc=0
  · subst e0;exact single_zero b (by omega) hb2 w
  by_cases e3:enc=3
  · subst e3;exact single_three b (by omega) hb2 w
  by_cases e2:enc=2
  · subst e2
    have e:oneI 2 b=L2I.getD (b - 160).toNat (-1):=by unfold oneI;rw [if_neg (by omega),if_pos rfl,if_neg (by omega)]
    rw [e]
    exact single_row 2 b 160 L2S L2I rfl rfl rfl row_ne.1.1 (by omega) hb2 (by omega) (by omega) rfl (by simp;omega) (by omega) w
  by_cases e4:enc=4
  · subst e4
    have e:oneI 4 b=C4I.getD (b - 128).toNat (-1):=by unfold oneI;rw [if_neg (by omega),if_neg (by omega),if_neg (by omega),if_pos rfl]
    rw [e]
    exact single_row 4 b 128 C4S C4I rfl rfl rfl row_ne.1.2 (by omega) hb2 (by omega) (by omega) rfl rfl (by omega) w
  · have e5:enc=5:=by omega
    subst e5
    have e:oneI 5 b=C8I.getD (b - 128).toNat (-1):=by unfold oneI;rw [if_neg (by omega),if_neg (by omega),if_neg (by omega),if_neg (by omega),if_pos rfl]
    rw [e]
    exact single_row 5 b 128 C8S C8I rfl rfl rfl row_ne.2 (by omega) hb2 (by omega) (by omega) rfl rfl (by omega) w
open Go.RowKit
def nextC (enc:Int) (s:ByteArray) (i:Int):Int × Int :=
  if 0≤enc∧enc≤8∧0≤i∧i<(s.size:Int) then
    if 7≤enc then (if 0<(nxt s i.toNat).2 then nxt s i.toNat else (-1,1))
    else if enc=6 then kanaP (B s i.toNat) (B s (i.toNat+1)) (decide (i.toNat+1<s.size))
    else (oneI enc (B s i.toNat),1)
  else (0,0)
theorem piece_facts {w w':World} {g:Nat} {a b:Value} (h:Blk w g 119 #[a,b]) (hf:Fresh w w') :
    w'.cell? ⟨g,0,none⟩=some a∧w'.cell? ⟨g,1,none⟩=some b∧w'.frozen? ⟨g,0,none⟩=false∧w'.frozen? ⟨g,1,none⟩=false∧g<w'.heap.size :=
  ⟨(h.keep hf).cell 0,(h.keep hf).cell 1,(h.keep hf).frozen 0,(h.keep hf).frozen 1,(h.keep hf).lt⟩
theorem two_pieces (w:World) (a b c d:Value):Blk ((w.alloc (.cells #[a,b] 119)).alloc (.cells #[c,d] 119)) w.heap.size 119 #[a,b] ∧
    Blk ((w.alloc (.cells #[a,b] 119)).alloc (.cells #[c,d] 119)) (w.heap.size+1) 119 #[c,d]:=by
  refine ⟨(Blk.new w _ _).keep ((Fresh.refl _).alloc _),?_⟩
  have:=Blk.new (w.alloc (.cells #[a,b] 119)) 119 #[c,d]
  have e:(w.alloc (.cells #[a,b] 119)).heap.size=w.heap.size+1:=by simp
  rw [e] at this
  exact this
set_option maxHeartbeats 800000 in
theorem chNext_utf (enc:Int) (s:ByteArray) (p:Nat) (h7:7≤enc) (h8:enc≤8) (hp:p<s.size) (hs:s.size≤140737488351232) (w:World) :
    Calls Tryz.prog 160 #[.int .i64 enc,.string s,.int .i64 p] w (PieceIs (nextC enc s p) w):=by
  have hq:=nxt_pos hp
  have HZ:Hid (nextC enc s p=if 0<(nxt s p).2 then nxt s p else (-1,1)):=by
    unfold nextC;rw [if_pos (by omega),if_pos (by omega)];exact rfl
  have HN:Hid (nextI s (p:Int)=nxt s p):=by unfold nextI;rw [if_pos (by omega)];exact rfl
  have HR:Hid (rightB enc=true):=by unfold rightB;exact decide_eq_true (by omega)
  have hz2:(nxt s p).2 ≠ 0→0<(nxt s p).2:=fun h=>by have:=hq h;omega
  have HW:=two_pieces w (.int .i32 0) (.int .i64 0) (.int .i32 (-1)) (.int .i64 1)
  generalize nxt s p=v at HZ HN hz2 hq
  obtain ⟨r,n⟩:=v
  simp only at HZ HN hz2 hq
  have hn0:0≤n:=by
    by_cases q:n=0
    · omega
    · have:=hz2 q;omega
  have HH:=Lib.hid HW
  clear HW hz2 hq
  have k8:enc=7∨enc=8:=by omega
  clear h7 h8
  rcases k8 with rfl | rfl
  all_goals
    go_enter Tryz.func160,Tryz.ntmps160
    go_wp2_with fail
    refine (right_any _ _).mono ?_
    rintro e w1 ⟨rfl,rfl⟩
    rw [HR.out]
    go_wp2_with fail
    refine (utfNext_any _ _ hs _).mono ?_
    rintro e w2 ⟨rfl,h2⟩
    rw [HN.out]
    obtain ⟨d0,d1,f0,f1,g0⟩:=piece_facts HH.out.1 h2
    obtain ⟨d2,d3,f2,f3,g1⟩:=piece_facts HH.out.2 h2
    by_cases hpos:0<n
    · have HP:=Lib.hid (HZ.out.trans (if_pos hpos))
      go_wp2
      exact bodyPost_ret (v:=.agg #[.int .i32 r,.int .i64 n]) (by simp [results,Tryz.results160,go_sem,d0,d1]) rfl (PieceIs.mk HP.out ((((((((Fresh.refl w).alloc _).alloc _).trans h2).setCell (by simp) _).setCell (by simp) _).setCell (by simp) _).setCell (by simp) _))
    · have HP:=Lib.hid (HZ.out.trans (if_neg hpos))
      go_wp2
      exact bodyPost_ret (v:=.agg #[.int .i32 (-1),.int .i64 1]) (by simp [results,Tryz.results160,go_sem,d0,d1]) rfl (PieceIs.mk HP.out ((((((Fresh.refl w).alloc _).alloc _).trans h2).setCell (by simp) _).setCell (by simp) _))
theorem B_tail (s:ByteArray) (p i:Nat) (hp:p≤s.size):B (s.extract p s.size) i=B s (p+i):=by
  by_cases h:p+i<s.size
  · unfold B
    have:=B_extract s p s.size i (Nat.le_refl _) h
    unfold B at this
    exact this
  · unfold B
    have h1:(s.extract p s.size).data.toList.length=s.size - p:=by
      have:=extract_size s p s.size (Nat.le_refl _)
      exact this
    have h2:s.data.toList.length=s.size:=by simp
    rw [List.getD_eq_getElem?_getD,List.getD_eq_getElem?_getD,List.getElem?_eq_none (by omega),List.getElem?_eq_none (by omega)]
set_option maxHeartbeats 800000 in
theorem chNext_kana (s:ByteArray) (p:Nat) (hp:p<s.size) (hs:s.size≤140737488351232) (w:World) :
    Calls Tryz.prog 160 #[.int .i64 6,.string s,.int .i64 p] w (PieceIs (nextC 6 s p) w):=by
  have hsz:=extract_size s p s.size (Nat.le_refl _)
  have hb0:=B_tail s p 0 (by omega)
  have hb1:=B_tail s p 1 (by omega)
  have HZ:Hid (nextC 6 s p=kanaP (B (s.extract p s.size) 0) (B (s.extract p s.size) 1) (decide (1<(s.extract p s.size).size))):=by
    unfold nextC
    rw [if_pos (by omega),if_neg (by omega),if_pos rfl,hb0,hb1,hsz]
    have:(decide ((p:Int).toNat+1<s.size))=decide (1<s.size - p):=by rw [decide_eq_decide];omega
    rw [this]
    exact rfl
  have HR:Hid (rightB 6=true):=rfl
  have HH:=Lib.hid (two_pieces w (.int .i32 0) (.int .i64 0) (.int .i32 (-1)) (.int .i64 1))
  have hpos:0<(s.extract p s.size).size:=by omega
  have hle:(s.extract p s.size).size≤140737488351232:=by omega
  have HPOS:=Lib.hid hpos
  have HLE:=Lib.hid hle
  clear hb0 hb1 hsz hpos hle
  go_enter Tryz.func160,Tryz.ntmps160
  go_wp2_with fail
  refine (right_any _ _).mono ?_
  rintro e w1 ⟨rfl,rfl⟩
  rw [HR.out]
  go_wp2_with fail
  refine (kana_any _ HPOS.out HLE.out _).mono ?_
  rintro e w2 ⟨rfl,h2⟩
  rw [← HZ.out]
  generalize hv:nextC 6 s p=v
  obtain ⟨r,n⟩:=v
  have HV:=Lib.hid hv
  clear hv
  obtain ⟨d0,d1,f0,f1,g0⟩:=piece_facts HH.out.1 h2
  obtain ⟨d2,d3,f2,f3,g1⟩:=piece_facts HH.out.2 h2
  go_wp2
  exact bodyPost_ret (v:=.agg #[.int .i32 r,.int .i64 n]) (by simp [results,Tryz.results160,go_sem,d0,d1]) rfl (PieceIs.mk HV.out ((((((((Fresh.refl w).alloc _).alloc _).trans h2).setCell (by simp) _).setCell (by simp) _).setCell (by simp) _).setCell (by simp) _))
set_option maxHeartbeats 800000 in
theorem chNext_one (enc:Int) (s:ByteArray) (p:Nat) (h0:0≤enc) (h5:enc≤5) (hp:p<s.size) (hs:s.size≤140737488351232) (w:World) :
    Calls Tryz.prog 160 #[.int .i64 enc,.string s,.int .i64 p] w (PieceIs (nextC enc s p) w):=by
  have hb:=B_range s p
  obtain ⟨b0,b1⟩:=hb
  have hat:=B_at s p hp
  have HZ:Hid (nextC enc s p=(oneI enc (B s p),1)):=by
    unfold nextC;rw [if_pos (by omega),if_neg (by omega),if_neg (by omega)];exact rfl
  have HR:Hid (rightB enc=true):=by unfold rightB;exact decide_eq_true (by omega)
  have HH:=Lib.hid (two_pieces w (.int .i32 0) (.int .i64 0) (.int .i32 (-1)) (.int .i64 1))
  have e6:(enc == 6)=false:=by simp;omega
  have e7:(enc == 7)=false:=by simp;omega
  have e8:(enc == 8)=false:=by simp;omega
  generalize hB:B s p=b at b0 b1 hat HZ
  clear hB
  go_enter Tryz.func160,Tryz.ntmps160
  go_wp2_with fail
  refine (right_any _ _).mono ?_
  rintro e w1 ⟨rfl,rfl⟩
  rw [HR.out]
  go_wp2_with fail
  refine (single_any _ _ h0 h5 b0 b1 _).mono ?_
  rintro e w2 ⟨rfl,h2⟩
  generalize oneI enc b=r at HZ
  obtain ⟨d0,d1,f0,f1,g0⟩:=piece_facts HH.out.1 h2
  obtain ⟨d2,d3,f2,f3,g1⟩:=piece_facts HH.out.2 h2
  go_wp2
  exact bodyPost_ret (v:=.agg #[.int .i32 r,.int .i64 1]) (by simp [results,Tryz.results160,go_sem,d0,d1]) rfl (PieceIs.mk HZ.out (((((((Fresh.refl w).alloc _).alloc _).trans h2).setCell (by simp) _).setCell (by simp) _).setCell (by simp) _))
set_option maxHeartbeats 800000 in
theorem chNext_out (enc:Int) (s:ByteArray) (i:Int) (h:¬ (0≤enc∧enc≤8∧0≤i∧i<(s.size:Int))) (hs:s.size≤140737488351232) (w:World) :
    Calls Tryz.prog 160 #[.int .i64 enc,.string s,.int .i64 i] w (PieceIs (nextC enc s i) w):=by
  have HZ:Hid (nextC enc s i=(0,0)):=by unfold nextC;rw [if_neg h];exact rfl
  by_cases hr:0≤enc∧enc≤8
  · have HR:Hid (rightB enc=true):=by unfold rightB;exact decide_eq_true hr
    by_cases hi:i<0
    · clear h
      go_enter Tryz.func160,Tryz.ntmps160
      go_wp2_with fail
      refine (right_any _ _).mono ?_
      rintro e w1 ⟨rfl,rfl⟩
      rw [HR.out]
      go_wp2
      exact bodyPost_ret (v:=.agg #[.int .i32 0,.int .i64 0]) (by simp [results,Tryz.results160,go_sem]) rfl (PieceIs.mk HZ.out ((Fresh.refl w).alloc _))
    · have hi2:(s.size:Int)≤i:=by omega
      clear h
      go_enter Tryz.func160,Tryz.ntmps160
      go_wp2_with fail
      refine (right_any _ _).mono ?_
      rintro e w1 ⟨rfl,rfl⟩
      rw [HR.out]
      go_wp2
      exact bodyPost_ret (v:=.agg #[.int .i32 0,.int .i64 0]) (by simp [results,Tryz.results160,go_sem]) rfl (PieceIs.mk HZ.out ((Fresh.refl w).alloc _))
  · have HR:Hid (rightB enc=false):=by unfold rightB;exact decide_eq_false hr
    clear h hr
    go_enter Tryz.func160,Tryz.ntmps160
    go_wp2_with fail
    refine (right_any _ _).mono ?_
    rintro e w1 ⟨rfl,rfl⟩
    rw [HR.out]
    go_wp2
    exact bodyPost_ret (v:=.agg #[.int .i32 0,.int .i64 0]) (by simp [results,Tryz.results160,go_sem]) rfl (PieceIs.mk HZ.out ((Fresh.refl w).alloc _))
theorem chNext_any (enc:Int) (s:ByteArray) (i:Int) (hs:s.size≤140737488351232) (w:World) :
    Calls Tryz.prog 160 #[.int .i64 enc,.string s,.int .i64 i] w (PieceIs (nextC enc s i) w):=by
  by_cases h:0≤enc∧enc≤8∧0≤i∧i<(s.size:Int)
  · obtain ⟨p,rfl⟩:=Int.eq_ofNat_of_zero_le h.2.2.1
    by_cases h7:7≤enc
    · exact chNext_utf enc s p h7 h.2.1 (by omega) hs w
    by_cases h6:enc=6
    · subst h6;exact chNext_kana s p (by omega) hs w
    · exact chNext_one enc s p h.1 (by omega) (by omega) hs w
  · exact chNext_out enc s i h hs w
open Go.RowKit
def firstB (enc r:Int):Option Int:=((List.range 256).find? fun b:Nat=>decide (oneI enc (b:Int)=r)).map (fun b:Nat=>(b:Int))
theorem firstB_of {enc r:Int} {b:Nat} (hb:b<256) (h:oneI enc (b:Int)=r) (hm:∀ j:Nat,j<b→oneI enc (j:Int) ≠ r):firstB enc r=some (b:Int):=by
  unfold firstB
  have:((List.range 256).find? fun b:Nat=>decide (oneI enc (b:Int)=r))=some b:=by
    rw [List.find?_range_eq_some]
    refine ⟨by simpa using h,by simpa using hb,fun j hj=>by simpa using hm j hj⟩
  rw [this];rfl
theorem firstB_no {enc r:Int} (hm:∀ j:Nat,j<256→oneI enc (j:Int) ≠ r):firstB enc r=none:=by
  unfold firstB
  have:((List.range 256).find? fun b:Nat=>decide (oneI enc (b:Int)=r))=none:=by
    rw [List.find?_range_eq_none]
    exact fun j hj=>by simpa using hm j hj
  rw [this];rfl
theorem firstB_sound {enc r b:Int} (h:firstB enc r=some b):0≤b∧b<256∧oneI enc b=r:=by
  unfold firstB at h
  rw [Option.map_eq_some_iff] at h
  obtain ⟨n,hn,rfl⟩:=h
  rw [List.find?_range_eq_some] at hn
  obtain ⟨h1,h2,_⟩:=hn
  have h2:=List.mem_range.1 h2
  exact ⟨by omega,by omega,by simpa using h1⟩
def encC (enc r:Int):Option (List Int) :=
  if isC r=true then
    (if 7≤enc then some (encI r) else match firstB enc r with
      | some b=>some [b]
      | none=>if enc=6 then (pairK r).map fun x=>[x.1,x.2] else none)
  else none
theorem one_small {enc b:Int} (h:b<128):oneI enc b=b:=by unfold oneI;rw [if_pos (Or.inl h)]
theorem firstB_small {enc r:Int} (h0:0≤r) (h1:r<128):firstB enc r=some r:=by
  have:=@firstB_of enc r r.toNat (by omega) (by rw [Int.toNat_of_nonneg h0];exact one_small h1) (fun j hj=>by rw [one_small (by omega)];omega)
  rwa [Int.toNat_of_nonneg h0] at this
theorem encC_kana {r:Int} (hc:isC r=true):encC 6 r=encK r:=by
  have hr:=isC_true hc
  unfold encC encK
  rw [if_pos hc,if_neg (by omega)]
  have one6:∀ b:Int,128≤b→oneI 6 b=if 161≤b∧b≤223 then 65377+b - 161 else -1:=by
    intro b hb
    unfold oneI
    rw [if_neg (by omega),if_neg (by omega),if_neg (by omega),if_neg (by omega),if_neg (by omega),if_pos rfl]
  by_cases h1:r<128
  · rw [firstB_small hr.1 h1,if_pos h1]
  by_cases h2:65377≤r∧r≤65439
  · rw [if_neg h1,if_pos h2]
    have hn:((161+r - 65377).toNat:Int)=161+r - 65377:=by omega
    have:=@firstB_of 6 r (161+r - 65377).toNat (by omega) (by rw [hn,one6 _ (by omega),if_pos (by omega)];omega) (fun j hj=>by
      by_cases hj2:(j:Int)<128
      · rw [one_small hj2];omega
      · rw [one6 _ (by omega)];split <;> omega)
    rw [hn] at this
    rw [this]
  · rw [if_neg h1,if_neg h2,firstB_no,if_pos rfl]
    intro j hj
    by_cases hj2:(j:Int)<128
    · rw [one_small hj2];omega
    · rw [one6 _ (by omega)];split <;> omega
theorem until_more {p:Nat→Prop} {k:Nat} (h:∀ j:Nat,j<k→p j) (h2:p k):∀ j:Nat,j<k+1→p j:=fun j hj=>by
  by_cases e:j=k
  · rw [e];exact h2
  · exact h j (by omega)
theorem encC_first {enc r b:Int} (hc:isC r=true) (h6:enc≤6) (h:firstB enc r=some b):encC enc r=some [b]:=by
  unfold encC;rw [if_pos hc,if_neg (by omega),h]
theorem encC_none {enc r:Int} (hc:isC r=true) (h5:enc≤5) (h:firstB enc r=none):encC enc r=none:=by
  unfold encC;rw [if_pos hc,if_neg (by omega),h];simp;omega
theorem two_neg {c d:Int} (h:¬ (130≤c∧c≤132)):twoI c d=-1:=by
  rcases two_cases c d with ⟨x,hx,h1,_⟩ | ⟨_,h2⟩
  · have:=(RT_of hx).1
    unfold hitB at h1
    omega
  · exact h2
theorem kanaP_ref (c d:Int) (two:Bool) (h0:0≤c) (h1:c<256):kanaP c d two=if two=true∧0≤twoI c d then (twoI c d,2) else (oneI 6 c,1):=by
  unfold kanaP
  by_cases a1:c<128
  · have:twoI c d=-1:=two_neg (by omega)
    rw [if_pos a1,if_neg (by omega)]
    unfold oneI;rw [if_pos (by omega)]
  by_cases a2:161≤c∧c≤223
  · have:twoI c d=-1:=two_neg (by omega)
    rw [if_neg a1,if_pos a2,if_neg (by omega)]
    unfold oneI
    rw [if_neg (by omega),if_neg (by omega),if_neg (by omega),if_neg (by omega),if_neg (by omega),if_pos rfl,if_pos a2,show 65377+(c - 161)=65377+c - 161 by omega]
  · rw [if_neg a1,if_neg a2]
    have:oneI 6 c=-1:=by
      unfold oneI
      rw [if_neg (by omega),if_neg (by omega),if_neg (by omega),if_neg (by omega),if_neg (by omega),if_pos rfl,if_neg a2]
    rw [this]
open Go.RowKit
def strC (o:Option (List Int)):ByteArray:=match o with | some l=>strOfNums l | none=>ByteArray.empty
def BytesStr (o:Option (List Int)) (w:World) (e:Ending) (w':World):Prop:=e=.returned (.tuple #[.string (strC o),.bool o.isSome])∧Fresh w w'
theorem fromKana_str (r:Int) (h0:0≤r) (h1:r<1114112) (w:World) :
    Calls Tryz.prog 253 #[.int .i32 r] w (BytesStr (encK r) w):=fromKana_any r h0 h1 w
theorem one_row {enc b:Int} (he:enc=2∨enc=4∨enc=5) (hb:fromI enc≤b):oneI enc b=(rowI enc).getD (b - fromI enc).toNat (-1):=by
  rcases he with rfl | rfl | rfl
  · have hb:(160:Int)≤b:=hb
    show oneI 2 b=L2I.getD (b - 160).toNat (-1)
    unfold oneI;rw [if_neg (by omega),if_pos rfl,if_neg (by omega)]
  · have hb:(128:Int)≤b:=hb
    show oneI 4 b=C4I.getD (b - 128).toNat (-1)
    unfold oneI;rw [if_neg (by omega),if_neg (by omega),if_neg (by omega),if_pos rfl]
  · have hb:(128:Int)≤b:=hb
    show oneI 5 b=C8I.getD (b - 128).toNat (-1)
    unfold oneI;rw [if_neg (by omega),if_neg (by omega),if_neg (by omega),if_neg (by omega),if_pos rfl]
theorem one_below {enc b:Int} (he:enc=2∨enc=4∨enc=5) (hb:b<fromI enc):oneI enc b=b:=by
  by_cases h:b<128
  · exact one_small h
  rcases he with rfl | rfl | rfl
  · have hb:b<(160:Int):=hb
    unfold oneI;rw [if_neg (by omega),if_pos rfl,if_pos (by omega)]
  · have hb:b<(128:Int):=hb
    omega
  · have hb:b<(128:Int):=hb
    omega
theorem from_len {enc:Int} (he:enc=2∨enc=4∨enc=5):fromI enc+(rowI enc).length=256∧128≤fromI enc∧fromI enc≤160:=by
  rw [row_len]
  rcases he with rfl | rfl | rfl <;> decide
theorem first_row {enc r k:Int} (he:enc=2∨enc=4∨enc=5) (h:FirstAt (rowI enc) r k) (h0:0≤k):firstB enc r=some (fromI enc+k)∧fromI enc+k<256:=by
  obtain ⟨e1,e2,e3⟩:=from_len he
  rcases h with ⟨_,h2,h3,h4⟩ | ⟨h1,_⟩
  · refine ⟨?_,by omega⟩
    have hn:((fromI enc+k).toNat:Int)=fromI enc+k:=by omega
    have hkl:k.toNat<(rowI enc).length:=by omega
    have hr:160≤r:=by
      have:=row_range enc r (by rw [← h3,List.getD_eq_getElem?_getD,List.getElem?_eq_getElem hkl];exact List.getElem_mem hkl)
      omega
    have:=@firstB_of enc r (fromI enc+k).toNat (by omega) (by
      rw [hn,one_row he (by omega),show fromI enc+k - fromI enc=k by omega,← h3]
      simp [List.getD_eq_getElem?_getD,hkl]) (fun j hj=>by
      by_cases hj2:(j:Int)<fromI enc
      · rw [one_below he hj2];omega
      · rw [one_row he (by omega)]
        have hj3:((j:Int) - fromI enc).toNat<(rowI enc).length:=by omega
        have:=h4 ((j:Int) - fromI enc).toNat (by omega)
        simpa [List.getD_eq_getElem?_getD,hj3] using this)
    rwa [hn] at this
  · omega
theorem first_range {l:List Int} {r k:Int} (h:FirstAt l r k):-1≤k∧k<(l.length:Int):=by
  rcases h with ⟨h1,h2,_⟩ | ⟨h1,_⟩ <;> omega
def LowRel (enc r:Int) (w:World) (i:Value) (wr:World):Prop:=∃ k:Nat,i=.int .i64 k∧128≤k∧k≤256∧(∀ j:Nat,j<k→oneI enc (j:Int) ≠ r)∧Fresh w wr
set_option maxHeartbeats 1600000 in
set_option maxRecDepth 1000000 in
theorem pEnc_row (enc r f:Int) (R:ByteArray) (l:List Int) (hR:rowS enc=R) (hf:fromI enc=f) (hl:rowI enc=l) (hne:R.toList.isEmpty=false) (he:enc=2∨enc=4∨enc=5) (hc:isC r=true) (hr:128≤r) (w:World) :
    Calls Tryz.prog 169 #[.int .i64 enc,.int .i32 r] w (BytesIs (encC enc r) w):=by
  have hd:=row_dec enc
  rw [hR,hl] at hd
  have hfl:=from_len he
  have HFR:Hid (∀ k,FirstAt l r k→0≤k→firstB enc r=some (f+k)):=by
    rw [← hl,← hf]
    exact fun k h h2=>(first_row he h h2).1
  rw [hf,hl] at hfl
  obtain ⟨fl1,fl2,fl3⟩:=hfl
  have h0:0≤enc:=by omega
  have h5:enc≤5:=by omega
  have e6:(enc == 6)=false:=by simp;omega
  have e7:(enc == 7)=false:=by simp;omega
  have e8:(enc == 8)=false:=by simp;omega
  have HRI:Hid (rightB enc=true):=by unfold rightB;exact decide_eq_true (by omega)
  obtain ⟨r0,r1,_⟩:=isC_true hc
  have HC:=Lib.hid hc
  have HD:=Lib.hid hd
  have HR:=Lib.hid hR
  have HF:=Lib.hid hf
  have k1:=conv1
  have hn2:¬ R.toList=[]:=by intro h;rw [h] at hne;cases hne
  clear hd hR hf hl he hc
  go_enter Tryz.func169,Tryz.ntmps169
  go_wp2_with (first
   | (go_at_call 112;refine (right_any _ _).mono ?_;rintro e w1 ⟨rfl,rfl⟩;rw [HRI.out])
   | (go_at_call 166;refine (utfIs_any _ _).mono ?_;rintro e w1 ⟨rfl,rfl⟩;rw [HC.out]))
  refine (upper_any _ _).mono ?_
  rintro e w1 ⟨rfl,rfl⟩
  rw [HR.out,HF.out]
  go_wp2_with fail
  refine (find_any R l r _ HD.out (by omega)).mono ?_
  rintro e w1 ⟨n,rfl,hfa,HF0⟩
  obtain ⟨n0,n1⟩:=first_range hfa
  have HFA:=Lib.hid hfa
  clear hfa
  by_cases hn:0≤n
  · have HZ:=Lib.hid (encC_first HC.out (by omega) (HFR.out n HFA.out hn))
    go_wp2
    go_ret2
    exact BytesIs.yes HZ.out (HF0.alloc _)
  go_wp2
  go_loopw [9] (fun i wr=>LowRel enc r w i wr) (fun i _=>256 - (intOf i).toNat)
  case atStart=>exact ⟨128,rfl,by omega,by omega,fun j hj=>by rw [one_small (by omega)];omega,HF0⟩
  case round =>
    obtain ⟨k,rfl,hk,hk2,hm,hf⟩:=hrel
    have HM:=Lib.hid hm
    clear hm
    by_cases hlt:k<256
    · have hlt2:(k:Int)<256:=by omega
      go_wp2_with fail
      refine (single_any _ _ h0 h5 (by omega) (by omega) _).mono ?_
      rintro e w2 ⟨rfl,h2⟩
      by_cases hx:oneI enc k=r
      · have hb1:(oneI enc k == r)=true:=by simp [hx]
        have HZ:=Lib.hid (encC_first HC.out (by omega) (firstB_of hlt hx HM.out))
        clear hx
        go_wp2
        go_ret2
        exact BytesIs.yes HZ.out ((hf.trans h2).alloc _)
      · have hb1:(oneI enc k == r)=false:=by simp [hx]
        have HMM:=Lib.hid (until_more HM.out hx)
        clear hx
        go_wp2
        exact ⟨⟨k+1,by rw [Int.natCast_add];rfl,by omega,by omega,HMM.out,hf.trans h2⟩,by simp [intOf];omega⟩
    · have hk2:k=256:=by omega
      subst hk2
      have HZ:=Lib.hid (encC_none HC.out h5 (firstB_no HM.out))
      go_wp2
      go_ret2
      exact BytesIs.no HZ.out hf
set_option maxHeartbeats 1600000 in
set_option maxRecDepth 1000000 in
theorem pEnc_none (enc r:Int) (h0:0≤enc) (h5:enc≤5) (he:¬ (enc=2∨enc=4∨enc=5)) (hc:isC r=true) (hr:128≤r) (w:World) :
    Calls Tryz.prog 169 #[.int .i64 enc,.int .i32 r] w (BytesIs (encC enc r) w):=by
  have e6:(enc == 6)=false:=by simp;omega
  have e7:(enc == 7)=false:=by simp;omega
  have e8:(enc == 8)=false:=by simp;omega
  have HRI:Hid (rightB enc=true):=by unfold rightB;exact decide_eq_true (by omega)
  obtain ⟨r0,r1,_⟩:=isC_true hc
  have HC:=Lib.hid hc
  have HR:Hid (rowS enc=ByteArray.empty):=by unfold rowS;rw [if_neg (by omega),if_neg (by omega),if_neg (by omega)];exact rfl
  have k1:=conv1
  have HF0:=Fresh.refl w
  clear he hc
  go_enter Tryz.func169,Tryz.ntmps169
  go_wp2_with (first
   | (go_at_call 112;refine (right_any _ _).mono ?_;rintro e w1 ⟨rfl,rfl⟩;rw [HRI.out])
   | (go_at_call 166;refine (utfIs_any _ _).mono ?_;rintro e w1 ⟨rfl,rfl⟩;rw [HC.out]))
  refine (upper_any _ _).mono ?_
  rintro e w1 ⟨rfl,rfl⟩
  rw [HR.out]
  go_wp2
  go_loopw [9] (fun i wr=>LowRel enc r w i wr) (fun i _=>256 - (intOf i).toNat)
  case atStart=>exact ⟨128,rfl,by omega,by omega,fun j hj=>by rw [one_small (by omega)];omega,HF0⟩
  case round =>
    obtain ⟨k,rfl,hk,hk2,hm,hf⟩:=hrel
    have HM:=Lib.hid hm
    clear hm
    by_cases hlt:k<256
    · have hlt2:(k:Int)<256:=by omega
      go_wp2_with fail
      refine (single_any _ _ h0 h5 (by omega) (by omega) _).mono ?_
      rintro e w2 ⟨rfl,h2⟩
      by_cases hx:oneI enc k=r
      · have hb1:(oneI enc k == r)=true:=by simp [hx]
        have HZ:=Lib.hid (encC_first HC.out (by omega) (firstB_of hlt hx HM.out))
        clear hx
        go_wp2
        go_ret2
        exact BytesIs.yes HZ.out ((hf.trans h2).alloc _)
      · have hb1:(oneI enc k == r)=false:=by simp [hx]
        have HMM:=Lib.hid (until_more HM.out hx)
        clear hx
        go_wp2
        exact ⟨⟨k+1,by rw [Int.natCast_add];rfl,by omega,by omega,HMM.out,hf.trans h2⟩,by simp [intOf];omega⟩
    · have hk2:k=256:=by omega
      subst hk2
      have HZ:=Lib.hid (encC_none HC.out h5 (firstB_no HM.out))
      go_wp2
      go_ret2
      exact BytesIs.no HZ.out hf
set_option maxHeartbeats 800000 in
theorem pEnc_small (enc r:Int) (h0:0≤enc) (h5:enc≤5) (hc:isC r=true) (hr:r<128) (w:World) :
    Calls Tryz.prog 169 #[.int .i64 enc,.int .i32 r] w (BytesIs (encC enc r) w):=by
  have e6:(enc == 6)=false:=by simp;omega
  have e7:(enc == 7)=false:=by simp;omega
  have e8:(enc == 8)=false:=by simp;omega
  have HRI:Hid (rightB enc=true):=by unfold rightB;exact decide_eq_true (by omega)
  obtain ⟨r0,r1,_⟩:=isC_true hc
  have HC:=Lib.hid hc
  have HZ:=Lib.hid (encC_first hc (by omega) (firstB_small (enc:=enc) r0 hr))
  have k1:=conv1
  clear hc
  go_enter Tryz.func169,Tryz.ntmps169
  go_wp2_with (first
   | (go_at_call 112;refine (right_any _ _).mono ?_;rintro e w1 ⟨rfl,rfl⟩;rw [HRI.out])
   | (go_at_call 166;refine (utfIs_any _ _).mono ?_;rintro e w1 ⟨rfl,rfl⟩;rw [HC.out]))
  go_ret2
  exact BytesIs.yes HZ.out ((Fresh.refl _).alloc _)
set_option maxHeartbeats 800000 in
theorem pEnc_kana (r:Int) (hc:isC r=true) (w:World) :
    Calls Tryz.prog 169 #[.int .i64 6,.int .i32 r] w (BytesIs (encC 6 r) w):=by
  have HRI:Hid (rightB 6=true):=rfl
  obtain ⟨r0,r1,_⟩:=isC_true hc
  have HC:=Lib.hid hc
  have HZ:=Lib.hid (encC_kana hc)
  have HK:=Lib.hid (fun w=>fromKana_str r r0 (by omega) w)
  clear hc
  go_enter Tryz.func169,Tryz.ntmps169
  go_wp2_with (first
   | (go_at_call 112;refine (right_any _ _).mono ?_;rintro e w1 ⟨rfl,rfl⟩;rw [HRI.out])
   | (go_at_call 166;refine (utfIs_any _ _).mono ?_;rintro e w1 ⟨rfl,rfl⟩;rw [HC.out]))
  refine (HK.out _).mono ?_
  rintro e w1 ⟨rfl,h1⟩
  go_wp2
  go_ret2
  rw [HZ.out]
  exact ⟨rfl,h1⟩
set_option maxHeartbeats 800000 in
theorem pEnc_utf (enc r:Int) (h7:enc=7∨enc=8) (hc:isC r=true) (w:World) :
    Calls Tryz.prog 169 #[.int .i64 enc,.int .i32 r] w (BytesIs (encC enc r) w):=by
  have HRI:Hid (rightB enc=true):=by unfold rightB;exact decide_eq_true (by omega)
  have HZ:Hid (encC enc r=some (encI r)):=by unfold encC;rw [if_pos hc,if_pos (by omega)];exact rfl
  have HE:Hid (encS r=strOfNums (encI r)):=by unfold encS;rw [if_pos hc];exact rfl
  have HC:=Lib.hid hc
  clear hc
  rcases h7 with rfl | rfl
  all_goals
    go_enter Tryz.func169,Tryz.ntmps169
    go_wp2_with (first
     | (go_at_call 112;refine (right_any _ _).mono ?_;rintro e w1 ⟨rfl,rfl⟩;rw [HRI.out])
     | (go_at_call 166;refine (utfIs_any _ _).mono ?_;rintro e w1 ⟨rfl,rfl⟩;rw [HC.out]))
    refine (utfBytes_any _ _).mono ?_
    rintro e w1 ⟨rfl,h1⟩
    rw [HE.out]
    go_wp2
    go_ret2
    exact BytesIs.yes HZ.out h1
def encP (enc r:Int):Option (List Int):=if 0≤enc∧enc≤8 then encC enc r else none
set_option maxHeartbeats 800000 in
theorem pEnc_any (enc r:Int) (w:World) :
    Calls Tryz.prog 169 #[.int .i64 enc,.int .i32 r] w (BytesIs (encP enc r) w):=by
  by_cases h:0≤enc∧enc≤8
  · have e:encP enc r=encC enc r:=by unfold encP;rw [if_pos h]
    rw [e]
    by_cases hc:isC r=true
    · by_cases h7:7≤enc
      · exact pEnc_utf enc r (by omega) hc w
      by_cases h6:enc=6
      · subst h6;exact pEnc_kana r hc w
      by_cases hr:r<128
      · exact pEnc_small enc r h.1 (by omega) hc hr w
      by_cases he:enc=2∨enc=4∨enc=5
      · rcases he with rfl | rfl | rfl
        · exact pEnc_row 2 r 160 L2S L2I rfl rfl rfl row_ne.1.1 (by omega) hc (by omega) w
        · exact pEnc_row 4 r 128 C4S C4I rfl rfl rfl row_ne.1.2 (by omega) hc (by omega) w
        · exact pEnc_row 5 r 128 C8S C8I rfl rfl rfl row_ne.2 (by omega) hc (by omega) w
      · exact pEnc_none enc r h.1 (by omega) he hc (by omega) w
    · have hc2:isC r=false:=by simpa using hc
      have HZ:Hid (encC enc r=none):=by unfold encC;rw [if_neg hc];exact rfl
      have HC:=Lib.hid hc2
      have HRI:Hid (rightB enc=true):=by unfold rightB;exact decide_eq_true (by omega)
      clear hc hc2 h e
      go_enter Tryz.func169,Tryz.ntmps169
      go_wp2_with (first
       | (go_at_call 112;refine (right_any _ _).mono ?_;rintro e w1 ⟨rfl,rfl⟩;rw [HRI.out])
       | (go_at_call 166;refine (utfIs_any _ _).mono ?_;rintro e w1 ⟨rfl,rfl⟩;rw [HC.out]))
      go_ret2
      exact BytesIs.no HZ.out (Fresh.refl _)
  · have HZ:Hid (encP enc r=none):=by unfold encP;rw [if_neg h];exact rfl
    have HRI:Hid (rightB enc=false):=by unfold rightB;exact decide_eq_false h
    clear h
    go_enter Tryz.func169,Tryz.ntmps169
    go_wp2_with (first
     | (go_at_call 112;refine (right_any _ _).mono ?_;rintro e w1 ⟨rfl,rfl⟩;rw [HRI.out]))
    go_ret2
    exact BytesIs.no HZ.out (Fresh.refl _)
end Go.Proofs.YtpmlggjhfiljmaaGreatDoor
