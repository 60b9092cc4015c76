/- Part 18 of what the law rests on. -/
import Derived.Laws.EntriesVeiled
import Derived.Test.YtpmlggjhfiljmaaGreatDoorL17
set_option linter.all false
namespace Go.Proofs.YtpmlggjhfiljmaaGreatDoor
open Go.RowKit
theorem presC_len {enc : Int} {s : ByteArray} (h0 : 0 ≤ enc) (h8 : enc ≤ 8) : (presC enc s).length ≤ 3 * s.size := pres_len h0 h8 (pcs_chain h0 h8)
theorem presS_size {enc : Int} {s : ByteArray} (h0 : 0 ≤ enc) (h8 : enc ≤ 8) : (presS enc s).size ≤ 12 * s.size := by
  have := joinS_size (presC enc s)
  have := presC_len (s := s) h0 h8
  unfold presS
  omega
theorem SlT.alloc {w : World} {v : Value} {xs : List PN} (h : SlT w w.heap.size v xs) (o : Obj) : SlT (w.alloc o) w.heap.size v xs := h.below ((Below.refl _ _).alloc (Nat.le_refl _) o)
theorem WrAt.new (w : World) (jf : Value) : WrAt (w.alloc (.cells #[.string ⟨#[]⟩, .slice none 0 0, jf] 115)) w.heap.size ByteArray.empty [] jf := ⟨_, Blk.new _ _ _, OwnR.nil _ _⟩
theorem WrAt.join {w : World} {gw : Nat} {out : ByteArray} {o : List Int} {jf : Value} (h : WrAt w gw out o jf) (j2 : Value) : WrAt (w.setCell ⟨gw, 2, none⟩ j2) gw out o j2 := by
  obtain ⟨v, h1, h2⟩ := h
  exact ⟨v, h1.set (i := 2) (u := j2), h2.mut ((Mut.refl (fun k => k = gw) _).setCell (p := ⟨gw, 2, none⟩) (.inl rfl) _) fun k hk q => by omega⟩
set_option maxHeartbeats 3200000 in
set_option maxRecDepth 100000 in
theorem present_any (enc : Int) (s : ByteArray) (h0 : 0 ≤ enc) (h8 : enc ≤ 8) (hs : s.size ≤ 10000) (w : World) :
    Calls Tryz.prog 16 #[.int .i64 enc, .string s] w fun e w' => e = .returned (.string (presS enc s)) ∧ Fresh w w' := by
  have HPT := Lib.hid (parts_any enc s h0 h8 (by omega) w)
  have hch := pcs_chain (s := s) h0 h8
  have HCH := Lib.hid hch
  have HOK := Lib.hid (prn_ok h0 h8 hs hch)
  have HLN := Lib.hid (chain_len h0 h8 (Nat.zero_le _) hch)
  have HPL := Lib.hid (prn_len s (pcsS enc s) 0)
  have HSZ := Lib.hid (presS_size (s := s) h0 h8)
  have HFS := Lib.hid (prn_fst s (pcsS enc s) 0)
  clear hch
  by_cases he : enc = 8
  · subst he
    go_enter Tryz.func16, Tryz.ntmps16
    go_wp2_with fail
    refine HPT.out.mono ?_
    rintro e w1 ⟨v, xs, rfl, hc1, hl1, hown, hf1⟩
    have hxe := chain_unique hc1 HCH.out
    subst hxe
    have hsl := hown.sl
    have hnl : (prn s 0 (pcsS 8 s)).length ≤ 10000 := by have := HPL.out; have := HLN.out; omega
    have HA0 := Lib.hid (WrAt.new w1 jfA)
    have HSL := Lib.hid hsl
    have HF1 := Lib.hid hf1
    have HRG := Lib.hid (regular_any (prn s 0 (pcsS 8 s)) (w1.alloc (.cells #[.string ⟨#[]⟩, .slice none 0 0, jfA] 115)) hnl HOK.out v ((HSL.out.alloc _).below (Below.refl _ _) |> fun h => by
      rcases h with h | ⟨q0, g, cap, q1, q2, q3⟩
      · exact .inl h
      · exact .inr ⟨q0, g, cap, q1, by simp; omega, q3⟩))
    rw [HFS.out] at HRG
    unfold jfA at HRG
    clear hown hc1 hsl hf1
    go_wp2_with fail
    refine HRG.out.mono ?_
    rintro e w2 ⟨rfl, hf2⟩
    have HW2 := Lib.hid (HA0.out.fresh (by unfold jfA; exact hf2))
    have HB2 := Lib.hid (((Below.refl w1.heap.size w1).alloc (Nat.le_refl _) _).trans (hf2.below.mono (B' := w1.heap.size) (by simp)))
    have HSL2 := Lib.hid (HSL.out.below HB2.out)
    cases hr : regB (prt s 0 (pcsS 8 s)) with
    | true =>
      have hT : joinS (prL tog hidB true ((prn s 0 (pcsS 8 s)).map (·.1)) []) = presS 8 s := by
        rw [HFS.out]
        unfold presS presC presL
        rw [if_neg (by decide), if_pos hr]
      have HX := Lib.hid (all_any 53 57 hidB true jfT tog flushesT hidFn (markFn _ _ flushesT) enters_hidden enters_mark w1.heap.size (prn s 0 (pcsS 8 s)) (w2.setCell ⟨w1.heap.size, 2, none⟩ jfT) (by omega) HOK.out (presS 8 s) hT (by have := HSZ.out; omega) v (HSL2.out.below ((Below.refl w1.heap.size w2).setCell (p := ⟨w1.heap.size, 2, none⟩) (Nat.le_refl _) _)) (HW2.out.join jfT))
      unfold jfT at HX
      clear hr hT
      obtain ⟨vv, hblk, _⟩ := HW2.out
      have hfz : w2.frozen? ⟨w1.heap.size, 2, none⟩ = false := hblk.frozen 2
      have hc2 : w2.cell? ⟨w1.heap.size, 2, none⟩ = some jfA := by rw [hblk.cell]; rfl
      unfold jfA at hc2
      clear hblk
      go_wp2_with fail
      refine HX.out.mono ?_
      rintro e w3 ⟨rfl, hb3⟩
      have HE := Lib.hid ((HF1.out.trans ((HB2.out.setCell (p := ⟨w1.heap.size, 2, none⟩) (Nat.le_refl _) _).trans hb3)))
      clear hb3
      go_wp2
      go_ret
      exact ⟨rfl, HE.out⟩
    | false =>
      have hT : joinS (prL id strB false ((prn s 0 (pcsS 8 s)).map (·.1)) []) = presS 8 s := by
        rw [HFS.out]
        unfold presS presC presL
        rw [if_neg (by decide), if_neg (by rw [hr]; simp)]
      have HX := Lib.hid (all_any 56 54 strB false jfA id flushesA strFn (showFn _ _) enters_strange enters_show w1.heap.size (prn s 0 (pcsS 8 s)) w2 (by omega) HOK.out (presS 8 s) hT (by have := HSZ.out; omega) v HSL2.out HW2.out)
      clear hr hT
      go_wp2_with fail
      refine HX.out.mono ?_
      rintro e w3 ⟨rfl, hb3⟩
      have HE := Lib.hid (HF1.out.trans (HB2.out.trans hb3))
      clear hb3
      go_wp2
      go_ret
      exact ⟨rfl, HE.out⟩
  · have hne : (enc != 8) = true := by simp [he]
    have hT : joinS (prL id hidB false ((prn s 0 (pcsS enc s)).map (·.1)) []) = presS enc s := by
      rw [HFS.out]
      unfold presS presC presL
      rw [if_pos he]
    have HT := Lib.hid hT
    clear he hT
    go_enter Tryz.func16, Tryz.ntmps16
    go_wp2_with fail
    refine HPT.out.mono ?_
    rintro e w1 ⟨v, xs, rfl, hc1, hl1, hown, hf1⟩
    have hxe := chain_unique hc1 HCH.out
    subst hxe
    have hsl := hown.sl
    have hnl : (prn s 0 (pcsS enc s)).length ≤ 10000 := by have := HPL.out; have := HLN.out; omega
    have HF1 := Lib.hid hf1
    have HX := Lib.hid (all_any 53 54 hidB false jfA id flushesA hidFn (showFn _ _) enters_hidden enters_show w1.heap.size (prn s 0 (pcsS enc s)) _ (by omega) HOK.out (presS enc s) HT.out (by have := HSZ.out; omega) v (hsl.alloc _) (WrAt.new w1 jfA))
    unfold jfA at HX
    clear hown hc1 hsl hf1
    go_wp2_with fail
    refine HX.out.mono ?_
    rintro e w3 ⟨rfl, hb3⟩
    have HE := Lib.hid (HF1.out.trans (((Below.refl w1.heap.size w1).alloc (Nat.le_refl _) _).trans hb3))
    clear hb3
    go_wp2
    go_ret
    exact ⟨rfl, HE.out⟩
open Go.RowKit
def RdAt (w : World) (gr : Nat) (enc : Int) (raw : ByteArray) (o : List Int) (ok : Bool) : Prop := ∃ v, Blk w gr 182 #[.int .i64 enc, .string raw, v, .bool ok] ∧ OwnR w (gr + 1) v o
def RdPost (gr : Nat) (w : World) (enc : Int) (raw : ByteArray) (o : List Int) (ok : Bool) (e : Ending) (w' : World) : Prop := e = .returned (.tuple #[]) ∧ RdAt w' gr enc raw o ok ∧ Mut (fun k => k = gr) w w'
def FlRel (gr : Nat) (enc : Int) (raw : ByteArray) (v : Value) (o : List Int) (ok : Bool) (W0 : World) (i : Value) (wr : World) : Prop :=
  ∃ k : Nat, i = .int .i64 (k : Nat) ∧ k ≤ o.length ∧ Blk wr gr 182 #[.int .i64 enc, .string (raw ++ encL enc (o.take k)), v, .bool (ok && encAll enc (o.take k))] ∧ Mut (fun k => k = gr) W0 wr
theorem encL_snoc (enc : Int) (x : Int) : ∀ o : List Int, encL enc (o ++ [x]) = encL enc o ++ encB enc x
  | [] => by simp [encL]
  | y :: o => by rw [List.cons_append, encL, encL, encL_snoc enc x o, ByteArray.append_assoc]
theorem encAll_snoc (enc : Int) (x : Int) (o : List Int) : encAll enc (o ++ [x]) = (encAll enc o && (encC enc x).isSome) := by simp [encAll]
theorem encB_size (enc r : Int) : (encB enc r).size ≤ 4 := by
  unfold encB
  cases h : encC enc r with
  | none => exact Nat.zero_le _
  | some l => have := encC_bytes h; simp only [strOfNums_size]; omega
theorem encL_size (enc : Int) : ∀ o : List Int, (encL enc o).size ≤ 4 * o.length
  | [] => Nat.zero_le _
  | x :: o => by have := encB_size enc x; have := encL_size enc o; rw [encL, ByteArray.size_append, List.length_cons]; omega
theorem rdEnc_any (enc r : Int) (h0 : 0 ≤ enc) (h8 : enc ≤ 8) (w : World) :
    Calls Tryz.prog 169 #[.int .i64 enc, .int .i32 r] w fun e w' => e = .returned (.tuple #[.string (encB enc r), .bool (encC enc r).isSome]) ∧ Fresh w w' := by
  have := pEnc_any enc r w
  unfold encP at this
  rw [if_pos ⟨h0, h8⟩] at this
  exact this
theorem opn_len (enc : Int) (o : List Int) : (opn enc o).length ≤ 3 * o.length := by unfold opn; split; exact apt_len o; omega
theorem RdAt.cells {w : World} {gr : Nat} {enc : Int} {raw : ByteArray} {o : List Int} {ok : Bool} (h : RdAt w gr enc raw o ok) : ∃ v, Blk w gr 182 #[.int .i64 enc, .string raw, v, .bool ok] ∧ OwnR w (gr + 1) v o := h
theorem fl_next {gr : Nat} {enc : Int} {raw : ByteArray} {v : Value} {o : List Int} {ok : Bool} {W0 wr w1 : World} {k : Nat} {c : Int} {raw1 : ByteArray} {ok1 : Bool} (hk : k < o.length) (hc : o.getD k 0 = c)
    (hr : raw ++ encL enc (o.take k) = raw1) (ho : (ok && encAll enc (o.take k)) = ok1) (hb : Blk wr gr 182 #[.int .i64 enc, .string raw1, v, .bool ok1]) (hm : Mut (fun k => k = gr) W0 wr) (hf : Fresh wr w1) {eb : ByteArray} {es ok2 : Bool} (heb : encB enc c = eb) (hes : (encC enc c).isSome = es) (hk2 : (ok1 && es) = ok2) :
    FlRel gr enc raw v o ok W0 (.int .i64 ((k : Int) + 1)) ((w1.setCell ⟨gr, 1, none⟩ (.string (raw1 ++ eb))).setCell ⟨gr, 3, none⟩ (.bool ok2)) := by
  refine ⟨k + 1, rfl, hk, ?_, ((hm.andFresh hf).setCell (p := ⟨gr, 1, none⟩) (.inl rfl) _).setCell (p := ⟨gr, 3, none⟩) (.inl rfl) _⟩
  have h1 := ((hb.keep hf).set (i := 1) (u := .string (raw1 ++ eb))).set (i := 3) (u := .bool ok2)
  have e1 := take_succ_getD o k hk
  rw [hc] at e1
  rw [e1, encL_snoc, encAll_snoc, ← ByteArray.append_assoc, hr, heb, ← Bool.and_assoc, ho, hes, hk2]
  exact h1
theorem fl_done {gr : Nat} {enc : Int} {raw1 : ByteArray} {v : Value} {ok1 : Bool} {w wr : World} (hb : Blk wr gr 182 #[.int .i64 enc, .string raw1, v, .bool ok1]) (hm : Mut (fun k => k = gr) w wr) :
    RdAt (wr.setCell ⟨gr, 2, none⟩ (.slice none 0 0)) gr enc raw1 [] ok1 ∧ Mut (fun k => k = gr) w (wr.setCell ⟨gr, 2, none⟩ (.slice none 0 0)) :=
  ⟨⟨_, hb.set (i := 2) (u := .slice none 0 0), OwnR.nil _ _⟩, hm.setCell (p := ⟨gr, 2, none⟩) (.inl rfl) _⟩
set_option maxHeartbeats 3200000 in
set_option maxRecDepth 100000 in
theorem rflush_any (gr : Nat) (enc : Int) (raw : ByteArray) (o : List Int) (ok : Bool) (w : World) (h0 : 0 ≤ enc) (h8 : enc ≤ 8) (ho : o.length ≤ 10000) (h32 : In32 o) (hs : raw.size ≤ 10000000) (h : RdAt w gr enc raw o ok) :
    Calls Tryz.prog 115 #[.pointer (some ⟨gr, 0, none⟩)] w (RdPost gr w enc (raw ++ flB enc o) [] (ok && flK enc o)) := by
  obtain ⟨v, hblk, hown⟩ := h
  have hg := hblk.lt
  have HENC := Lib.hid (fun r W => rdEnc_any enc r h0 h8 W)
  have c0 : w.cell? ⟨gr, 0, none⟩ = some (.int .i64 enc) := by rw [hblk.cell]; rfl
  have c2 : w.cell? ⟨gr, 2, none⟩ = some v := by rw [hblk.cell]; rfl
  have f2 : w.frozen? ⟨gr, 2, none⟩ = false := hblk.frozen 2
  have hol := opn_len enc o
  have HFB : Hid (flB enc o = encL enc (opn enc o)) := Lib.hid rfl
  have HFK : Hid (flK enc o = encAll enc (opn enc o)) := Lib.hid rfl
  by_cases he : enc = 8
  · subst he
    have hop : opn 8 o = apt o := by unfold opn; rw [if_pos rfl]
    rw [hop] at hol HFB HFK
    have HAP := Lib.hid (capt_any v o w hown.sl ho h32)
    have HB := Lib.hid hblk
    clear hop hown hblk
    go_enter Tryz.func115, Tryz.ntmps115
    go_wp2_with fail
    refine HAP.out.mono ?_
    rintro e w1 ⟨v1, rfl, hown1, hf1⟩
    have hb1 := HB.out.keep hf1
    have HM1 := Lib.hid (hf1.mut (fun k => k = gr))
    have d0 : w1.cell? ⟨gr, 0, none⟩ = some (.int .i64 8) := by rw [hb1.cell]; rfl
    have d2 : w1.cell? ⟨gr, 2, none⟩ = some v := by rw [hb1.cell]; rfl
    have e2 : w1.frozen? ⟨gr, 2, none⟩ = false := hb1.frozen 2
    obtain ⟨o2, ho2⟩ : ∃ o2, apt o = o2 := ⟨_, rfl⟩
    rw [ho2] at hol HFB HFK hown1
    have hown2 : OwnR (w1.setCell ⟨gr, 2, none⟩ v1) (gr + 1) v1 o2 := OwnR.mut (hown1.base (by omega)) ((Mut.refl (fun k => k = gr) _).setCell (p := ⟨gr, 2, none⟩) (.inl rfl) _) fun k hk q => by omega
    have hb2 : Blk (w1.setCell ⟨gr, 2, none⟩ v1) gr 182 #[.int .i64 8, .string raw, v1, .bool ok] := hb1.set (i := 2) (u := v1)
    have HM : Hid (Mut (fun k => k = gr) w (w1.setCell ⟨gr, 2, none⟩ v1)) := Lib.hid (HM1.out.setCell (p := ⟨gr, 2, none⟩) (.inl rfl) _)
    have hg2 : gr < (w1.setCell ⟨gr, 2, none⟩ v1).heap.size := hb2.lt
    clear ho2 hf1 hb1 hown1
    obtain ⟨n, hn⟩ : ∃ n, o2.length = n := ⟨_, rfl⟩
    have HN := Lib.hid hn
    rcases Nat.eq_zero_or_pos n with hn0 | hnp
    · have ho2 : o2 = [] := List.eq_nil_of_length_eq_zero (by omega)
      have hE : raw ++ flB 8 o = raw := by rw [HFB.out, ho2]; simp [encL]
      have hK : (ok && flK 8 o) = ok := by rw [HFK.out, ho2]; simp [encAll]
      have HE := Lib.hid hE
      have HK := Lib.hid hK
      clear hE hK
      obtain ⟨hl0, ⟨hv, hv0⟩ | ⟨g, cap, cur, hv, hv0⟩⟩ := hown2
      · subst hv
        have HRES : Hid (RdAt _ gr 8 (raw ++ flB 8 o) [] (ok && flK 8 o) ∧ _) := Lib.hid (by rw [HE.out, HK.out]; exact fl_done hb2 HM.out)
        clear hb2 hl0 hv0
        go_wp2
        refine wp_loop_rounds 1 ?_
        rw [rounds_succ]
        go_wp2
        go_end0
        exact ⟨rfl, HRES.out.1, HRES.out.2⟩
      · rw [hn, hn0] at hv
        subst hv
        have HRES : Hid (RdAt _ gr 8 (raw ++ flB 8 o) [] (ok && flK 8 o) ∧ _) := Lib.hid (by rw [HE.out, HK.out]; exact fl_done hb2 HM.out)
        clear hb2 hl0 hv0
        go_wp2
        refine wp_loop_rounds 1 ?_
        rw [rounds_succ]
        go_wp2
        go_end0
        exact ⟨rfl, HRES.out.1, HRES.out.2⟩
    obtain ⟨g, cap, hv, hgl, hcell⟩ := hown2.sl2 (by omega)
    have hgg : gr + 1 ≤ g := (hown2.lt g (by rw [hv]; rfl)).1
    rw [hn] at hv hcell
    subst hv
    have HB2 := Lib.hid hb2
    have HCELL := Lib.hid hcell
    have hnn : n ≤ 30000 := by omega
    clear hown2 hb2 hcell hn
    go_wp2
    go_loopw [24] (fun i wr => FlRel gr 8 raw (.slice (some ⟨g, 0, none⟩) n cap) o2 ok (w1.setCell ⟨gr, 2, none⟩ (.slice (some ⟨g, 0, none⟩) n cap)) i wr) (fun i _ => n - (intOf i).toNat)
    case atStart => exact ⟨0, rfl, Nat.zero_le _, by simpa [encL, encAll] using HB2.out, Mut.refl _ _⟩
    case round =>
      obtain ⟨k, rfl, hk, hb, hm⟩ := hrel
      have hkn : k ≤ n := by have := HN.out; omega
      have hgw : gr < wr.heap.size := hb.lt
      have k2 : wr.cell? ⟨gr, 2, none⟩ = some (.slice (some ⟨g, 0, none⟩) n cap) := by rw [hb.cell]; rfl
      have q2 : wr.frozen? ⟨gr, 2, none⟩ = false := hb.frozen 2
      have HBr := Lib.hid hb
      have HMr := Lib.hid hm
      clear hk
      by_cases hlt : k < n
      · have cc : wr.cell? ⟨g, k, none⟩ = some (.int .i32 (o2.getD k 0)) := (hm.cell (p := ⟨g, k, none⟩) hgl (by show ¬ g = gr; omega)).trans (HCELL.out k hlt)
        have k0 : wr.cell? ⟨gr, 0, none⟩ = some (.int .i64 8) := by rw [hb.cell]; rfl
        have hsz := encL_size 8 (o2.take k)
        have htl : (o2.take k).length ≤ k := List.length_take_le _ _
        obtain ⟨c, hc⟩ : ∃ c, o2.getD k 0 = c := ⟨_, rfl⟩
        obtain ⟨raw1, hr1⟩ : ∃ raw1, raw ++ encL 8 (o2.take k) = raw1 := ⟨_, rfl⟩
        obtain ⟨ok1, hk1⟩ : ∃ ok1, (ok && encAll 8 (o2.take k)) = ok1 := ⟨_, rfl⟩
        have hr1s : raw1.size ≤ 10200000 := by have := HN.out; rw [← hr1, ByteArray.size_append]; omega
        have HX := Lib.hid (HENC.out c)
        have hes := encB_size 8 c
        obtain ⟨eb, heb⟩ : ∃ eb, encB 8 c = eb := ⟨_, rfl⟩
        obtain ⟨es, hese⟩ : ∃ es, (encC 8 c).isSome = es := ⟨_, rfl⟩
        rw [heb] at hes
        rw [heb, hese] at HX
        rw [hc] at cc
        have hns : ¬ 9223372036854775807 < raw1.size + eb.size := by omega
        have HNX := Lib.hid (fun (w1 : World) (hf : Fresh wr w1) (ok2 : Bool) (h2 : (ok1 && es) = ok2) => fl_next (raw := raw) (ok := ok) (by have := HN.out; omega) hc hr1 hk1 (by have := HBr.out; rw [hr1, hk1] at this; exact this) HMr.out hf heb hese h2)
        have HB1 : Hid (Blk wr gr 182 #[.int .i64 8, .string raw1, .slice (some ⟨g, 0, none⟩) n cap, .bool ok1]) := Lib.hid (by have := hb; rw [hr1, hk1] at this; exact this)
        have i1 : (0 : Int) ≤ (k : Int) := by omega
        have i2 : (k : Int) < (n : Int) := by omega
        clear hc hr1 hk1 heb hese hsz htl hb hm
        go_wp2_with fail
        refine (HX.out _).mono ?_
        rintro e w1 ⟨rfl, hf1⟩
        have hb1 := HB1.out.keep hf1
        have m1 : w1.cell? ⟨gr, 1, none⟩ = some (.string raw1) := by rw [hb1.cell]; rfl
        have m3 : w1.cell? ⟨gr, 3, none⟩ = some (.bool ok1) := by rw [hb1.cell]; rfl
        have n1 : w1.frozen? ⟨gr, 1, none⟩ = false := hb1.frozen 1
        have n3 : w1.frozen? ⟨gr, 3, none⟩ = false := hb1.frozen 3
        have HF1 := Lib.hid hf1
        clear hb1 hf1
        cases ok1 with
        | true =>
          have HR := Lib.hid (HNX.out w1 HF1.out es rfl)
          clear HNX
          go_wp2
          exact ⟨HR.out, by simp [intOf]; omega⟩
        | false =>
          have HR := Lib.hid (HNX.out w1 HF1.out false rfl)
          clear HNX
          go_wp2
          exact ⟨HR.out, by simp [intOf]; omega⟩
      · have hkE : o2.take k = o2 := List.take_of_length_le (by have := HN.out; omega)
        have hb3 := HBr.out
        rw [hkE, ← HFB.out, ← HFK.out] at hb3
        have HRES := Lib.hid (fl_done hb3 (HM.out.trans HMr.out))
        have hk1 : ¬ (k : Int) < (n : Int) := by omega
        clear hb hm hb3 hkE
        go_wp2
        go_end0
        exact ⟨rfl, HRES.out.1, HRES.out.2⟩
  · have hne : (enc == 8) = false := by simp [he]
    obtain ⟨o2, ho2⟩ : ∃ o2, opn enc o = o2 := ⟨_, rfl⟩
    have hoe : o = o2 := by rw [← ho2]; unfold opn; rw [if_neg he]
    rw [ho2] at hol HFB HFK
    rw [hoe] at hown
    have hown2 := hown
    have hb2 := hblk
    have HM : Hid (Mut (fun k => k = gr) w w) := Lib.hid (Mut.refl _ _)
    clear ho2 hoe hown hblk he
    go_enter Tryz.func115, Tryz.ntmps115
    obtain ⟨n, hn⟩ : ∃ n, o2.length = n := ⟨_, rfl⟩
    have HN := Lib.hid hn
    rcases Nat.eq_zero_or_pos n with hn0 | hnp
    · have ho2 : o2 = [] := List.eq_nil_of_length_eq_zero (by omega)
      have hE : raw ++ flB enc o = raw := by rw [HFB.out, ho2]; simp [encL]
      have hK : (ok && flK enc o) = ok := by rw [HFK.out, ho2]; simp [encAll]
      have HE := Lib.hid hE
      have HK := Lib.hid hK
      clear hE hK
      obtain ⟨hl0, ⟨hv, hv0⟩ | ⟨g, cap, cur, hv, hv0⟩⟩ := hown2
      · subst hv
        have HRES : Hid (RdAt _ gr enc (raw ++ flB enc o) [] (ok && flK enc o) ∧ _) := Lib.hid (by rw [HE.out, HK.out]; exact fl_done hb2 HM.out)
        clear hb2 hl0 hv0
        go_wp2
        refine wp_loop_rounds 1 ?_
        rw [rounds_succ]
        go_wp2
        go_end0
        exact ⟨rfl, HRES.out.1, HRES.out.2⟩
      · rw [hn, hn0] at hv
        subst hv
        have HRES : Hid (RdAt _ gr enc (raw ++ flB enc o) [] (ok && flK enc o) ∧ _) := Lib.hid (by rw [HE.out, HK.out]; exact fl_done hb2 HM.out)
        clear hb2 hl0 hv0
        go_wp2
        refine wp_loop_rounds 1 ?_
        rw [rounds_succ]
        go_wp2
        go_end0
        exact ⟨rfl, HRES.out.1, HRES.out.2⟩
    obtain ⟨g, cap, hv, hgl, hcell⟩ := hown2.sl2 (by omega)
    have hgg : gr + 1 ≤ g := (hown2.lt g (by rw [hv]; rfl)).1
    rw [hn] at hv hcell
    subst hv
    have HB2 := Lib.hid hb2
    have HCELL := Lib.hid hcell
    have hnn : n ≤ 30000 := by omega
    clear hown2 hb2 hcell hn
    go_wp2
    go_loopw [24] (fun i wr => FlRel gr enc raw (.slice (some ⟨g, 0, none⟩) n cap) o2 ok (w) i wr) (fun i _ => n - (intOf i).toNat)
    case atStart => exact ⟨0, rfl, Nat.zero_le _, by simpa [encL, encAll] using HB2.out, Mut.refl _ _⟩
    case round =>
      obtain ⟨k, rfl, hk, hb, hm⟩ := hrel
      have hkn : k ≤ n := by have := HN.out; omega
      have hgw : gr < wr.heap.size := hb.lt
      have k2 : wr.cell? ⟨gr, 2, none⟩ = some (.slice (some ⟨g, 0, none⟩) n cap) := by rw [hb.cell]; rfl
      have q2 : wr.frozen? ⟨gr, 2, none⟩ = false := hb.frozen 2
      have HBr := Lib.hid hb
      have HMr := Lib.hid hm
      clear hk
      by_cases hlt : k < n
      · have cc : wr.cell? ⟨g, k, none⟩ = some (.int .i32 (o2.getD k 0)) := (hm.cell (p := ⟨g, k, none⟩) hgl (by show ¬ g = gr; omega)).trans (HCELL.out k hlt)
        have k0 : wr.cell? ⟨gr, 0, none⟩ = some (.int .i64 enc) := by rw [hb.cell]; rfl
        have hsz := encL_size enc (o2.take k)
        have htl : (o2.take k).length ≤ k := List.length_take_le _ _
        obtain ⟨c, hc⟩ : ∃ c, o2.getD k 0 = c := ⟨_, rfl⟩
        obtain ⟨raw1, hr1⟩ : ∃ raw1, raw ++ encL enc (o2.take k) = raw1 := ⟨_, rfl⟩
        obtain ⟨ok1, hk1⟩ : ∃ ok1, (ok && encAll enc (o2.take k)) = ok1 := ⟨_, rfl⟩
        have hr1s : raw1.size ≤ 10200000 := by have := HN.out; rw [← hr1, ByteArray.size_append]; omega
        have HX := Lib.hid (HENC.out c)
        have hes := encB_size enc c
        obtain ⟨eb, heb⟩ : ∃ eb, encB enc c = eb := ⟨_, rfl⟩
        obtain ⟨es, hese⟩ : ∃ es, (encC enc c).isSome = es := ⟨_, rfl⟩
        rw [heb] at hes
        rw [heb, hese] at HX
        rw [hc] at cc
        have hns : ¬ 9223372036854775807 < raw1.size + eb.size := by omega
        have HNX := Lib.hid (fun (w1 : World) (hf : Fresh wr w1) (ok2 : Bool) (h2 : (ok1 && es) = ok2) => fl_next (raw := raw) (ok := ok) (by have := HN.out; omega) hc hr1 hk1 (by have := HBr.out; rw [hr1, hk1] at this; exact this) HMr.out hf heb hese h2)
        have HB1 : Hid (Blk wr gr 182 #[.int .i64 enc, .string raw1, .slice (some ⟨g, 0, none⟩) n cap, .bool ok1]) := Lib.hid (by have := hb; rw [hr1, hk1] at this; exact this)
        have i1 : (0 : Int) ≤ (k : Int) := by omega
        have i2 : (k : Int) < (n : Int) := by omega
        clear hc hr1 hk1 heb hese hsz htl hb hm
        go_wp2_with fail
        refine (HX.out _).mono ?_
        rintro e w1 ⟨rfl, hf1⟩
        have hb1 := HB1.out.keep hf1
        have m1 : w1.cell? ⟨gr, 1, none⟩ = some (.string raw1) := by rw [hb1.cell]; rfl
        have m3 : w1.cell? ⟨gr, 3, none⟩ = some (.bool ok1) := by rw [hb1.cell]; rfl
        have n1 : w1.frozen? ⟨gr, 1, none⟩ = false := hb1.frozen 1
        have n3 : w1.frozen? ⟨gr, 3, none⟩ = false := hb1.frozen 3
        have HF1 := Lib.hid hf1
        clear hb1 hf1
        cases ok1 with
        | true =>
          have HR := Lib.hid (HNX.out w1 HF1.out es rfl)
          clear HNX
          go_wp2
          exact ⟨HR.out, by simp [intOf]; omega⟩
        | false =>
          have HR := Lib.hid (HNX.out w1 HF1.out false rfl)
          clear HNX
          go_wp2
          exact ⟨HR.out, by simp [intOf]; omega⟩
      · have hkE : o2.take k = o2 := List.take_of_length_le (by have := HN.out; omega)
        have hb3 := HBr.out
        rw [hkE, ← HFB.out, ← HFK.out] at hb3
        have HRES := Lib.hid (fl_done hb3 (HM.out.trans HMr.out))
        have hk1 : ¬ (k : Int) < (n : Int) := by omega
        clear hb hm hb3 hkE
        go_wp2
        go_end0
        exact ⟨rfl, HRES.out.1, HRES.out.2⟩
open Go.RowKit
theorem or16_dec : ((List.range 16).all fun a => (List.range 16).all fun b => decide (bits .or .i64 ((a : Int) * 16) (b : Int) = (a : Int) * 16 + b)) = true := by decide +kernel
theorem or16 {a b : Int} (ha : 0 ≤ a ∧ a < 16) (hb : 0 ≤ b ∧ b < 16) : bits .or .i64 (a * 16) b = a * 16 + b := by
  have h1 := List.all_eq_true.1 or16_dec a.toNat (List.mem_range.2 (by omega))
  have h2 := List.all_eq_true.1 h1 b.toNat (List.mem_range.2 (by omega))
  simp only [decide_eq_true_eq] at h2
  rwa [Int.toNat_of_nonneg ha.1, Int.toNat_of_nonneg hb.1] at h2
theorem digitI_range (c : Int) : -1 ≤ digitI c ∧ digitI c < 16 := by unfold digitI; split <;> (try split) <;> omega
theorem B_get (s : ByteArray) (k : Nat) (h : k < s.size) : (s[k]'h).toNat = B s k := B_at s k h
theorem RdAt.bad {w : World} {gr : Nat} {enc : Int} {raw : ByteArray} {o : List Int} {ok : Bool} (h : RdAt w gr enc raw o ok) (b : Bool) : RdAt (w.setCell ⟨gr, 3, none⟩ (.bool b)) gr enc raw o b ∧ Mut (fun k => k = gr) w (w.setCell ⟨gr, 3, none⟩ (.bool b)) := by
  obtain ⟨v, h1, h2⟩ := h
  have hm := (Mut.refl (fun k => k = gr) w).setCell (p := ⟨gr, 3, none⟩) (.inl rfl) (.bool b)
  exact ⟨⟨v, h1.set (i := 3) (u := .bool b), h2.mut hm fun k hk q => by omega⟩, hm⟩
theorem RdAt.mut {S : Nat → Prop} {w w' : World} {gr : Nat} {enc : Int} {raw : ByteArray} {o : List Int} {ok : Bool} (h : RdAt w gr enc raw o ok) (hf : Mut S w w') (hn : ∀ k, gr ≤ k → ¬ S k) : RdAt w' gr enc raw o ok := by
  obtain ⟨v, h1, h2⟩ := h
  exact ⟨v, h1.mut hf (hn gr (Nat.le_refl _)), h2.mut hf fun k hk => hn k (by omega)⟩
theorem RdAt.fresh {w w' : World} {gr : Nat} {enc : Int} {raw : ByteArray} {o : List Int} {ok : Bool} (h : RdAt w gr enc raw o ok) (hf : Fresh w w') : RdAt w' gr enc raw o ok := h.mut (hf.mut fun _ => False) (fun _ _ q => q)
theorem RdAt.raw {w w' : World} {gr : Nat} {enc : Int} {raw : ByteArray} {ok : Bool} (h : RdAt w gr enc raw [] ok) (hf : Fresh w w') (raw' : ByteArray) : RdAt (w'.setCell ⟨gr, 1, none⟩ (.string raw')) gr enc raw' [] ok ∧ Mut (fun k => k = gr) w (w'.setCell ⟨gr, 1, none⟩ (.string raw')) := by
  obtain ⟨v, h1, h2⟩ := h
  have hm := (hf.mut (fun k => k = gr)).setCell (p := ⟨gr, 1, none⟩) (.inl rfl) (.string raw')
  exact ⟨⟨v, (h1.keep hf).set (i := 1) (u := .string raw'), h2.mut hm fun k hk q => by omega⟩, hm⟩
set_option maxHeartbeats 3200000 in
set_option maxRecDepth 100000 in
theorem rescape_any (gr : Nat) (enc : Int) (raw : ByteArray) (o : List Int) (ok : Bool) (s : ByteArray) (w : World) (h0 : 0 ≤ enc) (h8 : enc ≤ 8) (ho : o.length ≤ 10000) (h32 : In32 o) (hs : raw.size ≤ 9000000) (h : RdAt w gr enc raw o ok) (hss : s.size ≤ 1000000) :
    Calls Tryz.prog 114 #[.pointer (some ⟨gr, 0, none⟩), .string s] w
      (if escOK s 0 then RdPost gr w enc (raw ++ flB enc o ++ byteS (digitI (B s 0) * 16 + digitI (B s 1))) [] (ok && flK enc o) else RdPost gr w enc raw o false) := by
  have HR := Lib.hid h
  have HFL := Lib.hid (rflush_any gr enc raw o ok w h0 h8 ho h32 (by omega) h)
  obtain ⟨v, hblk, _⟩ := h
  have c3 : w.cell? ⟨gr, 3, none⟩ = some (.bool ok) := by rw [hblk.cell]; rfl
  have f3 : w.frozen? ⟨gr, 3, none⟩ = false := hblk.frozen 3
  have HBAD := Lib.hid (HR.out.bad false)
  clear hblk
  by_cases hl : s.size < 2
  · rw [if_neg (by unfold escOK; omega)]
    go_enter Tryz.func114, Tryz.ntmps114
    go_wp2
    go_end0
    exact ⟨rfl, HBAD.out.1, HBAD.out.2⟩
  have hl2 : ¬ ((s.size : Int) < 2) := by omega
  have i0 : (0 : Int) < (s.size : Int) := by omega
  have i1 : (1 : Int) < (s.size : Int) := by omega
  have g0 := B_get s 0 (by omega)
  have g1 := B_get s 1 (by omega)
  have r0 := B_range s 0
  have r1 := B_range s 1
  obtain ⟨b0, hb0⟩ : ∃ b0, B s 0 = b0 := ⟨_, rfl⟩
  obtain ⟨b1, hb1⟩ : ∃ b1, B s 1 = b1 := ⟨_, rfl⟩
  rw [hb0] at g0 r0
  rw [hb1] at g1 r1
  rw [hb0, hb1]
  have HB0 := Lib.hid hb0
  have HB1 := Lib.hid hb1
  have HD0 := Lib.hid (fun W => digit_any b0 r0.1 r0.2 W)
  have HD1 := Lib.hid (fun W => digit_any b1 r1.1 r1.2 W)
  have q0 := digitI_range b0
  have q1 := digitI_range b1
  have hesc : escOK s 0 ↔ 0 ≤ digitI b0 ∧ 0 ≤ digitI b1 := by
    unfold escOK
    rw [HB0.out, HB1.out]
    omega
  clear hb0 hb1
  obtain ⟨d0, hd0⟩ : ∃ d0, digitI b0 = d0 := ⟨_, rfl⟩
  obtain ⟨d1, hd1⟩ : ∃ d1, digitI b1 = d1 := ⟨_, rfl⟩
  rw [hd0] at HD0 q0
  rw [hd1] at HD1 q1
  rw [hd0, hd1] at hesc ⊢
  clear hd0 hd1
  obtain ⟨q00, q01⟩ := q0
  obtain ⟨q10, q11⟩ := q1
  by_cases hn0 : d0 < 0
  · rw [if_neg (by rw [hesc]; omega)]
    clear hesc
    go_enter Tryz.func114, Tryz.ntmps114
    go_wp2_with fail
    refine (HD0.out _).mono ?_
    rintro e w1 ⟨rfl, rfl⟩
    go_wp2
    go_end0
    exact ⟨rfl, HBAD.out.1, HBAD.out.2⟩
  by_cases hn1 : d1 < 0
  · rw [if_neg (by rw [hesc]; omega)]
    clear hesc
    go_enter Tryz.func114, Tryz.ntmps114
    go_wp2_with fail
    refine (HD0.out _).mono ?_
    rintro e w1 ⟨rfl, rfl⟩
    go_wp2_with fail
    refine (HD1.out _).mono ?_
    rintro e w1 ⟨rfl, rfl⟩
    go_wp2
    go_end0
    exact ⟨rfl, HBAD.out.1, HBAD.out.2⟩
  rw [if_pos (by rw [hesc]; omega)]
  have hor : bits .or .i64 (d0 * 16) d1 = d0 * 16 + d1 := or16 (by omega) (by omega)
  clear hesc
  have hfs := encL_size enc (opn enc o)
  have hfo := opn_len enc o
  obtain ⟨raw1, hr1⟩ : ∃ raw1, raw ++ flB enc o = raw1 := ⟨_, rfl⟩
  have hr1s : raw1.size ≤ 10000000 := by
    rw [← hr1, ByteArray.size_append]
    have : (flB enc o).size = (encL enc (opn enc o)).size := rfl
    omega
  rw [hr1] at HFL ⊢
  clear hr1 hfs hfo
  have HCV := fun (W : World) (b : Nat) (h : W.cell? ⟨b, 0, none⟩ = some (.int .u8 (d0 * 16 + d1))) => run_convert_bytes_arg (P := Tryz.prog) W 131 5 Tryz.underlying131 Tryz.underlying5 b 0 1 1 [d0 * 16 + d1] rfl (by intro i hi; have : i = 0 := (by omega); subst this; simpa using h) 9 Tryz.underlying9
  have hbs : (byteS (d0 * 16 + d1)).size = 1 := by unfold byteS; rw [strOfNums_size]; rfl
  have hbd : strOfNums [d0 * 16 + d1] = byteS (d0 * 16 + d1) := rfl
  rw [hbd] at HCV
  generalize byteS (d0 * 16 + d1) = bs at HCV hbs ⊢
  have hns : ¬ 9223372036854775807 < raw1.size + bs.size := by omega
  clear hbs
  have w0 : IntKind.i64.wrap (d0 * 16) = d0 * 16 := by rw [IntKind.wrap_i64]; omega
  have w1 : IntKind.u8.wrap (d0 * 16 + d1) = d0 * 16 + d1 := by rw [IntKind.wrap_u8]; omega
  have j0 : 0 < s.size := by omega
  have j1 : 1 < s.size := by omega
  go_enter Tryz.func114, Tryz.ntmps114
  go_wp2_with fail
  refine (HD0.out _).mono ?_
  rintro e w1 ⟨rfl, rfl⟩
  go_wp2_with fail
  refine (HD1.out _).mono ?_
  rintro e w1 ⟨rfl, rfl⟩
  go_wp2_with fail
  refine HFL.out.mono ?_
  rintro e w2 ⟨rfl, hat, hm⟩
  have HAT := Lib.hid hat
  have HM := Lib.hid hm
  obtain ⟨v2, hblk, _⟩ := hat
  have m1 : w2.cell? ⟨gr, 1, none⟩ = some (.string raw1) := by rw [hblk.cell]; rfl
  have n1 : w2.frozen? ⟨gr, 1, none⟩ = false := hblk.frozen 1
  have hg2 := hblk.lt
  clear hblk hm
  go_wp2_with fail
  go_region_law (first
      | (go_simp; go_at_call 168; refine (HD0.out _).mono ?_; rintro e w4 ⟨rfl, rfl⟩)
      | (go_simp; go_at_call 168; refine (HD1.out _).mono ?_; rintro e w4 ⟨rfl, rfl⟩))
  all_goals
    have hz := HAT.out.raw (Fresh.refl _) (raw1 ++ bs)
    have HZ := Lib.hid (And.intro (hz.1.fresh (((Fresh.refl _).alloc (.cells #[.int .u8 (d0 * 16 + d1)] 5)).drew)) (hz.2.andFresh (((Fresh.refl _).alloc (.cells #[.int .u8 (d0 * 16 + d1)] 5)).drew)))
    clear hz
    have HMZ := Lib.hid (HM.out.trans HZ.out.2)
    go_wp2
    go_end0
    exact ⟨rfl, HZ.out.1, HMZ.out⟩
end Go.Proofs.YtpmlggjhfiljmaaGreatDoor
