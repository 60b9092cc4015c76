/- Contracts that the law rests on, part 22 of 50 (EscI, EscJ, EscK). Each states its own conditions. -/
import Derived.Laws.EntriesVeiled
import Derived.Test.YtpmlggjhfiljmaaGreatDoorC21
/- regular; Present. -/
namespace Go.Proofs.YtpmlggjhfiljmaaGreatDoor
open Go.RowKit
set_option linter.unusedVariables false
set_option linter.unnecessarySimpa false
set_option linter.unusedSimpArgs false
def RgRel (xs : List PN) (w : World) (out i : Value) (wr : World) : Prop :=
  ∃ (l1 l2 : List PN), xs = l1 ++ l2 ∧ i = .int .i64 (l1.length : Nat) ∧ OwnR wr w.heap.size out (runesOf (l1.map (·.1))) ∧ (∀ x ∈ l1, 0 ≤ x.1.1) ∧ Fresh w wr
theorem regB_neg {l1 l2 : List PN} {x : PN} (h : x.1.1 < 0) : regB ((l1 ++ x :: l2).map (·.1)) = false := by
  unfold regB
  simp
  intro h2 h3
  omega
theorem regB_pos {xs : List PN} (h : ∀ x ∈ xs, 0 ≤ x.1.1) : regB (xs.map (·.1)) = decide (apt (runesOf (xs.map (·.1))) = runesOf (xs.map (·.1))) := by
  unfold regB
  have : (xs.map (·.1)).all (fun p => decide (0 ≤ p.1)) = true := by
    rw [List.all_eq_true]
    intro p hp
    rw [List.mem_map] at hp
    obtain ⟨x, hx, rfl⟩ := hp
    exact decide_eq_true (h x hx)
  rw [this, Bool.true_and]
theorem runes_in32 {xs : List PN} (h : PartsOK xs) : In32 (runesOf (xs.map (·.1))) := by
  intro r hr
  unfold runesOf at hr
  rw [List.mem_map] at hr
  obtain ⟨p, hp, rfl⟩ := hr
  rw [List.mem_map] at hp
  obtain ⟨x, hx, rfl⟩ := hp
  exact (h x hx).1
theorem runesOf_snoc (l1 : List PN) (x : PN) : runesOf ((l1 ++ [x]).map (·.1)) = runesOf (l1.map (·.1)) ++ [x.1.1] := by simp [runesOf]
theorem runesOf_len (l : List PN) : (runesOf (l.map (·.1))).length = l.length := by simp [runesOf]
set_option maxHeartbeats 3200000 in
set_option maxRecDepth 100000 in
theorem regular_any (xs : List PN) (w : World) (hx : xs.length ≤ 10000) (hok : PartsOK xs) (v : Value) (hsl : SlT w w.heap.size v xs) :
    Calls Tryz.prog 55 #[v] w fun e w' => e = .returned (.bool (regB (xs.map (·.1)))) ∧ Fresh w w' := by
  obtain ⟨i0, hi0, hz0, hz1, hz2⟩ := info_parts info32
  have HOK := Lib.hid hok
  have HST : Hid (∀ (u : Value) (W : World), Sl W u (runesOf (xs.map (·.1))) → Calls Tryz.prog 24 #[u] W (SamePost (apt (runesOf (xs.map (·.1)))) (runesOf (xs.map (·.1))) W)) := Lib.hid (fun u W h => cstable_any u _ W h (by rw [runesOf_len]; omega) (runes_in32 hok))
  clear hok
  rcases hsl with ⟨rfl, a, cap, rfl⟩ | ⟨hxp, g, cap, rfl, hgB, hcell⟩
  · have HX := Lib.hid (HST.out (.slice none 0 0) w (OwnR.nil w 0).sl)
    have HRB : Hid (regB (([] : List PN).map (·.1)) = decide (apt (runesOf (([] : List PN).map (·.1))) = runesOf (([] : List PN).map (·.1)))) := Lib.hid (regB_pos fun x hx => by cases hx)
    go_enter Tryz.func55, Tryz.ntmps55
    go_wp2
    refine wp_loop_rounds 1 ?_
    rw [rounds_succ]
    go_wp2_with fail
    refine HX.out.mono ?_
    rintro e w1 ⟨rfl, hf⟩
    go_wp2
    go_ret
    exact ⟨by rw [HRB.out]; rfl, hf⟩
  have HCELL := Lib.hid hcell
  obtain ⟨n, hn⟩ : ∃ n, xs.length = n := ⟨_, rfl⟩
  have HN := Lib.hid hn
  rw [hn] at hxp hx ⊢
  clear hcell hn
  go_enter Tryz.func55, Tryz.ntmps55
  go_wp2
  go_loopw [3, 8] (fun out i wr => RgRel xs w out i wr) (fun _ i _ => n - (intOf i).toNat)
  case atStart => exact ⟨[], xs, rfl, rfl, OwnR.nil _ _, (fun x hx => nomatch hx), Fresh.refl _⟩
  case round =>
    obtain ⟨l1, l2, hx12, rfl, hown, hpos, hf⟩ := hrel
    have hln : l1.length + l2.length = n := by rw [← HN.out, hx12]; simp
    have HX12 := Lib.hid hx12
    have HPOS := Lib.hid hpos
    clear hx12 hpos
    cases l2 with
    | nil =>
      have hk0 : l1.length = n := by simpa using hln
      have hk1 : ¬ (l1.length : Int) < (n : Int) := by omega
      have hxe : xs = l1 := by have := HX12.out; simpa using this
      have HX := Lib.hid (HST.out _ wr (by rw [hxe]; exact hown.sl))
      have HRB := Lib.hid (regB_pos (xs := xs) (by rw [hxe]; exact HPOS.out))
      clear hln hxe hown
      go_wp2_with fail
      refine HX.out.mono ?_
      rintro e w1 ⟨rfl, hf1⟩
      go_wp2
      go_ret
      exact ⟨by rw [HRB.out]; rfl, hf.trans hf1⟩
    | cons x l2 =>
      have hk : l1.length < n := by simp at hln; omega
      have hcc := HCELL.out l1.length (by rw [HN.out]; exact hk)
      have hxk : xs[l1.length]'(by rw [HN.out]; exact hk) = x := by
        have := HX12.out
        subst this
        simp
      rw [hxk] at hcc
      obtain ⟨⟨r, b, l⟩, m⟩ := x
      obtain ⟨cA, cB, cC, cD⟩ := hcc
      have dA := (Below.cell hf (p := ⟨g, l1.length * 4, none⟩) hgB).trans cA
      have dB := (Below.cell hf (p := ⟨g, l1.length * 4 + 1, none⟩) hgB).trans cB
      have dC := (Below.cell hf (p := ⟨g, l1.length * 4 + 2, none⟩) hgB).trans cC
      have dD := (Below.cell hf (p := ⟨g, l1.length * 4 + 3, none⟩) hgB).trans cD
      simp only at dA dB dC dD
      obtain ⟨k, hkk⟩ : ∃ k, l1.length = k := ⟨_, rfl⟩
      rw [hkk] at dA dB dC dD hk ⊢
      have HK := Lib.hid hkk
      have i1 : (0 : Int) ≤ (k : Int) := by omega
      have i2 : (k : Int) < (n : Int) := by omega
      clear cA cB cC cD hxk hkk hln
      by_cases hr : r < 0
      · have HRB : Hid (regB (xs.map (·.1)) = false) := Lib.hid (by rw [HX12.out]; exact regB_neg hr)
        clear hown
        go_wp2
        go_ret
        exact ⟨by rw [HRB.out]; rfl, hf.alloc _⟩
      · have HR0 : Hid (0 ≤ r) := Lib.hid (by omega)
        have hown3 := hown
        unfold OwnR at hown3
        rw [runesOf_len, HK.out] at hown3
        go_wp2_with (at_builtin; refine wpList_append_own2 _ rfl _ _ 50 rfl w.heap.size 21 i0 (.int .i32 0) 1 4 Tryz.underlying50 hi0 hz0 hz1 hz2 rfl (by decide) _ _ _ rfl ((hown3.alloc _).alloc _) ⟨wr.heap.size + 1, 0, none⟩ 1 1 [.int .i32 r] rfl rfl ?c1 ?c2 ?c3 ?c4 ?c5 ?_)
        case c2 => rfl
        case c3 => unfold maxLen; omega
        case c4 => omega
        case c5 => have := hf.size; omega
        intro v' w' hown' hgrow hblk
        have hf' : Fresh w w' := Below.grown ((hf.alloc _).alloc _) hgrow (by have := hf.size; simp; omega) (fun g hg => (hown.lt g hg).1)
        have hn' : OwnR w' w.heap.size v' (runesOf ((l1 ++ [((r, b, l), m)]).map (·.1))) := by
          rw [runesOf_snoc]
          refine OwnR.push ?_
          rw [runesOf_len, HK.out]
          exact hown'
        have HP : Hid (RgRel xs w v' (.int .i64 ((k : Int) + 1)) w') := Lib.hid ⟨l1 ++ [((r, b, l), m)], l2, by rw [HX12.out]; simp, by rw [List.length_append, HK.out]; rfl, hn', (fun x hx => by
          rcases List.mem_append.1 hx with q | q
          · exact HPOS.out x q
          · simp at q; rw [q]; exact HR0.out), hf'⟩
        clear hown' hgrow hblk hown hown3 hf' hn'
        go_wp2
        exact ⟨HP.out, by simp [intOf]; omega⟩
end Go.Proofs.YtpmlggjhfiljmaaGreatDoor
/- Present. -/
namespace Go.Proofs.YtpmlggjhfiljmaaGreatDoor
open Go.RowKit
set_option linter.unusedVariables false
set_option linter.unnecessarySimpa false
set_option linter.unusedSimpArgs false
/-- the pieces of a name -/
def pcsF (enc : Int) (s : ByteArray) : Nat → Nat → List (Int × Int)
  | 0, _ => []
  | f + 1, p => if p < s.size then nextC enc s p :: pcsF enc s f (p + (nextC enc s p).2.toNat) else []
def pcsS (enc : Int) (s : ByteArray) : List (Int × Int) := pcsF enc s s.size 0
theorem pcsF_chain {enc : Int} {s : ByteArray} (h0 : 0 ≤ enc) (h8 : enc ≤ 8) : ∀ (f p : Nat), s.size - p ≤ f → p ≤ s.size → Chain enc s p (pcsF enc s f p) s.size
  | 0, p, h1, h2 => by
    have : p = s.size := by omega
    exact this
  | f + 1, p, h1, h2 => by
    unfold pcsF
    by_cases hp : p < s.size
    · rw [if_pos hp]
      have := next_step h0 h8 hp
      exact ⟨hp, rfl, pcsF_chain h0 h8 f _ (by omega) (by omega)⟩
    · rw [if_neg hp]
      have : p = s.size := by omega
      exact this
theorem pcs_chain {enc : Int} {s : ByteArray} (h0 : 0 ≤ enc) (h8 : enc ≤ 8) : Chain enc s 0 (pcsS enc s) s.size := pcsF_chain h0 h8 _ _ (by omega) (Nat.zero_le _)
theorem chain_unique {enc : Int} {s : ByteArray} : ∀ {xs ys : List (Int × Int)} {p : Nat}, Chain enc s p xs s.size → Chain enc s p ys s.size → xs = ys
  | [], [], _, _, _ => rfl
  | [], y :: ys, p, h, k => by
    have h : p = s.size := h
    have := k.1
    omega
  | x :: xs, [], p, h, k => by
    have k : p = s.size := k
    have := h.1
    omega
  | x :: xs, y :: ys, p, h, k => by
    have e : x = y := h.2.1.symm.trans k.2.1
    subst e
    rw [chain_unique h.2.2 k.2.2]
def presC (enc : Int) (s : ByteArray) : List Int := presL enc (prt s 0 (pcsS enc s))
def presS (enc : Int) (s : ByteArray) : ByteArray := joinS (presC enc s)
theorem chain_len {enc : Int} {s : ByteArray} (h0 : 0 ≤ enc) (h8 : enc ≤ 8) : ∀ {xs : List (Int × Int)} {p : Nat}, p ≤ s.size → Chain enc s p xs s.size → xs.length ≤ s.size - p
  | [], _, _, _ => Nat.zero_le _
  | x :: xs, p, hp, h => by
    have hs := next_step h0 h8 h.1
    rw [h.2.1] at hs
    have := chain_len h0 h8 (by omega) h.2.2
    rw [List.length_cons]
    omega
theorem prn_mem {s : ByteArray} : ∀ {xs : List (Int × Int)} {p : Nat} {x : PN}, x ∈ prn s p xs → x.1.2.1.size ≤ s.size
  | [], _, _, h => nomatch h
  | y :: ys, p, x, h => by
    rcases List.mem_cons.1 h with e | h
    · subst e
      simp only [ByteArray.size_extract]
      omega
    · exact prn_mem h
theorem prn_ok {enc : Int} {s : ByteArray} {xs : List (Int × Int)} (h0 : 0 ≤ enc) (h8 : enc ≤ 8) (hs : s.size ≤ 10000) (hc : Chain enc s 0 xs s.size) : PartsOK (prn s 0 xs) := by
  intro x hx
  have h1 := prn_mem hx
  have h2 : x.1 ∈ prt s 0 xs := by rw [← prn_fst]; exact List.mem_map_of_mem hx
  have h3 := (prt_ok h0 h8 xs 0 (Nat.zero_le _) hc).1 _ h2
  refine ⟨?_, by omega⟩
  rcases h3 with ⟨a, b, _⟩ | ⟨a, _⟩
  · have := isC_true b; omega
  · omega
theorem hidFn : HidFn 53 hidB := fun p n w h => hidden_any p n h w
theorem strFn : HidFn 56 strB := fun p n w h => strange_any p n h w
theorem showFn (J : List Int → List Int) (jf : Value) : ShowFn 54 jf J false := fun gw out o p n w h1 _ _ _ h => by
  have := show_any jf gw out o p n w h1 h
  simpa [stO, stL] using this
theorem markFn (J : List Int → List Int) (jf : Value) (HF : Flushes jf J) : ShowFn 57 jf J true := fun gw out o p n w h1 h2 h3 h4 h => by
  have := mark_any jf J HF gw out o p n w h1 h2 h3 h4 h
  simpa using this
end Go.Proofs.YtpmlggjhfiljmaaGreatDoor
/- Present. -/
namespace Go.Proofs.YtpmlggjhfiljmaaGreatDoor
open Go.RowKit
set_option linter.unusedVariables false
set_option linter.unnecessarySimpa false
set_option linter.unusedSimpArgs false
theorem presC_len {enc : Int} {s : ByteArray} (h0 : 0 ≤ enc) (h8 : enc ≤ 8) : (presC enc s).length ≤ 3 * s.size := pres_len h0 h8 (pcs_chain h0 h8)
theorem presS_size {enc : Int} {s : ByteArray} (h0 : 0 ≤ enc) (h8 : enc ≤ 8) : (presS enc s).size ≤ 12 * s.size := by
  have := joinS_size (presC enc s)
  have := presC_len (s := s) h0 h8
  unfold presS
  omega
theorem SlT.alloc {w : World} {v : Value} {xs : List PN} (h : SlT w w.heap.size v xs) (o : Obj) : SlT (w.alloc o) w.heap.size v xs := h.below ((Below.refl _ _).alloc (Nat.le_refl _) o)
theorem WrAt.new (w : World) (jf : Value) : WrAt (w.alloc (.cells #[.string ⟨#[]⟩, .slice none 0 0, jf] 115)) w.heap.size ByteArray.empty [] jf := ⟨_, Blk.new _ _ _, OwnR.nil _ _⟩
theorem WrAt.join {w : World} {gw : Nat} {out : ByteArray} {o : List Int} {jf : Value} (h : WrAt w gw out o jf) (j2 : Value) : WrAt (w.setCell ⟨gw, 2, none⟩ j2) gw out o j2 := by
  obtain ⟨v, h1, h2⟩ := h
  exact ⟨v, h1.set (i := 2) (u := j2), h2.mut ((Mut.refl (fun k => k = gw) _).setCell (p := ⟨gw, 2, none⟩) (.inl rfl) _) fun k hk q => by omega⟩
set_option maxHeartbeats 3200000 in
set_option maxRecDepth 100000 in
theorem present_any (enc : Int) (s : ByteArray) (h0 : 0 ≤ enc) (h8 : enc ≤ 8) (hs : s.size ≤ 10000) (w : World) :
    Calls Tryz.prog 16 #[.int .i64 enc, .string s] w fun e w' => e = .returned (.string (presS enc s)) ∧ Fresh w w' := by
  have HPT := Lib.hid (parts_any enc s h0 h8 (by omega) w)
  have hch := pcs_chain (s := s) h0 h8
  have HCH := Lib.hid hch
  have HOK := Lib.hid (prn_ok h0 h8 hs hch)
  have HLN := Lib.hid (chain_len h0 h8 (Nat.zero_le _) hch)
  have HPL := Lib.hid (prn_len s (pcsS enc s) 0)
  have HSZ := Lib.hid (presS_size (s := s) h0 h8)
  have HFS := Lib.hid (prn_fst s (pcsS enc s) 0)
  clear hch
  by_cases he : enc = 8
  · subst he
    go_enter Tryz.func16, Tryz.ntmps16
    go_wp2_with fail
    refine HPT.out.mono ?_
    rintro e w1 ⟨v, xs, rfl, hc1, hl1, hown, hf1⟩
    have hxe := chain_unique hc1 HCH.out
    subst hxe
    have hsl := hown.sl
    have hnl : (prn s 0 (pcsS 8 s)).length ≤ 10000 := by have := HPL.out; have := HLN.out; omega
    have HA0 := Lib.hid (WrAt.new w1 jfA)
    have HSL := Lib.hid hsl
    have HF1 := Lib.hid hf1
    have HRG := Lib.hid (regular_any (prn s 0 (pcsS 8 s)) (w1.alloc (.cells #[.string ⟨#[]⟩, .slice none 0 0, jfA] 115)) hnl HOK.out v ((HSL.out.alloc _).below (Below.refl _ _) |> fun h => by
      rcases h with h | ⟨q0, g, cap, q1, q2, q3⟩
      · exact .inl h
      · exact .inr ⟨q0, g, cap, q1, by simp; omega, q3⟩))
    rw [HFS.out] at HRG
    unfold jfA at HRG
    clear hown hc1 hsl hf1
    go_wp2_with fail
    refine HRG.out.mono ?_
    rintro e w2 ⟨rfl, hf2⟩
    have HW2 := Lib.hid (HA0.out.fresh (by unfold jfA; exact hf2))
    have HB2 := Lib.hid (((Below.refl w1.heap.size w1).alloc (Nat.le_refl _) _).trans (hf2.below.mono (B' := w1.heap.size) (by simp)))
    have HSL2 := Lib.hid (HSL.out.below HB2.out)
    cases hr : regB (prt s 0 (pcsS 8 s)) with
    | true =>
      have hT : joinS (prL tog hidB true ((prn s 0 (pcsS 8 s)).map (·.1)) []) = presS 8 s := by
        rw [HFS.out]
        unfold presS presC presL
        rw [if_neg (by decide), if_pos hr]
      have HX := Lib.hid (all_any 53 57 hidB true jfT tog flushesT hidFn (markFn _ _ flushesT) enters_hidden enters_mark w1.heap.size (prn s 0 (pcsS 8 s)) (w2.setCell ⟨w1.heap.size, 2, none⟩ jfT) (by omega) HOK.out (presS 8 s) hT (by have := HSZ.out; omega) v (HSL2.out.below ((Below.refl w1.heap.size w2).setCell (p := ⟨w1.heap.size, 2, none⟩) (Nat.le_refl _) _)) (HW2.out.join jfT))
      unfold jfT at HX
      clear hr hT
      obtain ⟨vv, hblk, _⟩ := HW2.out
      have hfz : w2.frozen? ⟨w1.heap.size, 2, none⟩ = false := hblk.frozen 2
      have hc2 : w2.cell? ⟨w1.heap.size, 2, none⟩ = some jfA := by rw [hblk.cell]; rfl
      unfold jfA at hc2
      clear hblk
      go_wp2_with fail
      refine HX.out.mono ?_
      rintro e w3 ⟨rfl, hb3⟩
      have HE := Lib.hid ((HF1.out.trans ((HB2.out.setCell (p := ⟨w1.heap.size, 2, none⟩) (Nat.le_refl _) _).trans hb3)))
      clear hb3
      go_wp2
      go_ret
      exact ⟨rfl, HE.out⟩
    | false =>
      have hT : joinS (prL id strB false ((prn s 0 (pcsS 8 s)).map (·.1)) []) = presS 8 s := by
        rw [HFS.out]
        unfold presS presC presL
        rw [if_neg (by decide), if_neg (by rw [hr]; simp)]
      have HX := Lib.hid (all_any 56 54 strB false jfA id flushesA strFn (showFn _ _) enters_strange enters_show w1.heap.size (prn s 0 (pcsS 8 s)) w2 (by omega) HOK.out (presS 8 s) hT (by have := HSZ.out; omega) v HSL2.out HW2.out)
      clear hr hT
      go_wp2_with fail
      refine HX.out.mono ?_
      rintro e w3 ⟨rfl, hb3⟩
      have HE := Lib.hid (HF1.out.trans (HB2.out.trans hb3))
      clear hb3
      go_wp2
      go_ret
      exact ⟨rfl, HE.out⟩
  · have hne : (enc != 8) = true := by simp [he]
    have hT : joinS (prL id hidB false ((prn s 0 (pcsS enc s)).map (·.1)) []) = presS enc s := by
      rw [HFS.out]
      unfold presS presC presL
      rw [if_pos he]
    have HT := Lib.hid hT
    clear he hT
    go_enter Tryz.func16, Tryz.ntmps16
    go_wp2_with fail
    refine HPT.out.mono ?_
    rintro e w1 ⟨v, xs, rfl, hc1, hl1, hown, hf1⟩
    have hxe := chain_unique hc1 HCH.out
    subst hxe
    have hsl := hown.sl
    have hnl : (prn s 0 (pcsS enc s)).length ≤ 10000 := by have := HPL.out; have := HLN.out; omega
    have HF1 := Lib.hid hf1
    have HX := Lib.hid (all_any 53 54 hidB false jfA id flushesA hidFn (showFn _ _) enters_hidden enters_show w1.heap.size (prn s 0 (pcsS enc s)) _ (by omega) HOK.out (presS enc s) HT.out (by have := HSZ.out; omega) v (hsl.alloc _) (WrAt.new w1 jfA))
    unfold jfA at HX
    clear hown hc1 hsl hf1
    go_wp2_with fail
    refine HX.out.mono ?_
    rintro e w3 ⟨rfl, hb3⟩
    have HE := Lib.hid (HF1.out.trans (((Below.refl w1.heap.size w1).alloc (Nat.le_refl _) _).trans hb3))
    clear hb3
    go_wp2
    go_ret
    exact ⟨rfl, HE.out⟩
end Go.Proofs.YtpmlggjhfiljmaaGreatDoor
