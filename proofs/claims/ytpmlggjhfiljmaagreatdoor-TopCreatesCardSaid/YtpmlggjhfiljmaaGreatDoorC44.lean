/- Contracts that the law rests on, part 44 of 50 (FsyF, FsyP, CreP, FsyL). Each states its own conditions. -/
import Derived.Test.YtpmlggjhfiljmaaGreatDoorC25
import Derived.Test.YtpmlggjhfiljmaaGreatDoorC43
/- Layer 17: Format and Mount of a new device. -/
namespace Go.Proofs.YtpmlggjhfiljmaaGreatDoor
open Go.RowKit
set_option linter.unusedVariables false
set_option linter.unnecessarySimpa false
set_option linter.unusedSimpArgs false
attribute [local go_sem ↓] Go.wp_at_zero Go.wp_at_succ
theorem TOK.t0 {enc : Int} {T : TreS} (h : IsT0 T) : TOK enc T := by
  have hd : ∀ d l, T.dirs d = some l → l = [] := fun d l hl => by
    rw [h.1] at hl
    split at hl
    · injection hl with hl; exact hl.symm
    · cases hl
  exact ⟨fun d l hl e he => by rw [hd d l hl] at he; simp at he, fun d l hl => by rw [hd d l hl]; simp, fun d l hl e he => by rw [hd d l hl] at he; simp at he⟩
theorem TB.t0 {T : TreS} {qt : Nat} (h : IsT0 T) (hq : qt ≤ 100000) : TB T qt := by
  have hd : ∀ d l, T.dirs d = some l → l = [] := fun d l hl => by
    rw [h.1] at hl
    split at hl
    · injection hl with hl; exact hl.symm
    · cases hl
  obtain ⟨_, h2, _, _, _, h6⟩ := h
  exact ⟨hq, by rw [h6]; simp, fun d l hl => by rw [hd d l hl]; simp, by rw [h2]; omega⟩
theorem enters_clean1 : ∀ (args : Array Value) (W : World), Sem.run Tryz.prog (callFunc 81 args) W = .ok (.enter 81 args) W := by intro args w; go_simp
set_option maxHeartbeats 800000 in
theorem names_nil (enc : Int) (a : Option Addr) (c : Nat) (w : World) : Calls Tryz.prog 74 #[.int .i64 enc, .slice a 0 c] w fun e w' => e = .returned (.slice none 0 0) ∧ w = w' := by
  go_enter Tryz.func74, Tryz.ntmps74
  go_wp2
  refine wp_loop_rounds 1 ?_
  rw [rounds_succ]
  go_wp2
  go_ret
  exact ⟨rfl, rfl⟩
set_option maxHeartbeats 800000 in
theorem clean_nil (enc : Int) (a : Option Addr) (c : Nat) (w : World) : Calls Tryz.prog 38 #[.int .i64 enc, .slice a 0 c] w fun e w' => e = .returned (.bool true) ∧ Fresh w w' := by
  have hf : Fresh w (w.alloc (.cells #[.int .i64 enc] 3)) := (Fresh.refl _).alloc _
  have HX := Lib.hid (fun W => containsFunc_any (fun _ => True) (.slice a 0 c) [] W ⟨by simp [ecs], a, c, rfl, Nat.zero_le _, .inl rfl⟩ (by simp) 81 #[] #[.pointer (some ⟨w.heap.size, 0, none⟩)] (fun _ => false) ⟨enters_clean1, fun W hW e he => by simp at he⟩)
  have HN := Lib.hid (fun W => names_nil enc a c W)
  have HS := Lib.hid (fun W => Tryz.slices_Sort_string_none none 0 W)
  have HC := Lib.hid (fun W => Tryz.slices_Compact_string_empty none 0 W)
  have hfx : fidx (fun _ : Ent => false) [] = -1 := rfl
  rw [hfx] at HX
  clear hf hfx
  go_enter Tryz.func38, Tryz.ntmps38
  go_wp2_with fail
  refine (HX.out _).mono ?_
  rintro e w1 ⟨rfl, hf1⟩
  have HF := Lib.hid (((Fresh.refl w).alloc _).trans hf1)
  have c0 : w1.cell? ⟨w.heap.size, 0, none⟩ = some (.int .i64 enc) := ((Blk.new w 3 #[.int .i64 enc]).keep hf1).cell 0
  clear hf1
  go_wp2_with fail
  refine (HN.out _).mono ?_
  rintro e w2 ⟨rfl, rfl⟩
  go_wp2_with fail
  refine (HS.out _).mono ?_
  rintro e w3 ⟨rfl, rfl⟩
  go_wp2_with fail
  refine (HC.out _).mono ?_
  rintro e w3 ⟨rfl, rfl⟩
  go_wp2
  go_ret
  exact ⟨rfl, HF.out⟩
end Go.Proofs.YtpmlggjhfiljmaaGreatDoor
/- Layer 17, plain: the path of a name that stands in the root; the pool without numbers that were given back. -/
namespace Go.Proofs.YtpmlggjhfiljmaaGreatDoor
open Go.RowKit
set_option linter.unusedVariables false
set_option linter.unnecessarySimpa false
set_option linter.unusedSimpArgs false
/-- a name that may stand in a path -/
def PathN (s : ByteArray) : Prop := 1 ≤ s.size ∧ s.size ≤ 1000 ∧ (∀ b ∈ s.data.toList, b.toNat ≠ 47) ∧ s ≠ dotS ∧ s ≠ dotsS
theorem splL_plain : ∀ (l : List UInt8), (∀ b ∈ l, b.toNat ≠ 47) → splL l = [l]
  | [], _ => rfl
  | c :: l, h => by
    unfold splL
    rw [if_neg (h c (by simp)), splL_plain l (fun b hb => h b (by simp [hb]))]
theorem slash_size (s : ByteArray) : (slashS ++ s).size = s.size + 1 := by
  rw [ByteArray.size_append]
  show 1 + _ = _
  omega
theorem slash_rest (s : ByteArray) : restP (slashS ++ s) = s := by
  unfold restP
  rw [slash_size]
  exact ByteArray.extract_append_eq_right rfl (by show _ = 1 + _; omega)
theorem slash_head (s : ByteArray) : ((slashS ++ s).data.toList.getD 0 0).toNat = 47 := by
  have : (slashS ++ s).data.toList = 47 :: s.data.toList := by rw [ByteArray.data_append, Array.toList_append]; rfl
  rw [this]; rfl
theorem badN_one {s : ByteArray} (h : PathN s) : ¬ badN [s] = true := by
  obtain ⟨h1, h2, h3, h4, h5⟩ := h
  intro hb
  unfold badN at hb
  simp only [List.any_cons, List.any_nil, Bool.or_false, Bool.or_eq_true, beq_iff_eq] at hb
  rcases hb with (hb | hb) | hb
  · rw [toList_inj] at hb; rw [hb] at h1; exact absurd h1 (by decide)
  · exact h4 (toList_inj.1 hb)
  · exact h5 (toList_inj.1 hb)
theorem splB_one {s : ByteArray} (h : PathN s) : splB s = [s] := by
  unfold splB
  rw [splL_plain _ h.2.2.1]
  simp
theorem splitP_one {s : ByteArray} (h : PathN s) : splitP (slashS ++ s) = .inl [s] := by
  have h1 := h.1
  have h2 := h.2.1
  unfold splitP
  rw [slash_size, slash_rest, splB_one h, slash_head]
  rw [if_neg (by omega), if_neg (by simp), if_neg (by omega), if_neg (badN_one h), if_neg (by simp)]
theorem parT_one {enc : Int} {T : TreS} {s : ByteArray} (h : PathN s) : parT enc T (slashS ++ s) = .inl (0, s) := by
  unfold parT
  rw [splitP_one h]
  rfl
/-- the root's entries -/
def rootL (T : TreS) : List Ent := (T.dirs 0).getD []
theorem atR_one {enc : Int} {T : TreS} {s : ByteArray} (h : PathN s) : atR enc T (slashS ++ s) = match (rootL T).find? (faceB enc s) with
    | none => (0, s, ent0, 5)
    | some e => (0, s, e, 0) := by
  unfold atR
  rw [parT_one h]
  rfl
theorem freshR_one {enc : Int} {T : TreS} {s : ByteArray} (h : PathN s) (hf : (rootL T).find? (faceB enc s) = none) : freshR enc T (slashS ++ s) = (0, (rawF enc s).1, (rawF enc s).2) := by
  have h1 := h.1
  unfold freshR
  rw [atR_one h, hf]
  simp only
  rw [if_neg (by decide), if_neg (by intro q; rcases q with q | q; exact q rfl; omega)]
theorem next_le {O : Int → Bool} {fr k : Int} (hO : OutOK O) (hf : fr ≤ 201) (h : NextIs O fr k) : k ≤ 201 := by
  obtain ⟨h1, h2, h3⟩ := h
  rcases (by omega : 201 < k ∨ k ≤ 201) with q | q
  · have := (hO _ (h3 201 hf q)).2; omega
  · exact q
/-- of a pool without numbers that were given back -/
def RNew (T : TreS) (k fr : Int) (bk : List Int) : Prop := NextIs T.out T.fr k ∧ fr = k ∧ bk = []
theorem takes_new {T : TreS} {qt : Nat} (hb : T.bk = []) (hO : OutOK T.out) (hf : 1 ≤ T.fr ∧ T.fr ≤ 201) (hq : qt ≤ 1000000) : Takes (RNew T) T qt := by
  intro W A p h
  rw [hb] at h
  refine (take_new W A p T.fr T.out qt h hO hf hq).mono ?_
  rintro e w' ⟨k, A', hn, hm, hg, h⟩
  have hk := next_le hO hf.2 hn
  have h1 := hn.1
  refine ⟨k, k, [], A', ⟨hn, rfl, rfl⟩, ⟨by omega, by omega⟩, hm, hg, ?_⟩
  rcases h with ⟨h1, h2, h3⟩ | ⟨h1, h2, h3⟩
  · exact .inl ⟨h1, h2, h3⟩
  · exact .inr ⟨h1, h2, h3.le (by omega)⟩
theorem IsT0.root {T : TreS} (h : IsT0 T) : rootL T = [] := by
  unfold rootL
  rw [h.1]
  rfl
theorem IsT0.out {T : TreS} (h : IsT0 T) : OutOK T.out := fun i hi => by rw [h.2.2.2.1] at hi; cases hi
theorem IsT0.takes {T : TreS} {qt : Nat} (h : IsT0 T) (hq : qt ≤ 1000000) : Takes (RNew T) T qt := takes_new h.2.2.2.2.2 h.out (by rw [h.2.2.2.2.1]; omega) hq
theorem IsT0.first {T : TreS} (h : IsT0 T) {k fr : Int} {bk : List Int} (hr : RNew T k fr bk) : k = 1 := by
  obtain ⟨⟨h1, h2, h3⟩, _, _⟩ := hr
  rw [h.2.2.2.2.1] at h1 h3
  rcases (by omega : 1 < k ∨ k ≤ 1) with q | q
  · have := h3 1 (by omega) q; rw [h.2.2.2.1] at this; cases this
  · omega
end Go.Proofs.YtpmlggjhfiljmaaGreatDoor
/- TopCreates, plain: of characters' bytes the name that is presented is these characters. -/
namespace Go.Proofs.YtpmlggjhfiljmaaGreatDoor
open Go.RowKit
set_option linter.unusedVariables false
set_option linter.unnecessarySimpa false
set_option linter.unusedSimpArgs false
theorem stands_mid {A R : ByteArray} {l : List Int} (h : ∀ x ∈ l, 0 ≤ x ∧ x < 256) : Stands (A ++ (strOfNums l ++ R)) A.size l :=
  ⟨by rw [ByteArray.size_append, ByteArray.size_append, strOfNums_size]; omega, fun i hi => by
    rw [B_append_right, B_append_left _ _ _ (by rw [strOfNums_size]; exact hi)]; exact B_strOfNums h hi⟩
/-- characters that all have bytes -/
def EncOK (enc : Int) (l : List Int) : Prop := ∀ r ∈ l, (encC enc r).isSome = true
def cutP (enc : Int) (l : List Int) : List (Int × Int) := l.map fun r => (r, ((encB enc r).size : Int))
theorem encB_some {enc r : Int} {x : List Int} (h : encC enc r = some x) : encB enc r = strOfNums x := by unfold encB; rw [h]
theorem encB_pos {enc r : Int} (h : (encC enc r).isSome = true) : 1 ≤ (encB enc r).size := by
  cases hx : encC enc r with
  | none => rw [hx] at h; cases h
  | some x => rw [encB_some hx, strOfNums_size]; exact (encC_bytes hx).2.1
theorem cut_chain {enc : Int} (h0 : 0 ≤ enc) (h8 : enc ≤ 8) : ∀ (l : List Int) (A : ByteArray), EncOK enc l → Chain enc (A ++ encL enc l) A.size (cutP enc l) (A ++ encL enc l).size
  | [], A, _ => by
    show A.size = (A ++ ByteArray.empty).size
    simp
  | r :: l, A, h => by
    have hr := h r (by simp)
    obtain ⟨x, hx⟩ := Option.isSome_iff_exists.1 hr
    have ih := cut_chain h0 h8 l (A ++ encB enc r) (fun q hq => h q (by simp [hq]))
    have he : A ++ encL enc (r :: l) = (A ++ encB enc r) ++ encL enc l := by
      show A ++ (encB enc r ++ encL enc l) = _
      rw [ByteArray.append_assoc]
    have hp := encB_pos hr
    have hn : nextC enc (A ++ encL enc (r :: l)) A.size = (r, ((encB enc r).size : Int)) := by
      rw [encB_some hx, strOfNums_size]
      refine next_enc h0 h8 hx ?_
      show Stands (A ++ (encB enc r ++ encL enc l)) A.size x
      rw [encB_some hx]
      exact stands_mid (encC_bytes hx).1
    refine ⟨?_, hn, ?_⟩
    · rw [he, ByteArray.size_append, ByteArray.size_append]; omega
    · rw [he]
      have : A.size + ((encB enc r).size : Int).toNat = (A ++ encB enc r).size := by rw [ByteArray.size_append]; simp
      show Chain enc _ (A.size + ((encB enc r).size : Int).toNat) _ _
      rw [this]
      exact ih
theorem encL_pos {enc : Int} {l : List Int} (h : EncOK enc l) (hl : l ≠ []) : 1 ≤ (encL enc l).size := by
  cases l with
  | nil => exact absurd rfl hl
  | cons r l =>
    have := encB_pos (h r (by simp))
    show 1 ≤ (encB enc r ++ encL enc l).size
    rw [ByteArray.size_append]; omega
/-- nothing of what stands is hidden -/
theorem cut_hid {enc : Int} {s : ByteArray} : ∀ (l : List Int) (A : ByteArray), s = A ++ encL enc l → EncOK enc l → (∀ r ∈ l, resB r = false) → (∀ z, l.getLast? = some z → z ≠ 46 ∧ z ≠ 32) → ∀ q ∈ prt s A.size (cutP enc l), hidB q = false
  | [], A, _, _, _, _ => fun q hq => by simp [cutP, prt] at hq
  | r :: l, A, hs, h, hr, hz => fun q hq => by
    obtain ⟨x, hx⟩ := Option.isSome_iff_exists.1 (h r (by simp))
    have hc := isC_true (encC_isC hx)
    have he : s = (A ++ encB enc r) ++ encL enc l := by rw [hs, ByteArray.append_assoc]; rfl
    have hsz : A.size + ((encB enc r).size : Int).toNat = (A ++ encB enc r).size := by rw [ByteArray.size_append]; simp
    have hq' : q ∈ (r, s.extract A.size (A.size + ((encB enc r).size : Int).toNat), decide (A.size + ((encB enc r).size : Int).toNat = s.size)) :: prt s (A.size + ((encB enc r).size : Int).toNat) (cutP enc l) := hq
    rcases List.mem_cons.1 hq' with rfl | hq2
    · have hlast : l = [] → r ≠ 46 ∧ r ≠ 32 := fun e => hz r (by rw [e]; rfl)
      have hfl : l ≠ [] → decide (A.size + ((encB enc r).size : Int).toNat = s.size) = false := fun e => decide_eq_false (by
        have := encL_pos (fun q hq => h q (by simp [hq])) e
        rw [hsz, he, ByteArray.size_append (a := A ++ encB enc r)]; omega)
      have hres := hr r (by simp)
      unfold hidB
      simp only [hres, Bool.or_false]
      by_cases e : l = []
      · have := hlast e
        simp [this.1, this.2]
        omega
      · rw [hfl e]
        simp
        omega
    · rw [hsz] at hq2
      refine cut_hid l (A ++ encB enc r) he (fun q hq => h q (by simp [hq])) (fun q hq => hr q (by simp [hq])) (fun z hz' => ?_) q hq2
      cases l with
      | nil => cases hz'
      | cons y l => exact hz z (by rw [List.getLast?_cons_cons]; exact hz')
theorem prt_runes (s : ByteArray) : ∀ (xs : List (Int × Int)) (p : Nat), runesOf (prt s p xs) = xs.map (·.1)
  | [], _ => rfl
  | x :: xs, p => by
    have := prt_runes s xs (p + x.2.toNat)
    unfold runesOf at this ⊢
    show x.1 :: (prt s (p + x.2.toNat) xs).map (·.1) = _
    rw [this]; rfl
theorem cut_runes (enc : Int) (l : List Int) : (cutP enc l).map (·.1) = l := by
  unfold cutP
  rw [List.map_map]
  exact List.map_id l
theorem prL_plain (J : List Int → List Int) : ∀ (ps : List Part) (o : List Int), (∀ q ∈ ps, hidB q = false) → prL J hidB false ps o = J (o ++ runesOf ps)
  | [], o, _ => by show J o = _; simp [runesOf]
  | p :: ps, o, h => by
    have h1 := h p (by simp)
    show (if (hidB p || (false && o.isEmpty && decide (clsI p.1 ≠ 0))) = true then _ else prL J hidB false ps (o ++ [p.1])) = _
    rw [if_neg (by rw [h1]; simp), prL_plain J ps (o ++ [p.1]) (fun q hq => h q (by simp [hq]))]
    simp [runesOf]
theorem prL_mark (J : List Int → List Int) : ∀ (ps : List Part) (o : List Int), (∀ q ∈ ps, hidB q = false) → (o ≠ [] ∨ ∀ q, ps.head? = some q → clsI q.1 = 0) → prL J hidB true ps o = J (o ++ runesOf ps)
  | [], o, _, _ => by show J o = _; simp [runesOf]
  | p :: ps, o, h, hm => by
    have h1 := h p (by simp)
    have h2 : (o.isEmpty && decide (clsI p.1 ≠ 0)) = false := by
      rcases hm with hm | hm
      · cases o with
        | nil => exact absurd rfl hm
        | cons a b => rfl
      · have := hm p rfl
        simp [this]
    show (if (hidB p || (true && o.isEmpty && decide (clsI p.1 ≠ 0))) = true then _ else prL J hidB true ps (o ++ [p.1])) = _
    rw [if_neg (by rw [h1, Bool.true_and, h2]; simp), prL_mark J ps (o ++ [p.1]) (fun q hq => h q (by simp [hq])) (.inl (by simp))]
    simp [runesOf]
/-- what is presented of characters' bytes -/
def wantL (enc : Int) (l : List Int) : List Int := if enc = 8 then tog l else l
structure CreOK (enc : Int) (l : List Int) : Prop where
  ne : l ≠ []
  len : l.length ≤ 30
  eok : EncOK enc l
  res : ∀ r ∈ l, resB r = false
  last : ∀ z, l.getLast? = some z → z ≠ 46 ∧ z ≠ 32
  stb : enc = 8 → apt l = l
  cls : enc = 8 → ∀ z, l.head? = some z → clsI z = 0
  good : GoodN (encL enc l)
theorem cre_pres {enc : Int} {l : List Int} (h0 : 0 ≤ enc) (h8 : enc ≤ 8) (h : CreOK enc l) : presC enc (encL enc l) = wantL enc l := by
  have hz : (ByteArray.empty ++ encL enc l) = encL enc l := by simp
  have hch := cut_chain h0 h8 l ByteArray.empty h.eok
  rw [hz] at hch
  have hpc : pcsS enc (encL enc l) = cutP enc l := chain_unique (pcs_chain h0 h8) hch
  have hh := cut_hid l ByteArray.empty hz.symm h.eok h.res h.last
  have hru : runesOf (prt (encL enc l) 0 (cutP enc l)) = l := by rw [prt_runes, cut_runes]
  have hpos : ∀ r ∈ l, 0 ≤ r := fun r hr => by
    obtain ⟨x, hx⟩ := Option.isSome_iff_exists.1 (h.eok r hr)
    exact (isC_true (encC_isC hx)).1
  unfold presC presL wantL
  rw [hpc]
  change ∀ q ∈ prt (encL enc l) 0 (cutP enc l), hidB q = false at hh
  by_cases e : enc = 8
  · rw [if_neg (by simp [e]), if_pos e]
    have hreg : regB (prt (encL enc l) 0 (cutP enc l)) = true := by
      unfold regB
      rw [hru, h.stb e]
      simp only [decide_true, Bool.and_true]
      rw [List.all_eq_true]
      intro q hq
      have : q.1 ∈ runesOf (prt (encL enc l) 0 (cutP enc l)) := List.mem_map_of_mem hq
      rw [hru] at this
      exact decide_eq_true (hpos _ this)
    rw [if_pos hreg, prL_mark tog _ [] hh (.inr fun q hq => ?_), List.nil_append, hru]
    have : (runesOf (prt (encL enc l) 0 (cutP enc l))).head? = some q.1 := by unfold runesOf; rw [List.head?_map, hq]; rfl
    rw [hru] at this
    exact h.cls e _ this
  · rw [if_pos e, if_neg e, prL_plain id _ [] hh, List.nil_append, hru]
    rfl
theorem pair_47 {c r x : Int} (h : pairI c r = some x) : x ≠ 47 := by
  have h1 := pairI_pos h
  unfold pairI at h
  cases ht : T.find? (isAB c r) with
  | some t =>
    rw [ht] at h
    have := T_of (List.mem_of_find?_eq_some ht)
    simp only [Option.some.injEq] at h
    omega
  | none =>
    rw [ht] at h
    unfold hanI at h
    simp only at h
    split at h
    · simp only [Option.some.injEq] at h; omega
    split at h
    · simp only [Option.some.injEq] at h; omega
    · cases h
theorem res_47 {r : Int} (h : resB r = false) : r ≠ 47 := by
  intro e
  subst e
  exact absurd h (by decide)
theorem want_47 {enc : Int} {l : List Int} (h : CreOK enc l) : ∀ c ∈ wantL enc l, c ≠ 47 := by
  unfold wantL
  split
  · exact tog_mem (p := fun x => x ≠ 47) (fun c r x hx => pair_47 hx) (fun x hx => res_47 (h.res x hx))
  · exact fun x hx => res_47 (h.res x hx)
theorem encS_47 {c : Int} (hc : isC c = true) (h : c ≠ 47) : ∀ b ∈ (encS c).data.toList, b.toNat ≠ 47 := by
  have hr := isC_true hc
  have hb : ∀ x ∈ encI c, 0 ≤ x ∧ x < 256 ∧ x ≠ 47 := by
    unfold encI
    intro x hx
    split at hx
    · simp at hx; omega
    split at hx
    · simp at hx; omega
    split at hx
    · simp at hx; omega
    · simp at hx; omega
  intro b hbm
  unfold encS at hbm
  rw [if_pos hc] at hbm
  have : ∃ x ∈ encI c, b = UInt8.ofNat x.toNat := by
    simpa [strOfNums, eq_comm] using hbm
  obtain ⟨x, hx, rfl⟩ := this
  have := hb x hx
  rw [UInt8.toNat_ofNat']
  omega
theorem joinS_47 : ∀ {l : List Int}, (∀ c ∈ l, isC c = true) → (∀ c ∈ l, c ≠ 47) → ∀ b ∈ (joinS l).data.toList, b.toNat ≠ 47
  | [], _, _ => fun b hb => by simp [joinS] at hb
  | c :: l, h1, h2 => fun b hb => by
    have : (joinS (c :: l)).data.toList = (encS c).data.toList ++ (joinS l).data.toList := by
      show (encS c ++ joinS l).data.toList = _
      rw [ByteArray.data_append, Array.toList_append]
    rw [this] at hb
    rcases List.mem_append.1 hb with hb | hb
    · exact encS_47 (h1 c (by simp)) (h2 c (by simp)) b hb
    · exact joinS_47 (fun c hc => h1 c (by simp [hc])) (fun c hc => h2 c (by simp [hc])) b hb
theorem dots_rs : (((List.range 9).all fun e => (rs0 (e : Int) dotS).1.toList == dotS.toList) && ((List.range 9).all fun e => (rs0 (e : Int) dotsS).1.toList == dotsS.toList)) = true := by decide +kernel
theorem tog_ne {l : List Int} (h : l ≠ []) (hc : ∀ z, l.head? = some z → clsI z = 0) : tog l ≠ [] := by
  cases l with
  | nil => exact absurd rfl h
  | cons y Y =>
    obtain ⟨z, Z, h1, _⟩ := tog_head (Y := Y) (hc y rfl)
    rw [h1]; simp
/-- the name that is made is one that a path may hold, and it means these bytes -/
theorem cre_name {enc : Int} {l : List Int} (h0 : 0 ≤ enc) (h8 : enc ≤ 8) (h : CreOK enc l) :
    presS enc (encL enc l) = joinS (wantL enc l) ∧ PathN (joinS (wantL enc l)) ∧ rawF enc (joinS (wantL enc l)) = (encL enc l, 0) := by
  have hp := cre_pres h0 h8 h
  have hS : presS enc (encL enc l) = joinS (wantL enc l) := by unfold presS; rw [hp]
  have hch : ∀ c ∈ wantL enc l, isC c = true := fun c hc => by
    rw [← hp] at hc
    exact pres_chars h0 h8 (pcs_chain h0 h8) c hc
  have hlen : (wantL enc l).length ≤ 30 := by
    have hl := h.len
    unfold wantL
    split
    · have := tog_len2 l; omega
    · exact hl
  have hne : wantL enc l ≠ [] := by
    unfold wantL
    split
    · exact tog_ne h.ne (h.cls (by assumption))
    · exact h.ne
  have hsz := joinS_size (wantL enc l)
  have hge := joinS_ge hch
  have hpos : 0 < (wantL enc l).length := List.length_pos_iff.2 hne
  have hrs : rs0 enc (joinS (wantL enc l)) = (encL enc l, true) := by rw [← hS]; exact rs0_pres h0 h8
  obtain ⟨n, hn⟩ := Int.eq_ofNat_of_zero_le h0
  have hd := dots_rs
  simp only [Bool.and_eq_true, List.all_eq_true, beq_iff_eq] at hd
  have hg := h.good
  refine ⟨hS, ⟨by omega, by omega, joinS_47 hch (want_47 h), fun e => ?_, fun e => ?_⟩, ?_⟩
  · have := hd.1 n (List.mem_range.2 (by omega))
    rw [e] at hrs
    rw [show ((n : Nat) : Int) = enc from hn.symm, hrs] at this
    exact hg.2.2.2.1 (toList_inj.1 this)
  · have := hd.2 n (List.mem_range.2 (by omega))
    rw [e] at hrs
    rw [show ((n : Nat) : Int) = enc from hn.symm, hrs] at this
    exact hg.2.2.2.2 (toList_inj.1 this)
  · unfold rawF
    rw [if_neg (by omega), ← hS, restF_pres h0 h8 hg]
end Go.Proofs.YtpmlggjhfiljmaaGreatDoor
/- Layer 17: asking: list, there, Raw. -/
namespace Go.Proofs.YtpmlggjhfiljmaaGreatDoor
open Go.RowKit
set_option linter.unusedVariables false
set_option linter.unnecessarySimpa false
set_option linter.unusedSimpArgs false
attribute [local go_sem ↓] Go.wp_at_zero Go.wp_at_succ
section
variable (enc : Int) (A : Nat → Prop) (f s tr : Nat) (T : TreS) (q : Nat) (hT : TOK enc T) (w : World) (hv : FsV w f s enc tr) (h : TreeAt w A tr T q)
include hT hv h
set_option maxRecDepth 100000 in
set_option maxHeartbeats 1600000 in
theorem flist_any (path : ByteArray) (hp : path.size ≤ 1000000) : Calls Tryz.prog 72 #[.pointer (some ⟨f, 0, none⟩), .string path] w (ListF (listR enc T path) w) := by
  have HL := Lib.hid (lookup_any enc A f s tr T q hT w hv h path hp)
  have HS : Hid (∀ W, Fresh w W → W.cell? ⟨f, 2, none⟩ = some (.pointer (some ⟨tr, 0, none⟩))) := Lib.hid (fun W hW => (Blk.keep hv hW).cell 2)
  cases hpt : pathT enc T path with
  | inr k =>
    have hk := pathT_ne hpt
    have hR : listR enc T path = (0, [], k) := by unfold listR; rw [hpt]; simp [nvR, hk]
    rw [hR]
    rw [hpt] at HL
    simp only [nvR] at HL
    have hkb : (k != 0) = true := by simp [hk]
    clear hR hk hpt hT hv h
    go_enter Tryz.func72, Tryz.ntmps72
    go_wp2_with fail
    refine HL.out.mono ?_
    rintro e w1 ⟨rfl, hf1⟩
    have HF := Lib.hid hf1
    clear hf1
    go_wp2
    go_ret3
    exact ⟨none, 0, rfl, SlG.nil _ _ _, HF.out⟩
  | inl st =>
    obtain ⟨n, b⟩ := st
    have hn : I64 n := pathT_node hT hpt
    rw [hpt] at HL
    simp only [nvR] at HL
    cases b with
    | false =>
      have hR : listR enc T path = (0, [], 8) := by unfold listR; rw [hpt]; simp [nvR]
      rw [hR]
      clear hR hpt hT hv h
      go_enter Tryz.func72, Tryz.ntmps72
      go_wp2_with fail
      refine HL.out.mono ?_
      rintro e w1 ⟨rfl, hf1⟩
      have HF := Lib.hid hf1
      clear hf1
      go_wp2
      go_ret3
      exact ⟨none, 0, rfl, SlG.nil _ _ _, HF.out⟩
    | true =>
      cases hd : T.dirs n with
      | none =>
        have hR : listR enc T path = (n, [], if T.files n = true then 8 else 5) := by unfold listR; rw [hpt]; simp [nvR, hd]; rfl
        rw [hR]
        have HLS := Lib.hid (fun W (hW : Fresh w W) => ls_no (h.fresh hW) hn hd)
        obtain ⟨k, hk⟩ : ∃ k : Int, (if T.files n = true then 8 else 5) = k := ⟨_, rfl⟩
        rw [hk] at HLS ⊢
        clear hR hpt hT hv h hk hd
        go_enter Tryz.func72, Tryz.ntmps72
        go_wp2_with fail
        refine HL.out.mono ?_
        rintro e w1 ⟨rfl, hf1⟩
        have HF := Lib.hid hf1
        have c2 := HS.out w1 hf1
        clear hf1
        go_wp2_with fail
        refine (HLS.out w1 HF.out).mono ?_
        rintro e w2 ⟨rfl, hf2⟩
        go_wp2
        go_ret3
        exact ⟨none, 0, rfl, SlG.nil _ _ _, HF.out.trans hf2⟩
      | some l =>
        have hR : listR enc T path = (n, l, 0) := by unfold listR; rw [hpt]; simp [nvR, hd]
        rw [hR]
        have HLS := Lib.hid (fun W (hW : Fresh w W) => ls_yes (h.fresh hW) hn hd (hT.len n l hd))
        clear hR hpt hT hv h hd
        go_enter Tryz.func72, Tryz.ntmps72
        go_wp2_with fail
        refine HL.out.mono ?_
        rintro e w1 ⟨rfl, hf1⟩
        have HF := Lib.hid hf1
        have c2 := HS.out w1 hf1
        clear hf1
        go_wp2_with fail
        refine (HLS.out w1 HF.out).mono ?_
        rintro e w2 ⟨a, c, rfl, ho, hf2⟩
        have HO := Lib.hid (And.intro ho hf2)
        clear ho hf2
        go_wp2
        go_ret3
        exact ⟨a, c, rfl, SlG.mono (OwnE.sl HO.out.1) (fun g _ hg => Nat.le_trans HF.out.size hg), HF.out.trans HO.out.2⟩
def ThereF (r : Int × ByteArray × Ent × Int) (w : World) (e : Ending) (w' : World) : Prop := e = .returned (.tuple #[.int .i64 r.1, entV r.2.2.1, .int .i64 r.2.2.2]) ∧ Fresh w w'
set_option maxRecDepth 100000 in
set_option maxHeartbeats 1600000 in
theorem there_any (path : ByteArray) (hp : path.size ≤ 1000000) : Calls Tryz.prog 71 #[.pointer (some ⟨f, 0, none⟩), .string path] w (ThereF (atR enc T path) w) := by
  obtain ⟨W0, hW0⟩ : ∃ W0, w.alloc (.cells #[.string ⟨#[]⟩, .int .i64 0, .bool false, .int .i64 0, .int .i64 0] 88) = W0 := ⟨_, rfl⟩
  have HW0 : Hid (Fresh w W0 ∧ Blk W0 w.heap.size 88 #[.string ⟨#[]⟩, .int .i64 0, .bool false, .int .i64 0, .int .i64 0]) := Lib.hid (by rw [← hW0]; exact ⟨(Fresh.refl _).alloc _, Blk.new _ _ _⟩)
  have HAT := Lib.hid (at_any2 enc A f s tr T q hT W0 (Blk.keep hv HW0.out.1) (h.fresh HW0.out.1) path hp)
  obtain ⟨r, hr⟩ : ∃ r, atR enc T path = r := ⟨_, rfl⟩
  rw [hr] at HAT ⊢
  obtain ⟨d, nm, ⟨yn, yd, yr, yc, ys⟩, k⟩ := r
  unfold AtF at HAT
  unfold ThereF
  simp only at HAT ⊢
  clear hr hT hv h
  go_enter Tryz.func71, Tryz.ntmps71
  go_wp2_with fail
  refine HAT.out.mono ?_
  rintro e w2 ⟨rfl, hf2⟩
  obtain ⟨W5, hW5⟩ : ∃ W5, w2.alloc (.cells #[.string yn, .int .i64 yd, .bool yr, .int .i64 yc, .int .i64 ys] 88) = W5 := ⟨_, rfl⟩
  have h25 : Fresh w2 W5 := by rw [← hW5]; exact (Fresh.refl _).alloc _
  have HF5 := Lib.hid (HW0.out.1.trans (hf2.trans h25))
  have hb := HW0.out.2.keep (hf2.trans h25)
  have hc : Blk W5 w2.heap.size 88 #[.string yn, .int .i64 yd, .bool yr, .int .i64 yc, .int .i64 ys] := by rw [← hW5]; exact Blk.new _ _ _
  have hne : w.heap.size ≠ w2.heap.size := by have := HW0.out.2.lt; have := hf2.size; omega
  have f0 : W5.frozen? ⟨w.heap.size, 0, none⟩ = false := hb.frozen 0
  have g0 : W5.cell? ⟨w.heap.size, 0, none⟩ = some (.string ⟨#[]⟩) := hb.cell 0
  have f1 : W5.frozen? ⟨w.heap.size, 1, none⟩ = false := hb.frozen 1
  have g1 : W5.cell? ⟨w.heap.size, 1, none⟩ = some (.int .i64 0) := hb.cell 1
  have f2 : W5.frozen? ⟨w.heap.size, 2, none⟩ = false := hb.frozen 2
  have g2 : W5.cell? ⟨w.heap.size, 2, none⟩ = some (.bool false) := hb.cell 2
  have f3 : W5.frozen? ⟨w.heap.size, 3, none⟩ = false := hb.frozen 3
  have g3 : W5.cell? ⟨w.heap.size, 3, none⟩ = some (.int .i64 0) := hb.cell 3
  have f4 : W5.frozen? ⟨w.heap.size, 4, none⟩ = false := hb.frozen 4
  have g4 : W5.cell? ⟨w.heap.size, 4, none⟩ = some (.int .i64 0) := hb.cell 4
  have c0 : W5.cell? ⟨w2.heap.size, 0, none⟩ = some (.string yn) := hc.cell 0
  have c1 : W5.cell? ⟨w2.heap.size, 1, none⟩ = some (.int .i64 yd) := hc.cell 1
  have c2 : W5.cell? ⟨w2.heap.size, 2, none⟩ = some (.bool yr) := hc.cell 2
  have c3 : W5.cell? ⟨w2.heap.size, 3, none⟩ = some (.int .i64 yc) := hc.cell 3
  have c4 : W5.cell? ⟨w2.heap.size, 4, none⟩ = some (.int .i64 ys) := hc.cell 4
  have HZ := Lib.hid (Blk.set5 hb (.string yn) (.int .i64 yd) (.bool yr) (.int .i64 yc) (.int .i64 ys))
  clear h25 hb hc hf2
  go_wp2_with fail
  clear hW5 hW0
  go_region
  all_goals
    go_wp2
    have hz := HZ.out
    refine bodyPost_ret (v := .tuple #[.int .i64 d, entV ⟨yn, yd, yr, yc, ys⟩, .int .i64 k]) ?_ rfl ?_
    · simp [results, Tryz.results71, go_sem, hz.cell 0, hz.cell 1, hz.cell 2, hz.cell 3, hz.cell 4]
    · exact ⟨rfl, by repeat (first | exact HF5.out | refine Fresh.drew ?_ | refine Fresh.setCell ?_ (Nat.le_refl _) _)⟩
set_option maxRecDepth 100000 in
set_option maxHeartbeats 1600000 in
theorem fraw2_any (path : ByteArray) (hp : path.size ≤ 1000000) : Calls Tryz.prog 30 #[.pointer (some ⟨f, 0, none⟩), .string path] w fun e w' => e = .returned (.tuple #[.string (atR enc T path).2.2.1.name, .int .i64 (atR enc T path).2.2.2]) ∧ Fresh w w' := by
  have HTH := Lib.hid (there_any enc A f s tr T q hT w hv h path hp)
  obtain ⟨r, hr⟩ : ∃ r, atR enc T path = r := ⟨_, rfl⟩
  rw [hr] at HTH ⊢
  obtain ⟨d, nm, ⟨yn, yd, yr, yc, ys⟩, k⟩ := r
  unfold ThereF at HTH
  simp only at HTH ⊢
  clear hr hT hv h
  go_enter Tryz.func30, Tryz.ntmps30
  go_wp2_with fail
  refine HTH.out.mono ?_
  rintro e w2 ⟨rfl, hf2⟩
  have HF := Lib.hid hf2
  clear hf2
  go_wp2
  go_ret2
  exact ⟨rfl, HF.out.alloc _⟩
end
end Go.Proofs.YtpmlggjhfiljmaaGreatDoor
