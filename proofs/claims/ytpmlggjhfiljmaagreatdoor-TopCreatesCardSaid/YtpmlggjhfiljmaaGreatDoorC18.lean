/- Contracts that the law rests on, part 18 of 50 (SrtL, SrtN). Each states its own conditions. -/
import Derived.Laws.OwnMore
import Derived.Test.YtpmlggjhfiljmaaGreatDoorC12
import Derived.Test.YtpmlggjhfiljmaaGreatDoorC17
/- A slice is appended to one's own; ComposeJoins: the walk. -/
namespace Go.Proofs.YtpmlggjhfiljmaaGreatDoor
open Go.RowKit
set_option linter.unusedVariables false
set_option linter.unnecessarySimpa false
set_option linter.unusedSimpArgs false
theorem run_append_owned_nil {P : Program} {w : World} (base : Nat) (t ty e : TypeId) (i : TypeInfo) (size : Nat) (ht : P.underlying t = some (.slice e)) (hi : P.info? e = some i)
    (v : Value) (n : Nat) (xs : List Value) (hown : w.ownsRow base e size v n xs) (c : Nat) :
    (Builtin.append_ #[t, t] ty #[v, .slice none 0 c]).run P w = .ok v w := by
  rcases hown.2 with ⟨rfl, rfl⟩ | ⟨g, cap, cur, rfl, _, _, hnc, _⟩
  · simp [Builtin.append_, run_underlying ht, sizeOf, typeInfo, hi, Builtin.lenOf, Builtin.firstCells]
  · simp [Builtin.append_, run_underlying ht, sizeOf, typeInfo, hi, Builtin.lenOf, Builtin.firstCells, hnc, storeCells]
/-- an empty slice of one's own -/
theorem OwnR.empty (w : World) (B : Nat) (hB : B ≤ w.heap.size) : OwnR (w.alloc (.cells #[] 21)) B (.slice (some ⟨w.heap.size, 0, none⟩) 0 0) [] :=
  ⟨rfl, .inr ⟨_, 0, #[], rfl, hB, heap_alloc_new _ _, Nat.le_refl _, by unfold maxLen; omega, rfl, rfl⟩⟩
theorem OwnR.alloc {w : World} {B : Nat} {v : Value} {xs : List Int} (h : OwnR w B v xs) (o : Obj) : OwnR (w.alloc o) B v xs := h.keep ((Fresh.refl _).alloc o)
theorem Sl.alloc {w : World} {v : Value} {xs : List Int} (h : Sl w v xs) (o : Obj) : Sl (w.alloc o) v xs := h.keep ((Fresh.refl _).alloc o)
theorem OwnR.grew {w w1 w' : World} {v : Value} {xs : List Int} (hf : Fresh w w1) (ho : OwnR w1 w.heap.size v xs) (hg : w1.grownBy w' v.ownBlock) : Fresh w w' :=
  Below.grown hf hg hf.size (fun k hk => (ho.lt k hk).1)
end Go.Proofs.YtpmlggjhfiljmaaGreatDoor
/- compose.Together. -/
namespace Go.Proofs.YtpmlggjhfiljmaaGreatDoor
open Go.RowKit
set_option linter.unusedVariables false
set_option linter.unnecessarySimpa false
set_option linter.unusedSimpArgs false
theorem pair_yes {a b x : Int} (h : pairI a b = some x) (ha : -2147483648 ≤ a ∧ a < 2147483648) (hb : -2147483648 ≤ b ∧ b < 2147483648) (w : World) : Calls Tryz.prog 60 #[.int .i32 a, .int .i32 b] w fun e w' => e = .returned (.tuple #[.int .i32 x, .bool true]) ∧ Fresh w w' :=
  (pair_any a b w ha hb).mono fun e w' ⟨he, hf⟩ => ⟨by unfold OptI at he; rw [h] at he; exact he, hf⟩
theorem pair_not {a b : Int} (h : pairI a b = none) (ha : -2147483648 ≤ a ∧ a < 2147483648) (hb : -2147483648 ≤ b ∧ b < 2147483648) (w : World) : Calls Tryz.prog 60 #[.int .i32 a, .int .i32 b] w fun e w' => e = .returned (.tuple #[.int .i32 0, .bool false]) ∧ Fresh w w' :=
  (pair_any a b w ha hb).mono fun e w' ⟨he, hf⟩ => ⟨by unfold OptI at he; rw [h] at he; exact he, hf⟩
theorem own_set {w : World} {B g n cap : Nat} {P Q : List Int} {c x : Int} (h : OwnR w B (.slice (some ⟨g, 0, none⟩) n cap) (P ++ c :: Q)) (hn : (P ++ c :: Q).length = n) :
    OwnR (w.setCell ⟨g, P.length, none⟩ (.int .i32 x)) B (.slice (some ⟨g, 0, none⟩) n cap) (P ++ x :: Q) := by
  unfold OwnR at h ⊢
  have e : (P ++ x :: Q).length = n := by rw [← hn]; simp
  rw [hn] at h
  rw [e]
  have := (World.ownsRow.stored h P.length (.int .i32 x)).1
  rw [List.map_append, List.map_cons] at this ⊢
  rw [List.set_append_right _ _ (by simp)] at this
  simpa using this
theorem own_frozen {w : World} {B g n cap : Nat} {xs : List Int} (h : OwnR w B (.slice (some ⟨g, 0, none⟩) n cap) xs) (hn : xs.length = n) (j : Nat) : w.frozen? ⟨g, j, none⟩ = false := by
  unfold OwnR at h
  rw [hn] at h
  exact World.ownsRow.frozenAt h j
def TgIn (w : World) (s : TS) (out base : Value) (wr : World) : Prop := OwnR wr w.heap.size out (tO s) ∧ base = .int .i64 (tB s) ∧ Fresh w wr
def TgRel (w : World) (l : List Int) (out base i : Value) (wr : World) : Prop := ∃ k : Nat, i = .int .i64 (k : Nat) ∧ k ≤ l.length ∧ TgIn w (trun (l.take k)) out base wr
theorem getD_at (P Q : List Int) (c : Int) : (P ++ c :: Q).getD P.length 0 = c := by simp [List.getD_eq_getElem?_getD]
theorem getD_last (P Q : List Int) (c : Int) (hQ : Q ≠ []) : (P ++ c :: Q).getD (P.length + Q.length) 0 = Q.getLastD 0 := by
  rcases List.eq_nil_or_concat Q with e | ⟨L, z, e⟩
  · exact absurd e hQ
  · have e : Q = L ++ [z] := by simpa using e
    subst e
    have e2 : P ++ c :: (L ++ [z]) = (P ++ c :: L) ++ z :: [] := by simp
    have e3 : P.length + (L ++ [z]).length = (P ++ c :: L).length := by simp
    rw [e2, e3, getD_at]
    simp [List.getLastD_eq_getLast?]
theorem in32_tog {l : List Int} (h : In32 l) : In32 (tO (trun l)) := tog_mem (p := fun x => -2147483648 ≤ x ∧ x < 2147483648) (fun c r x hx => by have := pairI_pos hx; omega) h
theorem in32_take {l : List Int} (h : In32 l) (k : Nat) : In32 (l.take k) := fun x hx => h x (List.mem_of_mem_take hx)
theorem in32_getD {l : List Int} (h : In32 l) {k : Nat} (hk : k < l.length) : -2147483648 ≤ l.getD k 0 ∧ l.getD k 0 < 2147483648 := by
  refine h _ ?_
  rw [List.getD_eq_getElem?_getD, List.getElem?_eq_getElem hk]; simp
theorem tg_eq {w w' : World} {s : TS} {v : Value} {b b' : Int} (h : TgIn w s v (.int .i64 b) w') (e : b = b') : TgIn w s v (.int .i64 b') w' := e ▸ h
theorem tg_push0 {w w' : World} {v : Value} {P Q : List Int} {c : Option Int} {r : Int} {sl : Nat} (hr : clsI r = 0) (h : w'.ownsRow w.heap.size 21 1 v (sl + 1) ((tO (P, c, Q)).map (Value.int .i32) ++ [.int .i32 r])) (hf : Fresh w w') :
    TgIn w (tpush P c Q r) v (.int .i64 ((tO (P, c, Q)).length : Nat)) w' := by
  have hn : sl = (tO (P, c, Q)).length := by have := h.1; simp at this; omega
  subst hn
  refine ⟨?_, ?_, hf⟩
  · rw [tO_push]; exact OwnR.push h
  · unfold tpush; rw [if_pos hr]; rfl
theorem tg_push1 {w w' : World} {v : Value} {P Q : List Int} {c : Option Int} {r : Int} {sl : Nat} (hr : clsI r ≠ 0) (h : w'.ownsRow w.heap.size 21 1 v (sl + 1) ((tO (P, c, Q)).map (Value.int .i32) ++ [.int .i32 r])) (hf : Fresh w w') :
    TgIn w (tpush P c Q r) v (.int .i64 (tB (P, c, Q))) w' := by
  have hn : sl = (tO (P, c, Q)).length := by have := h.1; simp at this; omega
  subst hn
  refine ⟨?_, ?_, hf⟩
  · rw [tO_push]; exact OwnR.push h
  · unfold tpush; rw [if_neg hr]; cases c <;> rfl
set_option maxHeartbeats 3200000 in
set_option maxRecDepth 100000 in
theorem ctog_any (u : Value) (l : List Int) (w : World) (hu : Sl w u l) (hl : l.length ≤ 100000) (h32 : In32 l) : Calls Tryz.prog 21 #[u] w (RunesPost (tog l) w) := by
  obtain ⟨i0, hi0, hz0, hz1, hz2⟩ := info_parts info32
  obtain ⟨a, ca, rfl, hu⟩ := hu
  rcases hu with rfl | ⟨b1, o1, rfl, hb1, hc1⟩
  · go_enter Tryz.func21, Tryz.ntmps21
    go_wp2
    refine wp_loop_rounds 1 ?_
    rw [rounds_succ]
    go_wp2
    go_ret
    exact ⟨_, rfl, OwnR.nil _ _, Fresh.refl _⟩
  have H1 := Lib.hid hc1
  clear hc1
  generalize hn : l.length = n at hl H1
  have HN := Lib.hid hn
  clear hn
  go_enter Tryz.func21, Tryz.ntmps21
  go_wp2
  go_loopw [3, 4, 12] (fun out b i wr => TgRel w l out b i wr) (fun _ _ i _ => n - (intOf i).toNat)
  case atStart => exact ⟨0, rfl, Nat.zero_le _, OwnR.nil _ _, rfl, Fresh.refl _⟩
  case round =>
    obtain ⟨k, rfl, hk, hown, rfl, hf⟩ := hrel
    have hk' : k ≤ n := by have := HN.out; omega
    clear hk
    by_cases hlt : k < n
    · have c1 : wr.cell? ⟨b1, o1 + k, none⟩ = some (.int .i32 (l.getD k 0)) := (Below.cell hf (p := ⟨b1, o1 + k, none⟩) hb1).trans (H1.out k hlt)
      have hkl : k < l.length := by have := HN.out; omega
      have hr := in32_getD h32 hkl
      have hTS : trun (l.take (k + 1)) = tstep (trun (l.take k)) (l.getD k 0) := by rw [take_snoc hkl, trun_snoc]
      have hlen := trun_len (l.take k)
      rw [List.length_take] at hlen
      have h32s := in32_tog (in32_take h32 k)
      generalize l.getD k 0 = r at c1 hr hTS
      generalize trun (l.take k) = s at hTS hlen h32s hown ⊢
      have HTS := Lib.hid hTS
      clear hTS hkl
      obtain ⟨P, c, Q⟩ := s
      cases c with
      | none =>
        have hlen3 : (tO (P, none, Q)).length ≤ k := by omega
        have HST : Hid (tstep (P, none, Q) r = tpush P none Q r) := Lib.hid rfl
        obtain ⟨ao, cpc, rfl, _⟩ := hown.sl
        have hown3 := hown
        unfold OwnR at hown3
        have hfW := hf
        generalize hsl : (tO (P, none, Q)).length = sl at hown3 hlen3 ⊢
        have HSL := Lib.hid hsl
        have HLEN := Lib.hid hlen3
        clear hown hlen hsl
        simp only [tB]
        by_cases hx : clsI r = 0
        · have hb : (clsI r == 0) = true := by simp [hx]
          have HX := Lib.hid hx
          clear hx
          go_wp2_with (first | (go_at_call 25; refine (class_any _ _).mono ?_; rintro e w9 ⟨rfl, rfl⟩) | (at_builtin; refine wpList_append_own2 _ rfl _ _ 50 rfl w.heap.size 21 i0 (.int .i32 0) 1 4 Tryz.underlying50 hi0 hz0 hz1 hz2 rfl (by decide) _ _ _ rfl (hown3.alloc _) ⟨wr.heap.size, 0, none⟩ 1 1 [.int .i32 r] rfl rfl ?c1 ?c2 ?c3 ?c4 ?c5 ?_))
          case c1 => exact cell_new1 _ _ _
          case c2 => intro u hu; simp at hu; subst hu; rfl
          case c3 => have := HLEN.out; unfold maxLen; omega
          case c4 => have := HLEN.out; omega
          case c5 => have := hfW.size; simp; omega
          intro v' w' hown' hgrow hblk
          have hf' := OwnR.fresh hfW hown3 hgrow
          have HP := Lib.hid (tg_push0 (v := v') (w' := w') (P := P) (c := none) (Q := Q) (sl := sl) HX.out (by have := hown'; simpa [tO] using this) hf')
          clear hown' hgrow hblk hf' hown3
          go_wp2
          refine ⟨⟨k + 1, by rw [Int.natCast_add]; rfl, by have := HN.out; omega, by rw [HTS.out, HST.out]; exact tg_eq HP.out (by first | rfl | (have := HSL.out; omega) | (simp only [tO]; have := HLM.out; omega) | (simp only [tB]; have := HPM.out; omega) | (simp only [tB]; have := HP0.out; omega))⟩, by simp [intOf]; omega⟩
        · have hb : (clsI r == 0) = false := by simp [hx]
          have HX := Lib.hid hx
          clear hx
          go_wp2_with (first | (go_at_call 25; refine (class_any _ _).mono ?_; rintro e w9 ⟨rfl, rfl⟩) | (at_builtin; refine wpList_append_own2 _ rfl _ _ 50 rfl w.heap.size 21 i0 (.int .i32 0) 1 4 Tryz.underlying50 hi0 hz0 hz1 hz2 rfl (by decide) _ _ _ rfl (hown3.alloc _) ⟨wr.heap.size, 0, none⟩ 1 1 [.int .i32 r] rfl rfl ?c1 ?c2 ?c3 ?c4 ?c5 ?_))
          case c1 => exact cell_new1 _ _ _
          case c2 => intro u hu; simp at hu; subst hu; rfl
          case c3 => have := HLEN.out; unfold maxLen; omega
          case c4 => have := HLEN.out; omega
          case c5 => have := hfW.size; simp; omega
          intro v' w' hown' hgrow hblk
          have hf' := OwnR.fresh hfW hown3 hgrow
          have HP := Lib.hid (tg_push1 (v := v') (w' := w') (P := P) (c := none) (Q := Q) (sl := sl) HX.out (by have := hown'; simpa [tO] using this) hf')
          clear hown' hgrow hblk hf' hown3
          go_wp2
          refine ⟨⟨k + 1, by rw [Int.natCast_add]; rfl, by have := HN.out; omega, by rw [HTS.out, HST.out]; exact tg_eq HP.out (by first | rfl | (have := HSL.out; omega) | (simp only [tO]; have := HLM.out; omega) | (simp only [tB]; have := HPM.out; omega) | (simp only [tB]; have := HP0.out; omega))⟩, by simp [intOf]; omega⟩
      | some c =>
        have hoO : tO (P, some c, Q) = P ++ c :: Q := rfl
        rw [hoO] at hown h32s hlen
        have hc32 := h32s c (by simp)
        simp only [List.length_append, List.length_cons] at hlen
        obtain ⟨g, cap, rfl, hgs, hcell⟩ := hown.sl2 (by simp; omega)
        have hgb := (hown.lt g rfl).1
        obtain ⟨m, hm⟩ : ∃ m, P.length + Q.length = m := ⟨_, rfl⟩
        have hlm : (P ++ c :: Q).length = m + 1 := by simp; omega
        have cp := hcell P.length (by rw [hlm]; omega)
        rw [getD_at] at cp
        have hfz := own_frozen hown rfl P.length
        have HCELL := Lib.hid hcell
        rw [hlm] at hown ⊢
        have HOWN := Lib.hid hown
        simp only [tB]
        have hlm2 : m + 1 ≤ k := by omega
        clear hown hcell hlen h32s hoO
        by_cases hQ : Q = []
        · subst hQ
          have hpm : P.length = m := by simpa using hm
          rw [hpm] at cp hfz ⊢
          have HPM := Lib.hid hpm
          clear hpm hm
          have hcan : ∀ z, mkO c [] z = pairI c z := fun z => by unfold mkO; rw [if_pos (.inl rfl)]
          have HCAN := Lib.hid hcan
          clear hcan
          have HLM := Lib.hid hlm
          clear hlm
          cases hpr : pairI c r with
          | some x =>
            have HPR := Lib.hid (pair_yes hpr hc32 hr)
            have HST : Hid (tstep (P, some c, []) r = (P, some x, [])) := Lib.hid (by unfold tstep; simp only [HCAN.out, hpr])
            clear hpr
            go_wp2_with (first | (go_at_call 25; refine (class_any _ _).mono ?_; rintro e w9 ⟨rfl, rfl⟩) | (go_at_call 60; refine (HPR.out _).mono ?_; rintro e w1 ⟨rfl, hf1⟩; have cp1 := (Below.cell hf1 (p := ⟨g, m, none⟩) hgs).trans cp; have fz1 := (Below.frozen hf1 (p := ⟨g, m, none⟩) hgs).trans hfz))
            have hown4 := HOWN.out.keep hf1
            have hown5 := own_set (x := x) hown4 HLM.out
            have hf2 := (hf.trans hf1).setCell (p := ⟨g, m, none⟩) hgb (.int .i32 x)
            rw [HPM.out] at hown5
            refine ⟨⟨k + 1, by rw [Int.natCast_add]; rfl, by have := HN.out; omega, by rw [HTS.out, HST.out]; exact ⟨hown5, by simp only [tB, HPM.out], hf2⟩⟩, by simp [intOf]; omega⟩
          | none =>
            have HPR := Lib.hid (pair_not hpr hc32 hr)
            have HST : Hid (tstep (P, some c, []) r = tpush P (some c) [] r) := Lib.hid (by unfold tstep; simp only [HCAN.out, hpr])
            have HLEN := Lib.hid hlm2
            clear hpr
            by_cases hx : clsI r = 0
            · have hb : (clsI r == 0) = true := by simp [hx]
              have HX := Lib.hid hx
              clear hx
              go_wp2_with (first | (go_at_call 25; refine (class_any _ _).mono ?_; rintro e w9 ⟨rfl, rfl⟩) | (go_at_call 60; refine (HPR.out _).mono ?_; rintro e w1 ⟨rfl, hf1⟩; have hown3 := HOWN.out.keep hf1; unfold OwnR at hown3; rw [HLM.out] at hown3; have hfW := hf.trans hf1) | (at_builtin; refine wpList_append_own2 _ rfl _ _ 50 rfl w.heap.size 21 i0 (.int .i32 0) 1 4 Tryz.underlying50 hi0 hz0 hz1 hz2 rfl (by decide) _ _ _ rfl (hown3.alloc _) ⟨w1.heap.size, 0, none⟩ 1 1 [.int .i32 r] rfl rfl ?c1 ?c2 ?c3 ?c4 ?c5 ?_))
              case c1 => exact cell_new1 _ _ _
              case c2 => intro u hu; simp at hu; subst hu; rfl
              case c3 => have := HLEN.out; unfold maxLen; omega
              case c4 => have := HLEN.out; omega
              case c5 => have := hfW.size; simp; omega
              intro v' w' hown' hgrow hblk
              have hf' := OwnR.fresh hfW hown3 hgrow
              have HP := Lib.hid (tg_push0 (v := v') (w' := w') (P := P) (c := some c) (Q := []) (sl := m + 1) HX.out (by have := hown'; simpa [tO] using this) hf')
              clear hown' hgrow hblk hf' hown3
              go_wp2
              refine ⟨⟨k + 1, by rw [Int.natCast_add]; rfl, by have := HN.out; omega, by rw [HTS.out, HST.out]; exact tg_eq HP.out (by first | rfl | (have := HSL.out; omega) | (simp only [tO]; have := HLM.out; omega) | (simp only [tB]; have := HPM.out; omega) | (simp only [tB]; have := HP0.out; omega))⟩, by simp [intOf]; omega⟩
            · have hb : (clsI r == 0) = false := by simp [hx]
              have HX := Lib.hid hx
              clear hx
              go_wp2_with (first | (go_at_call 25; refine (class_any _ _).mono ?_; rintro e w9 ⟨rfl, rfl⟩) | (go_at_call 60; refine (HPR.out _).mono ?_; rintro e w1 ⟨rfl, hf1⟩; have hown3 := HOWN.out.keep hf1; unfold OwnR at hown3; rw [HLM.out] at hown3; have hfW := hf.trans hf1) | (at_builtin; refine wpList_append_own2 _ rfl _ _ 50 rfl w.heap.size 21 i0 (.int .i32 0) 1 4 Tryz.underlying50 hi0 hz0 hz1 hz2 rfl (by decide) _ _ _ rfl (hown3.alloc _) ⟨w1.heap.size, 0, none⟩ 1 1 [.int .i32 r] rfl rfl ?c1 ?c2 ?c3 ?c4 ?c5 ?_))
              case c1 => exact cell_new1 _ _ _
              case c2 => intro u hu; simp at hu; subst hu; rfl
              case c3 => have := HLEN.out; unfold maxLen; omega
              case c4 => have := HLEN.out; omega
              case c5 => have := hfW.size; simp; omega
              intro v' w' hown' hgrow hblk
              have hf' := OwnR.fresh hfW hown3 hgrow
              have HP := Lib.hid (tg_push1 (v := v') (w' := w') (P := P) (c := some c) (Q := []) (sl := m + 1) HX.out (by have := hown'; simpa [tO] using this) hf')
              clear hown' hgrow hblk hf' hown3
              go_wp2
              refine ⟨⟨k + 1, by rw [Int.natCast_add]; rfl, by have := HN.out; omega, by rw [HTS.out, HST.out]; exact tg_eq HP.out (by first | rfl | (have := HSL.out; omega) | (simp only [tO]; have := HLM.out; omega) | (simp only [tB]; have := HPM.out; omega) | (simp only [tB]; have := HP0.out; omega))⟩, by simp [intOf]; omega⟩
        · have hQ1 : 1 ≤ Q.length := List.length_pos_iff.2 hQ
          have cm := HCELL.out m (by rw [hlm]; omega)
          rw [← hm, getD_last P Q c hQ, hm] at cm
          obtain ⟨p, hp⟩ : ∃ p, P.length = p := ⟨_, rfl⟩
          have hpm : p < m := by omega
          rw [hp] at cp hfz ⊢
          have HP0 := Lib.hid hp
          have HM := Lib.hid hm
          have HLM := Lib.hid hlm
          clear hp hm hlm
          have hb1 : ((p : Int) == (m : Int)) = false := by simp only [beq_eq_false_iff_ne]; omega
          generalize hql : Q.getLastD 0 = ql at cm
          have HQL := Lib.hid hql
          clear hql
          by_cases hcan : clsI ql < clsI r
          · have HCAN := Lib.hid (show mkO c Q r = pairI c r by unfold mkO; rw [if_pos (.inr (by rw [HQL.out]; exact hcan))])
            cases hpr : pairI c r with
            | some x =>
              have HPR := Lib.hid (pair_yes hpr hc32 hr)
              have HST : Hid (tstep (P, some c, Q) r = (P, some x, Q)) := Lib.hid (by unfold tstep; simp only [HCAN.out, hpr])
              clear hpr
              go_wp2_with (first | (go_at_call 25; refine (class_any _ _).mono ?_; rintro e w9 ⟨rfl, rfl⟩) | (go_at_call 60; refine (HPR.out _).mono ?_; rintro e w1 ⟨rfl, hf1⟩; have cp1 := (Below.cell hf1 (p := ⟨g, p, none⟩) hgs).trans cp; have fz1 := (Below.frozen hf1 (p := ⟨g, p, none⟩) hgs).trans hfz))
              have hown4 := HOWN.out.keep hf1
              have hown5 := own_set (x := x) hown4 HLM.out
              have hf2 := (hf.trans hf1).setCell (p := ⟨g, p, none⟩) hgb (.int .i32 x)
              rw [HP0.out] at hown5
              refine ⟨⟨k + 1, by rw [Int.natCast_add]; rfl, by have := HN.out; omega, by rw [HTS.out, HST.out]; exact ⟨hown5, by simp only [tB, HP0.out], hf2⟩⟩, by simp [intOf]; omega⟩
            | none =>
              have HPR := Lib.hid (pair_not hpr hc32 hr)
              have HST : Hid (tstep (P, some c, Q) r = tpush P (some c) Q r) := Lib.hid (by unfold tstep; simp only [HCAN.out, hpr])
              have HLEN := Lib.hid hlm2
              clear hpr
              by_cases hx : clsI r = 0
              · have hb : (clsI r == 0) = true := by simp [hx]
                have HX := Lib.hid hx
                clear hx
                go_wp2_with (first | (go_at_call 25; refine (class_any _ _).mono ?_; rintro e w9 ⟨rfl, rfl⟩) | (go_at_call 60; refine (HPR.out _).mono ?_; rintro e w1 ⟨rfl, hf1⟩; have hown3 := HOWN.out.keep hf1; unfold OwnR at hown3; rw [HLM.out] at hown3; have hfW := hf.trans hf1) | (at_builtin; refine wpList_append_own2 _ rfl _ _ 50 rfl w.heap.size 21 i0 (.int .i32 0) 1 4 Tryz.underlying50 hi0 hz0 hz1 hz2 rfl (by decide) _ _ _ rfl (hown3.alloc _) ⟨w1.heap.size, 0, none⟩ 1 1 [.int .i32 r] rfl rfl ?c1 ?c2 ?c3 ?c4 ?c5 ?_))
                case c1 => exact cell_new1 _ _ _
                case c2 => intro u hu; simp at hu; subst hu; rfl
                case c3 => have := HLEN.out; unfold maxLen; omega
                case c4 => have := HLEN.out; omega
                case c5 => have := hfW.size; simp; omega
                intro v' w' hown' hgrow hblk
                have hf' := OwnR.fresh hfW hown3 hgrow
                have HP := Lib.hid (tg_push0 (v := v') (w' := w') (P := P) (c := some c) (Q := Q) (sl := m + 1) HX.out (by have := hown'; simpa [tO] using this) hf')
                clear hown' hgrow hblk hf' hown3
                go_wp2
                refine ⟨⟨k + 1, by rw [Int.natCast_add]; rfl, by have := HN.out; omega, by rw [HTS.out, HST.out]; exact tg_eq HP.out (by first | rfl | (have := HSL.out; omega) | (simp only [tO]; have := HLM.out; omega) | (simp only [tB]; have := HPM.out; omega) | (simp only [tB]; have := HP0.out; omega))⟩, by simp [intOf]; omega⟩
              · have hb : (clsI r == 0) = false := by simp [hx]
                have HX := Lib.hid hx
                clear hx
                go_wp2_with (first | (go_at_call 25; refine (class_any _ _).mono ?_; rintro e w9 ⟨rfl, rfl⟩) | (go_at_call 60; refine (HPR.out _).mono ?_; rintro e w1 ⟨rfl, hf1⟩; have hown3 := HOWN.out.keep hf1; unfold OwnR at hown3; rw [HLM.out] at hown3; have hfW := hf.trans hf1) | (at_builtin; refine wpList_append_own2 _ rfl _ _ 50 rfl w.heap.size 21 i0 (.int .i32 0) 1 4 Tryz.underlying50 hi0 hz0 hz1 hz2 rfl (by decide) _ _ _ rfl (hown3.alloc _) ⟨w1.heap.size, 0, none⟩ 1 1 [.int .i32 r] rfl rfl ?c1 ?c2 ?c3 ?c4 ?c5 ?_))
                case c1 => exact cell_new1 _ _ _
                case c2 => intro u hu; simp at hu; subst hu; rfl
                case c3 => have := HLEN.out; unfold maxLen; omega
                case c4 => have := HLEN.out; omega
                case c5 => have := hfW.size; simp; omega
                intro v' w' hown' hgrow hblk
                have hf' := OwnR.fresh hfW hown3 hgrow
                have HP := Lib.hid (tg_push1 (v := v') (w' := w') (P := P) (c := some c) (Q := Q) (sl := m + 1) HX.out (by have := hown'; simpa [tO] using this) hf')
                clear hown' hgrow hblk hf' hown3
                go_wp2
                refine ⟨⟨k + 1, by rw [Int.natCast_add]; rfl, by have := HN.out; omega, by rw [HTS.out, HST.out]; exact tg_eq HP.out (by first | rfl | (have := HSL.out; omega) | (simp only [tO]; have := HLM.out; omega) | (simp only [tB]; have := HPM.out; omega) | (simp only [tB]; have := HP0.out; omega))⟩, by simp [intOf]; omega⟩
          · have hno : mkO c Q r = none := by unfold mkO; rw [if_neg]; rintro (e | e); exact hQ e; rw [HQL.out] at e; exact hcan e
            have HST : Hid (tstep (P, some c, Q) r = tpush P (some c) Q r) := Lib.hid (by unfold tstep; simp only [hno])
            have hfW := hf
            have HLEN := Lib.hid hlm2
            have hown3 := HOWN.out
            unfold OwnR at hown3
            rw [HLM.out] at hown3
            have hcan2 : clsI r ≤ clsI ql := by omega
            clear hno hcan
            by_cases hx : clsI r = 0
            · have hb : (clsI r == 0) = true := by simp [hx]
              have HX := Lib.hid hx
              clear hx
              go_wp2_with (first | (go_at_call 25; refine (class_any _ _).mono ?_; rintro e w9 ⟨rfl, rfl⟩) | (at_builtin; refine wpList_append_own2 _ rfl _ _ 50 rfl w.heap.size 21 i0 (.int .i32 0) 1 4 Tryz.underlying50 hi0 hz0 hz1 hz2 rfl (by decide) _ _ _ rfl (hown3.alloc _) ⟨wr.heap.size, 0, none⟩ 1 1 [.int .i32 r] rfl rfl ?c1 ?c2 ?c3 ?c4 ?c5 ?_))
              case c1 => exact cell_new1 _ _ _
              case c2 => intro u hu; simp at hu; subst hu; rfl
              case c3 => have := HLEN.out; unfold maxLen; omega
              case c4 => have := HLEN.out; omega
              case c5 => have := hfW.size; simp; omega
              intro v' w' hown' hgrow hblk
              have hf' := OwnR.fresh hfW hown3 hgrow
              have HP := Lib.hid (tg_push0 (v := v') (w' := w') (P := P) (c := some c) (Q := Q) (sl := m + 1) HX.out (by have := hown'; simpa [tO] using this) hf')
              clear hown' hgrow hblk hf' hown3
              go_wp2
              refine ⟨⟨k + 1, by rw [Int.natCast_add]; rfl, by have := HN.out; omega, by rw [HTS.out, HST.out]; exact tg_eq HP.out (by first | rfl | (have := HSL.out; omega) | (simp only [tO]; have := HLM.out; omega) | (simp only [tB]; have := HPM.out; omega) | (simp only [tB]; have := HP0.out; omega))⟩, by simp [intOf]; omega⟩
            · have hb : (clsI r == 0) = false := by simp [hx]
              have HX := Lib.hid hx
              clear hx
              go_wp2_with (first | (go_at_call 25; refine (class_any _ _).mono ?_; rintro e w9 ⟨rfl, rfl⟩) | (at_builtin; refine wpList_append_own2 _ rfl _ _ 50 rfl w.heap.size 21 i0 (.int .i32 0) 1 4 Tryz.underlying50 hi0 hz0 hz1 hz2 rfl (by decide) _ _ _ rfl (hown3.alloc _) ⟨wr.heap.size, 0, none⟩ 1 1 [.int .i32 r] rfl rfl ?c1 ?c2 ?c3 ?c4 ?c5 ?_))
              case c1 => exact cell_new1 _ _ _
              case c2 => intro u hu; simp at hu; subst hu; rfl
              case c3 => have := HLEN.out; unfold maxLen; omega
              case c4 => have := HLEN.out; omega
              case c5 => have := hfW.size; simp; omega
              intro v' w' hown' hgrow hblk
              have hf' := OwnR.fresh hfW hown3 hgrow
              have HP := Lib.hid (tg_push1 (v := v') (w' := w') (P := P) (c := some c) (Q := Q) (sl := m + 1) HX.out (by have := hown'; simpa [tO] using this) hf')
              clear hown' hgrow hblk hf' hown3
              go_wp2
              refine ⟨⟨k + 1, by rw [Int.natCast_add]; rfl, by have := HN.out; omega, by rw [HTS.out, HST.out]; exact tg_eq HP.out (by first | rfl | (have := HSL.out; omega) | (simp only [tO]; have := HLM.out; omega) | (simp only [tB]; have := HPM.out; omega) | (simp only [tB]; have := HP0.out; omega))⟩, by simp [intOf]; omega⟩
    · have hkn : k = n := by omega
      rw [hkn, ← HN.out, List.take_length] at hown
      have HO := Lib.hid hown
      clear hown
      go_wp2
      go_ret
      exact ⟨_, rfl, HO.out, hf⟩
end Go.Proofs.YtpmlggjhfiljmaaGreatDoor
