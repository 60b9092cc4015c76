/- A slice is appended to one's own; ComposeJoins: the walk. -/
import Derived.Test.YtmfmnlioojkjgaaSrtK
import Derived.Laws.OwnMore
namespace Go.Proofs.Ytmfmnlioojkjgaa
open Go.RowKit
set_option linter.unusedVariables false
set_option linter.unnecessarySimpa false
set_option linter.unusedSimpArgs false

theorem run_append_owned_nil {P : Program} {w : World} (base : Nat) (t ty e : TypeId) (i : TypeInfo) (size : Nat) (ht : P.underlying t = some (.slice e)) (hi : P.info? e = some i)
    (v : Value) (n : Nat) (xs : List Value) (hown : w.ownsRow base e size v n xs) (c : Nat) :
    (Builtin.append_ #[t, t] ty #[v, .slice none 0 c]).run P w = .ok v w := by
  rcases hown.2 with ⟨rfl, rfl⟩ | ⟨g, cap, cur, rfl, _, _, hnc, _⟩
  · simp [Builtin.append_, run_underlying ht, sizeOf, typeInfo, hi, Builtin.lenOf, Builtin.firstCells]
  · simp [Builtin.append_, run_underlying ht, sizeOf, typeInfo, hi, Builtin.lenOf, Builtin.firstCells, hnc, storeCells]
/-- a slice that is read is appended to one's own -/
theorem wpList_append_sl (w : World) {ops : Array Oper} {rest : List Oper} {o : Oper} {a : Act} {Q : Exit → Act → World → Prop} (hgd : o.guard = none) (s x : Operand)
    (ho : o.op = .call { callee := .builtin .append, args := #[s, x], argTypes := #[30, 30] })
    (base : Nat) (v v2 : Value) (xs ys : List Int) (hs : a.eval s = v) (hown : OwnR w base v xs) (hx : a.eval x = v2) (hsl : Sl w v2 ys)
    (hb : xs.length + ys.length ≤ 1000000) (hbase : base ≤ w.heap.size)
    (h : ∀ v' w', OwnR w' base v' (xs ++ ys) → w.grownBy w' v.ownBlock → (∀ g2, v'.ownBlock = some g2 → v.ownBlock = some g2 ∨ w.heap.size ≤ g2) → wpList Try.prog ops Q rest (a.put o.dst v') w') : wpList Try.prog ops Q (o :: rest) a w := by
  obtain ⟨i0, hi0, hz0, hz1, hz2⟩ := info_parts info32
  obtain ⟨ao, cap, rfl, hsl⟩ := hsl
  have hown0 := hown
  unfold OwnR at hown
  cases ao with
  | some ad =>
    refine wpList_append_own2 w hgd s x 30 ho base 21 i0 (.int .i32 0) 1 4 Try.underlying30 hi0 hz0 hz1 hz2 rfl (by decide) v xs.length _ hs hown ad ys.length cap (ys.map (Value.int .i32)) hx (by simp) ?_ (ints_oneCell .i32 ys) (by unfold maxLen; omega) (by omega) hbase fun v' w' r1 r2 r3 => h v' w' (by unfold OwnR; simpa using r1) r2 r3
    intro j u hj
    rcases hsl with rfl | ⟨b, off, e, hb1, hc⟩
    · simp at hj
    · cases e
      rw [List.getElem?_map] at hj
      have hjl : j < ys.length := by
        rcases Nat.lt_or_ge j ys.length with q | q
        · exact q
        · rw [List.getElem?_eq_none q] at hj; simp at hj
      rw [List.getElem?_eq_getElem hjl] at hj
      simp at hj
      subst hj
      have := hc j hjl
      rw [Addr.add_lit, this, List.getD_eq_getElem?_getD, List.getElem?_eq_getElem hjl]
      rfl
  | none =>
    rcases hsl with rfl | ⟨b, off, e, _⟩
    · refine wpList_plain hgd fun K hK' => ?_
      have hrun := run_append_owned_nil (P := Try.prog) base 30 o.type 21 i0 1 Try.underlying30 hi0 v _ _ hown cap
      unfold Oper.wp
      simp only [List.length_nil] at hx
      simp [execOp, ho, resolve, invoke, builtin, hs, hx, hrun, Result.andThen]
      exact hK' _ _ (h v w (by simpa using hown0) (World.grownBy.refl _ _) fun g2 hg2 => .inl hg2)
    · cases e
/-- an empty slice of one's own -/
theorem OwnR.empty (w : World) (B : Nat) (hB : B ≤ w.heap.size) : OwnR (w.alloc (.cells #[] 21)) B (.slice (some ⟨w.heap.size, 0, none⟩) 0 0) [] :=
  ⟨rfl, .inr ⟨_, 0, #[], rfl, hB, heap_alloc_new _ _, Nat.le_refl _, by unfold maxLen; omega, rfl, rfl⟩⟩
theorem OwnR.alloc {w : World} {B : Nat} {v : Value} {xs : List Int} (h : OwnR w B v xs) (o : Obj) : OwnR (w.alloc o) B v xs := h.keep ((Fresh.refl _).alloc o)
theorem Sl.alloc {w : World} {v : Value} {xs : List Int} (h : Sl w v xs) (o : Obj) : Sl (w.alloc o) v xs := h.keep ((Fresh.refl _).alloc o)
theorem OwnR.grew {w w1 w' : World} {v : Value} {xs : List Int} (hf : Fresh w w1) (ho : OwnR w1 w.heap.size v xs) (hg : w1.grownBy w' v.ownBlock) : Fresh w w' :=
  Below.grown hf hg hf.size (fun k hk => (ho.lt k hk).1)
theorem class_ge (r : Int) : 0 ≤ clsI r := (cls_range r).1
set_option maxHeartbeats 1600000 in
set_option maxRecDepth 100000 in
theorem joins_walk (u v : Value) (xs ys : List Int) (w : World) (hu : Sl w u xs) (hv : Sl w v ys) (hx32 : In32 xs) (hy32 : In32 ys) :
    Calls Try.prog 5 #[u, v] w fun e w' => e = .returned (.bool true) ∧ Below w.heap.size w w' := by
  have hu0 := hu
  have hv0 := hv
  obtain ⟨a, ca, rfl, hu⟩ := hu
  obtain ⟨b, cb, rfl, hv⟩ := hv
  go_enter Try.func5, Try.ntmps5
  by_cases h1 : 20 < xs.length
  · have h1' : (20 : Int) < (xs.length : Int) := by omega
    go_wp2_with fail
    refine (awake03 _).mono ?_
    rintro e w1 ⟨rfl, hf⟩
    go_wp2_with fail
    refine (awake03 _).mono ?_
    rintro e w2 ⟨rfl, hf2⟩
    go_wp2
    go_ret
    exact ⟨rfl, (hf.trans hf2).below⟩
  have h1' : ¬ (20 : Int) < (xs.length : Int) := by omega
  by_cases h2 : 20 < ys.length
  · have h2' : (20 : Int) < (ys.length : Int) := by omega
    go_wp2_with fail
    refine (awake03 _).mono ?_
    rintro e w1 ⟨rfl, hf⟩
    go_wp2_with fail
    refine (awake03 _).mono ?_
    rintro e w2 ⟨rfl, hf2⟩
    go_wp2
    go_ret
    exact ⟨rfl, (hf.trans hf2).below⟩
  have h2' : ¬ (20 : Int) < (ys.length : Int) := by omega
  by_cases h3 : ys.length = 0
  · have h3' : ((ys.length : Int) == 0) = true := by simp [h3]
    go_wp2_with fail
    refine (awake03 _).mono ?_
    rintro e w1 ⟨rfl, hf⟩
    go_wp2_with fail
    refine (awake03 _).mono ?_
    rintro e w2 ⟨rfl, hf2⟩
    go_wp2
    go_ret
    exact ⟨rfl, (hf.trans hf2).below⟩
  have h3' : ((ys.length : Int) == 0) = false := by simp only [beq_eq_false_iff_ne]; omega
  have h3p : 0 < ys.length := by omega
  rcases hv with rfl | ⟨b1, o1, rfl, hb1, hc1⟩
  · exact absurd rfl h3
  have c0 := hc1 0 h3p
  generalize hy0 : ys.getD 0 0 = y at c0
  have HC := Lib.hid (class_any y)
  have HC1 := Lib.hid hc1
  have HY := Lib.hid hy0
  simp only [Nat.add_zero] at c0
  clear hc1 hy0
  by_cases h4 : 0 < clsI y
  · go_wp2_with fail
    refine (awake03 _).mono ?_
    rintro e w1 ⟨rfl, hf⟩
    have c1 := (Below.cell hf (p := ⟨b1, o1, none⟩) hb1).trans c0
    go_wp2_with fail
    refine (HC.out _).mono ?_
    rintro e w2 ⟨rfl, rfl⟩
    go_wp2_with fail
    refine (awake03 _).mono ?_
    rintro e w3 ⟨rfl, hf2⟩
    go_wp2
    go_ret
    exact ⟨rfl, (hf.trans hf2).below⟩
  · go_wp2_with fail
    refine (awake03 _).mono ?_
    rintro e w1 ⟨rfl, hf⟩
    have c1 := (Below.cell hf (p := ⟨b1, o1, none⟩) hb1).trans c0
    go_wp2_with fail
    refine (HC.out _).mono ?_
    rintro e w2 ⟨rfl, rfl⟩
    clear c1 c0 HC hb1
    go_wp2_with (first
      | (at_builtin; refine wpList_append_sl _ rfl _ _ rfl w.heap.size _ _ [] xs rfl (OwnR.empty w1 _ hf.size) rfl ((hu0.keep hf).alloc _) (by simp; omega) (by have := hf.size; simp; omega) ?_; intro v1 w2 ho1 hg1 _; have hf2 := OwnR.grew (hf.alloc _) (OwnR.empty w1 _ hf.size) hg1; have hv2 := hv0.keep hf2)
      | (at_builtin; refine wpList_append_sl _ rfl _ _ rfl w.heap.size _ _ _ ys rfl ho1 rfl hv2 (by simp; omega) hf2.size ?_; intro v2 w3 ho2 hg2 _; have hf3 := OwnR.grew hf2 ho1 hg2))
    rw [List.nil_append] at ho2
    have HO2 := Lib.hid ho2
    clear ho1 ho2 hg1 hg2 hv2
    refine (capt_any _ xs _ ((hu0.keep hf3).alloc _) (by omega) hx32).mono ?_
    rintro e w4 ⟨a1, rfl, ho3, hf4⟩
    have g4 := ((Fresh.refl w3).alloc (.cells #[] 21)).trans hf4
    have he4 := (OwnR.empty w3 w3.heap.size (Nat.le_refl _)).keep hf4
    have hl1 := apt_len xs
    have hl2 := apt_len ys
    go_wp2_with (first
      | (at_builtin; refine wpList_append_sl _ rfl _ _ rfl w3.heap.size _ _ [] (apt xs) rfl he4 rfl ho3.sl (by simp; omega) g4.size ?_; intro v3 w5 ho4 hg3 _; have g6 := OwnR.grew g4 he4 hg3; have hv6 := hv0.keep (hf3.trans g6)))
    rw [List.nil_append] at ho4
    refine (capt_any _ ys _ hv6 (by omega) hy32).mono ?_
    rintro e w6 ⟨a2, rfl, ho5, hf7⟩
    have ho6 := ho4.keep hf7
    have g8 := g6.trans hf7
    have hl3 := apt_len (xs ++ ys)
    simp only [List.length_append] at hl3
    clear he4 g4 hg3 ho4 hv6 ho3 hf4
    go_wp2_with (first
      | (at_builtin; refine wpList_append_sl _ rfl _ _ rfl w3.heap.size _ _ _ (apt ys) rfl ho6 rfl ho5.sl (by omega) g8.size ?_; intro v4 w7 ho7 hg4 _; have g9 := OwnR.grew g8 ho6 hg4))
    have hin : In32 (xs ++ ys) := fun z hz => by rcases List.mem_append.1 hz with h | h; exact hx32 z h; exact hy32 z h
    refine (capt_any _ (xs ++ ys) _ (HO2.out.keep g9).sl (by simp; omega) hin).mono ?_
    rintro e w8 ⟨a3, rfl, ho8, hf10⟩
    have ho9 := ho7.keep hf10
    clear ho7 hg4 ho6 ho5
    go_wp2_with fail
    refine (refSame_any _ _ _ _ _ ho8.sl ho9.sl (by omega) (by simp; omega)).mono ?_
    rintro e w9 ⟨rfl, hf11⟩
    go_wp2
    go_ret
    refine ⟨?_, ((hf3.trans (g9.trans hf10)).trans hf11).below⟩
    have hys : ∃ R, ys = y :: R := by
      have := HY.out
      cases ys with
      | nil => simp at h3p
      | cons z R => simp at this; exact ⟨R, by rw [this]⟩
    obtain ⟨R, rfl⟩ := hys
    have hc0 : clsI y = 0 := by have := class_ge y; omega
    rw [apt_joins hc0, decide_eq_true rfl]
    rfl
theorem walk_ComposeJoins (a : Option Addr) (len cap : Nat) (zs : List Int) (a2 : Option Addr) (len2 cap2 : Nat) (zs2 : List Int) (w : World) (h : IsRow .i32 w a len cap zs) (_ : len * 4 ≤ 140737488351232) (h2 : IsRow .i32 w a2 len2 cap2 zs2) (_ : len2 * 4 ≤ 140737488351232) :
    Calls Try.prog 5 #[.slice a len cap, .slice a2 len2 cap2] w fun e w' => e = .returned (.bool true) ∧ Below w.heap.size w w' :=
  joins_walk _ _ _ _ w h.sl.1 h2.sl.1 h.sl.2.2 h2.sl.2.2
end Go.Proofs.Ytmfmnlioojkjgaa
