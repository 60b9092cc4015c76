/- SortStableFunc, order, split. -/
import Derived.Test.YtmfmnlioojkjgaaSrtH
import Derived.Test.YtmfmnlioojkjgaaSrtI
namespace Go.Proofs.Ytmfmnlioojkjgaa
open Go.RowKit
set_option linter.unusedVariables false
set_option linter.unnecessarySimpa false
set_option linter.unusedSimpArgs false

set_option maxHeartbeats 800000 in
theorem sort_any (w0 : World) (g off n : Nat) (X : List Int) (w : World) (cap : Nat) (hn : n ≤ 1000000) (hoff : off ≤ 1000000) (h : Arr w0 g off n X w) :
    Calls Try.prog 33 #[.slice (some ⟨g, off, none⟩) n cap, .func (.func 34) #[] #[]] w (SortPost w0 g off n [] X []) := by
  have HX := Lib.hid (stable_any w0 g off n X w cap hn hoff h)
  clear h
  go_enter Try.func33, Try.ntmps33
  go_wp2_with fail
  refine HX.out.mono ?_
  rintro e w2 ⟨rfl, h2⟩
  go_wp2
  go_end0
  exact ⟨rfl, h2⟩
set_option maxHeartbeats 800000 in
theorem order_any (w0 : World) (g off n : Nat) (X : List Int) (w : World) (cap : Nat) (hn : n ≤ 1000000) (hoff : off ≤ 1000000) (h : Arr w0 g off n X w) :
    Calls Try.prog 29 #[.slice (some ⟨g, off, none⟩) n cap] w (SortPost w0 g off n [] X []) := by
  have HX := Lib.hid (sort_any w0 g off n X w cap hn hoff h)
  clear h
  go_enter Try.func29, Try.ntmps29
  go_wp2_with fail
  refine HX.out.mono ?_
  rintro e w2 ⟨rfl, h2⟩
  go_wp2
  go_end0
  exact ⟨rfl, h2⟩
set_option maxHeartbeats 800000 in
theorem stable_nil (w : World) (F : Value) : Calls Try.prog 37 #[.slice none 0 0, .int .i64 0, F] w (fun e w' => e = .returned (.tuple #[]) ∧ w' = w) := by
  go_enter Try.func37, Try.ntmps37
  go_wp2
  refine wp_loop_rounds 1 ?_
  rw [rounds_succ]
  go_wp2_with fail
  refine (insert_none _ _ 0 (by omega) w).mono ?_
  rintro e w1 ⟨rfl, rfl⟩
  go_wp2
  refine wp_loop_rounds 1 ?_
  rw [rounds_succ]
  go_wp2
  go_end0
  exact ⟨rfl, rfl⟩
set_option maxHeartbeats 800000 in
theorem order_nil (w : World) : Calls Try.prog 29 #[.slice none 0 0] w (fun e w' => e = .returned (.tuple #[]) ∧ w' = w) := by
  go_enter Try.func29, Try.ntmps29
  go_wp2_with fail
  go_enter Try.func33, Try.ntmps33
  go_wp2_with fail
  refine (stable_nil w _).mono ?_
  rintro e w1 ⟨rfl, rfl⟩
  go_wp2
  go_end0
  go_wp2
  go_end0
  exact ⟨rfl, rfl⟩
/-- a part of a slice of one's own, as an array -/
theorem own_arr {w : World} {B : Nat} {v : Value} {F G : List Int} (h : OwnR w B v (F ++ G)) (hG : 1 ≤ (F ++ G).length) :
    ∃ g cap, v = .slice (some ⟨g, 0, none⟩) (F.length + G.length) cap ∧ B ≤ g ∧ F.length + G.length ≤ cap ∧ Arr w g F.length G.length G w ∧
      (∀ M w', M.length = G.length → Arr w g F.length G.length M w' → OwnR w' B v (F ++ M)) := by
  obtain ⟨h1, h2 | ⟨g, cap, cur, hv, hb, hh, hc1, hc2, hs, ht⟩⟩ := h
  · exact absurd h2.2 (by omega)
  · have hlen : (F ++ G).length = F.length + G.length := List.length_append
    have hcell : ∀ i, i < F.length + G.length → cur[i]? = some (.int .i32 ((F ++ G).getD i 0)) := fun i hi => by
      have e1 : (cur.toList.take ((F ++ G).length * 1))[i]? = cur[i]? := by
        rw [List.getElem?_take_of_lt (by omega)]; simp
      rw [← e1, ht, List.getElem?_map, List.getElem?_eq_getElem (by omega), List.getD_eq_getElem?_getD, List.getElem?_eq_getElem (by omega)]
      rfl
    refine ⟨g, cap, by rw [← hlen]; exact hv, hb, by omega, ⟨rfl, ⟨rfl, rfl, rfl, Nat.le_refl _, fun _ _ _ => rfl⟩, cur, cur, hh, hh, rfl, by omega, fun _ _ => rfl, fun j hj => ?_⟩, fun M w' hM hA => ?_⟩
    · rw [hcell _ (by omega)]
      congr 2
      simp [List.getD_eq_getElem?_getD, List.getElem?_append_right]
    · obtain ⟨cs0, cs, k1, k2, k3, k4, k5, k6⟩ := hA.mem
      have e0 : cs0 = cur := by
        unfold Blk at k1
        rw [hh] at k1
        simp only [Option.some.injEq, Obj.cells.injEq] at k1
        exact k1.1.symm
      subst e0
      refine ⟨by simp, .inr ⟨g, cap, cs, by rw [hv]; simp [hM], hb, k2, by simp [hM]; omega, hc2, by omega, ?_⟩⟩
      apply List.ext_getElem?
      intro i
      by_cases hi : i < F.length + G.length
      · rw [List.getElem?_take_of_lt (by simp [hM]; omega)]
        have e2 : cs.toList[i]? = cs[i]? := by simp
        rw [e2]
        by_cases hF : i < F.length
        · rw [k5 i (.inl hF), hcell i hi]
          rw [List.getElem?_map, List.getElem?_append_left hF, List.getD_eq_getElem?_getD, List.getElem?_append_left hF, List.getElem?_eq_getElem hF]
          rfl
        · have := k6 (i - F.length) (by omega)
          rw [show F.length + (i - F.length) = i by omega] at this
          rw [this, List.getElem?_map, List.getElem?_append_right (by omega), List.getElem?_eq_getElem (by omega), List.getD_eq_getElem?_getD, List.getElem?_eq_getElem (by omega)]
          rfl
      · rw [List.getElem?_eq_none (by simp [hM]; omega), List.getElem?_eq_none (by simp [hM]; omega)]
def In32 (xs : List Int) : Prop := ∀ x ∈ xs, -2147483648 ≤ x ∧ x < 2147483648
def RunesPost (xs : List Int) (w : World) (e : Ending) (w' : World) : Prop := ∃ v, e = .returned v ∧ OwnR w' w.heap.size v xs ∧ Fresh w w'
theorem OwnR.base {w : World} {B B' : Nat} {v : Value} {xs : List Int} (h : OwnR w B v xs) (hb : B' ≤ B) : OwnR w B' v xs := by
  obtain ⟨h1, h2 | ⟨g, cap, cur, hv, hb2, r⟩⟩ := h
  · exact ⟨h1, .inl h2⟩
  · exact ⟨h1, .inr ⟨g, cap, cur, hv, by omega, r⟩⟩
theorem split_yes {r a b : Int} (h : splitI r = some (a, b)) (hr : -2147483648 ≤ r ∧ r < 2147483648) (w : World) : Calls Try.prog 11 #[.int .i32 r] w fun e w' => e = .returned (.tuple #[.int .i32 a, .int .i32 b, .bool true]) ∧ Fresh w w' :=
  (split_any r w hr).mono fun e w' ⟨he, hf⟩ => ⟨by unfold OptP at he; rw [h] at he; exact he, hf⟩
theorem split_not {r : Int} (h : splitI r = none) (hr : -2147483648 ≤ r ∧ r < 2147483648) (w : World) : Calls Try.prog 11 #[.int .i32 r] w fun e w' => e = .returned (.tuple #[.int .i32 0, .int .i32 0, .bool false]) ∧ Fresh w w' :=
  (split_any r w hr).mono fun e w' ⟨he, hf⟩ => ⟨by unfold OptP at he; rw [h] at he; exact he, hf⟩
set_option maxHeartbeats 1600000 in
theorem csplit_any : ∀ (k : Nat) (r : Int) (w : World), r.toNat ≤ k → -2147483648 ≤ r ∧ r < 2147483648 → Calls Try.prog 28 #[.int .i32 r] w (RunesPost (splits r) w)
  | k, r, w, hk, hr => by
    obtain ⟨i0, hi0, hz0, hz1, hz2⟩ := info_parts info32
    cases h : splitI r with
    | none =>
      have HS := Lib.hid (split_not h hr)
      have HN := Lib.hid (splits_none h)
      clear h
      go_enter Try.func28, Try.ntmps28
      go_wp2_with fail
      refine (HS.out _).mono ?_
      rintro e w1 ⟨rfl, hf⟩
      go_wp2
      go_ret
      rw [HN.out]
      refine ⟨_, rfl, ?_, hf.alloc _⟩
      have hsz := hf.size
      refine ⟨rfl, .inr ⟨_, 1, #[.int .i32 r], rfl, by simpa using hsz, heap_alloc_new _ _, by simp, by unfold maxLen; omega, rfl, rfl⟩⟩
    | some p =>
      obtain ⟨a, b⟩ := p
      have hf := splitI_facts h
      have HS := Lib.hid (split_yes h hr)
      have HN := Lib.hid (splits_some h)
      match k, hk with
      | 0, hk => exact absurd hk (by omega)
      | k + 1, hk =>
        have HIH := Lib.hid (fun w => csplit_any k a w (by omega) (by omega))
        clear h hf
        go_enter Try.func28, Try.ntmps28
        go_wp2_with fail
        refine (HS.out _).mono ?_
        rintro e w1 ⟨rfl, hf⟩
        go_wp2_with fail
        refine (HIH.out _).mono ?_
        rintro e w2 ⟨v, rfl, ho, hf2⟩
        have hown1 := ho.base hf.size
        have hf1 := hf.trans hf2
        have hlen := (splits_len a).2
        unfold OwnR at hown1
        clear ho hf hf2
        go_wp2_with (at_builtin; refine wpList_append_own _ rfl _ _ 30 rfl w.heap.size 21 i0 (.int .i32 0) 1 4 Try.underlying30 hi0 hz0 hz1 hz2 rfl (by decide) _ _ _ rfl (hown1.alloc _) ⟨w2.heap.size, 0, none⟩ 1 1 [.int .i32 b] rfl rfl ?c1 ?c2 ?c3 ?c4 ?c5 ?_)
        case c1 => exact cell_new1 _ _ _
        case c2 => intro u hu; simp at hu; subst hu; rfl
        case c3 => unfold maxLen; omega
        case c4 => omega
        case c5 => have := hf1.size; simp; omega
        intro v' w' hown' hgrow _
        have hn' := OwnR.push hown'
        have hf' := OwnR.fresh hf1 hown1 hgrow
        clear hown' hgrow hown1
        go_wp2
        go_ret
        rw [HN.out]
        exact ⟨_, rfl, hn', hf'⟩
theorem csplit (r : Int) (w : World) (hr : -2147483648 ≤ r ∧ r < 2147483648) : Calls Try.prog 28 #[.int .i32 r] w (RunesPost (splits r) w) := csplit_any _ r w (Nat.le_refl _) hr
end Go.Proofs.Ytmfmnlioojkjgaa
