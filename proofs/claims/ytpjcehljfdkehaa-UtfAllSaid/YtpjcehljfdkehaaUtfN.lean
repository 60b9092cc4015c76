/- UtfAll and UtfJoins: the walks. -/
import Derived.Test.YtpjcehljfdkehaaUtfM
namespace Go.Proofs.Ytpjcehljfdkehaa
open Go.RowKit
set_option linter.unusedVariables false

theorem ByteArray.beq_self_toList (s : ByteArray) : (s.toList == s.toList) = true := by simp
set_option maxHeartbeats 800000 in
theorem walk_UtfAll (b : ByteArray) (w : World) (hb : b.size ≤ 140737488351232) :
    Calls Try.prog 6 #[.string b] w fun e w' => e = .returned (.bool true) ∧ Below w.heap.size w w' := by
  by_cases hz : b.size ≤ 300
  · go_enter Try.func6, Try.ntmps6
    go_wp2_with fail
    refine (awake01 _).mono ?_
    rintro e w1 ⟨rfl, h1⟩
    go_wp2_with fail
    refine (utfAll_any _ (by omega) _).mono ?_
    rintro e w2 ⟨u, rfl, ho2, h2⟩
    go_wp2_with fail
    refine (refAll_any _ (by omega) _).mono ?_
    rintro e w3 ⟨v, rfl, ho3, h3⟩
    have hl : ((allFrom b 0).getD []).length ≤ 1000000 := by
      cases ha : allFrom b 0 with
      | none => simp
      | some l => have := all_len b b.size 0 l (by omega) ha; simp; omega
    have hs2 := (ho2.keep h3).sl
    have hs3 := ho3.sl
    have HB : Hid (Fresh w w3) := (h1.trans h2).trans h3
    go_wp2_with fail
    refine (refSame_any _ _ _ _ _ hs2 hs3 hl hl).mono ?_
    rintro e w4 ⟨rfl, h4⟩
    rw [decide_eq_true rfl]
    cases ha : allFrom b 0 with
    | none =>
      go_wp2
      go_ret
      exact ⟨rfl, (HB.out.trans h4).below⟩
    | some l =>
      rw [ha] at hs2 hl
      have hj := join_all ha
      have HJ := Lib.hid hj
      clear hj ha
      go_wp2_with fail
      refine (utfJoin_any _ l _ (hs2.keep h4) hl).mono ?_
      rintro e w5 ⟨rfl, h5⟩
      rw [HJ.out]
      go_wp2
      go_ret
      exact ⟨ret_bool (by simp), ((HB.out.trans h4).trans h5).below⟩
  · go_enter Try.func6, Try.ntmps6
    go_wp2_with fail
    refine (awake01 _).mono ?_
    rintro e w1 ⟨rfl, h1⟩
    go_wp2_with fail
    refine (awake01 _).mono ?_
    rintro e w2 ⟨rfl, h2⟩
    go_wp2
    go_ret
    exact ⟨rfl, (h1.trans h2).below⟩

def WantRel (xs : List Int) (B : Nat) (w : World) (want i : Value) (wr : World) : Prop :=
  ∃ k : Nat, i = .int .i64 k ∧ k ≤ xs.length ∧ OwnR wr B want ((xs.take k).filter isC) ∧ Fresh w wr
set_option maxHeartbeats 800000 in
theorem joins_walk (u : Value) (xs : List Int) (w : World) (hu : Sl w u xs) :
    Calls Try.prog 7 #[u] w fun e w' => e = .returned (.bool true) ∧ Below w.heap.size w w' := by
  obtain ⟨i0, hi0, hz0, hz1, hz2⟩ := info_parts info32
  have hu0 := hu
  obtain ⟨a, ca, rfl, hu⟩ := hu
  by_cases hz : xs.length ≤ 100
  · have HU := Lib.hid hu
    have HU0 := Lib.hid hu0
    clear hu hu0
    generalize hn : xs.length = n at hz HU HU0
    have HN := Lib.hid hn
    clear hn
    go_enter Try.func7, Try.ntmps7
    go_wp2_with fail
    refine (awake01 _).mono ?_
    rintro e w1 ⟨rfl, h1⟩
    go_wp2_with fail
    refine (utfJoin_any _ xs _ (HU0.out.keep h1) (by have := HN.out; omega)).mono ?_
    rintro e w2 ⟨rfl, h2⟩
    have hjs := joinS_size xs
    go_wp2_with fail
    refine (utfAll_any _ (by have := HN.out; omega) _).mono ?_
    rintro e w3 ⟨v, rfl, ho3, h3⟩
    rw [all_join xs]
    rw [all_join xs] at ho3
    have ho3' : OwnR w3 w2.heap.size v (xs.filter isC) := ho3
    clear ho3
    have HB : Hid (Fresh w w3) := (h1.trans h2).trans h3
    go_wp2
    go_loopw [6, 7] (fun want i wr => WantRel xs w3.heap.size w3 want i wr) (fun _ i _ => n - (intOf i).toNat)
    case atStart => exact ⟨0, rfl, Nat.zero_le _, OwnR.nil _ _, Fresh.refl _⟩
    case round =>
      obtain ⟨k, rfl, hk, hown, hf⟩ := hrel
      have hk' : k ≤ n := by have := HN.out; omega
      have hll : ((xs.take k).filter isC).length ≤ k := Nat.le_trans (List.length_filter_le _ _) (List.length_take_le _ _)
      by_cases hlt : k < n
      · rcases HU.out with hnil | ⟨b1, o1, rfl, hb1, hc1⟩
        · exfalso; have := HN.out; rw [hnil] at this; simp at this; omega
        have c1 : wr.cell? ⟨b1, o1 + k, none⟩ = some (.int .i32 (xs.getD k 0)) := (Below.cell (HB.out.trans hf) (p := ⟨b1, o1 + k, none⟩) hb1).trans (hc1 k hlt)
        have HC1 := Lib.hid hc1
        clear hc1
        have HT := Lib.hid (take_succ_getD xs k (by have := HN.out; omega))
        generalize hp : xs.getD k 0 = p at c1 HT
        clear hp
        go_wp2_with fail
        refine (refIs_any _ _).mono ?_
        rintro e w4 ⟨rfl, rfl⟩
        cases hc : isC p with
        | true =>
          have HF := Lib.hid (show (xs.take (k + 1)).filter isC = (xs.take k).filter isC ++ [p] by rw [HT.out, List.filter_append]; simp [hc])
          clear hc
          generalize (xs.take k).filter isC = acc at hown hll HF
          have hown1 := hown
          unfold OwnR at hown1
          go_wp2_with (at_builtin; refine wpList_append_own _ rfl _ _ 29 rfl w3.heap.size 21 i0 (.int .i32 0) 1 4 Try.underlying29 hi0 hz0 hz1 hz2 rfl (by decide) _ _ _ rfl (hown1.alloc _) ⟨wr.heap.size, 0, none⟩ 1 1 [.int .i32 p] rfl rfl ?c1 ?c2 ?c3 ?c4 ?c5 ?_)
          case c1 => exact cell_new1 _ _ _
          case c2 => intro u hu; simp at hu; subst hu; rfl
          case c3 => unfold maxLen; omega
          case c4 => omega
          case c5 => have := hf.size; simp; omega
          intro v' w' hown' hgrow _
          have hn' := OwnR.push hown'
          have hf' := OwnR.fresh hf hown1 hgrow
          clear hown' hgrow hown1 hown c1
          go_wp2
          go_roundw
          case rel => exact ⟨k + 1, by rw [Int.natCast_add]; rfl, by have := HN.out; omega, by rw [HF.out]; exact hn', hf'⟩
          case measure => simp [intOf]; omega
        | false =>
          have HF := Lib.hid (show (xs.take (k + 1)).filter isC = (xs.take k).filter isC by rw [HT.out, List.filter_append]; simp [hc])
          clear hc c1
          go_wp2
          go_roundw
          case rel => exact ⟨k + 1, by rw [Int.natCast_add]; rfl, by have := HN.out; omega, by rw [HF.out]; exact hown, hf⟩
          case measure => simp [intOf]; omega
      · have hkn : xs.take k = xs := List.take_of_length_le (by have := HN.out; omega)
        rw [hkn] at hown hll
        clear hkn hk
        go_wp2_with fail
        refine (refJoin_any _ xs _ (HU0.out.keep (HB.out.trans hf)) (by have := HN.out; omega)).mono ?_
        rintro e w5 ⟨rfl, h5⟩
        go_wp2_with fail
        refine (refSame_any _ _ _ _ _ ((ho3'.keep (hf.trans h5)).sl) (hown.keep h5).sl (by omega) (by omega)).mono ?_
        rintro e w6 ⟨rfl, h6⟩
        rw [decide_eq_true rfl]
        go_wp2
        go_ret
        exact ⟨ret_bool (by simp), (((HB.out.trans hf).trans h5).trans h6).below⟩
  · go_enter Try.func7, Try.ntmps7
    go_wp2_with fail
    refine (awake01 _).mono ?_
    rintro e w1 ⟨rfl, h1⟩
    go_wp2_with fail
    refine (awake01 _).mono ?_
    rintro e w2 ⟨rfl, h2⟩
    go_wp2
    go_ret
    exact ⟨rfl, (h1.trans h2).below⟩
theorem walk_UtfJoins (a : Option Addr) (len cap : Nat) (zs : List Int) (w : World) (h : IsRow .i32 w a len cap zs) (_ : len * 4 ≤ 140737488351232) :
    Calls Try.prog 7 #[.slice a len cap] w fun e w' => e = .returned (.bool true) ∧ Below w.heap.size w w' :=
  joins_walk _ _ w h.sl.1
end Go.Proofs.Ytpjcehljfdkehaa
