/- CharsetPieces, CharsetSplits: the walks. -/
import Derived.Test.YtakddihadfdkpaaChaN
import Derived.Test.YtakddihadfdkpaaChaO
namespace Go.Proofs.Ytakddihadfdkpaa
open Go.RowKit
set_option linter.unusedVariables false

theorem OwnP.sl {w : World} {B : Nat} {v : Value} {xs : List (Int × Int)} (h : OwnP w B v xs) :
    (xs = [] ∧ ∃ a cap, v = .slice a 0 cap) ∨ (0 < xs.length ∧ ∃ g cap, v = .slice (some ⟨g, 0, none⟩) xs.length cap ∧ g < w.heap.size ∧
      ∀ j (hj : j < xs.length), w.cell? ⟨g, j * 2, none⟩ = some (.int .i32 (xs[j]).1) ∧ w.cell? ⟨g, j * 2 + 1, none⟩ = some (.int .i64 (xs[j]).2)) := by
  have h0 := h
  obtain ⟨h1, h2 | ⟨g, cap, cur, hv, hb, hh, h3⟩⟩ := h
  · obtain ⟨hv, hn⟩ := h2
    have : xs = [] := List.eq_nil_of_length_eq_zero hn
    subst this
    exact .inl ⟨rfl, none, 0, hv⟩
  · by_cases hz : 0 < xs.length
    · refine .inr ⟨hz, g, cap, hv, ?_, fun j hj => ?_⟩
      · rcases Nat.lt_or_ge g w.heap.size with q | q
        · exact q
        · rw [Array.getElem?_eq_none q] at hh; cases hh
      · subst hv
        have e0 := World.ownsRow.cellAt h0 (j * 2) (by omega)
        have e1 := World.ownsRow.cellAt h0 (j * 2 + 1) (by omega)
        have g0 := pcs_get xs j hj 0 (by omega)
        have g1 := pcs_get xs j hj 1 (by omega)
        rw [show j * 2 + 0 = j * 2 by omega] at g0
        rw [e0, g0, e1, g1]
        exact ⟨rfl, rfl⟩
    · have : xs = [] := List.eq_nil_of_length_eq_zero (by omega)
      subst this
      exact .inl ⟨rfl, _, cap, hv⟩
def LawRel (enc : Int) (s : ByteArray) (xs : List (Int × Int)) (w : World) (at_ i : Value) (wr : World) : Prop :=
  ∃ (p k : Nat), at_ = .int .i64 p ∧ i = .int .i64 k ∧ k ≤ xs.length ∧ p ≤ s.size ∧ Chain enc s p (xs.drop k) s.size ∧ Fresh w wr
theorem Chain.more {enc : Int} {s : ByteArray} {xs : List (Int × Int)} {p k : Nat} (h : Chain enc s p (xs.drop k) s.size) (hk : k < xs.length) : p < s.size ∧ nextC enc s p = xs[k] ∧ Chain enc s (p + (xs[k]).2.toNat) (xs.drop (k + 1)) s.size := by
  rw [List.drop_eq_getElem_cons hk] at h
  exact h
theorem Chain.done {enc : Int} {s : ByteArray} {xs : List (Int × Int)} {p k : Nat} (h : Chain enc s p (xs.drop k) s.size) (hk : ¬ k < xs.length) : p = s.size := by
  rw [List.drop_eq_nil_of_le (by omega)] at h
  exact h
set_option maxHeartbeats 1600000 in
set_option maxRecDepth 100000 in
theorem pieces_law (enc : Int) (s : ByteArray) (w : World) (h0 : 0 ≤ enc) (h8 : enc ≤ 8) (hs : s.size ≤ 100) :
    Calls Try.prog 7 #[.int .i64 enc, .string s] w fun e w' => e = .returned (.bool true) ∧ Below w.heap.size w w' := by
  go_enter Try.func7, Try.ntmps7
  go_wp2_with fail
  refine (awake02 _).mono ?_
  rintro e w1 ⟨rfl, h1⟩
  go_wp2_with fail
  refine (pieces_any _ _ h0 h8 (by omega) _).mono ?_
  rintro e w2 ⟨v, xs, rfl, ho, hch, hlen, h2⟩
  have hch := Lib.hid hch
  have h12 := h1.trans h2
  rcases ho.sl with ⟨rfl, a, cap, rfl⟩ | ⟨hz, g, cap, rfl, hg, hcell⟩
  · have hsz : Hid (0 = s.size) := hch.out
    have h0 : s.size = 0 := by have := hsz.out; omega
    have hsz : Hid (s.size = 0) := h0
    clear ho h0 hlen
    go_wp2
    refine wp_loop_rounds 1 ?_
    rw [rounds_succ]
    go_wp2
    go_ret
    exact ⟨ret_bool (by rw [hsz.out]; rfl), h12.below⟩
  · have HC := Lib.hid hcell
    have hl : xs.length ≤ 100 := by omega
    have HH := Lib.hid ho
    clear hcell ho hlen
    go_wp2
    go_loopw [6, 7] (fun at_ i wr => LawRel enc s xs w2 at_ i wr) (fun _ i _ => xs.length - (intOf i).toNat)
    case atStart => exact ⟨0, 0, rfl, rfl, Nat.zero_le _, Nat.zero_le _, hch.out, Fresh.refl _⟩
    case round =>
      obtain ⟨p, k, rfl, rfl, hk, hp, hc, hf⟩ := hrel
      have HD := Lib.hid hc
      clear hc
      by_cases hlt : k < xs.length
      · have hlt2 : (k : Int) < (xs.length : Int) := by omega
        obtain ⟨hps, hn, hc2⟩ := HD.out.more hlt
        have HD2 := Lib.hid hc2
        obtain ⟨c0, c1⟩ := HC.out k hlt
        have c0' : wr.cell? ⟨g, k * 2, none⟩ = some (.int .i32 (xs[k]).1) := (Below.cell hf (p := ⟨g, k * 2, none⟩) hg).trans c0
        have c1' : wr.cell? ⟨g, k * 2 + 1, none⟩ = some (.int .i64 (xs[k]).2) := (Below.cell hf (p := ⟨g, k * 2 + 1, none⟩) hg).trans c1
        have hr := nextC_range (enc := enc) (s := s) (i := p)
        have hst := next_step h0 h8 hps
        have hbk := next_back h0 h8 hps
        have HR := Lib.hid (rNext_any enc s p h0 h8 hps (by omega))
        rw [hn] at HR hbk hr hst
        clear hc2 c0 c1 hn
        generalize xs[k] = x at c0' c1' HD2 HR hbk hr hst
        obtain ⟨r, n⟩ := x
        simp only at c0' c1' HD2 hr hst
        obtain ⟨r0, r1⟩ := hr
        obtain ⟨s1, s2, s3⟩ := hst
        have HB := Lib.hid hbk
        clear hbk
        go_wp2_with fail
        refine (HR.out _).mono ?_
        rintro e w3 ⟨rfl, h3⟩
        have d0 : w3.cell? ⟨g, k * 2, none⟩ = some (.int .i32 r) := (Below.cell h3 (p := ⟨g, k * 2, none⟩) (Nat.lt_of_lt_of_le hg hf.size)).trans c0'
        have d1 : w3.cell? ⟨g, k * 2 + 1, none⟩ = some (.int .i64 n) := (Below.cell h3 (p := ⟨g, k * 2 + 1, none⟩) (Nat.lt_of_lt_of_le hg hf.size)).trans c1'
        clear c0' c1'
        have k1 : IntKind.i64.wrap r = r := by rw [IntKind.wrap_i64]; omega
        have HP := pEnc_str enc r
        unfold BytesStr at HP
        rw [encP_in ⟨h0, h8⟩] at HP
        have fin : Fresh w2 w3 := hf.trans h3
        rcases HB.out with ⟨r', l, e, hr0, hl2, hst⟩ | ⟨e, hl2⟩
        · injection e with e1 e2
          subst e1
          subst e2
          rw [hl2] at HP
          have HO : (some l : Option (List Int)).isSome = true := rfl
          have HS : strC (some l) = s.extract p (p + l.length) := stands_eq (encC_bytes hl2).1 hst
          rw [HO, HS] at HP
          have HPP := Lib.hid HP
          generalize hm : l.length = m at s1 s2 s3 d1 HPP HD2
          clear HP HO HS hl2 hst HB hm
          have q1 : IntKind.i64.wrap ((p : Int) + m) = (p : Int) + m := by rw [IntKind.wrap_i64]; omega
          have q2 : (0 : Int) ≤ (p : Int) + m := by omega
          have q3 : ((p : Int) + m).toNat = p + m := by omega
          have q4 : (p : Int) ≤ (p : Int) + m := by omega
          have q5 : (p : Int) + m ≤ (s.size : Int) := by omega
          have q6 : p + m ≤ s.size := by omega
          have q7 : p ≤ p + m := by omega
          have q8 : (0 : Int) ≤ (p : Int) := by omega
          go_wp2_with fail
          refine (HPP.out _).mono ?_
          rintro e w4 ⟨rfl, h4⟩
          go_wp2
          go_roundw
          case rel => exact ⟨p + m, k + 1, by rw [Int.natCast_add], by rw [Int.natCast_add]; rfl, by omega, by omega, HD2.out, fin.trans h4⟩
          case measure => simp [intOf]; omega
        · injection e with e1 e2
          subst e1
          subst e2
          rw [hl2] at HP
          have HO : (none : Option (List Int)).isSome = false := rfl
          rw [HO] at HP
          generalize strC none = z at HP
          have HPP := Lib.hid HP
          clear HP HO hl2 HB
          go_wp2_with fail
          refine (HPP.out _).mono ?_
          rintro e w4 ⟨rfl, h4⟩
          go_wp2
          go_roundw
          case rel => exact ⟨p + 1, k + 1, by rw [Int.natCast_add]; rfl, by rw [Int.natCast_add]; rfl, by omega, by omega, HD2.out, fin.trans h4⟩
          case measure => simp [intOf]; omega
      · have hps : Hid (p = s.size) := HD.out.done hlt
        go_wp2
        go_ret
        exact ⟨ret_bool (by rw [hps.out]; simp), (h12.trans hf).below⟩
end Go.Proofs.Ytakddihadfdkpaa
