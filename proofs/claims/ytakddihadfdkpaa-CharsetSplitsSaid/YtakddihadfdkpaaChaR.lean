/- CharsetPieces, CharsetSplits, CharsetBytes: the walks. -/
import Derived.Test.YtakddihadfdkpaaChaQ
import Derived.Deep.RegionHeld3
namespace Go.Proofs.Ytakddihadfdkpaa
open Go.RowKit
set_option linter.unusedVariables false

set_option maxHeartbeats 800000 in
theorem walk_CharsetPieces (enc : Int) (s : ByteArray) (w : World) (_ : (Lit.int .i64 enc).wf = true) (hb : s.size ≤ 140737488351232) :
    Calls Try.prog 7 #[.int .i64 enc, .string s] w fun e w' => e = .returned (.bool true) ∧ Below w.heap.size w w' := by
  by_cases hz : s.size ≤ 100
  · by_cases he : 0 ≤ enc ∧ enc ≤ 8
    · exact pieces_law enc s w he.1 he.2 hz
    · have HP := Lib.hid (pieces_out enc s he (by omega))
      have h' : enc < 0 ∨ (0 ≤ enc ∧ 8 < enc) := by omega
      clear he
      rcases h' with h' | ⟨i0, h'⟩
      all_goals
        go_enter Try.func7, Try.ntmps7
        go_wp2_with fail
        refine (awake02 _).mono ?_
        rintro e w1 ⟨rfl, h1⟩
        go_wp2_with fail
        refine (HP.out _).mono ?_
        rintro e w2 ⟨rfl, h2⟩
        go_wp2
        go_ret
        exact ⟨rfl, (h1.trans h2).below⟩
  · go_enter Try.func7, Try.ntmps7
    go_wp2_with fail
    refine (awake02 _).mono ?_
    rintro e w1 ⟨rfl, h1⟩
    go_wp2_with fail
    refine (awake02 _).mono ?_
    rintro e w2 ⟨rfl, h2⟩
    go_wp2
    go_ret
    exact ⟨rfl, (h1.trans h2).below⟩
theorem wf8 {r : Int} (h : (Lit.int .u8 r).wf = true) : 0 ≤ r ∧ r < 256 := by
  simp [Lit.wf, IntKind.min, IntKind.max, IntKind.bits, IntKind.signed] at h
  omega
theorem stands_left {l : List Int} {t : ByteArray} (h : ∀ x ∈ l, 0 ≤ x ∧ x < 256) : Stands (strOfNums l ++ t) 0 l :=
  ⟨by rw [ByteArray.size_append, strOfNums_size]; omega, fun i hi => by
    rw [show 0 + i = i by omega, B_append_left _ _ _ (by rw [strOfNums_size]; exact hi)]; exact B_strOfNums h hi⟩
theorem stands_right {l : List Int} {t : ByteArray} (h : ∀ x ∈ l, 0 ≤ x ∧ x < 256) : Stands (t ++ strOfNums l) t.size l :=
  ⟨by rw [ByteArray.size_append, strOfNums_size]; omega, fun i hi => by rw [B_append_right]; exact B_strOfNums h hi⟩
/-- the two pieces of two characters' bytes -/
theorem two_chain {enc a b : Int} {x y : List Int} (h0 : 0 ≤ enc) (h8 : enc ≤ 8) (hx : encC enc a = some x) (hy : encC enc b = some y) {xs : List (Int × Int)}
    (h : Chain enc (strOfNums x ++ strOfNums y) 0 xs (strOfNums x ++ strOfNums y).size) : xs = [(a, (x.length : Int)), (b, (y.length : Int))] := by
  have bx := encC_bytes hx
  have yb := encC_bytes hy
  have n1 := next_enc h0 h8 hx (stands_left (t := strOfNums y) bx.1)
  have n2 := next_enc h0 h8 hy (stands_right (t := strOfNums x) yb.1)
  rw [strOfNums_size] at n2
  have hsz : (strOfNums x ++ strOfNums y).size = x.length + y.length := by rw [ByteArray.size_append, strOfNums_size, strOfNums_size]
  generalize strOfNums x ++ strOfNums y = s at h n1 n2 hsz
  match xs, h with
  | [], h => have h : 0 = s.size := h; omega
  | [c], h =>
    obtain ⟨_, h2, h3⟩ := h
    rw [n1] at h2
    subst h2
    have h3 : 0 + ((x.length : Int)).toNat = s.size := h3
    omega
  | c :: d :: l, h =>
    obtain ⟨_, h2, h3, h4, h5⟩ := h
    rw [n1] at h2
    subst h2
    simp only [Int.toNat_natCast, Nat.zero_add] at h4 h5
    rw [n2] at h4
    subst h4
    simp only [Int.toNat_natCast] at h5
    match l, h5 with
    | [], _ => rfl
    | f :: l, h5 => have := h5.1; omega
set_option maxHeartbeats 800000 in
set_option maxRecDepth 100000 in
theorem splits_no (enc a b : Int) (w : World) (hw : 0 ≤ enc ∧ enc < 256) (hn : encC (enc % 9) a = none ∨ ((encC (enc % 9) a).isSome = true ∧ encC (enc % 9) b = none)) :
    Calls Try.prog 6 #[.int .u8 enc, .int .i32 a, .int .i32 b] w fun e w' => e = .returned (.bool true) ∧ Below w.heap.size w w' := by
  have hm : 0 ≤ enc % 9 ∧ enc % 9 ≤ 8 := by omega
  have HA := pEnc_str (enc % 9) a
  have HB := pEnc_str (enc % 9) b
  unfold BytesStr at HA HB
  rw [encP_in hm] at HA HB
  rcases hn with hn | ⟨hs, hn⟩
  · rw [hn] at HA
    have HO : (none : Option (List Int)).isSome = false := rfl
    rw [HO] at HA
    generalize strC none = z at HA
    generalize strC (encC (enc % 9) b) = y at HB
    generalize (encC (enc % 9) b).isSome = yb at HB
    have HA := Lib.hid HA
    have HB := Lib.hid HB
    clear HO hn hm
    go_enter Try.func6, Try.ntmps6
    go_wp2_with fail
    refine (HA.out _).mono ?_
    rintro e w1 ⟨rfl, h1⟩
    go_wp2_with fail
    refine (HB.out _).mono ?_
    rintro e w2 ⟨rfl, h2⟩
    go_wp2_with fail
    refine (awake02 _).mono ?_
    rintro e w3 ⟨rfl, h3⟩
    go_wp2_with fail
    refine (awake02 _).mono ?_
    rintro e w4 ⟨rfl, h4⟩
    go_wp2
    go_ret
    exact ⟨rfl, (((h1.trans h2).trans h3).trans h4).below⟩
  · rw [hn] at HB
    rw [hs] at HA
    have HO : (none : Option (List Int)).isSome = false := rfl
    rw [HO] at HB
    generalize strC none = z at HB
    generalize strC (encC (enc % 9) a) = y at HA
    have HA := Lib.hid HA
    have HB := Lib.hid HB
    clear HO hn hm hs
    go_enter Try.func6, Try.ntmps6
    go_wp2_with fail
    refine (HA.out _).mono ?_
    rintro e w1 ⟨rfl, h1⟩
    go_wp2_with fail
    refine (HB.out _).mono ?_
    rintro e w2 ⟨rfl, h2⟩
    go_wp2_with fail
    refine (awake02 _).mono ?_
    rintro e w3 ⟨rfl, h3⟩
    go_wp2_with fail
    refine (awake02 _).mono ?_
    rintro e w4 ⟨rfl, h4⟩
    go_wp2
    go_ret
    exact ⟨rfl, (((h1.trans h2).trans h3).trans h4).below⟩
def PcsTwo (a b : Int) (m n : Nat) (w : World) (e : Ending) (w' : World) : Prop :=
  ∃ g cap, e = .returned (.slice (some ⟨g, 0, none⟩) 2 cap) ∧ g < w'.heap.size ∧ w'.cell? ⟨g, 0, none⟩ = some (.int .i32 a) ∧ w'.cell? ⟨g, 1, none⟩ = some (.int .i64 m) ∧
    w'.cell? ⟨g, 2, none⟩ = some (.int .i32 b) ∧ w'.cell? ⟨g, 3, none⟩ = some (.int .i64 n) ∧ Fresh w w'
theorem pieces_two {enc a b : Int} {x y : List Int} (h0 : 0 ≤ enc) (h8 : enc ≤ 8) (hx : encC enc a = some x) (hy : encC enc b = some y) (w : World) :
    Calls Try.prog 14 #[.int .i64 enc, .string (strOfNums x ++ strOfNums y)] w (PcsTwo a b x.length y.length w) := by
  have bx := encC_bytes hx
  have yb := encC_bytes hy
  have hsz : (strOfNums x ++ strOfNums y).size = x.length + y.length := by rw [ByteArray.size_append, strOfNums_size, strOfNums_size]
  refine (pieces_any enc _ h0 h8 (by omega) w).mono ?_
  rintro e w2 ⟨v, xs, rfl, ho, hch, hlen, h2⟩
  have := two_chain h0 h8 hx hy hch
  subst this
  rcases ho.sl with ⟨h, _⟩ | ⟨_, g, cap, rfl, hg, hc⟩
  · cases h
  · have c0 := hc 0 (by simp)
    have c1 := hc 1 (by simp)
    exact ⟨g, cap, rfl, hg, c0.1, c0.2, c1.1, c1.2, h2⟩
set_option maxHeartbeats 1600000 in
set_option maxRecDepth 100000 in
theorem splits_yes (enc a b : Int) (x y : List Int) (w : World) (hw : 0 ≤ enc ∧ enc < 256) (hx : encC (enc % 9) a = some x) (hy : encC (enc % 9) b = some y) :
    Calls Try.prog 6 #[.int .u8 enc, .int .i32 a, .int .i32 b] w fun e w' => e = .returned (.bool true) ∧ Below w.heap.size w w' := by
  have hm : 0 ≤ enc % 9 ∧ enc % 9 ≤ 8 := by omega
  have HA := pEnc_str (enc % 9) a
  have HB := pEnc_str (enc % 9) b
  unfold BytesStr at HA HB
  rw [encP_in hm] at HA HB
  rw [hx] at HA
  rw [hy] at HB
  have HP := Lib.hid (pieces_two hm.1 hm.2 hx hy)
  have zx := strOfNums_size x
  have zy := strOfNums_size y
  have lx := (encC_bytes hx).2.2
  have ly := (encC_bytes hy).2.2
  have HO1 : (some x : Option (List Int)).isSome = true := rfl
  have HO2 : (some y : Option (List Int)).isSome = true := rfl
  have HS1 : strC (some x) = strOfNums x := rfl
  have HS2 : strC (some y) = strOfNums y := rfl
  rw [HO1, HS1] at HA
  rw [HO2, HS2] at HB
  rw [← zx, ← zy] at HP
  rw [← zx] at lx
  rw [← zy] at ly
  generalize strOfNums x = s at HA HP lx
  generalize strOfNums y = t at HB HP ly
  have HA := Lib.hid HA
  have HB := Lib.hid HB
  clear HO1 HO2 HS1 HS2 hx hy hm zx zy
  go_enter Try.func6, Try.ntmps6
  go_wp2_with fail
  refine (HA.out _).mono ?_
  rintro e w1 ⟨rfl, h1⟩
  go_wp2_with fail
  refine (HB.out _).mono ?_
  rintro e w2 ⟨rfl, h2⟩
  go_wp2_with fail
  refine (awake02 _).mono ?_
  rintro e w3 ⟨rfl, h3⟩
  go_wp2_with fail
  refine (HP.out _).mono ?_
  rintro e w4 ⟨g, cap, rfl, hg, c0, c1, c2, c3, h4⟩
  go_wp2
  go_ret
  exact ⟨rfl, (((h1.trans h2).trans h3).trans h4).below⟩
theorem walk_CharsetSplits (enc a b : Int) (w : World) (he : (Lit.int .u8 enc).wf = true) (ha : (Lit.int .i32 a).wf = true) (hb : (Lit.int .i32 b).wf = true) :
    Calls Try.prog 6 #[.int .u8 enc, .int .i32 a, .int .i32 b] w fun e w' => e = .returned (.bool true) ∧ Below w.heap.size w w' := by
  cases hx : encC (enc % 9) a with
  | none => exact splits_no enc a b w (wf8 he) (.inl hx)
  | some x =>
    cases hy : encC (enc % 9) b with
    | none => exact splits_no enc a b w (wf8 he) (.inr ⟨by rw [hx]; rfl, hy⟩)
    | some y => exact splits_yes enc a b x y w (wf8 he) hx hy
end Go.Proofs.Ytakddihadfdkpaa
