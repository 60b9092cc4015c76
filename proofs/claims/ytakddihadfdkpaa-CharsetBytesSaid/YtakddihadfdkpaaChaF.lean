/- charset.Next. -/
import Derived.Test.YtakddihadfdkpaaChaC
import Derived.Test.YtakddihadfdkpaaChaE
namespace Go.Proofs.Ytakddihadfdkpaa
open Go.RowKit
set_option linter.unusedVariables false

/-- the piece at a place -/
def nextC (enc : Int) (s : ByteArray) (i : Int) : Int × Int :=
  if 0 ≤ enc ∧ enc ≤ 8 ∧ 0 ≤ i ∧ i < (s.size : Int) then
    if 7 ≤ enc then (if 0 < (nxt s i.toNat).2 then nxt s i.toNat else (-1, 1))
    else if enc = 6 then kanaP (B s i.toNat) (B s (i.toNat + 1)) (decide (i.toNat + 1 < s.size))
    else (oneI enc (B s i.toNat), 1)
  else (0, 0)
/-- what is known of the two cells of a Piece that lies at a block -/
theorem piece_facts {w w' : World} {g : Nat} {a b : Value} (h : Blk w g 24 #[a, b]) (hf : Fresh w w') :
    w'.cell? ⟨g, 0, none⟩ = some a ∧ w'.cell? ⟨g, 1, none⟩ = some b ∧ w'.frozen? ⟨g, 0, none⟩ = false ∧ w'.frozen? ⟨g, 1, none⟩ = false ∧ g < w'.heap.size :=
  ⟨(h.keep hf).cell 0, (h.keep hf).cell 1, (h.keep hf).frozen 0, (h.keep hf).frozen 1, (h.keep hf).lt⟩
theorem two_pieces (w : World) (a b c d : Value) : Blk ((w.alloc (.cells #[a, b] 24)).alloc (.cells #[c, d] 24)) w.heap.size 24 #[a, b] ∧
    Blk ((w.alloc (.cells #[a, b] 24)).alloc (.cells #[c, d] 24)) (w.heap.size + 1) 24 #[c, d] := by
  refine ⟨(Blk.new w _ _).keep ((Fresh.refl _).alloc _), ?_⟩
  have := Blk.new (w.alloc (.cells #[a, b] 24)) 24 #[c, d]
  have e : (w.alloc (.cells #[a, b] 24)).heap.size = w.heap.size + 1 := by simp
  rw [e] at this
  exact this
set_option maxHeartbeats 800000 in
theorem chNext_utf (enc : Int) (s : ByteArray) (p : Nat) (h7 : 7 ≤ enc) (h8 : enc ≤ 8) (hp : p < s.size) (hs : s.size ≤ 140737488351232) (w : World) :
    Calls Try.prog 9 #[.int .i64 enc, .string s, .int .i64 p] w (PieceIs (nextC enc s p) w) := by
  have hq := nxt_pos hp
  have HZ : Hid (nextC enc s p = if 0 < (nxt s p).2 then nxt s p else (-1, 1)) := by
    unfold nextC; rw [if_pos (by omega), if_pos (by omega)]; exact rfl
  have HN : Hid (nextI s (p : Int) = nxt s p) := by unfold nextI; rw [if_pos (by omega)]; exact rfl
  have HR : Hid (rightB enc = true) := by unfold rightB; exact decide_eq_true (by omega)
  have hz2 : (nxt s p).2 ≠ 0 → 0 < (nxt s p).2 := fun h => by have := hq h; omega
  have HW := two_pieces w (.int .i32 0) (.int .i64 0) (.int .i32 (-1)) (.int .i64 1)
  generalize nxt s p = v at HZ HN hz2 hq
  obtain ⟨r, n⟩ := v
  simp only at HZ HN hz2 hq
  have hn0 : 0 ≤ n := by
    by_cases q : n = 0
    · omega
    · have := hz2 q; omega
  have HH := Lib.hid HW
  clear HW hz2 hq
  have k8 : enc = 7 ∨ enc = 8 := by omega
  clear h7 h8
  rcases k8 with rfl | rfl
  all_goals
    go_enter Try.func9, Try.ntmps9
    go_wp2_with fail
    refine (right_any _ _).mono ?_
    rintro e w1 ⟨rfl, rfl⟩
    rw [HR.out]
    go_wp2_with fail
    refine (utfNext_any _ _ hs _).mono ?_
    rintro e w2 ⟨rfl, h2⟩
    rw [HN.out]
    obtain ⟨d0, d1, f0, f1, g0⟩ := piece_facts HH.out.1 h2
    obtain ⟨d2, d3, f2, f3, g1⟩ := piece_facts HH.out.2 h2
    by_cases hpos : 0 < n
    · have HP := Lib.hid (HZ.out.trans (if_pos hpos))
      go_wp2
      exact bodyPost_ret (v := .agg #[.int .i32 r, .int .i64 n]) (by simp [results, Try.results9, go_sem, d0, d1]) rfl (PieceIs.mk HP.out ((((((((Fresh.refl w).alloc _).alloc _).trans h2).setCell (by simp) _).setCell (by simp) _).setCell (by simp) _).setCell (by simp) _))
    · have HP := Lib.hid (HZ.out.trans (if_neg hpos))
      go_wp2
      exact bodyPost_ret (v := .agg #[.int .i32 (-1), .int .i64 1]) (by simp [results, Try.results9, go_sem, d0, d1]) rfl (PieceIs.mk HP.out ((((((Fresh.refl w).alloc _).alloc _).trans h2).setCell (by simp) _).setCell (by simp) _))

theorem B_tail (s : ByteArray) (p i : Nat) (hp : p ≤ s.size) : B (s.extract p s.size) i = B s (p + i) := by
  by_cases h : p + i < s.size
  · unfold B
    have := B_extract s p s.size i (Nat.le_refl _) h
    unfold B at this
    exact this
  · unfold B
    have h1 : (s.extract p s.size).data.toList.length = s.size - p := by
      have := extract_size s p s.size (Nat.le_refl _)
      exact this
    have h2 : s.data.toList.length = s.size := by simp
    rw [List.getD_eq_getElem?_getD, List.getD_eq_getElem?_getD, List.getElem?_eq_none (by omega), List.getElem?_eq_none (by omega)]
set_option maxHeartbeats 800000 in
theorem chNext_kana (s : ByteArray) (p : Nat) (hp : p < s.size) (hs : s.size ≤ 140737488351232) (w : World) :
    Calls Try.prog 9 #[.int .i64 6, .string s, .int .i64 p] w (PieceIs (nextC 6 s p) w) := by
  have hsz := extract_size s p s.size (Nat.le_refl _)
  have hb0 := B_tail s p 0 (by omega)
  have hb1 := B_tail s p 1 (by omega)
  have HZ : Hid (nextC 6 s p = kanaP (B (s.extract p s.size) 0) (B (s.extract p s.size) 1) (decide (1 < (s.extract p s.size).size))) := by
    unfold nextC
    rw [if_pos (by omega), if_neg (by omega), if_pos rfl, hb0, hb1, hsz]
    have : (decide ((p : Int).toNat + 1 < s.size)) = decide (1 < s.size - p) := by rw [decide_eq_decide]; omega
    rw [this]
    exact rfl
  have HR : Hid (rightB 6 = true) := rfl
  have HH := Lib.hid (two_pieces w (.int .i32 0) (.int .i64 0) (.int .i32 (-1)) (.int .i64 1))
  have hpos : 0 < (s.extract p s.size).size := by omega
  have hle : (s.extract p s.size).size ≤ 140737488351232 := by omega
  have HPOS := Lib.hid hpos
  have HLE := Lib.hid hle
  clear hb0 hb1 hsz hpos hle
  go_enter Try.func9, Try.ntmps9
  go_wp2_with fail
  refine (right_any _ _).mono ?_
  rintro e w1 ⟨rfl, rfl⟩
  rw [HR.out]
  go_wp2_with fail
  refine (kana_any _ HPOS.out HLE.out _).mono ?_
  rintro e w2 ⟨rfl, h2⟩
  rw [← HZ.out]
  generalize hv : nextC 6 s p = v
  obtain ⟨r, n⟩ := v
  have HV := Lib.hid hv
  clear hv
  obtain ⟨d0, d1, f0, f1, g0⟩ := piece_facts HH.out.1 h2
  obtain ⟨d2, d3, f2, f3, g1⟩ := piece_facts HH.out.2 h2
  go_wp2
  exact bodyPost_ret (v := .agg #[.int .i32 r, .int .i64 n]) (by simp [results, Try.results9, go_sem, d0, d1]) rfl (PieceIs.mk HV.out ((((((((Fresh.refl w).alloc _).alloc _).trans h2).setCell (by simp) _).setCell (by simp) _).setCell (by simp) _).setCell (by simp) _))
set_option maxHeartbeats 800000 in
theorem chNext_one (enc : Int) (s : ByteArray) (p : Nat) (h0 : 0 ≤ enc) (h5 : enc ≤ 5) (hp : p < s.size) (hs : s.size ≤ 140737488351232) (w : World) :
    Calls Try.prog 9 #[.int .i64 enc, .string s, .int .i64 p] w (PieceIs (nextC enc s p) w) := by
  have hb := B_range s p
  obtain ⟨b0, b1⟩ := hb
  have hat := B_at s p hp
  have HZ : Hid (nextC enc s p = (oneI enc (B s p), 1)) := by
    unfold nextC; rw [if_pos (by omega), if_neg (by omega), if_neg (by omega)]; exact rfl
  have HR : Hid (rightB enc = true) := by unfold rightB; exact decide_eq_true (by omega)
  have HH := Lib.hid (two_pieces w (.int .i32 0) (.int .i64 0) (.int .i32 (-1)) (.int .i64 1))
  have e6 : (enc == 6) = false := by simp; omega
  have e7 : (enc == 7) = false := by simp; omega
  have e8 : (enc == 8) = false := by simp; omega
  generalize hB : B s p = b at b0 b1 hat HZ
  clear hB
  go_enter Try.func9, Try.ntmps9
  go_wp2_with fail
  refine (right_any _ _).mono ?_
  rintro e w1 ⟨rfl, rfl⟩
  rw [HR.out]
  go_wp2_with fail
  refine (single_any _ _ h0 h5 b0 b1 _).mono ?_
  rintro e w2 ⟨rfl, h2⟩
  generalize oneI enc b = r at HZ
  obtain ⟨d0, d1, f0, f1, g0⟩ := piece_facts HH.out.1 h2
  obtain ⟨d2, d3, f2, f3, g1⟩ := piece_facts HH.out.2 h2
  go_wp2
  exact bodyPost_ret (v := .agg #[.int .i32 r, .int .i64 1]) (by simp [results, Try.results9, go_sem, d0, d1]) rfl (PieceIs.mk HZ.out (((((((Fresh.refl w).alloc _).alloc _).trans h2).setCell (by simp) _).setCell (by simp) _).setCell (by simp) _))
set_option maxHeartbeats 800000 in
theorem chNext_out (enc : Int) (s : ByteArray) (i : Int) (h : ¬ (0 ≤ enc ∧ enc ≤ 8 ∧ 0 ≤ i ∧ i < (s.size : Int))) (hs : s.size ≤ 140737488351232) (w : World) :
    Calls Try.prog 9 #[.int .i64 enc, .string s, .int .i64 i] w (PieceIs (nextC enc s i) w) := by
  have HZ : Hid (nextC enc s i = (0, 0)) := by unfold nextC; rw [if_neg h]; exact rfl
  by_cases hr : 0 ≤ enc ∧ enc ≤ 8
  · have HR : Hid (rightB enc = true) := by unfold rightB; exact decide_eq_true hr
    by_cases hi : i < 0
    · clear h
      go_enter Try.func9, Try.ntmps9
      go_wp2_with fail
      refine (right_any _ _).mono ?_
      rintro e w1 ⟨rfl, rfl⟩
      rw [HR.out]
      go_wp2
      exact bodyPost_ret (v := .agg #[.int .i32 0, .int .i64 0]) (by simp [results, Try.results9, go_sem]) rfl (PieceIs.mk HZ.out ((Fresh.refl w).alloc _))
    · have hi2 : (s.size : Int) ≤ i := by omega
      clear h
      go_enter Try.func9, Try.ntmps9
      go_wp2_with fail
      refine (right_any _ _).mono ?_
      rintro e w1 ⟨rfl, rfl⟩
      rw [HR.out]
      go_wp2
      exact bodyPost_ret (v := .agg #[.int .i32 0, .int .i64 0]) (by simp [results, Try.results9, go_sem]) rfl (PieceIs.mk HZ.out ((Fresh.refl w).alloc _))
  · have HR : Hid (rightB enc = false) := by unfold rightB; exact decide_eq_false hr
    clear h hr
    go_enter Try.func9, Try.ntmps9
    go_wp2_with fail
    refine (right_any _ _).mono ?_
    rintro e w1 ⟨rfl, rfl⟩
    rw [HR.out]
    go_wp2
    exact bodyPost_ret (v := .agg #[.int .i32 0, .int .i64 0]) (by simp [results, Try.results9, go_sem]) rfl (PieceIs.mk HZ.out ((Fresh.refl w).alloc _))
theorem chNext_any (enc : Int) (s : ByteArray) (i : Int) (hs : s.size ≤ 140737488351232) (w : World) :
    Calls Try.prog 9 #[.int .i64 enc, .string s, .int .i64 i] w (PieceIs (nextC enc s i) w) := by
  by_cases h : 0 ≤ enc ∧ enc ≤ 8 ∧ 0 ≤ i ∧ i < (s.size : Int)
  · obtain ⟨p, rfl⟩ := Int.eq_ofNat_of_zero_le h.2.2.1
    by_cases h7 : 7 ≤ enc
    · exact chNext_utf enc s p h7 h.2.1 (by omega) hs w
    by_cases h6 : enc = 6
    · subst h6; exact chNext_kana s p (by omega) hs w
    · exact chNext_one enc s p h.1 (by omega) (by omega) hs w
  · exact chNext_out enc s i h hs w
end Go.Proofs.Ytakddihadfdkpaa
