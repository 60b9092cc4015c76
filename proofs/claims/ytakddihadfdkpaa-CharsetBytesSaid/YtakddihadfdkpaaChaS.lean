/- CharsetBytes: the walk. -/
import Derived.Test.YtakddihadfdkpaaChaT
namespace Go.Proofs.Ytakddihadfdkpaa
open Go.RowKit
set_option linter.unusedVariables false
set_option linter.unnecessarySimpa false

theorem wf8' {r : Int} (h : (Lit.int .u8 r).wf = true) : 0 ≤ r ∧ r < 256 := by
  simp [Lit.wf, IntKind.min, IntKind.max, IntKind.bits, IntKind.signed] at h
  omega
theorem conv_at (W : World) (g : Nat) (v : Int) (h : Blk W g 5 #[.int .u8 v]) : (convert 34 9 (.slice (some ⟨g, 0, none⟩) 1 1)).run Try.prog W = .ok (.string (strOfNums [v])) W :=
  run_convert_bytes_arg _ 34 5 Try.underlying34 Try.underlying5 _ 0 _ _ [v] rfl (fun i hi => by
    have : i = 0 := by simp at hi; omega
    subst this
    have := h.cell 0
    simpa using this) 9 Try.underlying9
theorem next_byte {enc a : Int} (h0 : 0 ≤ enc) (h6 : enc ≤ 6) (ha : 0 ≤ a ∧ a < 256) : nextC enc (strOfNums [a]) 0 = (oneI enc a, 1) := by
  have hl : ∀ x ∈ [a], 0 ≤ x ∧ x < 256 := fun x hx => by simp at hx; omega
  have hs := stands_self hl
  have hB : B (strOfNums [a]) 0 = a := by have := hs.2 0 (by simp); simpa using this
  have hz := strOfNums_size [a]
  simp at hz
  by_cases e6 : enc = 6
  · subst e6
    have := nextC_six (s := strOfNums [a]) (p := 0) (by omega)
    rw [if_neg (by omega), hB] at this
    exact this
  · have := nextC_one (enc := enc) (s := strOfNums [a]) (p := 0) h0 (by omega) (by omega)
    rw [hB] at this
    exact this
theorem byte_any {enc a : Int} (h0 : 0 ≤ enc) (h6 : enc ≤ 6) (ha : 0 ≤ a ∧ a < 256) (w : World) :
    Calls Try.prog 9 #[.int .i64 enc, .string (strOfNums [a]), .int .i64 0] w (PieceIs (oneI enc a, 1) w) := by
  have := chNext_any enc (strOfNums [a]) 0 (by rw [strOfNums_size]; simp) w
  rwa [next_byte h0 h6 ha] at this
theorem bytes_law {enc a b : Int} (h0 : 0 ≤ enc) (h6 : enc ≤ 6) (ha : 0 ≤ a ∧ a < 256) (hb : 0 ≤ b ∧ b < 256) (h : oneI enc a ≠ -1) : (oneI enc a == oneI enc b) = (a == b) := by
  by_cases e : a = b
  · subst e; rw [beq_self_eq_true, beq_self_eq_true]
  · have : oneI enc a ≠ oneI enc b := by
      intro e2
      have hr := one_range h0 (by omega) ha.1 ha.2
      obtain ⟨n, rfl⟩ := Int.eq_ofNat_of_zero_le ha.1
      obtain ⟨m, rfl⟩ := Int.eq_ofNat_of_zero_le hb.1
      rcases Nat.lt_or_ge n m with q | q
      · have := one_once h0 h6 q (by omega) e2; omega
      · have := one_once h0 h6 (show m < n by omega) (by omega) e2.symm; omega
    rw [beq_eq_false_iff_ne.2 this, beq_eq_false_iff_ne.2 e]
theorem Blk.other {W : World} {g g2 o : Nat} {t : TypeId} {cs : Array Value} {u : Value} (h : Blk W g2 t cs) (hne : g2 ≠ g) : Blk (W.setCell ⟨g, o, none⟩ u) g2 t cs :=
  (Below.heap_setCell W ⟨g, o, none⟩ u g2 hne).trans h
theorem Blk.set2 {W : World} {g : Nat} {t : TypeId} {p q u v : Value} (h : Blk W g t #[p, q]) : Blk ((W.setCell ⟨g, 0, none⟩ u).setCell ⟨g, 1, none⟩ v) g t #[u, v] := by
  unfold Blk at h ⊢
  simp [World.setCell, Array.getElem?_modify, h]
theorem listed_all {md : Region.Mode} {ops : Array Oper} {L : Array Bool} (hs : L.size = ops.size)
    (hord : ((List.range ops.size).all fun i => ((ops[i]?).map fun o => o.after.all fun e => !Region.binds md e || decide (e.on < i)).getD true) = true)
    (hr : Region.ready md ops L = []) : ∀ i, i < ops.size → L.getD i false = true := by
  intro i
  induction i using Nat.strongRecOn with
  | ind i ih =>
    intro hi
    cases e : L.getD i false with
    | true => rfl
    | false =>
      exfalso
      have e2 : L.getD i true = false := by
        rw [Array.getD_eq_getD_getElem?, Array.getElem?_eq_getElem (by omega)] at e ⊢
        exact e
      have hm : i ∈ Region.ready md ops L := by
        rw [mem_ready]
        refine ⟨e2, ops[i], Array.getElem?_eq_getElem hi, fun a ha hb => ?_⟩
        rw [List.all_eq_true] at hord
        have h1 := hord i (List.mem_range.2 hi)
        rw [Array.getElem?_eq_getElem hi] at h1
        simp only [Option.map_some, Option.getD_some] at h1
        rw [Array.all_eq_true'] at h1
        have h2 := h1 a ha
        rw [hb] at h2
        have h3 : a.on < i := by simpa using h2
        exact ih a.on h3 (by omega)
      rw [hr] at hm
      cases hm
theorem getD_false_of {L : Array Bool} {i : Nat} (h : L.getD i true = false) : L.getD i false = false := by
  rw [Array.getD_eq_getD_getElem?] at h ⊢
  cases e : L[i]? with
  | none => rfl
  | some b => rw [e] at h; exact h
/-- what is known along the region, of what is listed -/
structure BInv (l : Nat → Bool) (w0 : World) (k a b x y : Int) (v8 v9 v13 v14 v15 v16 v17 v18 v19 v20 v21 v22 : Value) (w : World) : Prop where
  fr : Fresh w0 w
  f13 : l 0 = true → v13 = .int .i64 k
  f14 : l 1 = true → v14 = .int .u8 a
  f15 : l 2 = true → l 4 = false → ∃ g, v15 = .slice (some ⟨g, 0, none⟩) 1 1 ∧ Blk w g 5 #[.int .u8 a]
  f16 : l 3 = true → v16 = .string (strOfNums [a])
  f17 : l 4 = true → v17 = .agg #[.int .i32 x, .int .i64 1]
  f18 : l 5 = true → v18 = .int .i64 k
  f19 : l 6 = true → v19 = .int .u8 b
  f20 : l 7 = true → l 9 = false → ∃ g, v20 = .slice (some ⟨g, 0, none⟩) 1 1 ∧ Blk w g 5 #[.int .u8 b]
  f21 : l 8 = true → v21 = .string (strOfNums [b])
  f22 : l 9 = true → v22 = .agg #[.int .i32 y, .int .i64 1]
  f8 : l 10 = true → ∃ g, v8 = .pointer (some ⟨g, 0, none⟩) ∧ w0.heap.size ≤ g ∧ Blk w g 24 (if l 12 = true then #[.int .i32 x, .int .i64 1] else #[.int .i32 0, .int .i64 0])
  f9 : l 11 = true → ∃ g, v9 = .pointer (some ⟨g, 0, none⟩) ∧ w0.heap.size ≤ g ∧ Blk w g 24 (if l 13 = true then #[.int .i32 y, .int .i64 1] else #[.int .i32 0, .int .i64 0])
  f89 : l 10 = true → l 11 = true → v8 ≠ v9
  c4 : l 4 = true → l 3 = true
  c9 : l 9 = true → l 8 = true
  c12 : l 12 = true → l 10 = true
  c13 : l 13 = true → l 11 = true
  c94 : l 9 = true → l 4 = true
def BI (enc a b k x y : Int) (w0 : World) (l : Nat → Bool) (A : Act) (w : World) : Prop :=
  ∃ v8 v9 v13 v14 v15 v16 v17 v18 v19 v20 v21 v22, A = { tmps := #[.int .u8 enc, .int .u8 a, .int .u8 b, undef, undef, undef, .bool false, .int .i64 k, v8, v9, .int .u8 enc, .int .u8 k, .int .i64 k, v13, v14, v15, v16, v17, v18, v19, v20, v21, v22, undef, undef, undef, undef, undef, undef, undef, undef, undef, undef, undef, undef, undef, undef, undef, undef, undef, undef, undef, undef, undef, undef, undef, undef, undef, undef, undef, undef, undef, undef, undef, undef, undef, undef], defers := [] } ∧ BInv l w0 k a b x y v8 v9 v13 v14 v15 v16 v17 v18 v19 v20 v21 v22 w
set_option maxHeartbeats 1600000 in
set_option maxRecDepth 100000 in
theorem walk_CharsetBytes (enc a b : Int) (w : World) (he : (Lit.int .u8 enc).wf = true) (ha : (Lit.int .u8 a).wf = true) (hb : (Lit.int .u8 b).wf = true) :
    Calls Try.prog 5 #[.int .u8 enc, .int .u8 a, .int .u8 b] w fun e w' => e = .returned (.bool true) ∧ Below w.heap.size w w' := by
  have he := wf8' he
  have ha' := wf8' ha
  have hb' := wf8' hb
  have hk : 0 ≤ enc % 7 ∧ enc % 7 ≤ 6 := by omega
  have HA := byte_any hk.1 hk.2 ha'
  have HB := byte_any hk.1 hk.2 hb'
  have HL := Lib.hid (fun h => bytes_law hk.1 hk.2 ha' hb' h)
  have HR := Lib.hid (one_range hk.1 (by omega) ha'.1 ha'.2)
  have HR2 := Lib.hid (one_range hk.1 (by omega) hb'.1 hb'.2)
  have HS : Hid (a < 128 → oneI (enc % 7) a = a) := fun h => one_small h
  generalize oneI (enc % 7) a = x at HA HL HR HS
  generalize oneI (enc % 7) b = y at HB HL HR2
  have HA := Lib.hid HA
  have HB := Lib.hid HB
  go_enter Try.func5, Try.ntmps5
  go_wp2_with fail
  generalize enc % 7 = k at *
  refine wp_region_any (by kernel_rfl) ?_
  refine wpAny_inv (BI enc a b k x y w) ?_ ?_ _ _ _ _ rfl (by simp) ?_
  · intro L A W hs hI i hi
    obtain ⟨v8, v9, v13, v14, v15, v16, v17, v18, v19, v20, v21, v22, rfl, S⟩ := hI
    obtain ⟨hun, o, ho, hall⟩ := mem_ready.1 hi
    have h14 : i < 14 := by
      rcases Nat.lt_or_ge i 14 with h | h
      · exact h
      · rw [Array.getElem?_eq_none (by simpa using h)] at ho; cases ho
    have hL : ∀ j, (L.getD j false = true) = (L.getD j false = true) := fun _ => rfl
    have hc : i = 0 ∨ i = 1 ∨ i = 2 ∨ i = 3 ∨ i = 4 ∨ i = 5 ∨ i = 6 ∨ i = 7 ∨ i = 8 ∨ i = 9 ∨ i = 10 ∨ i = 11 ∨ i = 12 ∨ i = 13 := by omega
    have hunf : L.getD i false = false := getD_false_of hun
    clear hL hi h14 hun
    rcases hc with rfl | rfl | rfl | rfl | rfl | rfl | rfl | rfl | rfl | rfl | rfl | rfl | rfl | rfl
--STEPS
    · refine wpOp_step rfl (fun K hK => ?_)
      have HK := Lib.hid hK
      clear hK
      go_simp
      refine HK.out _ _ ⟨_, _, _, _, _, _, _, _, _, _, _, _, rfl, ⟨(S.fr.trans (Fresh.refl _)), (fun _ => rfl), (fun h => S.f14 (by simpa using h)), (fun h h2 => (S.f15 (by simpa using h) (by simpa using h2)).imp fun g hg => ⟨hg.1, hg.2.keep (Fresh.refl _)⟩), (fun h => S.f16 (by simpa using h)), (fun h => S.f17 (by simpa using h)), (fun h => S.f18 (by simpa using h)), (fun h => S.f19 (by simpa using h)), (fun h h2 => (S.f20 (by simpa using h) (by simpa using h2)).imp fun g hg => ⟨hg.1, hg.2.keep (Fresh.refl _)⟩), (fun h => S.f21 (by simpa using h)), (fun h => S.f22 (by simpa using h)), (fun h => (S.f8 (by simpa using h)).imp fun g hg => ⟨hg.1, hg.2.1, by have := hg.2.2.keep (Fresh.refl _); simpa using this⟩), (fun h => (S.f9 (by simpa using h)).imp fun g hg => ⟨hg.1, hg.2.1, by have := hg.2.2.keep (Fresh.refl _); simpa using this⟩), (fun h h2 => S.f89 (by simpa using h) (by simpa using h2)), (fun h => by simpa using S.c4 (by simpa using h)), (fun h => by simpa using S.c9 (by simpa using h)), (fun h => by simpa using S.c12 (by simpa using h)), (fun h => by simpa using S.c13 (by simpa using h)), (fun h => by simpa using S.c94 (by simpa using h))⟩⟩
    · refine wpOp_step rfl (fun K hK => ?_)
      have HK := Lib.hid hK
      clear hK
      go_simp
      refine HK.out _ _ ⟨_, _, _, _, _, _, _, _, _, _, _, _, rfl, ⟨(S.fr.trans (Fresh.refl _)), (fun h => S.f13 (by simpa using h)), (fun _ => rfl), (fun h h2 => (S.f15 (by simpa using h) (by simpa using h2)).imp fun g hg => ⟨hg.1, hg.2.keep (Fresh.refl _)⟩), (fun h => S.f16 (by simpa using h)), (fun h => S.f17 (by simpa using h)), (fun h => S.f18 (by simpa using h)), (fun h => S.f19 (by simpa using h)), (fun h h2 => (S.f20 (by simpa using h) (by simpa using h2)).imp fun g hg => ⟨hg.1, hg.2.keep (Fresh.refl _)⟩), (fun h => S.f21 (by simpa using h)), (fun h => S.f22 (by simpa using h)), (fun h => (S.f8 (by simpa using h)).imp fun g hg => ⟨hg.1, hg.2.1, by have := hg.2.2.keep (Fresh.refl _); simpa using this⟩), (fun h => (S.f9 (by simpa using h)).imp fun g hg => ⟨hg.1, hg.2.1, by have := hg.2.2.keep (Fresh.refl _); simpa using this⟩), (fun h h2 => S.f89 (by simpa using h) (by simpa using h2)), (fun h => by simpa using S.c4 (by simpa using h)), (fun h => by simpa using S.c9 (by simpa using h)), (fun h => by simpa using S.c12 (by simpa using h)), (fun h => by simpa using S.c13 (by simpa using h)), (fun h => by simpa using S.c94 (by simpa using h))⟩⟩
    · refine wpOp_step rfl (fun K hK => ?_)
      have HK := Lib.hid hK
      clear hK
      have e1 := S.f14 (hall _ (Array.mem_of_getElem? (i := 0) (by cases ho; rfl)) (by decide))
      subst e1
      go_simp
      refine HK.out _ _ ⟨_, _, _, _, _, _, _, _, _, _, _, _, rfl, ⟨(S.fr.trans ((Fresh.refl W).alloc (.cells #[.int .u8 a] 5))), (fun h => S.f13 (by simpa using h)), (fun h => S.f14 (by simpa using h)), (fun _ _ => ⟨_, rfl, Blk.new W _ _⟩), (fun h => S.f16 (by simpa using h)), (fun h => S.f17 (by simpa using h)), (fun h => S.f18 (by simpa using h)), (fun h => S.f19 (by simpa using h)), (fun h h2 => (S.f20 (by simpa using h) (by simpa using h2)).imp fun g hg => ⟨hg.1, hg.2.keep ((Fresh.refl W).alloc (.cells #[.int .u8 a] 5))⟩), (fun h => S.f21 (by simpa using h)), (fun h => S.f22 (by simpa using h)), (fun h => (S.f8 (by simpa using h)).imp fun g hg => ⟨hg.1, hg.2.1, by have := hg.2.2.keep ((Fresh.refl W).alloc (.cells #[.int .u8 a] 5)); simpa using this⟩), (fun h => (S.f9 (by simpa using h)).imp fun g hg => ⟨hg.1, hg.2.1, by have := hg.2.2.keep ((Fresh.refl W).alloc (.cells #[.int .u8 a] 5)); simpa using this⟩), (fun h h2 => S.f89 (by simpa using h) (by simpa using h2)), (fun h => by simpa using S.c4 (by simpa using h)), (fun h => by simpa using S.c9 (by simpa using h)), (fun h => by simpa using S.c12 (by simpa using h)), (fun h => by simpa using S.c13 (by simpa using h)), (fun h => by simpa using S.c94 (by simpa using h))⟩⟩
    · refine wpOp_step rfl (fun K hK => ?_)
      have HK := Lib.hid hK
      clear hK
      have e0 : L.getD 4 false = false := by
        cases e : L.getD 4 false with
        | false => rfl
        | true => have this : L.getD 3 false = true := S.c4 e; rw [hunf] at this; cases this
      obtain ⟨g, e1, e2⟩ := S.f15 (hall _ (Array.mem_of_getElem? (i := 0) (by cases ho; rfl)) (by decide)) e0
      subst e1
      have kc := conv_at W g a e2
      go_simp
      refine HK.out _ _ ⟨_, _, _, _, _, _, _, _, _, _, _, _, rfl, ⟨(S.fr.trans (Fresh.refl _)), (fun h => S.f13 (by simpa using h)), (fun h => S.f14 (by simpa using h)), (fun h h2 => (S.f15 (by simpa using h) (by simpa using h2)).imp fun g hg => ⟨hg.1, hg.2.keep (Fresh.refl _)⟩), (fun _ => rfl), (fun h => S.f17 (by simpa using h)), (fun h => S.f18 (by simpa using h)), (fun h => S.f19 (by simpa using h)), (fun h h2 => (S.f20 (by simpa using h) (by simpa using h2)).imp fun g hg => ⟨hg.1, hg.2.keep (Fresh.refl _)⟩), (fun h => S.f21 (by simpa using h)), (fun h => S.f22 (by simpa using h)), (fun h => (S.f8 (by simpa using h)).imp fun g hg => ⟨hg.1, hg.2.1, by have := hg.2.2.keep (Fresh.refl _); simpa using this⟩), (fun h => (S.f9 (by simpa using h)).imp fun g hg => ⟨hg.1, hg.2.1, by have := hg.2.2.keep (Fresh.refl _); simpa using this⟩), (fun h h2 => S.f89 (by simpa using h) (by simpa using h2)), (fun h => by simpa using S.c4 (by simpa using h)), (fun h => by simpa using S.c9 (by simpa using h)), (fun h => by simpa using S.c12 (by simpa using h)), (fun h => by simpa using S.c13 (by simpa using h)), (fun h => by simpa using S.c94 (by simpa using h))⟩⟩
    · refine wpOp_step rfl (fun K hK => ?_)
      have HK := Lib.hid hK
      clear hK
      have e1 := S.f13 (hall _ (Array.mem_of_getElem? (i := 0) (by cases ho; rfl)) (by decide))
      have e2 := S.f16 (hall _ (Array.mem_of_getElem? (i := 1) (by cases ho; rfl)) (by decide))
      subst e1
      subst e2
      go_simp
      have lp : L.getD 3 false = true := (hall _ (Array.mem_of_getElem? (i := 1) (by cases ho; rfl)) (by decide))
      go_wp2_with ((go_at_call 9; refine (HA.out _).mono ?_; rintro e w3 ⟨rfl, h3⟩))
      refine HK.out _ _ ⟨_, _, _, _, _, _, _, _, _, _, _, _, rfl, ⟨(S.fr.trans h3), (fun h => S.f13 (by simpa using h)), (fun h => S.f14 (by simpa using h)), (fun h h2 => by simp at h2), (fun h => S.f16 (by simpa using h)), (fun _ => rfl), (fun h => S.f18 (by simpa using h)), (fun h => S.f19 (by simpa using h)), (fun h h2 => (S.f20 (by simpa using h) (by simpa using h2)).imp fun g hg => ⟨hg.1, hg.2.keep h3⟩), (fun h => S.f21 (by simpa using h)), (fun h => S.f22 (by simpa using h)), (fun h => (S.f8 (by simpa using h)).imp fun g hg => ⟨hg.1, hg.2.1, by have := hg.2.2.keep h3; simpa using this⟩), (fun h => (S.f9 (by simpa using h)).imp fun g hg => ⟨hg.1, hg.2.1, by have := hg.2.2.keep h3; simpa using this⟩), (fun h h2 => S.f89 (by simpa using h) (by simpa using h2)), (fun _ => by simpa using lp), (fun h => by simpa using S.c9 (by simpa using h)), (fun h => by simpa using S.c12 (by simpa using h)), (fun h => by simpa using S.c13 (by simpa using h)), (fun _ => by simp)⟩⟩
    · refine wpOp_step rfl (fun K hK => ?_)
      have HK := Lib.hid hK
      clear hK
      go_simp
      refine HK.out _ _ ⟨_, _, _, _, _, _, _, _, _, _, _, _, rfl, ⟨(S.fr.trans (Fresh.refl _)), (fun h => S.f13 (by simpa using h)), (fun h => S.f14 (by simpa using h)), (fun h h2 => (S.f15 (by simpa using h) (by simpa using h2)).imp fun g hg => ⟨hg.1, hg.2.keep (Fresh.refl _)⟩), (fun h => S.f16 (by simpa using h)), (fun h => S.f17 (by simpa using h)), (fun _ => rfl), (fun h => S.f19 (by simpa using h)), (fun h h2 => (S.f20 (by simpa using h) (by simpa using h2)).imp fun g hg => ⟨hg.1, hg.2.keep (Fresh.refl _)⟩), (fun h => S.f21 (by simpa using h)), (fun h => S.f22 (by simpa using h)), (fun h => (S.f8 (by simpa using h)).imp fun g hg => ⟨hg.1, hg.2.1, by have := hg.2.2.keep (Fresh.refl _); simpa using this⟩), (fun h => (S.f9 (by simpa using h)).imp fun g hg => ⟨hg.1, hg.2.1, by have := hg.2.2.keep (Fresh.refl _); simpa using this⟩), (fun h h2 => S.f89 (by simpa using h) (by simpa using h2)), (fun h => by simpa using S.c4 (by simpa using h)), (fun h => by simpa using S.c9 (by simpa using h)), (fun h => by simpa using S.c12 (by simpa using h)), (fun h => by simpa using S.c13 (by simpa using h)), (fun h => by simpa using S.c94 (by simpa using h))⟩⟩
    · refine wpOp_step rfl (fun K hK => ?_)
      have HK := Lib.hid hK
      clear hK
      go_simp
      refine HK.out _ _ ⟨_, _, _, _, _, _, _, _, _, _, _, _, rfl, ⟨(S.fr.trans (Fresh.refl _)), (fun h => S.f13 (by simpa using h)), (fun h => S.f14 (by simpa using h)), (fun h h2 => (S.f15 (by simpa using h) (by simpa using h2)).imp fun g hg => ⟨hg.1, hg.2.keep (Fresh.refl _)⟩), (fun h => S.f16 (by simpa using h)), (fun h => S.f17 (by simpa using h)), (fun h => S.f18 (by simpa using h)), (fun _ => rfl), (fun h h2 => (S.f20 (by simpa using h) (by simpa using h2)).imp fun g hg => ⟨hg.1, hg.2.keep (Fresh.refl _)⟩), (fun h => S.f21 (by simpa using h)), (fun h => S.f22 (by simpa using h)), (fun h => (S.f8 (by simpa using h)).imp fun g hg => ⟨hg.1, hg.2.1, by have := hg.2.2.keep (Fresh.refl _); simpa using this⟩), (fun h => (S.f9 (by simpa using h)).imp fun g hg => ⟨hg.1, hg.2.1, by have := hg.2.2.keep (Fresh.refl _); simpa using this⟩), (fun h h2 => S.f89 (by simpa using h) (by simpa using h2)), (fun h => by simpa using S.c4 (by simpa using h)), (fun h => by simpa using S.c9 (by simpa using h)), (fun h => by simpa using S.c12 (by simpa using h)), (fun h => by simpa using S.c13 (by simpa using h)), (fun h => by simpa using S.c94 (by simpa using h))⟩⟩
    · refine wpOp_step rfl (fun K hK => ?_)
      have HK := Lib.hid hK
      clear hK
      have e1 := S.f19 (hall _ (Array.mem_of_getElem? (i := 0) (by cases ho; rfl)) (by decide))
      subst e1
      go_simp
      refine HK.out _ _ ⟨_, _, _, _, _, _, _, _, _, _, _, _, rfl, ⟨(S.fr.trans ((Fresh.refl W).alloc (.cells #[.int .u8 b] 5))), (fun h => S.f13 (by simpa using h)), (fun h => S.f14 (by simpa using h)), (fun h h2 => (S.f15 (by simpa using h) (by simpa using h2)).imp fun g hg => ⟨hg.1, hg.2.keep ((Fresh.refl W).alloc (.cells #[.int .u8 b] 5))⟩), (fun h => S.f16 (by simpa using h)), (fun h => S.f17 (by simpa using h)), (fun h => S.f18 (by simpa using h)), (fun h => S.f19 (by simpa using h)), (fun _ _ => ⟨_, rfl, Blk.new W _ _⟩), (fun h => S.f21 (by simpa using h)), (fun h => S.f22 (by simpa using h)), (fun h => (S.f8 (by simpa using h)).imp fun g hg => ⟨hg.1, hg.2.1, by have := hg.2.2.keep ((Fresh.refl W).alloc (.cells #[.int .u8 b] 5)); simpa using this⟩), (fun h => (S.f9 (by simpa using h)).imp fun g hg => ⟨hg.1, hg.2.1, by have := hg.2.2.keep ((Fresh.refl W).alloc (.cells #[.int .u8 b] 5)); simpa using this⟩), (fun h h2 => S.f89 (by simpa using h) (by simpa using h2)), (fun h => by simpa using S.c4 (by simpa using h)), (fun h => by simpa using S.c9 (by simpa using h)), (fun h => by simpa using S.c12 (by simpa using h)), (fun h => by simpa using S.c13 (by simpa using h)), (fun h => by simpa using S.c94 (by simpa using h))⟩⟩
    · refine wpOp_step rfl (fun K hK => ?_)
      have HK := Lib.hid hK
      clear hK
      have e0 : L.getD 9 false = false := by
        cases e : L.getD 9 false with
        | false => rfl
        | true => have this : L.getD 8 false = true := S.c9 e; rw [hunf] at this; cases this
      obtain ⟨g, e1, e2⟩ := S.f20 (hall _ (Array.mem_of_getElem? (i := 0) (by cases ho; rfl)) (by decide)) e0
      subst e1
      have kc := conv_at W g b e2
      go_simp
      refine HK.out _ _ ⟨_, _, _, _, _, _, _, _, _, _, _, _, rfl, ⟨(S.fr.trans (Fresh.refl _)), (fun h => S.f13 (by simpa using h)), (fun h => S.f14 (by simpa using h)), (fun h h2 => (S.f15 (by simpa using h) (by simpa using h2)).imp fun g hg => ⟨hg.1, hg.2.keep (Fresh.refl _)⟩), (fun h => S.f16 (by simpa using h)), (fun h => S.f17 (by simpa using h)), (fun h => S.f18 (by simpa using h)), (fun h => S.f19 (by simpa using h)), (fun h h2 => (S.f20 (by simpa using h) (by simpa using h2)).imp fun g hg => ⟨hg.1, hg.2.keep (Fresh.refl _)⟩), (fun _ => rfl), (fun h => S.f22 (by simpa using h)), (fun h => (S.f8 (by simpa using h)).imp fun g hg => ⟨hg.1, hg.2.1, by have := hg.2.2.keep (Fresh.refl _); simpa using this⟩), (fun h => (S.f9 (by simpa using h)).imp fun g hg => ⟨hg.1, hg.2.1, by have := hg.2.2.keep (Fresh.refl _); simpa using this⟩), (fun h h2 => S.f89 (by simpa using h) (by simpa using h2)), (fun h => by simpa using S.c4 (by simpa using h)), (fun h => by simpa using S.c9 (by simpa using h)), (fun h => by simpa using S.c12 (by simpa using h)), (fun h => by simpa using S.c13 (by simpa using h)), (fun h => by simpa using S.c94 (by simpa using h))⟩⟩
    · refine wpOp_step rfl (fun K hK => ?_)
      have HK := Lib.hid hK
      clear hK
      have e1 := S.f18 (hall _ (Array.mem_of_getElem? (i := 0) (by cases ho; rfl)) (by decide))
      have e2 := S.f21 (hall _ (Array.mem_of_getElem? (i := 1) (by cases ho; rfl)) (by decide))
      subst e1
      subst e2
      go_simp
      have l4 : L.getD 4 false = true := (hall _ (Array.mem_of_getElem? (i := 2) (by cases ho; rfl)) (by decide))
      have lp : L.getD 8 false = true := (hall _ (Array.mem_of_getElem? (i := 1) (by cases ho; rfl)) (by decide))
      go_wp2_with ((go_at_call 9; refine (HB.out _).mono ?_; rintro e w3 ⟨rfl, h3⟩))
      refine HK.out _ _ ⟨_, _, _, _, _, _, _, _, _, _, _, _, rfl, ⟨(S.fr.trans h3), (fun h => S.f13 (by simpa using h)), (fun h => S.f14 (by simpa using h)), (fun h h2 => (S.f15 (by simpa using h) (by simpa using h2)).imp fun g hg => ⟨hg.1, hg.2.keep h3⟩), (fun h => S.f16 (by simpa using h)), (fun h => S.f17 (by simpa using h)), (fun h => S.f18 (by simpa using h)), (fun h => S.f19 (by simpa using h)), (fun h h2 => by simp at h2), (fun h => S.f21 (by simpa using h)), (fun _ => rfl), (fun h => (S.f8 (by simpa using h)).imp fun g hg => ⟨hg.1, hg.2.1, by have := hg.2.2.keep h3; simpa using this⟩), (fun h => (S.f9 (by simpa using h)).imp fun g hg => ⟨hg.1, hg.2.1, by have := hg.2.2.keep h3; simpa using this⟩), (fun h h2 => S.f89 (by simpa using h) (by simpa using h2)), (fun h => by simpa using S.c4 (by simpa using h)), (fun _ => by simpa using lp), (fun h => by simpa using S.c12 (by simpa using h)), (fun h => by simpa using S.c13 (by simpa using h)), (fun _ => by simpa using l4)⟩⟩
    · refine wpOp_step rfl (fun K hK => ?_)
      have HK := Lib.hid hK
      clear hK
      have e0 : L.getD 12 false = false := by
        cases e : L.getD 12 false with
        | false => rfl
        | true => have this : L.getD 10 false = true := S.c12 e; rw [hunf] at this; cases this
      go_simp
      refine HK.out _ _ ⟨_, _, _, _, _, _, _, _, _, _, _, _, rfl, ⟨(S.fr.trans ((Fresh.refl W).alloc (.cells #[.int .i32 0, .int .i64 0] 24))), (fun h => S.f13 (by simpa using h)), (fun h => S.f14 (by simpa using h)), (fun h h2 => (S.f15 (by simpa using h) (by simpa using h2)).imp fun g hg => ⟨hg.1, hg.2.keep ((Fresh.refl W).alloc (.cells #[.int .i32 0, .int .i64 0] 24))⟩), (fun h => S.f16 (by simpa using h)), (fun h => S.f17 (by simpa using h)), (fun h => S.f18 (by simpa using h)), (fun h => S.f19 (by simpa using h)), (fun h h2 => (S.f20 (by simpa using h) (by simpa using h2)).imp fun g hg => ⟨hg.1, hg.2.keep ((Fresh.refl W).alloc (.cells #[.int .i32 0, .int .i64 0] 24))⟩), (fun h => S.f21 (by simpa using h)), (fun h => S.f22 (by simpa using h)), (fun _ => ⟨_, rfl, S.fr.size, by rw [if_neg (by simpa using e0)]; exact Blk.new W _ _⟩), (fun h => (S.f9 (by simpa using h)).imp fun g hg => ⟨hg.1, hg.2.1, by have := hg.2.2.keep ((Fresh.refl W).alloc (.cells #[.int .i32 0, .int .i64 0] 24)); simpa using this⟩), (fun h h2 => by obtain ⟨g, e1, _, e3⟩ := S.f9 (by simpa using h2); rw [e1]; intro e; injection e with e; injection e with e; injection e with e; have := e3.lt; omega), (fun h => by simpa using S.c4 (by simpa using h)), (fun h => by simpa using S.c9 (by simpa using h)), (fun _ => by simp), (fun h => by simpa using S.c13 (by simpa using h)), (fun h => by simpa using S.c94 (by simpa using h))⟩⟩
    · refine wpOp_step rfl (fun K hK => ?_)
      have HK := Lib.hid hK
      clear hK
      have e0 : L.getD 13 false = false := by
        cases e : L.getD 13 false with
        | false => rfl
        | true => have this : L.getD 11 false = true := S.c13 e; rw [hunf] at this; cases this
      go_simp
      refine HK.out _ _ ⟨_, _, _, _, _, _, _, _, _, _, _, _, rfl, ⟨(S.fr.trans ((Fresh.refl W).alloc (.cells #[.int .i32 0, .int .i64 0] 24))), (fun h => S.f13 (by simpa using h)), (fun h => S.f14 (by simpa using h)), (fun h h2 => (S.f15 (by simpa using h) (by simpa using h2)).imp fun g hg => ⟨hg.1, hg.2.keep ((Fresh.refl W).alloc (.cells #[.int .i32 0, .int .i64 0] 24))⟩), (fun h => S.f16 (by simpa using h)), (fun h => S.f17 (by simpa using h)), (fun h => S.f18 (by simpa using h)), (fun h => S.f19 (by simpa using h)), (fun h h2 => (S.f20 (by simpa using h) (by simpa using h2)).imp fun g hg => ⟨hg.1, hg.2.keep ((Fresh.refl W).alloc (.cells #[.int .i32 0, .int .i64 0] 24))⟩), (fun h => S.f21 (by simpa using h)), (fun h => S.f22 (by simpa using h)), (fun h => (S.f8 (by simpa using h)).imp fun g hg => ⟨hg.1, hg.2.1, by have := hg.2.2.keep ((Fresh.refl W).alloc (.cells #[.int .i32 0, .int .i64 0] 24)); simpa using this⟩), (fun _ => ⟨_, rfl, S.fr.size, by rw [if_neg (by simpa using e0)]; exact Blk.new W _ _⟩), (fun h h2 => by obtain ⟨g, e1, _, e3⟩ := S.f8 (by simpa using h); rw [e1]; intro e; injection e with e; injection e with e; injection e with e; have := e3.lt; omega), (fun h => by simpa using S.c4 (by simpa using h)), (fun h => by simpa using S.c9 (by simpa using h)), (fun h => by simpa using S.c12 (by simpa using h)), (fun _ => by simp), (fun h => by simpa using S.c94 (by simpa using h))⟩⟩
    · refine wpOp_step rfl (fun K hK => ?_)
      have HK := Lib.hid hK
      clear hK
      have e1 := S.f17 (hall _ (Array.mem_of_getElem? (i := 1) (by cases ho; rfl)) (by decide))
      obtain ⟨g, e2, e3, e4⟩ := S.f8 (hall _ (Array.mem_of_getElem? (i := 0) (by cases ho; rfl)) (by decide))
      rw [if_neg (by rw [hunf]; simp)] at e4
      subst e1
      subst e2
      obtain ⟨c0, c1, z0, z1, lg⟩ := piece_facts e4 (Fresh.refl _)
      go_simp
      have ls : L.getD 10 false = true := (hall _ (Array.mem_of_getElem? (i := 0) (by cases ho; rfl)) (by decide))
      have l9 : L.getD 9 false = true := (hall _ (Array.mem_of_getElem? (i := 2) (by cases ho; rfl)) (by decide))
      have l4 : L.getD 4 false = true := S.c94 l9
      refine HK.out _ _ ⟨_, _, _, _, _, _, _, _, _, _, _, _, rfl, ⟨((S.fr.setCell (p := ⟨g, 0, none⟩) e3 _).setCell (p := ⟨g, 1, none⟩) e3 _),
        (fun h => S.f13 (by simpa using h)),
        (fun h => S.f14 (by simpa using h)),
        (fun h h2 => absurd (show L.getD 4 false = false by simpa using h2) (by rw [l4]; simp)),
        (fun h => S.f16 (by simpa using h)),
        (fun h => S.f17 (by simpa using h)),
        (fun h => S.f18 (by simpa using h)),
        (fun h => S.f19 (by simpa using h)),
        (fun h h2 => absurd (show L.getD 9 false = false by simpa using h2) (by rw [l9]; simp)),
        (fun h => S.f21 (by simpa using h)),
        (fun h => S.f22 (by simpa using h)),
        (fun _ => ⟨g, rfl, e3, by rw [if_pos (by simp)]; exact e4.set2⟩),
        (fun h => by
            have h : L.getD 11 false = true := by simpa using h
            obtain ⟨g2, q1, q2, q3⟩ := S.f9 h
            have l89 := S.f89 ls h
            have hne : g2 ≠ g := fun e => by rw [q1, e] at l89; exact l89 rfl
            refine ⟨g2, q1, q2, ?_⟩
            have := (q3.other (o := 0) (u := .int .i32 x) hne).other (o := 1) (u := .int .i64 1) hne
            simpa using this),
        (fun h h2 => S.f89 (by simpa using h) (by simpa using h2)),
        (fun h => by simpa using S.c4 (by simpa using h)),
        (fun h => by simpa using S.c9 (by simpa using h)),
        (fun _ => by simpa using ls),
        (fun h => by simpa using S.c13 (by simpa using h)),
        (fun h => by simpa using S.c94 (by simpa using h))⟩⟩
    · refine wpOp_step rfl (fun K hK => ?_)
      have HK := Lib.hid hK
      clear hK
      have e1 := S.f22 (hall _ (Array.mem_of_getElem? (i := 1) (by cases ho; rfl)) (by decide))
      obtain ⟨g, e2, e3, e4⟩ := S.f9 (hall _ (Array.mem_of_getElem? (i := 0) (by cases ho; rfl)) (by decide))
      rw [if_neg (by rw [hunf]; simp)] at e4
      subst e1
      subst e2
      obtain ⟨c0, c1, z0, z1, lg⟩ := piece_facts e4 (Fresh.refl _)
      go_simp
      have ls : L.getD 11 false = true := (hall _ (Array.mem_of_getElem? (i := 0) (by cases ho; rfl)) (by decide))
      have l9 : L.getD 9 false = true := (hall _ (Array.mem_of_getElem? (i := 1) (by cases ho; rfl)) (by decide))
      have l4 : L.getD 4 false = true := S.c94 l9
      refine HK.out _ _ ⟨_, _, _, _, _, _, _, _, _, _, _, _, rfl, ⟨((S.fr.setCell (p := ⟨g, 0, none⟩) e3 _).setCell (p := ⟨g, 1, none⟩) e3 _),
        (fun h => S.f13 (by simpa using h)),
        (fun h => S.f14 (by simpa using h)),
        (fun h h2 => absurd (show L.getD 4 false = false by simpa using h2) (by rw [l4]; simp)),
        (fun h => S.f16 (by simpa using h)),
        (fun h => S.f17 (by simpa using h)),
        (fun h => S.f18 (by simpa using h)),
        (fun h => S.f19 (by simpa using h)),
        (fun h h2 => absurd (show L.getD 9 false = false by simpa using h2) (by rw [l9]; simp)),
        (fun h => S.f21 (by simpa using h)),
        (fun h => S.f22 (by simpa using h)),
        (fun h => by
            have h : L.getD 10 false = true := by simpa using h
            obtain ⟨g2, q1, q2, q3⟩ := S.f8 h
            have l89 := S.f89 h ls
            have hne : g2 ≠ g := fun e => by rw [q1, e] at l89; exact l89 rfl
            refine ⟨g2, q1, q2, ?_⟩
            have := (q3.other (o := 0) (u := .int .i32 y) hne).other (o := 1) (u := .int .i64 1) hne
            simpa using this),
        (fun _ => ⟨g, rfl, e3, by rw [if_pos (by simp)]; exact e4.set2⟩),
        (fun h h2 => S.f89 (by simpa using h) (by simpa using h2)),
        (fun h => by simpa using S.c4 (by simpa using h)),
        (fun h => by simpa using S.c9 (by simpa using h)),
        (fun h => by simpa using S.c12 (by simpa using h)),
        (fun _ => by simpa using ls),
        (fun h => by simpa using S.c94 (by simpa using h))⟩⟩
--END
  · intro L A W hs hI hr
    have hl := listed_all hs (by decide +kernel) hr
    obtain ⟨v8, v9, v13, v14, v15, v16, v17, v18, v19, v20, v21, v22, rfl, S⟩ := hI
    obtain ⟨g, r1, r2, r3⟩ := S.f8 (hl 10 (by decide))
    obtain ⟨g2, t1, t2, t3⟩ := S.f9 (hl 11 (by decide))
    rw [if_pos (hl 12 (by decide))] at r3
    rw [if_pos (hl 13 (by decide))] at t3
    subst r1
    subst t1
    have HFR := Lib.hid S.fr
    have HR3 := Lib.hid r3
    have HT3 := Lib.hid t3
    clear hl hr hs S r2 r3 t2 t3
    have KR : IntKind.i64.wrap x = x := by have := HR.out; rw [IntKind.wrap_i64]; omega
    by_cases hx : x = -1
    · have hb1 : (x == -1) = true := by simp [hx]
      have hna : ¬ a < 128 := fun h => by have := HS.out h; omega
      clear hx
      go_wp2_with fail
      refine (awake02 _).mono ?_
      rintro e w5 ⟨rfl, h5⟩
      obtain ⟨c0, c1, _, _, lg⟩ := piece_facts HR3.out h5
      obtain ⟨d0, d1, _, _, lg2⟩ := piece_facts HT3.out h5
      go_wp2
      go_ret
      exact ⟨ret_bool (by simp), (HFR.out.trans h5).below⟩
    · have hb1 : (x == -1) = false := by simp [hx]
      have hb2 := HL.out hx
      clear hx
      by_cases hna : a < 128
      · have hxa : (x == a) = true := by rw [HS.out hna]; simp
        go_wp2_with fail
        refine (awake02 _).mono ?_
        rintro e w5 ⟨rfl, h5⟩
        obtain ⟨c0, c1, _, _, lg⟩ := piece_facts HR3.out h5
        obtain ⟨d0, d1, _, _, lg2⟩ := piece_facts HT3.out h5
        go_wp2
        go_ret
        exact ⟨ret_bool (by simp), (HFR.out.trans h5).below⟩
      · go_wp2_with fail
        refine (awake02 _).mono ?_
        rintro e w5 ⟨rfl, h5⟩
        obtain ⟨c0, c1, _, _, lg⟩ := piece_facts HR3.out h5
        obtain ⟨d0, d1, _, _, lg2⟩ := piece_facts HT3.out h5
        go_wp2
        go_ret
        exact ⟨ret_bool (by simp), (HFR.out.trans h5).below⟩
  · refine ⟨_, _, _, _, _, _, _, _, _, _, _, _, rfl, ?_⟩
    have no : ∀ j, (Array.replicate 14 false).getD j false = true → False := fun j h => by
      rw [Array.getD_eq_getD_getElem?, Array.getElem?_replicate] at h
      split at h <;> cases h
    exact ⟨(Fresh.refl _).drew, fun h => (no _ h).elim, fun h => (no _ h).elim, fun h _ => (no _ h).elim, fun h => (no _ h).elim, fun h => (no _ h).elim, fun h => (no _ h).elim, fun h => (no _ h).elim, fun h _ => (no _ h).elim,
      fun h => (no _ h).elim, fun h => (no _ h).elim, fun h => (no _ h).elim, fun h => (no _ h).elim, fun h _ => (no _ h).elim, fun h => (no _ h).elim, fun h => (no _ h).elim, fun h => (no _ h).elim, fun h => (no _ h).elim, fun h => (no _ h).elim⟩
end Go.Proofs.Ytakddihadfdkpaa
