/- Part 19 of what the law rests on. -/
import Derived.Lib.OthersKept
import Derived.Laws.RangeAny
import Derived.Maps.AppendAt
import Derived.Test.YtpmlggjhfiljmaaGreatDoorL11
import Derived.Test.YtpmlggjhfiljmaaGreatDoorL18
set_option linter.all false
namespace Go.Proofs.YtpmlggjhfiljmaaGreatDoor
open Go.RowKit
set_option maxRecDepth 100000 in
set_option maxHeartbeats 1000000 in
theorem decode_skip (s : ByteArray) (p : Nat) (h : p < s.size) (ha : 128 ≤ (s[p]'h).toNat) :
    128 ≤ (Utf8.decode s p).1 ∧ ((Utf8.decode s p).1 < 55296 ∨ (57344 ≤ (Utf8.decode s p).1 ∧ (Utf8.decode s p).1 ≤ 1114111)) ∧ 1 ≤ (Utf8.decode s p).2 ∧ p + (Utf8.decode s p).2 ≤ s.size ∧ ∀ j (hj : j < s.size), p ≤ j → j < p + (Utf8.decode s p).2 → 128 ≤ (s[j]'hj).toNat := by
  have hg : ∀ k (hk : p + k < s.size), s.get! (p + k) = s[p + k]'hk := fun k hk => by simp [ByteArray.get!, getElem!_pos, hk]; rfl
  have h0 := hg 0 h
  have hb : ∀ k, (s.get! (p + k)).toNat < 256 := fun k => (s.get! (p + k)).toNat_lt
  have q1 := hb 1
  have q2 := hb 2
  have q3 := hb 3
  have ha0 : 128 ≤ (s.get! (p + 0)).toNat := by rw [h0]; exact ha
  have one : ∀ j (hj : j < s.size), p ≤ j → j < p + 1 → 128 ≤ (s[j]'hj).toNat := fun j hj h1 h2 => by
    have : j = p := by omega
    subst this; exact ha
  have hre : Utf8.runeError = 65533 := rfl
  have hvl : ∀ c : Nat, Utf8.valid (c : Int) = true → c < 55296 ∨ (57344 ≤ c ∧ c ≤ 1114111) := fun c hc => by unfold Utf8.valid at hc; simp at hc; omega
  have ha1 : ¬ (s.get! (p + 0)).toNat < 128 := by omega
  simp only [Utf8.decode, if_neg ha1]
  split
  · rename_i hc
    simp only [Bool.and_eq_true, decide_eq_true_eq, beq_iff_eq] at hc
    split
    · refine ⟨by simp only; omega, by simp only; omega, by simp, by simp only; omega, fun j hj h1 h2 => ?_⟩
      simp only at h2
      by_cases e : j = p
      · subst e; exact ha
      · have e : j = p + 1 := by omega
        subst e
        have := hg 1 hj
        rw [← this]; omega
    · exact ⟨by simp only; omega, by simp only; omega, by simp, by simp only; omega, one⟩
  · split
    · rename_i hc
      simp only [Bool.and_eq_true, decide_eq_true_eq, beq_iff_eq] at hc
      split
      · rename_i hv
        simp only [Bool.and_eq_true, decide_eq_true_eq] at hv
        have hv2 := hvl _ hv.2
        refine ⟨by simp only; omega, by simp only; omega, by simp, by simp only; omega, fun j hj h1 h2 => ?_⟩
        simp only at h2
        by_cases e : j = p
        · subst e; exact ha
        · by_cases e1 : j = p + 1
          · subst e1
            have := hg 1 hj
            rw [← this]; omega
          · have e : j = p + 2 := by omega
            subst e
            have := hg 2 hj
            rw [← this]; omega
      · exact ⟨by simp only; omega, by simp only; omega, by simp, by simp only; omega, one⟩
    · split
      · rename_i hc
        simp only [Bool.and_eq_true, decide_eq_true_eq, beq_iff_eq] at hc
        split
        · rename_i hv
          simp only [Bool.and_eq_true, decide_eq_true_eq] at hv
          have hv2 := hvl _ hv.2
          refine ⟨by simp only; omega, by simp only; omega, by simp, by simp only; omega, fun j hj h1 h2 => ?_⟩
          simp only at h2
          by_cases e : j = p
          · subst e; exact ha
          · by_cases e1 : j = p + 1
            · subst e1
              have := hg 1 hj
              rw [← this]; omega
            · by_cases e2 : j = p + 2
              · subst e2
                have := hg 2 hj
                rw [← this]; omega
              · have e : j = p + 3 := by omega
                subst e
                have := hg 3 hj
                rw [← this]; omega
        · exact ⟨by simp only; omega, by simp only; omega, by simp, by simp only; omega, one⟩
      · exact ⟨by simp only; omega, by simp only; omega, by simp, by simp only; omega, one⟩
def zsS : ByteArray := ⟨#[0, 47]⟩
theorem enc_facts {r : Int} (h0 : 128 ≤ r) (h1 : r < 55296 ∨ (57344 ≤ r ∧ r ≤ 1114111)) :
    ((Utf8.encode r).size = 2 ∨ (Utf8.encode r).size = 3 ∨ (Utf8.encode r).size = 4) ∧ ∀ j (hj : j < (Utf8.encode r).size), 1 ≤ j → 128 ≤ ((Utf8.encode r)[j]'hj).toNat := by
  have hv : Utf8.valid r = true := by unfold Utf8.valid; simp; omega
  have u : ∀ n, 128 ≤ n → n < 256 → 128 ≤ (UInt8.ofNat n).toNat := fun n h h' => by rw [UInt8.toNat_ofNat']; omega
  have key : ∀ e, Utf8.encode r = e → (e.size = 2 ∨ e.size = 3 ∨ e.size = 4) ∧ ∀ j (hj : j < e.size), 1 ≤ j → 128 ≤ (e[j]'hj).toNat := by
    intro e he
    unfold Utf8.encode at he
    rw [if_pos hv] at he
    simp only at he
    rw [if_neg (by omega)] at he
    by_cases c2 : r.toNat < 2048
    · rw [if_pos c2] at he
      subst he
      refine ⟨.inl rfl, fun j hj h => ?_⟩
      have hj : j < 2 := hj
      have e : j = 1 := by omega
      subst e
      exact u _ (by omega) (by omega)
    rw [if_neg c2] at he
    by_cases c3 : r.toNat < 65536
    · rw [if_pos c3] at he
      subst he
      refine ⟨.inr (.inl rfl), fun j hj h => ?_⟩
      have hj : j < 3 := hj
      have e : j = 1 ∨ j = 2 := by omega
      rcases e with e | e <;> subst e
      · exact u _ (by omega) (by omega)
      · exact u _ (by omega) (by omega)
    rw [if_neg c3] at he
    subst he
    refine ⟨.inr (.inr rfl), fun j hj h => ?_⟩
    have hj : j < 4 := hj
    have e : j = 1 ∨ j = 2 ∨ j = 3 := by omega
    rcases e with e | e | e <;> subst e
    · exact u _ (by omega) (by omega)
    · exact u _ (by omega) (by omega)
    · exact u _ (by omega) (by omega)
  exact key _ rfl
set_option maxHeartbeats 1600000 in
set_option maxRecDepth 100000 in
theorem indexRune_err (w : World) : Calls Tryz.prog 156 #[.string zsS, .int .i32 65533] w fun e w' => e = .returned (.int .i64 (-1)) ∧ Fresh w w' := by
  obtain ⟨S, hS⟩ : ∃ S, zsS = S := ⟨_, rfl⟩
  have n0 : ∀ (W : World) (ty : TypeId), (Instr.next (.pointer (some ⟨W.heap.size, 0, none⟩)) true ty).run Tryz.prog (W.iter S 0) = .ok (.tuple #[.bool true, .int .i64 0, .int .i32 0]) (W.iter S 1) := fun W ty => by subst hS; exact run_next_ascii (P := Tryz.prog) W zsS 0 ty (by decide) (by decide)
  have n1 : ∀ (W : World) (ty : TypeId), (Instr.next (.pointer (some ⟨W.heap.size, 0, none⟩)) true ty).run Tryz.prog (W.iter S 1) = .ok (.tuple #[.bool true, .int .i64 1, .int .i32 47]) (W.iter S 2) := fun W ty => by subst hS; exact run_next_ascii (P := Tryz.prog) W zsS 1 ty (by decide) (by decide)
  have n2 : ∀ (W : World) (ty : TypeId), (Instr.next (.pointer (some ⟨W.heap.size, 0, none⟩)) true ty).run Tryz.prog (W.iter S 2) = .ok (.tuple #[.bool false]) (W.iter S 2) := fun W ty => by subst hS; exact run_next_end (P := Tryz.prog) W zsS 2 ty (by decide)
  rw [hS]
  clear hS
  go_enter Tryz.func156, Tryz.ntmps156
  go_wp2
  refine wp_loop_rounds 3 ?_
  rw [rounds_succ]
  go_wp2
  rw [rounds_succ]
  go_wp2
  rw [rounds_succ]
  go_wp2
  go_ret
  exact ⟨rfl, (Fresh.refl w).alloc _⟩
set_option maxHeartbeats 1600000 in
set_option maxRecDepth 100000 in
theorem indexRune_hi (r : Int) (h0 : 128 ≤ r) (h1 : r < 55296 ∨ (57344 ≤ r ∧ r ≤ 1114111)) (hne : r ≠ 65533) (w : World) : Calls Tryz.prog 156 #[.string zsS, .int .i32 r] w fun e w' => e = .returned (.int .i64 (-1)) ∧ Fresh w w' := by
  obtain ⟨S, hS⟩ : ∃ S, zsS = S := ⟨_, rfl⟩
  have hSs : S.size = 2 := by rw [← hS]; rfl
  have hb : (r == 65533) = false := by simp [hne]
  have k1 : ¬ r < 128 := by omega
  have k2 : (0 : Int) ≤ r := by omega
  have hvr : Lib.validRune r = true := by unfold Lib.validRune; simp; omega
  have henc := enc_facts h0 h1
  obtain ⟨E, hE⟩ : ∃ E, Utf8.encode r = E := ⟨_, rfl⟩
  rw [hE] at henc
  obtain ⟨hsz, hby⟩ := henc
  have HBY := Lib.hid hby
  have hS1 : ∀ h : 1 < S.size, S[1] = 47 := fun h => by subst hS; rfl
  have hV := Tryz.utf8_ValidRune r w
  rw [hvr] at hV
  have HV := Lib.hid hV
  rw [hS]
  clear hS hby hV hvr
  go_enter Tryz.func156, Tryz.ntmps156
  go_wp2_with fail
  refine HV.out.mono ?_
  rintro e w1 ⟨rfl, rfl⟩
  rcases hsz with h2 | h3 | h4
  · have hl1 : 1 < E.size := by omega
    have hl2 : 1 < S.size := by omega
    have hE1 : 128 ≤ (E[1]'hl1).toNat := HBY.out 1 hl1 (by omega)
    have hS1' : (S[1]'hl2).toNat = 47 := by rw [hS1 hl2]; rfl
    have hi1 : (1 : Int) < (E.size : Int) := by omega
    have hi2 : (1 : Int) < (S.size : Int) := by omega
    have hi0 : (0 : Int) ≤ 1 := by omega
    obtain ⟨c, hc⟩ : ∃ c, (E[1]'hl1).toNat = c := ⟨_, rfl⟩
    rw [hc] at hE1
    have hne2 : ((47 : Int) != (c : Int)) = true := by rw [bne_iff_ne]; omega
    have hwr : wrap64 ((E.size : Int) - 1) = 1 := by rw [h2]; unfold wrap64; omega
    have HIB := Lib.hid (fun (c : Int) (W : World) => Tryz.strings_IndexByte (S.extract 2 S.size) c W)
    have hib : ∀ c : Int, Lib.indexByte (S.extract 2 S.size).data.toList c.toNat.toUInt8 = -1 := by
      intro c
      have : (S.extract 2 S.size).data.toList = [] := by
        apply List.eq_nil_of_length_eq_zero
        have := ByteArray.size_extract (a := S) (b := 2) (e := S.size)
        rw [Array.length_toList]
        show (S.extract 2 S.size).size = 0
        omega
      rw [this]
      rfl
    simp only [hib] at HIB
    have hw2 : IntKind.i64.wrap 2 = 2 := rfl
    have hw3 : IntKind.i64.wrap (1 + 1) = 2 := rfl
    have hi3 : (2 : Int) ≤ (S.size : Int) := by omega
    have hi4 : ¬ (S.size : Int) < 2 := by omega
    have hi5 : (2 : Nat) ≤ S.size := by omega
    clear hib h2 hS1 hSs
    go_wp2
    go_step3
    go_wp2
    rw [hwr]
    refine wp_loop_rounds 1 ?_
    rw [rounds_succ]
    go_wp2_with fail
    go_step3
    go_wp2_with fail
    go_quiet (fail)
    all_goals
      go_wp2_with fail
      go_quiet ((exact (HIB.out _ _).mono fun _ _ ⟨he, hw⟩ => ⟨he, _, hw⟩))
      all_goals
        go_wp2
        rw [Exit.noGoto_ret]
        go_wp2
        rw [Exit.noGoto_ret]
        go_ret
        exact ⟨rfl, by repeat (first | exact Fresh.refl _ | refine Fresh.drewN ?_ _ | refine Fresh.drew ?_)⟩
  · have hwr : wrap64 ((E.size : Int) - 1) = 2 := by rw [h3]; unfold wrap64; omega
    clear h3 hS1
    go_wp2
    go_step3
    go_wp2
    rw [hwr]
    refine wp_loop_rounds 1 ?_
    rw [rounds_succ]
    go_wp2
    rw [Exit.noGoto_ret]
    go_ret
    exact ⟨rfl, Fresh.refl _⟩
  · have hwr : wrap64 ((E.size : Int) - 1) = 3 := by rw [h4]; unfold wrap64; omega
    clear h4 hS1
    go_wp2
    go_step3
    go_wp2
    rw [hwr]
    refine wp_loop_rounds 1 ?_
    rw [rounds_succ]
    go_wp2
    rw [Exit.noGoto_ret]
    go_ret
    exact ⟨rfl, Fresh.refl _⟩
def hasZs (s : ByteArray) (p : Nat) : Prop := ∃ j, ∃ hj : j < s.size, j < p ∧ ((s[j]'hj).toNat = 0 ∨ (s[j]'hj).toNat = 47)
def ZsPost (s : ByteArray) (w : World) (e : Ending) (w' : World) : Prop := ∃ k : Int, e = .returned (.int .i64 k) ∧ (0 ≤ k ↔ hasZs s s.size) ∧ Fresh w w'
structure ZsAt (s : ByteArray) (w wr : World) (p : Nat) : Prop where
  le : p ≤ s.size
  no : ¬ hasZs s p
  it : wr.heap[w.heap.size]? = some (.stringIter s p)
  fr : Fresh w wr
def ZsRel (s : ByteArray) (w : World) (wr : World) : Prop := ∃ p, ZsAt s w wr p
theorem ZsAt.step {s : ByteArray} {w wr w' : World} {p d : Nat} (h : ZsAt s w wr p) (hd : p + d ≤ s.size) (hn : ∀ j (hj : j < s.size), p ≤ j → j < p + d → ¬ ((s[j]'hj).toNat = 0 ∨ (s[j]'hj).toNat = 47)) (hw : Fresh (wr.iterAt w.heap.size s (p + d)) w') : ZsAt s w w' (p + d) := by
  have hlt : w.heap.size < wr.heap.size := by
    rcases Nat.lt_or_ge w.heap.size wr.heap.size with q | q
    · exact q
    · have := h.it; rw [Array.getElem?_eq_none q] at this; cases this
  refine ⟨hd, ?_, ?_, ?_⟩
  · rintro ⟨j, hj, h1, h2⟩
    by_cases q : j < p
    · exact h.no ⟨j, hj, q, h2⟩
    · exact hn j hj (by omega) h1 h2
  · have := hw.block w.heap.size (by rw [Lib.iterAt_size]; exact hlt)
    rw [this]
    exact Lib.iterAt_heap _ _ _ _ _ h.it
  · exact Fresh.trans (Lib.below_iterAt h.fr (Nat.le_refl _) s (p + d)) hw
theorem zs_index (r : Int) (h0 : 0 ≤ r) (h1 : r < 128) : (0 ≤ Lib.indexByte zsS.data.toList r.toNat.toUInt8) ↔ (r = 0 ∨ r = 47) := by
  obtain ⟨n, rfl⟩ : ∃ n : Nat, r = n := ⟨r.toNat, by omega⟩
  have : n < 128 := by omega
  rw [Int.toNat_natCast]
  have key : ∀ n : Fin 128, (0 ≤ Lib.indexByte zsS.data.toList n.val.toUInt8) ↔ (n.val = 0 ∨ n.val = 47) := by decide
  rw [key ⟨n, this⟩]
  simp only
  omega
theorem set_any (n : Int) (w : World) : Calls Tryz.prog 157 #[.int .i64 n] w fun e w' => e = .returned (.bool (decide (8 < n))) ∧ w' = w := by
  go_enter Tryz.func157, Tryz.ntmps157
  go_wp2
  go_ret
  exact ⟨rfl, rfl⟩
def RunePost (b : Prop) (W : World) (e : Ending) (w' : World) : Prop := ∃ k : Int, e = .returned (.int .i64 k) ∧ (0 ≤ k ↔ b) ∧ Fresh W w'
theorem rune_any (q : Int) (h0 : 0 ≤ q) (h1 : q < 55296 ∨ (57344 ≤ q ∧ q ≤ 1114111)) (W : World) : Calls Tryz.prog 156 #[.string zsS, .int .i32 q] W (RunePost (q = 0 ∨ q = 47) W) := by
  by_cases a : q < 128
  · exact (Tryz.strings_IndexRune_ascii zsS q W h0 a).mono fun e w' ⟨he, hw⟩ => ⟨_, he, zs_index q h0 a, by rw [hw]; exact Fresh.refl _⟩
  · by_cases b : q = 65533
    · subst b
      exact (indexRune_err W).mono fun e w' ⟨he, hw⟩ => ⟨_, he, by omega, hw⟩
    · exact (indexRune_hi q (by omega) h1 b W).mono fun e w' ⟨he, hw⟩ => ⟨_, he, by omega, hw⟩
theorem decode_low (s : ByteArray) (p : Nat) (h : p < s.size) (ha : (s[p]'h).toNat < 128) : Utf8.decode s p = ((s[p]'h).toNat, 1) := by
  have hg : s.get! p = s[p]'h := by simp [ByteArray.get!, getElem!_pos, h]; rfl
  have ha2 : (s.get! (p + 0)).toNat < 128 := by rw [Nat.add_zero, hg]; exact ha
  simp only [Utf8.decode, if_pos ha2]
  rw [Nat.add_zero, hg]
theorem zs_char (s : ByteArray) (p : Nat) (h : p < s.size) : ∃ q d : Nat, Utf8.decode s p = (q, d) ∧ (q < 55296 ∨ (57344 ≤ q ∧ q ≤ 1114111)) ∧ 1 ≤ d ∧ p + d ≤ s.size ∧ ((q = 0 ∨ q = 47) → (s[p]'h).toNat = 0 ∨ (s[p]'h).toNat = 47) ∧ (¬ (q = 0 ∨ q = 47) → ∀ j (hj : j < s.size), p ≤ j → j < p + d → ¬ ((s[j]'hj).toNat = 0 ∨ (s[j]'hj).toNat = 47)) := by
  by_cases a : (s[p]'h).toNat < 128
  · refine ⟨_, _, decode_low s p h a, by omega, Nat.le_refl _, h, fun x => x, fun x j hj h1 h2 => ?_⟩
    have : j = p := by omega
    subst this
    exact x
  · obtain ⟨c1, c2, c3, c4, c5⟩ := decode_skip s p h (by omega)
    refine ⟨(Utf8.decode s p).1, (Utf8.decode s p).2, rfl, c2, c3, c4, fun x => absurd x (by omega), fun x j hj h1 h2 => ?_⟩
    have := c5 j hj h1 h2
    omega
set_option maxHeartbeats 1600000 in
set_option maxRecDepth 100000 in
theorem indexAny_short (s : ByteArray) (hs : s.size ≤ 8) (w : World) : Calls Tryz.prog 107 #[.string s, .string zsS] w (ZsPost s w) := by
  have n1 : zsS.size = 2 := rfl
  go_enter Tryz.func107, Tryz.ntmps107
  have he : zsS.toList.isEmpty = false := by decide +kernel
  have HS : Hid (∀ W, Calls Tryz.prog 157 #[.int .i64 s.size] W fun e w' => e = .returned (.bool false) ∧ w' = W) := Lib.hid (fun W => by have := set_any s.size W; rw [show decide ((8:Int) < s.size) = false by simp; omega] at this; exact this)
  go_wp2_with fail
  refine (HS.out _).mono ?_
  rintro e w1 ⟨rfl, rfl⟩
  go_wp2_with fail
  have HI := Lib.hid hs
  clear hs
  go_loopw [] (fun wr => ZsRel s w1 wr) (fun wr => s.size - wr.iterPos w1.heap.size)
  case atStart => exact ⟨0, Nat.zero_le _, (fun ⟨_, _, h, _⟩ => absurd h (Nat.not_lt_zero _)), World.iter_heap _ _ _, (Fresh.refl _).alloc _⟩
  case round =>
    obtain ⟨p, hat⟩ := hrel
    have hip : wr.iterPos w1.heap.size = p := by simp [World.iterPos, hat.it]
    by_cases hp : p < s.size
    · obtain ⟨q, d, hqd, hv, hd1, hd2, hy, hn⟩ := zs_char s p hp
      have hnx : ∀ ty, (Instr.next (.pointer (some ⟨w1.heap.size, 0, none⟩)) true ty).run Tryz.prog wr = .ok (.tuple #[.bool true, .int .i64 p, .int .i32 q]) (wr.iterAt w1.heap.size s (p + d)) := fun ty => by
        have := Lib.run_next_any_at (P := Tryz.prog) wr _ s p ty hat.it hp
        rw [hqd] at this; exact this
      have HQ := Lib.hid (fun W => rune_any (q : Int) (by omega) (by omega) W)
      have HAT := Lib.hid hat
      have HD := Lib.hid hd1
      have HD2 := Lib.hid hd2
      have HV := Lib.hid hy
      have HN := Lib.hid hn
      clear hat hv hy hn hqd hd1 hd2
      go_wp2_with fail
      refine (HQ.out _).mono ?_
      rintro e w2 ⟨k, rfl, hk, hfr⟩
      by_cases hb : (q = 0 ∨ q = 47)
      · have hk0 : 0 ≤ k := hk.2 (by omega)
        have HB := Lib.hid (HV.out hb)
        clear hk hb
        go_wp2
        go_ret
        exact ⟨p, rfl, ⟨fun _ => ⟨p, hp, hp, HB.out⟩, fun _ => by omega⟩, Fresh.trans (Lib.below_iterAt HAT.out.fr (Nat.le_refl _) s (p + d)) hfr⟩
      · have hk0 : ¬ 0 ≤ k := fun h => hb (by have := hk.1 h; omega)
        have HB := Lib.hid (HN.out hb)
        clear hk hb
        go_wp2
        have nx := HAT.out.step HD2.out HB.out hfr
        refine ⟨⟨p + d, nx⟩, ?_⟩
        rw [hip]
        have : w2.iterPos w1.heap.size = p + d := by simp [World.iterPos, nx.it]
        rw [this]
        have := HD.out
        omega
    · have hnx : ∀ ty, (Instr.next (.pointer (some ⟨w1.heap.size, 0, none⟩)) true ty).run Tryz.prog wr = .ok (.tuple #[.bool false]) wr := fun ty => Lib.run_next_end_at wr _ s p ty hat.it hp
      have HAT := Lib.hid hat
      clear hat
      go_wp2
      go_ret
      have := HAT.out
      exact ⟨-1, rfl, ⟨fun h => by omega, fun h => absurd (by rw [show p = s.size from by have := this.le; omega]; exact h) this.no⟩, this.fr⟩
open Go.RowKit
theorem zs_list : ∀ l : List UInt8, (0 ≤ Lib.indexAny l zsS.data.toList) ↔ ∃ b ∈ l, b.toNat = 0 ∨ b.toNat = 47
  | [] => by simp [Lib.indexAny]
  | b :: l => by
    have ih := zs_list l
    have hc : (zsS.data.toList.contains b = true) ↔ (b.toNat = 0 ∨ b.toNat = 47) := by
      show (([0, 47] : List UInt8).contains b = true) ↔ _
      have e0 : (b = 0) ↔ b.toNat = 0 := ⟨fun h => by rw [h]; rfl, fun h => UInt8.toNat_inj.1 (by rw [h]; rfl)⟩
      have e1 : (b = 47) ↔ b.toNat = 47 := ⟨fun h => by rw [h]; rfl, fun h => UInt8.toNat_inj.1 (by rw [h]; rfl)⟩
      simp [e0, e1]
    have hge := Lib.indexAny_ge zsS.data.toList l
    unfold Lib.indexAny
    by_cases h : zsS.data.toList.contains b = true
    · rw [if_pos h]
      exact ⟨fun _ => ⟨b, List.mem_cons_self, hc.1 h⟩, fun _ => Int.le_refl _⟩
    · rw [if_neg h]
      by_cases g : (Lib.indexAny l zsS.data.toList == -1) = true
      · rw [if_pos g]
        have : Lib.indexAny l zsS.data.toList = -1 := by simpa using g
        rw [this] at ih
        constructor
        · intro q; omega
        · rintro ⟨c, hm, hz⟩
          rcases List.mem_cons.1 hm with e | e
          · subst e; exact absurd (hc.2 hz) h
          · exact absurd (ih.2 ⟨c, e, hz⟩) (by omega)
      · rw [if_neg g]
        have : ¬ Lib.indexAny l zsS.data.toList = -1 := by simpa using g
        constructor
        · intro q
          obtain ⟨c, hm, hz⟩ := ih.1 (by omega)
          exact ⟨c, List.mem_cons_of_mem _ hm, hz⟩
        · intro _; omega
theorem zs_has (s : ByteArray) : (∃ b ∈ s.data.toList, b.toNat = 0 ∨ b.toNat = 47) ↔ hasZs s s.size := by
  constructor
  · rintro ⟨b, hm, hz⟩
    obtain ⟨j, hj, e⟩ := List.mem_iff_getElem.1 hm
    have hj2 : j < s.size := by rw [Array.length_toList] at hj; exact hj
    refine ⟨j, hj2, hj2, ?_⟩
    have : s[j]'hj2 = b := by rw [← e]; rfl
    rw [this]; exact hz
  · rintro ⟨j, hj, _, hz⟩
    refine ⟨s[j]'hj, ?_, hz⟩
    show s.data[j]'hj ∈ s.data.toList
    rw [Array.mem_toList_iff]
    exact Array.getElem_mem _
theorem zero256 : ∀ w, (zeroValue 231).run Tryz.prog w = .ok (.agg (Array.replicate 256 (.bool false))) w := fun w => by kernel_rfl
def BoolPost (p : Prop) (w : World) (e : Ending) (w' : World) : Prop := ∃ b : Bool, e = .returned (.bool b) ∧ (b = true ↔ p) ∧ Fresh w w'
theorem indexAny_any (s : ByteArray) (hs : s.size ≤ 100000) (w : World) : Calls Tryz.prog 107 #[.string s, .string zsS] w (ZsPost s w) := by
  by_cases h : s.size ≤ 8
  · exact indexAny_short s h w
  · refine (Tryz.strings_IndexAny_long zero256 s zsS w (by decide) (by omega) (by omega) (by decide) ?_).mono ?_
    · intro j b hb
      have : zsS.data.toList = [0, 47] := rfl
      rw [this] at hb
      match j with
      | 0 => cases hb; decide
      | 1 => cases hb; decide
      | j + 2 => cases hb
    · rintro e w' ⟨he, hw⟩
      refine ⟨_, he, (zs_list _).trans (zs_has s), ?_⟩
      rw [hw]
      exact ((Fresh.refl _).alloc _).alloc _
set_option maxHeartbeats 800000 in
theorem containsAny_any (s : ByteArray) (hs : s.size ≤ 100000) (w : World) : Calls Tryz.prog 49 #[.string s, .string zsS] w (BoolPost (hasZs s s.size) w) := by
  have HI := Lib.hid (fun W => indexAny_any s hs W)
  clear hs
  go_enter Tryz.func49, Tryz.ntmps49
  go_wp2_with fail
  refine (HI.out _).mono ?_
  rintro e w1 ⟨k, rfl, hk, hf⟩
  have HK := Lib.hid hk
  clear hk
  go_wp2
  go_ret
  exact ⟨_, rfl, by simpa using HK.out, hf⟩
theorem bytes_toList (s : ByteArray) : s.toList = s.data.toList := ByteArray.toList_eq s
theorem bytes_of {s : ByteArray} {l : List UInt8} (h : s.toList = l) : s = ⟨⟨l⟩⟩ := by
  rw [bytes_toList] at h
  rw [← h]
def dotS : ByteArray := ⟨#[46]⟩
def dotsS : ByteArray := ⟨#[46, 46]⟩
def GoodN (s : ByteArray) : Prop := 1 ≤ s.size ∧ s.size ≤ 255 ∧ ¬ hasZs s s.size ∧ s ≠ dotS ∧ s ≠ dotsS
set_option maxHeartbeats 800000 in
theorem good_any (s : ByteArray) (w : World) : Calls Tryz.prog 15 #[.string s] w (BoolPost (GoodN s) w) := by
  by_cases h1 : 1 ≤ s.size
  case neg =>
    have h1' : ¬ (1 : Int) ≤ s.size := by omega
    go_enter Tryz.func15, Tryz.ntmps15
    go_wp2
    go_ret
    exact ⟨_, rfl, by simp [GoodN]; omega, Fresh.refl _⟩
  case pos =>
    have h1' : (1 : Int) ≤ s.size := by omega
    by_cases h2 : s.size ≤ 255
    case neg =>
      have h2' : ¬ (s.size : Int) ≤ 255 := by omega
      go_enter Tryz.func15, Tryz.ntmps15
      go_wp2
      go_ret
      exact ⟨_, rfl, by simp [GoodN]; omega, Fresh.refl _⟩
    case pos =>
      have h2' : (s.size : Int) ≤ 255 := by omega
      have HI := Lib.hid (fun W => containsAny_any s (by omega) W)
      have H1 := Lib.hid h1
      have H2 := Lib.hid h2
      clear h1 h2
      go_enter Tryz.func15, Tryz.ntmps15
      go_wp2_with fail
      refine (HI.out _).mono ?_
      rintro e w1 ⟨k, rfl, hk, hf⟩
      have HK := Lib.hid hk
      clear hk
      cases k
      · go_wp2
        · go_ret
          rename_i hd
          exact ⟨_, rfl, ⟨fun h => absurd h (by simp), fun h => absurd (bytes_of hd) h.2.2.2.1⟩, hf⟩
        · go_ret
          refine ⟨_, rfl, ?_, hf⟩
          rename_i hd
          have hd2 : s ≠ dotS := fun h => hd (by rw [bytes_toList, h]; rfl)
          have HK2 : ¬ hasZs s s.size := fun h => absurd (HK.out.2 h) (by simp)
          rw [show (s.toList == [46]) = false by simpa using hd]
          constructor
          · intro h
            simp at h
            exact ⟨H1.out, H2.out, HK2, hd2, fun h' => h (by rw [bytes_toList, h']; rfl)⟩
          · rintro ⟨_, _, _, _, h⟩
            simp
            intro h'
            exact h (bytes_of h')
      · go_wp2
        go_ret
        exact ⟨_, rfl, ⟨fun h => absurd h (by simp), fun h => absurd (HK.out.1 (by first | rfl | trivial)) h.2.2.1⟩, hf⟩
open Go.RowKit
def MayPost (s : ByteArray) (k : Int) (w : World) (e : Ending) (w' : World) : Prop := ∃ r : Int, e = .returned (.int .i64 r) ∧ ((GoodN s ∧ 0 ≤ k ∧ k ≤ 1000000 ∧ r = 0) ∨ (¬ GoodN s ∧ r = 3) ∨ (GoodN s ∧ ¬ (0 ≤ k ∧ k ≤ 1000000) ∧ r = 1)) ∧ Fresh w w'
set_option maxHeartbeats 800000 in
theorem tmay_any (s : ByteArray) (k : Int) (w : World) : Calls Tryz.prog 339 #[.string s, .int .i64 k] w (MayPost s k w) := by
  have HG := Lib.hid (fun W => good_any s W)
  go_enter Tryz.func339, Tryz.ntmps339
  go_wp2_with fail
  refine (HG.out _).mono ?_
  rintro e w1 ⟨b, rfl, hb, hf⟩
  have HB := Lib.hid hb
  clear hb
  cases b
  · go_wp2
    go_ret
    exact ⟨_, rfl, .inr (.inl ⟨fun h => absurd (HB.out.2 h) (by simp), rfl⟩), hf⟩
  · by_cases h0 : k < 0
    · go_wp2
      go_ret
      exact ⟨_, rfl, .inr (.inr ⟨HB.out.1 (by first | rfl | trivial), by omega, rfl⟩), hf⟩
    · by_cases h1 : 1000000 < k
      · go_wp2
        go_ret
        exact ⟨_, rfl, .inr (.inr ⟨HB.out.1 (by first | rfl | trivial), by omega, rfl⟩), hf⟩
      · go_wp2
        go_ret
        exact ⟨_, rfl, .inl ⟨HB.out.1 (by first | rfl | trivial), by omega, by omega, rfl⟩, hf⟩
theorem OwnE.appendRun {w : World} {A : Nat → Prop} {v : Value} {xs : List Ent} (h : OwnE w A v xs) (ty : TypeId) (e : Ent) (g : Nat) (hc : ∀ j u, (ec e)[j]? = some u → w.cell? ⟨g, j, none⟩ = some u) (hN : xs.length ≤ 100000) :
    ∃ a' c' w', (Builtin.append_ #[83, 83] ty #[v, .slice (some ⟨g, 0, none⟩) 1 1]).run Tryz.prog w = .ok (.slice a' (xs.length + 1) c') w' ∧ OwnE w' (ext A w w') (.slice a' (xs.length + 1) c') (xs ++ [e]) ∧ Mut (fun k => v.ownBlock = some k) w w' := by
  obtain ⟨i0, hi0, hz0, hz1, hz2⟩ := info_partsG infoEnt
  obtain ⟨v', w', h1, h2, h3, _, h5⟩ := run_append_own_at (P := Tryz.prog) w 0 83 ty 88 i0 _ 5 48 Tryz.underlying83 hi0 hz0 hz1 hz2 rfl (by decide) v _ _ h.1 ⟨g, 0, none⟩ 1 1 (ec e) rfl (fun j u hj => by rw [Addr.add_lit]; rw [Nat.zero_add]; exact hc j u hj) (fun u hu => ec_one [e] u (by simpa [ecs] using hu)) (by unfold maxLen; omega) (by omega) (Nat.zero_le _)
  have ho : OwnE w' (ext A w w') v' (xs ++ [e]) := by
    have e1 : ecs xs ++ ec e = ecs (xs ++ [e]) := by rw [ecs_append]; simp [ecs]
    have e2 : (xs ++ [e]).length = xs.length + 1 := by simp
    unfold OwnE
    rw [e2, ← e1]
    refine ⟨h2, fun k hk => ?_⟩
    rcases h5 with q | q
    · exact .inl (h.2 k (by rw [← q]; exact hk))
    · rw [q] at hk
      injection hk with hk
      exact .inr ⟨by omega, (h2.lt k (by rw [q, hk])).2⟩
  obtain ⟨a', c', rfl⟩ := ho.shape
  have e2 : (xs ++ [e]).length = xs.length + 1 := by simp
  rw [e2] at h1 ho
  exact ⟨a', c', w', h1, ho, ⟨h3.os, h3.tape, h3.output, h3.size, fun k hk hn => h3.block k hk fun e => hn e.symm⟩⟩
theorem step_append_ent {ops : Array Oper} {o : Oper} {a : Act} {w : World} {K : Act → World → Prop} {Q : Exit → Act → World → Prop} {E : Prop} (hg : o.guard = none) (s x : Operand)
    (ho : o.op = .call { callee := .builtin .append, args := #[s, x], argTypes := #[83, 83] })
    (A : Nat → Prop) (v : Value) (xs : List Ent) (e : Ent) (g : Nat) (hs : a.eval s = v) (hx : a.eval x = .slice (some ⟨g, 0, none⟩) 1 1) (hown : OwnE w A v xs) (hc : ∀ j u, (ec e)[j]? = some u → w.cell? ⟨g, j, none⟩ = some u) (hN : xs.length ≤ 100000)
    (hK : ∀ a' c' w', OwnE w' (ext A w w') (.slice a' (xs.length + 1) c') (xs ++ [e]) → Mut (fun k => v.ownBlock = some k) w w' → K (a.put o.dst (.slice a' (xs.length + 1) c')) w') :
    if Region.wanted o (yielded ops a.tmps) = true then Oper.wp Tryz.prog o a w K Q else E := by
  have hw : Region.wanted o (yielded ops a.tmps) = true := by simp [Region.wanted, hg]
  rw [if_pos hw]
  obtain ⟨a', c', w', hrun, h1, h2⟩ := hown.appendRun o.type e g hc hN
  unfold Oper.wp
  simp [execOp, ho, resolve, invoke, builtin, hs, hx, hrun, Result.andThen]
  exact hK _ _ _ h1 h2
theorem ec_new {w0 w : World} {e : Ent} (hf : Fresh (w0.alloc (.cells #[.string e.name, .int .i64 e.node, .bool e.dir, .int .i64 e.cookie, .int .i64 e.short] 88)) w) : ∀ j u, (ec e)[j]? = some u → w.cell? ⟨w0.heap.size, j, none⟩ = some u := by
  intro j u hj
  rw [Below.cell hf (p := ⟨w0.heap.size, j, none⟩) (by show w0.heap.size < _; simp), World.cell?_alloc_at _ _ _ _ rfl]
  simpa [ec] using hj
theorem TreeAt.open {A : Nat → Prop} {w : World} {t : Nat} {T : TreS} {q : Nat} (h : TreeAt w A t T q) :
    ∃ gd gf pp Md Mf Ap, (∀ k, Ap k → k < w.heap.size) ∧ Blk w t 159 #[.map (some gd), .map (some gf), .pointer (some ⟨pp, 0, none⟩), .int .i64 T.next] ∧ (A t ∧ ¬ Ap t) ∧ (A gd ∧ ¬ Ap gd) ∧ (A gf ∧ ¬ Ap gf) ∧ gd ≠ gf ∧ MapAt w gd q Md ∧ MapAt w gf q Mf ∧ (∀ i, Mf i = if T.files i = true then some (.int .i64 1) else none) ∧
    (∀ i l, T.dirs i = some l → ∃ v, Md i = some v ∧ OwnE w (fun g => A g ∧ ¬ Ap g) v l) ∧ (∀ i, T.dirs i = none → Md i = none) ∧ (∀ k, Ap k → A k) ∧ PoolAt w Ap pp T.fr T.bk T.out q := by
  obtain ⟨gd, gf, pp, Md, Mf, Ap, h1, h2, h3, h4, h5, h6, h7, h8, h9, h10, h11, h12⟩ := h
  exact ⟨gd, gf, pp, Md, Mf, fun k => Ap k ∧ k < w.heap.size, fun k hk => hk.2, h1, ⟨h2.1, fun q => h2.2 q.1⟩, ⟨h3.1, fun q => h3.2 q.1⟩, ⟨h4.1, fun q => h4.2 q.1⟩, h5, h6, h7, h8, fun i l hi => by obtain ⟨v, hv, ho⟩ := h9 i l hi; exact ⟨v, hv, OwnA.mono ho (fun g hg hh => ⟨hh.1, fun q => hh.2 q.1⟩)⟩, h10, fun k hk => h11 k hk.1, h12.mono (fun k hk hh => ⟨hh, hk⟩)⟩
def putT (T : TreS) (d : Int) (e : Ent) : TreS := { T with dirs := fun i => if i = d then some ((T.dirs d).getD [] ++ [{ e with cookie := T.next }]) else T.dirs i, next := T.next + 1 }
def PutPost (A : Nat → Prop) (t : Nat) (T : TreS) (q : Nat) (w : World) (e : Ending) (w' : World) : Prop := ∃ A', e = .returned (.tuple #[]) ∧ TreeAt w' A' t T q ∧ Mut A w w' ∧ Gr A w w' A'
theorem put_fin {w W5 w4 w6 : World} {A Ap : Nat → Prop} {t gd gf pp q : Nat} {T : TreS} {d : Int} {e : Ent} {Md Mf : Int → Option Value} {v4 : Value} {l0 : List Ent} (hApl : ∀ k, Ap k → k < w.heap.size) (h2 : A t ∧ ¬ Ap t) (h3 : A gd ∧ ¬ Ap gd) (h4 : A gf ∧ ¬ Ap gf) (h5 : gd ≠ gf) (h12 : ∀ k, Ap k → A k) (hl0 : (T.dirs d).getD [] = l0)
    (h8 : ∀ i, Mf i = if T.files i = true then some (.int .i64 1) else none) (h10 : ∀ i, T.dirs i = none → Md i = none) (hs5 : W5.heap.size = w.heap.size + 1)
    (PK : Blk W5 t 159 #[.map (some gd), .map (some gf), .pointer (some ⟨pp, 0, none⟩), .int .i64 (T.next + 1)] ∧ MapAt W5 gd q Md ∧ MapAt W5 gf q Mf ∧ PoolAt W5 Ap pp T.fr T.bk T.out q ∧ (∀ i l, T.dirs i = some l → ∃ v, Md i = some v ∧ OwnE W5 (fun g => A g ∧ ¬ Ap g) v l) ∧ Mut (fun j => j = t) w W5)
    (hf4 : Fresh W5 w4) (o4 : OwnE w4 (fun g => W5.heap.size ≤ g) v4 (l0 ++ [{ e with cookie := T.next }])) (m6 : MapAt w6 gd (q + 1) (fun i => if i = d then some v4 else Md i)) (u6 : Mut (fun j => j = gd) w4 w6) :
    TreeAt w6 (ext A w w6) t (putT T d e) (q + 1) ∧ Mut A w w6 := by
  obtain ⟨b5, m5, f5, p5, o5, u5⟩ := PK
  have hz4 := hf4.size
  have hz6 := u6.size
  have htd : t ≠ gd := b5.neMap m5
  have hw4 : MapAt w4 gd q Md := m5.fresh hf4
  have hmu : Mut A w w6 := ((u5.mono (T := A) (fun j _ e => by rw [e]; exact h2.1)).trans2 (hf4.mut A) (fun _ h => h) (fun _ _ h => h)).trans2 u6 (fun _ h => h) (fun j _ e => by rw [e]; exact h3.1)
  refine ⟨⟨gd, gf, pp, _, Mf, Ap, (b5.keep hf4).mut u6 htd, ⟨.inl h2.1, h2.2⟩, ⟨.inl h3.1, h3.2⟩, ⟨.inl h4.1, h4.2⟩, h5, m6, ((f5.fresh hf4).mut u6 (fun e => h5 e.symm)).mono (by omega), h8, fun i l hi => ?_, fun i hi => ?_, fun k hk => .inl (h12 k hk), ((p5.fresh hf4).mut u6 (fun k hk e => h3.2 (e ▸ hk))).le (by omega)⟩, hmu⟩
  · unfold putT at hi
    simp only at hi
    by_cases e : i = d
    · rw [if_pos e] at hi
      injection hi with hi
      subst hi
      refine ⟨v4, if_pos e, ?_⟩
      rw [hl0]
      have o6 : OwnE w6 (fun g => W5.heap.size ≤ g) v4 _ := OwnA.mutB o4 u6 (fun g hg e => OwnA.neMap o4 hw4 (by rw [hg, e]))
      exact OwnA.mono o6 (fun g hg hh => ⟨.inr ⟨by omega, hg⟩, fun q => by have := hApl g q; omega⟩)
    · rw [if_neg e] at hi
      obtain ⟨v, hv, ho⟩ := o5 i l hi
      refine ⟨v, by rw [if_neg e]; exact hv, ?_⟩
      have oa : OwnE w4 _ v l := OwnA.fresh ho hf4
      have o6 : OwnE w6 _ v l := OwnA.mutB oa u6 (fun g hg e => OwnA.neMap oa hw4 (by rw [hg, e]))
      exact OwnA.mono o6 (fun g hg hh => ⟨.inl hh.1, hh.2⟩)
  · unfold putT at hi
    simp only at hi
    by_cases e : i = d
    · rw [if_pos e] at hi; cases hi
    · rw [if_neg e] at hi; rw [if_neg e]; exact h10 i hi
set_option maxRecDepth 100000 in
set_option maxHeartbeats 3200000 in
theorem tput_any (w : World) (A : Nat → Prop) (t : Nat) (T : TreS) (q : Nat) (h : TreeAt w A t T q) (d : Int) (hd : I64 d) (e : Ent) (hq : q ≤ 1000000) (hl : ∀ l, T.dirs d = some l → l.length ≤ 100000) (hn : 0 ≤ T.next ∧ T.next ≤ 1000000) : Calls Tryz.prog 342 #[.pointer (some ⟨t, 0, none⟩), .int .i64 d, entV e] w (PutPost A t (putT T d e) (q + 1) w) := by
  obtain ⟨gd, gf, pp, Md, Mf, Ap, hApl, h1, h2, h3, h4, h5, h6, h7, h8, h9, h10, h12, h11⟩ := h.open
  have HAP := Lib.hid hApl
  have HA2 := Lib.hid h12
  clear hApl h
  have c3 : w.cell? ⟨t, 3, none⟩ = some (.int .i64 T.next) := by rw [h1.cell]; rfl
  have htl := h1.lt
  have f3 : w.frozen? ⟨t, 3, none⟩ = false := h1.frozen 3
  have H1 := Lib.hid h1
  clear h1
  go_enter Tryz.func342, Tryz.ntmps342
  go_wp2_with fail
  obtain ⟨W5, hW5⟩ : ∃ W5, ((w.setCell ⟨t, 3, none⟩ (.int .i64 (T.next + 1))).alloc (.cells #[.string e.name, .int .i64 e.node, .bool e.dir, .int .i64 T.next, .int .i64 e.short] 88)) = W5 := ⟨_, rfl⟩
  have hs0 : (w.setCell ⟨t, 3, none⟩ (.int .i64 (T.next + 1))).heap.size = w.heap.size := by simp
  have u0 : Mut (fun j => j = t) w (w.setCell ⟨t, 3, none⟩ (.int .i64 (T.next + 1))) := (Mut.refl (fun j => j = t) w).setCell (p := ⟨t, 3, none⟩) (.inl rfl) _
  have u5 : Mut (fun j => j = t) w W5 := by rw [← hW5]; exact u0.alloc _
  have hs5 : W5.heap.size = w.heap.size + 1 := by rw [← hW5]; simp
  have B5 : Blk W5 t 159 #[.map (some gd), .map (some gf), .pointer (some ⟨pp, 0, none⟩), .int .i64 (T.next + 1)] := by rw [← hW5]; exact (H1.out.set (i := 3) (u := .int .i64 (T.next + 1))).keep ((Fresh.refl _).alloc _)
  have X5 : Blk W5 w.heap.size 88 #[.string e.name, .int .i64 e.node, .bool e.dir, .int .i64 T.next, .int .i64 e.short] := by rw [← hW5, ← hs0]; exact Blk.new _ _ _
  have M5 : MapAt W5 gd q Md := h6.mut u5 (fun e => by have := H1.out.neMap h6; omega)
  have F5 : MapAt W5 gf q Mf := h7.mut u5 (fun e => by have := H1.out.neMap h7; omega)
  have P5 : PoolAt W5 Ap pp T.fr T.bk T.out q := h11.mut u5 (fun k hk e => h2.2 (e ▸ hk))
  have O5 : ∀ i l, T.dirs i = some l → ∃ v, Md i = some v ∧ OwnE W5 (fun g => A g ∧ ¬ Ap g) v l := fun i l hi => by
    obtain ⟨v, hv, ho⟩ := h9 i l hi
    exact ⟨v, hv, OwnA.mutB ho u5 (fun g hg e => OwnA.ne ho H1.out (by decide) (by rw [hg, e]))⟩
  obtain ⟨l0, hl0⟩ : ∃ l0, (T.dirs d).getD [] = l0 := ⟨_, rfl⟩
  have hl1 : l0.length ≤ 100000 := by
    rw [← hl0]
    cases hT : T.dirs d with
    | none => simp
    | some l => exact hl l hT
  obtain ⟨a0, c0, hv0, ho0⟩ : ∃ a0 c0, (Md d).getD (.slice none 0 0) = .slice a0 l0.length c0 ∧ OwnE W5 (fun g => A g ∧ ¬ Ap g) (.slice a0 l0.length c0) l0 := by
    rw [← hl0]
    cases hT : T.dirs d with
    | none => exact ⟨none, 0, by rw [h10 d hT]; rfl, OwnA.nil _ _ _ _⟩
    | some l =>
      obtain ⟨v, hv, ho⟩ := O5 d l hT
      obtain ⟨a, c, rfl⟩ := ho.shape
      exact ⟨a, c, by rw [hv]; rfl, ho⟩
  have HCL : Hid (∀ W, Fresh W5 W → Calls Tryz.prog 78 #[.slice a0 l0.length c0] W fun e w' => ∃ a c, e = .returned (.slice a l0.length c) ∧ OwnE w' (fun g => W5.heap.size ≤ g) (.slice a l0.length c) l0 ∧ Fresh W w' ∧ Fresh W5 w') := Lib.hid (fun W hW => (cloneE_any _ _ l0 W ((OwnE.sl ho0).fresh hW) (by omega)).mono fun e w' ⟨v, he, ho, hf⟩ => by
    obtain ⟨a, c, rfl⟩ := ho.shape
    exact ⟨a, c, he, OwnA.mono ho (fun g _ hg => Nat.le_trans hW.size hg), hf, hW.trans hf⟩)
  have htl5 := B5.lt
  have hxl5 := X5.lt
  have HSP : Hid (∀ W, Fresh W5 W → W.cell? ⟨t, 0, none⟩ = some (.map (some gd)) ∧ W.cell? ⟨w.heap.size, 0, none⟩ = some (.string e.name) ∧ W.cell? ⟨w.heap.size, 1, none⟩ = some (.int .i64 e.node) ∧ W.cell? ⟨w.heap.size, 2, none⟩ = some (.bool e.dir) ∧ W.cell? ⟨w.heap.size, 3, none⟩ = some (.int .i64 T.next) ∧ W.cell? ⟨w.heap.size, 4, none⟩ = some (.int .i64 e.short)) := Lib.hid (fun W hW => by
    refine ⟨?_, ?_, ?_, ?_, ?_, ?_⟩
    · exact (Below.cell hW (p := ⟨t, 0, none⟩) htl5).trans (by rw [B5.cell]; rfl)
    · exact (Below.cell hW (p := ⟨w.heap.size, 0, none⟩) hxl5).trans (by rw [X5.cell]; rfl)
    · exact (Below.cell hW (p := ⟨w.heap.size, 1, none⟩) hxl5).trans (by rw [X5.cell]; rfl)
    · exact (Below.cell hW (p := ⟨w.heap.size, 2, none⟩) hxl5).trans (by rw [X5.cell]; rfl)
    · exact (Below.cell hW (p := ⟨w.heap.size, 3, none⟩) hxl5).trans (by rw [X5.cell]; rfl)
    · exact (Below.cell hW (p := ⟨w.heap.size, 4, none⟩) hxl5).trans (by rw [X5.cell]; rfl))
  have HLK : Hid (∀ W, Fresh W5 W → (Instr.lookup 155 (.map (some gd)) (.int .i64 d) false).run Tryz.prog W = .ok (.slice a0 l0.length c0) W) := Lib.hid (fun W hW => (M5.fresh hW).look Tryz.underlying155 zeroL hd hv0)
  have HSM : Hid (∀ W W', Fresh W5 W → Mut (fun j => j = gd) W W' → W'.cell? ⟨t, 0, none⟩ = some (.map (some gd)) ∧ W'.cell? ⟨w.heap.size, 0, none⟩ = some (.string e.name) ∧ W'.cell? ⟨w.heap.size, 1, none⟩ = some (.int .i64 e.node) ∧ W'.cell? ⟨w.heap.size, 2, none⟩ = some (.bool e.dir) ∧ W'.cell? ⟨w.heap.size, 3, none⟩ = some (.int .i64 T.next) ∧ W'.cell? ⟨w.heap.size, 4, none⟩ = some (.int .i64 e.short)) := Lib.hid (fun W W' hW hm => by
    obtain ⟨s0, s1, s2, s3, s4, s5⟩ := HSP.out W hW
    have n1 : t ≠ gd := B5.neMap M5
    have n2 : w.heap.size ≠ gd := X5.neMap M5
    have hz := hW.size
    exact ⟨(hm.cell (p := ⟨t, 0, none⟩) (by show t < _; omega) n1).trans s0, (hm.cell (p := ⟨w.heap.size, 0, none⟩) (by show w.heap.size < _; omega) n2).trans s1, (hm.cell (p := ⟨w.heap.size, 1, none⟩) (by show w.heap.size < _; omega) n2).trans s2, (hm.cell (p := ⟨w.heap.size, 2, none⟩) (by show w.heap.size < _; omega) n2).trans s3, (hm.cell (p := ⟨w.heap.size, 3, none⟩) (by show w.heap.size < _; omega) n2).trans s4, (hm.cell (p := ⟨w.heap.size, 4, none⟩) (by show w.heap.size < _; omega) n2).trans s5⟩)
  have k0 := HLK.out _ (Fresh.refl W5)
  have k1 := HLK.out _ (Fresh.refl W5).drew
  have k2 := HLK.out _ (Fresh.refl W5).drew.drew
  have k3 := fun X => HLK.out _ ((Fresh.refl W5).alloc X)
  have k4 := fun X => HLK.out _ ((Fresh.refl W5).drew.alloc X)
  have k5 := fun X => HLK.out _ ((Fresh.refl W5).alloc X).drew
  have k6 := fun X => HLK.out _ ((Fresh.refl W5).drew.alloc X).drew
  rw [hW5]
  have h0 := HSP.out W5 (Fresh.refl _)
  have PK := Lib.hid (And.intro B5 (And.intro M5 (And.intro F5 (And.intro P5 (And.intro O5 u5)))))
  have H8 := Lib.hid h8
  have H10 := Lib.hid h10
  have HS5 := Lib.hid hs5
  have HL0 := Lib.hid hl0
  clear hl0
  clear B5 X5 M5 F5 P5 O5 u5 u0 hs0 hW5 ho0 hv0 h6 h7 h8 h9 h10 h11 c3 f3 htl5 hxl5 hs5 h12
  go_region_held3 (fun W => W.cell? ⟨t, 0, none⟩ = some (.map (some gd)) ∧ W.cell? ⟨w.heap.size, 0, none⟩ = some (.string e.name) ∧ W.cell? ⟨w.heap.size, 1, none⟩ = some (.int .i64 e.node) ∧ W.cell? ⟨w.heap.size, 2, none⟩ = some (.bool e.dir) ∧ W.cell? ⟨w.heap.size, 3, none⟩ = some (.int .i64 T.next) ∧ W.cell? ⟨w.heap.size, 4, none⟩ = some (.int .i64 e.short)) (first | assumption | exact HSP.out _ (by repeat (first | assumption | exact Fresh.refl _ | refine Fresh.alloc ?_ _ | refine Fresh.drew ?_))) (first
    | (go_at_call 78; refine (HCL.out _ (by repeat (first | assumption | exact Fresh.refl _ | refine Fresh.alloc ?_ _ | refine Fresh.drew ?_))).mono ?_; rintro en wA ⟨aA, cA, rfl, hoA, hfA, hfA5⟩)
    | (refine step_append_ent rfl _ _ rfl (fun g => W5.heap.size ≤ g) _ l0 { e with cookie := T.next } _ rfl rfl (by first | exact hoA | exact OwnA.fresh hoA ((Fresh.refl _).alloc _)) (ec_new (e := { e with cookie := T.next }) (by first | exact Fresh.refl _ | exact hfA | exact hfA.undr | exact hfA.undr.undr)) hl1 ?_; intro a4 c4 w4 o4 u4; have hf4 : Fresh W5 w4 := Fresh.mut2 (by first | exact hfA5 | exact hfA5.alloc _) u4 (fun j hj => hoA.2 j hj); obtain ⟨w6, hrun6, m6, u6, z6⟩ := (PK.out.2.1.fresh hf4).storeRun Tryz.underlying155 (by omega) hd (.slice a4 (l0.length + 1) c4); have hs6 := HSM.out w4 w6 hf4 u6; have o5 : OwnE w4 (fun g => W5.heap.size ≤ g) (.slice a4 (l0.length + 1) c4) (l0 ++ [{ e with cookie := T.next }]) := OwnA.mono o4 (fun g _ hg => hg.elim id (fun q => Nat.le_trans (Fresh.size (by first | exact hfA5 | exact hfA5.alloc _)) q.1))))
  all_goals
    have HE := Lib.hid (put_fin HAP.out h2 h3 h4 h5 HA2.out HL0.out H8.out H10.out HS5.out PK.out hf4 o5 m6 u6)
    clear o4 u4 o5 m6 u6 hf4 hs6 hoA hfA hfA5 hrun6
    go_wp2
    go_end0
    exact ⟨_, rfl, HE.out.1, HE.out.2, Gr.ext _ _ _⟩
end Go.Proofs.YtpmlggjhfiljmaaGreatDoor
