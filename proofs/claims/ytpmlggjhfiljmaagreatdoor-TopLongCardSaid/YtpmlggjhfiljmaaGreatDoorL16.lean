/- Part 16 of what the law rests on. -/
import Derived.Deep.RegionHeld3
import Derived.Test.YtpmlggjhfiljmaaGreatDoorL01
import Derived.Test.YtpmlggjhfiljmaaGreatDoorL03
import Derived.Test.YtpmlggjhfiljmaaGreatDoorL09
import Derived.Test.YtpmlggjhfiljmaaGreatDoorL15
set_option linter.all false
namespace Go.Proofs.YtpmlggjhfiljmaaGreatDoor
open Go.RowKit
set_option maxHeartbeats 800000 in
theorem equal_any (u v : Value) (xs ys : List Int) (w : World) (hu : Sl w u xs) (hv : Sl w v ys) (hx : xs.length ≤ 1000000) (hy : ys.length ≤ 1000000) :
    Calls Tryz.prog 65 #[u, v] w (SamePost xs ys w) := by
  obtain ⟨a, ca, rfl, hu⟩ := hu
  obtain ⟨b, cb, rfl, hv⟩ := hv
  by_cases hl : xs.length = ys.length
  · have hne : ((xs.length : Int) != (xs.length : Int)) = false := by simp
    rw [← hl]
    have HL := Lib.hid hl
    clear hl hy
    rcases hu with rfl | ⟨b1, o1, rfl, hb1, hc1⟩
    · have hyn : ys = [] := List.eq_nil_of_length_eq_zero (by have := HL.out; simpa using this.symm)
      subst hyn
      go_enter Tryz.func65, Tryz.ntmps65
      go_wp2
      refine wp_loop_rounds 1 ?_
      rw [rounds_succ]
      go_wp2
      go_ret
      exact SamePost.mk rfl (Fresh.refl _)
    rcases hv with rfl | ⟨b2, o2, rfl, hb2, hc2⟩
    · have hyn : xs = [] := List.eq_nil_of_length_eq_zero (by have := HL.out; simpa using this)
      subst hyn
      go_enter Tryz.func65, Tryz.ntmps65
      go_wp2
      refine wp_loop_rounds 1 ?_
      rw [rounds_succ]
      go_wp2
      go_ret
      exact SamePost.mk rfl (Fresh.refl _)
    have H1 := Lib.hid hc1
    have H2 := Lib.hid hc2
    clear hc1 hc2
    generalize hn : xs.length = n at hx hne H1
    have HN := Lib.hid hn
    clear hn
    go_enter Tryz.func65, Tryz.ntmps65
    go_wp2
    go_loopw [13] (fun i wr => SameRel xs ys w i wr) (fun i _ => n - (intOf i).toNat)
    case atStart => exact ⟨0, rfl, Nat.zero_le _, fun j hj => absurd hj (Nat.not_lt_zero _), Fresh.refl _⟩
    case round =>
      obtain ⟨k, rfl, hk, he, hf⟩ := hrel
      have HE := Lib.hid he
      clear he
      have hk' : k ≤ n := by have := HN.out; omega
      clear hk
      by_cases hlt : k < n
      · have c1 : wr.cell? ⟨b1, o1 + k, none⟩ = some (.int .i32 (xs.getD k 0)) := (Below.cell hf (p := ⟨b1, o1 + k, none⟩) hb1).trans (H1.out k hlt)
        have c2 : wr.cell? ⟨b2, o2 + k, none⟩ = some (.int .i32 (ys.getD k 0)) := (Below.cell hf (p := ⟨b2, o2 + k, none⟩) hb2).trans (H2.out k (by have := HL.out; have := HN.out; omega))
        generalize hp : xs.getD k 0 = p at c1
        generalize hq : ys.getD k 0 = q at c2
        have HP := Lib.hid hp
        have HQ := Lib.hid hq
        clear hp hq
        have q8 : (0 : Int) ≤ (k : Int) := by omega
        have q9 : (k : Int) < (n : Int) := by omega
        go_wp2
        go_quiet (fail)
        by_cases hpq : p = q
        · have HPQ := Lib.hid hpq
          have hb : (p != q) = false := by simp [hpq]
          clear hpq
          go_wp2
          refine ⟨⟨k + 1, by rw [Int.natCast_add]; rfl, by have := HN.out; omega, fun j hj => ?_, hf.drewN _⟩, by simp [intOf]; omega⟩
          by_cases hjk : j = k
          · rw [hjk, HP.out, HQ.out, HPQ.out]
          · exact HE.out j (by omega)
        · have HPQ := Lib.hid hpq
          have hb : (p != q) = true := by simp [hpq]
          clear hpq
          go_wp2
          go_ret
          exact SamePost.mk (by symm; rw [decide_eq_false_iff_not]; intro e; apply HPQ.out; rw [← HP.out, ← HQ.out, e]) (hf.drewN _)
      · have hkn : k = n := by omega
        go_wp2
        go_ret
        exact SamePost.mk (by symm; rw [decide_eq_true_iff]; exact take_eq_of HL.out (fun j hj => HE.out j (by have := HN.out; omega))) hf
  · have hne : ((xs.length : Int) != (ys.length : Int)) = true := by simp; omega
    have HD := Lib.hid hl
    generalize hn1 : xs.length = n1 at hne HD
    generalize hn2 : ys.length = n2 at hne HD
    have HN1 := Lib.hid hn1
    have HN2 := Lib.hid hn2
    clear hn1 hn2 hl
    go_enter Tryz.func65, Tryz.ntmps65
    go_wp2
    go_ret
    exact SamePost.mk (by symm; rw [decide_eq_false_iff_not]; intro e; apply HD.out; rw [← HN1.out, ← HN2.out, e]) (Fresh.refl _)
set_option maxHeartbeats 800000 in
theorem cstable_any (u : Value) (l : List Int) (w : World) (hu : Sl w u l) (hl : l.length ≤ 10000) (h32 : In32 l) :
    Calls Tryz.prog 24 #[u] w (SamePost (apt l) l w) := by
  have hal := apt_len l
  go_enter Tryz.func24, Tryz.ntmps24
  go_wp2_with fail
  refine (capt_any _ l _ hu hl h32).mono ?_
  rintro e w1 ⟨v, rfl, ho, hf⟩
  go_wp2_with fail
  refine (equal_any _ _ (apt l) l _ ho.sl (hu.keep hf) (by omega) (by omega)).mono ?_
  rintro e w2 ⟨rfl, hf2⟩
  go_wp2
  go_ret
  exact ⟨rfl, hf.trans hf2⟩
open Go.RowKit
def hexS : ByteArray := ⟨#[48, 49, 50, 51, 52, 53, 54, 55, 56, 57, 97, 98, 99, 100, 101, 102]⟩
def resS : ByteArray := ⟨#[34, 37, 42, 47, 58, 60, 62, 63, 92, 124]⟩
theorem res_dec : ((List.range 128).all fun n => decide ((0 ≤ Lib.indexByte resS.data.toList n.toUInt8) ↔ reservedL.contains (n : Int) = true)) = true := by decide +kernel
theorem res_byte {r : Int} (h0 : 0 ≤ r) (h1 : r < 128) : (0 ≤ Lib.indexByte resS.data.toList r.toNat.toUInt8) ↔ reservedL.contains r = true := by
  have := List.all_eq_true.1 res_dec r.toNat (List.mem_range.2 (by omega))
  simp only [decide_eq_true_eq] at this
  rwa [Int.toNat_of_nonneg h0] at this
theorem hex_dec : ((List.range 256).all fun n => decide (Lib.indexByte hexS.data.toList n.toUInt8 = digitI (n : Int))) = true := by decide +kernel
theorem hex_byte {c : Int} (h0 : 0 ≤ c) (h1 : c < 256) : Lib.indexByte hexS.data.toList c.toNat.toUInt8 = digitI c := by
  have := List.all_eq_true.1 hex_dec c.toNat (List.mem_range.2 (by omega))
  simp only [decide_eq_true_eq] at this
  rwa [Int.toNat_of_nonneg h0] at this
theorem resB_out {r : Int} (h : r < 0 ∨ 128 ≤ r) : resB r = false := by
  unfold resB reservedL
  simp
  omega
set_option maxHeartbeats 800000 in
theorem asIs_any (v : Value) (w : World) : Calls Tryz.prog 51 #[v] w fun e w' => e = .returned v ∧ w = w' := by
  go_enter Tryz.func51, Tryz.ntmps51
  go_wp2
  go_ret
  exact ⟨rfl, rfl⟩
set_option maxHeartbeats 800000 in
theorem digit_any (c : Int) (h0 : 0 ≤ c) (h1 : c < 256) (w : World) : Calls Tryz.prog 168 #[.int .u8 c] w fun e w' => e = .returned (.int .i64 (digitI c)) ∧ w = w' := by
  have HX := Lib.hid (Tryz.strings_IndexByte hexS c)
  rw [hex_byte h0 h1] at HX
  unfold hexS at HX
  go_enter Tryz.func168, Tryz.ntmps168
  go_wp2_with fail
  refine (HX.out _).mono ?_
  rintro e w1 ⟨rfl, rfl⟩
  go_wp2
  go_ret
  exact ⟨rfl, rfl⟩
set_option maxHeartbeats 800000 in
theorem reserved_any (r : Int) (hr : -2147483648 ≤ r ∧ r < 2147483648) (w : World) : Calls Tryz.prog 111 #[.int .i32 r] w fun e w' => e = .returned (.bool (resB r)) ∧ w = w' := by
  obtain ⟨r1, r2⟩ := hr
  by_cases h1 : r < 0
  · have HZ := Lib.hid (resB_out (.inl h1))
    have hb : (r == 127) = false := by simp; omega
    go_enter Tryz.func111, Tryz.ntmps111
    go_wp2
    go_ret
    exact ⟨ret_bool HZ.out.symm, rfl⟩
  by_cases h2 : r < 32
  · have HZ : Hid (resB r = true) := Lib.hid (by unfold resB; simp; omega)
    go_enter Tryz.func111, Tryz.ntmps111
    go_wp2
    go_ret
    exact ⟨ret_bool HZ.out.symm, rfl⟩
  by_cases h3 : r = 127
  · subst h3
    have HZ : Hid (resB 127 = true) := Lib.hid (by decide)
    go_enter Tryz.func111, Tryz.ntmps111
    go_wp2
    go_ret
    exact ⟨ret_bool HZ.out.symm, rfl⟩
  have hb : (r == 127) = false := by simp [h3]
  by_cases h4 : r < 127
  · have HX := Lib.hid (Tryz.strings_IndexByte resS r)
    have HR : Hid (decide (0 ≤ Lib.indexByte resS.data.toList r.toNat.toUInt8) = resB r) := Lib.hid (by
      have := res_byte (r := r) (by omega) (by omega)
      unfold resB
      have e1 : decide (r < 32) = false := by simp; omega
      have e2 : decide (r = 127) = false := by simp; omega
      rw [e1, e2, Bool.and_false, Bool.false_or, Bool.false_or]
      cases hc : reservedL.contains r with
      | true => exact decide_eq_true (this.2 hc)
      | false => exact decide_eq_false fun q => by rw [this.1 q] at hc; cases hc)
    generalize Lib.indexByte resS.data.toList r.toNat.toUInt8 = x at HX HR
    unfold resS at HX
    go_enter Tryz.func111, Tryz.ntmps111
    go_wp2_with fail
    refine (HX.out _).mono ?_
    rintro e w1 ⟨rfl, rfl⟩
    go_wp2
    go_ret
    exact ⟨by rw [← HR.out]; rfl, rfl⟩
  · have HZ : Hid (resB r = false) := Lib.hid (by unfold resB reservedL; simp; omega)
    go_enter Tryz.func111, Tryz.ntmps111
    go_wp2
    go_ret
    exact ⟨ret_bool HZ.out.symm, rfl⟩
def partV (p : Part) (n : Int) : Value := .agg #[.int .i32 p.1, .int .i64 n, .string p.2.1, .bool p.2.2]
set_option maxHeartbeats 800000 in
theorem hidden_any (p : Part) (n : Int) (hr : -2147483648 ≤ p.1 ∧ p.1 < 2147483648) (w : World) : Calls Tryz.prog 53 #[partV p n] w fun e w' => e = .returned (.bool (hidB p)) ∧ Fresh w w' := by
  obtain ⟨r, b, l⟩ := p
  simp only at hr
  have HR := Lib.hid (reserved_any r hr)
  obtain ⟨r1, r2⟩ := hr
  unfold partV
  by_cases h1 : r < 0
  · have HZ : Hid (true = hidB (r, b, l)) := Lib.hid (by unfold hidB; simp [h1])
    go_enter Tryz.func53, Tryz.ntmps53
    go_wp2
    go_ret
    exact ⟨ret_bool HZ.out, (Fresh.refl _).alloc _⟩
  have h1' : ¬ r < 0 := h1
  cases hres : resB r with
  | true =>
    have HZ : Hid (true = hidB (r, b, l)) := Lib.hid (by unfold hidB; simp [hres])
    rw [hres] at HR
    clear hres
    go_enter Tryz.func53, Tryz.ntmps53
    go_wp2_with fail
    refine (HR.out _).mono ?_
    rintro e w1 ⟨rfl, rfl⟩
    go_wp2
    go_ret
    exact ⟨ret_bool HZ.out, (Fresh.refl _).alloc _⟩
  | false =>
    cases l with
    | false =>
      have HZ : Hid (false = hidB (r, b, false)) := Lib.hid (by unfold hidB; simp [hres]; omega)
      rw [hres] at HR
      clear hres
      go_enter Tryz.func53, Tryz.ntmps53
      go_wp2_with fail
      refine (HR.out _).mono ?_
      rintro e w1 ⟨rfl, rfl⟩
      go_wp2
      go_ret
      exact ⟨ret_bool HZ.out, (Fresh.refl _).alloc _⟩
    | true =>
      have HZ : Hid ((decide (r = 46) || decide (r = 32)) = hidB (r, b, true)) := Lib.hid (by unfold hidB; simp [hres]; omega)
      rw [hres] at HR
      clear hres
      by_cases h46 : r = 46
      · subst h46
        go_enter Tryz.func53, Tryz.ntmps53
        go_wp2_with fail
        refine (HR.out _).mono ?_
        rintro e w1 ⟨rfl, rfl⟩
        go_wp2
        go_ret
        exact ⟨by rw [← HZ.out]; rfl, (Fresh.refl _).alloc _⟩
      · have hb : (r == 46) = false := by simp [h46]
        have hd : decide (r = 46) = false := decide_eq_false h46
        rw [hd, Bool.false_or] at HZ
        by_cases h32 : r = 32
        · subst h32
          go_enter Tryz.func53, Tryz.ntmps53
          go_wp2_with fail
          refine (HR.out _).mono ?_
          rintro e w1 ⟨rfl, rfl⟩
          go_wp2
          go_ret
          exact ⟨by rw [← HZ.out]; rfl, (Fresh.refl _).alloc _⟩
        · have hb2 : (r == 32) = false := by simp [h32]
          have hd2 : decide (r = 32) = false := decide_eq_false h32
          rw [hd2] at HZ
          clear h46 h32 hd hd2
          go_enter Tryz.func53, Tryz.ntmps53
          go_wp2_with fail
          refine (HR.out _).mono ?_
          rintro e w1 ⟨rfl, rfl⟩
          go_wp2
          go_ret
          exact ⟨ret_bool HZ.out, (Fresh.refl _).alloc _⟩
set_option maxHeartbeats 800000 in
theorem strange_any (p : Part) (n : Int) (hr : -2147483648 ≤ p.1 ∧ p.1 < 2147483648) (w : World) : Calls Tryz.prog 56 #[partV p n] w fun e w' => e = .returned (.bool (strB p)) ∧ Fresh w w' := by
  have HR := Lib.hid (fun w => hidden_any p n hr w)
  obtain ⟨r, b, l⟩ := p
  unfold partV at HR ⊢
  cases hres : hidB (r, b, l) with
  | true =>
    have HZ : Hid (true = strB (r, b, l)) := Lib.hid (by unfold strB; simp [hres])
    rw [hres] at HR
    clear hres
    go_enter Tryz.func56, Tryz.ntmps56
    go_wp2_with fail
    refine (HR.out _).mono ?_
    rintro e w1 ⟨rfl, hf⟩
    go_wp2
    go_ret
    exact ⟨ret_bool HZ.out, ((Fresh.refl _).alloc _).trans hf⟩
  | false =>
    have HZ : Hid (decide (128 ≤ r) = strB (r, b, l)) := Lib.hid (by unfold strB; simp [hres])
    rw [hres] at HR
    clear hres
    go_enter Tryz.func56, Tryz.ntmps56
    go_wp2_with fail
    refine (HR.out _).mono ?_
    rintro e w1 ⟨rfl, hf⟩
    have hcell : w1.cell? ⟨w.heap.size, 0, none⟩ = some (.int .i32 r) := by
      have := Below.cell hf (p := ⟨w.heap.size, 0, none⟩) (by simp)
      rw [this]; simp
    go_wp2
    go_ret
    exact ⟨ret_bool HZ.out, ((Fresh.refl _).alloc _).trans hf⟩
open Go.RowKit
def OwnS (w : World) (B : Nat) (v : Value) (T : ByteArray) : Prop := w.ownsRow B 5 1 v T.size (Lib.strCells T)
theorem OwnS.nil (w : World) (B : Nat) : OwnS w B (.slice none 0 0) ByteArray.empty := World.ownsRow_nil _ _ _ _
theorem OwnS.keep {w w' : World} {B : Nat} {v : Value} {xs : ByteArray} (h : OwnS w B v xs) (hf : Fresh w w') : OwnS w' B v xs := by
  refine World.ownsRow.kept (row := none) h ⟨hf.os, hf.tape, hf.output, hf.size, fun k hk _ => hf.block k hk⟩ ?_
  cases hv : v.ownBlock with
  | none => exact .inl rfl
  | some k => exact .inr (by simp)
theorem hex_at_dec : ((List.range 16).all fun n => decide ((((ByteArray.mk #[48, 49, 50, 51, 52, 53, 54, 55, 56, 57, 97, 98, 99, 100, 101, 102]).data.toList.getD n 0).toNat : Int) = hexI (n : Int))) = true := by decide +kernel
theorem hex_at {d : Int} (h : 0 ≤ d ∧ d < 16) : (((ByteArray.mk #[48, 49, 50, 51, 52, 53, 54, 55, 56, 57, 97, 98, 99, 100, 101, 102])[d.toNat]'(by show d.toNat < 16; omega)).toNat : Int) = hexI d := by
  have := List.all_eq_true.1 hex_at_dec d.toNat (List.mem_range.2 (by omega))
  simp only [decide_eq_true_eq] at this
  rw [Int.toNat_of_nonneg h.1] at this
  rw [← this, B_at _ _ (by show d.toNat < 16; omega)]
  rfl
def escB (b : ByteArray) (k : Nat) : ByteArray := strOfNums (((bl b).take k).flatMap escI)
theorem escB_size (b : ByteArray) (k : Nat) (h : k ≤ b.size) : (escB b k).size = 3 * k := by
  have hel : ∀ l : List Int, (l.flatMap escI).length = 3 * l.length := by
    intro l
    induction l with
    | nil => rfl
    | cons x l ih => rw [List.flatMap_cons, List.length_append, ih]; simp [escI]; omega
  unfold escB
  rw [strOfNums_size, hel, List.length_take]
  have : (bl b).length = b.size := by simp [bl]
  omega
theorem escB_all (b : ByteArray) : escB b b.size = joinS (esc b) := by
  have hl : (bl b).length = b.size := by simp [bl]
  unfold escB esc
  rw [List.take_of_length_le (by omega)]
  have hb : ∀ c ∈ bl b, 0 ≤ c ∧ c < 256 := fun c hc => by
    simp only [bl, List.mem_map] at hc
    obtain ⟨x, _, rfl⟩ := hc
    have := x.toNat_lt
    omega
  generalize bl b = l at hb
  induction l with
  | nil => rfl
  | cons c l ih =>
    rw [List.flatMap_cons, strOfNums_append, joinS_append, ih fun x hx => hb x (by simp [hx])]
    congr 1
    have hc := hb c (by simp)
    have h1 := hex_facts (d := c / 16) (by omega)
    have h2 := hex_facts (d := c % 16) (by omega)
    have e : ∀ r : Int, 0 ≤ r → r < 128 → encS r = strOfNums [r] := fun r h0 h1 => by
      unfold encS
      rw [if_pos (isC_of (by omega))]
      have : encI r = [r] := by unfold encI; rw [if_pos h1]
      rw [this]
    have e3 : escI c = [37] ++ ([hexI (c / 16)] ++ [hexI (c % 16)]) := rfl
    rw [e3, strOfNums_append, strOfNums_append, joinS_append, joinS_append, joinS_one, joinS_one, joinS_one, e 37 (by omega) (by omega), e _ h1.2.2.2.1 h1.2.2.1, e _ h2.2.2.2.1 h2.2.2.1]
theorem strCells_nums {l : List Int} (h : ∀ x ∈ l, 0 ≤ x ∧ x < 256) : Lib.strCells (strOfNums l) = l.map (Value.int .u8) := by
  unfold Lib.strCells strOfNums
  simp only [List.map_map]
  apply List.map_congr_left
  intro x hx
  have := h x hx
  simp only [Function.comp]
  congr 1
  rw [UInt8.toNat_ofNat']
  omega
theorem esc_push {w' : World} {B : Nat} {v' : Value} {b : ByteArray} {k : Nat} {c : Int} (h : w'.ownsRow B 5 1 v' (3 * k + 3) (Lib.strCells (escB b k) ++ [.int .u8 37, .int .u8 (hexI (c / 16)), .int .u8 (hexI (c % 16))])) (hc : c = Go.Proofs.YtpmlggjhfiljmaaGreatDoor.B b k) (hk : k < b.size) (hr : 0 ≤ c ∧ c < 256) :
    OwnS w' B v' (escB b (k + 1)) := by
  have hl : (bl b).length = b.size := by simp [bl]
  have hbk : (bl b)[k]'(by omega) = c := by
    rw [hc]
    simp [bl, Go.Proofs.YtpmlggjhfiljmaaGreatDoor.B, List.getD_eq_getElem?_getD, hk]
  have e1 : escB b (k + 1) = escB b k ++ strOfNums (escI c) := by
    unfold escB
    rw [List.take_succ_eq_append_getElem (by omega), List.flatMap_append, strOfNums_append, hbk]
    simp
  unfold OwnS
  rw [e1, strCells_append]
  have h1 := hex_facts (d := c / 16) (by omega)
  have h2 := hex_facts (d := c % 16) (by omega)
  have e2 : Lib.strCells (strOfNums (escI c)) = [.int .u8 37, .int .u8 (hexI (c / 16)), .int .u8 (hexI (c % 16))] := by
    rw [strCells_nums fun x hx => by simp [escI] at hx; omega]
    rfl
  have e3 : (escB b k ++ strOfNums (escI c)).size = 3 * k + 3 := by rw [ByteArray.size_append, escB_size b k (by omega), strOfNums_size]; rfl
  rw [e2, e3]
  exact h
def EscRel (b : ByteArray) (w : World) (out i : Value) (wr : World) : Prop := ∃ k : Nat, i = .int .i64 (k : Nat) ∧ k ≤ b.size ∧ OwnS wr w.heap.size out (escB b k) ∧ Fresh w wr
set_option maxHeartbeats 1600000 in
set_option maxRecDepth 100000 in
theorem escaped_any (b : ByteArray) (hb : b.size ≤ 100000) (w : World) : Calls Tryz.prog 161 #[.string b] w fun e w' => e = .returned (.string (joinS (esc b))) ∧ Fresh w w' := by
  obtain ⟨i0, hi0, hz0, hz1, hz2⟩ := info_parts info8
  have hcv := fun W : World => Lib.run_convert_string_bytes (P := Tryz.prog) W 9 131 5 b Tryz.underlying9 Tryz.underlying131 Tryz.underlying5
  have hcell := fun (W : World) (j : Nat) (hj : j < b.size) => Lib.bytesWorld_cell W 5 b j hj
  have hfw : ∀ W : World, Fresh W (Lib.bytesWorld W 5 b) := fun W => fresh_bytes W _ _
  have HCELL := Lib.hid hcell
  have HFW := Lib.hid hfw
  clear hcell hfw
  obtain ⟨n, hn⟩ : ∃ n, b.size = n := ⟨_, rfl⟩
  have HN := Lib.hid hn
  rw [hn] at hb hcv
  clear hn
  have hlt : w.heap.size < (Lib.bytesWorld w 5 b).heap.size := by rw [Lib.bytesWorld_size]; omega
  have HLT := Lib.hid hlt
  clear hlt
  go_enter Tryz.func161, Tryz.ntmps161
  go_wp2
  go_loopw [3, 9] (fun out i wr => EscRel b (Lib.bytesWorld w 5 b) out i wr) (fun _ i _ => n - (intOf i).toNat)
  case atStart => exact ⟨0, rfl, Nat.zero_le _, OwnS.nil _ _, Fresh.refl _⟩
  case round =>
    obtain ⟨k, rfl, hk, hown, hf⟩ := hrel
    have hkn : k ≤ n := by have := HN.out; omega
    clear hk
    by_cases hlt : k < n
    · have c1 : wr.cell? ⟨w.heap.size, k, none⟩ = some (.int .u8 (B b k)) := (Below.cell hf (p := ⟨w.heap.size, k, none⟩) HLT.out).trans (HCELL.out w k (by have := HN.out; omega))
      have hbr := B_range b k
      generalize hc : B b k = c at c1 hbr
      have HC := Lib.hid hc
      obtain ⟨hc0, hc1⟩ := hbr
      have i1 : (0 : Int) ≤ (k : Int) := by omega
      have i2 : (k : Int) < (n : Int) := by omega
      clear hc
      go_wp2
      have hq1 : 0 ≤ c / 16 ∧ c / 16 < 16 := by omega
      have hq2 : 0 ≤ c % 16 ∧ c % 16 < 16 := by omega
      obtain ⟨H, hH⟩ : ∃ H, (ByteArray.mk #[48, 49, 50, 51, 52, 53, 54, 55, 56, 57, 97, 98, 99, 100, 101, 102]) = H := ⟨_, rfl⟩
      have hHs : H.size = 16 := by rw [← hH]; rfl
      have hand : bits .and .u8 c 15 = c % 16 := u8_and15 c hc0 hc1
      have hx1 : ((H[(c / 16).toNat]'(by rw [hHs]; omega)).toNat : Int) = hexI (c / 16) := by
        have := hex_at (d := c / 16) hq1
        subst hH; exact this
      have hx2 : ((H[(c % 16).toNat]'(by rw [hHs]; omega)).toNat : Int) = hexI (c % 16) := by
        have := hex_at (d := c % 16) hq2
        subst hH; exact this
      rw [hH]
      clear hH
      have hsz : (escB b k).size = 3 * k := escB_size b k (by have := HN.out; omega)
      have hown3 := hown
      unfold OwnS at hown3
      rw [hsz] at hown3
      go_region_law (refine step_append_new rfl (.tmp 13) (.tmp 20) 131 rfl wr (Lib.bytesWorld w 5 b).heap.size 5 i0 (.int .u8 0) 1 1 Tryz.underlying131 hi0 hz0 hz1 hz2 rfl (by decide) _ _ _ hown3 3 [.int .u8 37, .int .u8 (hexI (c / 16)), .int .u8 (hexI (c % 16))] rfl (by intro u hu; simp at hu; rcases hu with rfl | rfl | rfl <;> rfl) (by unfold maxLen; omega) (by omega) hf.size (by simp [Act.eval, Act.put]) (by simp [Act.eval, Act.put]) (by repeat (first | exact Fresh.refl _ | refine Fresh.drew ?_)) ?_; intro v' w' hown' hgrow hblk)
      all_goals
        have hn' : OwnS w' (Lib.bytesWorld w 5 b).heap.size v' (escB b (k + 1)) := esc_push hown' HC.out.symm (by have := HN.out; omega) ⟨hc0, hc1⟩
        have hf' : Fresh (Lib.bytesWorld w 5 b) w' := Below.grown (hf.trans (b := wr) (by repeat (first | exact (Fresh.refl _).alloc _ | refine Fresh.drew ?_))) hgrow (by have := hf.size; simp; omega) (fun g hg => (hown.lt g hg).1)
        clear hown' hgrow hblk hown hown3 hx1 hx2 hand
        go_wp2
        exact ⟨⟨k + 1, by rw [Int.natCast_add]; rfl, by have := HN.out; omega, hn', hf'⟩, by simp [intOf]; omega⟩
    · have hkE : k = n := by omega
      have hE : escB b k = joinS (esc b) := by rw [hkE, ← HN.out]; exact escB_all b
      rw [hE] at hown
      unfold OwnS at hown
      have hcv2 := conv_own hown
      have HF := Lib.hid ((HFW.out w).trans hf)
      have hlt9 : ¬ (k : Int) < (n : Int) := by omega
      generalize hJ : joinS (esc b) = J at hcv2
      have HJ := Lib.hid hJ
      clear hJ
      clear hown hE hf hcv
      go_wp2
      go_ret
      exact ⟨by rw [HJ.out]; rfl, HF.out⟩
open Go.RowKit
abbrev PN := Part × Int
def ptc (x : PN) : List Value := [.int .i32 x.1.1, .int .i64 x.2, .string x.1.2.1, .bool x.1.2.2]
def ptcs (xs : List PN) : List Value := xs.flatMap ptc
theorem ptcs_get : ∀ (xs : List PN) (k : Nat) (hk : k < xs.length) (j : Nat), j < 4 → (ptcs xs)[k * 4 + j]? = (ptc xs[k])[j]?
  | [], k, hk, _, _ => by simp at hk
  | x :: l, 0, _, j, hj => by
    unfold ptcs
    rw [List.flatMap_cons, List.getElem?_append_left (by simp [ptc]; omega)]
    simp
  | x :: l, k + 1, hk, j, hj => by
    have ih := ptcs_get l k (by simpa using hk) j hj
    unfold ptcs at *
    rw [List.flatMap_cons, List.getElem?_append_right (by simp [ptc]; omega)]
    have : (k + 1) * 4 + j - (ptc x).length = k * 4 + j := by simp [ptc]; omega
    rw [this, ih]
    simp
def OwnT (w : World) (B : Nat) (v : Value) (xs : List PN) : Prop := w.ownsRow B 121 4 v xs.length (ptcs xs)
theorem OwnT.nil (w : World) (B : Nat) : OwnT w B (.slice none 0 0) [] := World.ownsRow_nil _ _ _ _
theorem OwnT.keep {w w' : World} {B : Nat} {v : Value} {xs : List PN} (h : OwnT w B v xs) (hf : Fresh w w') : OwnT w' B v xs := by
  refine World.ownsRow.kept (row := none) h ⟨hf.os, hf.tape, hf.output, hf.size, fun k hk _ => hf.block k hk⟩ ?_
  cases hv : v.ownBlock with
  | none => exact .inl rfl
  | some k => exact .inr (by simp)
theorem OwnT.push {w' : World} {B : Nat} {v' : Value} {acc : List PN} {x : PN} (h : w'.ownsRow B 121 4 v' (acc.length + 1) (ptcs acc ++ ptc x)) : OwnT w' B v' (acc ++ [x]) := by
  unfold OwnT
  have : ptcs (acc ++ [x]) = ptcs acc ++ ptc x := by unfold ptcs; rw [List.flatMap_append]; simp
  rw [this]
  simpa using h
theorem OwnT.base {w : World} {B B' : Nat} {v : Value} {xs : List PN} (h : OwnT w B v xs) (hb : B' ≤ B) : OwnT w B' v xs := own_base h hb
theorem infoT : (Tryz.prog.info? 121).map (fun i => (i.zero, i.size, i.bytes)) = some (some (.agg #[.int .i32 0, .int .i64 0, .string ByteArray.empty, .bool false]), 4, 40) := by kernel_rfl
theorem info_partsT {i : Option TypeInfo} {z : Value} {s b : Nat} (h : i.map (fun i => (i.zero, i.size, i.bytes)) = some (some z, s, b)) : ∃ i0, i = some i0 ∧ i0.zero = some z ∧ i0.size = s ∧ i0.bytes = b := by
  cases i with
  | none => cases h
  | some i0 => simp at h; exact ⟨i0, rfl, h.1, h.2.1, h.2.2⟩
def prn (s : ByteArray) : Nat → List (Int × Int) → List PN
  | _, [] => []
  | p, x :: l => ((x.1, s.extract p (p + x.2.toNat), decide (p + x.2.toNat = s.size)), x.2) :: prn s (p + x.2.toNat) l
theorem prn_fst (s : ByteArray) : ∀ (xs : List (Int × Int)) (p : Nat), (prn s p xs).map (·.1) = prt s p xs
  | [], _ => rfl
  | x :: l, p => by simp [prn, prt, prn_fst s l]
theorem prn_len (s : ByteArray) : ∀ (xs : List (Int × Int)) (p : Nat), (prn s p xs).length = xs.length
  | [], _ => rfl
  | x :: l, p => by simp [prn, prn_len s l]
theorem prn_snoc {enc : Int} {s : ByteArray} {x : Int × Int} : ∀ {l1 : List (Int × Int)} {q p : Nat}, Chain enc s q l1 p →
    prn s q (l1 ++ [x]) = prn s q l1 ++ [((x.1, s.extract p (p + x.2.toNat), decide (p + x.2.toNat = s.size)), x.2)]
  | [], q, p, h => by
    have h : q = p := h
    subst h; rfl
  | y :: l, q, p, h => by
    have := prn_snoc (x := x) h.2.2
    simp [prn, this]
def PartsPost (enc : Int) (s : ByteArray) (w : World) (e : Ending) (w' : World) : Prop := ∃ v xs, e = .returned v ∧ Chain enc s 0 xs s.size ∧ xs.length ≤ s.size ∧ OwnT w' w.heap.size v (prn s 0 xs) ∧ Fresh w w'
def PtRel (enc : Int) (s : ByteArray) (xs : List (Int × Int)) (w : World) (out at_ i : Value) (wr : World) : Prop :=
  ∃ (l1 l2 : List (Int × Int)) (p : Nat), xs = l1 ++ l2 ∧ i = .int .i64 (l1.length : Nat) ∧ at_ = .int .i64 (p : Nat) ∧ p ≤ s.size ∧ Chain enc s 0 l1 p ∧ Chain enc s p l2 s.size ∧ OwnT wr w.heap.size out (prn s 0 l1) ∧ Fresh w wr
set_option maxHeartbeats 1600000 in
set_option maxRecDepth 100000 in
theorem parts_any (enc : Int) (s : ByteArray) (h0 : 0 ≤ enc) (h8 : enc ≤ 8) (hs : s.size ≤ 100000) (w : World) : Calls Tryz.prog 50 #[.int .i64 enc, .string s] w (PartsPost enc s w) := by
  obtain ⟨i0, hi0, hz0, hz1, hz2⟩ := info_partsT infoT
  go_enter Tryz.func50, Tryz.ntmps50
  go_wp2_with fail
  refine (pieces_any enc s h0 h8 (by omega) w).mono ?_
  rintro e w1 ⟨v, xs, rfl, hown, hch, hxl, hf1⟩
  have HCH := Lib.hid hch
  rcases hown.sl with ⟨hx0, ao, cp, rfl⟩ | ⟨hxp, g, cp, rfl, hg, hcell⟩
  · subst hx0
    have hs0 : s.size = 0 := by have : 0 = s.size := hch; omega
    clear hch
    go_wp2
    refine wp_loop_rounds 1 ?_
    rw [rounds_succ]
    go_wp2
    go_ret
    exact ⟨_, [], rfl, HCH.out, Nat.zero_le _, OwnT.nil _ _, hf1⟩
  have HCELL := Lib.hid hcell
  obtain ⟨n, hn⟩ : ∃ n, xs.length = n := ⟨_, rfl⟩
  have HN := Lib.hid hn
  have HXL := Lib.hid hxl
  rw [hn] at hxp ⊢
  have hnn : n ≤ 100000 := by omega
  clear hcell hn hch hown hxl
  go_wp2
  go_loopw [5, 6, 13] (fun out at_ i wr => PtRel enc s xs w1 out at_ i wr) (fun _ _ i _ => n - (intOf i).toNat)
  case atStart => exact ⟨[], xs, 0, rfl, rfl, rfl, Nat.zero_le _, rfl, HCH.out, OwnT.nil _ _, Fresh.refl _⟩
  case round =>
    obtain ⟨l1, l2, p, hx12, rfl, rfl, hp, hc1, hc2, hown, hf⟩ := hrel
    have HX := Lib.hid hx12
    have HC1 := Lib.hid hc1
    have HC2 := Lib.hid hc2
    have hln : l1.length + l2.length = n := by rw [← HN.out, hx12]; simp
    clear hx12 hc1 hc2
    cases l2 with
    | nil =>
      have hk0 : l1.length = n := by simpa using hln
      have hxe : xs = l1 := by have := HX.out; simpa using this
      have hps : p = s.size := HC2.out
      have HP : Hid (OwnT wr w1.heap.size _ (prn s 0 xs)) := Lib.hid (by rw [hxe]; exact hown)
      have hk1 : ¬ (l1.length : Int) < (n : Int) := by omega
      clear hown hln hps hxe
      go_wp2
      go_ret
      exact ⟨_, xs, rfl, HCH.out, HXL.out, HP.out.base hf1.size, hf1.trans hf⟩
    | cons x l2 =>
      obtain ⟨hlt, hx, _⟩ := HC2.out
      have hst := next_step h0 h8 hlt
      rw [hx] at hst
      clear hx
      have hk : l1.length < n := by simp at hln; omega
      have hcc := HCELL.out l1.length (by rw [HN.out]; exact hk)
      have hxk : xs[l1.length]'(by rw [HN.out]; exact hk) = x := by
        have := HX.out
        subst this
        simp
      rw [hxk] at hcc
      obtain ⟨r, m⟩ := x
      obtain ⟨cA, cB⟩ := hcc
      have dA := (Below.cell hf (p := ⟨g, l1.length * 2, none⟩) hg).trans cA
      have dB := (Below.cell hf (p := ⟨g, l1.length * 2 + 1, none⟩) hg).trans cB
      simp only at dA dB hst
      obtain ⟨k, hkk⟩ : ∃ k, l1.length = k := ⟨_, rfl⟩
      rw [hkk] at dA dB hk ⊢
      have HK := Lib.hid hkk
      obtain ⟨q, hq⟩ : ∃ q : Nat, (q : Int) = (p : Int) + m := ⟨(p + m).toNat, by omega⟩
      have hq2 : p + m.toNat = q := by omega
      have HQ := Lib.hid hq2
      have hqs : q ≤ s.size := by omega
      obtain ⟨m1, m4, _⟩ := hst
      have e1 : IntKind.i64.wrap ((p : Int) + m) = (q : Int) := by rw [IntKind.wrap_i64]; omega
      have e2 : IntKind.i64.wrap ((q : Int) - m) = (p : Int) := by rw [IntKind.wrap_i64]; omega
      clear cA cB hxk hkk hln hq2
      have hpqm : p ≤ q ∧ (q : Int) - m = (p : Int) := by omega
      have hpq1 : p ≤ q := hpqm.1
      have hkp : k ≤ 100000 := by omega
      have hown3 := hown
      unfold OwnT at hown3
      rw [prn_len, HK.out] at hown3
      have HD : Hid (∀ o v' w', o = (.cells #[.int .i32 r, .int .i64 m] 119 : Obj) → w'.ownsRow w1.heap.size 121 4 v' (k + 1) (ptcs (prn s 0 l1) ++ [.int .i32 r, .int .i64 m, .string (s.extract p q), .bool (decide (q = s.size))]) → Fresh w1 w' → PtRel enc s xs w1 v' (.int .i64 (q : Nat)) (.int .i64 ((k + 1 : Nat) : Int)) w') := Lib.hid (fun o v' w' _ ho hf' => by
        have hsn := prn_snoc (x := (r, m)) HC1.out
        simp only [HQ.out] at hsn
        refine ⟨l1 ++ [(r, m)], l2, q, by rw [HX.out]; simp, by rw [List.length_append, HK.out]; rfl, rfl, hqs, ?_, ?_, ?_, hf'⟩
        · have := HC1.out.push hlt
          have e := HC2.out.2.1
          rw [e] at this
          simpa [HQ.out] using this
        · have := HC2.out.2.2
          simpa [HQ.out] using this
        · rw [hsn]
          refine OwnT.push ?_
          rw [prn_len, HK.out]
          exact ho)
      clear hq hpqm
      go_wp2
      clear e1
      by_cases hqe : q = s.size
      · skip
        have hb : ((q : Int) == (s.size : Int)) = true := by simp [hqe]
        have hd : decide (q = s.size) = true := decide_eq_true hqe
        rw [hd] at HD
        clear hd hqe
        go_region_law (refine step_append_new rfl (.tmp 21) (.tmp 35) 111 rfl (wr.alloc (.cells #[.int .i32 r, .int .i64 m] 119)) w1.heap.size 121 i0 _ 4 40 Tryz.underlying111 hi0 hz0 hz1 hz2 rfl (by decide) _ _ _ (hown3.alloc _) 1 [.int .i32 r, .int .i64 m, .string (s.extract p q), .bool true] rfl (by intro u hu; simp at hu; rcases hu with rfl | rfl | rfl | rfl <;> rfl) (by unfold maxLen; omega) (by omega) (by have := hf.size; simp; omega) (by simp [Act.eval, Act.put]) (by simp [Act.eval, Act.put]) (by repeat (first | exact Fresh.refl _ | refine Fresh.drew ?_)) ?_; intro v' w' hown' hgrow hblk)
        all_goals
          have hf' : Fresh w1 w' := Below.grown (hf.trans (b := wr) (by repeat (first | exact ((Fresh.refl _).alloc _).alloc _ | refine Fresh.drew ?_))) hgrow (by have := hf.size; simp; omega) (fun g hg => (hown.lt g hg).1)
          have HP := Lib.hid (HD.out _ v' w' rfl hown' hf')
          clear hown' hgrow hblk hown hown3 hf'
          go_wp2
          exact ⟨HP.out, by simp [intOf]; omega⟩
      · skip
        have hb : ((q : Int) == (s.size : Int)) = false := by simp only [beq_eq_false_iff_ne]; omega
        have hd : decide (q = s.size) = false := decide_eq_false hqe
        rw [hd] at HD
        clear hd hqe
        go_region_law (refine step_append_new rfl (.tmp 21) (.tmp 35) 111 rfl (wr.alloc (.cells #[.int .i32 r, .int .i64 m] 119)) w1.heap.size 121 i0 _ 4 40 Tryz.underlying111 hi0 hz0 hz1 hz2 rfl (by decide) _ _ _ (hown3.alloc _) 1 [.int .i32 r, .int .i64 m, .string (s.extract p q), .bool false] rfl (by intro u hu; simp at hu; rcases hu with rfl | rfl | rfl | rfl <;> rfl) (by unfold maxLen; omega) (by omega) (by have := hf.size; simp; omega) (by simp [Act.eval, Act.put]) (by simp [Act.eval, Act.put]) (by repeat (first | exact Fresh.refl _ | refine Fresh.drew ?_)) ?_; intro v' w' hown' hgrow hblk)
        all_goals
          have hf' : Fresh w1 w' := Below.grown (hf.trans (b := wr) (by repeat (first | exact ((Fresh.refl _).alloc _).alloc _ | refine Fresh.drew ?_))) hgrow (by have := hf.size; simp; omega) (fun g hg => (hown.lt g hg).1)
          have HP := Lib.hid (HD.out _ v' w' rfl hown' hf')
          clear hown' hgrow hblk hown hown3 hf'
          go_wp2
          exact ⟨HP.out, by simp [intOf]; omega⟩
open Go.RowKit
def WrAt (w : World) (gw : Nat) (out : ByteArray) (o : List Int) (jf : Value) : Prop := ∃ v, Blk w gw 115 #[.string out, v, jf] ∧ OwnR w (gw + 1) v o
def WrPost (gw : Nat) (w : World) (out : ByteArray) (o : List Int) (jf : Value) (e : Ending) (w' : World) : Prop := e = .returned (.tuple #[]) ∧ WrAt w' gw out o jf ∧ Mut (fun k => k = gw) w w'
def jfA : Value := .func (.func 51) #[] #[]
def jfT : Value := .func (.func 21) #[] #[]
theorem wr_keep {w w4 : World} {gw : Nat} {a b c : Value} (hg : gw < w.heap.size) (c0 : w.cell? ⟨gw, 0, none⟩ = some a) (c1 : w.cell? ⟨gw, 1, none⟩ = some b) (c2 : w.cell? ⟨gw, 2, none⟩ = some c) (f0 : w.frozen? ⟨gw, 0, none⟩ = false) (h : Fresh w.drew w4) :
    Fresh w w4 ∧ w4.cell? ⟨gw, 0, none⟩ = some a ∧ w4.cell? ⟨gw, 1, none⟩ = some b ∧ w4.cell? ⟨gw, 2, none⟩ = some c ∧ w4.frozen? ⟨gw, 0, none⟩ = false :=
  ⟨(Fresh.refl _).drew.trans h, (Below.cell h (p := ⟨gw, 0, none⟩) hg).trans c0, (Below.cell h (p := ⟨gw, 1, none⟩) hg).trans c1, (Below.cell h (p := ⟨gw, 2, none⟩) hg).trans c2, (Below.frozen h (p := ⟨gw, 0, none⟩) hg).trans f0⟩
theorem wr_keep2 {w w4 : World} {gw : Nat} {a b c : Value} (hg : gw < w.heap.size) (c0 : w.cell? ⟨gw, 0, none⟩ = some a) (c1 : w.cell? ⟨gw, 1, none⟩ = some b) (c2 : w.cell? ⟨gw, 2, none⟩ = some c) (f0 : w.frozen? ⟨gw, 0, none⟩ = false) (h : Fresh w w4) :
    Fresh w w4 ∧ w4.cell? ⟨gw, 0, none⟩ = some a ∧ w4.cell? ⟨gw, 1, none⟩ = some b ∧ w4.cell? ⟨gw, 2, none⟩ = some c ∧ w4.frozen? ⟨gw, 0, none⟩ = false :=
  ⟨h, (Below.cell h (p := ⟨gw, 0, none⟩) hg).trans c0, (Below.cell h (p := ⟨gw, 1, none⟩) hg).trans c1, (Below.cell h (p := ⟨gw, 2, none⟩) hg).trans c2, (Below.frozen h (p := ⟨gw, 0, none⟩) hg).trans f0⟩
theorem wr_done {gw : Nat} {w w4 : World} {out out' : ByteArray} {v jf : Value} (hb : Blk w gw 115 #[.string out, v, jf]) (h : Fresh w w4) :
    WrAt ((w4.setCell ⟨gw, 0, none⟩ (.string out')).setCell ⟨gw, 1, none⟩ (.slice none 0 0)) gw out' [] jf ∧ Mut (fun k => k = gw) w ((w4.setCell ⟨gw, 0, none⟩ (.string out')).setCell ⟨gw, 1, none⟩ (.slice none 0 0)) := by
  refine ⟨⟨_, ((hb.keep h).set (i := 0) (u := .string out')).set (i := 1) (u := .slice none 0 0), World.ownsRow_nil _ _ _ _⟩, ?_⟩
  exact ((h.mut (fun k => k = gw)).setCell (p := ⟨gw, 0, none⟩) (.inl rfl) _).setCell (p := ⟨gw, 1, none⟩) (.inl rfl) _
theorem joinS_sz2 {o : List Int} (h : o.length ≤ 100000) : (joinS o).size ≤ 400000 := by have := joinS_size o; omega
set_option maxHeartbeats 3200000 in
set_option maxRecDepth 100000 in
theorem flushA_any (gw : Nat) (out : ByteArray) (o : List Int) (w : World) (ho : o.length ≤ 100000) (hs : out.size ≤ 10000000) (h : WrAt w gw out o jfA) :
    Calls Tryz.prog 110 #[.pointer (some ⟨gw, 0, none⟩)] w (WrPost gw w (out ++ joinS o) [] jfA) := by
  obtain ⟨v, hblk, hown⟩ := h
  have hg := hblk.lt
  have c0 : w.cell? ⟨gw, 0, none⟩ = some (.string out) := by rw [hblk.cell]; rfl
  have c1 : w.cell? ⟨gw, 1, none⟩ = some v := by rw [hblk.cell]; rfl
  have c2 : w.cell? ⟨gw, 2, none⟩ = some jfA := by rw [hblk.cell]; rfl
  have f0 : w.frozen? ⟨gw, 0, none⟩ = false := hblk.frozen 0
  have f1 : w.frozen? ⟨gw, 1, none⟩ = false := hblk.frozen 1
  have HB := Lib.hid hblk
  have HJN := fun (W : World) (h : Sl W v o) => utfJoin_any v o W h (by omega)
  have hjs := joinS_sz2 ho
  generalize hJ : joinS o = J at HJN hjs ⊢
  clear hJ
  have hns : ¬ 9223372036854775807 < out.size + J.size := by omega
  have HO := Lib.hid hown
  have HJ := Lib.hid HJN
  unfold jfA at c2
  clear hblk hown HJN
  go_enter Tryz.func110, Tryz.ntmps110
  go_wp2_with fail
  go_region_law (first
      | (go_simp; go_at_call 51; refine (asIs_any _ _).mono ?_; rintro e w3 ⟨rfl, rfl⟩)
      | (go_simp; go_at_call 162; refine (HJ.out _ ((HO.out.keep (by repeat (first | exact Fresh.refl _ | refine Fresh.drew ?_))).sl)).mono ?_; rintro e w4 ⟨rfl, h4⟩; obtain ⟨h5, d0, d1, d2, e0⟩ := wr_keep hg c0 c1 c2 f0 h4))
  all_goals
    have e1 : (w4.setCell ⟨gw, 0, none⟩ (.string (out ++ J))).frozen? ⟨gw, 1, none⟩ = false := by rw [World.frozen?_setCell]; exact (Below.frozen h5 (p := ⟨gw, 1, none⟩) hg).trans f1
    go_wp2
    have hd := wr_done (out' := out ++ J) HB.out h5
    go_end0
    exact ⟨rfl, hd.1, hd.2⟩
set_option maxHeartbeats 3200000 in
set_option maxRecDepth 100000 in
theorem flushT_any (gw : Nat) (out : ByteArray) (o : List Int) (w : World) (ho : o.length ≤ 100000) (h32 : In32 o) (hs : out.size ≤ 10000000) (h : WrAt w gw out o jfT) :
    Calls Tryz.prog 110 #[.pointer (some ⟨gw, 0, none⟩)] w (WrPost gw w (out ++ joinS (tog o)) [] jfT) := by
  obtain ⟨v, hblk, hown⟩ := h
  have hg := hblk.lt
  have c0 : w.cell? ⟨gw, 0, none⟩ = some (.string out) := by rw [hblk.cell]; rfl
  have c1 : w.cell? ⟨gw, 1, none⟩ = some v := by rw [hblk.cell]; rfl
  have c2 : w.cell? ⟨gw, 2, none⟩ = some jfT := by rw [hblk.cell]; rfl
  have f0 : w.frozen? ⟨gw, 0, none⟩ = false := hblk.frozen 0
  have f1 : w.frozen? ⟨gw, 1, none⟩ = false := hblk.frozen 1
  have HB := Lib.hid hblk
  have htl := tog_len2 o
  have HT := Lib.hid (fun (W : World) (h : Sl W v o) => ctog_any v o W h ho h32)
  have HJN := fun (u : Value) (W : World) (h : Sl W u (tog o)) => utfJoin_any u (tog o) W h (by omega)
  have hjs := joinS_sz2 (o := tog o) (by omega)
  generalize hJ : joinS (tog o) = J at HJN hjs ⊢
  clear hJ
  have hns : ¬ 9223372036854775807 < out.size + J.size := by omega
  have HO := Lib.hid hown
  have HJ := Lib.hid HJN
  unfold jfT at c2
  clear hblk hown HJN
  go_enter Tryz.func110, Tryz.ntmps110
  go_wp2_with fail
  go_region_law (first
      | (go_simp; go_at_call 21; refine (HT.out _ ((HO.out.keep (by repeat (first | exact Fresh.refl _ | refine Fresh.drew ?_))).sl)).mono ?_; rintro e w3 ⟨u, rfl, hu, h3⟩; obtain ⟨h5, d0, d1, d2, e0⟩ := wr_keep hg c0 c1 c2 f0 h3)
      | (go_simp; go_at_call 162; refine (HJ.out _ _ hu.sl).mono ?_; rintro e w4 ⟨rfl, h4⟩; obtain ⟨h6, d3, d4, d5, e3⟩ := wr_keep2 (Nat.lt_of_lt_of_le hg h5.size) d0 d1 d2 e0 h4))
  all_goals
    have e1 : (w4.setCell ⟨gw, 0, none⟩ (.string (out ++ J))).frozen? ⟨gw, 1, none⟩ = false := by rw [World.frozen?_setCell]; exact (Below.frozen (h5.trans h6) (p := ⟨gw, 1, none⟩) hg).trans f1
    go_wp2
    have hd := wr_done (out' := out ++ J) HB.out (h5.trans h6)
    go_end0
    exact ⟨rfl, hd.1, hd.2⟩
end Go.Proofs.YtpmlggjhfiljmaaGreatDoor
