/- Contracts that the law rests on, part 19 of 50 (SrtO, EscA, EscR, EscB). Each states its own conditions. -/
import Derived.Deep.RegionLaw
import Derived.Laws.OwnMore
import Derived.Test.YtpmlggjhfiljmaaGreatDoorC01
import Derived.Test.YtpmlggjhfiljmaaGreatDoorC13
import Derived.Test.YtpmlggjhfiljmaaGreatDoorC17
import Derived.Test.YtpmlggjhfiljmaaGreatDoorC18
/- slices.Equal, compose.Stable; the walks of ComposeStable and ComposeSame and ComposeHangul. -/
namespace Go.Proofs.YtpmlggjhfiljmaaGreatDoor
open Go.RowKit
set_option linter.unusedVariables false
set_option linter.unnecessarySimpa false
set_option linter.unusedSimpArgs false
set_option maxHeartbeats 800000 in
theorem equal_any (u v : Value) (xs ys : List Int) (w : World) (hu : Sl w u xs) (hv : Sl w v ys) (hx : xs.length ≤ 1000000) (hy : ys.length ≤ 1000000) :
    Calls Tryz.prog 65 #[u, v] w (SamePost xs ys w) := by
  obtain ⟨a, ca, rfl, hu⟩ := hu
  obtain ⟨b, cb, rfl, hv⟩ := hv
  by_cases hl : xs.length = ys.length
  · have hne : ((xs.length : Int) != (xs.length : Int)) = false := by simp
    rw [← hl]
    have HL := Lib.hid hl
    clear hl hy
    rcases hu with rfl | ⟨b1, o1, rfl, hb1, hc1⟩
    · have hyn : ys = [] := List.eq_nil_of_length_eq_zero (by have := HL.out; simpa using this.symm)
      subst hyn
      go_enter Tryz.func65, Tryz.ntmps65
      go_wp2
      refine wp_loop_rounds 1 ?_
      rw [rounds_succ]
      go_wp2
      go_ret
      exact SamePost.mk rfl (Fresh.refl _)
    rcases hv with rfl | ⟨b2, o2, rfl, hb2, hc2⟩
    · have hyn : xs = [] := List.eq_nil_of_length_eq_zero (by have := HL.out; simpa using this)
      subst hyn
      go_enter Tryz.func65, Tryz.ntmps65
      go_wp2
      refine wp_loop_rounds 1 ?_
      rw [rounds_succ]
      go_wp2
      go_ret
      exact SamePost.mk rfl (Fresh.refl _)
    have H1 := Lib.hid hc1
    have H2 := Lib.hid hc2
    clear hc1 hc2
    generalize hn : xs.length = n at hx hne H1
    have HN := Lib.hid hn
    clear hn
    go_enter Tryz.func65, Tryz.ntmps65
    go_wp2
    go_loopw [13] (fun i wr => SameRel xs ys w i wr) (fun i _ => n - (intOf i).toNat)
    case atStart => exact ⟨0, rfl, Nat.zero_le _, fun j hj => absurd hj (Nat.not_lt_zero _), Fresh.refl _⟩
    case round =>
      obtain ⟨k, rfl, hk, he, hf⟩ := hrel
      have HE := Lib.hid he
      clear he
      have hk' : k ≤ n := by have := HN.out; omega
      clear hk
      by_cases hlt : k < n
      · have c1 : wr.cell? ⟨b1, o1 + k, none⟩ = some (.int .i32 (xs.getD k 0)) := (Below.cell hf (p := ⟨b1, o1 + k, none⟩) hb1).trans (H1.out k hlt)
        have c2 : wr.cell? ⟨b2, o2 + k, none⟩ = some (.int .i32 (ys.getD k 0)) := (Below.cell hf (p := ⟨b2, o2 + k, none⟩) hb2).trans (H2.out k (by have := HL.out; have := HN.out; omega))
        generalize hp : xs.getD k 0 = p at c1
        generalize hq : ys.getD k 0 = q at c2
        have HP := Lib.hid hp
        have HQ := Lib.hid hq
        clear hp hq
        have q8 : (0 : Int) ≤ (k : Int) := by omega
        have q9 : (k : Int) < (n : Int) := by omega
        go_wp2
        go_quiet (fail)
        by_cases hpq : p = q
        · have HPQ := Lib.hid hpq
          have hb : (p != q) = false := by simp [hpq]
          clear hpq
          go_wp2
          refine ⟨⟨k + 1, by rw [Int.natCast_add]; rfl, by have := HN.out; omega, fun j hj => ?_, hf.drewN _⟩, by simp [intOf]; omega⟩
          by_cases hjk : j = k
          · rw [hjk, HP.out, HQ.out, HPQ.out]
          · exact HE.out j (by omega)
        · have HPQ := Lib.hid hpq
          have hb : (p != q) = true := by simp [hpq]
          clear hpq
          go_wp2
          go_ret
          exact SamePost.mk (by symm; rw [decide_eq_false_iff_not]; intro e; apply HPQ.out; rw [← HP.out, ← HQ.out, e]) (hf.drewN _)
      · have hkn : k = n := by omega
        go_wp2
        go_ret
        exact SamePost.mk (by symm; rw [decide_eq_true_iff]; exact take_eq_of HL.out (fun j hj => HE.out j (by have := HN.out; omega))) hf
  · have hne : ((xs.length : Int) != (ys.length : Int)) = true := by simp; omega
    have HD := Lib.hid hl
    generalize hn1 : xs.length = n1 at hne HD
    generalize hn2 : ys.length = n2 at hne HD
    have HN1 := Lib.hid hn1
    have HN2 := Lib.hid hn2
    clear hn1 hn2 hl
    go_enter Tryz.func65, Tryz.ntmps65
    go_wp2
    go_ret
    exact SamePost.mk (by symm; rw [decide_eq_false_iff_not]; intro e; apply HD.out; rw [← HN1.out, ← HN2.out, e]) (Fresh.refl _)
set_option maxHeartbeats 800000 in
theorem cstable_any (u : Value) (l : List Int) (w : World) (hu : Sl w u l) (hl : l.length ≤ 10000) (h32 : In32 l) :
    Calls Tryz.prog 24 #[u] w (SamePost (apt l) l w) := by
  have hal := apt_len l
  go_enter Tryz.func24, Tryz.ntmps24
  go_wp2_with fail
  refine (capt_any _ l _ hu hl h32).mono ?_
  rintro e w1 ⟨v, rfl, ho, hf⟩
  go_wp2_with fail
  refine (equal_any _ _ (apt l) l _ ho.sl (hu.keep hf) (by omega) (by omega)).mono ?_
  rintro e w2 ⟨rfl, hf2⟩
  go_wp2
  go_ret
  exact ⟨rfl, hf.trans hf2⟩
end Go.Proofs.YtpmlggjhfiljmaaGreatDoor
/- Contracts of layer 4's small functions. -/
namespace Go.Proofs.YtpmlggjhfiljmaaGreatDoor
open Go.RowKit
set_option linter.unusedVariables false
set_option linter.unnecessarySimpa false
set_option linter.unusedSimpArgs false
def hexS : ByteArray := ⟨#[48, 49, 50, 51, 52, 53, 54, 55, 56, 57, 97, 98, 99, 100, 101, 102]⟩
def resS : ByteArray := ⟨#[34, 37, 42, 47, 58, 60, 62, 63, 92, 124]⟩
theorem res_dec : ((List.range 128).all fun n => decide ((0 ≤ Lib.indexByte resS.data.toList n.toUInt8) ↔ reservedL.contains (n : Int) = true)) = true := by decide +kernel
theorem res_byte {r : Int} (h0 : 0 ≤ r) (h1 : r < 128) : (0 ≤ Lib.indexByte resS.data.toList r.toNat.toUInt8) ↔ reservedL.contains r = true := by
  have := List.all_eq_true.1 res_dec r.toNat (List.mem_range.2 (by omega))
  simp only [decide_eq_true_eq] at this
  rwa [Int.toNat_of_nonneg h0] at this
theorem hex_dec : ((List.range 256).all fun n => decide (Lib.indexByte hexS.data.toList n.toUInt8 = digitI (n : Int))) = true := by decide +kernel
theorem hex_byte {c : Int} (h0 : 0 ≤ c) (h1 : c < 256) : Lib.indexByte hexS.data.toList c.toNat.toUInt8 = digitI c := by
  have := List.all_eq_true.1 hex_dec c.toNat (List.mem_range.2 (by omega))
  simp only [decide_eq_true_eq] at this
  rwa [Int.toNat_of_nonneg h0] at this
theorem resB_out {r : Int} (h : r < 0 ∨ 128 ≤ r) : resB r = false := by
  unfold resB reservedL
  simp
  omega
set_option maxHeartbeats 800000 in
theorem asIs_any (v : Value) (w : World) : Calls Tryz.prog 51 #[v] w fun e w' => e = .returned v ∧ w = w' := by
  go_enter Tryz.func51, Tryz.ntmps51
  go_wp2
  go_ret
  exact ⟨rfl, rfl⟩
set_option maxHeartbeats 800000 in
theorem digit_any (c : Int) (h0 : 0 ≤ c) (h1 : c < 256) (w : World) : Calls Tryz.prog 168 #[.int .u8 c] w fun e w' => e = .returned (.int .i64 (digitI c)) ∧ w = w' := by
  have HX := Lib.hid (Tryz.strings_IndexByte hexS c)
  rw [hex_byte h0 h1] at HX
  unfold hexS at HX
  go_enter Tryz.func168, Tryz.ntmps168
  go_wp2_with fail
  refine (HX.out _).mono ?_
  rintro e w1 ⟨rfl, rfl⟩
  go_wp2
  go_ret
  exact ⟨rfl, rfl⟩
set_option maxHeartbeats 800000 in
theorem reserved_any (r : Int) (hr : -2147483648 ≤ r ∧ r < 2147483648) (w : World) : Calls Tryz.prog 111 #[.int .i32 r] w fun e w' => e = .returned (.bool (resB r)) ∧ w = w' := by
  obtain ⟨r1, r2⟩ := hr
  by_cases h1 : r < 0
  · have HZ := Lib.hid (resB_out (.inl h1))
    have hb : (r == 127) = false := by simp; omega
    go_enter Tryz.func111, Tryz.ntmps111
    go_wp2
    go_ret
    exact ⟨ret_bool HZ.out.symm, rfl⟩
  by_cases h2 : r < 32
  · have HZ : Hid (resB r = true) := Lib.hid (by unfold resB; simp; omega)
    go_enter Tryz.func111, Tryz.ntmps111
    go_wp2
    go_ret
    exact ⟨ret_bool HZ.out.symm, rfl⟩
  by_cases h3 : r = 127
  · subst h3
    have HZ : Hid (resB 127 = true) := Lib.hid (by decide)
    go_enter Tryz.func111, Tryz.ntmps111
    go_wp2
    go_ret
    exact ⟨ret_bool HZ.out.symm, rfl⟩
  have hb : (r == 127) = false := by simp [h3]
  by_cases h4 : r < 127
  · have HX := Lib.hid (Tryz.strings_IndexByte resS r)
    have HR : Hid (decide (0 ≤ Lib.indexByte resS.data.toList r.toNat.toUInt8) = resB r) := Lib.hid (by
      have := res_byte (r := r) (by omega) (by omega)
      unfold resB
      have e1 : decide (r < 32) = false := by simp; omega
      have e2 : decide (r = 127) = false := by simp; omega
      rw [e1, e2, Bool.and_false, Bool.false_or, Bool.false_or]
      cases hc : reservedL.contains r with
      | true => exact decide_eq_true (this.2 hc)
      | false => exact decide_eq_false fun q => by rw [this.1 q] at hc; cases hc)
    generalize Lib.indexByte resS.data.toList r.toNat.toUInt8 = x at HX HR
    unfold resS at HX
    go_enter Tryz.func111, Tryz.ntmps111
    go_wp2_with fail
    refine (HX.out _).mono ?_
    rintro e w1 ⟨rfl, rfl⟩
    go_wp2
    go_ret
    exact ⟨by rw [← HR.out]; rfl, rfl⟩
  · have HZ : Hid (resB r = false) := Lib.hid (by unfold resB reservedL; simp; omega)
    go_enter Tryz.func111, Tryz.ntmps111
    go_wp2
    go_ret
    exact ⟨ret_bool HZ.out.symm, rfl⟩
/-- a part, as a value -/
def partV (p : Part) (n : Int) : Value := .agg #[.int .i32 p.1, .int .i64 n, .string p.2.1, .bool p.2.2]
set_option maxHeartbeats 800000 in
theorem hidden_any (p : Part) (n : Int) (hr : -2147483648 ≤ p.1 ∧ p.1 < 2147483648) (w : World) : Calls Tryz.prog 53 #[partV p n] w fun e w' => e = .returned (.bool (hidB p)) ∧ Fresh w w' := by
  obtain ⟨r, b, l⟩ := p
  simp only at hr
  have HR := Lib.hid (reserved_any r hr)
  obtain ⟨r1, r2⟩ := hr
  unfold partV
  by_cases h1 : r < 0
  · have HZ : Hid (true = hidB (r, b, l)) := Lib.hid (by unfold hidB; simp [h1])
    go_enter Tryz.func53, Tryz.ntmps53
    go_wp2
    go_ret
    exact ⟨ret_bool HZ.out, (Fresh.refl _).alloc _⟩
  have h1' : ¬ r < 0 := h1
  cases hres : resB r with
  | true =>
    have HZ : Hid (true = hidB (r, b, l)) := Lib.hid (by unfold hidB; simp [hres])
    rw [hres] at HR
    clear hres
    go_enter Tryz.func53, Tryz.ntmps53
    go_wp2_with fail
    refine (HR.out _).mono ?_
    rintro e w1 ⟨rfl, rfl⟩
    go_wp2
    go_ret
    exact ⟨ret_bool HZ.out, (Fresh.refl _).alloc _⟩
  | false =>
    cases l with
    | false =>
      have HZ : Hid (false = hidB (r, b, false)) := Lib.hid (by unfold hidB; simp [hres]; omega)
      rw [hres] at HR
      clear hres
      go_enter Tryz.func53, Tryz.ntmps53
      go_wp2_with fail
      refine (HR.out _).mono ?_
      rintro e w1 ⟨rfl, rfl⟩
      go_wp2
      go_ret
      exact ⟨ret_bool HZ.out, (Fresh.refl _).alloc _⟩
    | true =>
      have HZ : Hid ((decide (r = 46) || decide (r = 32)) = hidB (r, b, true)) := Lib.hid (by unfold hidB; simp [hres]; omega)
      rw [hres] at HR
      clear hres
      by_cases h46 : r = 46
      · subst h46
        go_enter Tryz.func53, Tryz.ntmps53
        go_wp2_with fail
        refine (HR.out _).mono ?_
        rintro e w1 ⟨rfl, rfl⟩
        go_wp2
        go_ret
        exact ⟨by rw [← HZ.out]; rfl, (Fresh.refl _).alloc _⟩
      · have hb : (r == 46) = false := by simp [h46]
        have hd : decide (r = 46) = false := decide_eq_false h46
        rw [hd, Bool.false_or] at HZ
        by_cases h32 : r = 32
        · subst h32
          go_enter Tryz.func53, Tryz.ntmps53
          go_wp2_with fail
          refine (HR.out _).mono ?_
          rintro e w1 ⟨rfl, rfl⟩
          go_wp2
          go_ret
          exact ⟨by rw [← HZ.out]; rfl, (Fresh.refl _).alloc _⟩
        · have hb2 : (r == 32) = false := by simp [h32]
          have hd2 : decide (r = 32) = false := decide_eq_false h32
          rw [hd2] at HZ
          clear h46 h32 hd hd2
          go_enter Tryz.func53, Tryz.ntmps53
          go_wp2_with fail
          refine (HR.out _).mono ?_
          rintro e w1 ⟨rfl, rfl⟩
          go_wp2
          go_ret
          exact ⟨ret_bool HZ.out, (Fresh.refl _).alloc _⟩
set_option maxHeartbeats 800000 in
theorem strange_any (p : Part) (n : Int) (hr : -2147483648 ≤ p.1 ∧ p.1 < 2147483648) (w : World) : Calls Tryz.prog 56 #[partV p n] w fun e w' => e = .returned (.bool (strB p)) ∧ Fresh w w' := by
  have HR := Lib.hid (fun w => hidden_any p n hr w)
  obtain ⟨r, b, l⟩ := p
  unfold partV at HR ⊢
  cases hres : hidB (r, b, l) with
  | true =>
    have HZ : Hid (true = strB (r, b, l)) := Lib.hid (by unfold strB; simp [hres])
    rw [hres] at HR
    clear hres
    go_enter Tryz.func56, Tryz.ntmps56
    go_wp2_with fail
    refine (HR.out _).mono ?_
    rintro e w1 ⟨rfl, hf⟩
    go_wp2
    go_ret
    exact ⟨ret_bool HZ.out, ((Fresh.refl _).alloc _).trans hf⟩
  | false =>
    have HZ : Hid (decide (128 ≤ r) = strB (r, b, l)) := Lib.hid (by unfold strB; simp [hres])
    rw [hres] at HR
    clear hres
    go_enter Tryz.func56, Tryz.ntmps56
    go_wp2_with fail
    refine (HR.out _).mono ?_
    rintro e w1 ⟨rfl, hf⟩
    have hcell : w1.cell? ⟨w.heap.size, 0, none⟩ = some (.int .i32 r) := by
      have := Below.cell hf (p := ⟨w.heap.size, 0, none⟩) (by simp)
      rw [this]; simp
    go_wp2
    go_ret
    exact ⟨ret_bool HZ.out, ((Fresh.refl _).alloc _).trans hf⟩
end Go.Proofs.YtpmlggjhfiljmaaGreatDoor
/- 'append' to one's own slice, in a region that draws its order. -/
namespace Go.Proofs.YtpmlggjhfiljmaaGreatDoor
open Go.RowKit
set_option linter.unusedVariables false
/-- 'append' of a new block's cells to what is one's own, as one step of a region that draws -/
theorem step_append_new {P : Program} {ops : Array Oper} {o : Oper} {a : Act} {w : World} {K : Act → World → Prop} {Q : Exit → Act → World → Prop} {E : Prop} (hg : o.guard = none) (s x : Operand) (t : TypeId)
    (ho : o.op = .call { callee := .builtin .append, args := #[s, x], argTypes := #[t, t] })
    (w0 : World) (base : Nat) (e : TypeId) (i : TypeInfo) (z : Value) (size bytes : Nat) (ht : P.underlying t = some (.slice e)) (hi : P.info? e = some i) (hz : i.zero = some z)
    (hsize : i.size = size) (hby : i.bytes = bytes) (hzs : z.cells.size = size) (hsz : 0 < size)
    (v : Value) (n : Nat) (xs : List Value) (hown : w0.ownsRow base e size v n xs) (m : Nat) (news : List Value) (hl : news.length = m * size) (h1 : ∀ u ∈ news, u.oneCell' = true)
    (h63 : n + m ≤ maxLen) (hbytes : (n + m) * bytes ≤ 140737488355328) (hbase : base ≤ w0.heap.size)
    (hs : a.eval s = v) (hx : a.eval x = .slice (some ⟨w0.heap.size, 0, none⟩) m m) (hfr : Fresh (w0.alloc (.cells news.toArray e)) w)
    (hK : ∀ v' w', w'.ownsRow base e size v' (n + m) (xs ++ news) → w.grownBy w' v.ownBlock → (∀ g2, v'.ownBlock = some g2 → v.ownBlock = some g2 ∨ w0.heap.size < g2) → K (a.put o.dst v') w') :
    if Region.wanted o (yielded ops a.tmps) = true then Oper.wp P o a w K Q else E := by
  have hw : Region.wanted o (yielded ops a.tmps) = true := by simp [Region.wanted, hg]
  rw [if_pos hw]
  have hsa : (w0.alloc (.cells news.toArray e)).heap.size = w0.heap.size + 1 := by simp
  have hws := hfr.size
  have hown1 : w.ownsRow base e size v n xs := by
    refine World.ownsRow.kept (row := none) (hown.alloc (.cells news.toArray e)) ⟨hfr.os, hfr.tape, hfr.output, hfr.size, fun k hk _ => hfr.block k hk⟩ ?_
    cases hv : v.ownBlock with
    | none => exact .inl rfl
    | some k => exact .inr (by simp)
  have hc : ∀ j u, news[j]? = some u → w.cell? ((⟨w0.heap.size, 0, none⟩ : Addr).add j) = some u := fun j u hj => by
    have hb : ((⟨w0.heap.size, 0, none⟩ : Addr).add j).block < (w0.alloc (.cells news.toArray e)).heap.size := by rw [Addr.add_lit, hsa]; exact Nat.lt_succ_self _
    rw [Below.cell hfr hb, Addr.add_lit, World.cell?_alloc_at _ _ _ _ rfl]
    simpa using hj
  obtain ⟨q1, ⟨q2, q3⟩ | ⟨g, cap, cur, hv, hb, hh, hc1, hc2, hcs, hct⟩⟩ := hown1
  · have hx0 : xs = [] := by subst q3; exact List.eq_nil_of_length_eq_zero (by simpa using q1)
    subst q2 q3 hx0
    obtain ⟨v', w', hr, r1, r2, _⟩ := run_append_own (P := P) w w.heap.size t o.type e i z size bytes ht hi hz hsize hby hzs hsz (.slice none 0 0) 0 [] (World.ownsRow_nil _ _ _ _) ⟨w0.heap.size, 0, none⟩ m m news hl hc h1 h63 hbytes (Nat.le_refl _)
    unfold Oper.wp
    simp [execOp, ho, resolve, invoke, builtin, hs, hx, hr, Result.andThen]
    exact hK v' w' (own_base r1 (by omega)) r2 fun g2 hg2 => .inr (by have := (r1.lt _ hg2).1; omega)
  · subst hv
    have h0 : w.ownsRow base e size (.slice (some ⟨g, 0, none⟩) n cap) n xs := ⟨q1, .inr ⟨g, cap, cur, rfl, hb, hh, hc1, hc2, hcs, hct⟩⟩
    by_cases hr : n + m ≤ cap
    · obtain ⟨w', hrun, r1, r2⟩ := run_append_fits (P := P) w base t o.type e i size ht hi hsize g n cap xs h0 ⟨w0.heap.size, 0, none⟩ m m news hl hc h1 hr
      unfold Oper.wp
      simp [execOp, ho, resolve, invoke, builtin, hs, hx, hrun, Result.andThen]
      exact hK _ w' r1 r2 fun g2 hg2 => .inl (by simpa [Value.ownBlock] using hg2)
    · obtain ⟨v', w', hrun, r1, r2⟩ := run_append_arg_grows (P := P) w t o.type e i z size bytes ht hi hz hsize hby hzs hsz ⟨g, 0, none⟩ n cap xs q1 (fun j u hj => h0.cells rfl j u hj) ⟨w0.heap.size, 0, none⟩ m m news hl hc (by omega) h63 hbytes
      unfold Oper.wp
      simp [execOp, ho, resolve, invoke, builtin, hs, hx, hrun, Result.andThen]
      exact hK v' w' (own_base r1 (by omega)) ⟨r2.os, r2.tape, r2.output, r2.size, fun k hk _ => r2.block k hk (by simp)⟩ fun g2 hg2 => .inr (by have := (r1.lt _ hg2).1; omega)
end Go.Proofs.YtpmlggjhfiljmaaGreatDoor
/- escaped; parts. -/
namespace Go.Proofs.YtpmlggjhfiljmaaGreatDoor
open Go.RowKit
set_option linter.unusedVariables false
set_option linter.unnecessarySimpa false
set_option linter.unusedSimpArgs false
/-- a slice of bytes of one's own -/
def OwnS (w : World) (B : Nat) (v : Value) (T : ByteArray) : Prop := w.ownsRow B 5 1 v T.size (Lib.strCells T)
theorem OwnS.nil (w : World) (B : Nat) : OwnS w B (.slice none 0 0) ByteArray.empty := World.ownsRow_nil _ _ _ _
theorem OwnS.keep {w w' : World} {B : Nat} {v : Value} {xs : ByteArray} (h : OwnS w B v xs) (hf : Fresh w w') : OwnS w' B v xs := by
  refine World.ownsRow.kept (row := none) h ⟨hf.os, hf.tape, hf.output, hf.size, fun k hk _ => hf.block k hk⟩ ?_
  cases hv : v.ownBlock with
  | none => exact .inl rfl
  | some k => exact .inr (by simp)
theorem hex_at_dec : ((List.range 16).all fun n => decide ((((ByteArray.mk #[48, 49, 50, 51, 52, 53, 54, 55, 56, 57, 97, 98, 99, 100, 101, 102]).data.toList.getD n 0).toNat : Int) = hexI (n : Int))) = true := by decide +kernel
theorem hex_at {d : Int} (h : 0 ≤ d ∧ d < 16) : (((ByteArray.mk #[48, 49, 50, 51, 52, 53, 54, 55, 56, 57, 97, 98, 99, 100, 101, 102])[d.toNat]'(by show d.toNat < 16; omega)).toNat : Int) = hexI d := by
  have := List.all_eq_true.1 hex_at_dec d.toNat (List.mem_range.2 (by omega))
  simp only [decide_eq_true_eq] at this
  rw [Int.toNat_of_nonneg h.1] at this
  rw [← this, B_at _ _ (by show d.toNat < 16; omega)]
  rfl
def escB (b : ByteArray) (k : Nat) : ByteArray := strOfNums (((bl b).take k).flatMap escI)
theorem escB_size (b : ByteArray) (k : Nat) (h : k ≤ b.size) : (escB b k).size = 3 * k := by
  have hel : ∀ l : List Int, (l.flatMap escI).length = 3 * l.length := by
    intro l
    induction l with
    | nil => rfl
    | cons x l ih => rw [List.flatMap_cons, List.length_append, ih]; simp [escI]; omega
  unfold escB
  rw [strOfNums_size, hel, List.length_take]
  have : (bl b).length = b.size := by simp [bl]
  omega
theorem escB_all (b : ByteArray) : escB b b.size = joinS (esc b) := by
  have hl : (bl b).length = b.size := by simp [bl]
  unfold escB esc
  rw [List.take_of_length_le (by omega)]
  have hb : ∀ c ∈ bl b, 0 ≤ c ∧ c < 256 := fun c hc => by
    simp only [bl, List.mem_map] at hc
    obtain ⟨x, _, rfl⟩ := hc
    have := x.toNat_lt
    omega
  generalize bl b = l at hb
  induction l with
  | nil => rfl
  | cons c l ih =>
    rw [List.flatMap_cons, strOfNums_append, joinS_append, ih fun x hx => hb x (by simp [hx])]
    congr 1
    have hc := hb c (by simp)
    have h1 := hex_facts (d := c / 16) (by omega)
    have h2 := hex_facts (d := c % 16) (by omega)
    have e : ∀ r : Int, 0 ≤ r → r < 128 → encS r = strOfNums [r] := fun r h0 h1 => by
      unfold encS
      rw [if_pos (isC_of (by omega))]
      have : encI r = [r] := by unfold encI; rw [if_pos h1]
      rw [this]
    have e3 : escI c = [37] ++ ([hexI (c / 16)] ++ [hexI (c % 16)]) := rfl
    rw [e3, strOfNums_append, strOfNums_append, joinS_append, joinS_append, joinS_one, joinS_one, joinS_one, e 37 (by omega) (by omega), e _ h1.2.2.2.1 h1.2.2.1, e _ h2.2.2.2.1 h2.2.2.1]
theorem strCells_nums {l : List Int} (h : ∀ x ∈ l, 0 ≤ x ∧ x < 256) : Lib.strCells (strOfNums l) = l.map (Value.int .u8) := by
  unfold Lib.strCells strOfNums
  simp only [List.map_map]
  apply List.map_congr_left
  intro x hx
  have := h x hx
  simp only [Function.comp]
  congr 1
  rw [UInt8.toNat_ofNat']
  omega
theorem esc_push {w' : World} {B : Nat} {v' : Value} {b : ByteArray} {k : Nat} {c : Int} (h : w'.ownsRow B 5 1 v' (3 * k + 3) (Lib.strCells (escB b k) ++ [.int .u8 37, .int .u8 (hexI (c / 16)), .int .u8 (hexI (c % 16))])) (hc : c = Go.Proofs.YtpmlggjhfiljmaaGreatDoor.B b k) (hk : k < b.size) (hr : 0 ≤ c ∧ c < 256) :
    OwnS w' B v' (escB b (k + 1)) := by
  have hl : (bl b).length = b.size := by simp [bl]
  have hbk : (bl b)[k]'(by omega) = c := by
    rw [hc]
    simp [bl, Go.Proofs.YtpmlggjhfiljmaaGreatDoor.B, List.getD_eq_getElem?_getD, hk]
  have e1 : escB b (k + 1) = escB b k ++ strOfNums (escI c) := by
    unfold escB
    rw [List.take_succ_eq_append_getElem (by omega), List.flatMap_append, strOfNums_append, hbk]
    simp
  unfold OwnS
  rw [e1, strCells_append]
  have h1 := hex_facts (d := c / 16) (by omega)
  have h2 := hex_facts (d := c % 16) (by omega)
  have e2 : Lib.strCells (strOfNums (escI c)) = [.int .u8 37, .int .u8 (hexI (c / 16)), .int .u8 (hexI (c % 16))] := by
    rw [strCells_nums fun x hx => by simp [escI] at hx; omega]
    rfl
  have e3 : (escB b k ++ strOfNums (escI c)).size = 3 * k + 3 := by rw [ByteArray.size_append, escB_size b k (by omega), strOfNums_size]; rfl
  rw [e2, e3]
  exact h
def EscRel (b : ByteArray) (w : World) (out i : Value) (wr : World) : Prop := ∃ k : Nat, i = .int .i64 (k : Nat) ∧ k ≤ b.size ∧ OwnS wr w.heap.size out (escB b k) ∧ Fresh w wr
set_option maxHeartbeats 1600000 in
set_option maxRecDepth 100000 in
theorem escaped_any (b : ByteArray) (hb : b.size ≤ 100000) (w : World) : Calls Tryz.prog 161 #[.string b] w fun e w' => e = .returned (.string (joinS (esc b))) ∧ Fresh w w' := by
  obtain ⟨i0, hi0, hz0, hz1, hz2⟩ := info_parts info8
  have hcv := fun W : World => Lib.run_convert_string_bytes (P := Tryz.prog) W 9 131 5 b Tryz.underlying9 Tryz.underlying131 Tryz.underlying5
  have hcell := fun (W : World) (j : Nat) (hj : j < b.size) => Lib.bytesWorld_cell W 5 b j hj
  have hfw : ∀ W : World, Fresh W (Lib.bytesWorld W 5 b) := fun W => fresh_bytes W _ _
  have HCELL := Lib.hid hcell
  have HFW := Lib.hid hfw
  clear hcell hfw
  obtain ⟨n, hn⟩ : ∃ n, b.size = n := ⟨_, rfl⟩
  have HN := Lib.hid hn
  rw [hn] at hb hcv
  clear hn
  have hlt : w.heap.size < (Lib.bytesWorld w 5 b).heap.size := by rw [Lib.bytesWorld_size]; omega
  have HLT := Lib.hid hlt
  clear hlt
  go_enter Tryz.func161, Tryz.ntmps161
  go_wp2
  go_loopw [3, 9] (fun out i wr => EscRel b (Lib.bytesWorld w 5 b) out i wr) (fun _ i _ => n - (intOf i).toNat)
  case atStart => exact ⟨0, rfl, Nat.zero_le _, OwnS.nil _ _, Fresh.refl _⟩
  case round =>
    obtain ⟨k, rfl, hk, hown, hf⟩ := hrel
    have hkn : k ≤ n := by have := HN.out; omega
    clear hk
    by_cases hlt : k < n
    · have c1 : wr.cell? ⟨w.heap.size, k, none⟩ = some (.int .u8 (B b k)) := (Below.cell hf (p := ⟨w.heap.size, k, none⟩) HLT.out).trans (HCELL.out w k (by have := HN.out; omega))
      have hbr := B_range b k
      generalize hc : B b k = c at c1 hbr
      have HC := Lib.hid hc
      obtain ⟨hc0, hc1⟩ := hbr
      have i1 : (0 : Int) ≤ (k : Int) := by omega
      have i2 : (k : Int) < (n : Int) := by omega
      clear hc
      go_wp2
      have hq1 : 0 ≤ c / 16 ∧ c / 16 < 16 := by omega
      have hq2 : 0 ≤ c % 16 ∧ c % 16 < 16 := by omega
      obtain ⟨H, hH⟩ : ∃ H, (ByteArray.mk #[48, 49, 50, 51, 52, 53, 54, 55, 56, 57, 97, 98, 99, 100, 101, 102]) = H := ⟨_, rfl⟩
      have hHs : H.size = 16 := by rw [← hH]; rfl
      have hand : bits .and .u8 c 15 = c % 16 := u8_and15 c hc0 hc1
      have hx1 : ((H[(c / 16).toNat]'(by rw [hHs]; omega)).toNat : Int) = hexI (c / 16) := by
        have := hex_at (d := c / 16) hq1
        subst hH; exact this
      have hx2 : ((H[(c % 16).toNat]'(by rw [hHs]; omega)).toNat : Int) = hexI (c % 16) := by
        have := hex_at (d := c % 16) hq2
        subst hH; exact this
      rw [hH]
      clear hH
      have hsz : (escB b k).size = 3 * k := escB_size b k (by have := HN.out; omega)
      have hown3 := hown
      unfold OwnS at hown3
      rw [hsz] at hown3
      go_region_law (refine step_append_new rfl (.tmp 13) (.tmp 20) 131 rfl wr (Lib.bytesWorld w 5 b).heap.size 5 i0 (.int .u8 0) 1 1 Tryz.underlying131 hi0 hz0 hz1 hz2 rfl (by decide) _ _ _ hown3 3 [.int .u8 37, .int .u8 (hexI (c / 16)), .int .u8 (hexI (c % 16))] rfl (by intro u hu; simp at hu; rcases hu with rfl | rfl | rfl <;> rfl) (by unfold maxLen; omega) (by omega) hf.size (by simp [Act.eval, Act.put]) (by simp [Act.eval, Act.put]) (by repeat (first | exact Fresh.refl _ | refine Fresh.drew ?_)) ?_; intro v' w' hown' hgrow hblk)
      all_goals
        have hn' : OwnS w' (Lib.bytesWorld w 5 b).heap.size v' (escB b (k + 1)) := esc_push hown' HC.out.symm (by have := HN.out; omega) ⟨hc0, hc1⟩
        have hf' : Fresh (Lib.bytesWorld w 5 b) w' := Below.grown (hf.trans (b := wr) (by repeat (first | exact (Fresh.refl _).alloc _ | refine Fresh.drew ?_))) hgrow (by have := hf.size; simp; omega) (fun g hg => (hown.lt g hg).1)
        clear hown' hgrow hblk hown hown3 hx1 hx2 hand
        go_wp2
        exact ⟨⟨k + 1, by rw [Int.natCast_add]; rfl, by have := HN.out; omega, hn', hf'⟩, by simp [intOf]; omega⟩
    · have hkE : k = n := by omega
      have hE : escB b k = joinS (esc b) := by rw [hkE, ← HN.out]; exact escB_all b
      rw [hE] at hown
      unfold OwnS at hown
      have hcv2 := conv_own hown
      have HF := Lib.hid ((HFW.out w).trans hf)
      have hlt9 : ¬ (k : Int) < (n : Int) := by omega
      generalize hJ : joinS (esc b) = J at hcv2
      have HJ := Lib.hid hJ
      clear hJ
      clear hown hE hf hcv
      go_wp2
      go_ret
      exact ⟨by rw [HJ.out]; rfl, HF.out⟩
end Go.Proofs.YtpmlggjhfiljmaaGreatDoor
