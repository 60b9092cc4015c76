/- Part 35 of what the law rests on. -/
import Derived.Maps.AppendAt
import Derived.Deep.DrawnRows
import Derived.Deep.RegionHeld3
import Derived.Test.YtpmlggjhfiljmaaGreatDoorL26
import Derived.Test.YtpmlggjhfiljmaaGreatDoorL30
import Derived.Test.YtpmlggjhfiljmaaGreatDoorL32
import Derived.Test.YtpmlggjhfiljmaaGreatDoorL34
set_option linter.all false
namespace Go.Proofs.YtpmlggjhfiljmaaGreatDoor
theorem hp_min {l : List Int} (h : Hp l) : ∀ x ∈ l, l.getD 0 0 ≤ x := fun x hx => by
  obtain ⟨k, hk, e⟩ := List.mem_iff_getElem.1 hx
  have := HpFrom.min h k hk
  rw [List.getD_eq_getElem?_getD (i := k), List.getElem?_eq_getElem hk] at this
  rw [← e]; exact this
theorem getD0_mem {l : List Int} (h : l ≠ []) : l.getD 0 0 ∈ l := by
  cases l with
  | nil => exact absurd rfl h
  | cons x l => simp
def FreeIs (l : List Int) (n : Int) : Prop := 1 ≤ n ∧ n ∉ l ∧ ∀ j, 1 ≤ j → j < n → j ∈ l
theorem FreeIs.uniq {l : List Int} {a b : Int} (h : FreeIs l a) (k : FreeIs l b) : a = b := by
  rcases Int.lt_trichotomy a b with q | q | q
  · exact absurd (k.2.2 a h.1 q) h.2.1
  · exact q
  · exact absurd (h.2.2 b k.1 q) k.2.1
theorem upto_len : ∀ (k : Nat) (l : List Int), (∀ j : Int, 1 ≤ j → j ≤ k → j ∈ l) → k ≤ l.length
  | 0, l, _ => Nat.zero_le _
  | k + 1, l, h => by
    have hm : ((k + 1 : Nat) : Int) ∈ l := h _ (by omega) (Int.le_refl _)
    have hl := List.length_erase_of_mem hm
    have hp := List.length_pos_of_mem hm
    have ih := upto_len k (l.erase ((k + 1 : Nat) : Int)) (fun j a b => (List.mem_erase_of_ne (by omega)).2 (h j a (by omega)))
    omega
theorem FreeIs.le {l : List Int} {n : Int} (h : FreeIs l n) : n ≤ l.length + 1 := by
  obtain ⟨k, hk⟩ := Int.eq_ofNat_of_zero_le (show 0 ≤ n - 1 by have := h.1; omega)
  have := upto_len k l (fun j a b => h.2.2 j a (by omega))
  omega
def FJ (l r : List Int) (n : Int) : Prop := 1 ≤ n ∧ (∀ j, 1 ≤ j → j < n → j ∈ l) ∧ (n ∈ l → n ∈ r) ∧ (∀ y ∈ l, y ∈ r ∨ ∀ z ∈ r, y ≤ z) ∧ ∀ z ∈ r, z ∈ l
theorem FJ.start {l r : List Int} (h : r.Perm l) : FJ l r 1 := ⟨by omega, fun j a b => by omega, fun q => h.mem_iff.2 q, fun y hy => .inl (h.mem_iff.2 hy), fun z hz => h.mem_iff.1 hz⟩
theorem FJ.hit {l r r' : List Int} {n : Int} (h : FJ l r n) (hp : (r' ++ [n]).Perm r) (hm : ∀ z ∈ r, n ≤ z) : FJ l r' (n + 1) := by
  obtain ⟨h1, h2, h3, h4, h5⟩ := h
  have hn : n ∈ r := hp.mem_iff.1 (by simp)
  have hs : ∀ z, z ∈ r' → z ∈ r := fun z hz => hp.mem_iff.1 (by simp [hz])
  have hb : ∀ z, z ∈ r → z = n ∨ z ∈ r' := fun z hz => by
    have := hp.mem_iff.2 hz
    rw [List.mem_append, List.mem_singleton] at this
    exact this.symm
  refine ⟨by omega, fun j a b => ?_, fun q => ?_, fun y hy => ?_, fun z hz => h5 z (hs z hz)⟩
  · by_cases e : j = n
    · rw [e]; exact h5 n hn
    · exact h2 j a (by omega)
  · rcases h4 _ q with c | c
    · rcases hb _ c with e | e
      · omega
      · exact e
    · have := c n hn; omega
  · rcases h4 y hy with c | c
    · rcases hb _ c with e | e
      · exact .inr fun z hz => by rw [e]; exact hm z (hs z hz)
      · exact .inl e
    · exact .inr fun z hz => c z (hs z hz)
theorem FJ.miss {l r r' : List Int} {n x : Int} (h : FJ l r n) (hp : (r' ++ [x]).Perm r) (hm : ∀ z ∈ r, x ≤ z) (hx : x ≠ n) : FJ l r' n := by
  obtain ⟨h1, h2, h3, h4, h5⟩ := h
  have hs : ∀ z, z ∈ r' → z ∈ r := fun z hz => hp.mem_iff.1 (by simp [hz])
  have hb : ∀ z, z ∈ r → z = x ∨ z ∈ r' := fun z hz => by
    have := hp.mem_iff.2 hz
    rw [List.mem_append, List.mem_singleton] at this
    exact this.symm
  refine ⟨h1, h2, fun q => ?_, fun y hy => ?_, fun z hz => h5 z (hs z hz)⟩
  · rcases hb _ (h3 q) with e | e
    · exact absurd e.symm hx
    · exact e
  · rcases h4 y hy with c | c
    · rcases hb _ c with e | e
      · exact .inr fun z hz => by rw [e]; exact hm z (hs z hz)
      · exact .inl e
    · exact .inr fun z hz => c z (hs z hz)
theorem FJ.le {l r : List Int} {n : Int} (h : FJ l r n) : n ≤ l.length + 1 := by
  obtain ⟨k, hk⟩ := Int.eq_ofNat_of_zero_le (show 0 ≤ n - 1 by have := h.1; omega)
  have := upto_len k l (fun j a b => h.2.1 j a (by omega))
  omega
theorem FJ.done {l : List Int} {n : Int} (h : FJ l [] n) : FreeIs l n := ⟨h.1, fun q => (by have := h.2.2.1 q; exact absurd this (by simp)), h.2.1⟩
open Go.RowKit
theorem append_types {t u e e' : TypeId} (ht : Tryz.prog.underlying t = some (.slice e)) (hu : Tryz.prog.underlying u = some (.slice e')) (ty : TypeId) (s : Option Addr) (n c : Nat) (x : Option Addr) (m d : Nat) (w : World) : (Builtin.append_ #[t, u] ty #[.slice s n c, .slice x m d]).run Tryz.prog w = (Builtin.append_ #[t, t] ty #[.slice s n c, .slice x m d]).run Tryz.prog w := by
  simp [Builtin.append_, run_underlying ht, run_underlying hu, Result.andThen]
theorem append_none (t u ty : TypeId) (b a : Option Addr) (c : Nat) (ht : t = 266) (hu : u = 195) (w : World) : (Builtin.append_ #[t, u] ty #[.slice b 0 0, .slice a 0 c]).run Tryz.prog w = .ok (.slice b 0 0) w := by
  subst ht hu
  cases b <;> cases a <;> kernel_rfl
theorem wpList_append_run (w : World) {ops : Array Oper} {rest : List Oper} {o : Oper} {a : Act} {Q : Exit → Act → World → Prop} (hg : o.guard = none) (s x : Operand) (t u : TypeId)
    (ho : o.op = .call { callee := .builtin .append, args := #[s, x], argTypes := #[t, u] }) (v1 v2 : Value) (hs : a.eval s = v1) (hx : a.eval x = v2) (v' : Value) (w' : World)
    (hrun : (Builtin.append_ #[t, u] o.type #[v1, v2]).run Tryz.prog w = .ok v' w') (hK : wpList Tryz.prog ops Q rest (a.put o.dst v') w') : wpList Tryz.prog ops Q (o :: rest) a w := by
  refine wpList_plain hg fun K hK' => ?_
  unfold Oper.wp
  simp [execOp, ho, resolve, invoke, builtin, hs, hx, hrun, Result.andThen]
  exact hK' _ _ hK
def FreePost (l : List Int) (w : World) (e : Ending) (w' : World) : Prop := ∃ n, e = .returned (.int .i64 n) ∧ FreeIs l n ∧ Fresh w w'
def lenAt (w : World) (b : Nat) : Nat := match w.cell? ⟨b, 0, none⟩ with | some (.slice _ n _) => n | _ => 0
theorem free_none (a : Option Addr) (c : Nat) (w : World) : Calls Tryz.prog 133 #[.slice a 0 c] w (FreePost [] w) := by
  have HAP := Lib.hid (fun b W ty => append_none 266 195 ty b a c rfl rfl W)
  have hen := numI.eLen
  have hb := Blk.new (w.alloc (.cells #[] 3)) 266 #[.slice (some ⟨w.heap.size, 0, none⟩) 0 0]
  rw [World.size_alloc] at hb
  have hc := hb.cell 0
  have hml := numI.mLen (w.heap.size + 1) 0 _ _ hc
  have HIN := Lib.hid (hinit_none numI (w.heap.size + 1) 0 (some ⟨w.heap.size, 0, none⟩) 0 _ hc)
  clear hb
  go_enter Tryz.func133, Tryz.ntmps133
  go_wp2_with (at_builtin; refine wpList_append_run _ rfl _ _ 266 195 rfl _ _ rfl rfl _ _ (HAP.out _ _ _) ?_)
  refine HIN.out.mono ?_
  rintro e w1 ⟨rfl, rfl⟩
  go_wp2_with fail
  refine wp_loop_rounds 1 ?_
  rw [rounds_succ]
  go_wp2_with fail
  refine (numLen_any _ _ _ _).mono ?_
  rintro e w1 ⟨rfl, rfl⟩
  go_wp2
  go_ret
  exact ⟨1, rfl, ⟨by omega, by simp, fun j a b => by omega⟩, ((Fresh.refl _).alloc _).alloc _⟩
theorem typeInt (n : Int) (W : World) : Sem.run Tryz.prog (Instr.typeAssert (.iface 3 (.int .i64 n)) 20 3 false) W = .ok (.int .i64 n) W := by kernel_rfl
def FrRel (l : List Int) (b : Nat) (w w0 : World) (n : Value) (wr : World) : Prop := ∃ (k : Int) (r : List Int) (v : Value), n = .int .i64 k ∧ NumsAt wr (fun g => w.heap.size ≤ g) b 266 #[v] 0 v r ∧ Hp r ∧ FJ l r k ∧ r.length ≤ l.length ∧ k ≤ l.length + 1 ∧ Fresh w wr
set_option maxRecDepth 100000 in
set_option maxHeartbeats 3200000 in
theorem free_some (A : Nat → Prop) (v : Value) (l : List Int) (w : World) (h : OwnI w A v l) (hl1 : 1 ≤ l.length) (hl : l.length ≤ 10000) : Calls Tryz.prog 133 #[v] w (FreePost l w) := by
  obtain ⟨i0, hi0, hz0, hz1, hz2⟩ := info_partsG infoInt
  obtain ⟨g, c, rfl, hA, hg, hcl⟩ := h.cells hl1
  obtain ⟨v2, w2, hrun, hown, hgr, _, hblk⟩ := run_append_own_at (P := Tryz.prog) (w.alloc (.cells #[] 3)) w.heap.size 266 266 3 i0 (.int .i64 0) 1 8 Tryz.underlying266 hi0 hz0 hz1 hz2 rfl (by decide) (.slice (some ⟨w.heap.size, 0, none⟩) 0 0) 0 [] ⟨rfl, .inr ⟨_, 0, #[], rfl, Nat.le_refl _, heap_alloc_new _ _, Nat.le_refl _, by unfold maxLen; omega, rfl, rfl⟩⟩ ⟨g, 0, none⟩ l.length c (ints l) (by simp [ints]) (fun j u hj => by
    have hj2 : j < l.length := by
      have := (List.getElem?_eq_some_iff.1 hj).1
      simpa [ints] using this
    have hu : u = .int .i64 (l.getD j 0) := by
      unfold ints at hj
      rw [List.getElem?_map, List.getElem?_eq_getElem hj2] at hj
      rw [List.getD_eq_getElem?_getD, List.getElem?_eq_getElem hj2]
      injection hj with hj
      exact hj.symm
    have := (Below.cell ((Fresh.refl w).alloc (.cells #[] 3)) (p := ⟨g, j, none⟩) hg).trans (hcl j hj2).1
    rw [Addr.add_lit, Nat.zero_add, hu]
    exact this) (by intro u hu; unfold ints at hu; obtain ⟨x, _, rfl⟩ := List.mem_map.1 hu; rfl) (by unfold maxLen; omega) (by omega) (by simp)
  have HAP := Lib.hid hrun
  have hf2 : Fresh w w2 := by
    refine ⟨hgr.os, hgr.tape, hgr.output, by have := hgr.size; simp at this; omega, fun k hk => ?_⟩
    rw [hgr.block k (by simp; omega) (fun e => by simp [Value.ownBlock] at e; omega)]
    exact ((Fresh.refl w).alloc _).block k hk
  rw [Nat.zero_add, List.nil_append] at hown
  have hoI : OwnI w2 (fun g => w.heap.size ≤ g) v2 l := ⟨own_base hown (Nat.zero_le _), fun g hg => (hown.lt g hg).1⟩
  obtain ⟨g2, c2, rfl, hg2, hgl2, _⟩ := hoI.cells hl1
  have hb3 := Blk.new w2 266 #[.slice (some ⟨g2, 0, none⟩) l.length c2]
  have hf3 : Fresh w (w2.alloc (.cells #[.slice (some ⟨g2, 0, none⟩) l.length c2] 266)) := hf2.alloc _
  have ho3 : OwnI (w2.alloc (.cells #[.slice (some ⟨g2, 0, none⟩) l.length c2] 266)) (fun g => w.heap.size ≤ g) (.slice (some ⟨g2, 0, none⟩) l.length c2) l := hoI.fresh ((Fresh.refl _).alloc _)
  have hgb : g2 ≠ w2.heap.size := by omega
  have HIN := Lib.hid (hinit_any numI (fun g => w.heap.size ≤ g) w2.heap.size 0 g2 c2 l _ (hb3.cell 0) ho3 hgb (by simp) hl1 (by omega))
  have H3 := Lib.hid (And.intro hb3 (And.intro hf3 (And.intro hg2 hgb)))
  have hwl : w.heap.size ≤ w2.heap.size := hf2.size
  have HHP := Lib.hid (fun v r W (hN : NumsAt W (fun g => w.heap.size ≤ g) w2.heap.size 266 #[v] 0 v r) (h1 : 1 ≤ r.length) (h2 : r.length ≤ 100000) (hp : Hp r) => hpopN_any (fun g => w.heap.size ≤ g) w2.heap.size 266 #[v] 0 v r W hN h1 h2 hp)
  have hty := typeInt
  obtain ⟨n, hn⟩ : ∃ n, l.length = n := ⟨_, rfl⟩
  have HN := Lib.hid hn
  rw [hn] at hl1 hl HAP HIN H3 ⊢
  clear h hA hg hcl hrun hown hgr hblk hf2 hoI hgl2 hb3 hf3 ho3 hn hg2 hgb
  go_enter Tryz.func133, Tryz.ntmps133
  go_wp2_with (at_builtin; refine wpList_append_run _ rfl _ _ 266 195 rfl _ _ rfl rfl _ _ ((append_types Tryz.underlying266 Tryz.underlying195 _ _ _ _ _ _ _ _).trans HAP.out) ?_)
  refine HIN.out.mono ?_
  rintro e w4 ⟨l2, rfl, hpm, hhp, ho4, hm4⟩
  have H4 : Hid (NumsAt w4 (fun g => w.heap.size ≤ g) w2.heap.size 266 #[.slice (some ⟨g2, 0, none⟩) n c2] 0 (.slice (some ⟨g2, 0, none⟩) n c2) l2 ∧ Hp l2 ∧ l2.Perm l ∧ l2.length = n ∧ Fresh w w4) := Lib.hid (by
    have hlen : l2.length = n := by rw [hpm.length_eq]; exact HN.out
    rw [HN.out] at ho4
    exact ⟨⟨H3.out.1.mut hm4 (fun e => H3.out.2.2.2 e.symm), rfl, by unfold OwnI at ho4 ⊢; rw [hlen] at ho4 ⊢; exact ho4, fun e => H3.out.2.2.2 (Option.some.inj e)⟩, hhp, hpm, hlen, H3.out.2.1.mut2 hm4 (fun j e => by rw [e]; exact H3.out.2.2.1)⟩)
  clear hpm hhp ho4 hm4
  go_wp2
  go_loopw [4] (fun k wr => FrRel l w2.heap.size w w4 k wr) (fun _ wr => lenAt wr w2.heap.size)
  case atStart => exact ⟨1, l2, _, rfl, H4.out.1, H4.out.2.1, FJ.start H4.out.2.2.1, by rw [H4.out.2.2.2.1, HN.out]; exact Nat.le_refl _, by omega, H4.out.2.2.2.2⟩
  case round =>
    obtain ⟨k, r, v, rfl, hN, hp, hj, hrl, hkl, hf⟩ := hrel
    have HV := Lib.hid (And.intro hN (And.intro hp (And.intro hj (And.intro hrl (And.intro hkl hf)))))
    obtain ⟨a, c, rfl⟩ := hN.2.2.1.shape
    have c0 : wr.cell? ⟨w2.heap.size, 0, none⟩ = some (.slice a r.length c) := (hN.1.cell 0).trans hN.2.1
    have hlen0 : lenAt wr w2.heap.size = r.length := by unfold lenAt; rw [c0]
    have HL0 := Lib.hid hlen0
    have hk0 : (0 : Int) ≤ k := by have := hj.1; omega
    have hk1 : k ≤ 100000 := by have := HN.out; omega
    cases r with
    | nil =>
      clear hN hp hj hrl hkl hf hlen0
      go_wp2_with fail
      refine (numLen_any _ _ _ _).mono ?_
      rintro e w5 ⟨rfl, rfl⟩
      go_wp2
      go_ret
      exact ⟨k, rfl, HV.out.2.2.1.done, HV.out.2.2.2.2.2⟩
    | cons y r =>
      have HPO := Lib.hid (HHP.out _ _ wr hN (by simp) (by have := HN.out; simp at hrl ⊢; omega) hp)
      have hpos : (0 : Int) < ((y :: r).length : Int) := by rw [List.length_cons]; omega
      clear hN hp hj hrl hkl hf hlen0
      obtain ⟨R, hR⟩ : ∃ R, y :: r = R := ⟨_, rfl⟩
      rw [hR] at HPO HV HL0 c0 hpos
      clear hR
      obtain ⟨m, hm⟩ : ∃ m, R.length = m := ⟨_, rfl⟩
      have HM := Lib.hid hm
      rw [hm] at c0 hpos
      obtain ⟨x, hx⟩ : ∃ x, R.getD 0 0 = x := ⟨_, rfl⟩
      have HX := Lib.hid hx
      unfold PopPost at HPO
      rw [hx, hm] at HPO
      clear hx hm
      go_wp2_with fail
      refine (numLen_any _ _ _ _).mono ?_
      rintro e w5 ⟨rfl, rfl⟩
      go_wp2_with fail
      refine HPO.out.mono ?_
      rintro e w5 ⟨r', rfl, hpm, hhp, v', hn5, hob, hu5⟩
      have hmin : ∀ z ∈ R, x ≤ z := fun z hz => by rw [← HX.out]; exact hp_min HV.out.2.1 z hz
      have h5 : Hid (NumsAt w5 (fun g => w.heap.size ≤ g) w2.heap.size 266 #[v'] 0 v' r' ∧ Fresh w w5 ∧ r'.length + 1 = R.length ∧ lenAt w5 w2.heap.size = r'.length) := Lib.hid (by
        have hz := HV.out.2.2.2.2.2.size
        have hF : Fresh w w5 := HV.out.2.2.2.2.2.mut2 hu5 (fun j hj => by
          rcases hj with e | e
          · rw [e]; exact hwl
          · exact HV.out.1.2.2.1.2 j (by rw [HM.out]; exact e))
        have hn : NumsAt w5 (fun g => w.heap.size ≤ g) w2.heap.size 266 #[v'] 0 v' r' := ⟨hn5.1, hn5.2.1, OwnA.mono hn5.2.2.1 (fun g _ hg => hg.elim id (fun q => by omega)), hn5.2.2.2⟩
        obtain ⟨a', c', rfl⟩ := hn.2.2.1.shape
        refine ⟨hn, hF, by have := hpm.length_eq; simpa using this, ?_⟩
        unfold lenAt
        rw [(hn.1.cell 0).trans hn.2.1])
      have HPM := Lib.hid (And.intro hpm (And.intro hhp hmin))
      clear hpm hhp hn5 hob hu5 hmin c0
      by_cases hxk : x = k
      · subst hxk
        go_wp2
        go_roundw
        case rel => exact ⟨x + 1, r', v', by go_num, h5.out.1, HPM.out.2.1, HV.out.2.2.1.hit HPM.out.1 HPM.out.2.2, by have := h5.out.2.2.1; have := HV.out.2.2.2.1; omega, (HV.out.2.2.1.hit HPM.out.1 HPM.out.2.2).le, h5.out.2.1⟩
        case measure => rw [h5.out.2.2.2, HL0.out]; have := h5.out.2.2.1; omega
      · have hxb : (x == k) = false := by simpa using hxk
        have HXK := Lib.hid hxk
        clear hxk
        go_wp2
        go_roundw
        case rel => exact ⟨k, r', v', rfl, h5.out.1, HPM.out.2.1, HV.out.2.2.1.miss HPM.out.1 HPM.out.2.2 HXK.out, by have := h5.out.2.2.1; have := HV.out.2.2.2.1; omega, HV.out.2.2.2.2.1, h5.out.2.1⟩
        case measure => rw [h5.out.2.2.2, HL0.out]; have := h5.out.2.2.1; omega
theorem free_any (A : Nat → Prop) (v : Value) (l : List Int) (w : World) (h : OwnI w A v l) (hl : l.length ≤ 10000) : Calls Tryz.prog 133 #[v] w (FreePost l w) := by
  rcases Nat.eq_zero_or_pos l.length with q | q
  · obtain ⟨a, c, rfl⟩ := h.shape
    obtain rfl : l = [] := List.eq_nil_of_length_eq_zero q
    exact free_none a c w
  · exact free_some A v l w h q hl
open Go.RowKit
attribute [local go_sem ↓] Go.wp_at_zero Go.wp_at_succ
set_option maxRecDepth 100000 in
set_option maxHeartbeats 1600000 in
theorem of_long (enc : Int) (e : Ent) (hs : e.name.size ≤ 10000) (he : 1 ≤ e.short ∧ e.short ≤ 99) : OfOK enc e := fun w hGT => by
  obtain ⟨name, node, dir, cookie, short⟩ := e
  simp only at he hs
  obtain ⟨i, rfl⟩ := Int.eq_ofNat_of_zero_le (show 0 ≤ short by omega)
  obtain ⟨u, hu⟩ := Int.eq_ofNat_of_zero_le (hash_pos name)
  have hu2 : u < 4294967296 := by have := (hashU_range name name.size).2; rw [hashU_all, hu] at this; omega
  have HH := Lib.hid (fun W => hash_any name (by omega) W)
  rw [hu] at HH
  have HN := Lib.hid (fun W hW => sname_any u i hu2 (by omega) W hW)
  unfold HashPost at HH
  unfold NamePost at HN
  have HFC : Hid (faceS enc ⟨name, node, dir, cookie, i⟩ = nameS (u : Int) (i : Int)) := Lib.hid (by unfold faceS; rw [if_neg (by simp only; omega)]; simp only; rw [hu])
  rw [HFC.out]
  obtain ⟨X, hX⟩ : ∃ X, nameS (u : Int) (i : Int) = X := ⟨_, rfl⟩
  rw [hX] at HN ⊢
  have hi0 : ((i : Int) == 0) = false := by simp; omega
  have hi1 : (i == 0) = false := by simp; omega
  obtain ⟨W1, hW1⟩ : ∃ W1, w.alloc (.cells #[.string name, .int .i64 node, .bool dir, .int .i64 cookie, .int .i64 i] 88) = W1 := ⟨_, rfl⟩
  have f1 : Fresh w W1 := by rw [← hW1]; exact (Fresh.refl _).alloc _
  have b1 : Blk W1 w.heap.size 88 #[.string name, .int .i64 node, .bool dir, .int .i64 cookie, .int .i64 i] := by rw [← hW1]; exact Blk.new _ _ _
  have HS : Hid (∀ W, Fresh W1 W → W.cell? ⟨w.heap.size, 0, none⟩ = some (.string name) ∧ W.cell? ⟨w.heap.size, 4, none⟩ = some (.int .i64 i)) := Lib.hid (fun W hW => ⟨(b1.keep hW).cell 0, (b1.keep hW).cell 4⟩)
  have HF1 := Lib.hid f1
  have HG := Lib.hid hGT
  obtain ⟨c0, c4⟩ := HS.out W1 (Fresh.refl _)
  clear hX HFC hu f1 b1 hGT he
  unfold entV
  simp only
  go_enter Tryz.func39, Tryz.ntmps39
  go_wp2_with fail
  try rw [hW1]
  clear hW1
  go_region_held3 (fun W => W.cell? ⟨w.heap.size, 0, none⟩ = some (.string name) ∧ W.cell? ⟨w.heap.size, 4, none⟩ = some (.int .i64 i)) (first | go_keep | exact HS.out _ (by repeat (first | assumption | exact Fresh.refl _ | refine Fresh.alloc ?_ _ | refine Fresh.drew ?_))) (first
    | (go_at_call 86; refine (HH.out _).mono ?_; rintro e w2 ⟨rfl, hf2⟩; have hf3 : Fresh W1 w2 := Fresh.trans (by repeat (first | exact Fresh.refl _ | refine Fresh.drew ?_)) hf2; clear hf2)
    | (go_at_call 85; refine (HN.out _ (HG.out.fresh (HF1.out.trans hf3))).mono ?_; rintro e w4 ⟨rfl, hf4⟩; have HF4 : Hid (Fresh w w4) := Lib.hid ((HF1.out.trans hf3).trans hf4); have hf5 : Fresh W1 w4 := hf3.trans hf4; clear hf4))
  all_goals
    go_wp2
    go_ret
    exact ⟨rfl, HF4.out⟩
theorem of_any (enc : Int) (e : Ent) (h0 : 0 ≤ enc) (h8 : enc ≤ 8) (hs : e.name.size ≤ 10000) (he : 0 ≤ e.short ∧ e.short ≤ 99) : OfOK enc e := by
  by_cases h : e.short = 0
  · exact of_short enc e h0 h8 hs h
  · exact of_long enc e hs (by omega)
end Go.Proofs.YtpmlggjhfiljmaaGreatDoor
namespace Go.Proofs.YtpmlggjhfiljmaaGreatDoor
structure Item where
  inn : Int
  e : Ent
def dirL (L : List Item) (d : Int) : Bool := decide (d = 0) || L.any fun x => decide (x.e.node = d) && x.e.dir
def inL (L : List Item) (d : Int) : List Ent := (L.filter fun x => decide (x.inn = d)).map (·.e)
def dirsL (L : List Item) (d : Int) : Option (List Ent) := if dirL L d = true then some (inL L d) else none
def fileL (L : List Item) (n : Int) : Bool := L.any fun x => decide (x.e.node = n) && !x.e.dir
def outL (L : List Item) (n : Int) : Bool := L.any fun x => decide (x.e.node = n)
theorem dirL_iff {L : List Item} {d : Int} : dirL L d = true ↔ d = 0 ∨ ∃ x ∈ L, x.e.node = d ∧ x.e.dir = true := by
  unfold dirL; simp
theorem fileL_iff {L : List Item} {d : Int} : fileL L d = true ↔ ∃ x ∈ L, x.e.node = d ∧ x.e.dir = false := by
  unfold fileL; simp
theorem outL_iff {L : List Item} {d : Int} : outL L d = true ↔ ∃ x ∈ L, x.e.node = d := by
  unfold outL; simp
theorem mem_inL {L : List Item} {d : Int} {e : Ent} : e ∈ inL L d ↔ ∃ x ∈ L, x.inn = d ∧ x.e = e := by
  unfold inL
  simp only [List.mem_map, List.mem_filter, decide_eq_true_eq]
  exact ⟨fun ⟨x, ⟨a, b⟩, c⟩ => ⟨x, a, b, c⟩, fun ⟨x, a, b, c⟩ => ⟨x, ⟨a, b⟩, c⟩⟩
theorem inL_append (L M : List Item) (d : Int) : inL (L ++ M) d = inL L d ++ inL M d := by unfold inL; rw [List.filter_append, List.map_append]
theorem inL_one (x : Item) (d : Int) : inL [x] d = if x.inn = d then [x.e] else [] := by
  unfold inL
  by_cases h : x.inn = d <;> simp [List.filter_cons, h]
theorem inL_len (L : List Item) (d : Int) : (inL L d).length ≤ L.length := by unfold inL; rw [List.length_map]; exact List.length_filter_le _ _
theorem dirL_append (L M : List Item) (d : Int) : dirL (L ++ M) d = (dirL L d || M.any fun x => decide (x.e.node = d) && x.e.dir) := by unfold dirL; rw [List.any_append, Bool.or_assoc]
/-! ### the pool -/
structure PoolOK (O : Int → Bool) (F : Int) (K : List Int) : Prop where
  fr : 1 ≤ F ∧ F ≤ 201
  hp : Hp K
  nd : K.Nodup
  bk : ∀ x ∈ K, 1 ≤ x ∧ x < F ∧ O x = false
  all : ∀ i, 1 ≤ i → i < F → O i = true ∨ i ∈ K
  out : ∀ i, O i = true → 1 ≤ i ∧ i ≤ 200
theorem PoolOK.least {O : Int → Bool} {fr : Int} {bk : List Int} (h : PoolOK O fr bk) {k fr2 : Int} {bk2 : List Int} (ht : TakeN O fr bk k fr2 bk2) : O k = false ∧ 1 ≤ k ∧ ∀ i, 1 ≤ i → i < k → O i = true := by
  obtain ⟨⟨n1, n2, n3⟩, ⟨rfl, rfl, hb⟩ | ⟨hne, hlt, rfl, hpm, hhp⟩⟩ := ht
  · have hn : bk2 = [] := by
      rcases hb with hb | hb
      · exact hb
      · rcases Decidable.em (bk2 = []) with q | q
        · exact q
        · have := (h.bk _ (getD0_mem q)).2.1; omega
    have f1 := h.fr
    refine ⟨n2, by omega, fun i a b => ?_⟩
    by_cases c : i < fr
    · rcases h.all i a c with q | q
      · exact q
      · rw [hn] at q; simp at q
    · exact n3 i (by omega) b
  · have hm := getD0_mem hne
    have q := h.bk _ hm
    refine ⟨q.2.2, q.1, fun i a b => ?_⟩
    rcases h.all i a (by omega) with c | c
    · exact c
    · have := hp_min h.hp i c; omega
theorem PoolOK.take {O : Int → Bool} {fr : Int} {bk : List Int} (h : PoolOK O fr bk) {k fr2 : Int} {bk2 : List Int} (ht : TakeN O fr bk k fr2 bk2) (hk : k ≤ 200) : PoolOK (fun i => O i || decide (i = k)) fr2 bk2 := by
  have hl := h.least ht
  have f1 := h.fr
  obtain ⟨⟨n1, n2, n3⟩, ⟨rfl, rfl, hb⟩ | ⟨hne, hlt, rfl, hpm, hhp⟩⟩ := ht
  · have hn : bk2 = [] := by
      rcases hb with hb | hb
      · exact hb
      · rcases Decidable.em (bk2 = []) with q | q
        · exact q
        · have := (h.bk _ (getD0_mem q)).2.1; omega
    subst hn
    exact ⟨by omega, h.hp, h.nd, fun x hx => by simp at hx, fun i a b => .inl (by simp [hl.2.2 i a b]), fun i hi => by
      simp only [Bool.or_eq_true, decide_eq_true_eq] at hi
      rcases hi with hi | hi
      · exact h.out i hi
      · omega⟩
  · have hsub : ∀ x, x ∈ bk2 → x ∈ bk := fun x hx => hpm.mem_iff.1 (by simp [hx])
    have hnd : (bk2 ++ [bk.getD 0 0]).Nodup := hpm.nodup_iff.2 h.nd
    rw [List.nodup_append] at hnd
    have f2 : fr2 ≤ 201 := by
      by_cases e : fr2 = fr
      · omega
      · have := h.out (fr2 - 1) (n3 (fr2 - 1) (by omega) (by omega)); omega
    refine ⟨by omega, hhp, hnd.1, fun x hx => ?_, fun i a b => ?_, fun i hi => ?_⟩
    · have q := h.bk x (hsub x hx)
      refine ⟨q.1, by omega, ?_⟩
      have : x ≠ bk.getD 0 0 := hnd.2.2 x hx _ (by simp)
      simp only [q.2.2, Bool.false_or, decide_eq_false_iff_not]
      exact this
    · by_cases c : i < fr
      · rcases h.all i a c with q | q
        · exact .inl (by simp [q])
        · have := hpm.mem_iff.2 q
          rw [List.mem_append, List.mem_singleton] at this
          rcases this with r | r
          · exact .inr r
          · exact .inl (by simp only [Bool.or_eq_true, decide_eq_true_eq]; exact .inr r)
      · exact .inl (by rw [n3 i (by omega) b]; rfl)
    · simp only [Bool.or_eq_true, decide_eq_true_eq] at hi
      rcases hi with hi | hi
      · exact h.out i hi
      · omega
theorem PoolOK.give {O : Int → Bool} {fr : Int} {bk : List Int} (h : PoolOK O fr bk) {n : Int} {bk2 : List Int} (hn : O n = true) (hg : GiveR fr bk n bk2) : PoolOK (fun i => O i && !decide (i = n)) fr bk2 := by
  have hn2 := h.out n hn
  have hnb : n ∉ bk := fun q => by rw [(h.bk n q).2.2] at hn; cases hn
  rcases hg with ⟨hlt, hpm, hhp⟩ | ⟨hge, rfl⟩
  · refine ⟨h.fr, hhp, hpm.nodup_iff.2 (List.nodup_append.2 ⟨h.nd, by simp, fun a ha b hb => by rw [List.mem_singleton] at hb; rw [hb]; intro e; exact hnb (e ▸ ha)⟩), fun x hx => ?_, fun i a b => ?_, fun i hi => ?_⟩
    · have := hpm.mem_iff.1 hx
      rw [List.mem_append, List.mem_singleton] at this
      rcases this with r | r
      · have q := h.bk x r; exact ⟨q.1, q.2.1, by simp [q.2.2]⟩
      · subst r; exact ⟨hn2.1, hlt, by simp⟩
    · by_cases e : i = n
      · exact .inr (hpm.mem_iff.2 (by rw [List.mem_append, List.mem_singleton]; exact .inr e))
      · rcases h.all i a b with r | r
        · exact .inl (by simp [r, e])
        · exact .inr (hpm.mem_iff.2 (by rw [List.mem_append]; exact .inl r))
    · simp only [Bool.and_eq_true] at hi
      exact h.out i hi.1
  · refine ⟨h.fr, h.hp, h.nd, fun x hx => ?_, fun i a b => ?_, fun i hi => ?_⟩
    · have q := h.bk x hx; exact ⟨q.1, q.2.1, by simp [q.2.2]⟩
    · rcases h.all i a b with r | r
      · have : i ≠ n := by omega
        exact .inl (by simp [r, this])
      · exact .inr r
    · simp only [Bool.and_eq_true] at hi
      exact h.out i hi.1
/-! ### what holds of such a list -/
def childL (L : List Item) (c p : Int) : Prop := ∃ x ∈ L, x.inn = p ∧ x.e.dir = true ∧ x.e.node = c
structure LI (enc : Int) (L : List Item) (next : Int) : Prop where
  node : ∀ x ∈ L, 1 ≤ x.e.node ∧ x.e.node ≤ 200
  good : ∀ x ∈ L, GoodN x.e.name
  cook : ∀ x ∈ L, 1 ≤ x.e.cookie ∧ x.e.cookie < next
  short : ∀ x ∈ L, 0 ≤ x.e.short ∧ x.e.short < next
  fits : ∀ x ∈ L, (x.e.short = 0 ↔ (presS enc x.e.name).size ≤ 255)
  home : ∀ x ∈ L, dirL L x.inn = true
  asc : L.Pairwise fun x y => x.e.cookie < y.e.cookie
  uniq : L.Pairwise fun x y => x.e.node ≠ y.e.node
  names : L.Pairwise fun x y => x.inn = y.inn → x.e.name ≠ y.e.name
  shorts : L.Pairwise fun x y => x.inn = y.inn → x.e.short ≠ 0 → x.e.short = y.e.short → hashI x.e.name ≠ hashI y.e.name
  wf : ∀ d, Acc (childL L) d
  len : (L.length : Int) < next
structure TR (enc : Int) (L : List Item) (T : TreS) : Prop where
  dirs : ∀ d, T.dirs d = dirsL L d
  files : ∀ n, T.files n = fileL L n
  out : ∀ n, T.out n = outL L n
  pool : PoolOK T.out T.fr T.bk
  li : LI enc L T.next
theorem uniq_eq {L : List Item} (h : L.Pairwise fun x y => x.e.node ≠ y.e.node) : ∀ {x y : Item}, x ∈ L → y ∈ L → x.e.node = y.e.node → x = y := by
  induction h with
  | nil => intro x y hx; cases hx
  | cons h1 h2 ih =>
    intro x y hx hy e
    rcases List.mem_cons.1 hx with hx1 | hx1
    · rcases List.mem_cons.1 hy with hy1 | hy1
      · rw [hx1, hy1]
      · rw [hx1] at e; exact absurd e (h1 _ hy1)
    · rcases List.mem_cons.1 hy with hy1 | hy1
      · rw [hy1] at e; exact absurd e.symm (h1 _ hx1)
      · exact ih hx1 hy1 e
theorem LI.file_dir {enc : Int} {L : List Item} {next : Int} (h : LI enc L next) {x : Item} (hx : x ∈ L) (hd : x.e.dir = false) : dirL L x.e.node = false := by
  rw [Bool.eq_false_iff]
  intro q
  rcases dirL_iff.1 q with q | ⟨y, hy, e1, e2⟩
  · have := h.node x hx; omega
  · rw [uniq_eq h.uniq hy hx e1] at e2; rw [hd] at e2; cases e2
theorem LI.zero {enc : Int} : LI enc [] 1 := by
  refine ⟨?_, ?_, ?_, ?_, ?_, ?_, .nil, .nil, .nil, .nil, fun d => ⟨_, fun c hc => ?_⟩, by simp⟩
  all_goals first | (intro x hx; cases hx; done) | skip
  obtain ⟨x, hx, _⟩ := hc
  cases hx
/-! ### Link -/
theorem LI.link {enc : Int} {L : List Item} {next : Int} (h : LI enc L next) {d : Int} {name : ByteArray} {isDir : Bool} {short k : Int} (hd : dirL L d = true) (hk : 1 ≤ k ∧ k ≤ 200) (hk2 : outL L k = false) (hg : GoodN name) (hs : 0 ≤ short ∧ short ≤ next) (hf : short = 0 ↔ (presS enc name).size ≤ 255)
    (hn : ∀ e ∈ inL L d, e.name ≠ name) (hsh : ∀ e ∈ inL L d, e.short ≠ 0 → e.short = short → hashI e.name ≠ hashI name) : LI enc (L ++ [⟨d, ⟨name, k, isDir, next, short⟩⟩]) (next + 1) := by
  have hnk : ∀ x ∈ L, x.e.node ≠ k := fun x hx e => by rw [Bool.eq_false_iff] at hk2; exact hk2 (outL_iff.2 ⟨x, hx, e⟩)
  have hkd : d ≠ k := fun e => by
    rcases dirL_iff.1 hd with q | ⟨y, hy, e1, _⟩
    · omega
    · exact hnk y hy (e1.trans e)
  have hkc : ∀ x ∈ L, x.inn ≠ k := fun x hx e => by
    rcases dirL_iff.1 (h.home x hx) with q | ⟨y, hy, e1, _⟩
    · omega
    · exact hnk y hy (e1.trans e)
  have hl := h.len
  refine ⟨?_, ?_, ?_, ?_, ?_, ?_, ?_, ?_, ?_, ?_, ?_, by simp; omega⟩
  · intro x hx; rcases List.mem_append.1 hx with hx | hx
    · exact h.node x hx
    · rw [List.mem_singleton] at hx; subst hx; exact hk
  · intro x hx; rcases List.mem_append.1 hx with hx | hx
    · exact h.good x hx
    · rw [List.mem_singleton] at hx; subst hx; exact hg
  · intro x hx; rcases List.mem_append.1 hx with hx | hx
    · have := h.cook x hx; omega
    · rw [List.mem_singleton] at hx; subst hx; exact ⟨by show 1 ≤ next; omega, by show next < next + 1; omega⟩
  · intro x hx; rcases List.mem_append.1 hx with hx | hx
    · have := h.short x hx; omega
    · rw [List.mem_singleton] at hx; subst hx; exact ⟨hs.1, by show short < next + 1; omega⟩
  · intro x hx; rcases List.mem_append.1 hx with hx | hx
    · exact h.fits x hx
    · rw [List.mem_singleton] at hx; subst hx; exact hf
  · intro x hx
    rw [dirL_append]
    rcases List.mem_append.1 hx with hx | hx
    · rw [h.home x hx]; rfl
    · rw [List.mem_singleton] at hx; subst hx; rw [show dirL L d = true from hd]; rfl
  · rw [List.pairwise_append]
    exact ⟨h.asc, List.pairwise_singleton _ _, fun x hx y hy => by rw [List.mem_singleton] at hy; subst hy; exact (h.cook x hx).2⟩
  · rw [List.pairwise_append]
    exact ⟨h.uniq, List.pairwise_singleton _ _, fun x hx y hy => by rw [List.mem_singleton] at hy; subst hy; exact hnk x hx⟩
  · rw [List.pairwise_append]
    exact ⟨h.names, List.pairwise_singleton _ _, fun x hx y hy => by rw [List.mem_singleton] at hy; subst hy; exact fun e => hn _ (mem_inL.2 ⟨x, hx, e, rfl⟩)⟩
  · rw [List.pairwise_append]
    exact ⟨h.shorts, List.pairwise_singleton _ _, fun x hx y hy => by rw [List.mem_singleton] at hy; subst hy; exact fun e => hsh _ (mem_inL.2 ⟨x, hx, e, rfl⟩)⟩
  · have hak : Acc (childL (L ++ [⟨d, ⟨name, k, isDir, next, short⟩⟩])) k := ⟨_, fun c hc => by
      obtain ⟨x, hx, e1, _⟩ := hc
      rcases List.mem_append.1 hx with hx | hx
      · exact absurd e1 (hkc x hx)
      · rw [List.mem_singleton] at hx; subst hx; exact absurd e1 hkd⟩
    intro p
    induction h.wf p with
    | intro p _ ih =>
      refine ⟨_, fun c hc => ?_⟩
      obtain ⟨x, hx, e1, e2, e3⟩ := hc
      rcases List.mem_append.1 hx with hx | hx
      · exact ih c ⟨x, hx, e1, e2, e3⟩
      · rw [List.mem_singleton] at hx; subst hx
        have e3 : k = c := e3
        rw [← e3]; exact hak
theorem TR.link {enc : Int} {L : List Item} {T : TreS} (h : TR enc L T) {d : Int} {name : ByteArray} {isDir : Bool} {short k fr2 : Int} {bk2 : List Int} (ht : TakeN T.out T.fr T.bk k fr2 bk2) (hk : k ≤ 200) (hok : LinkOk T d name short) (hs : short ≤ T.next) (hf : short = 0 ↔ (presS enc name).size ≤ 255)
    (hsh : ∀ e ∈ inL L d, e.short ≠ 0 → e.short = short → hashI e.name ≠ hashI name) : TR enc (L ++ [⟨d, ⟨name, k, isDir, T.next, short⟩⟩]) (linkT T d name isDir short k fr2 bk2) := by
  obtain ⟨ok, k1, kall⟩ := h.pool.least ht
  obtain ⟨l, hl, hg, hs0, hs1, hfi⟩ := hok
  rw [h.dirs] at hl
  unfold dirsL at hl
  by_cases hd : dirL L d = true
  case neg => rw [if_neg hd] at hl; cases hl
  rw [if_pos hd] at hl
  injection hl with hl
  subst hl
  have hok2 : outL L k = false := by rw [← h.out]; exact ok
  have hli := h.li.link (isDir := isDir) hd ⟨k1, hk⟩ hok2 hg ⟨hs0, hs⟩ hf (fun e he q => by have := fidx_neg hfi e he; rw [Bool.eq_false_iff] at this; exact this (nameB_iff.2 q)) hsh
  have hnk : ∀ x ∈ L, x.e.node ≠ k := fun x hx e => by rw [Bool.eq_false_iff] at hok2; exact hok2 (outL_iff.2 ⟨x, hx, e⟩)
  have hkc : ∀ x ∈ L, x.inn ≠ k := fun x hx e => by
    rcases dirL_iff.1 (h.li.home x hx) with q | ⟨y, hy, e1, _⟩
    · omega
    · exact hnk y hy (e1.trans e)
  have hkd : d ≠ k := fun e => by
    rcases dirL_iff.1 hd with q | ⟨y, hy, e1, _⟩
    · omega
    · exact hnk y hy (e1.trans e)
  have hink : inL L k = [] := by
    cases hq : inL L k with
    | nil => rfl
    | cons e r =>
      obtain ⟨x, hx, e1, _⟩ := mem_inL.1 (show e ∈ inL L k by rw [hq]; simp)
      exact absurd e1 (hkc x hx)
  have hdk : dirL L k = false := by
    rw [Bool.eq_false_iff]
    intro q
    rcases dirL_iff.1 q with q | ⟨y, hy, e1, _⟩
    · omega
    · exact hnk y hy e1
  refine ⟨fun i => ?_, fun n => ?_, fun n => ?_, h.pool.take ht hk, hli⟩
  · unfold linkT putT nodeT dirsL
    simp only
    rw [dirL_append, inL_append, inL_one]
    by_cases ei : i = d
    · subst ei
      rw [if_pos rfl, if_pos (show (dirL L i || [(⟨i, ⟨name, k, isDir, T.next, short⟩⟩ : Item)].any fun x => decide (x.e.node = i) && x.e.dir) = true by rw [hd]; rfl), if_pos rfl]
      cases isDir with
      | false =>
        simp only [Bool.false_eq_true, if_false]
        rw [h.dirs]
        unfold dirsL
        rw [if_pos hd]
        rfl
      | true =>
        simp only [if_true]
        rw [if_neg hkd, h.dirs]
        unfold dirsL
        rw [if_pos hd]
        rfl
    · rw [if_neg ei, if_neg (show ¬ d = i from fun e => ei e.symm), List.append_nil]
      by_cases ek : i = k
      · subst ek
        rw [hdk, hink]
        cases isDir with
        | false =>
          simp only [Bool.false_eq_true, if_false, List.any_cons, List.any_nil]
          rw [h.dirs]
          unfold dirsL
          rw [hdk]
          simp
        | true => simp
      · have e1 : ([(⟨d, ⟨name, k, isDir, T.next, short⟩⟩ : Item)].any fun x => decide (x.e.node = i) && x.e.dir) = false := by
          simp only [List.any_cons, List.any_nil, Bool.or_false, Bool.and_eq_false_imp, decide_eq_true_eq]
          intro q; exact absurd q.symm ek
        rw [e1, Bool.or_false]
        cases isDir with
        | false => simp only [Bool.false_eq_true, if_false]; rw [h.dirs]; rfl
        | true => simp only [if_true]; rw [if_neg ek, h.dirs]; rfl
  · unfold linkT putT nodeT fileL
    simp only
    rw [List.any_append]
    cases isDir with
    | false =>
      simp only [Bool.false_eq_true, if_false, List.any_cons, List.any_nil, Bool.not_false, Bool.and_true, Bool.or_false]
      rw [h.files]
      unfold fileL
      congr 1
      exact decide_eq_decide.2 ⟨fun e => e.symm, fun e => e.symm⟩
    | true =>
      simp only [if_true, List.any_cons, List.any_nil, Bool.not_true, Bool.and_false, Bool.or_false]
      rw [h.files]
      rfl
  · unfold linkT putT nodeT outL
    simp only
    rw [List.any_append, h.out]
    unfold outL
    simp only [List.any_cons, List.any_nil, Bool.or_false]
    congr 1
    exact decide_eq_decide.2 ⟨fun e => e.symm, fun e => e.symm⟩
end Go.Proofs.YtpmlggjhfiljmaaGreatDoor
