/- Part 30 of what the law rests on. -/
import Derived.Lib.SliceRun
import Derived.Laws.IdiomCopy
import Derived.Deep.DrawnRows
import Derived.Test.YtpmlggjhfiljmaaGreatDoorL04
import Derived.Test.YtpmlggjhfiljmaaGreatDoorL09
import Derived.Test.YtpmlggjhfiljmaaGreatDoorL10
import Derived.Test.YtpmlggjhfiljmaaGreatDoorL19
import Derived.Test.YtpmlggjhfiljmaaGreatDoorL27
import Derived.Test.YtpmlggjhfiljmaaGreatDoorL29
set_option linter.all false
namespace Go.Proofs.YtpmlggjhfiljmaaGreatDoor
open Go.RowKit
open Go.RowKit
theorem ecs_drop : ∀ (k : Nat) (l : List Ent), ecs (l.drop k) = (ecs l).drop (k * 5)
  | 0, l => by simp
  | k + 1, [] => by simp [ecs]
  | k + 1, x :: l => by
    have ih := ecs_drop k l
    rw [List.drop_succ_cons, ih]
    have : ecs (x :: l) = ec x ++ ecs l := by unfold ecs; rw [List.flatMap_cons]
    rw [this, show (k + 1) * 5 = (ec x).length + k * 5 by simp [ec]; omega, List.drop_append]
    simp
theorem ecs_take : ∀ (k : Nat) (l : List Ent), ecs (l.take k) = (ecs l).take (k * 5)
  | 0, l => by simp [ecs]
  | k + 1, [] => by simp [ecs]
  | k + 1, x :: l => by
    have ih := ecs_take k l
    have e1 : ecs (x :: l) = ec x ++ ecs l := by unfold ecs; rw [List.flatMap_cons]
    have e2 : ecs (x :: l.take k) = ec x ++ ecs (l.take k) := by unfold ecs; rw [List.flatMap_cons]
    rw [List.take_succ_cons, e2, e1, ih, show (k + 1) * 5 = (ec x).length + k * 5 by simp [ec]; omega, List.take_append, List.take_of_length_le (by omega : (ec x).length ≤ (ec x).length + k * 5)]
    simp
section
variable (a0 : Option Addr) (ln cp : Nat) (cur n : Int) (w : World)
end
end Go.Proofs.YtpmlggjhfiljmaaGreatDoor
namespace Go.Proofs.YtpmlggjhfiljmaaGreatDoor
open Go.RowKit
theorem step_append_part {ops : Array Oper} {o : Oper} {a : Act} {w : World} {K : Act → World → Prop} {Q : Exit → Act → World → Prop} {E : Prop} (hg : o.guard = none) (s x : Operand)
    (ho : o.op = .call { callee := .builtin .append, args := #[s, x], argTypes := #[83, 83] })
    (A : Nat → Prop) (g n cap : Nat) (xs : List Value) (hown : OwnA w A 88 5 (.slice (some ⟨g, 0, none⟩) n cap) n xs) (ad : Addr) (m c : Nat) (news : List Value)
    (hs : a.eval s = .slice (some ⟨g, 0, none⟩) n cap) (hx : a.eval x = .slice (some ad) m c) (hl : news.length = m * 5) (hn : ∀ j u, news[j]? = some u → w.cell? (ad.add j) = some u) (h1 : ∀ u ∈ news, u.oneCell' = true) (hroom : n + m ≤ cap)
    (hK : ∀ w', OwnA w' A 88 5 (.slice (some ⟨g, 0, none⟩) (n + m) cap) (n + m) (xs ++ news) → Mut (fun k => k = g) w w' → K (a.put o.dst (.slice (some ⟨g, 0, none⟩) (n + m) cap)) w') :
    if Region.wanted o (yielded ops a.tmps) = true then Oper.wp Tryz.prog o a w K Q else E := by
  have hw : Region.wanted o (yielded ops a.tmps) = true := by simp [Region.wanted, hg]
  rw [if_pos hw]
  obtain ⟨i0, hi0, hz0, hz1, hz2⟩ := info_partsG infoEnt
  obtain ⟨w', hrun, r1, r2⟩ := run_append_fits (P := Tryz.prog) w 0 83 o.type 88 i0 5 Tryz.underlying83 hi0 hz1 g n cap xs hown.1 ad m c news hl hn h1 hroom
  unfold Oper.wp
  simp [execOp, ho, resolve, invoke, builtin, hs, hx, hrun, Result.andThen]
  exact hK w' ⟨r1, fun g' hg' => hown.2 g' hg'⟩ ⟨r2.os, r2.tape, r2.output, r2.size, fun k hk hn => r2.block k hk (fun e => hn (Option.some.inj e))⟩
theorem OwnE.shrink {w : World} {A : Nat → Prop} {g c : Nat} {l : List Ent} (h : OwnE w A (.slice (some ⟨g, 0, none⟩) l.length c) l) {m : Nat} (hm : m ≤ l.length) : OwnE w A (.slice (some ⟨g, 0, none⟩) m c) (l.take m) := by
  obtain ⟨⟨h1, ⟨h2, _⟩ | ⟨g', cap, cur, hv, hb, hh, q1, q2, q3, q4⟩⟩, hA⟩ := h
  · cases h2
  · injection hv with hv1 hv2 hv3
    injection hv1 with hv1
    injection hv1 with hv1
    subst hv1 hv3
    have hl : (l.take m).length = m := by simp; omega
    unfold OwnE
    rw [hl, ecs_take, ← q4, List.take_take]
    refine ⟨⟨by rw [List.length_take, Array.length_toList]; show min (min (m * 5) (l.length * 5)) cur.size = m * 5; rw [q3]; omega, .inr ⟨g, c, cur, rfl, hb, hh, by omega, q2, q3, ?_⟩⟩, hA⟩
    congr 1
    omega
theorem OwnA.beyond {w : World} {A : Nat → Prop} {e : TypeId} {sz n g c : Nat} {xs : List Value} (h : OwnA w A e sz (.slice (some ⟨g, 0, none⟩) n c) n xs) {j : Nat} (hj : n * sz ≤ j) (u : Value) : OwnA (w.setCell ⟨g, j, none⟩ u) A e sz (.slice (some ⟨g, 0, none⟩) n c) n xs := by
  obtain ⟨⟨h1, ⟨h2, _⟩ | ⟨g', cap, cur, hv, hb, hh, q1, q2, q3, q4⟩⟩, hA⟩ := h
  · cases h2
  · injection hv with hv1 hv2 hv3
    injection hv1 with hv1
    injection hv1 with hv1
    subst hv1 hv3
    refine ⟨⟨h1, .inr ⟨g, c, cur.setIfInBounds j u, rfl, hb, Blk.set (show Blk w g e cur from hh), q1, q2, by simpa using q3, ?_⟩⟩, hA⟩
    rw [Array.toList_setIfInBounds, List.take_set, List.set_eq_of_length_le (by rw [q4, h1]; exact hj)]
    exact q4
set_option maxRecDepth 100000 in
theorem zeroEnt (w : World) : (zeroValue 88).run Tryz.prog w = .ok (.agg #[.string ⟨#[]⟩, .int .i64 0, .bool false, .int .i64 0, .int .i64 0]) w := by kernel_rfl
def zeros5 : List Value := [.string ⟨#[]⟩, .int .i64 0, .bool false, .int .i64 0, .int .i64 0]
set_option maxRecDepth 100000 in
theorem clear_ent {A : Nat → Prop} {g q c cc : Nat} {xs : List Value} {w : World} (h : OwnA w A 88 5 (.slice (some ⟨g, 0, none⟩) q c) q xs) (hc : q + 1 ≤ c) :
    (Builtin.clear_ #[83] 0 #[.slice (some ⟨g, q * 5, none⟩) 1 cc]).run Tryz.prog w = .ok (.tuple #[]) (w.setCells g (q * 5) zeros5) := by
  obtain ⟨⟨h1, ⟨h2, _⟩ | ⟨g', cap, cur, hv, hb, hh, q1, q2, q3, q4⟩⟩, hA⟩ := h
  · cases h2
  · injection hv with hv1 hv2 hv3
    injection hv1 with hv1
    injection hv1 with hv1
    subst hv1 hv3
    have hB : Blk w g 88 cur := hh
    have hst := run_storeCells_cells (P := Tryz.prog) g (q * 5) zeros5 0 w (fun j hj => by
      rw [hB.cell]
      have : q * 5 + 0 + j < cur.size := by have : j < 5 := hj; omega
      rw [Array.getElem?_eq_getElem this]; rfl) (fun j hj => hB.frozen _) (fun v hv => by simp [zeros5] at hv; rcases hv with rfl | rfl | rfl | rfl | rfl <;> rfl)
    simp only [Nat.add_zero] at hst
    have hz : (Builtin.zeroCells #[.string ⟨#[]⟩, .int .i64 0, .bool false, .int .i64 0, .int .i64 0] 1).toList = zeros5 := by kernel_rfl
    simp [Builtin.clear_, run_underlying Tryz.underlying83, zeroEnt, Value.cells, hz, hst]
theorem OwnA.cleared {A : Nat → Prop} {g q c : Nat} {xs : List Value} {w : World} (h : OwnA w A 88 5 (.slice (some ⟨g, 0, none⟩) q c) q xs) : OwnA (w.setCells g (q * 5) zeros5) A 88 5 (.slice (some ⟨g, 0, none⟩) q c) q xs ∧ Mut (fun k => k = g) w (w.setCells g (q * 5) zeros5) := by
  unfold zeros5
  simp only [World.setCells]
  refine ⟨((((h.beyond (by omega) _).beyond (by omega) _).beyond (by omega) _).beyond (by omega) _).beyond (by omega) _, ?_⟩
  exact (((((Mut.refl (fun k => k = g) w).setCell (p := ⟨g, q * 5, none⟩) (.inl rfl) _).setCell (p := ⟨g, q * 5 + 1, none⟩) (.inl rfl) _).setCell (p := ⟨g, q * 5 + 1 + 1, none⟩) (.inl rfl) _).setCell (p := ⟨g, q * 5 + 1 + 1 + 1, none⟩) (.inl rfl) _).setCell (p := ⟨g, q * 5 + 1 + 1 + 1 + 1, none⟩) (.inl rfl) _
set_option maxRecDepth 100000 in
set_option maxHeartbeats 3200000 in
theorem deleteE_any (A : Nat → Prop) (g c : Nat) (l : List Ent) (i : Nat) (w : World) (h : OwnE w A (.slice (some ⟨g, 0, none⟩) l.length c) l) (hi : i < l.length) (hl : l.length ≤ 100000) :
    Calls Tryz.prog 385 #[.slice (some ⟨g, 0, none⟩) l.length c, .int .i64 i, .int .i64 ((i + 1 : Nat) : Int)] w fun e w' => e = .returned (.slice (some ⟨g, 0, none⟩) (l.length - 1) c) ∧ OwnE w' A (.slice (some ⟨g, 0, none⟩) (l.length - 1) c) (l.take i ++ l.drop (i + 1)) ∧ Mut (fun k => k = g) w w' := by
  have hcap : l.length ≤ c := by
    obtain ⟨⟨h1, ⟨h2, _⟩ | ⟨g', cap, cur, hv, hb, hh, q1, q2, q3, q4⟩⟩, hA⟩ := h
    · cases h2
    · injection hv with hv1 hv2 hv3; omega
  have H := Lib.hid h
  obtain ⟨n, hn⟩ : ∃ n, l.length = n := ⟨_, rfl⟩
  have HN := Lib.hid hn
  rw [hn] at hi hl hcap ⊢
  have i0 : (0 : Int) ≤ (i : Int) := by omega
  have i1 : ((i + 1 : Nat) : Int) ≤ (n : Int) := by omega
  have i2 : (i : Int) ≤ ((i + 1 : Nat) : Int) := by omega
  have i3 : (n : Int) ≤ (c : Int) := by omega
  have i4 : ((i : Int) == ((i + 1 : Nat) : Int)) = false := by rw [beq_eq_false_iff_ne]; omega
  clear h hn
  by_cases hci : c = i + 1
  · obtain rfl : n = i + 1 := by omega
    subst hci
    go_enter Tryz.func385, Tryz.ntmps385
    go_wp2_with fail
    have HS : Hid (OwnA w A 88 5 (.slice (some ⟨g, 0, none⟩) i (i + 1)) i (ecs (l.take i))) := Lib.hid (by
      have hn := HN.out
      have x := OwnE.shrink (m := i) H.out (by omega)
      unfold OwnE at x
      rw [show (l.take i).length = i by simp; omega] at x
      exact x)
    have HD : Hid (l.drop (i + 1) = []) := Lib.hid (List.drop_eq_nil_of_le (by have := HN.out; omega))
    have q4 : (i : Int) ≤ (i : Int) + 1 := by omega
    have q5 : (0 : Int) ≤ (i : Int) + 1 := by omega
    go_region_law (refine step_append_part rfl (.tmp 22) (.tmp 25) rfl A g i (i + 1) (ecs (l.take i)) (HS.out.fresh (by repeat (first | exact Fresh.refl _ | refine Fresh.drew ?_))) ⟨g, 0, none⟩ 0 0 [] (by simp [Act.eval, Act.put]) (by simp [Act.eval, Act.put]) rfl (fun j u hj => by simp at hj) (fun u hu => by simp at hu) (by omega) ?_; intro w2 ho2 hu2)
    all_goals
      have hh2 := Lib.hid ho2
      have HC := Lib.hid (ho2.cleared)
      have hcl : (Builtin.clear_ #[83] 0 #[.slice (some ⟨g, i * 5, none⟩) 1 1]).run Tryz.prog w2 = .ok (.tuple #[]) (w2.setCells g (i * 5) zeros5) := clear_ent ho2 (by omega)
      clear ho2
      have k6 : i + 1 - i = 1 := by omega
      go_wp2
      go_ret
      refine ⟨rfl, ?_, ?_⟩
      · have x := HC.out.1
        rw [HD.out, List.append_nil]
        unfold OwnE
        rw [show (l.take i).length = i by have := HN.out; simp; omega]
        simp only [Nat.add_zero, List.append_nil] at x
        exact x
      · exact ((Mut.refl _ w).drew.trans hu2).trans HC.out.2
  · go_enter Tryz.func385, Tryz.ntmps385
    go_wp2_with fail
    have HS : Hid (OwnA w A 88 5 (.slice (some ⟨g, 0, none⟩) i c) i (ecs (l.take i))) := Lib.hid (by
      have hn := HN.out
      have x := OwnE.shrink (m := i) H.out (by omega)
      unfold OwnE at x
      rw [show (l.take i).length = i by simp; omega] at x
      exact x)
    have HL : Hid ((ecs (l.drop (i + 1))).length = (n - (i + 1)) * 5) := Lib.hid (by rw [ecs_len, List.length_drop, HN.out])
    have HNW : Hid (∀ j u, (ecs (l.drop (i + 1)))[j]? = some u → w.cell? ((⟨g, (i + 1) * 5, none⟩ : Addr).add j) = some u) := Lib.hid (fun j u hj => by
      rw [ecs_drop, List.getElem?_drop] at hj
      have x := H.out.1.cells (g := g) rfl ((i + 1) * 5 + j) u hj
      rw [Addr.add_lit, Nat.zero_add] at x
      rw [Addr.add_lit]
      exact x)
    have k1 : i ≤ c := by omega
    have k2 : i + 1 ≤ n := by omega
    have k3 : (i : Int) + 1 ≤ (n : Int) := by omega
    have k4 : (i : Int) ≤ (c : Int) := by omega
    have k5 : (0 : Int) ≤ (i : Int) + 1 := by omega
    go_region_law (refine step_append_part rfl (.tmp 22) (.tmp 25) rfl A g i c (ecs (l.take i)) (HS.out.fresh (by repeat (first | exact Fresh.refl _ | refine Fresh.drew ?_))) ⟨g, (i + 1) * 5, none⟩ (n - (i + 1)) (c - (i + 1)) (ecs (l.drop (i + 1))) (by simp [Act.eval, Act.put]) (by simp [Act.eval, Act.put]) HL.out HNW.out (ec_one _) (by omega) ?_; intro w2 ho2 hu2)
    all_goals
      rw [show i + (n - (i + 1)) = n - 1 by omega] at ho2 ⊢
      have hh2 := Lib.hid ho2
      have HC := Lib.hid (ho2.cleared)
      have hcl : (Builtin.clear_ #[83] 0 #[.slice (some ⟨g, (n - 1) * 5, none⟩) (n - (n - 1)) (c - (n - 1))]).run Tryz.prog w2 = .ok (.tuple #[]) (w2.setCells g ((n - 1) * 5) zeros5) := by
        rw [show n - (n - 1) = 1 by omega]
        exact clear_ent ho2 (by omega)
      clear ho2
      have k6 : n - 1 ≤ c := by omega
      have k7 : n ≤ c := by omega
      have k8 : n - 1 ≤ n := by omega
      have k9 : ((n - 1 : Nat) : Int) ≤ (n : Int) := by omega
      have k10 : ((n - 1 : Nat) : Int) ≤ (c : Int) := by omega
      have k11 : (0 : Int) ≤ ((n - 1 : Nat) : Int) := by omega
      go_wp2
      go_ret
      refine ⟨rfl, ?_, ?_⟩
      · have x := HC.out.1
        rw [← ecs_append] at x
        unfold OwnE
        rw [show (l.take i ++ l.drop (i + 1)).length = n - 1 by have := HN.out; simp; omega]
        exact x
      · exact ((Mut.refl _ w).drew.trans hu2).trans HC.out.2
open Go.RowKit
attribute [local go_sem ↓] Go.wp_at_zero Go.wp_at_succ
def dropT (T : TreS) (d : Int) (k : Nat) : TreS := { T with dirs := fun i => if i = d then some (((T.dirs d).getD []).take k ++ ((T.dirs d).getD []).drop (k + 1)) else T.dirs i }
theorem drop_fin {w w4 w6 : World} {A Ap : Nat → Prop} {t gd gf pp q : Nat} {T : TreS} {d : Int} {k : Nat} {Md Mf : Int → Option Value} {v4 : Value} {l : List Ent} (hApl : ∀ k, Ap k → k < w.heap.size) (h1 : Blk w t 159 #[.map (some gd), .map (some gf), .pointer (some ⟨pp, 0, none⟩), .int .i64 T.next]) (h2 : A t ∧ ¬ Ap t) (h3 : A gd ∧ ¬ Ap gd) (h4 : A gf ∧ ¬ Ap gf) (h5 : gd ≠ gf) (h6 : MapAt w gd q Md) (h7 : MapAt w gf q Mf)
    (h8 : ∀ i, Mf i = if T.files i = true then some (.int .i64 1) else none) (h9 : ∀ i l, T.dirs i = some l → ∃ v, Md i = some v ∧ OwnE w (fun g => A g ∧ ¬ Ap g) v l) (h10 : ∀ i, T.dirs i = none → Md i = none) (h12 : ∀ k, Ap k → A k) (h11 : PoolAt w Ap pp T.fr T.bk T.out q) (hl : T.dirs d = some l)
    (hf4 : Fresh w w4) (o4 : OwnE w4 (fun g => w.heap.size ≤ g) v4 (l.take k ++ l.drop (k + 1))) (m6 : MapAt w6 gd (q + 1) (fun i => if i = d then some v4 else Md i)) (u6 : Mut (fun j => j = gd) w4 w6) :
    TreeAt w6 (ext A w w6) t (dropT T d k) (q + 1) ∧ Mut A w w6 := by
  have hz4 := hf4.size
  have hz6 := u6.size
  have htd : t ≠ gd := h1.neMap h6
  have hw4 : MapAt w4 gd q Md := h6.fresh hf4
  have hmu : Mut A w w6 := (hf4.mut A).trans2 u6 (fun _ h => h) (fun j _ e => by rw [e]; exact h3.1)
  refine ⟨⟨gd, gf, pp, _, Mf, Ap, (h1.keep hf4).mut u6 htd, ⟨.inl h2.1, h2.2⟩, ⟨.inl h3.1, h3.2⟩, ⟨.inl h4.1, h4.2⟩, h5, m6, ((h7.fresh hf4).mut u6 (fun e => h5 e.symm)).mono (by omega), h8, fun i l' hi => ?_, fun i hi => ?_, fun k hk => .inl (h12 k hk), ((h11.fresh hf4).mut u6 (fun k hk e => h3.2 (e ▸ hk))).le (by omega)⟩, hmu⟩
  · unfold dropT at hi
    simp only [hl, Option.getD_some] at hi
    by_cases e : i = d
    · rw [if_pos e] at hi
      injection hi with hi
      subst hi
      refine ⟨v4, if_pos e, ?_⟩
      have o6 : OwnE w6 (fun g => w.heap.size ≤ g) v4 _ := OwnA.mutB o4 u6 (fun g hg e => OwnA.neMap o4 hw4 (by rw [hg, e]))
      exact OwnA.mono o6 (fun g hg hh => ⟨.inr ⟨by omega, hg⟩, fun q => by have := hApl g q; omega⟩)
    · rw [if_neg e] at hi
      obtain ⟨v, hv, ho⟩ := h9 i l' hi
      refine ⟨v, by rw [if_neg e]; exact hv, ?_⟩
      have oa : OwnE w4 _ v l' := OwnA.fresh ho hf4
      have o6 : OwnE w6 _ v l' := OwnA.mutB oa u6 (fun g hg e => OwnA.neMap oa hw4 (by rw [hg, e]))
      exact OwnA.mono o6 (fun g hg hh => ⟨.inl hh.1, hh.2⟩)
  · unfold dropT at hi
    simp only at hi
    by_cases e : i = d
    · rw [if_pos e] at hi; cases hi
    · rw [if_neg e] at hi; rw [if_neg e]; exact h10 i hi
set_option maxRecDepth 100000 in
set_option maxHeartbeats 3200000 in
theorem tdrop_any (w : World) (A : Nat → Prop) (t : Nat) (T : TreS) (q : Nat) (h : TreeAt w A t T q) (d : Int) (hd : I64 d) (name : ByteArray) (k : Nat) (l : List Ent) (hl : T.dirs d = some l) (hll : l.length ≤ 100000) (hk : fidx (nameB name) l = k) (hq : q ≤ 1000000) : Calls Tryz.prog 344 #[.pointer (some ⟨t, 0, none⟩), .int .i64 d, .string name] w (PutPost A t (dropT T d k) (q + 1) w) := by
  obtain ⟨gd, gf, pp, Md, Mf, Ap, hApl, h1, h2, h3, h4, h5, h6, h7, h8, h9, h10, h12, h11⟩ := h.open
  obtain ⟨v0, hv0, ho0⟩ := h9 d l hl
  have hkl : k < l.length := by have := fidx_lt (nameB name) l; omega
  have HH := Lib.hid (fun (w4 w6 : World) (v4 : Value) => drop_fin (w := w) (w4 := w4) (w6 := w6) (v4 := v4) (k := k) hApl h1 h2 h3 h4 h5 h6 h7 h8 h9 h10 h12 h11 hl)
  have c0 : w.cell? ⟨t, 0, none⟩ = some (.map (some gd)) := by rw [h1.cell]; rfl
  have htl := h1.lt
  have htd : t ≠ gd := h1.neMap h6
  have HCL := Lib.hid (fun W (hW : Fresh w W) => cloneE_any _ v0 l W ((OwnE.sl ho0).fresh hW) (by omega))
  obtain ⟨a0, cc0, rfl⟩ := ho0.shape
  have HV := Lib.hid hv0
  have H6 := Lib.hid h6
  have HK := Lib.hid hk
  clear h hApl h1 h4 h5 h7 h8 h9 h10 h12 h11 ho0 hv0 h6 hk
  go_enter Tryz.func344, Tryz.ntmps344
  go_wp2_with (at_lookup; refine wpList_lookI _ rfl _ _ 155 rfl 83 Tryz.underlying155 _ (zeroL _) gd q Md rfl H6.out d rfl hd (.slice a0 l.length cc0) (by rw [HV.out]; rfl) ?_)
  refine (HCL.out _ (Fresh.refl _)).mono ?_
  rintro e w1 ⟨v1, rfl, ho1, hf1⟩
  have hlen : 0 < l.length := by omega
  obtain ⟨g1, c1, rfl⟩ : ∃ g c, v1 = .slice (some ⟨g, 0, none⟩) l.length c := by
    obtain ⟨⟨_, ⟨h2, h3⟩ | ⟨g', cap, cur, hv, _⟩⟩, _⟩ := ho1
    · omega
    · exact ⟨_, _, hv⟩
  have HO1 := Lib.hid ho1
  have HF1 := Lib.hid hf1
  have HIX := Lib.hid (tindex_any w1 _ _ l name (OwnE.sl ho1) (by omega))
  rw [HK.out] at HIX
  clear ho1 hf1
  go_wp2_with fail
  refine HIX.out.mono ?_
  rintro e w2 ⟨rfl, hf2⟩
  have HF2 := Lib.hid (HF1.out.trans hf2)
  have HO2 : Hid (OwnE w2 (fun g => w.heap.size ≤ g) (.slice (some ⟨g1, 0, none⟩) l.length c1) l) := Lib.hid (OwnA.fresh HO1.out hf2)
  have c02 : w2.cell? ⟨t, 0, none⟩ = some (.map (some gd)) := (Below.cell HF2.out (p := ⟨t, 0, none⟩) htl).trans c0
  have HDE : Hid (∀ W, Fresh w2 W → Calls Tryz.prog 385 #[.slice (some ⟨g1, 0, none⟩) l.length c1, .int .i64 k, .int .i64 ((k : Int) + 1)] W fun e w' => e = .returned (.slice (some ⟨g1, 0, none⟩) (l.length - 1) c1) ∧ OwnE w' (fun g => w.heap.size ≤ g) (.slice (some ⟨g1, 0, none⟩) (l.length - 1) c1) (l.take k ++ l.drop (k + 1)) ∧ Mut (fun j => j = g1) W w') := Lib.hid (fun W hW => by have x := deleteE_any _ g1 c1 l k W (OwnA.fresh HO2.out hW) hkl hll; rw [show ((k + 1 : Nat) : Int) = (k : Int) + 1 by omega] at x; exact x)
  have n1 : t ≠ g1 := fun e => by have := HO1.out.2 g1 rfl; omega
  have HG1 : Hid (w.heap.size ≤ g1) := Lib.hid (HO1.out.2 g1 rfl)
  clear hf2
  have k1 : (k : Int) ≤ 100000 := by omega
  have HWR : Hid (IntKind.i64.wrap ((k : Int) + 1) = (k : Int) + 1) := Lib.hid (by rw [IntKind.wrap_i64]; omega)
  have k2 : (0 : Int) ≤ (k : Int) := by omega
  obtain ⟨n, hn⟩ : ∃ n, l.length = n := ⟨_, rfl⟩
  rw [hn] at HDE ⊢
  clear hn HCL HIX HV
  go_wp2_with fail
  go_region_held3 (fun W => W.cell? ⟨t, 0, none⟩ = some (.map (some gd))) (first | assumption | exact c02) (first
    | (go_at_call 385; rw [HWR.out]; refine (HDE.out _ (Fresh.refl _).drew).mono ?_; rintro en w4 ⟨rfl, o4, u4⟩; have hf4 : Fresh w w4 := Fresh.mut2 HF2.out.drew u4 (fun j hj => by rw [hj]; exact HG1.out); obtain ⟨w6, hrun6, m6, u6, z6⟩ := (H6.out.fresh hf4).storeRun Tryz.underlying155 (by omega) hd (.slice (some ⟨g1, 0, none⟩) (n - 1) c1); have hs4 : w4.cell? ⟨t, 0, none⟩ = some (.map (some gd)) := (Below.cell hf4 (p := ⟨t, 0, none⟩) htl).trans c0; have hs6 : w6.cell? ⟨t, 0, none⟩ = some (.map (some gd)) := (u6.cell (p := ⟨t, 0, none⟩) (by have := hf4.size; show t < _; omega) htd).trans hs4))
  all_goals
    have HE := Lib.hid (HH.out _ _ _ hf4 o4 m6 u6)
    clear o4 u4 m6 u6 hf4 hs4 hs6 hrun6
    go_wp2
    go_end0
    exact ⟨_, rfl, HE.out.1, HE.out.2, Gr.ext _ _ _⟩
end Go.Proofs.YtpmlggjhfiljmaaGreatDoor
namespace Go.Proofs.YtpmlggjhfiljmaaGreatDoor
def sw (l : List Int) (i j : Nat) : List Int := (l.set i (l.getD j 0)).set j (l.getD i 0)
theorem sw_len (l : List Int) (i j : Nat) : (sw l i j).length = l.length := by simp [sw]
theorem set_getD (l : List Int) (i k : Nat) (x : Int) (hi : i < l.length) : (l.set i x).getD k 0 = if k = i then x else l.getD k 0 := by
  rw [List.getD_eq_getElem?_getD, List.getElem?_set]
  by_cases e : k = i
  · subst e
    rw [if_pos rfl, if_pos rfl, if_pos hi]; rfl
  · rw [if_neg (fun h => e h.symm), if_neg e, List.getD_eq_getElem?_getD]
theorem sw_get {l : List Int} {i j : Nat} (hi : i < l.length) (hj : j < l.length) (k : Nat) : (sw l i j).getD k 0 = if k = j then l.getD i 0 else if k = i then l.getD j 0 else l.getD k 0 := by
  unfold sw
  rw [set_getD _ _ _ _ (by simpa using hj), set_getD _ _ _ _ hi]
theorem sw_perm {l : List Int} {i j : Nat} (hi : i < l.length) (hj : j < l.length) : (sw l i j).Perm l := by
  rw [List.perm_iff_count]
  intro b
  have ei : l.getD i 0 = l[i] := by rw [List.getD_eq_getElem?_getD, List.getElem?_eq_getElem hi]; rfl
  have ej : l.getD j 0 = l[j] := by rw [List.getD_eq_getElem?_getD, List.getElem?_eq_getElem hj]; rfl
  have hm : ∀ k (hk : k < l.length), l[k] = b → 1 ≤ l.count b := fun k hk e => by
    have := List.count_pos_iff.2 (e ▸ List.getElem_mem hk : b ∈ l)
    omega
  have q1 := hm i hi
  have q2 := hm j hj
  unfold sw
  rw [ei, ej]
  have hg : (l.set i l[j])[j]'(by simpa using hj) = l[j] := by
    rw [List.getElem_set]
    split
    · rfl
    · rfl
  rw [List.count_set (by simpa using hj), List.count_set hi, hg]
  obtain ⟨x, hx⟩ : ∃ x, l[i] = x := ⟨_, rfl⟩
  obtain ⟨y, hy⟩ : ∃ y, l[j] = y := ⟨_, rfl⟩
  rw [hx] at q1 ⊢
  rw [hy] at q2 ⊢
  by_cases h1 : x = b
  · have q := q1 h1
    by_cases h2 : y = b
    · simp [h1, h2]; omega
    · simp [h1, h2]; omega
  · by_cases h2 : y = b
    · simp [h1, h2]
    · simp [h1, h2]
def HpFrom (l : List Int) (n s : Nat) : Prop := ∀ c, 1 ≤ c → c < n → s ≤ (c - 1) / 2 → l.getD ((c - 1) / 2) 0 ≤ l.getD c 0
abbrev Hp (l : List Int) : Prop := HpFrom l l.length 0
theorem HpFrom.min {l : List Int} {n : Nat} (h : HpFrom l n 0) : ∀ k, k < n → l.getD 0 0 ≤ l.getD k 0 := by
  intro k
  induction k using Nat.strongRecOn with
  | _ k ih =>
    intro hk
    by_cases e : k = 0
    · subst e; exact Int.le_refl _
    · have a := ih ((k - 1) / 2) (by omega) (by omega)
      have b := h k (by omega) hk (Nat.zero_le _)
      omega
structure DownInv (l0 l : List Int) (n s i : Nat) : Prop where
  perm : l.Perm l0
  high : ∀ k, n ≤ k → l.getD k 0 = l0.getD k 0
  le : n ≤ l.length
  si : s ≤ i
  h1 : ∀ c, 1 ≤ c → c < n → s ≤ (c - 1) / 2 → (c - 1) / 2 ≠ i → l.getD ((c - 1) / 2) 0 ≤ l.getD c 0
  h2 : i ≠ s → s ≤ (i - 1) / 2 ∧ 1 ≤ i ∧ ∀ c, 1 ≤ c → c < n → (c - 1) / 2 = i → l.getD ((i - 1) / 2) 0 ≤ l.getD c 0
structure Downed (l0 l : List Int) (n s : Nat) : Prop where
  perm : l.Perm l0
  high : ∀ k, n ≤ k → l.getD k 0 = l0.getD k 0
  hp : HpFrom l n s
theorem DownInv.start {l : List Int} {n s : Nat} (hn : n ≤ l.length) (h : HpFrom l n (s + 1)) : DownInv l l n s s :=
  ⟨List.Perm.refl _, fun _ _ => rfl, hn, Nat.le_refl _, fun c a b d e => h c a b (by omega), fun e => absurd rfl e⟩
theorem DownInv.leaf {l0 l : List Int} {n s i : Nat} (h : DownInv l0 l n s i) (hn : n ≤ 2 * i + 1) : Downed l0 l n s :=
  ⟨h.perm, h.high, fun c a b d => h.h1 c a b d (by omega)⟩
theorem DownInv.stop {l0 l : List Int} {n s i j : Nat} (h : DownInv l0 l n s i) (hj : (j - 1) / 2 = i ∧ 1 ≤ j ∧ j < n) (hm : ∀ c, 1 ≤ c → c < n → (c - 1) / 2 = i → l.getD j 0 ≤ l.getD c 0) (hl : ¬ l.getD j 0 < l.getD i 0) : Downed l0 l n s :=
  ⟨h.perm, h.high, fun c a b d => by
    by_cases e : (c - 1) / 2 = i
    · have := hm c a b e; rw [e]; omega
    · exact h.h1 c a b d e⟩
theorem DownInv.step {l0 l : List Int} {n s i j : Nat} (h : DownInv l0 l n s i) (hj : (j - 1) / 2 = i ∧ 1 ≤ j ∧ j < n) (hm : ∀ c, 1 ≤ c → c < n → (c - 1) / 2 = i → l.getD j 0 ≤ l.getD c 0) (hl : l.getD j 0 < l.getD i 0) : DownInv l0 (sw l i j) n s j := by
  obtain ⟨e1, e2, e3⟩ := hj
  have hij : i < j := by omega
  have hn := h.le
  have hi : i < l.length := by omega
  have hjl : j < l.length := by omega
  have G := sw_get hi hjl
  refine ⟨(sw_perm hi hjl).trans h.perm, fun k hk => ?_, by rw [sw_len]; exact hn, by have := h.si; omega, fun c a b d e => ?_, fun _ => ⟨by rw [e1]; exact h.si, e2, fun c a b d => ?_⟩⟩
  · rw [G, if_neg (by omega), if_neg (by omega)]; exact h.high k hk
  · rw [G, G, if_neg e]
    by_cases ep : (c - 1) / 2 = i
    · rw [if_pos ep]
      by_cases ec : c = j
      · rw [if_pos ec]; omega
      · rw [if_neg ec, if_neg (by omega)]; exact hm c a b ep
    · rw [if_neg ep]
      by_cases ec : c = j
      · exact absurd (by rw [ec]; exact e1) ep
      · rw [if_neg ec]
        by_cases ei : c = i
        · rw [if_pos ei]
          have hs : i ≠ s := by intro q; rw [ei] at d; omega
          have := (h.h2 hs).2.2 j e2 e3 e1
          rw [ei]; exact this
        · rw [if_neg ei]; exact h.h1 c a b d ep
  · rw [G, G, e1, if_neg (by omega), if_pos rfl, if_neg (by omega), if_neg (by omega)]
    have := h.h1 c a b (by have := h.si; omega) (by omega)
    rw [d] at this
    exact this
structure UpInv (l0 l : List Int) (j : Nat) : Prop where
  perm : l.Perm l0
  lt : j < l.length
  h1 : ∀ c, 1 ≤ c → c < l.length → c ≠ j → l.getD ((c - 1) / 2) 0 ≤ l.getD c 0
  h2 : 1 ≤ j → ∀ c, 1 ≤ c → c < l.length → (c - 1) / 2 = j → l.getD ((j - 1) / 2) 0 ≤ l.getD c 0
theorem UpInv.start {l : List Int} (h : HpFrom l (l.length - 1) 0) (hl : 1 ≤ l.length) : UpInv l l (l.length - 1) :=
  ⟨List.Perm.refl _, by omega, fun c a b e => h c a (by omega) (Nat.zero_le _), fun _ c a b d => by omega⟩
theorem UpInv.stop {l0 l : List Int} {j : Nat} (h : UpInv l0 l j) (hs : j = 0 ∨ ¬ l.getD j 0 < l.getD ((j - 1) / 2) 0) : Hp l := fun c a b _ => by
  by_cases e : c = j
  · subst e
    rcases hs with hs | hs
    · omega
    · omega
  · exact h.h1 c a b e
theorem UpInv.step {l0 l : List Int} {j : Nat} (h : UpInv l0 l j) (h1 : 1 ≤ j) (hl : l.getD j 0 < l.getD ((j - 1) / 2) 0) : UpInv l0 (sw l ((j - 1) / 2) j) ((j - 1) / 2) := by
  have hj := h.lt
  obtain ⟨i, hi⟩ : ∃ i, (j - 1) / 2 = i := ⟨_, rfl⟩
  rw [hi] at hl ⊢
  have hil : i < l.length := by omega
  have G := sw_get hil hj
  refine ⟨(sw_perm hil hj).trans h.perm, by rw [sw_len]; exact hil, fun c a b e => ?_, fun hi1 c a b d => ?_⟩
  · rw [sw_len] at b
    rw [G, G]
    by_cases ec : c = j
    · rw [ec, hi, if_neg (by omega), if_pos rfl, if_pos rfl]; omega
    · rw [if_neg ec, if_neg e]
      by_cases ep : (c - 1) / 2 = j
      · rw [if_pos ep]
        have := h.h2 h1 c a b ep
        rw [hi] at this
        exact this
      · rw [if_neg ep]
        by_cases ei : (c - 1) / 2 = i
        · rw [if_pos ei]
          have := h.h1 c a b ec
          rw [ei] at this
          omega
        · rw [if_neg ei]; exact h.h1 c a b ec
  · rw [sw_len] at b
    have hp := h.h1 i hi1 hil (by omega)
    rw [G, G, if_neg (by omega), if_neg (by omega)]
    by_cases ec : c = j
    · rw [if_pos ec]; exact hp
    · rw [if_neg ec, if_neg (by omega)]
      have := h.h1 c a b ec
      rw [d] at this
      omega
open Go.RowKit
theorem OwnA.set {w : World} {A : Nat → Prop} {e : TypeId} {sz : Nat} {v : Value} {n : Nat} {xs : List Value} (h : OwnA w A e sz v n xs) {g : Nat} (hv : v.ownBlock = some g) {j : Nat} (hj : j < n * sz) (u : Value) : OwnA (w.setCell ⟨g, j, none⟩ u) A e sz v n (xs.set j u) := by
  obtain ⟨⟨h1, ⟨rfl, _⟩ | ⟨g', cap, cur, rfl, hb, hh, h2, h3, h4, h5⟩⟩, hA⟩ := h
  · cases hv
  · injection hv with hv
    subst hv
    refine ⟨⟨by rw [List.length_set]; exact h1, .inr ⟨g', cap, cur.setIfInBounds j u, rfl, hb, Blk.set (show Blk w g' e cur from hh), h2, h3, by simpa using h4, ?_⟩⟩, hA⟩
    rw [Array.toList_setIfInBounds, List.take_set, h5]
theorem ints_set (l : List Int) (j : Nat) (x : Int) : (ints l).set j (.int .i64 x) = ints (l.set j x) := by unfold ints; rw [List.map_set]
def OwnI (w : World) (A : Nat → Prop) (v : Value) (l : List Int) : Prop := OwnA w A 3 1 v l.length (ints l)
theorem OwnI.cells {w : World} {A : Nat → Prop} {v : Value} {l : List Int} (h : OwnI w A v l) (hl : 1 ≤ l.length) : ∃ g c, v = .slice (some ⟨g, 0, none⟩) l.length c ∧ A g ∧ g < w.heap.size ∧ ∀ j, j < l.length → w.cell? ⟨g, j, none⟩ = some (.int .i64 (l.getD j 0)) ∧ w.frozen? ⟨g, j, none⟩ = false := by
  have h0 := h
  obtain ⟨⟨h1, ⟨rfl, h2⟩ | ⟨g, cap, cur, rfl, hb, hh, h2, h3, h4, h5⟩⟩, hA⟩ := h
  · omega
  · refine ⟨g, cap, rfl, hA g rfl, (show Blk w g 3 cur from hh).lt, fun j hj => ⟨?_, (show Blk w g 3 cur from hh).frozen j⟩⟩
    have hz := h0.1.cells (g := g) rfl j (.int .i64 (l.getD j 0)) ?_
    · rw [Addr.add_lit, Nat.zero_add] at hz; exact hz
    unfold ints
    rw [List.getElem?_map, List.getElem?_eq_getElem hj, List.getD_eq_getElem?_getD, List.getElem?_eq_getElem hj]
    rfl
theorem OwnI.sw {w : World} {A : Nat → Prop} {g c : Nat} {l : List Int} (h : OwnI w A (.slice (some ⟨g, 0, none⟩) l.length c) l) {i j : Nat} (hi : i < l.length) (hj : j < l.length) :
    OwnI ((w.setCell ⟨g, i, none⟩ (.int .i64 (l.getD j 0))).setCell ⟨g, j, none⟩ (.int .i64 (l.getD i 0))) A (.slice (some ⟨g, 0, none⟩) l.length c) (sw l i j) := by
  unfold OwnI at *
  unfold Go.Proofs.YtpmlggjhfiljmaaGreatDoor.sw
  rw [List.length_set, List.length_set, ← ints_set, ← ints_set]
  exact (OwnA.set h (g := g) rfl (by omega) _).set (g := g) rfl (by omega) _
set_option maxRecDepth 100000 in
theorem islLess_any (g n c i j : Nat) (x y : Int) (w : World) (hi : i < n) (hj : j < n) (hn : n ≤ 1000000) (ci : w.cell? ⟨g, i, none⟩ = some (.int .i64 x)) (cj : w.cell? ⟨g, j, none⟩ = some (.int .i64 y)) :
    Calls Tryz.prog 431 #[.slice (some ⟨g, 0, none⟩) n c, .int .i64 i, .int .i64 j] w fun e w' => e = .returned (.bool (decide (x < y))) ∧ Fresh w w' := by
  have i0 : (0 : Int) ≤ (i : Int) := by omega
  have i1 : (i : Int) < (n : Int) := by omega
  have j0 : (0 : Int) ≤ (j : Int) := by omega
  have j1 : (j : Int) < (n : Int) := by omega
  go_enter Tryz.func431, Tryz.ntmps431
  go_wp2_with fail
  go_quiet (fail)
  all_goals
    go_wp2
    go_ret
    exact ⟨rfl, (Fresh.refl _).drewN _⟩
set_option maxRecDepth 100000 in
set_option maxHeartbeats 1600000 in
theorem islSwap_any (A : Nat → Prop) (g c i j : Nat) (l : List Int) (w : World) (h : OwnI w A (.slice (some ⟨g, 0, none⟩) l.length c) l) (hi : i < l.length) (hj : j < l.length) (hij : i ≠ j) (hn : l.length ≤ 1000000) :
    Calls Tryz.prog 433 #[.slice (some ⟨g, 0, none⟩) l.length c, .int .i64 i, .int .i64 j] w fun e w' => e = .returned (.tuple #[]) ∧ OwnI w' A (.slice (some ⟨g, 0, none⟩) l.length c) (sw l i j) ∧ Mut (fun k => k = g) w w' := by
  have H := Lib.hid (h.sw hi hj)
  obtain ⟨g', c', hv, hA, hg, hcl⟩ := h.cells (by omega)
  injection hv with hv1 _ hv2
  injection hv1 with hv1
  injection hv1 with hv1
  subst hv1 hv2
  obtain ⟨ci, fi⟩ := hcl i hi
  obtain ⟨cj, fj⟩ := hcl j hj
  obtain ⟨x, hx⟩ : ∃ x, l.getD i 0 = x := ⟨_, rfl⟩
  obtain ⟨y, hy⟩ : ∃ y, l.getD j 0 = y := ⟨_, rfl⟩
  rw [hx] at ci H
  rw [hy] at cj H
  obtain ⟨n, hn2⟩ : ∃ n, l.length = n := ⟨_, rfl⟩
  rw [hn2] at hi hj hn H ⊢
  have i0 : (0 : Int) ≤ (i : Int) := by omega
  have i1 : (i : Int) < (n : Int) := by omega
  have j0 : (0 : Int) ≤ (j : Int) := by omega
  have j1 : (j : Int) < (n : Int) := by omega
  clear hcl hx hy hn2 h
  go_enter Tryz.func433, Tryz.ntmps433
  go_wp2_with fail
  go_region
  all_goals
    go_wp2
    go_end0
    exact ⟨rfl, OwnA.fresh H.out ((Fresh.refl _).drew), (((Mut.refl (fun k => k = g) w).setCell (p := ⟨g, i, none⟩) (.inl rfl) _).setCell (p := ⟨g, j, none⟩) (.inl rfl) _).drew⟩
set_option maxRecDepth 100000 in
set_option maxHeartbeats 1600000 in
theorem islSwap_self (A : Nat → Prop) (g c i : Nat) (l : List Int) (w : World) (h : OwnI w A (.slice (some ⟨g, 0, none⟩) l.length c) l) (hi : i < l.length) (hn : l.length ≤ 1000000) :
    Calls Tryz.prog 433 #[.slice (some ⟨g, 0, none⟩) l.length c, .int .i64 i, .int .i64 i] w fun e w' => e = .returned (.tuple #[]) ∧ OwnI w' A (.slice (some ⟨g, 0, none⟩) l.length c) (sw l i i) ∧ Mut (fun k => k = g) w w' := by
  have H := Lib.hid (h.sw hi hi)
  obtain ⟨g', c', hv, hA, hg, hcl⟩ := h.cells (by omega)
  injection hv with hv1 _ hv2
  injection hv1 with hv1
  injection hv1 with hv1
  subst hv1 hv2
  obtain ⟨ci, fi⟩ := hcl i hi
  obtain ⟨x, hx⟩ : ∃ x, l.getD i 0 = x := ⟨_, rfl⟩
  rw [hx] at ci H
  obtain ⟨n, hn2⟩ : ∃ n, l.length = n := ⟨_, rfl⟩
  rw [hn2] at hi hn H ⊢
  have i0 : (0 : Int) ≤ (i : Int) := by omega
  have i1 : (i : Int) < (n : Int) := by omega
  clear hcl hx hn2 h
  go_enter Tryz.func433, Tryz.ntmps433
  go_wp2_with fail
  go_region
  all_goals
    go_wp2
    go_end0
    exact ⟨rfl, OwnA.fresh H.out ((Fresh.refl _).drew), (((Mut.refl (fun k => k = g) w).setCell (p := ⟨g, i, none⟩) (.inl rfl) _).setCell (p := ⟨g, i, none⟩) (.inl rfl) _).drew⟩
theorem islSwap_all (A : Nat → Prop) (g c i j : Nat) (l : List Int) (w : World) (h : OwnI w A (.slice (some ⟨g, 0, none⟩) l.length c) l) (hi : i < l.length) (hj : j < l.length) (hn : l.length ≤ 1000000) :
    Calls Tryz.prog 433 #[.slice (some ⟨g, 0, none⟩) l.length c, .int .i64 i, .int .i64 j] w fun e w' => e = .returned (.tuple #[]) ∧ OwnI w' A (.slice (some ⟨g, 0, none⟩) l.length c) (sw l i j) ∧ Mut (fun k => k = g) w w' := by
  by_cases e : i = j
  · subst e; exact islSwap_self A g c i l w h hi hn
  · exact islSwap_any A g c i j l w h hi hj e hn
end Go.Proofs.YtpmlggjhfiljmaaGreatDoor
