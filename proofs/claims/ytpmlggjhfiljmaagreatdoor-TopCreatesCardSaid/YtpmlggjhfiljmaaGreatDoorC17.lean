/- Contracts that the law rests on, part 17 of 50 (SrtJ, SrtK). Each states its own conditions. -/
import Derived.ArgAppend
import Derived.OwnWalk
import Derived.Test.YtpmlggjhfiljmaaGreatDoorC12
import Derived.Test.YtpmlggjhfiljmaaGreatDoorC16
/- SortStableFunc, order, split. -/
namespace Go.Proofs.YtpmlggjhfiljmaaGreatDoor
open Go.RowKit
set_option linter.unusedVariables false
set_option linter.unnecessarySimpa false
set_option linter.unusedSimpArgs false
set_option maxHeartbeats 800000 in
theorem sort_any (w0 : World) (g off n : Nat) (X : List Int) (w : World) (cap : Nat) (hn : n ≤ 1000000) (hoff : off ≤ 1000000) (h : Arr w0 g off n X w) :
    Calls Tryz.prog 172 #[.slice (some ⟨g, off, none⟩) n cap, .func (.func 173) #[] #[]] w (SortPost w0 g off n [] X []) := by
  have HX := Lib.hid (stable_any w0 g off n X w cap hn hoff h)
  clear h
  go_enter Tryz.func172, Tryz.ntmps172
  go_wp2_with fail
  refine HX.out.mono ?_
  rintro e w2 ⟨rfl, h2⟩
  go_wp2
  go_end0
  exact ⟨rfl, h2⟩
set_option maxHeartbeats 800000 in
theorem order_any (w0 : World) (g off n : Nat) (X : List Int) (w : World) (cap : Nat) (hn : n ≤ 1000000) (hoff : off ≤ 1000000) (h : Arr w0 g off n X w) :
    Calls Tryz.prog 122 #[.slice (some ⟨g, off, none⟩) n cap] w (SortPost w0 g off n [] X []) := by
  have HX := Lib.hid (sort_any w0 g off n X w cap hn hoff h)
  clear h
  go_enter Tryz.func122, Tryz.ntmps122
  go_wp2_with fail
  refine HX.out.mono ?_
  rintro e w2 ⟨rfl, h2⟩
  go_wp2
  go_end0
  exact ⟨rfl, h2⟩
set_option maxHeartbeats 800000 in
theorem stable_nil (w : World) (F : Value) : Calls Tryz.prog 257 #[.slice none 0 0, .int .i64 0, F] w (fun e w' => e = .returned (.tuple #[]) ∧ w' = w) := by
  go_enter Tryz.func257, Tryz.ntmps257
  go_wp2
  refine wp_loop_rounds 1 ?_
  rw [rounds_succ]
  go_wp2_with fail
  refine (insert_none _ _ 0 (by omega) w).mono ?_
  rintro e w1 ⟨rfl, rfl⟩
  go_wp2
  refine wp_loop_rounds 1 ?_
  rw [rounds_succ]
  go_wp2
  go_end0
  exact ⟨rfl, rfl⟩
set_option maxHeartbeats 800000 in
theorem order_nil (w : World) : Calls Tryz.prog 122 #[.slice none 0 0] w (fun e w' => e = .returned (.tuple #[]) ∧ w' = w) := by
  go_enter Tryz.func122, Tryz.ntmps122
  go_wp2_with fail
  go_enter Tryz.func172, Tryz.ntmps172
  go_wp2_with fail
  refine (stable_nil w _).mono ?_
  rintro e w1 ⟨rfl, rfl⟩
  go_wp2
  go_end0
  go_wp2
  go_end0
  exact ⟨rfl, rfl⟩
/-- a part of a slice of one's own, as an array -/
theorem own_arr {w : World} {B : Nat} {v : Value} {F G : List Int} (h : OwnR w B v (F ++ G)) (hG : 1 ≤ (F ++ G).length) :
    ∃ g cap, v = .slice (some ⟨g, 0, none⟩) (F.length + G.length) cap ∧ B ≤ g ∧ F.length + G.length ≤ cap ∧ Arr w g F.length G.length G w ∧
      (∀ M w', M.length = G.length → Arr w g F.length G.length M w' → OwnR w' B v (F ++ M)) := by
  obtain ⟨h1, h2 | ⟨g, cap, cur, hv, hb, hh, hc1, hc2, hs, ht⟩⟩ := h
  · exact absurd h2.2 (by omega)
  · have hlen : (F ++ G).length = F.length + G.length := List.length_append
    have hcell : ∀ i, i < F.length + G.length → cur[i]? = some (.int .i32 ((F ++ G).getD i 0)) := fun i hi => by
      have e1 : (cur.toList.take ((F ++ G).length * 1))[i]? = cur[i]? := by
        rw [List.getElem?_take_of_lt (by omega)]; simp
      rw [← e1, ht, List.getElem?_map, List.getElem?_eq_getElem (by omega), List.getD_eq_getElem?_getD, List.getElem?_eq_getElem (by omega)]
      rfl
    refine ⟨g, cap, by rw [← hlen]; exact hv, hb, by omega, ⟨rfl, ⟨rfl, rfl, rfl, Nat.le_refl _, fun _ _ _ => rfl⟩, cur, cur, hh, hh, rfl, by omega, fun _ _ => rfl, fun j hj => ?_⟩, fun M w' hM hA => ?_⟩
    · rw [hcell _ (by omega)]
      congr 2
      simp [List.getD_eq_getElem?_getD, List.getElem?_append_right]
    · obtain ⟨cs0, cs, k1, k2, k3, k4, k5, k6⟩ := hA.mem
      have e0 : cs0 = cur := by
        unfold Blk at k1
        rw [hh] at k1
        simp only [Option.some.injEq, Obj.cells.injEq] at k1
        exact k1.1.symm
      subst e0
      refine ⟨by simp, .inr ⟨g, cap, cs, by rw [hv]; simp [hM], hb, k2, by simp [hM]; omega, hc2, by omega, ?_⟩⟩
      apply List.ext_getElem?
      intro i
      by_cases hi : i < F.length + G.length
      · rw [List.getElem?_take_of_lt (by simp [hM]; omega)]
        have e2 : cs.toList[i]? = cs[i]? := by simp
        rw [e2]
        by_cases hF : i < F.length
        · rw [k5 i (.inl hF), hcell i hi]
          rw [List.getElem?_map, List.getElem?_append_left hF, List.getD_eq_getElem?_getD, List.getElem?_append_left hF, List.getElem?_eq_getElem hF]
          rfl
        · have := k6 (i - F.length) (by omega)
          rw [show F.length + (i - F.length) = i by omega] at this
          rw [this, List.getElem?_map, List.getElem?_append_right (by omega), List.getElem?_eq_getElem (by omega), List.getD_eq_getElem?_getD, List.getElem?_eq_getElem (by omega)]
          rfl
      · rw [List.getElem?_eq_none (by simp [hM]; omega), List.getElem?_eq_none (by simp [hM]; omega)]
def In32 (xs : List Int) : Prop := ∀ x ∈ xs, -2147483648 ≤ x ∧ x < 2147483648
def RunesPost (xs : List Int) (w : World) (e : Ending) (w' : World) : Prop := ∃ v, e = .returned v ∧ OwnR w' w.heap.size v xs ∧ Fresh w w'
theorem OwnR.base {w : World} {B B' : Nat} {v : Value} {xs : List Int} (h : OwnR w B v xs) (hb : B' ≤ B) : OwnR w B' v xs := by
  obtain ⟨h1, h2 | ⟨g, cap, cur, hv, hb2, r⟩⟩ := h
  · exact ⟨h1, .inl h2⟩
  · exact ⟨h1, .inr ⟨g, cap, cur, hv, by omega, r⟩⟩
theorem split_yes {r a b : Int} (h : splitI r = some (a, b)) (hr : -2147483648 ≤ r ∧ r < 2147483648) (w : World) : Calls Tryz.prog 171 #[.int .i32 r] w fun e w' => e = .returned (.tuple #[.int .i32 a, .int .i32 b, .bool true]) ∧ Fresh w w' :=
  (split_any r w hr).mono fun e w' ⟨he, hf⟩ => ⟨by unfold OptP at he; rw [h] at he; exact he, hf⟩
theorem split_not {r : Int} (h : splitI r = none) (hr : -2147483648 ≤ r ∧ r < 2147483648) (w : World) : Calls Tryz.prog 171 #[.int .i32 r] w fun e w' => e = .returned (.tuple #[.int .i32 0, .int .i32 0, .bool false]) ∧ Fresh w w' :=
  (split_any r w hr).mono fun e w' ⟨he, hf⟩ => ⟨by unfold OptP at he; rw [h] at he; exact he, hf⟩
set_option maxHeartbeats 1600000 in
theorem csplit_any : ∀ (k : Nat) (r : Int) (w : World), r.toNat ≤ k → -2147483648 ≤ r ∧ r < 2147483648 → Calls Tryz.prog 121 #[.int .i32 r] w (RunesPost (splits r) w)
  | k, r, w, hk, hr => by
    obtain ⟨i0, hi0, hz0, hz1, hz2⟩ := info_parts info32
    cases h : splitI r with
    | none =>
      have HS := Lib.hid (split_not h hr)
      have HN := Lib.hid (splits_none h)
      clear h
      go_enter Tryz.func121, Tryz.ntmps121
      go_wp2_with fail
      refine (HS.out _).mono ?_
      rintro e w1 ⟨rfl, hf⟩
      go_wp2
      go_ret
      rw [HN.out]
      refine ⟨_, rfl, ?_, hf.alloc _⟩
      have hsz := hf.size
      refine ⟨rfl, .inr ⟨_, 1, #[.int .i32 r], rfl, by simpa using hsz, heap_alloc_new _ _, by simp, by unfold maxLen; omega, rfl, rfl⟩⟩
    | some p =>
      obtain ⟨a, b⟩ := p
      have hf := splitI_facts h
      have HS := Lib.hid (split_yes h hr)
      have HN := Lib.hid (splits_some h)
      match k, hk with
      | 0, hk => exact absurd hk (by omega)
      | k + 1, hk =>
        have HIH := Lib.hid (fun w => csplit_any k a w (by omega) (by omega))
        clear h hf
        go_enter Tryz.func121, Tryz.ntmps121
        go_wp2_with fail
        refine (HS.out _).mono ?_
        rintro e w1 ⟨rfl, hf⟩
        go_wp2_with fail
        refine (HIH.out _).mono ?_
        rintro e w2 ⟨v, rfl, ho, hf2⟩
        have hown1 := ho.base hf.size
        have hf1 := hf.trans hf2
        have hlen := (splits_len a).2
        unfold OwnR at hown1
        clear ho hf hf2
        go_wp2_with (at_builtin; refine wpList_append_own _ rfl _ _ 50 rfl w.heap.size 21 i0 (.int .i32 0) 1 4 Tryz.underlying50 hi0 hz0 hz1 hz2 rfl (by decide) _ _ _ rfl (hown1.alloc _) ⟨w2.heap.size, 0, none⟩ 1 1 [.int .i32 b] rfl rfl ?c1 ?c2 ?c3 ?c4 ?c5 ?_)
        case c1 => exact cell_new1 _ _ _
        case c2 => intro u hu; simp at hu; subst hu; rfl
        case c3 => unfold maxLen; omega
        case c4 => omega
        case c5 => have := hf1.size; simp; omega
        intro v' w' hown' hgrow _
        have hn' := OwnR.push hown'
        have hf' := OwnR.fresh hf1 hown1 hgrow
        clear hown' hgrow hown1
        go_wp2
        go_ret
        rw [HN.out]
        exact ⟨_, rfl, hn', hf'⟩
theorem csplit (r : Int) (w : World) (hr : -2147483648 ≤ r ∧ r < 2147483648) : Calls Tryz.prog 121 #[.int .i32 r] w (RunesPost (splits r) w) := csplit_any _ r w (Nat.le_refl _) hr
end Go.Proofs.YtpmlggjhfiljmaaGreatDoor
/- compose.Apart. -/
namespace Go.Proofs.YtpmlggjhfiljmaaGreatDoor
open Go.RowKit
set_option linter.unusedVariables false
set_option linter.unnecessarySimpa false
set_option linter.unusedSimpArgs false
theorem own_base {w : World} {B B' : Nat} {e : TypeId} {size : Nat} {v : Value} {n : Nat} {xs : List Value} (h : w.ownsRow B e size v n xs) (hb : B' ≤ B) : w.ownsRow B' e size v n xs := by
  obtain ⟨h1, h2 | ⟨g, cap, cur, hv, hb2, r⟩⟩ := h
  · exact ⟨h1, .inl h2⟩
  · exact ⟨h1, .inr ⟨g, cap, cur, hv, by omega, r⟩⟩
/-- 'append' to what is one's own: it stays in its block, or lies in a new one -/
theorem wpList_append_own2 {P : Program} (w : World) {ops : Array Oper} {rest : List Oper} {o : Oper} {a : Act} {Q : Exit → Act → World → Prop} (hgd : o.guard = none) (s x : Operand) (t : TypeId)
    (ho : o.op = .call { callee := .builtin .append, args := #[s, x], argTypes := #[t, t] })
    (base : Nat) (e : TypeId) (i : TypeInfo) (z : Value) (size bytes : Nat) (ht : P.underlying t = some (.slice e)) (hi : P.info? e = some i) (hz : i.zero = some z)
    (hsize : i.size = size) (hby : i.bytes = bytes) (hzs : z.cells.size = size) (hsz : 0 < size)
    (v : Value) (n : Nat) (xs : List Value) (hs : a.eval s = v) (hown : w.ownsRow base e size v n xs)
    (ad : Addr) (m c : Nat) (news : List Value) (hx : a.eval x = .slice (some ad) m c) (hl : news.length = m * size) (hnews : ∀ j u, news[j]? = some u → w.cell? (ad.add j) = some u) (h1 : ∀ u ∈ news, u.oneCell' = true)
    (h63 : n + m ≤ maxLen) (hbytes : (n + m) * bytes ≤ 140737488355328) (hbase : base ≤ w.heap.size)
    (h : ∀ v' w', w'.ownsRow base e size v' (n + m) (xs ++ news) → w.grownBy w' v.ownBlock → (∀ g2, v'.ownBlock = some g2 → v.ownBlock = some g2 ∨ w.heap.size ≤ g2) → wpList P ops Q rest (a.put o.dst v') w') : wpList P ops Q (o :: rest) a w := by
  have h0 := hown
  obtain ⟨q1, ⟨q2, q3⟩ | ⟨g, cap, cur, hv, hb, hh, hc1, hc2, hcs, hct⟩⟩ := hown
  · have hx0 : xs = [] := by subst q3; exact List.eq_nil_of_length_eq_zero (by simpa using q1)
    subst q2 q3 hx0
    refine wpList_append_own w hgd s x t ho w.heap.size e i z size bytes ht hi hz hsize hby hzs hsz (.slice none 0 0) 0 [] hs (World.ownsRow_nil _ _ _ _) ad m c news hx hl hnews h1 h63 hbytes (Nat.le_refl _) fun v' w' r1 r2 _ => h v' w' (own_base r1 hbase) r2 fun g2 hg2 => .inr (r1.lt _ hg2).1
  · subst hv
    by_cases hr : n + m ≤ cap
    · exact wpList_append_fits w hgd s x t ho base e i size ht hi hsize g n cap xs hs h0 ad m c news hx hl hnews h1 hr fun w' r1 r2 => h _ w' r1 r2 fun g2 hg2 => .inl (by simpa [Value.ownBlock] using hg2)
    · exact wpList_append_grows w hgd s x t ho e i z size bytes ht hi hz hsize hby hzs hsz (some ⟨g, 0, none⟩) n cap xs hs (fun e => by cases e) q1 (fun b hb2 j u hj => by cases hb2; exact h0.cells rfl j u hj) ad m c news hx hl hnews h1 (by omega) h63 hbytes fun v' w' r1 r2 => h v' w' (own_base r1 hbase) ⟨r2.os, r2.tape, r2.output, r2.size, fun k hk _ => r2.block k hk (by simp)⟩ fun g2 hg2 => .inr (r1.lt _ hg2).1
/-! ### the plain steps -/
theorem ap_sort {F G M D : List Int} (hF : Nf F) (hG : Run G) (hh : F = [] ∨ ∃ c R, G = c :: R ∧ clsI c = 0) (ho : ordA (F ++ G) = ordA D) (h1 : SP G M) (h2 : Srt M) : F ++ M = ordA D := by
  have hM := run_ord hG h1 h2
  have e1 : ordA (F ++ M) = ordA D := by
    rw [← ho]; exact ordA_pre F (by rw [hM, ordA_idem])
  have e2 : Nf (F ++ M) := by
    rcases hh with e | ⟨c, R, e, hc⟩
    · rw [e]; exact nf_srt h2
    · have hM2 : ∃ R', M = c :: R' := by
        rw [hM, e]
        show ∃ R', ins c (ordA R) = c :: R'
        cases ordA R with
        | nil => exact ⟨[], rfl⟩
        | cons y R => simp only [ins]; rw [if_neg (by omega)]; exact ⟨_, rfl⟩
      obtain ⟨R', e3⟩ := hM2
      rw [e3] at h2 ⊢
      exact nf_app hc hF (nf_srt h2)
  rw [← nf_ord e2, e1]
theorem ordA_snoc {A D : List Int} (h : ordA A = ordA D) (x : Int) : ordA (A ++ [x]) = ordA (D ++ [x]) := ordA_congr h [x]
def ApIn (w : World) (D : List Int) (out from_ : Value) (wr : World) : Prop :=
  ∃ F G : List Int, from_ = .int .i64 (F.length : Nat) ∧ OwnR wr w.heap.size out (F ++ G) ∧ (F ++ G = [] → out = .slice none 0 0) ∧ Fresh w wr ∧ Nf F ∧ Run G ∧ (F = [] ∨ ∃ c R, G = c :: R ∧ clsI c = 0) ∧ ordA (F ++ G) = ordA D
/-- behind the sort -/
def ApMid (w : World) (D : List Int) (out : Value) (wr : World) : Prop := OwnR wr w.heap.size out (ordA D) ∧ (ordA D = [] → out = .slice none 0 0) ∧ Fresh w wr
theorem ApMid.push {w w' : World} {D : List Int} {out : Value} {x : Int} (hx : clsI x = 0) (h : OwnR w' w.heap.size out (ordA D ++ [x])) (hf : Fresh w w') : ApIn w (D ++ [x]) out (.int .i64 ((ordA D).length : Nat)) w' :=
  ⟨ordA D, [x], rfl, h, fun e => by simp at e, hf, ord_nf D, fun y hy => by simp at hy, .inr ⟨x, [], rfl, hx⟩, ordA_app D [x]⟩
theorem ApIn.push {w w' : World} {D F G : List Int} {out : Value} {x : Int} (hx : clsI x ≠ 0) (h : OwnR w' w.heap.size out (F ++ G ++ [x])) (hf : Fresh w w') (hF : Nf F) (hG : Run G) (hh : F = [] ∨ ∃ c R, G = c :: R ∧ clsI c = 0) (ho : ordA (F ++ G) = ordA D) :
    ApIn w (D ++ [x]) out (.int .i64 (F.length : Nat)) w' :=
  ⟨F, G ++ [x], rfl, by rwa [← List.append_assoc], fun e => by simp at e, hf, hF, fun y hy => by
    cases G with
    | nil => simp at hy
    | cons c R =>
      simp at hy
      rcases hy with e | e
      · exact hG y e
      · rw [e]; exact hx, by
    rcases hh with e | ⟨c, R, e, hc⟩
    · exact .inl e
    · exact .inr ⟨c, R ++ [x], by rw [e]; rfl, hc⟩, by rw [← List.append_assoc]; exact ordA_snoc ho x⟩
/-- what is split, beside what is made -/
def SpIn (w : World) (D s : List Int) (g2 : Nat) (out from_ i : Value) (wr : World) : Prop :=
  ∃ j : Nat, i = .int .i64 (j : Nat) ∧ j ≤ s.length ∧ ApIn w (D ++ s.take j) out from_ wr ∧ g2 < wr.heap.size ∧ out.ownBlock ≠ some g2 ∧ ∀ k, k < s.length → wr.cell? ⟨g2, k, none⟩ = some (.int .i32 (s.getD k 0))
def ApRel (w : World) (l : List Int) (out from_ i : Value) (wr : World) : Prop := ∃ k : Nat, i = .int .i64 (k : Nat) ∧ k ≤ l.length ∧ ApIn w (spl (l.take k)) out from_ wr
theorem take_snoc {l : List Int} {k : Nat} (h : k < l.length) : l.take (k + 1) = l.take k ++ [l.getD k 0] := by
  rw [List.take_add_one, List.getD_eq_getElem?_getD, List.getElem?_eq_getElem h]; rfl
theorem spl_snoc {l : List Int} {k : Nat} (h : k < l.length) : spl (l.take (k + 1)) = spl (l.take k) ++ splits (l.getD k 0) := by
  rw [take_snoc h, spl_app]; simp [spl]
theorem OwnR.apart {w : World} {B g2 : Nat} {v : Value} {xs : List Int} (h : OwnR w B v xs) (hg : w.heap.size ≤ g2) : v.ownBlock ≠ some g2 := fun e => by have := (h.lt g2 e).2; omega
theorem sp_next {w3 w4 : World} {s : List Int} {g2 : Nat} {v v' : Value} {o : Obj} (hcell : ∀ k, k < s.length → w3.cell? ⟨g2, k, none⟩ = some (.int .i32 (s.getD k 0))) (hg2 : g2 < w3.heap.size) (hne : v.ownBlock ≠ some g2)
    (hg : (w3.alloc o).grownBy w4 v.ownBlock) (hblk : ∀ g2, v'.ownBlock = some g2 → v.ownBlock = some g2 ∨ (w3.alloc o).heap.size ≤ g2) :
    g2 < w4.heap.size ∧ v'.ownBlock ≠ some g2 ∧ ∀ k, k < s.length → w4.cell? ⟨g2, k, none⟩ = some (.int .i32 (s.getD k 0)) := by
  have hsz := hg.size
  have ha := ((Fresh.refl w3).alloc o)
  have hsa : (w3.alloc o).heap.size = w3.heap.size + 1 := by simp
  refine ⟨by omega, fun e => ?_, fun k hk => ?_⟩
  · rcases hblk g2 e with h | h
    · exact hne h
    · omega
  · exact hg.cell ((Below.cell ha (p := ⟨g2, k, none⟩) hg2).trans (hcell k hk)) (fun e => hne e.symm)
set_option maxHeartbeats 3200000 in
set_option maxRecDepth 100000 in
theorem capt_any (u : Value) (l : List Int) (w : World) (hu : Sl w u l) (hl : l.length ≤ 10000) (h32 : In32 l) : Calls Tryz.prog 66 #[u] w (RunesPost (apt l) w) := by
  obtain ⟨i0, hi0, hz0, hz1, hz2⟩ := info_parts info32
  obtain ⟨a, ca, rfl, hu⟩ := hu
  rcases hu with rfl | ⟨b1, o1, rfl, hb1, hc1⟩
  · go_enter Tryz.func66, Tryz.ntmps66
    go_wp2
    refine wp_loop_rounds 1 ?_
    rw [rounds_succ]
    go_wp2_with fail
    refine (order_nil w).mono ?_
    rintro e w1 ⟨rfl, rfl⟩
    go_wp2
    go_ret
    exact ⟨_, rfl, OwnR.nil _ _, Fresh.refl _⟩
  have H1 := Lib.hid hc1
  clear hc1
  generalize hn : l.length = n at hl H1
  have HN := Lib.hid hn
  clear hn
  go_enter Tryz.func66, Tryz.ntmps66
  go_wp2
  go_loopw [3, 4, 11] (fun out f i wr => ApRel w l out f i wr) (fun _ _ i _ => n - (intOf i).toNat)
  case atStart => exact ⟨0, rfl, Nat.zero_le _, [], [], rfl, OwnR.nil _ _, fun _ => rfl, Fresh.refl _, trivial, fun _ h => by simp at h, .inl rfl, rfl⟩
  case round =>
    obtain ⟨k, rfl, hk, hap⟩ := hrel
    have hk' : k ≤ n := by have := HN.out; omega
    clear hk
    by_cases hlt : k < n
    · obtain ⟨F, G, rfl, hown, hnil, hf, hF, hG, hh, ho⟩ := hap
      have c1 : wr.cell? ⟨b1, o1 + k, none⟩ = some (.int .i32 (l.getD k 0)) := (Below.cell hf (p := ⟨b1, o1 + k, none⟩) hb1).trans (H1.out k hlt)
      have hm : l.getD k 0 ∈ l := by rw [List.getD_eq_getElem?_getD, List.getElem?_eq_getElem (by have := HN.out; omega)]; simp
      have hr := h32 _ hm
      have HD := Lib.hid (spl_snoc (l := l) (k := k) (by have := HN.out; omega))
      generalize l.getD k 0 = r at c1 hr HD
      clear hm
      generalize hDD : spl (l.take k) = D at ho HD
      have HDD := Lib.hid hDD
      have HO := Lib.hid ho
      have HNIL := Lib.hid hnil
      have HH := Lib.hid hh
      have HOWN := Lib.hid hown
      have HFF := Lib.hid hF
      have HGG := Lib.hid hG
      clear ho hnil hh hown hF hG hDD
      go_wp2_with fail
      refine (csplit r _ hr).mono ?_
      rintro e w2 ⟨v, rfl, hs, hf2⟩
      obtain ⟨g2, cap2, rfl, hg2, hcell⟩ := hs.sl2 (by have := splits_len r; omega)
      have hg2b : wr.heap.size ≤ g2 := (hs.lt g2 rfl).1
      have hsl := splits_len r
      have h32s : ∀ x ∈ splits r, True := fun _ _ => trivial
      clear h32s
      generalize hss : splits r = s at hs hcell HD hsl
      have HCELL := Lib.hid hcell
      have hownF := HOWN.out.keep hf2
      have hne := HOWN.out.apart hg2b
      have H2 : Hid (ApIn w D _ (.int .i64 (F.length : Nat)) w2) := Lib.hid ⟨F, G, rfl, hownF, HNIL.out, hf.trans hf2, HFF.out, HGG.out, HH.out, HO.out⟩
      clear hs hcell hss c1 hownF HOWN HNIL HFF HGG HH HO hf hf2
      go_wp2
      generalize hsn : s.length = sn at hsl HCELL
      have HSN := Lib.hid hsn
      clear hsn
      go_loopw [3, 4, 18] (fun out f i wr => SpIn w D s g2 out f i wr) (fun _ _ i _ => sn - (intOf i).toNat)
      case atStart => exact ⟨0, rfl, Nat.zero_le _, by simpa using H2.out, hg2, hne, by rw [HSN.out]; exact HCELL.out⟩
      case round =>
        clear HCELL H2 hne hg2b hg2
        obtain ⟨j, rfl, hj, hap, hg2, hne, hcell⟩ := hrel
        rw [HSN.out] at hj hcell
        by_cases hjl : j < sn
        · have c1 := hcell j hjl
          have hDS := take_snoc (l := s) (k := j) (by rw [HSN.out]; exact hjl)
          have HDS := Lib.hid hDS
          clear hDS
          generalize s.getD j 0 = x at c1 HDS
          have HCELL := Lib.hid hcell
          have HC := Lib.hid (class_any x)
          clear hcell
          by_cases hx : clsI x = 0
          · have hb : (clsI x == 0) = true := by simp [hx]
            have HXX := Lib.hid hx
            clear hx
            obtain ⟨F, G, rfl, hown, hnil, hf, hF, hG, hh, ho⟩ := hap
            have HOWN := Lib.hid hown
            have HH := Lib.hid (And.intro hF (And.intro hG (And.intro hh ho)))
            by_cases hFG : F ++ G = []
            · have ho0 := hnil hFG
              subst ho0
              have hfg := List.append_eq_nil_iff.1 hFG
              obtain ⟨rfl, rfl⟩ := hfg
              have hD0 : ordA (D ++ s.take j) = [] := ho.symm
              have HD0 := Lib.hid hD0
              clear hown hF hG hh ho hnil hFG HH hD0
              simp only [List.length_nil]
              go_wp2_with ((go_at_call 25; refine (HC.out _).mono ?_; rintro e w1 ⟨rfl, rfl⟩))
              refine (order_nil wr).mono ?_
              rintro e w3 ⟨rfl, rfl⟩
              have hown3 := HOWN.out
              have hcp : True := trivial
              unfold OwnR at hown3
              go_wp2_with (at_builtin; refine wpList_append_own2 _ rfl _ _ 50 rfl w.heap.size 21 i0 (.int .i32 0) 1 4 Tryz.underlying50 hi0 hz0 hz1 hz2 rfl (by decide) _ _ _ rfl (hown3.alloc _) ⟨w3.heap.size, 0, none⟩ 1 1 [.int .i32 x] rfl rfl ?c1 ?c2 ?c3 ?c4 ?c5 ?_)
              case c1 => exact cell_new1 _ _ _
              case c2 => intro u hu; simp at hu; subst hu; rfl
              case c3 => simp [maxLen]
              case c4 => simp
              case c5 => have := hf.size; simp; omega
              intro v' w' hown' hgrow hblk
              have hnx := sp_next (o := .cells #[.int .i32 x] 21) (v := .slice none 0 0) (by rw [HSN.out]; exact HCELL.out) hg2 hne hgrow (fun g2 h => by have := hblk g2 h; simpa using this)
              have hf' := OwnR.fresh hf hown3 hgrow
              have hn' := OwnR.push (acc := []) hown'
              have HP := Lib.hid (ApMid.push (D := D ++ s.take j) HXX.out (by rw [HD0.out]; exact hn') hf')
              have HNX := Lib.hid hnx
              clear hown' hgrow hblk hnx hf' hn' hown3 hne hg2
              rw [HD0.out] at HP
              go_wp2
              refine ⟨⟨j + 1, by rw [Int.natCast_add]; rfl, by have := HSN.out; omega, by rw [HDS.out, ← List.append_assoc]; exact HP.out, HNX.out.1, HNX.out.2.1, HNX.out.2.2⟩, by simp [intOf]; omega⟩
            · have hG1 : 1 ≤ G.length := by
                rcases hh with e | ⟨c, R, e, _⟩
                · rw [e] at hFG; exact List.length_pos_iff.2 hFG
                · rw [e]; simp
              obtain ⟨g, cap, rfl, hbg, hcap, harr, hback⟩ := own_arr hown (by simp; omega)
              have HARR := Lib.hid harr
              have HBACK := Lib.hid hback
              have hgs := harr.lt
              clear hown hF hG hh ho harr hback hnil hFG
              generalize hfl : F.length = fl at hcap HARR HBACK
              generalize hgl : G.length = gl at hG1 hcap HARR HBACK
              have HFL := Lib.hid hfl
              have HGL := Lib.hid hgl
              clear hfl hgl
              have hc9 : ¬ cap = fl := by omega
              have hc8 : fl ≤ fl + gl := by omega
              have hc7 : fl ≤ cap := by omega
              go_wp2_with ((go_at_call 25; refine (HC.out _).mono ?_; rintro e w1 ⟨rfl, rfl⟩))
              have hcp := HARR.out.len
              have hle : fl + gl ≤ 40000 := by
                have h1 := ord_len (F ++ G)
                rw [HH.out.2.2.2, ord_len, List.length_append, List.length_append, HFL.out, HGL.out, List.length_take] at h1
                have h2 := spl_len (l.take k)
                rw [HDD.out, List.length_take, HN.out] at h2
                omega
              refine (order_any wr g fl gl G wr _ (by omega) (by omega) HARR.out).mono ?_
              rintro e w3 ⟨rfl, M, s1, t1, h3⟩
              have h3' : Arr wr g fl gl M w3 := by simpa using h3
              have hown3 := HBACK.out M w3 h3'.len h3'
              have hfm := ap_sort HH.out.1 HH.out.2.1 HH.out.2.2.1 HH.out.2.2.2 s1 t1
              have hlenM := h3'.len
              have hl3 : (ordA (D ++ s.take j)).length = fl + gl := by rw [← hfm, List.length_append, HFL.out, hlenM]
              rw [hfm] at hown3
              have hf3 : Fresh w w3 := Below.grown hf h3'.grown (by have := hf.size; omega) (fun k hk => by cases hk; exact hbg)
              have hcell3 : ∀ k, k < s.length → w3.cell? ⟨g2, k, none⟩ = some (.int .i32 (s.getD k 0)) := fun k hk => h3'.grown.cell (HCELL.out k (by have := HSN.out; omega)) (fun e => hne e.symm)
              have hg23 : g2 < w3.heap.size := Nat.lt_of_lt_of_le hg2 h3'.grown.size
              have HC3 := Lib.hid hcell3
              have HL3 := Lib.hid hl3
              clear s1 t1 h3 h3' hfm hlenM hcell3 hg2 hf hgs HARR HBACK HFL HGL HH HCELL hb hl3
              unfold OwnR at hown3
              rw [HL3.out] at hown3
              go_wp2_with (at_builtin; refine wpList_append_own2 _ rfl _ _ 50 rfl w.heap.size 21 i0 (.int .i32 0) 1 4 Tryz.underlying50 hi0 hz0 hz1 hz2 rfl (by decide) _ _ _ rfl (hown3.alloc _) ⟨w3.heap.size, 0, none⟩ 1 1 [.int .i32 x] rfl rfl ?c1 ?c2 ?c3 ?c4 ?c5 ?_)
              case c1 => exact cell_new1 _ _ _
              case c2 => intro u hu; simp at hu; subst hu; rfl
              case c3 => unfold maxLen; omega
              case c4 => omega
              case c5 => have := hf3.size; simp; omega
              intro v' w' hown' hgrow hblk
              have hnx := sp_next (o := .cells #[.int .i32 x] 21) (v := .slice (some ⟨g, 0, none⟩) (fl + gl) cap) HC3.out hg23 hne hgrow (fun g2 h => by have := hblk g2 h; simpa using this)
              have hf' := OwnR.fresh hf3 hown3 hgrow
              rw [← HL3.out] at hown'
              have hn' := OwnR.push hown'
              have HP := Lib.hid (ApMid.push HXX.out hn' hf')
              have HNX := Lib.hid hnx
              clear hown' hgrow hblk hnx hf' hn' hown3 HC3 hg23 hne
              rw [HL3.out] at HP
              go_wp2
              refine ⟨⟨j + 1, by rw [Int.natCast_add]; rfl, by have := HSN.out; omega, by rw [HDS.out, ← List.append_assoc]; exact HP.out, HNX.out.1, HNX.out.2.1, HNX.out.2.2⟩, by simp [intOf]; omega⟩
          · have hb : (clsI x == 0) = false := by simp [hx]
            have HXX := Lib.hid hx
            clear hx
            obtain ⟨F, G, rfl, hown, hnil, hf, hF, hG, hh, ho⟩ := hap
            have hle : (F ++ G).length ≤ 40000 := by
              have h1 := ord_len (F ++ G)
              rw [ho, ord_len, List.length_append, List.length_take] at h1
              have h2 := spl_len (l.take k)
              rw [HDD.out, List.length_take, HN.out] at h2
              omega
            have HOWN := Lib.hid hown
            have HH := Lib.hid (And.intro hF (And.intro hG (And.intro hh ho)))
            have hown3 := hown
            unfold OwnR at hown3
            clear hown hF hG hh ho hnil
            go_wp2_with (first | (go_at_call 25; refine (HC.out _).mono ?_; rintro e w1 ⟨rfl, rfl⟩) | (at_builtin; refine wpList_append_own2 _ rfl _ _ 50 rfl w.heap.size 21 i0 (.int .i32 0) 1 4 Tryz.underlying50 hi0 hz0 hz1 hz2 rfl (by decide) _ _ _ rfl (hown3.alloc _) ⟨wr.heap.size, 0, none⟩ 1 1 [.int .i32 x] rfl rfl ?c1 ?c2 ?c3 ?c4 ?c5 ?_))
            case c1 => exact cell_new1 _ _ _
            case c2 => intro u hu; simp at hu; subst hu; rfl
            case c3 => unfold maxLen; omega
            case c4 => omega
            case c5 => have := hf.size; simp; omega
            intro v' w' hown' hgrow hblk
            have hnx := sp_next (o := .cells #[.int .i32 x] 21) (by rw [HSN.out]; exact HCELL.out) hg2 hne hgrow (fun g2 h => by have := hblk g2 h; simpa using this)
            have hf' := OwnR.fresh hf hown3 hgrow
            have hn' := OwnR.push (acc := F ++ G) (r := x) (by have := hown'; simpa using this)
            have HP := Lib.hid (ApIn.push HXX.out hn' hf' HH.out.1 HH.out.2.1 HH.out.2.2.1 HH.out.2.2.2)
            have HNX := Lib.hid hnx
            clear hown' hgrow hblk hnx hf' hn' hown3 hne hg2
            go_wp2
            refine ⟨⟨j + 1, by rw [Int.natCast_add]; rfl, by have := HSN.out; omega, by rw [HDS.out, ← List.append_assoc]; exact HP.out, HNX.out.1, HNX.out.2.1, HNX.out.2.2⟩, by simp [intOf]; omega⟩
        · have hjs : j = s.length := by have := HSN.out; omega
          have HP : Hid (ApIn w (spl (l.take (k + 1))) _ _ wr) := Lib.hid (by rw [HD.out]; rw [hjs, List.take_length] at hap; exact hap)
          clear hap hcell hne hg2 hjs
          go_wp2
          go_roundw
          case rel => exact ⟨k + 1, by rw [Int.natCast_add]; rfl, by have := HN.out; omega, HP.out⟩
          case measure => simp [intOf]; omega
    · have hkn : k = n := by omega
      obtain ⟨F, G, rfl, hown, hnil, hf, hF, hG, hh, ho⟩ := hap
      rw [hkn, ← HN.out, List.take_length] at ho
      have HO : Hid (ordA (F ++ G) = apt l) := Lib.hid ho
      have HOWN := Lib.hid hown
      by_cases hFG : F ++ G = []
      · have ho0 := hnil hFG
        subst ho0
        have hfg := List.append_eq_nil_iff.1 hFG
        obtain ⟨rfl, rfl⟩ := hfg
        clear hown hF hG hh ho hnil hFG
        simp only [List.length_nil]
        go_wp2_with fail
        refine (order_nil wr).mono ?_
        rintro e w3 ⟨rfl, rfl⟩
        go_wp2
        go_ret
        exact ⟨_, rfl, by rw [← HO.out]; exact HOWN.out, hf⟩
      · have hG1 : 1 ≤ G.length := by
          rcases hh with e | ⟨c, R, e, _⟩
          · rw [e] at hFG; exact List.length_pos_iff.2 hFG
          · rw [e]; simp
        have hle : F.length + G.length ≤ 40000 := by
          have h1 := ord_len (F ++ G)
          rw [ho, ord_len, List.length_append] at h1
          have h2 := spl_len l
          rw [HN.out] at h2
          omega
        obtain ⟨g, cap, rfl, hbg, hcap, harr, hback⟩ := own_arr hown (by simp; omega)
        have HARR := Lib.hid harr
        have HBACK := Lib.hid hback
        have HH := Lib.hid (And.intro hF (And.intro hG (And.intro hh ho)))
        have hgs := harr.lt
        clear hown hF hG hh ho harr hback hnil hFG
        generalize hfl : F.length = fl at hcap HARR HBACK hle
        generalize hgl : G.length = gl at hG1 hcap HARR HBACK hle
        have HFL := Lib.hid hfl
        have HGL := Lib.hid hgl
        clear hfl hgl
        have hc9 : ¬ cap = fl := by omega
        have hc8 : fl ≤ fl + gl := by omega
        have hc7 : fl ≤ cap := by omega
        go_wp2_with fail
        refine (order_any wr g fl gl G wr _ (by omega) (by omega) HARR.out).mono ?_
        rintro e w3 ⟨rfl, M, s1, t1, h3⟩
        have h3' : Arr wr g fl gl M w3 := by simpa using h3
        have hown3 := HBACK.out M w3 h3'.len h3'
        have hfm := ap_sort HH.out.1 HH.out.2.1 HH.out.2.2.1 HH.out.2.2.2 s1 t1
        have HF3 : Hid (Fresh w w3) := Lib.hid (Below.grown hf h3'.grown (by have := hf.size; omega) (fun k hk => by cases hk; exact hbg))
        rw [hfm] at hown3
        have HO3 : Hid (OwnR w3 w.heap.size _ (apt l)) := Lib.hid hown3
        clear s1 t1 h3 h3' hfm hown3
        go_wp2
        go_ret
        exact ⟨_, rfl, HO3.out, HF3.out⟩
end Go.Proofs.YtpmlggjhfiljmaaGreatDoor
