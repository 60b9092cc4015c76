/- Contracts that the law rests on, part 26 of 50 (KitA, KitB). Each states its own conditions. -/
import Derived.Maps.RangeWalk
import Derived.Maps.OwnSet
import Derived.Maps.Ext
import Derived.Shelf.SlMaps.Clone
import Derived.Test.YtpmlggjhfiljmaaGreatDoorC18
import Derived.Test.YtpmlggjhfiljmaaGreatDoorC19
import Derived.Test.YtpmlggjhfiljmaaGreatDoorC20
/- Maps keyed by int, whatever they hold: what one finds at a number. -/
namespace Go.Proofs.YtpmlggjhfiljmaaGreatDoor
open Go.RowKit
open Go.Maps (Keyed)
set_option linter.unusedVariables false
theorem keyI : Keyed Tryz.prog 3 := Maps.int_keyed Tryz.underlying3
/-- an element is read as it is -/
def heldR (v : Value) : Option (DataW Value × List MemPlace) := some (.held v, [])
abbrev kl (a : Int) : Lit := .int .i64 a
theorem kl_key (a : Int) : WideAt.IsKeyLit (kl a) := trivial
theorem kl_ne {a b : Int} (h : a ≠ b) : kl a ≠ kl b := fun e => h (by injection e)
def I64 (a : Int) : Prop := -9223372036854775808 ≤ a ∧ a ≤ 9223372036854775807
theorem I64.wf {a : Int} (h : I64 a) : (Lit.int .i64 a).wf = true := WalkArith.wf_i64 h
theorem keyOfI {a : Int} (h : I64 a) : keyOf Tryz.prog 3 (.int .i64 a) = some (kl a) := Maps.keyOf_int_mk Tryz.underlying3 h.wf
theorem atKey_indep {D : DataW Value} {k : Lit} (h : Maps.has D k = true) (z z' : DataW Value) : D.atKey k z = D.atKey k z' := by
  cases D <;> try (cases h; done)
  rename_i es
  cases hf : es.find? (fun p => p.1.sameKey k) with
  | some p => simp [DataW.atKey, hf]
  | none =>
    exfalso
    rw [List.find?_eq_none] at hf
    obtain ⟨p, hp, hpk⟩ := List.any_eq_true.1 h
    exact hf p hp hpk
/-- what stands at a number -/
def mget (D : DataW Value) (a : Int) : Option Value := if Maps.has D (kl a) = true then (match D.atKey (kl a) .nil with | .held v => some v | _ => none) else none
theorem mget_of_at {D : DataW Value} {a : Int} {z v : Value} (h : D.atKey (kl a) (.held z) = .held v) : v = (mget D a).getD z := by
  unfold mget
  cases hh : Maps.has D (kl a) with
  | false =>
    rw [Maps.atKey_of_not_has hh] at h
    injection h with h
    simp [h]
  | true =>
    rw [atKey_indep hh (.held z) .nil] at h
    simp [h]
theorem mget_has {D : DataW Value} {a : Int} {z v : Value} (h : D.atKey (kl a) (.held z) = .held v) : Maps.has D (kl a) = (mget D a).isSome := by
  unfold mget
  cases hh : Maps.has D (kl a) with
  | false => simp
  | true =>
    rw [atKey_indep hh (.held z) .nil] at h
    simp [h]
theorem mget_put {D : DataW Value} (hD : Maps.IsMap D) (k : Int) (v : Value) (a : Int) : mget (D.put (kl k) (.held v)) a = if a = k then some v else mget D a := by
  unfold mget
  by_cases e : a = k
  · subst e
    rw [Maps.has_put_same hD (kl_key _), Maps.atKey_put_same hD (kl_key _)]
    simp
  · rw [Maps.has_put_other (kl_ne e), Maps.atKey_put_other (kl_ne e), if_neg e]
/-- block b is a map from int of at most n entries, with M a at a -/
def MapAt (w : World) (b n : Nat) (M : Int → Option Value) : Prop := ∃ D : DataW Value, w.ownsMap Tryz.prog 3 heldR b n D ∧ ∀ a, mget D a = M a
theorem own_isMap {w : World} {b n : Nat} {D : DataW Value} (h : w.ownsMap Tryz.prog 3 heldR b n D) : Maps.IsMap D := by
  obtain ⟨es, clock, _, _, _, hD⟩ := h
  exact ⟨_, hD⟩
theorem MapAt.lt {w : World} {b n : Nat} {M : Int → Option Value} (h : MapAt w b n M) : b < w.heap.size := by obtain ⟨D, h, _⟩ := h; exact h.lt
theorem MapAt.mono {w : World} {b n n' : Nat} {M : Int → Option Value} (h : MapAt w b n M) (hn : n ≤ n') : MapAt w b n' M := by obtain ⟨D, h, hM⟩ := h; exact ⟨D, h.mono hn, hM⟩
theorem MapAt.mut {S : Nat → Prop} {w w' : World} {b n : Nat} {M : Int → Option Value} (h : MapAt w b n M) (hf : Mut S w w') (hn : ¬ S b) : MapAt w' b n M := by
  obtain ⟨D, h, hM⟩ := h
  have hlt := h.lt
  obtain ⟨es, clock, hb, r⟩ := h
  exact ⟨D, ⟨es, clock, (hf.block b hlt hn).trans hb, r⟩, hM⟩
theorem MapAt.fresh {w w' : World} {b n : Nat} {M : Int → Option Value} (h : MapAt w b n M) (hf : Fresh w w') : MapAt w' b n M := h.mut (hf.mut fun _ => False) (fun q => q)
theorem MapAt.alloc {w : World} {b n : Nat} {M : Int → Option Value} (h : MapAt w b n M) (o : Obj) : MapAt (w.alloc o) b n M := h.fresh ((Fresh.refl _).alloc o)
theorem MapAt.made (w : World) : MapAt (w.alloc (.map #[] 0)) w.heap.size 0 (fun _ => none) := ⟨_, World.ownsMap_made _ _ _ _, fun a => by simp [mget, Maps.has]⟩
theorem MapAt.congr {w : World} {b n : Nat} {M M' : Int → Option Value} (h : MapAt w b n M) (e : ∀ a, M a = M' a) : MapAt w b n M' := by obtain ⟨D, h, hM⟩ := h; exact ⟨D, h, fun a => (hM a).trans (e a)⟩
theorem held_inv {v : Value} {d : DataW Value} {ps : List MemPlace} (h : heldR v = some (d, ps)) : d = .held v := by unfold heldR at h; injection h with h; injection h with h1 h2; exact h1.symm
theorem wf_I64 {a : Int} (h : (Lit.int .i64 a).wf = true) : I64 a := by
  unfold I64
  simp [Lit.wf, IntKind.min, IntKind.max, IntKind.signed, IntKind.bits] at h
  omega
theorem own_held {w : World} {b n : Nat} {D : DataW Value} (h : w.ownsMap Tryz.prog 3 heldR b n D) (i : Int) (hh : Maps.has D (kl i) = true) : (mget D i).isSome = true ∧ I64 i := by
  obtain ⟨es, clock, hb, F, hs, rfl⟩ := h
  have hall : ∀ p ∈ (es.toList.map (WideElems.rg Tryz.prog 3 heldR)).foldr DataW.insert [], (∃ v, p.2 = .held v) ∧ ∃ key, keyOf Tryz.prog 3 key = some p.1 := by
    intro p hp
    have hp := (WideShapes.sorted_perm _).mem_iff.1 hp
    obtain ⟨x, hx, rfl⟩ := List.mem_map.1 hp
    obtain ⟨y, hy⟩ := F.reads x hx
    obtain ⟨z, hz, hyz⟩ := WideElems.rd_val hy
    rw [WideElems.rg_of hy]
    have hz2 : heldR x.val = some (z.1, z.2) := hz
    exact ⟨⟨x.val, by rw [hyz]; exact held_inv hz2⟩, _, WideElems.rd_key hy⟩
  have h1 : ((es.toList.map (WideElems.rg Tryz.prog 3 heldR)).foldr DataW.insert []).any (fun p => p.1.sameKey (kl i)) = true := hh
  obtain ⟨p, hp, hpk⟩ := List.any_eq_true.1 h1
  have hk := WideAt.sameKey_eq hpk
  constructor
  · unfold mget
    rw [if_pos hh]
    cases hf : ((es.toList.map (WideElems.rg Tryz.prog 3 heldR)).foldr DataW.insert []).find? (fun p => p.1.sameKey (kl i)) with
    | none => rw [List.find?_eq_none] at hf; exact absurd hpk (hf p hp)
    | some q =>
      obtain ⟨v, hv⟩ := (hall q (List.mem_of_find?_eq_some hf)).1
      simp [DataW.atKey, hf, hv]
  · obtain ⟨_, key, hkey⟩ := hall p hp
    rw [hk] at hkey
    obtain ⟨x, _, e2, hw⟩ := Maps.keyOf_int_inv Tryz.underlying3 hkey
    injection e2 with _ e2
    subst e2
    exact wf_I64 hw
theorem own_has {w : World} {b n : Nat} {D : DataW Value} (h : w.ownsMap Tryz.prog 3 heldR b n D) (i : Int) : Maps.has D (kl i) = (mget D i).isSome := by
  cases hh : Maps.has D (kl i) with
  | true => exact (own_held h i hh).1.symm
  | false => unfold mget; rw [hh]; rfl
theorem MapAt.key {w : World} {b n : Nat} {M : Int → Option Value} (h : MapAt w b n M) {i : Int} {v : Value} (hv : M i = some v) : I64 i := by
  obtain ⟨D, h, hM⟩ := h
  exact (own_held h i (by rw [own_has h, hM, hv]; rfl)).2
section
variable (w : World) {ops : Array Oper} {rest : List Oper} {o : Oper} {a : Act} {Q : Exit → Act → World → Prop}
/-- 'm[k]' -/
theorem wpList_lookI (hg : o.guard = none) (m x : Operand) (t : TypeId) (hop : o.op = Op.lookup t m x false) (e : TypeId) (ht : Tryz.prog.underlying t = some (.map 3 e)) (z : Value) (hz : (zeroValue e).run Tryz.prog w = .ok z w)
    (b n : Nat) (M : Int → Option Value) (hm : a.eval m = .map (some b)) (h : MapAt w b n M) (k : Int) (hx : a.eval x = .int .i64 k) (hk : I64 k) (r : Value) (hr : (M k).getD z = r)
    (hK : wpList Tryz.prog ops Q rest (a.put o.dst r) w) : wpList Tryz.prog ops Q (o :: rest) a w := by
  refine wpList_plain hg fun K' hK' => ?_
  obtain ⟨D, hown, hM⟩ := h
  obtain ⟨v, ps, hrun, hv⟩ := hown.lookup keyI ht hz (zd := .held z) (zp := []) rfl (keyOfI hk)
  have e1 := mget_of_at (held_inv hv)
  rw [hM, hr] at e1
  subst e1
  unfold Oper.wp
  simp [execOp, hop, hm, hx, hrun, Result.andThen]
  exact hK' _ _ hK
/-- 'v, ok := m[k]' -/
theorem wpList_lookOkI (hg : o.guard = none) (m x : Operand) (t : TypeId) (hop : o.op = Op.lookup t m x true) (e : TypeId) (ht : Tryz.prog.underlying t = some (.map 3 e)) (z : Value) (hz : (zeroValue e).run Tryz.prog w = .ok z w)
    (b n : Nat) (M : Int → Option Value) (hm : a.eval m = .map (some b)) (h : MapAt w b n M) (k : Int) (hx : a.eval x = .int .i64 k) (hk : I64 k) (r : Value) (hr : (M k).getD z = r) (c : Bool) (hc : (M k).isSome = c)
    (hK : wpList Tryz.prog ops Q rest (a.put o.dst (.tuple #[r, .bool c])) w) : wpList Tryz.prog ops Q (o :: rest) a w := by
  refine wpList_plain hg fun K' hK' => ?_
  obtain ⟨D, hown, hM⟩ := h
  obtain ⟨v, ps, hrun, hv⟩ := hown.look_ok keyI ht hz (zd := .held z) (zp := []) rfl (keyOfI hk)
  have e1 := mget_of_at (held_inv hv)
  have e2 := mget_has (held_inv hv)
  rw [hM, hr] at e1
  rw [hM, hc] at e2
  subst e1
  rw [e2] at hrun
  unfold Oper.wp
  simp [execOp, hop, hm, hx, hrun, Result.andThen]
  exact hK' _ _ hK
/-- 'm[k] = v' -/
theorem wpList_storeI (hg : o.guard = none) (m x v : Operand) (t : TypeId) (hop : o.op = Op.mapUpdate t m x v) (e : TypeId) (ht : Tryz.prog.underlying t = some (.map 3 e))
    (b n : Nat) (M : Int → Option Value) (hm : a.eval m = .map (some b)) (h : MapAt w b n M) (hn : n ≤ 1000000000) (k : Int) (hx : a.eval x = .int .i64 k) (hk : I64 k) (val : Value) (hv : a.eval v = val)
    (hK : ∀ w', MapAt w' b (n + 1) (fun i => if i = k then some val else M i) → Mut (fun j => j = b) w w' → Hid (w'.heap.size = w.heap.size) → wpList Tryz.prog ops Q rest (a.put o.dst undef) w') : wpList Tryz.prog ops Q (o :: rest) a w := by
  obtain ⟨D, hown, hM⟩ := h
  have hi := own_isMap hown
  refine wpList_mapUpdate_in w hg m x v t hop 3 e keyI ht heldR b n D hm hown (by unfold maxLen; omega) (.int .i64 k) val (kl k) hx hv (keyOfI hk) (.held val) [] rfl fun w' h1 h2 => hK w' ⟨_, h1, fun i => by rw [mget_put hi, hM]⟩ ?_ (Lib.hid ?_)
  · obtain ⟨es, clock, es', clock', hb, rfl⟩ := h2
    exact ⟨rfl, rfl, rfl, by simp [ChangeMaps.setBlock], fun j hj hn => ChangeMaps.heap_setBlock_other hb _ hn⟩
  · obtain ⟨es, clock, es', clock', hb, rfl⟩ := h2
    simp [ChangeMaps.setBlock]
end
/-- an iterator r over the map b: at which numbers there is still to come -/
def RangAt (w : World) (b r n : Nat) (M : Int → Option Value) (L : Int → Bool) (cnt : Nat) : Prop := ∃ (D : DataW Value) (left : Lit → Bool), w.ranges Tryz.prog 3 heldR b r n D left cnt ∧ (∀ a, mget D a = M a) ∧ ∀ a, left (kl a) = L a
theorem RangAt.map {w : World} {b r n : Nat} {M : Int → Option Value} {L : Int → Bool} {cnt : Nat} (h : RangAt w b r n M L cnt) : MapAt w b n M := by
  obtain ⟨D, left, h1, h2, _⟩ := h
  exact ⟨D, h1.owns, h2⟩
section
variable (w : World) {ops : Array Oper} {rest : List Oper} {o : Oper} {a : Act} {Q : Exit → Act → World → Prop}
theorem held_some {D : DataW Value} {a : Int} {v : Value} (h : ∀ zd, D.atKey (kl a) zd = .held v) : mget D a = some v := by
  have := mget_of_at (z := v) (h (.held v))
  unfold mget
  rw [Maps.has_true_of_atKey h, h]
  simp
/-- 'range m' -/
theorem wpList_rangeI (hg : o.guard = none) (m : Operand) (t : TypeId) (hop : o.op = Op.range t m) (e : TypeId) (ht : Tryz.prog.underlying t = some (.map 3 e)) (b n : Nat) (M : Int → Option Value) (hm : a.eval m = .map (some b)) (h : MapAt w b n M)
    (hK : ∀ w' cnt, RangAt w' b w.heap.size n M (fun i => (M i).isSome) cnt → cnt ≤ n → Fresh w w' → Hid (w'.heap.size = w.heap.size + 1) → wpList Tryz.prog ops Q rest (a.put o.dst (.pointer (some ⟨w.heap.size, 0, none⟩))) w') :
    wpList Tryz.prog ops Q (o :: rest) a w := by
  obtain ⟨D, hown, hM⟩ := h
  refine wpList_range_own w hg m t hop 3 e keyI ht heldR b n D hm hown fun w' h1 h2 h3 => hK w' _ ⟨D, _, h1, hM, fun i => ?_⟩ hown.size_le ⟨h2.os, h2.tape, h2.output, h2.size, fun k hk => h2.block k hk (by simp)⟩ (Lib.hid h3)
  show _ = (M i).isSome
  rw [← hM]
  exact own_has hown i
/-- the step -/
theorem wpList_nextI (hg : o.guard = none) (it : Operand) (hop : o.op = Op.next it false) (b r n : Nat) (M : Int → Option Value) (L : Int → Bool) (cnt : Nat) (hit : a.eval it = .pointer (some ⟨r, 0, none⟩)) (h : RangAt w b r n M L cnt)
    (hDone : (∀ i, L i = false) → wpList Tryz.prog ops Q rest (a.put o.dst (.tuple #[.bool false])) w)
    (hMore : ∀ (x : Int) (c : Value) (w' : World) (cnt' : Nat), I64 x → L x = true → M x = some c → RangAt w' b r n M (fun i => L i && decide (i ≠ x)) cnt' → cnt' < cnt → Mut (fun j => j = r) w w' → Hid (w'.heap.size = w.heap.size) →
      (Instr.entry (.pointer (some ⟨r, 0, none⟩))).run Tryz.prog w' = .ok (.tuple #[.int .i64 x, c]) w' → wpList Tryz.prog ops Q rest (a.put o.dst (.tuple #[.bool true, .int .i64 x, c])) w') :
    wpList Tryz.prog ops Q (o :: rest) a w := by
  obtain ⟨D, left, h1, hM, hL⟩ := h
  refine wpList_next_ranges w hg it hop 3 keyI heldR (fun x : Int => Value.int .i64 x) (fun c : Value => c) (fun key kl h => by obtain ⟨x, rfl, _⟩ := Maps.keyOf_int_inv Tryz.underlying3 h; exact ⟨x, rfl⟩) (fun v y _ => ⟨v, rfl⟩) b r n D left cnt hit h1 (fun _ hl => hDone fun i => by rw [← hL]; exact hl _) ?_
  intro x c k y w' cnt' hk hl hy hat hr hlt hgr hsz hen
  obtain ⟨x', e1, e2, hw⟩ := Maps.keyOf_int_inv Tryz.underlying3 hk
  injection e1 with _ e1
  subst e1 e2
  have hy1 : y.1 = .held c := held_inv (ps := y.2) hy
  have hc : M x = some c := by rw [← hM]; exact held_some fun zd => by rw [hat zd, hy1]
  refine hMore x c w' cnt' ?_ (by rw [← hL]; exact hl) hc ⟨D, _, hr, hM, fun i => ?_⟩ hlt ⟨hgr.os, hgr.tape, hgr.output, hgr.size, fun k hk hn => hgr.block k hk fun e => hn (by injection e with e)⟩ (Lib.hid hsz) hen
  · exact wf_I64 hw
  · rw [hL]
    by_cases e : i = x
    · subst e
      rw [WideAt.sameKey_self (kl_key _)]
      simp
    · rw [Maps.sameKey_ne (kl_ne e)]
      simp [e]
end
end Go.Proofs.YtpmlggjhfiljmaaGreatDoor
/- Slices with the blocks that they may lie in; footprints; maps.Clone. -/
namespace Go.Proofs.YtpmlggjhfiljmaaGreatDoor
open Go.RowKit
set_option linter.unusedVariables false
/-- one's own slice, in a block that meets A -/
def OwnA (w : World) (A : Nat → Prop) (e : TypeId) (sz : Nat) (v : Value) (n : Nat) (xs : List Value) : Prop := w.ownsRow 0 e sz v n xs ∧ ∀ g, v.ownBlock = some g → A g
theorem OwnA.nil (w : World) (A : Nat → Prop) (e : TypeId) (sz : Nat) : OwnA w A e sz (.slice none 0 0) 0 [] := ⟨World.ownsRow_nil _ _ _ _, fun g h => by cases h⟩
theorem OwnA.mono {w : World} {A A' : Nat → Prop} {e : TypeId} {sz : Nat} {v : Value} {n : Nat} {xs : List Value} (h : OwnA w A e sz v n xs) (ha : ∀ g, g < w.heap.size → A g → A' g) : OwnA w A' e sz v n xs :=
  ⟨h.1, fun g hg => ha g (h.1.lt g hg).2 (h.2 g hg)⟩
theorem OwnA.mut {S A : Nat → Prop} {w w' : World} {e : TypeId} {sz : Nat} {v : Value} {n : Nat} {xs : List Value} (h : OwnA w A e sz v n xs) (hf : Mut S w w') (hn : ∀ g, A g → ¬ S g) : OwnA w' A e sz v n xs :=
  ⟨own_mut h.1 hf fun g hg => hn g (h.2 g hg), h.2⟩
theorem OwnA.fresh {A : Nat → Prop} {w w' : World} {e : TypeId} {sz : Nat} {v : Value} {n : Nat} {xs : List Value} (h : OwnA w A e sz v n xs) (hf : Fresh w w') : OwnA w' A e sz v n xs := h.mut (hf.mut fun _ => False) (fun _ _ q => q)
theorem OwnA.ne {w : World} {A : Nat → Prop} {e t : TypeId} {sz : Nat} {v : Value} {n : Nat} {xs : List Value} {p : Nat} {cs : Array Value} (h : OwnA w A e sz v n xs) (hp : Blk w p t cs) (ht : e ≠ t) : v.ownBlock ≠ some p := by
  intro hv
  obtain ⟨_, ⟨rfl, _⟩ | ⟨g, cap, cur, rfl, _, hh, _⟩⟩ := h.1
  · cases hv
  · injection hv with hv
    subst hv
    unfold Blk at hp
    rw [hh] at hp
    injection hp with hp
    injection hp with _ hp
    exact ht hp
theorem OwnA.neMap {w : World} {A : Nat → Prop} {e : TypeId} {sz : Nat} {v : Value} {n m : Nat} {xs : List Value} {p : Nat} {M : Int → Option Value} (h : OwnA w A e sz v n xs) (hp : MapAt w p m M) : v.ownBlock ≠ some p := by
  intro hv
  obtain ⟨_, ⟨rfl, _⟩ | ⟨g, cap, cur, rfl, _, hh, _⟩⟩ := h.1
  · cases hv
  · injection hv with hv
    subst hv
    obtain ⟨D, ⟨es, clock, hb, _⟩, _⟩ := hp
    rw [show (⟨g, 0, none⟩ : Addr).block = g from rfl, hh] at hb
    cases hb
theorem Blk.neMap {w : World} {t : TypeId} {cs : Array Value} {m p b : Nat} {M : Int → Option Value} (hp : Blk w p t cs) (h : MapAt w b m M) : p ≠ b := by
  intro e
  subst e
  obtain ⟨D, ⟨es, clock, hb, _⟩, _⟩ := h
  unfold Blk at hp
  rw [hp] at hb
  cases hb
theorem Blk.neBlk {w : World} {t t' : TypeId} {cs cs' : Array Value} {p p' : Nat} (hp : Blk w p t cs) (hp' : Blk w p' t' cs') (ht : t ≠ t') : p ≠ p' := by
  intro e
  subst e
  unfold Blk at hp hp'
  rw [hp] at hp'
  injection hp' with hp'
  injection hp' with _ hp'
  exact ht hp'
theorem OwnA.mutB {S A : Nat → Prop} {w w' : World} {e : TypeId} {sz : Nat} {v : Value} {n : Nat} {xs : List Value} (h : OwnA w A e sz v n xs) (hf : Mut S w w') (hn : ∀ g, v.ownBlock = some g → ¬ S g) : OwnA w' A e sz v n xs := ⟨own_mut h.1 hf hn, h.2⟩
theorem newCells (w : World) (e : TypeId) (news : List Value) (j : Nat) (u : Value) (hj : news[j]? = some u) : (w.alloc (.cells news.toArray e)).cell? ((⟨w.heap.size, 0, none⟩ : Addr).add j) = some u := by
  rw [Addr.add_lit, World.cell?_alloc_at _ _ _ _ rfl]
  simpa using hj
theorem info_partsG {i : Option TypeInfo} {z : Value} {s b : Nat} (h : i.map (fun i => (i.zero, i.size, i.bytes)) = some (some z, s, b)) : ∃ i0, i = some i0 ∧ i0.zero = some z ∧ i0.size = s ∧ i0.bytes = b := by
  cases i with
  | none => cases h
  | some i0 => simp at h; exact ⟨i0, rfl, h.1, h.2.1, h.2.2⟩
/-- a slice that is read: n elements of sz cells each, in a block that meets A -/
def SlG (w : World) (A : Nat → Prop) (v : Value) (sz n : Nat) (cs : List Value) : Prop :=
  cs.length = n * sz ∧ ∃ a cap, v = .slice a n cap ∧ n ≤ cap ∧ (n = 0 ∨ ∃ g off, a = some ⟨g, off, none⟩ ∧ A g ∧ g < w.heap.size ∧ ∀ j, j < n * sz → w.cell? ⟨g, off + j, none⟩ = cs[j]?)
theorem SlG.nil (w : World) (A : Nat → Prop) (sz : Nat) : SlG w A (.slice none 0 0) sz 0 [] := ⟨by simp, none, 0, rfl, Nat.le_refl _, .inl rfl⟩
theorem SlG.mono {w : World} {A A' : Nat → Prop} {v : Value} {sz n : Nat} {cs : List Value} (h : SlG w A v sz n cs) (ha : ∀ g, g < w.heap.size → A g → A' g) : SlG w A' v sz n cs := by
  obtain ⟨h1, a, cap, h2, hcap, h3⟩ := h
  refine ⟨h1, a, cap, h2, hcap, h3.imp id ?_⟩
  rintro ⟨g, off, e, hA, hg, hc⟩
  exact ⟨g, off, e, ha g hg hA, hg, hc⟩
theorem SlG.mut {S A : Nat → Prop} {w w' : World} {v : Value} {sz n : Nat} {cs : List Value} (h : SlG w A v sz n cs) (hf : Mut S w w') (hn : ∀ g, A g → ¬ S g) : SlG w' A v sz n cs := by
  obtain ⟨h1, a, cap, h2, hcap, h3⟩ := h
  refine ⟨h1, a, cap, h2, hcap, h3.imp id ?_⟩
  rintro ⟨g, off, e, hA, hg, hc⟩
  exact ⟨g, off, e, hA, Nat.lt_of_lt_of_le hg hf.size, fun j hj => (hf.cell (p := ⟨g, off + j, none⟩) hg (hn g hA)).trans (hc j hj)⟩
theorem SlG.fresh {A : Nat → Prop} {w w' : World} {v : Value} {sz n : Nat} {cs : List Value} (h : SlG w A v sz n cs) (hf : Fresh w w') : SlG w' A v sz n cs := h.mut (hf.mut fun _ => False) (fun _ _ q => q)
theorem OwnA.sl {w : World} {A : Nat → Prop} {e : TypeId} {sz : Nat} {v : Value} {n : Nat} {xs : List Value} (h : OwnA w A e sz v n xs) : SlG w A v sz n xs := by
  obtain ⟨h, hA⟩ := h
  have h0 := h
  obtain ⟨h1, ⟨rfl, rfl⟩ | ⟨g, cap, cur, rfl, _, hh, h3⟩⟩ := h
  · exact ⟨h1, none, 0, rfl, Nat.le_refl _, .inl rfl⟩
  · refine ⟨h1, _, cap, rfl, h3.1, .inr ⟨g, 0, rfl, hA g rfl, ?_, fun j hj => ?_⟩⟩
    · rcases Nat.lt_or_ge g w.heap.size with q | q
      · exact q
      · rw [Array.getElem?_eq_none q] at hh; cases hh
    · have := World.ownsRow.cellAt h0 j (by omega)
      rw [show 0 + j = j from by omega, this]
theorem Fresh.mut2 {S : Nat → Prop} {w a b : World} (h : Fresh w a) (k : Mut S a b) (hs : ∀ j, S j → w.heap.size ≤ j) : Fresh w b :=
  ⟨k.os.trans h.os, k.tape.trans h.tape, k.output.trans h.output, Nat.le_trans h.size k.size, fun i hi => (k.block i (Nat.lt_of_lt_of_le hi h.size) (fun q => by have := hs i q; omega)).trans (h.block i hi)⟩
theorem OwnA.grew {w a b : World} {e : TypeId} {sz : Nat} {v : Value} {n : Nat} {xs : List Value} (h : OwnA b (fun k => w.heap.size ≤ k ∨ (a.heap.size ≤ k ∧ k < b.heap.size)) e sz v n xs) (hf : w.heap.size ≤ a.heap.size) : OwnA b (fun k => w.heap.size ≤ k) e sz v n xs :=
  h.mono fun g _ hg => hg.elim id fun q => Nat.le_trans hf q.1
/-- the footprint F' holds what F held, and new blocks -/
def Gr (F : Nat → Prop) (w w' : World) (F' : Nat → Prop) : Prop := ∀ k, F' k → F k ∨ (w.heap.size ≤ k ∧ k < w'.heap.size)
theorem Gr.refl (F : Nat → Prop) (w : World) : Gr F w w F := fun k h => .inl h
theorem Gr.trans {F F' F'' : Nat → Prop} {a b c : World} (h : Gr F a b F') (k : Gr F' b c F'') (h1 : a.heap.size ≤ b.heap.size) (h2 : b.heap.size ≤ c.heap.size) : Gr F a c F'' := fun j hj => by
  rcases k j hj with q | q
  · rcases h j q with r | r
    · exact .inl r
    · exact .inr ⟨r.1, by omega⟩
  · exact .inr ⟨by omega, q.2⟩
theorem Gr.later {F F' : Nat → Prop} {a b c : World} (h : Gr F a b F') (h2 : b.heap.size ≤ c.heap.size) : Gr F a c F' := fun j hj => (h j hj).imp id fun q => ⟨q.1, by omega⟩
theorem Gr.ahead {F F' : Nat → Prop} {a b c : World} (h : Gr F b c F') (h2 : a.heap.size ≤ b.heap.size) : Gr F a c F' := fun j hj => (h j hj).imp id fun q => ⟨by omega, q.2⟩
/-- F, and all that is new -/
def ext (F : Nat → Prop) (w w' : World) (k : Nat) : Prop := F k ∨ (w.heap.size ≤ k ∧ k < w'.heap.size)
theorem Gr.ext (F : Nat → Prop) (w w' : World) : Gr F w w' (ext F w w') := fun _ h => h
/-- 'append' of a block's cells to one's own slice -/
theorem wpList_append_ownA (w : World) {ops : Array Oper} {rest : List Oper} {o : Oper} {a : Act} {Q : Exit → Act → World → Prop} (hgd : o.guard = none) (s x : Operand) (t : TypeId)
    (ho : o.op = .call { callee := .builtin .append, args := #[s, x], argTypes := #[t, t] })
    (A : Nat → Prop) (e : TypeId) (i : TypeInfo) (z : Value) (size bytes : Nat) (ht : Tryz.prog.underlying t = some (.slice e)) (hi : Tryz.prog.info? e = some i) (hz : i.zero = some z)
    (hsize : i.size = size) (hby : i.bytes = bytes) (hzs : z.cells.size = size) (hsz : 0 < size)
    (v : Value) (n : Nat) (xs : List Value) (hs : a.eval s = v) (hown : OwnA w A e size v n xs)
    (ad : Addr) (m c : Nat) (news : List Value) (hx : a.eval x = .slice (some ad) m c) (hl : news.length = m * size) (hnews : ∀ j u, news[j]? = some u → w.cell? (ad.add j) = some u) (h1 : ∀ u ∈ news, u.oneCell' = true)
    (hN : n + m ≤ 1000000) (hB : bytes ≤ 1000)
    (h : ∀ a' c' w', OwnA w' (ext A w w') e size (.slice a' (n + m) c') (n + m) (xs ++ news) → Mut (fun k => v.ownBlock = some k) w w' → wpList Tryz.prog ops Q rest (a.put o.dst (.slice a' (n + m) c')) w') : wpList Tryz.prog ops Q (o :: rest) a w := by
  have h' : ∀ v' w', OwnA w' (ext A w w') e size v' (n + m) (xs ++ news) → Mut (fun k => v.ownBlock = some k) w w' → wpList Tryz.prog ops Q rest (a.put o.dst v') w' := by
    intro v' w' h1 h2
    obtain ⟨a', c', rfl⟩ : ∃ a' c', v' = .slice a' (n + m) c' := by
      obtain ⟨_, ⟨q1, q2⟩ | ⟨g, cap, cur, q, _⟩⟩ := h1.1
      · exact ⟨none, 0, by rw [q1, q2]⟩
      · exact ⟨_, _, q⟩
    exact h a' c' w' h1 h2
  refine wpList_append_own2 w hgd s x t ho 0 e i z size bytes ht hi hz hsize hby hzs hsz v n xs hs hown.1 ad m c news hx hl hnews h1 (by unfold maxLen; omega) ?_ (Nat.zero_le _) fun v' w' r1 r2 r3 => h' v' w' ⟨r1, fun g hg => ?_⟩ ?_
  · exact Nat.le_trans (Nat.mul_le_mul hN hB) (by decide)
  · rcases r3 g hg with q | q
    · exact .inl (hown.2 g q)
    · exact .inr ⟨q, (r1.lt g hg).2⟩
  · exact ⟨r2.os, r2.tape, r2.output, r2.size, fun k hk hn => r2.block k hk fun e => hn e.symm⟩
theorem mapsClone_any {f : FuncId} {fn : Func} {t : TypeId} {e : TypeId} (b n : Nat) (M : Int → Option Value) (w : World) (h : MapAt w b n M)
    (hc : ∀ es clock, w.heap[b]? = some (.map es clock) → Calls Tryz.prog f #[.map (some b)] w fun e w' => e = .returned (.map (some w.heap.size)) ∧ w' = w.alloc (.map es clock)) :
    Calls Tryz.prog f #[.map (some b)] w fun e w' => e = .returned (.map (some w.heap.size)) ∧ MapAt w' w.heap.size n M ∧ Fresh w w' ∧ w'.heap.size = w.heap.size + 1 := by
  obtain ⟨D, ⟨es, clock, hb, F, hs, hD⟩, hM⟩ := h
  refine (hc es clock hb).mono fun e w' ⟨he, hw⟩ => ?_
  subst hw
  exact ⟨he, ⟨D, ⟨es, clock, (MapKept.heap_alloc w _).1, F, hs, hD⟩, hM⟩, (Fresh.refl _).alloc _, by simp⟩
set_option maxRecDepth 100000 in
set_option maxHeartbeats 1000000 in
theorem mapsClone_string (b n : Nat) (M : Int → Option Value) (w : World) (h : MapAt w b n M) :
    Calls Tryz.prog 304 #[.map (some b)] w fun e w' => e = .returned (.map (some w.heap.size)) ∧ MapAt w' w.heap.size n M ∧ Fresh w w' ∧ w'.heap.size = w.heap.size + 1 := by
  refine mapsClone_any (fn := Tryz.f279) (t := 0) (e := 0) b n M w h fun es clock hb => ?_
  have hq := fun w => run_eql_map_nil_sl (P := Tryz.prog) w 134 _ _ (some b) Tryz.underlying134
  go_enter Tryz.func304, Tryz.ntmps304
  go_wp2
  rw [run_callFunc_extern Tryz.func279 (by kernel_rfl) (by kernel_rfl) (by kernel_rfl) (e := Extern.MapsClone.clone) (by kernel_rfl), run_maps_clone_sl w 134 hb]
  simp only [Result.andThen]
  rw [Oper.upon_value]
  go_wp2
  rw [run_typeAssert_map_sl _ 134 20 _ _ _ Tryz.underlying134]
  simp only [Result.andThen]
  rw [Oper.upon_value]
  go_wp2
  go_ret
  exact ⟨rfl, rfl⟩
set_option maxRecDepth 100000 in
set_option maxHeartbeats 1000000 in
theorem mapsClone_int (b n : Nat) (M : Int → Option Value) (w : World) (h : MapAt w b n M) :
    Calls Tryz.prog 192 #[.map (some b)] w fun e w' => e = .returned (.map (some w.heap.size)) ∧ MapAt w' w.heap.size n M ∧ Fresh w w' ∧ w'.heap.size = w.heap.size + 1 := by
  refine mapsClone_any (fn := Tryz.f279) (t := 0) (e := 0) b n M w h fun es clock hb => ?_
  have hq := fun w => run_eql_map_nil_sl (P := Tryz.prog) w 156 _ _ (some b) Tryz.underlying156
  go_enter Tryz.func192, Tryz.ntmps192
  go_wp2
  rw [run_callFunc_extern Tryz.func279 (by kernel_rfl) (by kernel_rfl) (by kernel_rfl) (e := Extern.MapsClone.clone) (by kernel_rfl), run_maps_clone_sl w 156 hb]
  simp only [Result.andThen]
  rw [Oper.upon_value]
  go_wp2
  rw [run_typeAssert_map_sl _ 156 20 _ _ _ Tryz.underlying156]
  simp only [Result.andThen]
  rw [Oper.upon_value]
  go_wp2
  go_ret
  exact ⟨rfl, rfl⟩
end Go.Proofs.YtpmlggjhfiljmaaGreatDoor
