/- Part 4 of what the law rests on. -/
import Derived.Maps.RangeWalk
import Derived.Maps.OwnSet
import Derived.Maps.Ext
import GoSem.Conv.StringToRunes
import Derived.KernelRfl
import Derived.Laws.IdiomStrings
import Derived.Laws.RangeAny
import Derived.Test.YtpmlggjhfiljmaaGreatDoorL03
set_option linter.all false
namespace Go.Proofs.YtpmlggjhfiljmaaGreatDoor
open Go.RowKit
open Go.Maps (Keyed)
theorem keyI : Keyed Tryz.prog 3 := Maps.int_keyed Tryz.underlying3
def heldR (v : Value) : Option (DataW Value × List MemPlace) := some (.held v, [])
abbrev kl (a : Int) : Lit := .int .i64 a
theorem kl_key (a : Int) : WideAt.IsKeyLit (kl a) := trivial
theorem kl_ne {a b : Int} (h : a ≠ b) : kl a ≠ kl b := fun e => h (by injection e)
def I64 (a : Int) : Prop := -9223372036854775808 ≤ a ∧ a ≤ 9223372036854775807
theorem I64.wf {a : Int} (h : I64 a) : (Lit.int .i64 a).wf = true := WalkArith.wf_i64 h
theorem keyOfI {a : Int} (h : I64 a) : keyOf Tryz.prog 3 (.int .i64 a) = some (kl a) := Maps.keyOf_int_mk Tryz.underlying3 h.wf
theorem atKey_indep {D : DataW Value} {k : Lit} (h : Maps.has D k = true) (z z' : DataW Value) : D.atKey k z = D.atKey k z' := by
  cases D <;> try (cases h; done)
  rename_i es
  cases hf : es.find? (fun p => p.1.sameKey k) with
  | some p => simp [DataW.atKey, hf]
  | none =>
    exfalso
    rw [List.find?_eq_none] at hf
    obtain ⟨p, hp, hpk⟩ := List.any_eq_true.1 h
    exact hf p hp hpk
def mget (D : DataW Value) (a : Int) : Option Value := if Maps.has D (kl a) = true then (match D.atKey (kl a) .nil with | .held v => some v | _ => none) else none
theorem mget_of_at {D : DataW Value} {a : Int} {z v : Value} (h : D.atKey (kl a) (.held z) = .held v) : v = (mget D a).getD z := by
  unfold mget
  cases hh : Maps.has D (kl a) with
  | false =>
    rw [Maps.atKey_of_not_has hh] at h
    injection h with h
    simp [h]
  | true =>
    rw [atKey_indep hh (.held z) .nil] at h
    simp [h]
theorem mget_has {D : DataW Value} {a : Int} {z v : Value} (h : D.atKey (kl a) (.held z) = .held v) : Maps.has D (kl a) = (mget D a).isSome := by
  unfold mget
  cases hh : Maps.has D (kl a) with
  | false => simp
  | true =>
    rw [atKey_indep hh (.held z) .nil] at h
    simp [h]
theorem mget_put {D : DataW Value} (hD : Maps.IsMap D) (k : Int) (v : Value) (a : Int) : mget (D.put (kl k) (.held v)) a = if a = k then some v else mget D a := by
  unfold mget
  by_cases e : a = k
  · subst e
    rw [Maps.has_put_same hD (kl_key _), Maps.atKey_put_same hD (kl_key _)]
    simp
  · rw [Maps.has_put_other (kl_ne e), Maps.atKey_put_other (kl_ne e), if_neg e]
theorem mget_del (D : DataW Value) (k a : Int) : mget (D.del (kl k)) a = if a = k then none else mget D a := by
  unfold mget
  by_cases e : a = k
  · subst e
    rw [Maps.has_del_same]
    simp
  · rw [Maps.has_del_other (kl_ne e), Maps.atKey_del_other (kl_ne e), if_neg e]
def MapAt (w : World) (b n : Nat) (M : Int → Option Value) : Prop := ∃ D : DataW Value, w.ownsMap Tryz.prog 3 heldR b n D ∧ ∀ a, mget D a = M a
theorem own_isMap {w : World} {b n : Nat} {D : DataW Value} (h : w.ownsMap Tryz.prog 3 heldR b n D) : Maps.IsMap D := by
  obtain ⟨es, clock, _, _, _, hD⟩ := h
  exact ⟨_, hD⟩
theorem MapAt.lt {w : World} {b n : Nat} {M : Int → Option Value} (h : MapAt w b n M) : b < w.heap.size := by obtain ⟨D, h, _⟩ := h; exact h.lt
theorem MapAt.mono {w : World} {b n n' : Nat} {M : Int → Option Value} (h : MapAt w b n M) (hn : n ≤ n') : MapAt w b n' M := by obtain ⟨D, h, hM⟩ := h; exact ⟨D, h.mono hn, hM⟩
theorem MapAt.mut {S : Nat → Prop} {w w' : World} {b n : Nat} {M : Int → Option Value} (h : MapAt w b n M) (hf : Mut S w w') (hn : ¬ S b) : MapAt w' b n M := by
  obtain ⟨D, h, hM⟩ := h
  have hlt := h.lt
  obtain ⟨es, clock, hb, r⟩ := h
  exact ⟨D, ⟨es, clock, (hf.block b hlt hn).trans hb, r⟩, hM⟩
theorem MapAt.fresh {w w' : World} {b n : Nat} {M : Int → Option Value} (h : MapAt w b n M) (hf : Fresh w w') : MapAt w' b n M := h.mut (hf.mut fun _ => False) (fun q => q)
theorem MapAt.alloc {w : World} {b n : Nat} {M : Int → Option Value} (h : MapAt w b n M) (o : Obj) : MapAt (w.alloc o) b n M := h.fresh ((Fresh.refl _).alloc o)
theorem MapAt.made (w : World) : MapAt (w.alloc (.map #[] 0)) w.heap.size 0 (fun _ => none) := ⟨_, World.ownsMap_made _ _ _ _, fun a => by simp [mget, Maps.has]⟩
theorem MapAt.congr {w : World} {b n : Nat} {M M' : Int → Option Value} (h : MapAt w b n M) (e : ∀ a, M a = M' a) : MapAt w b n M' := by obtain ⟨D, h, hM⟩ := h; exact ⟨D, h, fun a => (hM a).trans (e a)⟩
theorem held_inv {v : Value} {d : DataW Value} {ps : List MemPlace} (h : heldR v = some (d, ps)) : d = .held v := by unfold heldR at h; injection h with h; injection h with h1 h2; exact h1.symm
theorem wf_I64 {a : Int} (h : (Lit.int .i64 a).wf = true) : I64 a := by
  unfold I64
  simp [Lit.wf, IntKind.min, IntKind.max, IntKind.signed, IntKind.bits] at h
  omega
theorem own_held {w : World} {b n : Nat} {D : DataW Value} (h : w.ownsMap Tryz.prog 3 heldR b n D) (i : Int) (hh : Maps.has D (kl i) = true) : (mget D i).isSome = true ∧ I64 i := by
  obtain ⟨es, clock, hb, F, hs, rfl⟩ := h
  have hall : ∀ p ∈ (es.toList.map (WideElems.rg Tryz.prog 3 heldR)).foldr DataW.insert [], (∃ v, p.2 = .held v) ∧ ∃ key, keyOf Tryz.prog 3 key = some p.1 := by
    intro p hp
    have hp := (WideShapes.sorted_perm _).mem_iff.1 hp
    obtain ⟨x, hx, rfl⟩ := List.mem_map.1 hp
    obtain ⟨y, hy⟩ := F.reads x hx
    obtain ⟨z, hz, hyz⟩ := WideElems.rd_val hy
    rw [WideElems.rg_of hy]
    have hz2 : heldR x.val = some (z.1, z.2) := hz
    exact ⟨⟨x.val, by rw [hyz]; exact held_inv hz2⟩, _, WideElems.rd_key hy⟩
  have h1 : ((es.toList.map (WideElems.rg Tryz.prog 3 heldR)).foldr DataW.insert []).any (fun p => p.1.sameKey (kl i)) = true := hh
  obtain ⟨p, hp, hpk⟩ := List.any_eq_true.1 h1
  have hk := WideAt.sameKey_eq hpk
  constructor
  · unfold mget
    rw [if_pos hh]
    cases hf : ((es.toList.map (WideElems.rg Tryz.prog 3 heldR)).foldr DataW.insert []).find? (fun p => p.1.sameKey (kl i)) with
    | none => rw [List.find?_eq_none] at hf; exact absurd hpk (hf p hp)
    | some q =>
      obtain ⟨v, hv⟩ := (hall q (List.mem_of_find?_eq_some hf)).1
      simp [DataW.atKey, hf, hv]
  · obtain ⟨_, key, hkey⟩ := hall p hp
    rw [hk] at hkey
    obtain ⟨x, _, e2, hw⟩ := Maps.keyOf_int_inv Tryz.underlying3 hkey
    injection e2 with _ e2
    subst e2
    exact wf_I64 hw
theorem own_has {w : World} {b n : Nat} {D : DataW Value} (h : w.ownsMap Tryz.prog 3 heldR b n D) (i : Int) : Maps.has D (kl i) = (mget D i).isSome := by
  cases hh : Maps.has D (kl i) with
  | true => exact (own_held h i hh).1.symm
  | false => unfold mget; rw [hh]; rfl
theorem MapAt.key {w : World} {b n : Nat} {M : Int → Option Value} (h : MapAt w b n M) {i : Int} {v : Value} (hv : M i = some v) : I64 i := by
  obtain ⟨D, h, hM⟩ := h
  exact (own_held h i (by rw [own_has h, hM, hv]; rfl)).2
section
variable (w : World) {ops : Array Oper} {rest : List Oper} {o : Oper} {a : Act} {Q : Exit → Act → World → Prop}
theorem wpList_lookI (hg : o.guard = none) (m x : Operand) (t : TypeId) (hop : o.op = Op.lookup t m x false) (e : TypeId) (ht : Tryz.prog.underlying t = some (.map 3 e)) (z : Value) (hz : (zeroValue e).run Tryz.prog w = .ok z w)
    (b n : Nat) (M : Int → Option Value) (hm : a.eval m = .map (some b)) (h : MapAt w b n M) (k : Int) (hx : a.eval x = .int .i64 k) (hk : I64 k) (r : Value) (hr : (M k).getD z = r)
    (hK : wpList Tryz.prog ops Q rest (a.put o.dst r) w) : wpList Tryz.prog ops Q (o :: rest) a w := by
  refine wpList_plain hg fun K' hK' => ?_
  obtain ⟨D, hown, hM⟩ := h
  obtain ⟨v, ps, hrun, hv⟩ := hown.lookup keyI ht hz (zd := .held z) (zp := []) rfl (keyOfI hk)
  have e1 := mget_of_at (held_inv hv)
  rw [hM, hr] at e1
  subst e1
  unfold Oper.wp
  simp [execOp, hop, hm, hx, hrun, Result.andThen]
  exact hK' _ _ hK
theorem wpList_lookOkI (hg : o.guard = none) (m x : Operand) (t : TypeId) (hop : o.op = Op.lookup t m x true) (e : TypeId) (ht : Tryz.prog.underlying t = some (.map 3 e)) (z : Value) (hz : (zeroValue e).run Tryz.prog w = .ok z w)
    (b n : Nat) (M : Int → Option Value) (hm : a.eval m = .map (some b)) (h : MapAt w b n M) (k : Int) (hx : a.eval x = .int .i64 k) (hk : I64 k) (r : Value) (hr : (M k).getD z = r) (c : Bool) (hc : (M k).isSome = c)
    (hK : wpList Tryz.prog ops Q rest (a.put o.dst (.tuple #[r, .bool c])) w) : wpList Tryz.prog ops Q (o :: rest) a w := by
  refine wpList_plain hg fun K' hK' => ?_
  obtain ⟨D, hown, hM⟩ := h
  obtain ⟨v, ps, hrun, hv⟩ := hown.look_ok keyI ht hz (zd := .held z) (zp := []) rfl (keyOfI hk)
  have e1 := mget_of_at (held_inv hv)
  have e2 := mget_has (held_inv hv)
  rw [hM, hr] at e1
  rw [hM, hc] at e2
  subst e1
  rw [e2] at hrun
  unfold Oper.wp
  simp [execOp, hop, hm, hx, hrun, Result.andThen]
  exact hK' _ _ hK
theorem wpList_storeI (hg : o.guard = none) (m x v : Operand) (t : TypeId) (hop : o.op = Op.mapUpdate t m x v) (e : TypeId) (ht : Tryz.prog.underlying t = some (.map 3 e))
    (b n : Nat) (M : Int → Option Value) (hm : a.eval m = .map (some b)) (h : MapAt w b n M) (hn : n ≤ 1000000000) (k : Int) (hx : a.eval x = .int .i64 k) (hk : I64 k) (val : Value) (hv : a.eval v = val)
    (hK : ∀ w', MapAt w' b (n + 1) (fun i => if i = k then some val else M i) → Mut (fun j => j = b) w w' → Hid (w'.heap.size = w.heap.size) → wpList Tryz.prog ops Q rest (a.put o.dst undef) w') : wpList Tryz.prog ops Q (o :: rest) a w := by
  obtain ⟨D, hown, hM⟩ := h
  have hi := own_isMap hown
  refine wpList_mapUpdate_in w hg m x v t hop 3 e keyI ht heldR b n D hm hown (by unfold maxLen; omega) (.int .i64 k) val (kl k) hx hv (keyOfI hk) (.held val) [] rfl fun w' h1 h2 => hK w' ⟨_, h1, fun i => by rw [mget_put hi, hM]⟩ ?_ (Lib.hid ?_)
  · obtain ⟨es, clock, es', clock', hb, rfl⟩ := h2
    exact ⟨rfl, rfl, rfl, by simp [ChangeMaps.setBlock], fun j hj hn => ChangeMaps.heap_setBlock_other hb _ hn⟩
  · obtain ⟨es, clock, es', clock', hb, rfl⟩ := h2
    simp [ChangeMaps.setBlock]
theorem wpList_delI (hg : o.guard = none) (m x : Operand) (t : TypeId) (hop : o.op = Op.call { callee := Callee.builtin Builtin.delete, args := #[m, x], argTypes := #[t, 3] }) (e : TypeId) (ht : Tryz.prog.underlying t = some (.map 3 e))
    (b n : Nat) (M : Int → Option Value) (hm : a.eval m = .map (some b)) (h : MapAt w b n M) (k : Int) (hx : a.eval x = .int .i64 k) (hk : I64 k)
    (hK : ∀ w', MapAt w' b n (fun i => if i = k then none else M i) → Mut (fun j => j = b) w w' → Hid (w'.heap.size = w.heap.size) → wpList Tryz.prog ops Q rest (a.put o.dst (.tuple #[])) w') : wpList Tryz.prog ops Q (o :: rest) a w := by
  obtain ⟨D, hown, hM⟩ := h
  refine wpList_delete_own w hg m x t 3 hop e keyI ht heldR b n D hm hown (.int .i64 k) (kl k) hx (keyOfI hk) fun w' h1 h2 => hK w' ⟨_, h1, fun i => by rw [mget_del, hM]⟩ ?_ (Lib.hid ?_)
  · obtain ⟨es, clock, es', clock', hb, rfl⟩ := h2
    exact ⟨rfl, rfl, rfl, by simp [ChangeMaps.setBlock], fun j hj hn => ChangeMaps.heap_setBlock_other hb _ hn⟩
  · obtain ⟨es, clock, es', clock', hb, rfl⟩ := h2
    simp [ChangeMaps.setBlock]
end
def RangAt (w : World) (b r n : Nat) (M : Int → Option Value) (L : Int → Bool) (cnt : Nat) : Prop := ∃ (D : DataW Value) (left : Lit → Bool), w.ranges Tryz.prog 3 heldR b r n D left cnt ∧ (∀ a, mget D a = M a) ∧ ∀ a, left (kl a) = L a
theorem RangAt.map {w : World} {b r n : Nat} {M : Int → Option Value} {L : Int → Bool} {cnt : Nat} (h : RangAt w b r n M L cnt) : MapAt w b n M := by
  obtain ⟨D, left, h1, h2, _⟩ := h
  exact ⟨D, h1.owns, h2⟩
section
variable (w : World) {ops : Array Oper} {rest : List Oper} {o : Oper} {a : Act} {Q : Exit → Act → World → Prop}
theorem held_some {D : DataW Value} {a : Int} {v : Value} (h : ∀ zd, D.atKey (kl a) zd = .held v) : mget D a = some v := by
  have := mget_of_at (z := v) (h (.held v))
  unfold mget
  rw [Maps.has_true_of_atKey h, h]
  simp
theorem wpList_rangeI (hg : o.guard = none) (m : Operand) (t : TypeId) (hop : o.op = Op.range t m) (e : TypeId) (ht : Tryz.prog.underlying t = some (.map 3 e)) (b n : Nat) (M : Int → Option Value) (hm : a.eval m = .map (some b)) (h : MapAt w b n M)
    (hK : ∀ w' cnt, RangAt w' b w.heap.size n M (fun i => (M i).isSome) cnt → cnt ≤ n → Fresh w w' → Hid (w'.heap.size = w.heap.size + 1) → wpList Tryz.prog ops Q rest (a.put o.dst (.pointer (some ⟨w.heap.size, 0, none⟩))) w') :
    wpList Tryz.prog ops Q (o :: rest) a w := by
  obtain ⟨D, hown, hM⟩ := h
  refine wpList_range_own w hg m t hop 3 e keyI ht heldR b n D hm hown fun w' h1 h2 h3 => hK w' _ ⟨D, _, h1, hM, fun i => ?_⟩ hown.size_le ⟨h2.os, h2.tape, h2.output, h2.size, fun k hk => h2.block k hk (by simp)⟩ (Lib.hid h3)
  show _ = (M i).isSome
  rw [← hM]
  exact own_has hown i
theorem wpList_nextI (hg : o.guard = none) (it : Operand) (hop : o.op = Op.next it false) (b r n : Nat) (M : Int → Option Value) (L : Int → Bool) (cnt : Nat) (hit : a.eval it = .pointer (some ⟨r, 0, none⟩)) (h : RangAt w b r n M L cnt)
    (hDone : (∀ i, L i = false) → wpList Tryz.prog ops Q rest (a.put o.dst (.tuple #[.bool false])) w)
    (hMore : ∀ (x : Int) (c : Value) (w' : World) (cnt' : Nat), I64 x → L x = true → M x = some c → RangAt w' b r n M (fun i => L i && decide (i ≠ x)) cnt' → cnt' < cnt → Mut (fun j => j = r) w w' → Hid (w'.heap.size = w.heap.size) →
      (Instr.entry (.pointer (some ⟨r, 0, none⟩))).run Tryz.prog w' = .ok (.tuple #[.int .i64 x, c]) w' → wpList Tryz.prog ops Q rest (a.put o.dst (.tuple #[.bool true, .int .i64 x, c])) w') :
    wpList Tryz.prog ops Q (o :: rest) a w := by
  obtain ⟨D, left, h1, hM, hL⟩ := h
  refine wpList_next_ranges w hg it hop 3 keyI heldR (fun x : Int => Value.int .i64 x) (fun c : Value => c) (fun key kl h => by obtain ⟨x, rfl, _⟩ := Maps.keyOf_int_inv Tryz.underlying3 h; exact ⟨x, rfl⟩) (fun v y _ => ⟨v, rfl⟩) b r n D left cnt hit h1 (fun _ hl => hDone fun i => by rw [← hL]; exact hl _) ?_
  intro x c k y w' cnt' hk hl hy hat hr hlt hgr hsz hen
  obtain ⟨x', e1, e2, hw⟩ := Maps.keyOf_int_inv Tryz.underlying3 hk
  injection e1 with _ e1
  subst e1 e2
  have hy1 : y.1 = .held c := held_inv (ps := y.2) hy
  have hc : M x = some c := by rw [← hM]; exact held_some fun zd => by rw [hat zd, hy1]
  refine hMore x c w' cnt' ?_ (by rw [← hL]; exact hl) hc ⟨D, _, hr, hM, fun i => ?_⟩ hlt ⟨hgr.os, hgr.tape, hgr.output, hgr.size, fun k hk hn => hgr.block k hk fun e => hn (by injection e with e)⟩ (Lib.hid hsz) hen
  · exact wf_I64 hw
  · rw [hL]
    by_cases e : i = x
    · subst e
      rw [WideAt.sameKey_self (kl_key _)]
      simp
    · rw [Maps.sameKey_ne (kl_ne e)]
      simp [e]
end
end Go.Proofs.YtpmlggjhfiljmaaGreatDoor
namespace Go.Proofs.YtpmlggjhfiljmaaGreatDoor
open Go.RowKit
def mkI : Nat → Int
  | 0 => 768
  | 1 => 769
  | 2 => 770
  | 3 => 771
  | 4 => 772
  | 5 => 774
  | 6 => 775
  | 7 => 776
  | 8 => 778
  | 9 => 779
  | 10 => 780
  | 11 => 807
  | 12 => 808
  | _ => 0
def lsS : Nat → ByteArray
  | 0 => ⟨#[65, 69, 73, 79, 85, 97, 101, 105, 111, 117]⟩
  | 1 => ⟨#[65, 69, 73, 79, 85, 89, 97, 101, 105, 111, 117, 121, 67, 99, 76, 108, 78, 110, 82, 114, 83, 115, 90, 122]⟩
  | 2 => ⟨#[65, 69, 73, 79, 85, 97, 101, 105, 111, 117, 67, 99, 71, 103, 72, 104, 74, 106, 83, 115, 87, 119, 89, 121]⟩
  | 3 => ⟨#[65, 78, 79, 97, 110, 111, 73, 105, 85, 117]⟩
  | 4 => ⟨#[65, 97, 69, 101, 73, 105, 79, 111, 85, 117]⟩
  | 5 => ⟨#[65, 97, 69, 101, 71, 103, 73, 105, 79, 111, 85, 117]⟩
  | 6 => ⟨#[67, 99, 69, 101, 71, 103, 73, 90, 122]⟩
  | 7 => ⟨#[65, 69, 73, 79, 85, 97, 101, 105, 111, 117, 121, 89]⟩
  | 8 => ⟨#[65, 97, 85, 117]⟩
  | 9 => ⟨#[79, 111, 85, 117]⟩
  | 10 => ⟨#[67, 99, 68, 100, 69, 101, 78, 110, 82, 114, 83, 115, 84, 116, 90, 122]⟩
  | 11 => ⟨#[67, 99, 71, 103, 75, 107, 76, 108, 78, 110, 82, 114, 83, 115, 84, 116]⟩
  | 12 => ⟨#[65, 97, 69, 101, 73, 105, 85, 117]⟩
  | _ => ByteArray.empty
def msS : Nat → ByteArray
  | 0 => ⟨#[195, 128, 195, 136, 195, 140, 195, 146, 195, 153, 195, 160, 195, 168, 195, 172, 195, 178, 195, 185]⟩
  | 1 => ⟨#[195, 129, 195, 137, 195, 141, 195, 147, 195, 154, 195, 157, 195, 161, 195, 169, 195, 173, 195, 179, 195, 186, 195, 189, 196, 134, 196, 135, 196, 185, 196, 186, 197, 131, 197, 132, 197, 148, 197, 149, 197, 154, 197, 155, 197, 185, 197, 186]⟩
  | 2 => ⟨#[195, 130, 195, 138, 195, 142, 195, 148, 195, 155, 195, 162, 195, 170, 195, 174, 195, 180, 195, 187, 196, 136, 196, 137, 196, 156, 196, 157, 196, 164, 196, 165, 196, 180, 196, 181, 197, 156, 197, 157, 197, 180, 197, 181, 197, 182, 197, 183]⟩
  | 3 => ⟨#[195, 131, 195, 145, 195, 149, 195, 163, 195, 177, 195, 181, 196, 168, 196, 169, 197, 168, 197, 169]⟩
  | 4 => ⟨#[196, 128, 196, 129, 196, 146, 196, 147, 196, 170, 196, 171, 197, 140, 197, 141, 197, 170, 197, 171]⟩
  | 5 => ⟨#[196, 130, 196, 131, 196, 148, 196, 149, 196, 158, 196, 159, 196, 172, 196, 173, 197, 142, 197, 143, 197, 172, 197, 173]⟩
  | 6 => ⟨#[196, 138, 196, 139, 196, 150, 196, 151, 196, 160, 196, 161, 196, 176, 197, 187, 197, 188]⟩
  | 7 => ⟨#[195, 132, 195, 139, 195, 143, 195, 150, 195, 156, 195, 164, 195, 171, 195, 175, 195, 182, 195, 188, 195, 191, 197, 184]⟩
  | 8 => ⟨#[195, 133, 195, 165, 197, 174, 197, 175]⟩
  | 9 => ⟨#[197, 144, 197, 145, 197, 176, 197, 177]⟩
  | 10 => ⟨#[196, 140, 196, 141, 196, 142, 196, 143, 196, 154, 196, 155, 197, 135, 197, 136, 197, 152, 197, 153, 197, 160, 197, 161, 197, 164, 197, 165, 197, 189, 197, 190]⟩
  | 11 => ⟨#[195, 135, 195, 167, 196, 162, 196, 163, 196, 182, 196, 183, 196, 187, 196, 188, 197, 133, 197, 134, 197, 150, 197, 151, 197, 158, 197, 159, 197, 162, 197, 163]⟩
  | 12 => ⟨#[196, 132, 196, 133, 196, 152, 196, 153, 196, 174, 196, 175, 197, 178, 197, 179]⟩
  | _ => ByteArray.empty
def liI : Nat → List Int
  | 0 => [65, 69, 73, 79, 85, 97, 101, 105, 111, 117]
  | 1 => [65, 69, 73, 79, 85, 89, 97, 101, 105, 111, 117, 121, 67, 99, 76, 108, 78, 110, 82, 114, 83, 115, 90, 122]
  | 2 => [65, 69, 73, 79, 85, 97, 101, 105, 111, 117, 67, 99, 71, 103, 72, 104, 74, 106, 83, 115, 87, 119, 89, 121]
  | 3 => [65, 78, 79, 97, 110, 111, 73, 105, 85, 117]
  | 4 => [65, 97, 69, 101, 73, 105, 79, 111, 85, 117]
  | 5 => [65, 97, 69, 101, 71, 103, 73, 105, 79, 111, 85, 117]
  | 6 => [67, 99, 69, 101, 71, 103, 73, 90, 122]
  | 7 => [65, 69, 73, 79, 85, 97, 101, 105, 111, 117, 121, 89]
  | 8 => [65, 97, 85, 117]
  | 9 => [79, 111, 85, 117]
  | 10 => [67, 99, 68, 100, 69, 101, 78, 110, 82, 114, 83, 115, 84, 116, 90, 122]
  | 11 => [67, 99, 71, 103, 75, 107, 76, 108, 78, 110, 82, 114, 83, 115, 84, 116]
  | 12 => [65, 97, 69, 101, 73, 105, 85, 117]
  | _ => []
def miI : Nat → List Int
  | 0 => [192, 200, 204, 210, 217, 224, 232, 236, 242, 249]
  | 1 => [193, 201, 205, 211, 218, 221, 225, 233, 237, 243, 250, 253, 262, 263, 313, 314, 323, 324, 340, 341, 346, 347, 377, 378]
  | 2 => [194, 202, 206, 212, 219, 226, 234, 238, 244, 251, 264, 265, 284, 285, 292, 293, 308, 309, 348, 349, 372, 373, 374, 375]
  | 3 => [195, 209, 213, 227, 241, 245, 296, 297, 360, 361]
  | 4 => [256, 257, 274, 275, 298, 299, 332, 333, 362, 363]
  | 5 => [258, 259, 276, 277, 286, 287, 300, 301, 334, 335, 364, 365]
  | 6 => [266, 267, 278, 279, 288, 289, 304, 379, 380]
  | 7 => [196, 203, 207, 214, 220, 228, 235, 239, 246, 252, 255, 376]
  | 8 => [197, 229, 366, 367]
  | 9 => [336, 337, 368, 369]
  | 10 => [268, 269, 270, 271, 282, 283, 327, 328, 344, 345, 352, 353, 356, 357, 381, 382]
  | 11 => [199, 231, 290, 291, 310, 311, 315, 316, 325, 326, 342, 343, 350, 351, 354, 355]
  | 12 => [260, 261, 280, 281, 302, 303, 370, 371]
  | _ => []
theorem forK {p : Nat → Prop} (h : ∀ k : Fin 13, p k.val) {k : Nat} (hk : k < 13) : p k := h ⟨k, hk⟩
theorem ls_size {k : Nat} (h : k < 13) : (lsS k).size = (liI k).length ∧ (miI k).length = (liI k).length ∧ (liI k).length ≤ 24 ∧ (msS k).size ≤ 48 :=
  forK (p := fun k => (lsS k).size = (liI k).length ∧ (miI k).length = (liI k).length ∧ (liI k).length ≤ 24 ∧ (msS k).size ≤ 48) (by decide +kernel) h
theorem ls_dec {k : Nat} (h : k < 13) : ∀ i : Nat, i < (liI k).length → Utf8.decode (lsS k) i = (((liI k).getD i 0).toNat, 1) ∧ 0 ≤ (liI k).getD i 0 :=
  forK (p := fun k => ∀ i : Nat, i < (liI k).length → Utf8.decode (lsS k) i = (((liI k).getD i 0).toNat, 1) ∧ 0 ≤ (liI k).getD i 0) (by decide +kernel) h
theorem ms_runes_0 : Conv.runesFrom (msS 0) (msS 0).size 0 #[] = ((miI 0).map (Value.int .i32)).toArray := by kernel_rfl
theorem ms_runes_1 : Conv.runesFrom (msS 1) (msS 1).size 0 #[] = ((miI 1).map (Value.int .i32)).toArray := by kernel_rfl
theorem ms_runes_2 : Conv.runesFrom (msS 2) (msS 2).size 0 #[] = ((miI 2).map (Value.int .i32)).toArray := by kernel_rfl
theorem ms_runes_3 : Conv.runesFrom (msS 3) (msS 3).size 0 #[] = ((miI 3).map (Value.int .i32)).toArray := by kernel_rfl
theorem ms_runes_4 : Conv.runesFrom (msS 4) (msS 4).size 0 #[] = ((miI 4).map (Value.int .i32)).toArray := by kernel_rfl
theorem ms_runes_5 : Conv.runesFrom (msS 5) (msS 5).size 0 #[] = ((miI 5).map (Value.int .i32)).toArray := by kernel_rfl
theorem ms_runes_6 : Conv.runesFrom (msS 6) (msS 6).size 0 #[] = ((miI 6).map (Value.int .i32)).toArray := by kernel_rfl
theorem ms_runes_7 : Conv.runesFrom (msS 7) (msS 7).size 0 #[] = ((miI 7).map (Value.int .i32)).toArray := by kernel_rfl
theorem ms_runes_8 : Conv.runesFrom (msS 8) (msS 8).size 0 #[] = ((miI 8).map (Value.int .i32)).toArray := by kernel_rfl
theorem ms_runes_9 : Conv.runesFrom (msS 9) (msS 9).size 0 #[] = ((miI 9).map (Value.int .i32)).toArray := by kernel_rfl
theorem ms_runes_10 : Conv.runesFrom (msS 10) (msS 10).size 0 #[] = ((miI 10).map (Value.int .i32)).toArray := by kernel_rfl
theorem ms_runes_11 : Conv.runesFrom (msS 11) (msS 11).size 0 #[] = ((miI 11).map (Value.int .i32)).toArray := by kernel_rfl
theorem ms_runes_12 : Conv.runesFrom (msS 12) (msS 12).size 0 #[] = ((miI 12).map (Value.int .i32)).toArray := by kernel_rfl
theorem ms_runes {k : Nat} (h : k < 13) : Conv.runesFrom (msS k) (msS k).size 0 #[] = ((miI k).map (Value.int .i32)).toArray := by
  match k, h with
  | 0, _ => exact ms_runes_0
  | 1, _ => exact ms_runes_1
  | 2, _ => exact ms_runes_2
  | 3, _ => exact ms_runes_3
  | 4, _ => exact ms_runes_4
  | 5, _ => exact ms_runes_5
  | 6, _ => exact ms_runes_6
  | 7, _ => exact ms_runes_7
  | 8, _ => exact ms_runes_8
  | 9, _ => exact ms_runes_9
  | 10, _ => exact ms_runes_10
  | 11, _ => exact ms_runes_11
  | 12, _ => exact ms_runes_12
theorem ls_runes_0 : Conv.runesFrom (lsS 0) (lsS 0).size 0 #[] = ((liI 0).map (Value.int .i32)).toArray := by kernel_rfl
theorem ls_runes_1 : Conv.runesFrom (lsS 1) (lsS 1).size 0 #[] = ((liI 1).map (Value.int .i32)).toArray := by kernel_rfl
theorem ls_runes_2 : Conv.runesFrom (lsS 2) (lsS 2).size 0 #[] = ((liI 2).map (Value.int .i32)).toArray := by kernel_rfl
theorem ls_runes_3 : Conv.runesFrom (lsS 3) (lsS 3).size 0 #[] = ((liI 3).map (Value.int .i32)).toArray := by kernel_rfl
theorem ls_runes_4 : Conv.runesFrom (lsS 4) (lsS 4).size 0 #[] = ((liI 4).map (Value.int .i32)).toArray := by kernel_rfl
theorem ls_runes_5 : Conv.runesFrom (lsS 5) (lsS 5).size 0 #[] = ((liI 5).map (Value.int .i32)).toArray := by kernel_rfl
theorem ls_runes_6 : Conv.runesFrom (lsS 6) (lsS 6).size 0 #[] = ((liI 6).map (Value.int .i32)).toArray := by kernel_rfl
theorem ls_runes_7 : Conv.runesFrom (lsS 7) (lsS 7).size 0 #[] = ((liI 7).map (Value.int .i32)).toArray := by kernel_rfl
theorem ls_runes_8 : Conv.runesFrom (lsS 8) (lsS 8).size 0 #[] = ((liI 8).map (Value.int .i32)).toArray := by kernel_rfl
theorem ls_runes_9 : Conv.runesFrom (lsS 9) (lsS 9).size 0 #[] = ((liI 9).map (Value.int .i32)).toArray := by kernel_rfl
theorem ls_runes_10 : Conv.runesFrom (lsS 10) (lsS 10).size 0 #[] = ((liI 10).map (Value.int .i32)).toArray := by kernel_rfl
theorem ls_runes_11 : Conv.runesFrom (lsS 11) (lsS 11).size 0 #[] = ((liI 11).map (Value.int .i32)).toArray := by kernel_rfl
theorem ls_runes_12 : Conv.runesFrom (lsS 12) (lsS 12).size 0 #[] = ((liI 12).map (Value.int .i32)).toArray := by kernel_rfl
theorem ls_runes {k : Nat} (h : k < 13) : Conv.runesFrom (lsS k) (lsS k).size 0 #[] = ((liI k).map (Value.int .i32)).toArray := by
  match k, h with
  | 0, _ => exact ls_runes_0
  | 1, _ => exact ls_runes_1
  | 2, _ => exact ls_runes_2
  | 3, _ => exact ls_runes_3
  | 4, _ => exact ls_runes_4
  | 5, _ => exact ls_runes_5
  | 6, _ => exact ls_runes_6
  | 7, _ => exact ls_runes_7
  | 8, _ => exact ls_runes_8
  | 9, _ => exact ls_runes_9
  | 10, _ => exact ls_runes_10
  | 11, _ => exact ls_runes_11
  | 12, _ => exact ls_runes_12
def rowT (k : Nat) : List (Int × Int × Int) := ((liI k).zip (miI k)).map fun x => (x.1, mkI k, x.2)
def uptoT (k : Nat) : List (Int × Int × Int) := (List.range k).flatMap rowT
theorem uptoT_succ (k : Nat) : uptoT (k + 1) = uptoT k ++ rowT k := by simp [uptoT, List.range_succ]
theorem uptoT_prefix {k n : Nat} (h : k ≤ n) : ∃ r, uptoT n = uptoT k ++ r := by
  induction n with
  | zero => exact ⟨[], by obtain rfl : k = 0 := by omega
                          simp⟩
  | succ n ih =>
    by_cases e : k = n + 1
    · exact ⟨[], by subst e; simp⟩
    · obtain ⟨r, hr⟩ := ih (by omega)
      exact ⟨r ++ rowT n, by rw [uptoT_succ, hr, List.append_assoc]⟩
def T : List (Int × Int × Int) := uptoT 13
def isAB (a b : Int) (t : Int × Int × Int) : Bool := t.1 == a && t.2.1 == b
def isR (r : Int) (t : Int × Int × Int) : Bool := t.2.2 == r
def hanI (a b : Int) : Option Int :=
  if 4352 ≤ a ∧ a < 4371 ∧ 4449 ≤ b ∧ b < 4470 then some (44032 + (a - 4352) * 588 + (b - 4449) * 28)
  else if 44032 ≤ a ∧ a < 55204 ∧ (a - 44032) % 28 = 0 ∧ 4520 ≤ b ∧ b < 4547 then some (a + b - 4520 + 1) else none
def hanS (r : Int) : Option (Int × Int) :=
  if 44032 ≤ r ∧ r < 55204 then
    if 0 < (r - 44032) % 28 then some (r - (r - 44032) % 28, 4520 + (r - 44032) % 28 - 1)
    else some (4352 + (r - 44032) / 588, 4449 + (r - 44032) % 588 / 28)
  else none
def pairI (a b : Int) : Option Int := match T.find? (isAB a b) with
  | some t => some t.2.2
  | none => hanI a b
def splitI (r : Int) : Option (Int × Int) := match T.find? (isR r) with
  | some t => some (t.1, t.2.1)
  | none => hanS r
def clsI (r : Int) : Int := if (768 ≤ r ∧ r ≤ 772) ∨ (774 ≤ r ∧ r ≤ 776) ∨ (778 ≤ r ∧ r ≤ 780) then 230 else if r = 807 ∨ r = 808 then 202 else 0
theorem T_facts : (T.all fun t => T.find? (isR t.2.2) == some t && T.find? (isAB t.1 t.2.1) == some t && decide (0 < t.2.2) && decide (t.2.2 < 4352) && decide (0 ≤ t.1) && decide (t.1 < 128) && decide (768 ≤ t.2.1) && decide (t.2.1 < 809) && decide (clsI t.2.2 = 0) && decide (clsI t.1 = 0) && decide (clsI t.2.1 ≠ 0) && decide (128 ≤ t.2.2)) = true := by decide +kernel
theorem T_of {t : Int × Int × Int} (h : t ∈ T) : T.find? (isR t.2.2) = some t ∧ T.find? (isAB t.1 t.2.1) = some t ∧ 0 < t.2.2 ∧ t.2.2 < 4352 ∧ 0 ≤ t.1 ∧ t.1 < 128 ∧ 768 ≤ t.2.1 ∧ t.2.1 < 809 ∧ clsI t.2.2 = 0 ∧ clsI t.1 = 0 ∧ clsI t.2.1 ≠ 0 ∧ 128 ≤ t.2.2 := by
  have := List.all_eq_true.1 T_facts t h
  simpa [and_assoc] using this
theorem find_row_none {k : Nat} {a b : Int} (h : mkI k ≠ b) : (rowT k).find? (isAB a b) = none := by
  rw [List.find?_eq_none]
  intro t ht
  simp only [rowT, List.mem_map] at ht
  obtain ⟨x, _, rfl⟩ := ht
  simp [isAB, h]
theorem find_zip {p : Int → Bool} {f : Int × Int → Int × Int × Int} (l m : List Int) (q : Int × Int × Int → Bool) (hq : ∀ x, q (f x) = p x.1) :
    ∀ i, i < l.length → l.length = m.length → (∀ j, j < i → p (l.getD j 0) = false) → p (l.getD i 0) = true → ((l.zip m).map f).find? q = some (f (l.getD i 0, m.getD i 0)) := by
  induction l generalizing m with
  | nil => intro i hi; simp at hi
  | cons x l ih =>
    intro i hi hl hj hp
    cases m with
    | nil => simp at hl
    | cons y m =>
      cases i with
      | zero => simp at hp; simp [hq, hp]
      | succ i =>
        have h0 := hj 0 (by omega)
        simp at h0 hp hi hl
        simp only [List.zip_cons_cons, List.map_cons, List.find?_cons, hq, h0, List.getD_cons_succ]
        exact ih m i hi hl (fun j hj' => by have := hj (j + 1) (by omega); simpa using this) (by simpa using hp)
theorem find_zip_none {p : Int → Bool} {f : Int × Int → Int × Int × Int} (l m : List Int) (q : Int × Int × Int → Bool) (hq : ∀ x, q (f x) = p x.1)
    (hj : ∀ j, j < l.length → p (l.getD j 0) = false) : ((l.zip m).map f).find? q = none := by
  rw [List.find?_eq_none]
  intro t ht
  simp only [List.mem_map] at ht
  obtain ⟨x, hx, rfl⟩ := ht
  rw [hq]
  have := List.of_mem_zip hx
  obtain ⟨i, hi, he⟩ := List.getElem_of_mem this.1
  have h2 := hj i hi
  rw [List.getD_eq_getElem?_getD, List.getElem?_eq_getElem hi, Option.getD_some, he] at h2
  simp [h2]
open Go.RowKit
def tabCells : List Value := (List.range 13).flatMap fun k => [.int .i32 (mkI k), .string (lsS k), .string (msS k)]
theorem tab_cells {k : Nat} (h : k < 13) : tabCells[k * 3]? = some (.int .i32 (mkI k)) ∧ tabCells[k * 3 + 1]? = some (.string (lsS k)) ∧ tabCells[k * 3 + 2]? = some (.string (msS k)) := by
  match k, h with
  | 0, _ => exact ⟨rfl, rfl, rfl⟩
  | 1, _ => exact ⟨rfl, rfl, rfl⟩
  | 2, _ => exact ⟨rfl, rfl, rfl⟩
  | 3, _ => exact ⟨rfl, rfl, rfl⟩
  | 4, _ => exact ⟨rfl, rfl, rfl⟩
  | 5, _ => exact ⟨rfl, rfl, rfl⟩
  | 6, _ => exact ⟨rfl, rfl, rfl⟩
  | 7, _ => exact ⟨rfl, rfl, rfl⟩
  | 8, _ => exact ⟨rfl, rfl, rfl⟩
  | 9, _ => exact ⟨rfl, rfl, rfl⟩
  | 10, _ => exact ⟨rfl, rfl, rfl⟩
  | 11, _ => exact ⟨rfl, rfl, rfl⟩
  | 12, _ => exact ⟨rfl, rfl, rfl⟩
set_option maxHeartbeats 800000 in
theorem lines_any (w : World) :
    Calls Tryz.prog 116 #[] w fun e w' => e = .returned (.slice (some ⟨w.heap.size, 0, none⟩) 13 13) ∧ Fresh w w' ∧ Blk w' w.heap.size 187 tabCells.toArray := by
  go_enter Tryz.func116, Tryz.ntmps116
  go_wp2
  go_ret
  refine ⟨rfl, (Fresh.refl _).alloc _, ?_⟩
  exact heap_alloc_new w _
set_option maxHeartbeats 400000 in
theorem class_any (r : Int) (w : World) : Calls Tryz.prog 25 #[.int .i32 r] w fun e w' => e = .returned (.int .i64 (clsI r)) ∧ w = w' := by
  by_cases e1 : r = 807
  · subst e1
    go_enter Tryz.func25, Tryz.ntmps25
    go_wp2
    go_ret
    exact ⟨rfl, rfl⟩
  by_cases e2 : r = 808
  · subst e2
    go_enter Tryz.func25, Tryz.ntmps25
    go_wp2
    go_ret
    exact ⟨rfl, rfl⟩
  have b1 : (r == 807) = false := by simp [e1]
  have b2 : (r == 808) = false := by simp [e2]
  have E1 := Lib.hid e1
  have E2 := Lib.hid e2
  clear e1 e2
  go_enter Tryz.func25, Tryz.ntmps25
  go_wp2
  all_goals (go_ret; exact ⟨ret_int (by have := E1.out; have := E2.out; unfold clsI; repeat' split
                                        all_goals omega), rfl⟩)
def openB (r : Int) : Bool := decide (44032 ≤ r ∧ r < 55204 ∧ (r - 44032) % 28 = 0)
set_option maxHeartbeats 400000 in
theorem open_any (r : Int) (w : World) : Calls Tryz.prog 170 #[.int .i32 r] w fun e w' => e = .returned (.bool (openB r)) ∧ w = w' := by
  by_cases h : 44032 ≤ r ∧ r < 55204
  · obtain ⟨h1, h2⟩ := h
    by_cases h3 : (r - 44032) % 28 = 0
    · have b : ((r - 44032) % 28 == 0) = true := by simp [h3]
      have H3 := Lib.hid h3
      clear h3
      go_enter Tryz.func170, Tryz.ntmps170
      go_wp2
      go_ret
      exact ⟨ret_bool (by symm; unfold openB; rw [decide_eq_true_iff]; exact ⟨h1, h2, H3.out⟩), rfl⟩
    · have b : ((r - 44032) % 28 == 0) = false := by simp [h3]
      have H3 := Lib.hid h3
      clear h3
      go_enter Tryz.func170, Tryz.ntmps170
      go_wp2
      go_ret
      exact ⟨ret_bool (by symm; unfold openB; rw [decide_eq_false_iff_not]; exact fun h => H3.out h.2.2), rfl⟩
  · have H := Lib.hid h
    by_cases h1 : 44032 ≤ r
    · have h2 : 55204 ≤ r := by omega
      clear h
      go_enter Tryz.func170, Tryz.ntmps170
      go_wp2
      go_ret
      exact ⟨ret_bool (by symm; unfold openB; rw [decide_eq_false_iff_not]; exact fun h => H.out ⟨h.1, h.2.1⟩), rfl⟩
    · clear h
      go_enter Tryz.func170, Tryz.ntmps170
      go_wp2
      go_ret
      exact ⟨ret_bool (by symm; unfold openB; rw [decide_eq_false_iff_not]; exact fun h => H.out ⟨h.1, h.2.1⟩), rfl⟩
def OptI (o : Option Int) (e : Ending) : Prop := e = .returned (.tuple #[.int .i32 (o.getD 0), .bool o.isSome])
theorem OptI.yes {o : Option Int} {n : Int} (h : o = some n) : OptI o (.returned (.tuple #[.int .i32 n, .bool true])) := by rw [h]; rfl
theorem OptI.no {o : Option Int} (h : o = none) : OptI o (.returned (.tuple #[.int .i32 0, .bool false])) := by rw [h]; rfl
set_option maxHeartbeats 800000 in
theorem hangul_any (a b : Int) (w : World) (ha : -2147483648 ≤ a ∧ a < 2147483648) (hb : -2147483648 ≤ b ∧ b < 2147483648) :
    Calls Tryz.prog 117 #[.int .i32 a, .int .i32 b] w fun e w' => OptI (hanI a b) e ∧ w = w' := by
  obtain ⟨a1, a2⟩ := ha
  obtain ⟨b1, b2⟩ := hb
  by_cases h : 4352 ≤ a ∧ a < 4371 ∧ 4449 ≤ b ∧ b < 4470
  · have hz : hanI a b = some (44032 + (a - 4352) * 588 + (b - 4449) * 28) := by unfold hanI; rw [if_pos h]
    have HZ := Lib.hid hz
    clear hz
    obtain ⟨h1, h2, h3, h4⟩ := h
    go_enter Tryz.func117, Tryz.ntmps117
    go_wp2
    go_ret2
    exact ⟨OptI.yes HZ.out, rfl⟩
  by_cases g : 44032 ≤ a ∧ a < 55204 ∧ (a - 44032) % 28 = 0 ∧ 4520 ≤ b ∧ b < 4547
  · have hz : hanI a b = some (a + b - 4520 + 1) := by unfold hanI; rw [if_neg h, if_pos g]
    have HZ := Lib.hid hz
    have ho : openB a = true := by unfold openB; simp; omega
    have HO := Lib.hid ho
    obtain ⟨g1, g2, g3, g4, g5⟩ := g
    clear hz h ho g3
    go_enter Tryz.func117, Tryz.ntmps117
    go_wp2_with fail
    refine (open_any _ _).mono ?_
    rintro e w1 ⟨rfl, rfl⟩
    rw [HO.out]
    go_wp2
    go_ret2
    exact ⟨OptI.yes HZ.out, rfl⟩
  · have hz : hanI a b = none := by unfold hanI; rw [if_neg h, if_neg g]
    have HZ := Lib.hid hz
    clear hz
    cases ho : openB a with
    | true =>
      have hq : 44032 ≤ a ∧ a < 55204 ∧ (a - 44032) % 28 = 0 := by unfold openB at ho; simpa using ho
      have hn : b < 4520 ∨ 4547 ≤ b := by omega
      have HO := Lib.hid ho
      obtain ⟨q1, q2, q3⟩ := hq
      clear h g q3 ho
      rcases hn with hn | hn
      · go_enter Tryz.func117, Tryz.ntmps117
        go_wp2_with fail
        refine (open_any _ _).mono ?_
        rintro e w1 ⟨rfl, rfl⟩
        rw [HO.out]
        go_wp2
        go_ret2
        exact ⟨OptI.no HZ.out, rfl⟩
      · go_enter Tryz.func117, Tryz.ntmps117
        go_wp2_with fail
        refine (open_any _ _).mono ?_
        rintro e w1 ⟨rfl, rfl⟩
        rw [HO.out]
        go_wp2
        go_ret2
        exact ⟨OptI.no HZ.out, rfl⟩
    | false =>
      have HO := Lib.hid ho
      clear ho g
      have H := Lib.hid h
      by_cases c1 : 4352 ≤ a
      · by_cases c2 : a < 4371
        · by_cases c3 : 4449 ≤ b
          · have c4 : 4470 ≤ b := by omega
            clear h
            go_enter Tryz.func117, Tryz.ntmps117
            go_wp2_with fail
            refine (open_any _ _).mono ?_
            rintro e w1 ⟨rfl, rfl⟩
            rw [HO.out]
            go_wp2
            go_ret2
            exact ⟨OptI.no HZ.out, rfl⟩
          · clear h
            go_enter Tryz.func117, Tryz.ntmps117
            go_wp2_with fail
            refine (open_any _ _).mono ?_
            rintro e w1 ⟨rfl, rfl⟩
            rw [HO.out]
            go_wp2
            go_ret2
            exact ⟨OptI.no HZ.out, rfl⟩
        · clear h
          go_enter Tryz.func117, Tryz.ntmps117
          go_wp2_with fail
          refine (open_any _ _).mono ?_
          rintro e w1 ⟨rfl, rfl⟩
          rw [HO.out]
          go_wp2
          go_ret2
          exact ⟨OptI.no HZ.out, rfl⟩
      · clear h
        go_enter Tryz.func117, Tryz.ntmps117
        go_wp2_with fail
        refine (open_any _ _).mono ?_
        rintro e w1 ⟨rfl, rfl⟩
        rw [HO.out]
        go_wp2
        go_ret2
        exact ⟨OptI.no HZ.out, rfl⟩
end Go.Proofs.YtpmlggjhfiljmaaGreatDoor
