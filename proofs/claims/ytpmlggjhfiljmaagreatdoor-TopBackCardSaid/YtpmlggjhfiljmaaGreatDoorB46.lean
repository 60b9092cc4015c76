/- Contracts that the law rests on, part 46 of 50 (WlkC, WlkD, FsyA). Each states its own conditions. -/
import Derived.Deep.DrawnRows
import Derived.Deep.RegionHeld3
import Derived.Test.YtpmlggjhfiljmaaGreatDoorB45
/- Layer 15: all, Node. -/
namespace Go.Proofs.YtpmlggjhfiljmaaGreatDoor
open Go.RowKit
set_option linter.unusedVariables false
set_option linter.unnecessarySimpa false
set_option linter.unusedSimpArgs false

theorem splitP_len {s : ByteArray} {l : List ByteArray} (h : splitP s = .inl l) : l.length ≤ 16 := by
  unfold splitP at h
  split at h
  · cases h
  · split at h
    · cases h
    · split at h
      · injection h with h; subst h; simp
      · split at h
        · cases h
        · split at h
          · cases h
          · injection h with h; subst h; omega
def WallPost (r : (Int × Bool) ⊕ Int) (t : Nat) (w : World) (e : Ending) (w' : World) : Prop :=
  (∃ k, k ≠ 0 ∧ r = .inr k ∧ e = .returned (.tuple #[.pointer none, .int .i64 k]) ∧ Fresh w w') ∨ (∃ g n b, r = .inl (n, b) ∧ e = .returned (.tuple #[.pointer (some ⟨g, 0, none⟩), .int .i64 0]) ∧ WkAt w' g t n b ∧ I64 n ∧ Fresh w w')
def WaRel (enc : Int) (T : TreS) (l : List ByteArray) (g t : Nat) (w : World) (i : Value) (wr : World) : Prop :=
  ∃ (k : Nat) (n : Int) (b : Bool), i = .int .i64 k ∧ k ≤ l.length ∧ walkT enc T (n, b) (l.drop k) = walkT enc T (0, true) l ∧ WkAt wr g t n b ∧ I64 n ∧ Fresh w wr
theorem stepT_node {enc : Int} {T : TreS} (hT : TOK enc T) {d : Int} {name : ByteArray} {x : Ent} (h : stepT enc T d name = .inl x) : I64 x.node := by
  unfold stepT at h
  split at h
  · cases h
  · rename_i l hl
    split at h
    · cases h
    · rename_i e he
      injection h with h
      subst h
      exact hT.node d l hl _ (List.mem_of_find?_eq_some he)
set_option maxRecDepth 100000 in
set_option maxHeartbeats 1600000 in
theorem wall_any (enc : Int) (A A2 : Nat → Prop) (t : Nat) (T : TreS) (q : Nat) (hT : TOK enc T) (v : Value) (l : List ByteArray) (w : World) (h : TreeAt w A t T q) (hv : SlS w A2 v l) (hl : l.length ≤ 1000000) :
    Calls Tryz.prog 141 #[.int .i64 enc, .pointer (some ⟨t, 0, none⟩), v] w (WallPost (walkT enc T (0, true) l) t w) := by
  have HST := Lib.hid (fun g d b name W (hW : Fresh w W) hk hd => step_any enc A t T q hT g d b name W (h.fresh hW) hk hd)
  have HTT := Lib.hid hT
  obtain ⟨a, c, rfl⟩ : ∃ a c, v = .slice a l.length c := by obtain ⟨_, a, c, q, _⟩ := hv; exact ⟨a, c, q⟩
  have HV := Lib.hid hv.cases
  obtain ⟨n, hn⟩ : ∃ n, l.length = n := ⟨_, rfl⟩
  have HN := Lib.hid hn
  rw [hn] at hl ⊢
  clear h hT hv hn
  go_enter Tryz.func141, Tryz.ntmps141
  go_wp2_with fail
  have HWK := Lib.hid (Blk.new w 217 #[.int .i64 0, .bool true, lsF t])
  unfold lsF at HWK
  go_loopw [18] (fun i wr => WaRel enc T l w.heap.size t w i wr) (fun i _ => n - (intOf i).toNat)
  case atStart => exact ⟨0, 0, true, rfl, Nat.zero_le _, rfl, HWK.out, ⟨by omega, by omega⟩, (Fresh.refl _).alloc _⟩
  case round =>
    obtain ⟨k, nd, b, rfl, hk, hwk, hat, hi, hf⟩ := hrel
    obtain ⟨g, hg⟩ : ∃ g, w.heap.size = g := ⟨_, rfl⟩
    have HG := Lib.hid hg
    rw [hg] at hat ⊢
    have HWL := Lib.hid hwk
    have HAT := Lib.hid hat
    have HF := Lib.hid hf
    rw [HN.out] at hk
    clear hg hwk hat hf
    by_cases hlt : k < n
    · have i1 : (k : Int) < (n : Int) := by omega
      have hkl : k < l.length := by rw [HN.out]; exact hlt
      rcases HV.out with ⟨h0, _⟩ | ⟨_, gs, off, cap, hv, _, _, hgs, hc⟩
      · rw [h0] at hkl; simp at hkl
      · injection hv with hv1 _ hv2
        subst hv1 hv2
        obtain ⟨name, hname⟩ : ∃ name, l[k] = name := ⟨_, rfl⟩
        have c0 := (Below.cell HF.out (p := ⟨gs, off + k, none⟩) hgs).trans (hc k hkl)
        rw [hname] at c0
        have HDR : Hid (l.drop k = name :: l.drop (k + 1)) := Lib.hid (by rw [List.drop_eq_getElem_cons hkl, hname])
        have HS := Lib.hid (HST.out g nd b name wr HF.out HAT.out hi)
        clear hc hname
        go_wp2_with fail
        refine HS.out.mono ?_
        rintro e w2 (⟨j, hj, hst, rfl, hf2⟩ | ⟨x, hst, rfl, hat2, hm2⟩)
        · have hjb : (j != 0) = true := by simp [hj]
          have HR : Hid (walkT enc T (0, true) l = .inr j) := Lib.hid (by rw [← HWL.out, HDR.out]; unfold walkT; rw [hst])
          have HF2 := Lib.hid (HF.out.trans hf2)
          have HJ := Lib.hid hj
          clear hst hf2 hj c0
          go_wp2
          go_ret2
          exact .inl ⟨j, HJ.out, HR.out, rfl, HF2.out⟩
        · have HR : Hid (walkT enc T (x.node, x.dir) (l.drop (k + 1)) = walkT enc T (0, true) l) := Lib.hid (by
            rw [← HWL.out, HDR.out]
            conv => rhs; unfold walkT
            rw [hst])
          have HI := Lib.hid (stepT_node HTT.out hst)
          have HF2 := Lib.hid (HF.out.mut2 hm2 (fun j hj => by have := HG.out; omega))
          have HA2 := Lib.hid hat2
          clear hst hat2 hm2 c0
          go_wp2
          go_roundw
          case rel => exact ⟨k + 1, x.node, x.dir, by go_num, by have := HN.out; omega, HR.out, HA2.out, HI.out, HF2.out⟩
          case measure => simp [intOf]; omega
    · have i1 : ¬ (k : Int) < (n : Int) := by omega
      have HR : Hid (walkT enc T (0, true) l = .inl (nd, b)) := Lib.hid (by rw [← HWL.out, List.drop_of_length_le (by have := HN.out; omega)]; rfl)
      go_wp2
      go_ret2
      exact .inr ⟨g, nd, b, HR.out, rfl, HAT.out, hi, HF.out⟩
def NodePost (r : (Int × Bool) ⊕ Int) (w : World) (e : Ending) (w' : World) : Prop :=
  (∃ k, k ≠ 0 ∧ r = .inr k ∧ e = .returned (.tuple #[.int .i64 0, .bool false, .int .i64 k]) ∧ Fresh w w') ∨ (∃ n b, r = .inl (n, b) ∧ I64 n ∧ e = .returned (.tuple #[.int .i64 n, .bool b, .int .i64 0]) ∧ Fresh w w')
set_option maxRecDepth 100000 in
set_option maxHeartbeats 1600000 in
theorem wnode_any (enc : Int) (A : Nat → Prop) (t : Nat) (T : TreS) (q : Nat) (hT : TOK enc T) (s : ByteArray) (hs : s.size ≤ 1000000) (w : World) (h : TreeAt w A t T q) :
    Calls Tryz.prog 87 #[.int .i64 enc, .pointer (some ⟨t, 0, none⟩), .string s] w (NodePost (pathT enc T s) w) := by
  have HSP := Lib.hid (wsplit_any s hs w)
  have HTT := Lib.hid (And.intro hT h)
  clear h hT
  go_enter Tryz.func87, Tryz.ntmps87
  go_wp2_with fail
  refine HSP.out.mono ?_
  rintro e w1 (⟨k, hk, hsp, rfl, hf⟩ | ⟨l, a, c, hsp, rfl, hsl, hf⟩)
  · have hkb : (k != 0) = true := by simp [hk]
    have HR : Hid (pathT enc T s = .inr k) := Lib.hid (by unfold pathT; rw [hsp])
    have HK := Lib.hid (And.intro hk hf)
    clear hk hsp hf
    go_wp2
    go_ret3
    exact .inl ⟨k, HK.out.1, HR.out, rfl, HK.out.2⟩
  · have HR : Hid (pathT enc T s = walkT enc T (0, true) l) := Lib.hid (by unfold pathT; rw [hsp])
    have hll : l.length ≤ 1000000 := by have := splitP_len hsp; omega
    have HW := Lib.hid (wall_any enc A _ t T q HTT.out.1 _ l w1 (HTT.out.2.fresh hf) hsl hll)
    have HF := Lib.hid hf
    clear hsp hsl hf hll
    go_wp2_with fail
    refine HW.out.mono ?_
    rintro e w2 (⟨k, hk, hwl, rfl, hf2⟩ | ⟨g, n, b, hwl, rfl, hat, hi, hf2⟩)
    · have hkb : (k != 0) = true := by simp [hk]
      have HK := Lib.hid (And.intro hk (And.intro (HR.out.trans hwl) (HF.out.trans hf2)))
      clear hk hwl hf2
      go_wp2
      go_ret3
      exact .inl ⟨k, HK.out.1, HK.out.2.1, rfl, HK.out.2.2⟩
    · have HK := Lib.hid (And.intro hi (And.intro (HR.out.trans hwl) (HF.out.trans hf2)))
      have c0 : w2.cell? ⟨g, 0, none⟩ = some (.int .i64 n) := hat.cell 0
      have c1 : w2.cell? ⟨g, 1, none⟩ = some (.bool b) := hat.cell 1
      clear hat hi hwl hf2
      go_wp2_with fail
      go_region
      all_goals
        go_wp2
        go_ret3
        exact .inr ⟨n, b, HK.out.2.1, HK.out.1, rfl, HK.out.2.2.drew⟩
end Go.Proofs.YtpmlggjhfiljmaaGreatDoor
/- Layer 15: Parent. -/
namespace Go.Proofs.YtpmlggjhfiljmaaGreatDoor
open Go.RowKit
set_option linter.unusedVariables false
set_option linter.unnecessarySimpa false
set_option linter.unusedSimpArgs false

theorem SlS.init {w : World} {A : Nat → Prop} {a : Option Addr} {c : Nat} {l : List ByteArray} (h : SlS w A (.slice a l.length c) l) : SlS w A (.slice a (l.length - 1) c) l.dropLast := by
  obtain ⟨h1, a', c', e, hcap, h2⟩ := h
  injection e with e1 _ e2
  subst e1 e2
  refine ⟨by rw [strs_len]; simp, a, c, by simp, by simp; omega, ?_⟩
  rcases h2 with h0 | ⟨g, off, rfl, hA, hg, hc⟩
  · exact .inl (by simp; omega)
  · refine .inr ⟨g, off, rfl, hA, hg, fun j hj => ?_⟩
    rw [hc j (by simp at hj; omega)]
    simp only [strs, List.getElem?_map]
    rw [List.getElem?_dropLast]
    rw [if_pos (by simp at hj; omega)]
def ParPost (r : (Int × ByteArray) ⊕ Int) (w : World) (e : Ending) (w' : World) : Prop :=
  (∃ k, k ≠ 0 ∧ r = .inr k ∧ e = .returned (.tuple #[.int .i64 0, .string ⟨#[]⟩, .int .i64 k]) ∧ Fresh w w') ∨ (∃ n s, r = .inl (n, s) ∧ I64 n ∧ e = .returned (.tuple #[.int .i64 n, .string s, .int .i64 0]) ∧ Fresh w w')
set_option maxRecDepth 100000 in
set_option maxHeartbeats 1600000 in
theorem wpar_any (enc : Int) (A : Nat → Prop) (t : Nat) (T : TreS) (q : Nat) (hT : TOK enc T) (s : ByteArray) (hs : s.size ≤ 1000000) (w : World) (h : TreeAt w A t T q) :
    Calls Tryz.prog 182 #[.int .i64 enc, .pointer (some ⟨t, 0, none⟩), .string s] w (ParPost (parT enc T s) w) := by
  have HSP := Lib.hid (wsplit_any s hs w)
  have HTT := Lib.hid (And.intro hT h)
  clear h hT
  go_enter Tryz.func182, Tryz.ntmps182
  go_wp2_with fail
  refine HSP.out.mono ?_
  rintro e w1 (⟨k, hk, hsp, rfl, hf⟩ | ⟨l, a, c, hsp, rfl, hsl, hf⟩)
  · have hkb : (k != 0) = true := by simp [hk]
    have HR : Hid (parT enc T s = .inr k) := Lib.hid (by unfold parT; rw [hsp])
    have HK := Lib.hid (And.intro hk hf)
    clear hk hsp hf
    go_wp2
    go_ret3
    exact .inl ⟨k, HK.out.1, HR.out, rfl, HK.out.2⟩
  · by_cases h0 : l = []
    · subst h0
      have HR : Hid (parT enc T s = .inr 1) := Lib.hid (by unfold parT; rw [hsp]; simp)
      have HF := Lib.hid hf
      clear hsp hsl hf
      go_wp2
      go_ret3
      exact .inl ⟨1, by omega, HR.out, rfl, HF.out⟩
    · have hl16 := splitP_len hsp
      have hl1 : 1 ≤ l.length := List.length_pos_iff.2 h0
      obtain ⟨n, hn⟩ : ∃ n, l.length = n + 1 := ⟨l.length - 1, by omega⟩
      have HR : Hid (parT enc T s = match walkT enc T (0, true) l.dropLast with
        | .inr k => .inr k
        | .inl st => if st.2 = true then .inl (st.1, l.getLastD ByteArray.empty) else .inr 8) := Lib.hid (by
          conv => lhs; unfold parT
          rw [hsp]
          simp only
          rw [if_neg h0]
          cases walkT enc T (0, true) l.dropLast <;> rfl)
      have hcs := hsl.cases
      have hin := SlS.init hsl
      have hcap : n + 1 ≤ c := by
        obtain ⟨_, a', c', e, hc, _⟩ := hsl
        injection e with _ _ e2
        rw [e2]; omega
      obtain ⟨last, hlast⟩ : ∃ last, l.getLastD ByteArray.empty = last := ⟨_, rfl⟩
      have hll : l[n]'(by omega) = last := by
        rw [← hlast, List.getLastD_eq_getLast?, List.getLast?_eq_getElem?]
        rw [show l.length - 1 = n by omega, List.getElem?_eq_getElem (by omega)]
        rfl
      rw [hn] at hin ⊢
      rw [show n + 1 - 1 = n by omega] at hin
      have hdl : l.dropLast.length = n := by simp; omega
      have hin2 : SlS w1 (fun g => w.heap.size ≤ g) (.slice a l.dropLast.length c) l.dropLast := by rw [hdl]; exact hin
      have HW := Lib.hid (wall_any enc A _ t T q HTT.out.1 _ l.dropLast w1 (HTT.out.2.fresh hf) hin2 (by omega))
      rw [hdl] at HW
      rw [hlast] at HR
      have HF := Lib.hid hf
      obtain ⟨g0, off, rfl, hg0, hcell⟩ : ∃ g off, a = some ⟨g, off, none⟩ ∧ g < w1.heap.size ∧ w1.cell? ⟨g, off + n, none⟩ = some (.string last) := by
        rcases hcs with ⟨q0, _⟩ | ⟨_, g, off, cap, hv, _, _, hg, hc⟩
        · exact absurd q0 h0
        · injection hv with hv1 _ _
          exact ⟨g, off, hv1, hg, by rw [← hll]; exact hc n (by omega)⟩
      have i1 : (n : Int) + 1 - 1 = n := by omega
      have i2 : (0 : Int) ≤ (n : Int) := by omega
      have i3 : (n : Int) ≤ (c : Int) := by omega
      have i4 : (n : Int) < (n : Int) + 1 := by omega
      have i5 : n ≤ c := by omega
      have HL16 : n ≤ 16 := by omega
      clear hsp hsl hf hin hin2 hdl hlast hll hcs h0 hl1 hn hl16 hcap
      go_wp2_with fail
      refine HW.out.mono ?_
      rintro e w2 (⟨k, hk, hwl, rfl, hf2⟩ | ⟨g, nd, b, hwl, rfl, hat, hi, hf2⟩)
      · have hkb : (k != 0) = true := by simp [hk]
        have HK := Lib.hid (And.intro hk (And.intro (HF.out.trans hf2) (show parT enc T s = .inr k by rw [HR.out, hwl])))
        clear hk hwl hf2
        go_wp2
        go_ret3
        exact .inl ⟨k, HK.out.1, HK.out.2.2, rfl, HK.out.2.1⟩
      · have c0 : w2.cell? ⟨g, 0, none⟩ = some (.int .i64 nd) := hat.cell 0
        have c1 : w2.cell? ⟨g, 1, none⟩ = some (.bool b) := hat.cell 1
        have c2 := (Below.cell hf2 (p := ⟨g0, off + n, none⟩) hg0).trans hcell
        have HQ : Hid (parT enc T s = if b = true then .inl (nd, last) else .inr 8) := Lib.hid (by rw [HR.out, hwl])
        have HK := Lib.hid (And.intro hi (HF.out.trans hf2))
        clear hat hi hwl hf2 hcell hg0
        cases b with
        | false =>
          have HQ2 : Hid (parT enc T s = .inr 8) := Lib.hid (by rw [HQ.out]; rfl)
          go_wp2
          go_ret3
          exact .inl ⟨8, by omega, HQ2.out, rfl, HK.out.2⟩
        | true =>
          have HQ2 : Hid (parT enc T s = .inl (nd, last)) := Lib.hid (by rw [HQ.out]; rfl)
          go_wp2_with fail
          go_region
          all_goals
            go_wp2
            go_ret3
            exact .inr ⟨nd, last, HQ2.out, HK.out.1, rfl, HK.out.2.drew⟩
end Go.Proofs.YtpmlggjhfiljmaaGreatDoor
/- Layer 17: asking: Lookup, at. -/
namespace Go.Proofs.YtpmlggjhfiljmaaGreatDoor
open Go.RowKit
set_option linter.unusedVariables false
set_option linter.unnecessarySimpa false
set_option linter.unusedSimpArgs false
attribute [local go_sem ↓] Go.wp_at_zero Go.wp_at_succ

def LsAny (l : List Ent) (w : World) (e : Ending) (w' : World) : Prop := ∃ a c k, e = .returned (.tuple #[.slice a l.length c, .int .i64 k]) ∧ SlE w' (fun g => w.heap.size ≤ g) (.slice a l.length c) l ∧ Fresh w w'
theorem ls_any {A : Nat → Prop} {t : Nat} {T : TreS} {q : Nat} {d : Int} {w : World} {enc : Int} (h : TreeAt w A t T q) (hd : I64 d) (hT : TOK enc T) : Calls Tryz.prog 35 #[.pointer (some ⟨t, 0, none⟩), .int .i64 d] w (LsAny ((T.dirs d).getD []) w) := by
  cases hl : T.dirs d with
  | some l =>
    refine (ls_yes h hd hl (hT.len d l hl)).mono ?_
    rintro e w' ⟨a, c, rfl, ho, hf⟩
    exact ⟨a, c, 0, rfl, OwnE.sl ho, hf⟩
  | none =>
    refine (ls_no h hd hl).mono ?_
    rintro e w' ⟨rfl, hf⟩
    exact ⟨none, 0, _, rfl, SlG.nil _ _ _, hf⟩
theorem TOK.of2 {enc : Int} {T : TreS} (hT : TOK enc T) (d : Int) : ∀ e ∈ (T.dirs d).getD [], OfOK enc e := by
  cases hl : T.dirs d with
  | some l => exact hT.of d l hl
  | none => intro e he; simp at he
theorem TOK.len2 {enc : Int} {T : TreS} (hT : TOK enc T) (d : Int) : ((T.dirs d).getD []).length ≤ 10000 := by
  cases hl : T.dirs d with
  | some l => exact hT.len d l hl
  | none => simp
def nvR : (Int × Bool) ⊕ Int → Int × Bool × Int
  | .inr k => (0, false, k)
  | .inl (n, b) => (n, b, 0)
def pvR : (Int × ByteArray) ⊕ Int → Int × ByteArray × Int
  | .inr k => (0, ⟨#[]⟩, k)
  | .inl (n, s) => (n, s, 0)
def NodeF (r : Int × Bool × Int) (w : World) (e : Ending) (w' : World) : Prop := e = .returned (.tuple #[.int .i64 r.1, .bool r.2.1, .int .i64 r.2.2]) ∧ Fresh w w'
def ParF (r : Int × ByteArray × Int) (w : World) (e : Ending) (w' : World) : Prop := e = .returned (.tuple #[.int .i64 r.1, .string r.2.1, .int .i64 r.2.2]) ∧ Fresh w w'
theorem NodePost.fn {r : (Int × Bool) ⊕ Int} {w : World} {e : Ending} {w' : World} (h : NodePost r w e w') : NodeF (nvR r) w e w' := by
  rcases h with ⟨k, _, rfl, rfl, hf⟩ | ⟨n, b, rfl, _, rfl, hf⟩
  · exact ⟨rfl, hf⟩
  · exact ⟨rfl, hf⟩
theorem ParPost.fn {r : (Int × ByteArray) ⊕ Int} {w : World} {e : Ending} {w' : World} (h : ParPost r w e w') : ParF (pvR r) w e w' := by
  rcases h with ⟨k, _, rfl, rfl, hf⟩ | ⟨n, b, rfl, _, rfl, hf⟩
  · exact ⟨rfl, hf⟩
  · exact ⟨rfl, hf⟩
/-- a file system at f, its tree at tr -/
def FsV (w : World) (f s : Nat) (enc : Int) (tr : Nat) : Prop := Blk w f 152 #[.pointer (some ⟨s, 0, none⟩), .int .i64 enc, .pointer (some ⟨tr, 0, none⟩)]
section
variable (enc : Int) (A : Nat → Prop) (f s tr : Nat) (T : TreS) (q : Nat) (hT : TOK enc T) (w : World) (hv : FsV w f s enc tr) (h : TreeAt w A tr T q)
include hT hv h
set_option maxRecDepth 100000 in
set_option maxHeartbeats 1600000 in
theorem lookup_any (path : ByteArray) (hp : path.size ≤ 1000000) : Calls Tryz.prog 41 #[.pointer (some ⟨f, 0, none⟩), .string path] w (NodeF (nvR (pathT enc T path)) w) := by
  have c1 : w.cell? ⟨f, 1, none⟩ = some (.int .i64 enc) := hv.cell 1
  have c2 : w.cell? ⟨f, 2, none⟩ = some (.pointer (some ⟨tr, 0, none⟩)) := hv.cell 2
  have HN := Lib.hid (fun W (hW : Fresh w W) => (wnode_any enc A tr T q hT path hp W (h.fresh hW)).mono fun _ _ h => h.fn)
  obtain ⟨r, hr⟩ : ∃ r, nvR (pathT enc T path) = r := ⟨_, rfl⟩
  rw [hr] at HN ⊢
  obtain ⟨n, b, k⟩ := r
  have HS : Hid (∀ W, Fresh w W → W.cell? ⟨f, 1, none⟩ = some (.int .i64 enc) ∧ W.cell? ⟨f, 2, none⟩ = some (.pointer (some ⟨tr, 0, none⟩))) := Lib.hid (fun W hW => ⟨(Blk.keep hv hW).cell 1, (Blk.keep hv hW).cell 2⟩)
  clear hv h hT hr
  go_enter Tryz.func41, Tryz.ntmps41
  go_wp2_with fail
  go_region_held3 (fun W => W.cell? ⟨f, 1, none⟩ = some (.int .i64 enc) ∧ W.cell? ⟨f, 2, none⟩ = some (.pointer (some ⟨tr, 0, none⟩))) (first | go_keep | exact HS.out _ (by repeat (first | assumption | exact Fresh.refl _ | refine Fresh.alloc ?_ _ | refine Fresh.drew ?_))) (first
    | (go_at_call 87; refine (HN.out _ (by repeat (first | exact Fresh.refl _ | refine Fresh.drew ?_))).mono ?_; rintro e w2 ⟨rfl, hf2⟩; have hf3 : Fresh w w2 := Fresh.trans (by repeat (first | exact Fresh.refl _ | refine Fresh.drew ?_)) hf2; have HF := Lib.hid hf3; clear hf2))
  all_goals
    go_wp2
    go_ret3
    exact ⟨rfl, HF.out⟩
end
end Go.Proofs.YtpmlggjhfiljmaaGreatDoor
