/- Contracts that the law rests on, part 20 of 50 (EscC, MutA, EscD). Each states its own conditions. -/
import Derived.Deep.RegionHeld3
import Derived.Test.YtpmlggjhfiljmaaGreatDoorC05
import Derived.Test.YtpmlggjhfiljmaaGreatDoorC19
/- parts. -/
namespace Go.Proofs.YtpmlggjhfiljmaaGreatDoor
open Go.RowKit
set_option linter.unusedVariables false
set_option linter.unnecessarySimpa false
set_option linter.unusedSimpArgs false
abbrev PN := Part × Int
def ptc (x : PN) : List Value := [.int .i32 x.1.1, .int .i64 x.2, .string x.1.2.1, .bool x.1.2.2]
def ptcs (xs : List PN) : List Value := xs.flatMap ptc
theorem ptcs_get : ∀ (xs : List PN) (k : Nat) (hk : k < xs.length) (j : Nat), j < 4 → (ptcs xs)[k * 4 + j]? = (ptc xs[k])[j]?
  | [], k, hk, _, _ => by simp at hk
  | x :: l, 0, _, j, hj => by
    unfold ptcs
    rw [List.flatMap_cons, List.getElem?_append_left (by simp [ptc]; omega)]
    simp
  | x :: l, k + 1, hk, j, hj => by
    have ih := ptcs_get l k (by simpa using hk) j hj
    unfold ptcs at *
    rw [List.flatMap_cons, List.getElem?_append_right (by simp [ptc]; omega)]
    have : (k + 1) * 4 + j - (ptc x).length = k * 4 + j := by simp [ptc]; omega
    rw [this, ih]
    simp
/-- a slice of parts of the call's own -/
def OwnT (w : World) (B : Nat) (v : Value) (xs : List PN) : Prop := w.ownsRow B 121 4 v xs.length (ptcs xs)
theorem OwnT.nil (w : World) (B : Nat) : OwnT w B (.slice none 0 0) [] := World.ownsRow_nil _ _ _ _
theorem OwnT.keep {w w' : World} {B : Nat} {v : Value} {xs : List PN} (h : OwnT w B v xs) (hf : Fresh w w') : OwnT w' B v xs := by
  refine World.ownsRow.kept (row := none) h ⟨hf.os, hf.tape, hf.output, hf.size, fun k hk _ => hf.block k hk⟩ ?_
  cases hv : v.ownBlock with
  | none => exact .inl rfl
  | some k => exact .inr (by simp)
theorem OwnT.push {w' : World} {B : Nat} {v' : Value} {acc : List PN} {x : PN} (h : w'.ownsRow B 121 4 v' (acc.length + 1) (ptcs acc ++ ptc x)) : OwnT w' B v' (acc ++ [x]) := by
  unfold OwnT
  have : ptcs (acc ++ [x]) = ptcs acc ++ ptc x := by unfold ptcs; rw [List.flatMap_append]; simp
  rw [this]
  simpa using h
theorem OwnT.base {w : World} {B B' : Nat} {v : Value} {xs : List PN} (h : OwnT w B v xs) (hb : B' ≤ B) : OwnT w B' v xs := own_base h hb
theorem infoT : (Tryz.prog.info? 121).map (fun i => (i.zero, i.size, i.bytes)) = some (some (.agg #[.int .i32 0, .int .i64 0, .string ByteArray.empty, .bool false]), 4, 40) := by kernel_rfl
theorem info_partsT {i : Option TypeInfo} {z : Value} {s b : Nat} (h : i.map (fun i => (i.zero, i.size, i.bytes)) = some (some z, s, b)) : ∃ i0, i = some i0 ∧ i0.zero = some z ∧ i0.size = s ∧ i0.bytes = b := by
  cases i with
  | none => cases h
  | some i0 => simp at h; exact ⟨i0, rfl, h.1, h.2.1, h.2.2⟩
def prn (s : ByteArray) : Nat → List (Int × Int) → List PN
  | _, [] => []
  | p, x :: l => ((x.1, s.extract p (p + x.2.toNat), decide (p + x.2.toNat = s.size)), x.2) :: prn s (p + x.2.toNat) l
theorem prn_fst (s : ByteArray) : ∀ (xs : List (Int × Int)) (p : Nat), (prn s p xs).map (·.1) = prt s p xs
  | [], _ => rfl
  | x :: l, p => by simp [prn, prt, prn_fst s l]
theorem prn_len (s : ByteArray) : ∀ (xs : List (Int × Int)) (p : Nat), (prn s p xs).length = xs.length
  | [], _ => rfl
  | x :: l, p => by simp [prn, prn_len s l]
theorem prn_snoc {enc : Int} {s : ByteArray} {x : Int × Int} : ∀ {l1 : List (Int × Int)} {q p : Nat}, Chain enc s q l1 p →
    prn s q (l1 ++ [x]) = prn s q l1 ++ [((x.1, s.extract p (p + x.2.toNat), decide (p + x.2.toNat = s.size)), x.2)]
  | [], q, p, h => by
    have h : q = p := h
    subst h; rfl
  | y :: l, q, p, h => by
    have := prn_snoc (x := x) h.2.2
    simp [prn, this]
def PartsPost (enc : Int) (s : ByteArray) (w : World) (e : Ending) (w' : World) : Prop := ∃ v xs, e = .returned v ∧ Chain enc s 0 xs s.size ∧ xs.length ≤ s.size ∧ OwnT w' w.heap.size v (prn s 0 xs) ∧ Fresh w w'
def PtRel (enc : Int) (s : ByteArray) (xs : List (Int × Int)) (w : World) (out at_ i : Value) (wr : World) : Prop :=
  ∃ (l1 l2 : List (Int × Int)) (p : Nat), xs = l1 ++ l2 ∧ i = .int .i64 (l1.length : Nat) ∧ at_ = .int .i64 (p : Nat) ∧ p ≤ s.size ∧ Chain enc s 0 l1 p ∧ Chain enc s p l2 s.size ∧ OwnT wr w.heap.size out (prn s 0 l1) ∧ Fresh w wr
set_option maxHeartbeats 1600000 in
set_option maxRecDepth 100000 in
theorem parts_any (enc : Int) (s : ByteArray) (h0 : 0 ≤ enc) (h8 : enc ≤ 8) (hs : s.size ≤ 100000) (w : World) : Calls Tryz.prog 50 #[.int .i64 enc, .string s] w (PartsPost enc s w) := by
  obtain ⟨i0, hi0, hz0, hz1, hz2⟩ := info_partsT infoT
  go_enter Tryz.func50, Tryz.ntmps50
  go_wp2_with fail
  refine (pieces_any enc s h0 h8 (by omega) w).mono ?_
  rintro e w1 ⟨v, xs, rfl, hown, hch, hxl, hf1⟩
  have HCH := Lib.hid hch
  rcases hown.sl with ⟨hx0, ao, cp, rfl⟩ | ⟨hxp, g, cp, rfl, hg, hcell⟩
  · subst hx0
    have hs0 : s.size = 0 := by have : 0 = s.size := hch; omega
    clear hch
    go_wp2
    refine wp_loop_rounds 1 ?_
    rw [rounds_succ]
    go_wp2
    go_ret
    exact ⟨_, [], rfl, HCH.out, Nat.zero_le _, OwnT.nil _ _, hf1⟩
  have HCELL := Lib.hid hcell
  obtain ⟨n, hn⟩ : ∃ n, xs.length = n := ⟨_, rfl⟩
  have HN := Lib.hid hn
  have HXL := Lib.hid hxl
  rw [hn] at hxp ⊢
  have hnn : n ≤ 100000 := by omega
  clear hcell hn hch hown hxl
  go_wp2
  go_loopw [5, 6, 13] (fun out at_ i wr => PtRel enc s xs w1 out at_ i wr) (fun _ _ i _ => n - (intOf i).toNat)
  case atStart => exact ⟨[], xs, 0, rfl, rfl, rfl, Nat.zero_le _, rfl, HCH.out, OwnT.nil _ _, Fresh.refl _⟩
  case round =>
    obtain ⟨l1, l2, p, hx12, rfl, rfl, hp, hc1, hc2, hown, hf⟩ := hrel
    have HX := Lib.hid hx12
    have HC1 := Lib.hid hc1
    have HC2 := Lib.hid hc2
    have hln : l1.length + l2.length = n := by rw [← HN.out, hx12]; simp
    clear hx12 hc1 hc2
    cases l2 with
    | nil =>
      have hk0 : l1.length = n := by simpa using hln
      have hxe : xs = l1 := by have := HX.out; simpa using this
      have hps : p = s.size := HC2.out
      have HP : Hid (OwnT wr w1.heap.size _ (prn s 0 xs)) := Lib.hid (by rw [hxe]; exact hown)
      have hk1 : ¬ (l1.length : Int) < (n : Int) := by omega
      clear hown hln hps hxe
      go_wp2
      go_ret
      exact ⟨_, xs, rfl, HCH.out, HXL.out, HP.out.base hf1.size, hf1.trans hf⟩
    | cons x l2 =>
      obtain ⟨hlt, hx, _⟩ := HC2.out
      have hst := next_step h0 h8 hlt
      rw [hx] at hst
      clear hx
      have hk : l1.length < n := by simp at hln; omega
      have hcc := HCELL.out l1.length (by rw [HN.out]; exact hk)
      have hxk : xs[l1.length]'(by rw [HN.out]; exact hk) = x := by
        have := HX.out
        subst this
        simp
      rw [hxk] at hcc
      obtain ⟨r, m⟩ := x
      obtain ⟨cA, cB⟩ := hcc
      have dA := (Below.cell hf (p := ⟨g, l1.length * 2, none⟩) hg).trans cA
      have dB := (Below.cell hf (p := ⟨g, l1.length * 2 + 1, none⟩) hg).trans cB
      simp only at dA dB hst
      obtain ⟨k, hkk⟩ : ∃ k, l1.length = k := ⟨_, rfl⟩
      rw [hkk] at dA dB hk ⊢
      have HK := Lib.hid hkk
      obtain ⟨q, hq⟩ : ∃ q : Nat, (q : Int) = (p : Int) + m := ⟨(p + m).toNat, by omega⟩
      have hq2 : p + m.toNat = q := by omega
      have HQ := Lib.hid hq2
      have hqs : q ≤ s.size := by omega
      obtain ⟨m1, m4, _⟩ := hst
      have e1 : IntKind.i64.wrap ((p : Int) + m) = (q : Int) := by rw [IntKind.wrap_i64]; omega
      have e2 : IntKind.i64.wrap ((q : Int) - m) = (p : Int) := by rw [IntKind.wrap_i64]; omega
      clear cA cB hxk hkk hln hq2
      have hpqm : p ≤ q ∧ (q : Int) - m = (p : Int) := by omega
      have hpq1 : p ≤ q := hpqm.1
      have hkp : k ≤ 100000 := by omega
      have hown3 := hown
      unfold OwnT at hown3
      rw [prn_len, HK.out] at hown3
      have HD : Hid (∀ o v' w', o = (.cells #[.int .i32 r, .int .i64 m] 119 : Obj) → w'.ownsRow w1.heap.size 121 4 v' (k + 1) (ptcs (prn s 0 l1) ++ [.int .i32 r, .int .i64 m, .string (s.extract p q), .bool (decide (q = s.size))]) → Fresh w1 w' → PtRel enc s xs w1 v' (.int .i64 (q : Nat)) (.int .i64 ((k + 1 : Nat) : Int)) w') := Lib.hid (fun o v' w' _ ho hf' => by
        have hsn := prn_snoc (x := (r, m)) HC1.out
        simp only [HQ.out] at hsn
        refine ⟨l1 ++ [(r, m)], l2, q, by rw [HX.out]; simp, by rw [List.length_append, HK.out]; rfl, rfl, hqs, ?_, ?_, ?_, hf'⟩
        · have := HC1.out.push hlt
          have e := HC2.out.2.1
          rw [e] at this
          simpa [HQ.out] using this
        · have := HC2.out.2.2
          simpa [HQ.out] using this
        · rw [hsn]
          refine OwnT.push ?_
          rw [prn_len, HK.out]
          exact ho)
      clear hq hpqm
      go_wp2
      clear e1
      by_cases hqe : q = s.size
      · skip
        have hb : ((q : Int) == (s.size : Int)) = true := by simp [hqe]
        have hd : decide (q = s.size) = true := decide_eq_true hqe
        rw [hd] at HD
        clear hd hqe
        go_region_law (refine step_append_new rfl (.tmp 21) (.tmp 35) 111 rfl (wr.alloc (.cells #[.int .i32 r, .int .i64 m] 119)) w1.heap.size 121 i0 _ 4 40 Tryz.underlying111 hi0 hz0 hz1 hz2 rfl (by decide) _ _ _ (hown3.alloc _) 1 [.int .i32 r, .int .i64 m, .string (s.extract p q), .bool true] rfl (by intro u hu; simp at hu; rcases hu with rfl | rfl | rfl | rfl <;> rfl) (by unfold maxLen; omega) (by omega) (by have := hf.size; simp; omega) (by simp [Act.eval, Act.put]) (by simp [Act.eval, Act.put]) (by repeat (first | exact Fresh.refl _ | refine Fresh.drew ?_)) ?_; intro v' w' hown' hgrow hblk)
        all_goals
          have hf' : Fresh w1 w' := Below.grown (hf.trans (b := wr) (by repeat (first | exact ((Fresh.refl _).alloc _).alloc _ | refine Fresh.drew ?_))) hgrow (by have := hf.size; simp; omega) (fun g hg => (hown.lt g hg).1)
          have HP := Lib.hid (HD.out _ v' w' rfl hown' hf')
          clear hown' hgrow hblk hown hown3 hf'
          go_wp2
          exact ⟨HP.out, by simp [intOf]; omega⟩
      · skip
        have hb : ((q : Int) == (s.size : Int)) = false := by simp only [beq_eq_false_iff_ne]; omega
        have hd : decide (q = s.size) = false := decide_eq_false hqe
        rw [hd] at HD
        clear hd hqe
        go_region_law (refine step_append_new rfl (.tmp 21) (.tmp 35) 111 rfl (wr.alloc (.cells #[.int .i32 r, .int .i64 m] 119)) w1.heap.size 121 i0 _ 4 40 Tryz.underlying111 hi0 hz0 hz1 hz2 rfl (by decide) _ _ _ (hown3.alloc _) 1 [.int .i32 r, .int .i64 m, .string (s.extract p q), .bool false] rfl (by intro u hu; simp at hu; rcases hu with rfl | rfl | rfl | rfl <;> rfl) (by unfold maxLen; omega) (by omega) (by have := hf.size; simp; omega) (by simp [Act.eval, Act.put]) (by simp [Act.eval, Act.put]) (by repeat (first | exact Fresh.refl _ | refine Fresh.drew ?_)) ?_; intro v' w' hown' hgrow hblk)
        all_goals
          have hf' : Fresh w1 w' := Below.grown (hf.trans (b := wr) (by repeat (first | exact ((Fresh.refl _).alloc _).alloc _ | refine Fresh.drew ?_))) hgrow (by have := hf.size; simp; omega) (fun g hg => (hown.lt g hg).1)
          have HP := Lib.hid (HD.out _ v' w' rfl hown' hf')
          clear hown' hgrow hblk hown hown3 hf'
          go_wp2
          exact ⟨HP.out, by simp [intOf]; omega⟩
end Go.Proofs.YtpmlggjhfiljmaaGreatDoor
/- What a call may turn of what was there: frames. -/
namespace Go.Proofs.YtpmlggjhfiljmaaGreatDoor
open Go.RowKit
set_option linter.unusedVariables false
set_option linter.unusedSimpArgs false
/-- of the blocks that were there those alone that meet S may have turned -/
structure Mut (S : Nat → Prop) (w w' : World) : Prop where
  os : w'.os = w.os
  tape : w'.tape = w.tape
  output : w'.output = w.output
  size : w.heap.size ≤ w'.heap.size
  block : ∀ k, k < w.heap.size → ¬ S k → w'.heap[k]? = w.heap[k]?
theorem Mut.refl (S : Nat → Prop) (w : World) : Mut S w w := ⟨rfl, rfl, rfl, Nat.le_refl _, fun _ _ _ => rfl⟩
theorem Mut.trans2 {S T R : Nat → Prop} {a b c : World} (h : Mut S a b) (k : Mut T b c) (h1 : ∀ j, S j → R j) (h2 : ∀ j, j < a.heap.size → T j → R j) : Mut R a c :=
  ⟨k.os.trans h.os, k.tape.trans h.tape, k.output.trans h.output, Nat.le_trans h.size k.size, fun i hi hn =>
    (k.block i (Nat.lt_of_lt_of_le hi h.size) (fun q => hn (h2 i hi q))).trans (h.block i hi (fun q => hn (h1 i q)))⟩
theorem Mut.trans {S : Nat → Prop} {a b c : World} (h : Mut S a b) (k : Mut S b c) : Mut S a c := h.trans2 k (fun _ q => q) (fun _ _ q => q)
theorem Mut.mono {S T : Nat → Prop} {a b : World} (h : Mut S a b) (hs : ∀ j, j < a.heap.size → S j → T j) : Mut T a b := ⟨h.os, h.tape, h.output, h.size, fun k hk hn => h.block k hk fun q => hn (hs k hk q)⟩
theorem Fresh.mut {a b : World} (h : Fresh a b) (S : Nat → Prop) : Mut S a b := ⟨h.os, h.tape, h.output, h.size, fun k hk _ => h.block k hk⟩
theorem Mut.fresh {S : Nat → Prop} {a b : World} (h : Mut S a b) (hs : ∀ k, k < a.heap.size → ¬ S k) : Fresh a b := ⟨h.os, h.tape, h.output, h.size, fun k hk => h.block k hk (hs k hk)⟩
theorem Mut.andFresh {S : Nat → Prop} {a b c : World} (h : Mut S a b) (k : Fresh b c) : Mut S a c := h.trans (k.mut S)
theorem Fresh.andMut {S : Nat → Prop} {a b c : World} (h : Fresh a b) (k : Mut S b c) : Mut S a c := (h.mut S).trans k
theorem Mut.drew {S : Nat → Prop} {a b : World} (h : Mut S a b) : Mut S a b.drew := ⟨h.os, h.tape, h.output, h.size, h.block⟩
theorem Mut.drewN {S : Nat → Prop} {a b : World} (h : Mut S a b) (n : Nat) : Mut S a (b.drewN n) := ⟨h.os, h.tape, h.output, h.size, h.block⟩
theorem Mut.alloc {S : Nat → Prop} {a b : World} (h : Mut S a b) (o : Obj) : Mut S a (b.alloc o) := h.andFresh ((Fresh.refl _).alloc o)
theorem Mut.setCell {S : Nat → Prop} {a b : World} (h : Mut S a b) {p : Addr} (hp : S p.block ∨ a.heap.size ≤ p.block) (v : Value) : Mut S a (b.setCell p v) :=
  ⟨h.os, h.tape, h.output, by simpa [World.setCell] using h.size, fun k hk hn => (Below.heap_setCell b p v k (fun e => hp.elim (fun q => hn (e ▸ q)) (fun q => by omega))).trans (h.block k hk hn)⟩
theorem Mut.grown {S : Nat → Prop} {a b c : World} {row : Option Nat} (h : Mut S a b) (k : b.grownBy c row) (hr : ∀ j, row = some j → S j ∨ a.heap.size ≤ j) : Mut S a c :=
  ⟨k.os.trans h.os, k.tape.trans h.tape, k.output.trans h.output, Nat.le_trans h.size k.size, fun i hi hn =>
    (k.block i (Nat.lt_of_lt_of_le hi h.size) (fun e => (hr i e.symm).elim hn (fun q => by omega))).trans (h.block i hi hn)⟩
theorem Mut.below {S : Nat → Prop} {a b : World} {B : Nat} (h : Mut S a b) (hB : B ≤ a.heap.size) (hs : ∀ k, k < B → ¬ S k) : Below B a b := ⟨h.os, h.tape, h.output, h.size, fun k hk => h.block k (by omega) (hs k hk)⟩
theorem Below.mut {a b : World} {B : Nat} (h : Below B a b) : Mut (fun k => B ≤ k) a b := ⟨h.os, h.tape, h.output, h.size, fun k hk hn => h.block k (by omega)⟩
theorem Mut.cell {S : Nat → Prop} {a b : World} (h : Mut S a b) {p : Addr} (hp : p.block < a.heap.size) (hn : ¬ S p.block) : b.cell? p = a.cell? p := World.cell?_of_block (w := a) (h.block p.block hp hn)
theorem Mut.frozen {S : Nat → Prop} {a b : World} (h : Mut S a b) {p : Addr} (hp : p.block < a.heap.size) (hn : ¬ S p.block) : b.frozen? p = a.frozen? p := World.frozen?_of_block (w := a) (h.block p.block hp hn)
theorem Blk.mut {S : Nat → Prop} {w w' : World} {g : Nat} {t : TypeId} {cs : Array Value} (h : Blk w g t cs) (hf : Mut S w w') (hn : ¬ S g) : Blk w' g t cs := (hf.block g h.lt hn).trans h
theorem own_mut {S : Nat → Prop} {w w' : World} {B : Nat} {e : TypeId} {size : Nat} {v : Value} {n : Nat} {xs : List Value} (h : w.ownsRow B e size v n xs) (hf : Mut S w w') (hn : ∀ g, v.ownBlock = some g → ¬ S g) : w'.ownsRow B e size v n xs := by
  obtain ⟨h1, h2 | ⟨g, cap, cur, rfl, hb, hgg, r⟩⟩ := h
  · exact ⟨h1, .inl h2⟩
  · have hlt : g < w.heap.size := by
      rcases Nat.lt_or_ge g w.heap.size with q | q
      · exact q
      · rw [Array.getElem?_eq_none q] at hgg; cases hgg
    exact ⟨h1, .inr ⟨g, cap, cur, rfl, hb, (hf.block g hlt (hn g rfl)).trans hgg, r⟩⟩
theorem OwnR.mut {S : Nat → Prop} {w w' : World} {B : Nat} {v : Value} {xs : List Int} (h : OwnR w B v xs) (hf : Mut S w w') (hn : ∀ k, B ≤ k → ¬ S k) : OwnR w' B v xs :=
  own_mut h hf fun g hg => hn g (h.lt g hg).1
end Go.Proofs.YtpmlggjhfiljmaaGreatDoor
/- The writer. -/
namespace Go.Proofs.YtpmlggjhfiljmaaGreatDoor
open Go.RowKit
set_option linter.unusedVariables false
set_option linter.unnecessarySimpa false
set_option linter.unusedSimpArgs false
/-- the writer: what is written, what is gathered, how it is joined -/
def WrAt (w : World) (gw : Nat) (out : ByteArray) (o : List Int) (jf : Value) : Prop := ∃ v, Blk w gw 115 #[.string out, v, jf] ∧ OwnR w (gw + 1) v o
def WrPost (gw : Nat) (w : World) (out : ByteArray) (o : List Int) (jf : Value) (e : Ending) (w' : World) : Prop := e = .returned (.tuple #[]) ∧ WrAt w' gw out o jf ∧ Mut (fun k => k = gw) w w'
def jfA : Value := .func (.func 51) #[] #[]
def jfT : Value := .func (.func 21) #[] #[]
theorem wr_keep {w w4 : World} {gw : Nat} {a b c : Value} (hg : gw < w.heap.size) (c0 : w.cell? ⟨gw, 0, none⟩ = some a) (c1 : w.cell? ⟨gw, 1, none⟩ = some b) (c2 : w.cell? ⟨gw, 2, none⟩ = some c) (f0 : w.frozen? ⟨gw, 0, none⟩ = false) (h : Fresh w.drew w4) :
    Fresh w w4 ∧ w4.cell? ⟨gw, 0, none⟩ = some a ∧ w4.cell? ⟨gw, 1, none⟩ = some b ∧ w4.cell? ⟨gw, 2, none⟩ = some c ∧ w4.frozen? ⟨gw, 0, none⟩ = false :=
  ⟨(Fresh.refl _).drew.trans h, (Below.cell h (p := ⟨gw, 0, none⟩) hg).trans c0, (Below.cell h (p := ⟨gw, 1, none⟩) hg).trans c1, (Below.cell h (p := ⟨gw, 2, none⟩) hg).trans c2, (Below.frozen h (p := ⟨gw, 0, none⟩) hg).trans f0⟩
theorem wr_keep2 {w w4 : World} {gw : Nat} {a b c : Value} (hg : gw < w.heap.size) (c0 : w.cell? ⟨gw, 0, none⟩ = some a) (c1 : w.cell? ⟨gw, 1, none⟩ = some b) (c2 : w.cell? ⟨gw, 2, none⟩ = some c) (f0 : w.frozen? ⟨gw, 0, none⟩ = false) (h : Fresh w w4) :
    Fresh w w4 ∧ w4.cell? ⟨gw, 0, none⟩ = some a ∧ w4.cell? ⟨gw, 1, none⟩ = some b ∧ w4.cell? ⟨gw, 2, none⟩ = some c ∧ w4.frozen? ⟨gw, 0, none⟩ = false :=
  ⟨h, (Below.cell h (p := ⟨gw, 0, none⟩) hg).trans c0, (Below.cell h (p := ⟨gw, 1, none⟩) hg).trans c1, (Below.cell h (p := ⟨gw, 2, none⟩) hg).trans c2, (Below.frozen h (p := ⟨gw, 0, none⟩) hg).trans f0⟩
theorem wr_done {gw : Nat} {w w4 : World} {out out' : ByteArray} {v jf : Value} (hb : Blk w gw 115 #[.string out, v, jf]) (h : Fresh w w4) :
    WrAt ((w4.setCell ⟨gw, 0, none⟩ (.string out')).setCell ⟨gw, 1, none⟩ (.slice none 0 0)) gw out' [] jf ∧ Mut (fun k => k = gw) w ((w4.setCell ⟨gw, 0, none⟩ (.string out')).setCell ⟨gw, 1, none⟩ (.slice none 0 0)) := by
  refine ⟨⟨_, ((hb.keep h).set (i := 0) (u := .string out')).set (i := 1) (u := .slice none 0 0), World.ownsRow_nil _ _ _ _⟩, ?_⟩
  exact ((h.mut (fun k => k = gw)).setCell (p := ⟨gw, 0, none⟩) (.inl rfl) _).setCell (p := ⟨gw, 1, none⟩) (.inl rfl) _
theorem joinS_sz2 {o : List Int} (h : o.length ≤ 100000) : (joinS o).size ≤ 400000 := by have := joinS_size o; omega
set_option maxHeartbeats 3200000 in
set_option maxRecDepth 100000 in
theorem flushA_any (gw : Nat) (out : ByteArray) (o : List Int) (w : World) (ho : o.length ≤ 100000) (hs : out.size ≤ 10000000) (h : WrAt w gw out o jfA) :
    Calls Tryz.prog 110 #[.pointer (some ⟨gw, 0, none⟩)] w (WrPost gw w (out ++ joinS o) [] jfA) := by
  obtain ⟨v, hblk, hown⟩ := h
  have hg := hblk.lt
  have c0 : w.cell? ⟨gw, 0, none⟩ = some (.string out) := by rw [hblk.cell]; rfl
  have c1 : w.cell? ⟨gw, 1, none⟩ = some v := by rw [hblk.cell]; rfl
  have c2 : w.cell? ⟨gw, 2, none⟩ = some jfA := by rw [hblk.cell]; rfl
  have f0 : w.frozen? ⟨gw, 0, none⟩ = false := hblk.frozen 0
  have f1 : w.frozen? ⟨gw, 1, none⟩ = false := hblk.frozen 1
  have HB := Lib.hid hblk
  have HJN := fun (W : World) (h : Sl W v o) => utfJoin_any v o W h (by omega)
  have hjs := joinS_sz2 ho
  generalize hJ : joinS o = J at HJN hjs ⊢
  clear hJ
  have hns : ¬ 9223372036854775807 < out.size + J.size := by omega
  have HO := Lib.hid hown
  have HJ := Lib.hid HJN
  unfold jfA at c2
  clear hblk hown HJN
  go_enter Tryz.func110, Tryz.ntmps110
  go_wp2_with fail
  go_region_law (first
      | (go_simp; go_at_call 51; refine (asIs_any _ _).mono ?_; rintro e w3 ⟨rfl, rfl⟩)
      | (go_simp; go_at_call 162; refine (HJ.out _ ((HO.out.keep (by repeat (first | exact Fresh.refl _ | refine Fresh.drew ?_))).sl)).mono ?_; rintro e w4 ⟨rfl, h4⟩; obtain ⟨h5, d0, d1, d2, e0⟩ := wr_keep hg c0 c1 c2 f0 h4))
  all_goals
    have e1 : (w4.setCell ⟨gw, 0, none⟩ (.string (out ++ J))).frozen? ⟨gw, 1, none⟩ = false := by rw [World.frozen?_setCell]; exact (Below.frozen h5 (p := ⟨gw, 1, none⟩) hg).trans f1
    go_wp2
    have hd := wr_done (out' := out ++ J) HB.out h5
    go_end0
    exact ⟨rfl, hd.1, hd.2⟩
set_option maxHeartbeats 3200000 in
set_option maxRecDepth 100000 in
theorem flushT_any (gw : Nat) (out : ByteArray) (o : List Int) (w : World) (ho : o.length ≤ 100000) (h32 : In32 o) (hs : out.size ≤ 10000000) (h : WrAt w gw out o jfT) :
    Calls Tryz.prog 110 #[.pointer (some ⟨gw, 0, none⟩)] w (WrPost gw w (out ++ joinS (tog o)) [] jfT) := by
  obtain ⟨v, hblk, hown⟩ := h
  have hg := hblk.lt
  have c0 : w.cell? ⟨gw, 0, none⟩ = some (.string out) := by rw [hblk.cell]; rfl
  have c1 : w.cell? ⟨gw, 1, none⟩ = some v := by rw [hblk.cell]; rfl
  have c2 : w.cell? ⟨gw, 2, none⟩ = some jfT := by rw [hblk.cell]; rfl
  have f0 : w.frozen? ⟨gw, 0, none⟩ = false := hblk.frozen 0
  have f1 : w.frozen? ⟨gw, 1, none⟩ = false := hblk.frozen 1
  have HB := Lib.hid hblk
  have htl := tog_len2 o
  have HT := Lib.hid (fun (W : World) (h : Sl W v o) => ctog_any v o W h ho h32)
  have HJN := fun (u : Value) (W : World) (h : Sl W u (tog o)) => utfJoin_any u (tog o) W h (by omega)
  have hjs := joinS_sz2 (o := tog o) (by omega)
  generalize hJ : joinS (tog o) = J at HJN hjs ⊢
  clear hJ
  have hns : ¬ 9223372036854775807 < out.size + J.size := by omega
  have HO := Lib.hid hown
  have HJ := Lib.hid HJN
  unfold jfT at c2
  clear hblk hown HJN
  go_enter Tryz.func110, Tryz.ntmps110
  go_wp2_with fail
  go_region_law (first
      | (go_simp; go_at_call 21; refine (HT.out _ ((HO.out.keep (by repeat (first | exact Fresh.refl _ | refine Fresh.drew ?_))).sl)).mono ?_; rintro e w3 ⟨u, rfl, hu, h3⟩; obtain ⟨h5, d0, d1, d2, e0⟩ := wr_keep hg c0 c1 c2 f0 h3)
      | (go_simp; go_at_call 162; refine (HJ.out _ _ hu.sl).mono ?_; rintro e w4 ⟨rfl, h4⟩; obtain ⟨h6, d3, d4, d5, e3⟩ := wr_keep2 (Nat.lt_of_lt_of_le hg h5.size) d0 d1 d2 e0 h4))
  all_goals
    have e1 : (w4.setCell ⟨gw, 0, none⟩ (.string (out ++ J))).frozen? ⟨gw, 1, none⟩ = false := by rw [World.frozen?_setCell]; exact (Below.frozen (h5.trans h6) (p := ⟨gw, 1, none⟩) hg).trans f1
    go_wp2
    have hd := wr_done (out' := out ++ J) HB.out (h5.trans h6)
    go_end0
    exact ⟨rfl, hd.1, hd.2⟩
end Go.Proofs.YtpmlggjhfiljmaaGreatDoor
