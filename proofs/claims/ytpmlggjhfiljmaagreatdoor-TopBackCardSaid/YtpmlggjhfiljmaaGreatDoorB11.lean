/- Contracts that the law rests on, part 11 of 50 (ComA, ComB, ComC). Each states its own conditions. -/
import Derived.Laws.IdiomStrings
import Derived.Laws.RangeAny
import Derived.Test.YtpmlggjhfiljmaaGreatDoorB06
import Derived.Test.YtpmlggjhfiljmaaGreatDoorB10
/- Contracts of layer 3's small functions. -/
namespace Go.Proofs.YtpmlggjhfiljmaaGreatDoor
open Go.RowKit
set_option linter.unusedVariables false

def tabCells : List Value := (List.range 13).flatMap fun k => [.int .i32 (mkI k), .string (lsS k), .string (msS k)]
theorem tab_cells {k : Nat} (h : k < 13) : tabCells[k * 3]? = some (.int .i32 (mkI k)) ∧ tabCells[k * 3 + 1]? = some (.string (lsS k)) ∧ tabCells[k * 3 + 2]? = some (.string (msS k)) := by
  match k, h with
  | 0, _ => exact ⟨rfl, rfl, rfl⟩
  | 1, _ => exact ⟨rfl, rfl, rfl⟩
  | 2, _ => exact ⟨rfl, rfl, rfl⟩
  | 3, _ => exact ⟨rfl, rfl, rfl⟩
  | 4, _ => exact ⟨rfl, rfl, rfl⟩
  | 5, _ => exact ⟨rfl, rfl, rfl⟩
  | 6, _ => exact ⟨rfl, rfl, rfl⟩
  | 7, _ => exact ⟨rfl, rfl, rfl⟩
  | 8, _ => exact ⟨rfl, rfl, rfl⟩
  | 9, _ => exact ⟨rfl, rfl, rfl⟩
  | 10, _ => exact ⟨rfl, rfl, rfl⟩
  | 11, _ => exact ⟨rfl, rfl, rfl⟩
  | 12, _ => exact ⟨rfl, rfl, rfl⟩
set_option maxHeartbeats 800000 in
theorem lines_any (w : World) :
    Calls Tryz.prog 116 #[] w fun e w' => e = .returned (.slice (some ⟨w.heap.size, 0, none⟩) 13 13) ∧ Fresh w w' ∧ Blk w' w.heap.size 187 tabCells.toArray := by
  go_enter Tryz.func116, Tryz.ntmps116
  go_wp2
  go_ret
  refine ⟨rfl, (Fresh.refl _).alloc _, ?_⟩
  exact heap_alloc_new w _
set_option maxHeartbeats 400000 in
theorem class_any (r : Int) (w : World) : Calls Tryz.prog 25 #[.int .i32 r] w fun e w' => e = .returned (.int .i64 (clsI r)) ∧ w = w' := by
  by_cases e1 : r = 807
  · subst e1
    go_enter Tryz.func25, Tryz.ntmps25
    go_wp2
    go_ret
    exact ⟨rfl, rfl⟩
  by_cases e2 : r = 808
  · subst e2
    go_enter Tryz.func25, Tryz.ntmps25
    go_wp2
    go_ret
    exact ⟨rfl, rfl⟩
  have b1 : (r == 807) = false := by simp [e1]
  have b2 : (r == 808) = false := by simp [e2]
  have E1 := Lib.hid e1
  have E2 := Lib.hid e2
  clear e1 e2
  go_enter Tryz.func25, Tryz.ntmps25
  go_wp2
  all_goals (go_ret; exact ⟨ret_int (by have := E1.out; have := E2.out; unfold clsI; repeat' split
                                        all_goals omega), rfl⟩)
def openB (r : Int) : Bool := decide (44032 ≤ r ∧ r < 55204 ∧ (r - 44032) % 28 = 0)
set_option maxHeartbeats 400000 in
theorem open_any (r : Int) (w : World) : Calls Tryz.prog 170 #[.int .i32 r] w fun e w' => e = .returned (.bool (openB r)) ∧ w = w' := by
  by_cases h : 44032 ≤ r ∧ r < 55204
  · obtain ⟨h1, h2⟩ := h
    by_cases h3 : (r - 44032) % 28 = 0
    · have b : ((r - 44032) % 28 == 0) = true := by simp [h3]
      have H3 := Lib.hid h3
      clear h3
      go_enter Tryz.func170, Tryz.ntmps170
      go_wp2
      go_ret
      exact ⟨ret_bool (by symm; unfold openB; rw [decide_eq_true_iff]; exact ⟨h1, h2, H3.out⟩), rfl⟩
    · have b : ((r - 44032) % 28 == 0) = false := by simp [h3]
      have H3 := Lib.hid h3
      clear h3
      go_enter Tryz.func170, Tryz.ntmps170
      go_wp2
      go_ret
      exact ⟨ret_bool (by symm; unfold openB; rw [decide_eq_false_iff_not]; exact fun h => H3.out h.2.2), rfl⟩
  · have H := Lib.hid h
    by_cases h1 : 44032 ≤ r
    · have h2 : 55204 ≤ r := by omega
      clear h
      go_enter Tryz.func170, Tryz.ntmps170
      go_wp2
      go_ret
      exact ⟨ret_bool (by symm; unfold openB; rw [decide_eq_false_iff_not]; exact fun h => H.out ⟨h.1, h.2.1⟩), rfl⟩
    · clear h
      go_enter Tryz.func170, Tryz.ntmps170
      go_wp2
      go_ret
      exact ⟨ret_bool (by symm; unfold openB; rw [decide_eq_false_iff_not]; exact fun h => H.out ⟨h.1, h.2.1⟩), rfl⟩

/-- a number and whether there is one -/
def OptI (o : Option Int) (e : Ending) : Prop := e = .returned (.tuple #[.int .i32 (o.getD 0), .bool o.isSome])
theorem OptI.yes {o : Option Int} {n : Int} (h : o = some n) : OptI o (.returned (.tuple #[.int .i32 n, .bool true])) := by rw [h]; rfl
theorem OptI.no {o : Option Int} (h : o = none) : OptI o (.returned (.tuple #[.int .i32 0, .bool false])) := by rw [h]; rfl
set_option maxHeartbeats 800000 in
theorem hangul_any (a b : Int) (w : World) (ha : -2147483648 ≤ a ∧ a < 2147483648) (hb : -2147483648 ≤ b ∧ b < 2147483648) :
    Calls Tryz.prog 117 #[.int .i32 a, .int .i32 b] w fun e w' => OptI (hanI a b) e ∧ w = w' := by
  obtain ⟨a1, a2⟩ := ha
  obtain ⟨b1, b2⟩ := hb
  by_cases h : 4352 ≤ a ∧ a < 4371 ∧ 4449 ≤ b ∧ b < 4470
  · have hz : hanI a b = some (44032 + (a - 4352) * 588 + (b - 4449) * 28) := by unfold hanI; rw [if_pos h]
    have HZ := Lib.hid hz
    clear hz
    obtain ⟨h1, h2, h3, h4⟩ := h
    go_enter Tryz.func117, Tryz.ntmps117
    go_wp2
    go_ret2
    exact ⟨OptI.yes HZ.out, rfl⟩
  by_cases g : 44032 ≤ a ∧ a < 55204 ∧ (a - 44032) % 28 = 0 ∧ 4520 ≤ b ∧ b < 4547
  · have hz : hanI a b = some (a + b - 4520 + 1) := by unfold hanI; rw [if_neg h, if_pos g]
    have HZ := Lib.hid hz
    have ho : openB a = true := by unfold openB; simp; omega
    have HO := Lib.hid ho
    obtain ⟨g1, g2, g3, g4, g5⟩ := g
    clear hz h ho g3
    go_enter Tryz.func117, Tryz.ntmps117
    go_wp2_with fail
    refine (open_any _ _).mono ?_
    rintro e w1 ⟨rfl, rfl⟩
    rw [HO.out]
    go_wp2
    go_ret2
    exact ⟨OptI.yes HZ.out, rfl⟩
  · have hz : hanI a b = none := by unfold hanI; rw [if_neg h, if_neg g]
    have HZ := Lib.hid hz
    clear hz
    cases ho : openB a with
    | true =>
      have hq : 44032 ≤ a ∧ a < 55204 ∧ (a - 44032) % 28 = 0 := by unfold openB at ho; simpa using ho
      have hn : b < 4520 ∨ 4547 ≤ b := by omega
      have HO := Lib.hid ho
      obtain ⟨q1, q2, q3⟩ := hq
      clear h g q3 ho
      rcases hn with hn | hn
      · go_enter Tryz.func117, Tryz.ntmps117
        go_wp2_with fail
        refine (open_any _ _).mono ?_
        rintro e w1 ⟨rfl, rfl⟩
        rw [HO.out]
        go_wp2
        go_ret2
        exact ⟨OptI.no HZ.out, rfl⟩
      · go_enter Tryz.func117, Tryz.ntmps117
        go_wp2_with fail
        refine (open_any _ _).mono ?_
        rintro e w1 ⟨rfl, rfl⟩
        rw [HO.out]
        go_wp2
        go_ret2
        exact ⟨OptI.no HZ.out, rfl⟩
    | false =>
      have HO := Lib.hid ho
      clear ho g
      have H := Lib.hid h
      by_cases c1 : 4352 ≤ a
      · by_cases c2 : a < 4371
        · by_cases c3 : 4449 ≤ b
          · have c4 : 4470 ≤ b := by omega
            clear h
            go_enter Tryz.func117, Tryz.ntmps117
            go_wp2_with fail
            refine (open_any _ _).mono ?_
            rintro e w1 ⟨rfl, rfl⟩
            rw [HO.out]
            go_wp2
            go_ret2
            exact ⟨OptI.no HZ.out, rfl⟩
          · clear h
            go_enter Tryz.func117, Tryz.ntmps117
            go_wp2_with fail
            refine (open_any _ _).mono ?_
            rintro e w1 ⟨rfl, rfl⟩
            rw [HO.out]
            go_wp2
            go_ret2
            exact ⟨OptI.no HZ.out, rfl⟩
        · clear h
          go_enter Tryz.func117, Tryz.ntmps117
          go_wp2_with fail
          refine (open_any _ _).mono ?_
          rintro e w1 ⟨rfl, rfl⟩
          rw [HO.out]
          go_wp2
          go_ret2
          exact ⟨OptI.no HZ.out, rfl⟩
      · clear h
        go_enter Tryz.func117, Tryz.ntmps117
        go_wp2_with fail
        refine (open_any _ _).mono ?_
        rintro e w1 ⟨rfl, rfl⟩
        rw [HO.out]
        go_wp2
        go_ret2
        exact ⟨OptI.no HZ.out, rfl⟩
end Go.Proofs.YtpmlggjhfiljmaaGreatDoor
/- slices.Index over runes; compose.Pair. -/
namespace Go.Proofs.YtpmlggjhfiljmaaGreatDoor
open Go.RowKit
set_option linter.unusedVariables false

def IxPost (xs : List Int) (r : Int) (w : World) (e : Ending) (w' : World) : Prop := ∃ k, e = .returned (.int .i64 k) ∧ FirstAt xs r k ∧ Fresh w w'
def IxRel (xs : List Int) (r : Int) (w : World) (i : Value) (wr : World) : Prop := ∃ k : Nat, i = .int .i64 k ∧ k ≤ xs.length ∧ (∀ j : Nat, j < k → xs.getD j 0 ≠ r) ∧ Fresh w wr
set_option maxHeartbeats 800000 in
theorem index_any (u : Value) (xs : List Int) (r : Int) (w : World) (hu : Sl w u xs) (hx : xs.length ≤ 1000000) :
    Calls Tryz.prog 256 #[u, .int .i32 r] w (IxPost xs r w) := by
  obtain ⟨a, ca, rfl, hu⟩ := hu
  rcases hu with rfl | ⟨b1, o1, rfl, hb1, hc1⟩
  · go_enter Tryz.func256, Tryz.ntmps256
    go_wp2
    refine wp_loop_rounds 1 ?_
    rw [rounds_succ]
    go_wp2
    go_ret
    exact ⟨-1, rfl, .inr ⟨rfl, fun j hj => absurd hj (Nat.not_lt_zero _)⟩, Fresh.refl _⟩
  have H1 := Lib.hid hc1
  clear hc1
  generalize hn : xs.length = n at hx H1
  have HN := Lib.hid hn
  clear hn
  go_enter Tryz.func256, Tryz.ntmps256
  go_wp2
  go_loopw [8] (fun i wr => IxRel xs r w i wr) (fun i _ => n - (intOf i).toNat)
  case atStart => exact ⟨0, rfl, Nat.zero_le _, fun j hj => absurd hj (Nat.not_lt_zero _), Fresh.refl _⟩
  case round =>
    obtain ⟨k, rfl, hk, he, hf⟩ := hrel
    have HE := Lib.hid he
    clear he
    have hk' : k ≤ n := by have := HN.out; omega
    clear hk
    by_cases hlt : k < n
    · have c1 : wr.cell? ⟨b1, o1 + k, none⟩ = some (.int .i32 (xs.getD k 0)) := (Below.cell hf (p := ⟨b1, o1 + k, none⟩) hb1).trans (H1.out k hlt)
      generalize hp : xs.getD k 0 = p at c1
      have HP := Lib.hid hp
      clear hp
      by_cases hpq : r = p
      · have HPQ := Lib.hid hpq
        have hb : (r == p) = true := by simp [hpq]
        clear hpq
        go_wp2
        go_ret
        exact ⟨k, rfl, .inl ⟨by omega, by have := HN.out; omega, by rw [Int.toNat_natCast, HP.out, HPQ.out], fun j hj => HE.out j (by omega)⟩, hf⟩
      · have HPQ := Lib.hid hpq
        have hb : (r == p) = false := by simp [hpq]
        clear hpq
        go_wp2
        refine ⟨⟨k + 1, by rw [Int.natCast_add]; rfl, by have := HN.out; omega, fun j hj => ?_, hf⟩, by simp [intOf]; omega⟩
        by_cases hjk : j = k
        · rw [hjk, HP.out]; exact fun h => HPQ.out h.symm
        · exact HE.out j (by omega)
    · have hkn : k = n := by omega
      go_wp2
      go_ret
      exact ⟨-1, rfl, .inr ⟨rfl, fun j hj => HE.out j (by have := HN.out; omega)⟩, hf⟩

/-- a string made runes: the new world, and that it reads as the runes -/
def runesWorld (w : World) (rs : List Int) : World :=
  w.drew.alloc (.cells ((rs.map (Value.int .i32)).toArray ++ Array.replicate (grownCap w rs.length 0 21 - rs.length) (.int .i32 0)) 21)
theorem runes_run {s : ByteArray} {rs : List Int} (h : Conv.runesFrom s s.size 0 #[] = (rs.map (Value.int .i32)).toArray) (hl : rs.length ≤ 1000000) (w : World) :
    (convert 9 50 (.string s)).run Tryz.prog w = .ok (.slice (some ⟨w.heap.size, 0, none⟩) rs.length (grownCap w rs.length 0 21)) (runesWorld w rs) := by
  have hz : (Conv.runesFrom s s.size 0 #[]).size = rs.length := by rw [h]; simp
  have := run_runes_of_string (P := Tryz.prog) w 9 50 21 s Tryz.underlying9 Tryz.underlying50 Tryz.underlying21 (by rw [hz]; omega)
  rw [hz, h] at this
  exact this
theorem runes_fresh (w : World) (rs : List Int) : Fresh w (runesWorld w rs) := (Fresh.refl w).drew.alloc _
theorem runes_cell (w : World) (rs : List Int) (j : Nat) (hj : j < rs.length) : (runesWorld w rs).cell? ⟨w.heap.size, j, none⟩ = some (.int .i32 (rs.getD j 0)) := by
  unfold runesWorld
  have hs : w.drew.heap.size = w.heap.size := rfl
  rw [World.cell?_alloc_at _ _ _ _ hs.symm, Array.getElem?_append_left (by simpa using hj)]
  simp [List.getD_eq_getElem?_getD, hj]
theorem runes_sl (w : World) (rs : List Int) : Sl (runesWorld w rs) (.slice (some ⟨w.heap.size, 0, none⟩) rs.length (grownCap w rs.length 0 21)) rs := by
  refine ⟨_, _, rfl, .inr ⟨w.heap.size, 0, rfl, ?_, fun j hj => ?_⟩⟩
  · unfold runesWorld; simp
  · rw [show 0 + j = j from by omega]; exact runes_cell w rs j hj
end Go.Proofs.YtpmlggjhfiljmaaGreatDoor
/- compose.Pair. -/
namespace Go.Proofs.YtpmlggjhfiljmaaGreatDoor
open Go.RowKit
set_option linter.unusedVariables false

def PairRel (a b : Int) (w : World) (i : Value) (wr : World) : Prop := ∃ k : Nat, i = .int .i64 k ∧ k ≤ 13 ∧ (uptoT k).find? (isAB a b) = none ∧ Fresh w wr
def InnerRel (li : List Int) (a : Int) (L : ByteArray) (W1 wr' : World) : Prop := ∃ i : Nat, i ≤ li.length ∧ wr' = W1.iter L i ∧ ∀ j : Nat, j < i → li.getD j 0 ≠ a
def PairPost (a b : Int) (w : World) (e : Ending) (w' : World) : Prop := OptI (pairI a b) e ∧ Fresh w w'
theorem hit_row {a b mk : Int} {li mi : List Int} (hmk : mk = b) (hl : li.length = mi.length) {i : Nat} (hi : i < li.length) (hno : ∀ j : Nat, j < i → li.getD j 0 ≠ a) (hp : li.getD i 0 = a) :
    ((li.zip mi).map fun x => (x.1, mk, x.2)).find? (isAB a b) = some (li.getD i 0, mk, mi.getD i 0) :=
  find_zip (p := (· == a)) (f := fun x => (x.1, mk, x.2)) li mi (isAB a b) (fun x => by simp [isAB, hmk]) i hi hl (fun j hj => by simpa using hno j hj) (by simpa using hp)
theorem miss_row {a b mk : Int} {li mi : List Int} (hmk : mk = b) (hno : ∀ j : Nat, j < li.length → li.getD j 0 ≠ a) :
    ((li.zip mi).map fun x => (x.1, mk, x.2)).find? (isAB a b) = none :=
  find_zip_none (p := (· == a)) (f := fun x => (x.1, mk, x.2)) li mi (isAB a b) (fun x => by simp [isAB, hmk]) (fun j hj => by simpa using hno j hj)
theorem T_split {k : Nat} (h : k < 13) {p : Int × Int × Int → Bool} {t : Int × Int × Int} (h1 : (uptoT k).find? p = none) (h2 : (rowT k).find? p = some t) : T.find? p = some t := by
  obtain ⟨r, hr⟩ := uptoT_prefix (show k + 1 ≤ 13 by omega)
  unfold T
  rw [hr, uptoT_succ, List.find?_append, List.find?_append, h1, h2]
  rfl
theorem pair_hit {k : Nat} (h : k < 13) {a b x m q q' : Int} (h1 : (uptoT k).find? (isAB a b) = none) (h2 : (rowT k).find? (isAB a b) = some (x, m, q')) (hq : q' = q) : pairI a b = some q := by
  unfold pairI
  rw [T_split h h1 h2, hq]
set_option maxHeartbeats 1600000 in
theorem pair_any (a b : Int) (w : World) (ha : -2147483648 ≤ a ∧ a < 2147483648) (hb : -2147483648 ≤ b ∧ b < 2147483648) :
    Calls Tryz.prog 60 #[.int .i32 a, .int .i32 b] w (PairPost a b w) := by
  go_enter Tryz.func60, Tryz.ntmps60
  go_wp2_with fail
  refine (lines_any _).mono ?_
  rintro e w1 ⟨rfl, h1, hblk⟩
  go_wp2
  go_loopw [13] (fun i wr => PairRel a b w1 i wr) (fun i _ => 13 - (intOf i).toNat)
  case atStart => exact ⟨0, rfl, by omega, rfl, Fresh.refl _⟩
  case round =>
    obtain ⟨k, rfl, hk, hfind, hf⟩ := hrel
    have HFI := Lib.hid hfind
    clear hfind
    by_cases hlt : k < 13
    · have hb2 := hblk.keep hf
      obtain ⟨t0, t1, t2⟩ := tab_cells hlt
      have c0 : wr.cell? ⟨w.heap.size, k * 3, none⟩ = some (.int .i32 (mkI k)) := by rw [hb2.cell]; simpa using t0
      have c1 : wr.cell? ⟨w.heap.size, k * 3 + 1, none⟩ = some (.string (lsS k)) := by rw [hb2.cell]; simpa using t1
      have c2 : wr.cell? ⟨w.heap.size, k * 3 + 2, none⟩ = some (.string (msS k)) := by rw [hb2.cell]; simpa using t2
      clear t0 t1 t2
      by_cases hm : mkI k = b
      · have hm2 : (mkI k != b) = false := by simp [hm]
        have HM := Lib.hid hm
        have hru := runes_run (ms_runes hlt) (by have := ls_size hlt; omega)
        clear hm
        obtain ⟨z1, z2, z3, z4⟩ := ls_size hlt
        have HD := Lib.hid (ls_dec hlt)
        have HR := Lib.hid (show rowT k = ((liI k).zip (miI k)).map fun x => (x.1, mkI k, x.2) from rfl)
        generalize hL : lsS k = L at c1 z1 HD
        generalize hM : msS k = M at c2 z4 hru
        generalize hmk : mkI k = mk at c0 hm2 HM HR
        generalize hli : liI k = li at z1 z2 z3 HD HR
        generalize hmi : miI k = mi at z2 HR hru
        have Z1 := Lib.hid z1
        have Z2 := Lib.hid z2
        clear hL hM hmk hli hmi z1 z2
        have hrc : (runesWorld (wr.alloc (.cells #[.int .i32 mk, .string L, .string M] 187)) mi).cell? ⟨wr.heap.size, 1, none⟩ = some (.string L) :=
          (Below.cell (runes_fresh (wr.alloc (.cells #[.int .i32 mk, .string L, .string M] 187)) mi) (p := ⟨wr.heap.size, 1, none⟩) (by simp)).trans (by rw [World.cell?_alloc_at _ _ _ _ rfl]; rfl)
        have HF1 : Hid (Fresh wr (runesWorld (wr.alloc (.cells #[.int .i32 mk, .string L, .string M] 187)) mi)) := ((Fresh.refl wr).alloc _).trans (runes_fresh _ _)
        have HC1 : Hid (∀ j, j < mi.length → (runesWorld (wr.alloc (.cells #[.int .i32 mk, .string L, .string M] 187)) mi).cell? ⟨wr.heap.size + 1, j, none⟩ = some (.int .i32 (mi.getD j 0))) := fun j hj => by
          have := runes_cell (wr.alloc (.cells #[.int .i32 mk, .string L, .string M] 187)) mi j hj
          simpa using this
        have HS1 : Hid (wr.heap.size + 1 < (runesWorld (wr.alloc (.cells #[.int .i32 mk, .string L, .string M] 187)) mi).heap.size) := by
          unfold runesWorld; simp [Hid]
        go_wp2
        generalize (runesWorld (wr.alloc (.cells #[.int .i32 mk, .string L, .string M] 187)) mi) = W1 at HF1 HC1 HS1
        clear hrc hru c0 c1 c2
        go_loopw [9] (fun _ wr' => InnerRel li a L W1 wr') (fun _ wr' => li.length - wr'.iterPos W1.heap.size)
        case atStart => exact ⟨0, Nat.zero_le _, rfl, fun j hj => absurd hj (Nat.not_lt_zero _)⟩
        case round =>
          obtain ⟨i, hi, rfl, he⟩ := hrel
          have HE := Lib.hid he
          clear he
          by_cases hil : i < li.length
          · have hd := HD.out i hil
            have hnx : ∀ ty, (Instr.next (.pointer (some ⟨W1.heap.size, 0, none⟩)) true ty).run Tryz.prog (W1.iter L i) = .ok (.tuple #[.bool true, .int .i64 i, .int .i32 (li.getD i 0)]) (W1.iter L (i + 1)) := fun ty => by
              have := run_next_any (P := Tryz.prog) W1 L i ty (by have := Z1.out; omega)
              rw [hd.1] at this
              simp only at this
              rw [Int.toNat_of_nonneg hd.2] at this
              exact this
            have hmc : (W1.iter L (i + 1)).cell? ⟨wr.heap.size + 1, i, none⟩ = some (.int .i32 (mi.getD i 0)) :=
              (World.cell?_alloc_lt W1 _ _ HS1.out).trans (HC1.out i (by have := Z2.out; omega))
            clear hd
            generalize hp : li.getD i 0 = p at hnx
            generalize hq : mi.getD i 0 = q at hmc
            have HP := Lib.hid hp
            have HQ := Lib.hid hq
            clear hp hq
            by_cases hpa : p = a
            · have hb : (p == a) = true := by simp [hpa]
              have HPA := Lib.hid hpa
              clear hpa
              have him : i < mi.length := by have := Z2.out; omega
              go_wp2
              go_ret2
              refine ⟨OptI.yes (pair_hit hlt HFI.out (by rw [HR.out]; exact hit_row HM.out (by have := Z2.out; omega) hil HE.out (by rw [HP.out, HPA.out])) HQ.out), (h1.trans hf).trans (HF1.out.alloc _)⟩
            · have hb : (p == a) = false := by simp [hpa]
              have HPA := Lib.hid hpa
              clear hpa
              go_wp2
              refine ⟨⟨i + 1, by omega, rfl, fun j hj => ?_⟩, by simp; omega⟩
              by_cases hji : j = i
              · rw [hji, HP.out]; exact HPA.out
              · exact HE.out j (by omega)
          · have hnx : ∀ ty, (Instr.next (.pointer (some ⟨W1.heap.size, 0, none⟩)) true ty).run Tryz.prog (W1.iter L i) = .ok (.tuple #[.bool false]) (W1.iter L i) := fun ty => run_next_end W1 L i ty (by have := Z1.out; omega)
            go_wp2
            exact ⟨⟨k + 1, by rw [Int.natCast_add]; rfl, by omega, by rw [uptoT_succ, List.find?_append, HFI.out, HR.out, miss_row HM.out (fun j hj => HE.out j (by omega))]; rfl, hf.trans (HF1.out.alloc _)⟩, by simp [intOf]; omega⟩
      · have hm2 : (mkI k != b) = true := by simp [hm]
        have HM := Lib.hid hm
        clear hm
        generalize lsS k = L at c1
        generalize msS k = M at c2
        generalize hmk : mkI k = mk at c0 hm2
        clear hmk
        go_wp2
        exact ⟨⟨k + 1, by rw [Int.natCast_add]; rfl, by omega, by rw [uptoT_succ, List.find?_append, HFI.out, find_row_none HM.out]; rfl, hf.alloc _⟩, by simp [intOf]; omega⟩
    · have hk13 : k = 13 := by omega
      subst hk13
      go_wp2_with fail
      refine (hangul_any _ _ _ ha hb).mono ?_
      rintro e w3 ⟨he, rfl⟩
      have HT := Lib.hid (show pairI a b = hanI a b by unfold pairI T; rw [HFI.out])
      unfold OptI at he
      subst he
      go_wp2
      go_ret2
      exact ⟨by rw [HT.out]; rfl, h1.trans hf⟩
end Go.Proofs.YtpmlggjhfiljmaaGreatDoor
