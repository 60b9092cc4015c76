/- compose.Split. -/
import Derived.Test.YtmfmnlioojkjgaaComC
import Derived.Deep.RegionHeld3
namespace Go.Proofs.Ytmfmnlioojkjgaa
open Go.RowKit
set_option linter.unusedVariables false

/-- two numbers and whether there are such -/
def OptP (o : Option (Int × Int)) (e : Ending) : Prop := e = .returned (.tuple #[.int .i32 (o.getD (0, 0)).1, .int .i32 (o.getD (0, 0)).2, .bool o.isSome])
theorem OptP.yes {o : Option (Int × Int)} {n m : Int} (h : o = some (n, m)) : OptP o (.returned (.tuple #[.int .i32 n, .int .i32 m, .bool true])) := by rw [h]; rfl
theorem OptP.no {o : Option (Int × Int)} (h : o = none) : OptP o (.returned (.tuple #[.int .i32 0, .int .i32 0, .bool false])) := by rw [h]; rfl
def SplitRel (r : Int) (w : World) (i : Value) (wr : World) : Prop := ∃ k : Nat, i = .int .i64 k ∧ k ≤ 13 ∧ (uptoT k).find? (isR r) = none ∧ Fresh w wr
def SplitPost (r : Int) (w : World) (e : Ending) (w' : World) : Prop := OptP (splitI r) e ∧ Fresh w w'
theorem zip_swap (l m : List Int) (f : Int × Int → Int × Int × Int) : (l.zip m).map f = (m.zip l).map (fun x => f (x.2, x.1)) := by
  induction l generalizing m with
  | nil => cases m <;> rfl
  | cons a l ih => cases m with
    | nil => rfl
    | cons b m => simp only [List.zip_cons_cons, List.map_cons, ih]
theorem hit_rowR {r mk : Int} {li mi : List Int} (hl : mi.length = li.length) {i : Nat} (hi : i < mi.length) (hno : ∀ j : Nat, j < i → mi.getD j 0 ≠ r) (hp : mi.getD i 0 = r) :
    ((li.zip mi).map fun x => (x.1, mk, x.2)).find? (isR r) = some (li.getD i 0, mk, mi.getD i 0) := by
  rw [zip_swap]
  exact find_zip (p := (· == r)) (f := fun x => (x.2, mk, x.1)) mi li (isR r) (fun x => by simp [isR]) i hi hl (fun j hj => by simpa using hno j hj) (by simpa using hp)
theorem miss_rowR {r mk : Int} {li mi : List Int} (hno : ∀ j : Nat, j < mi.length → mi.getD j 0 ≠ r) :
    ((li.zip mi).map fun x => (x.1, mk, x.2)).find? (isR r) = none := by
  rw [zip_swap]
  exact find_zip_none (p := (· == r)) (f := fun x => (x.2, mk, x.1)) mi li (isR r) (fun x => by simp [isR]) (fun j hj => by simpa using hno j hj)
theorem split_hit {k : Nat} (h : k < 13) {r x m q : Int} (h1 : (uptoT k).find? (isR r) = none) (h2 : (rowT k).find? (isR r) = some (x, m, q)) : splitI r = some (x, m) := by
  unfold splitI
  rw [T_split h h1 h2]

set_option maxHeartbeats 1600000 in
theorem split_any (r : Int) (w : World) (hr : -2147483648 ≤ r ∧ r < 2147483648) :
    Calls Try.prog 11 #[.int .i32 r] w (SplitPost r w) := by
  obtain ⟨r1, r2⟩ := hr
  go_enter Try.func11, Try.ntmps11
  go_wp2_with fail
  refine (lines_any _).mono ?_
  rintro e w1 ⟨rfl, h1, hblk⟩
  go_wp2
  go_loopw [13] (fun i wr => SplitRel r w1 i wr) (fun i _ => 13 - (intOf i).toNat)
  case atStart => exact ⟨0, rfl, by omega, rfl, Fresh.refl _⟩
  case round =>
    obtain ⟨k, rfl, hk, hfind, hf⟩ := hrel
    have HFI := Lib.hid hfind
    clear hfind
    by_cases hlt : k < 13
    · have hb2 := hblk.keep hf
      obtain ⟨t0, t1, t2⟩ := tab_cells hlt
      have c0 : wr.cell? ⟨w.heap.size, k * 3, none⟩ = some (.int .i32 (mkI k)) := by rw [hb2.cell]; simpa using t0
      have c1 : wr.cell? ⟨w.heap.size, k * 3 + 1, none⟩ = some (.string (lsS k)) := by rw [hb2.cell]; simpa using t1
      have c2 : wr.cell? ⟨w.heap.size, k * 3 + 2, none⟩ = some (.string (msS k)) := by rw [hb2.cell]; simpa using t2
      clear t0 t1 t2
      have hru := runes_run (ms_runes hlt) (by have := ls_size hlt; omega)
      have hrl := runes_run (ls_runes hlt) (by have := ls_size hlt; omega)
      obtain ⟨z1, z2, z3, z4⟩ := ls_size hlt
      have HR := Lib.hid (show rowT k = ((liI k).zip (miI k)).map fun x => (x.1, mkI k, x.2) from rfl)
      generalize hL : lsS k = L at c1 z1 hrl
      generalize hM : msS k = M at c2 z4 hru
      generalize hmk : mkI k = mk at c0 HR
      generalize hli : liI k = li at z1 z2 z3 HR hrl
      generalize hmi : miI k = mi at z2 HR hru
      have Z2 := Lib.hid z2
      have hmi3 : mi.length ≤ 24 := by omega
      clear hL hM hmk hli hmi z1 z2
      have hrc : (runesWorld (wr.alloc (.cells #[.int .i32 mk, .string L, .string M] 39)) li).cell? ⟨wr.heap.size, 2, none⟩ = some (.string M) :=
        (Below.cell (runes_fresh (wr.alloc (.cells #[.int .i32 mk, .string L, .string M] 39)) li) (p := ⟨wr.heap.size, 2, none⟩) (by simp)).trans (by rw [World.cell?_alloc_at _ _ _ _ rfl]; rfl)
      have hrc0 : (runesWorld (wr.alloc (.cells #[.int .i32 mk, .string L, .string M] 39)) li).cell? ⟨wr.heap.size, 0, none⟩ = some (.int .i32 mk) :=
        (Below.cell (runes_fresh (wr.alloc (.cells #[.int .i32 mk, .string L, .string M] 39)) li) (p := ⟨wr.heap.size, 0, none⟩) (by simp)).trans (by rw [World.cell?_alloc_at _ _ _ _ rfl]; rfl)
      have HF1 : Hid (Fresh wr (runesWorld (wr.alloc (.cells #[.int .i32 mk, .string L, .string M] 39)) li)) := ((Fresh.refl wr).alloc _).trans (runes_fresh _ _)
      have HC1 : Hid (∀ j, j < li.length → (runesWorld (wr.alloc (.cells #[.int .i32 mk, .string L, .string M] 39)) li).cell? ⟨wr.heap.size + 1, j, none⟩ = some (.int .i32 (li.getD j 0))) := fun j hj => by
        have := runes_cell (wr.alloc (.cells #[.int .i32 mk, .string L, .string M] 39)) li j hj
        simpa using this
      have HS1 : Hid (wr.heap.size + 1 < (runesWorld (wr.alloc (.cells #[.int .i32 mk, .string L, .string M] 39)) li).heap.size) := by
        unfold runesWorld; simp [Hid]
      have HH := Lib.hid hrc0
      clear hrc0
      go_wp2_with fail
      generalize (runesWorld (wr.alloc (.cells #[.int .i32 mk, .string L, .string M] 39)) li) = W1 at HF1 HC1 HS1 HH
      clear hrc hru hrl c0 c1 c2
      refine (index_any _ mi r _ (runes_sl W1 mi) (by omega)).mono ?_
      rintro e w2 ⟨i, rfl, hi, h2⟩
      have hf2 : Fresh wr w2 := (HF1.out.trans (runes_fresh W1 mi)).trans h2
      rcases hi with ⟨i0, i1, i2, i3⟩ | ⟨rfl, i3⟩
      · obtain ⟨n, rfl⟩ := Int.eq_ofNat_of_zero_le i0
        have I2 := Lib.hid i2
        have I3 := Lib.hid i3
        clear i2 i3
        have hnl : n < li.length := by have := Z2.out; omega
        have d0 : w2.cell? ⟨wr.heap.size, 0, none⟩ = some (.int .i32 mk) := (Below.cell ((runes_fresh W1 mi).trans h2) (p := ⟨wr.heap.size, 0, none⟩) (by have := HS1.out; simp only; omega)).trans HH.out
        have d1 : w2.cell? ⟨wr.heap.size + 1, n, none⟩ = some (.int .i32 (li.getD n 0)) := (Below.cell ((runes_fresh W1 mi).trans h2) (p := ⟨wr.heap.size + 1, n, none⟩) HS1.out).trans (HC1.out n hnl)
        generalize hq : li.getD n 0 = q at d1
        have HQ := Lib.hid hq
        clear hq
        have q8 : (0 : Int) ≤ (n : Int) := by omega
        have q9 : (n : Int) < (li.length : Int) := by omega
        go_wp2
        go_quiet (fail)
        go_wp2
        go_ret3
        exact ⟨OptP.yes (by rw [← HQ.out]; exact split_hit hlt HFI.out (by rw [HR.out]; exact hit_rowR (by have := Z2.out; omega) (by omega) (fun j hj => I3.out j (by omega)) (by have := I2.out; rwa [Int.toNat_natCast] at this))), ((h1.trans hf).trans hf2).drewN _⟩
      · have I3 := Lib.hid i3
        clear i3
        go_wp2
        exact ⟨⟨k + 1, by rw [Int.natCast_add]; rfl, by omega, by rw [uptoT_succ, List.find?_append, HFI.out, HR.out, miss_rowR I3.out]; rfl, hf.trans hf2⟩, by simp [intOf]; omega⟩
    · have hk13 : k = 13 := by omega
      subst hk13
      have HT := Lib.hid (show splitI r = hanS r by unfold splitI T; rw [HFI.out])
      by_cases a1 : 44032 ≤ r ∧ r < 55204
      · have e1 : hanS r = if 0 < (r - 44032) % 28 then some (r - (r - 44032) % 28, 4520 + (r - 44032) % 28 - 1) else some (4352 + (r - 44032) / 588, 4449 + (r - 44032) % 588 / 28) := by unfold hanS; rw [if_pos a1]
        have E1 := Lib.hid e1
        obtain ⟨a1, a2⟩ := a1
        clear e1
        by_cases a3 : 0 < (r - 44032) % 28
        · have E2 := Lib.hid (show splitI r = some (r - (r - 44032) % 28, 4520 + (r - 44032) % 28 - 1) by rw [HT.out, E1.out, if_pos a3])
          go_wp2
          go_ret3
          exact ⟨OptP.yes E2.out, h1.trans hf⟩
        · have E2 := Lib.hid (show splitI r = some (4352 + (r - 44032) / 588, 4449 + (r - 44032) % 588 / 28) by rw [HT.out, E1.out, if_neg a3])
          go_wp2
          go_ret3
          exact ⟨OptP.yes E2.out, h1.trans hf⟩
      · have E2 := Lib.hid (show splitI r = none by rw [HT.out]; unfold hanS; rw [if_neg a1])
        by_cases a2 : r < 44032
        · clear a1
          go_wp2
          go_ret3
          exact ⟨OptP.no E2.out, h1.trans hf⟩
        · have a3 : 55204 ≤ r := by omega
          clear a1
          go_wp2
          go_ret3
          exact ⟨OptP.no E2.out, h1.trans hf⟩
end Go.Proofs.Ytmfmnlioojkjgaa
