/- Part 5 of what the law rests on. -/
import Derived.Deep.RegionHeld3
import Derived.BigRegion
import Derived.Test.YtpmlggjhfiljmaaGreatDoorL04
set_option linter.all false
namespace Go.Proofs.YtpmlggjhfiljmaaGreatDoor
open Go.RowKit
def IxPost (xs : List Int) (r : Int) (w : World) (e : Ending) (w' : World) : Prop := ∃ k, e = .returned (.int .i64 k) ∧ FirstAt xs r k ∧ Fresh w w'
def IxRel (xs : List Int) (r : Int) (w : World) (i : Value) (wr : World) : Prop := ∃ k : Nat, i = .int .i64 k ∧ k ≤ xs.length ∧ (∀ j : Nat, j < k → xs.getD j 0 ≠ r) ∧ Fresh w wr
set_option maxHeartbeats 800000 in
theorem index_any (u : Value) (xs : List Int) (r : Int) (w : World) (hu : Sl w u xs) (hx : xs.length ≤ 1000000) :
    Calls Tryz.prog 256 #[u, .int .i32 r] w (IxPost xs r w) := by
  obtain ⟨a, ca, rfl, hu⟩ := hu
  rcases hu with rfl | ⟨b1, o1, rfl, hb1, hc1⟩
  · go_enter Tryz.func256, Tryz.ntmps256
    go_wp2
    refine wp_loop_rounds 1 ?_
    rw [rounds_succ]
    go_wp2
    go_ret
    exact ⟨-1, rfl, .inr ⟨rfl, fun j hj => absurd hj (Nat.not_lt_zero _)⟩, Fresh.refl _⟩
  have H1 := Lib.hid hc1
  clear hc1
  generalize hn : xs.length = n at hx H1
  have HN := Lib.hid hn
  clear hn
  go_enter Tryz.func256, Tryz.ntmps256
  go_wp2
  go_loopw [8] (fun i wr => IxRel xs r w i wr) (fun i _ => n - (intOf i).toNat)
  case atStart => exact ⟨0, rfl, Nat.zero_le _, fun j hj => absurd hj (Nat.not_lt_zero _), Fresh.refl _⟩
  case round =>
    obtain ⟨k, rfl, hk, he, hf⟩ := hrel
    have HE := Lib.hid he
    clear he
    have hk' : k ≤ n := by have := HN.out; omega
    clear hk
    by_cases hlt : k < n
    · have c1 : wr.cell? ⟨b1, o1 + k, none⟩ = some (.int .i32 (xs.getD k 0)) := (Below.cell hf (p := ⟨b1, o1 + k, none⟩) hb1).trans (H1.out k hlt)
      generalize hp : xs.getD k 0 = p at c1
      have HP := Lib.hid hp
      clear hp
      by_cases hpq : r = p
      · have HPQ := Lib.hid hpq
        have hb : (r == p) = true := by simp [hpq]
        clear hpq
        go_wp2
        go_ret
        exact ⟨k, rfl, .inl ⟨by omega, by have := HN.out; omega, by rw [Int.toNat_natCast, HP.out, HPQ.out], fun j hj => HE.out j (by omega)⟩, hf⟩
      · have HPQ := Lib.hid hpq
        have hb : (r == p) = false := by simp [hpq]
        clear hpq
        go_wp2
        refine ⟨⟨k + 1, by rw [Int.natCast_add]; rfl, by have := HN.out; omega, fun j hj => ?_, hf⟩, by simp [intOf]; omega⟩
        by_cases hjk : j = k
        · rw [hjk, HP.out]; exact fun h => HPQ.out h.symm
        · exact HE.out j (by omega)
    · have hkn : k = n := by omega
      go_wp2
      go_ret
      exact ⟨-1, rfl, .inr ⟨rfl, fun j hj => HE.out j (by have := HN.out; omega)⟩, hf⟩
def runesWorld (w : World) (rs : List Int) : World :=
  w.drew.alloc (.cells ((rs.map (Value.int .i32)).toArray ++ Array.replicate (grownCap w rs.length 0 21 - rs.length) (.int .i32 0)) 21)
theorem runes_run {s : ByteArray} {rs : List Int} (h : Conv.runesFrom s s.size 0 #[] = (rs.map (Value.int .i32)).toArray) (hl : rs.length ≤ 1000000) (w : World) :
    (convert 9 50 (.string s)).run Tryz.prog w = .ok (.slice (some ⟨w.heap.size, 0, none⟩) rs.length (grownCap w rs.length 0 21)) (runesWorld w rs) := by
  have hz : (Conv.runesFrom s s.size 0 #[]).size = rs.length := by rw [h]; simp
  have := run_runes_of_string (P := Tryz.prog) w 9 50 21 s Tryz.underlying9 Tryz.underlying50 Tryz.underlying21 (by rw [hz]; omega)
  rw [hz, h] at this
  exact this
theorem runes_fresh (w : World) (rs : List Int) : Fresh w (runesWorld w rs) := (Fresh.refl w).drew.alloc _
theorem runes_cell (w : World) (rs : List Int) (j : Nat) (hj : j < rs.length) : (runesWorld w rs).cell? ⟨w.heap.size, j, none⟩ = some (.int .i32 (rs.getD j 0)) := by
  unfold runesWorld
  have hs : w.drew.heap.size = w.heap.size := rfl
  rw [World.cell?_alloc_at _ _ _ _ hs.symm, Array.getElem?_append_left (by simpa using hj)]
  simp [List.getD_eq_getElem?_getD, hj]
theorem runes_sl (w : World) (rs : List Int) : Sl (runesWorld w rs) (.slice (some ⟨w.heap.size, 0, none⟩) rs.length (grownCap w rs.length 0 21)) rs := by
  refine ⟨_, _, rfl, .inr ⟨w.heap.size, 0, rfl, ?_, fun j hj => ?_⟩⟩
  · unfold runesWorld; simp
  · rw [show 0 + j = j from by omega]; exact runes_cell w rs j hj
open Go.RowKit
def PairRel (a b : Int) (w : World) (i : Value) (wr : World) : Prop := ∃ k : Nat, i = .int .i64 k ∧ k ≤ 13 ∧ (uptoT k).find? (isAB a b) = none ∧ Fresh w wr
def InnerRel (li : List Int) (a : Int) (L : ByteArray) (W1 wr' : World) : Prop := ∃ i : Nat, i ≤ li.length ∧ wr' = W1.iter L i ∧ ∀ j : Nat, j < i → li.getD j 0 ≠ a
def PairPost (a b : Int) (w : World) (e : Ending) (w' : World) : Prop := OptI (pairI a b) e ∧ Fresh w w'
theorem hit_row {a b mk : Int} {li mi : List Int} (hmk : mk = b) (hl : li.length = mi.length) {i : Nat} (hi : i < li.length) (hno : ∀ j : Nat, j < i → li.getD j 0 ≠ a) (hp : li.getD i 0 = a) :
    ((li.zip mi).map fun x => (x.1, mk, x.2)).find? (isAB a b) = some (li.getD i 0, mk, mi.getD i 0) :=
  find_zip (p := (· == a)) (f := fun x => (x.1, mk, x.2)) li mi (isAB a b) (fun x => by simp [isAB, hmk]) i hi hl (fun j hj => by simpa using hno j hj) (by simpa using hp)
theorem miss_row {a b mk : Int} {li mi : List Int} (hmk : mk = b) (hno : ∀ j : Nat, j < li.length → li.getD j 0 ≠ a) :
    ((li.zip mi).map fun x => (x.1, mk, x.2)).find? (isAB a b) = none :=
  find_zip_none (p := (· == a)) (f := fun x => (x.1, mk, x.2)) li mi (isAB a b) (fun x => by simp [isAB, hmk]) (fun j hj => by simpa using hno j hj)
theorem T_split {k : Nat} (h : k < 13) {p : Int × Int × Int → Bool} {t : Int × Int × Int} (h1 : (uptoT k).find? p = none) (h2 : (rowT k).find? p = some t) : T.find? p = some t := by
  obtain ⟨r, hr⟩ := uptoT_prefix (show k + 1 ≤ 13 by omega)
  unfold T
  rw [hr, uptoT_succ, List.find?_append, List.find?_append, h1, h2]
  rfl
theorem pair_hit {k : Nat} (h : k < 13) {a b x m q q' : Int} (h1 : (uptoT k).find? (isAB a b) = none) (h2 : (rowT k).find? (isAB a b) = some (x, m, q')) (hq : q' = q) : pairI a b = some q := by
  unfold pairI
  rw [T_split h h1 h2, hq]
set_option maxHeartbeats 1600000 in
theorem pair_any (a b : Int) (w : World) (ha : -2147483648 ≤ a ∧ a < 2147483648) (hb : -2147483648 ≤ b ∧ b < 2147483648) :
    Calls Tryz.prog 60 #[.int .i32 a, .int .i32 b] w (PairPost a b w) := by
  go_enter Tryz.func60, Tryz.ntmps60
  go_wp2_with fail
  refine (lines_any _).mono ?_
  rintro e w1 ⟨rfl, h1, hblk⟩
  go_wp2
  go_loopw [13] (fun i wr => PairRel a b w1 i wr) (fun i _ => 13 - (intOf i).toNat)
  case atStart => exact ⟨0, rfl, by omega, rfl, Fresh.refl _⟩
  case round =>
    obtain ⟨k, rfl, hk, hfind, hf⟩ := hrel
    have HFI := Lib.hid hfind
    clear hfind
    by_cases hlt : k < 13
    · have hb2 := hblk.keep hf
      obtain ⟨t0, t1, t2⟩ := tab_cells hlt
      have c0 : wr.cell? ⟨w.heap.size, k * 3, none⟩ = some (.int .i32 (mkI k)) := by rw [hb2.cell]; simpa using t0
      have c1 : wr.cell? ⟨w.heap.size, k * 3 + 1, none⟩ = some (.string (lsS k)) := by rw [hb2.cell]; simpa using t1
      have c2 : wr.cell? ⟨w.heap.size, k * 3 + 2, none⟩ = some (.string (msS k)) := by rw [hb2.cell]; simpa using t2
      clear t0 t1 t2
      by_cases hm : mkI k = b
      · have hm2 : (mkI k != b) = false := by simp [hm]
        have HM := Lib.hid hm
        have hru := runes_run (ms_runes hlt) (by have := ls_size hlt; omega)
        clear hm
        obtain ⟨z1, z2, z3, z4⟩ := ls_size hlt
        have HD := Lib.hid (ls_dec hlt)
        have HR := Lib.hid (show rowT k = ((liI k).zip (miI k)).map fun x => (x.1, mkI k, x.2) from rfl)
        generalize hL : lsS k = L at c1 z1 HD
        generalize hM : msS k = M at c2 z4 hru
        generalize hmk : mkI k = mk at c0 hm2 HM HR
        generalize hli : liI k = li at z1 z2 z3 HD HR
        generalize hmi : miI k = mi at z2 HR hru
        have Z1 := Lib.hid z1
        have Z2 := Lib.hid z2
        clear hL hM hmk hli hmi z1 z2
        have hrc : (runesWorld (wr.alloc (.cells #[.int .i32 mk, .string L, .string M] 187)) mi).cell? ⟨wr.heap.size, 1, none⟩ = some (.string L) :=
          (Below.cell (runes_fresh (wr.alloc (.cells #[.int .i32 mk, .string L, .string M] 187)) mi) (p := ⟨wr.heap.size, 1, none⟩) (by simp)).trans (by rw [World.cell?_alloc_at _ _ _ _ rfl]; rfl)
        have HF1 : Hid (Fresh wr (runesWorld (wr.alloc (.cells #[.int .i32 mk, .string L, .string M] 187)) mi)) := ((Fresh.refl wr).alloc _).trans (runes_fresh _ _)
        have HC1 : Hid (∀ j, j < mi.length → (runesWorld (wr.alloc (.cells #[.int .i32 mk, .string L, .string M] 187)) mi).cell? ⟨wr.heap.size + 1, j, none⟩ = some (.int .i32 (mi.getD j 0))) := fun j hj => by
          have := runes_cell (wr.alloc (.cells #[.int .i32 mk, .string L, .string M] 187)) mi j hj
          simpa using this
        have HS1 : Hid (wr.heap.size + 1 < (runesWorld (wr.alloc (.cells #[.int .i32 mk, .string L, .string M] 187)) mi).heap.size) := by
          unfold runesWorld; simp [Hid]
        go_wp2
        generalize (runesWorld (wr.alloc (.cells #[.int .i32 mk, .string L, .string M] 187)) mi) = W1 at HF1 HC1 HS1
        clear hrc hru c0 c1 c2
        go_loopw [9] (fun _ wr' => InnerRel li a L W1 wr') (fun _ wr' => li.length - wr'.iterPos W1.heap.size)
        case atStart => exact ⟨0, Nat.zero_le _, rfl, fun j hj => absurd hj (Nat.not_lt_zero _)⟩
        case round =>
          obtain ⟨i, hi, rfl, he⟩ := hrel
          have HE := Lib.hid he
          clear he
          by_cases hil : i < li.length
          · have hd := HD.out i hil
            have hnx : ∀ ty, (Instr.next (.pointer (some ⟨W1.heap.size, 0, none⟩)) true ty).run Tryz.prog (W1.iter L i) = .ok (.tuple #[.bool true, .int .i64 i, .int .i32 (li.getD i 0)]) (W1.iter L (i + 1)) := fun ty => by
              have := run_next_any (P := Tryz.prog) W1 L i ty (by have := Z1.out; omega)
              rw [hd.1] at this
              simp only at this
              rw [Int.toNat_of_nonneg hd.2] at this
              exact this
            have hmc : (W1.iter L (i + 1)).cell? ⟨wr.heap.size + 1, i, none⟩ = some (.int .i32 (mi.getD i 0)) :=
              (World.cell?_alloc_lt W1 _ _ HS1.out).trans (HC1.out i (by have := Z2.out; omega))
            clear hd
            generalize hp : li.getD i 0 = p at hnx
            generalize hq : mi.getD i 0 = q at hmc
            have HP := Lib.hid hp
            have HQ := Lib.hid hq
            clear hp hq
            by_cases hpa : p = a
            · have hb : (p == a) = true := by simp [hpa]
              have HPA := Lib.hid hpa
              clear hpa
              have him : i < mi.length := by have := Z2.out; omega
              go_wp2
              go_ret2
              refine ⟨OptI.yes (pair_hit hlt HFI.out (by rw [HR.out]; exact hit_row HM.out (by have := Z2.out; omega) hil HE.out (by rw [HP.out, HPA.out])) HQ.out), (h1.trans hf).trans (HF1.out.alloc _)⟩
            · have hb : (p == a) = false := by simp [hpa]
              have HPA := Lib.hid hpa
              clear hpa
              go_wp2
              refine ⟨⟨i + 1, by omega, rfl, fun j hj => ?_⟩, by simp; omega⟩
              by_cases hji : j = i
              · rw [hji, HP.out]; exact HPA.out
              · exact HE.out j (by omega)
          · have hnx : ∀ ty, (Instr.next (.pointer (some ⟨W1.heap.size, 0, none⟩)) true ty).run Tryz.prog (W1.iter L i) = .ok (.tuple #[.bool false]) (W1.iter L i) := fun ty => run_next_end W1 L i ty (by have := Z1.out; omega)
            go_wp2
            exact ⟨⟨k + 1, by rw [Int.natCast_add]; rfl, by omega, by rw [uptoT_succ, List.find?_append, HFI.out, HR.out, miss_row HM.out (fun j hj => HE.out j (by omega))]; rfl, hf.trans (HF1.out.alloc _)⟩, by simp [intOf]; omega⟩
      · have hm2 : (mkI k != b) = true := by simp [hm]
        have HM := Lib.hid hm
        clear hm
        generalize lsS k = L at c1
        generalize msS k = M at c2
        generalize hmk : mkI k = mk at c0 hm2
        clear hmk
        go_wp2
        exact ⟨⟨k + 1, by rw [Int.natCast_add]; rfl, by omega, by rw [uptoT_succ, List.find?_append, HFI.out, find_row_none HM.out]; rfl, hf.alloc _⟩, by simp [intOf]; omega⟩
    · have hk13 : k = 13 := by omega
      subst hk13
      go_wp2_with fail
      refine (hangul_any _ _ _ ha hb).mono ?_
      rintro e w3 ⟨he, rfl⟩
      have HT := Lib.hid (show pairI a b = hanI a b by unfold pairI T; rw [HFI.out])
      unfold OptI at he
      subst he
      go_wp2
      go_ret2
      exact ⟨by rw [HT.out]; rfl, h1.trans hf⟩
open Go.RowKit
def OptP (o : Option (Int × Int)) (e : Ending) : Prop := e = .returned (.tuple #[.int .i32 (o.getD (0, 0)).1, .int .i32 (o.getD (0, 0)).2, .bool o.isSome])
theorem OptP.yes {o : Option (Int × Int)} {n m : Int} (h : o = some (n, m)) : OptP o (.returned (.tuple #[.int .i32 n, .int .i32 m, .bool true])) := by rw [h]; rfl
theorem OptP.no {o : Option (Int × Int)} (h : o = none) : OptP o (.returned (.tuple #[.int .i32 0, .int .i32 0, .bool false])) := by rw [h]; rfl
def SplitRel (r : Int) (w : World) (i : Value) (wr : World) : Prop := ∃ k : Nat, i = .int .i64 k ∧ k ≤ 13 ∧ (uptoT k).find? (isR r) = none ∧ Fresh w wr
def SplitPost (r : Int) (w : World) (e : Ending) (w' : World) : Prop := OptP (splitI r) e ∧ Fresh w w'
theorem zip_swap (l m : List Int) (f : Int × Int → Int × Int × Int) : (l.zip m).map f = (m.zip l).map (fun x => f (x.2, x.1)) := by
  induction l generalizing m with
  | nil => cases m <;> rfl
  | cons a l ih => cases m with
    | nil => rfl
    | cons b m => simp only [List.zip_cons_cons, List.map_cons, ih]
theorem hit_rowR {r mk : Int} {li mi : List Int} (hl : mi.length = li.length) {i : Nat} (hi : i < mi.length) (hno : ∀ j : Nat, j < i → mi.getD j 0 ≠ r) (hp : mi.getD i 0 = r) :
    ((li.zip mi).map fun x => (x.1, mk, x.2)).find? (isR r) = some (li.getD i 0, mk, mi.getD i 0) := by
  rw [zip_swap]
  exact find_zip (p := (· == r)) (f := fun x => (x.2, mk, x.1)) mi li (isR r) (fun x => by simp [isR]) i hi hl (fun j hj => by simpa using hno j hj) (by simpa using hp)
theorem miss_rowR {r mk : Int} {li mi : List Int} (hno : ∀ j : Nat, j < mi.length → mi.getD j 0 ≠ r) :
    ((li.zip mi).map fun x => (x.1, mk, x.2)).find? (isR r) = none := by
  rw [zip_swap]
  exact find_zip_none (p := (· == r)) (f := fun x => (x.2, mk, x.1)) mi li (isR r) (fun x => by simp [isR]) (fun j hj => by simpa using hno j hj)
theorem split_hit {k : Nat} (h : k < 13) {r x m q : Int} (h1 : (uptoT k).find? (isR r) = none) (h2 : (rowT k).find? (isR r) = some (x, m, q)) : splitI r = some (x, m) := by
  unfold splitI
  rw [T_split h h1 h2]
set_option maxHeartbeats 1600000 in
theorem split_any (r : Int) (w : World) (hr : -2147483648 ≤ r ∧ r < 2147483648) :
    Calls Tryz.prog 171 #[.int .i32 r] w (SplitPost r w) := by
  obtain ⟨r1, r2⟩ := hr
  go_enter Tryz.func171, Tryz.ntmps171
  go_wp2_with fail
  refine (lines_any _).mono ?_
  rintro e w1 ⟨rfl, h1, hblk⟩
  go_wp2
  go_loopw [13] (fun i wr => SplitRel r w1 i wr) (fun i _ => 13 - (intOf i).toNat)
  case atStart => exact ⟨0, rfl, by omega, rfl, Fresh.refl _⟩
  case round =>
    obtain ⟨k, rfl, hk, hfind, hf⟩ := hrel
    have HFI := Lib.hid hfind
    clear hfind
    by_cases hlt : k < 13
    · have hb2 := hblk.keep hf
      obtain ⟨t0, t1, t2⟩ := tab_cells hlt
      have c0 : wr.cell? ⟨w.heap.size, k * 3, none⟩ = some (.int .i32 (mkI k)) := by rw [hb2.cell]; simpa using t0
      have c1 : wr.cell? ⟨w.heap.size, k * 3 + 1, none⟩ = some (.string (lsS k)) := by rw [hb2.cell]; simpa using t1
      have c2 : wr.cell? ⟨w.heap.size, k * 3 + 2, none⟩ = some (.string (msS k)) := by rw [hb2.cell]; simpa using t2
      clear t0 t1 t2
      have hru := runes_run (ms_runes hlt) (by have := ls_size hlt; omega)
      have hrl := runes_run (ls_runes hlt) (by have := ls_size hlt; omega)
      obtain ⟨z1, z2, z3, z4⟩ := ls_size hlt
      have HR := Lib.hid (show rowT k = ((liI k).zip (miI k)).map fun x => (x.1, mkI k, x.2) from rfl)
      generalize hL : lsS k = L at c1 z1 hrl
      generalize hM : msS k = M at c2 z4 hru
      generalize hmk : mkI k = mk at c0 HR
      generalize hli : liI k = li at z1 z2 z3 HR hrl
      generalize hmi : miI k = mi at z2 HR hru
      have Z2 := Lib.hid z2
      have hmi3 : mi.length ≤ 24 := by omega
      clear hL hM hmk hli hmi z1 z2
      have hrc : (runesWorld (wr.alloc (.cells #[.int .i32 mk, .string L, .string M] 187)) li).cell? ⟨wr.heap.size, 2, none⟩ = some (.string M) :=
        (Below.cell (runes_fresh (wr.alloc (.cells #[.int .i32 mk, .string L, .string M] 187)) li) (p := ⟨wr.heap.size, 2, none⟩) (by simp)).trans (by rw [World.cell?_alloc_at _ _ _ _ rfl]; rfl)
      have hrc0 : (runesWorld (wr.alloc (.cells #[.int .i32 mk, .string L, .string M] 187)) li).cell? ⟨wr.heap.size, 0, none⟩ = some (.int .i32 mk) :=
        (Below.cell (runes_fresh (wr.alloc (.cells #[.int .i32 mk, .string L, .string M] 187)) li) (p := ⟨wr.heap.size, 0, none⟩) (by simp)).trans (by rw [World.cell?_alloc_at _ _ _ _ rfl]; rfl)
      have HF1 : Hid (Fresh wr (runesWorld (wr.alloc (.cells #[.int .i32 mk, .string L, .string M] 187)) li)) := ((Fresh.refl wr).alloc _).trans (runes_fresh _ _)
      have HC1 : Hid (∀ j, j < li.length → (runesWorld (wr.alloc (.cells #[.int .i32 mk, .string L, .string M] 187)) li).cell? ⟨wr.heap.size + 1, j, none⟩ = some (.int .i32 (li.getD j 0))) := fun j hj => by
        have := runes_cell (wr.alloc (.cells #[.int .i32 mk, .string L, .string M] 187)) li j hj
        simpa using this
      have HS1 : Hid (wr.heap.size + 1 < (runesWorld (wr.alloc (.cells #[.int .i32 mk, .string L, .string M] 187)) li).heap.size) := by
        unfold runesWorld; simp [Hid]
      have HH := Lib.hid hrc0
      clear hrc0
      go_wp2_with fail
      generalize (runesWorld (wr.alloc (.cells #[.int .i32 mk, .string L, .string M] 187)) li) = W1 at HF1 HC1 HS1 HH
      clear hrc hru hrl c0 c1 c2
      refine (index_any _ mi r _ (runes_sl W1 mi) (by omega)).mono ?_
      rintro e w2 ⟨i, rfl, hi, h2⟩
      have hf2 : Fresh wr w2 := (HF1.out.trans (runes_fresh W1 mi)).trans h2
      rcases hi with ⟨i0, i1, i2, i3⟩ | ⟨rfl, i3⟩
      · obtain ⟨n, rfl⟩ := Int.eq_ofNat_of_zero_le i0
        have I2 := Lib.hid i2
        have I3 := Lib.hid i3
        clear i2 i3
        have hnl : n < li.length := by have := Z2.out; omega
        have d0 : w2.cell? ⟨wr.heap.size, 0, none⟩ = some (.int .i32 mk) := (Below.cell ((runes_fresh W1 mi).trans h2) (p := ⟨wr.heap.size, 0, none⟩) (by have := HS1.out; simp only; omega)).trans HH.out
        have d1 : w2.cell? ⟨wr.heap.size + 1, n, none⟩ = some (.int .i32 (li.getD n 0)) := (Below.cell ((runes_fresh W1 mi).trans h2) (p := ⟨wr.heap.size + 1, n, none⟩) HS1.out).trans (HC1.out n hnl)
        generalize hq : li.getD n 0 = q at d1
        have HQ := Lib.hid hq
        clear hq
        have q8 : (0 : Int) ≤ (n : Int) := by omega
        have q9 : (n : Int) < (li.length : Int) := by omega
        go_wp2
        go_quiet (fail)
        go_wp2
        go_ret3
        exact ⟨OptP.yes (by rw [← HQ.out]; exact split_hit hlt HFI.out (by rw [HR.out]; exact hit_rowR (by have := Z2.out; omega) (by omega) (fun j hj => I3.out j (by omega)) (by have := I2.out; rwa [Int.toNat_natCast] at this))), ((h1.trans hf).trans hf2).drewN _⟩
      · have I3 := Lib.hid i3
        clear i3
        go_wp2
        exact ⟨⟨k + 1, by rw [Int.natCast_add]; rfl, by omega, by rw [uptoT_succ, List.find?_append, HFI.out, HR.out, miss_rowR I3.out]; rfl, hf.trans hf2⟩, by simp [intOf]; omega⟩
    · have hk13 : k = 13 := by omega
      subst hk13
      have HT := Lib.hid (show splitI r = hanS r by unfold splitI T; rw [HFI.out])
      by_cases a1 : 44032 ≤ r ∧ r < 55204
      · have e1 : hanS r = if 0 < (r - 44032) % 28 then some (r - (r - 44032) % 28, 4520 + (r - 44032) % 28 - 1) else some (4352 + (r - 44032) / 588, 4449 + (r - 44032) % 588 / 28) := by unfold hanS; rw [if_pos a1]
        have E1 := Lib.hid e1
        obtain ⟨a1, a2⟩ := a1
        clear e1
        by_cases a3 : 0 < (r - 44032) % 28
        · have E2 := Lib.hid (show splitI r = some (r - (r - 44032) % 28, 4520 + (r - 44032) % 28 - 1) by rw [HT.out, E1.out, if_pos a3])
          go_wp2
          go_ret3
          exact ⟨OptP.yes E2.out, h1.trans hf⟩
        · have E2 := Lib.hid (show splitI r = some (4352 + (r - 44032) / 588, 4449 + (r - 44032) % 588 / 28) by rw [HT.out, E1.out, if_neg a3])
          go_wp2
          go_ret3
          exact ⟨OptP.yes E2.out, h1.trans hf⟩
      · have E2 := Lib.hid (show splitI r = none by rw [HT.out]; unfold hanS; rw [if_neg a1])
        by_cases a2 : r < 44032
        · clear a1
          go_wp2
          go_ret3
          exact ⟨OptP.no E2.out, h1.trans hf⟩
        · have a3 : 55204 ≤ r := by omega
          clear a1
          go_wp2
          go_ret3
          exact ⟨OptP.no E2.out, h1.trans hf⟩
open Go.RowKit
theorem pairI_pos {a b q : Int} (h : pairI a b = some q) : 0 < q ∧ q < 55204 := by
  unfold pairI at h
  cases ht : T.find? (isAB a b) with
  | some t =>
    rw [ht] at h
    have := T_of (List.mem_of_find?_eq_some ht)
    simp at h
    omega
  | none =>
    rw [ht] at h
    unfold hanI at h
    simp only at h
    split at h
    · simp at h; omega
    split at h
    · simp at h; omega
    · cases h
theorem find_ab {a b : Int} {t : Int × Int × Int} (h : T.find? (isAB a b) = some t) : t.1 = a ∧ t.2.1 = b := by
  have := List.find?_some h
  simpa [isAB] using this
theorem find_r {r : Int} {t : Int × Int × Int} (h : T.find? (isR r) = some t) : t.2.2 = r := by
  have := List.find?_some h
  simpa [isR] using this
theorem no_r {r : Int} (h : 4352 ≤ r) : T.find? (isR r) = none := by
  cases ht : T.find? (isR r) with
  | none => rfl
  | some t =>
    have := T_of (List.mem_of_find?_eq_some ht)
    have := find_r ht
    omega
theorem split_pair {a b x : Int} (h : pairI a b = some x) : splitI x = some (a, b) := by
  unfold pairI at h
  cases ht : T.find? (isAB a b) with
  | some t =>
    rw [ht] at h
    have ht2 := T_of (List.mem_of_find?_eq_some ht)
    have hab := find_ab ht
    simp only [Option.some.injEq] at h
    unfold splitI
    rw [← h, ht2.1]
    simp only [hab]
  | none =>
    rw [ht] at h
    simp only at h
    unfold hanI at h
    split at h
    · rename_i g
      simp only [Option.some.injEq] at h
      unfold splitI
      rw [no_r (by omega)]
      simp only
      unfold hanS
      rw [if_pos (by omega), if_neg (by omega)]
      simp only [Option.some.injEq, Prod.mk.injEq]
      omega
    split at h
    · rename_i g
      simp only [Option.some.injEq] at h
      unfold splitI
      rw [no_r (by omega)]
      simp only
      unfold hanS
      rw [if_pos (by omega), if_pos (by omega)]
      simp only [Option.some.injEq, Prod.mk.injEq]
      omega
    · cases h
open Go.RowKit
structure Arr (w0 : World) (g off n : Nat) (ys : List Int) (w : World) : Prop where
  len : ys.length = n
  grown : w0.grownBy w (some g)
  mem : ∃ cs0 cs, Blk w0 g 21 cs0 ∧ Blk w g 21 cs ∧ cs.size = cs0.size ∧ off + n ≤ cs.size ∧ (∀ i, (i < off ∨ off + n ≤ i) → cs[i]? = cs0[i]?) ∧ ∀ j, j < n → cs[off + j]? = some (.int .i32 (ys.getD j 0))
theorem Arr.cell {w0 w : World} {g off n : Nat} {ys : List Int} (h : Arr w0 g off n ys w) {j : Nat} (hj : j < n) : w.cell? ⟨g, off + j, none⟩ = some (.int .i32 (ys.getD j 0)) := by
  obtain ⟨cs0, cs, _, h2, _, _, _, h6⟩ := h.mem
  rw [h2.cell]; exact h6 j hj
theorem Arr.frozen {w0 w : World} {g off n : Nat} {ys : List Int} (h : Arr w0 g off n ys w) (i : Nat) : w.frozen? ⟨g, i, none⟩ = false := by
  obtain ⟨cs0, cs, _, h2, _⟩ := h.mem
  unfold Blk at h2; simp [World.frozen?, h2]
theorem Arr.lt {w0 w : World} {g off n : Nat} {ys : List Int} (h : Arr w0 g off n ys w) : g < w.heap.size := by
  obtain ⟨cs0, cs, _, h2, _⟩ := h.mem
  exact h2.lt
theorem Blk.set {W : World} {g i : Nat} {t : TypeId} {cs : Array Value} {u : Value} (h : Blk W g t cs) : Blk (W.setCell ⟨g, i, none⟩ u) g t (cs.setIfInBounds i u) := by
  unfold Blk at h ⊢
  simp [World.setCell, Array.getElem?_modify, h]
theorem Arr.set {w0 w : World} {g off n : Nat} {ys : List Int} (h : Arr w0 g off n ys w) {j : Nat} (hj : j < n) (v : Int) : Arr w0 g off n (ys.set j v) (w.setCell ⟨g, off + j, none⟩ (.int .i32 v)) := by
  obtain ⟨cs0, cs, h1, h2, h3, h4, h5, h6⟩ := h.mem
  refine ⟨by rw [List.length_set]; exact h.len, ⟨h.grown.os, h.grown.tape, h.grown.output, by simpa [World.setCell] using h.grown.size, fun k hk hne => ?_⟩, cs0, _, h1, h2.set, by simpa using h3, by simpa using h4, fun i hi => ?_, fun i hi => ?_⟩
  · have hkg : k ≠ g := fun e => hne (by rw [e])
    exact (Below.heap_setCell w ⟨g, off + j, none⟩ _ k hkg).trans (h.grown.block k hk hne)
  · rw [Array.getElem?_setIfInBounds_ne (by omega)]; exact h5 i hi
  · by_cases e : i = j
    · subst e
      rw [Array.getElem?_setIfInBounds_self_of_lt (by omega)]
      have := h.len
      simp [List.getD_eq_getElem?_getD, List.getElem?_set, show i < ys.length by omega]
    · rw [Array.getElem?_setIfInBounds_ne (by omega), h6 i hi]
      simp [List.getD_eq_getElem?_getD, List.getElem?_set, Ne.symm e]
theorem Arr.drew {w0 w : World} {g off n : Nat} {ys : List Int} (h : Arr w0 g off n ys w) : Arr w0 g off n ys w.drew := ⟨h.len, ⟨h.grown.os, h.grown.tape, h.grown.output, h.grown.size, h.grown.block⟩, h.mem⟩
theorem Arr.drewN {w0 w : World} {g off n : Nat} {ys : List Int} (h : Arr w0 g off n ys w) (m : Nat) : Arr w0 g off n ys (w.drewN m) := ⟨h.len, ⟨h.grown.os, h.grown.tape, h.grown.output, h.grown.size, h.grown.block⟩, h.mem⟩
theorem Arr.swap {w0 w : World} {g off n : Nat} {P Q S : List Int} {x y : Int} (h : Arr w0 g off n (P ++ x :: Q ++ y :: S) w) {i j : Nat} (hi : i = P.length) (hj : j = P.length + 1 + Q.length) :
    Arr w0 g off n (P ++ y :: Q ++ x :: S) ((w.setCell ⟨g, off + i, none⟩ (.int .i32 y)).setCell ⟨g, off + j, none⟩ (.int .i32 x)) := by
  subst hi hj
  have hl := h.len
  simp at hl
  have := (h.set (j := P.length) (by omega) y).set (j := P.length + 1 + Q.length) (by omega) x
  have e : ((P ++ x :: Q ++ y :: S).set P.length y).set (P.length + 1 + Q.length) x = P ++ y :: Q ++ x :: S := by
    rw [show P.length + 1 + Q.length = (P ++ y :: Q).length by simp; omega]
    have e1 : (P ++ x :: Q ++ y :: S).set P.length y = P ++ y :: Q ++ y :: S := by
      rw [List.append_assoc, List.set_append_right _ _ (Nat.le_refl _)]; simp
    rw [e1, List.set_append_right _ _ (Nat.le_refl _)]; simp
  rwa [e] at this
theorem Arr.swap' {w0 w : World} {g off n : Nat} {P Q S : List Int} {x y : Int} (h : Arr w0 g off n (P ++ x :: Q ++ y :: S) w) {i j : Nat} (hi : i = P.length) (hj : j = P.length + 1 + Q.length) :
    Arr w0 g off n (P ++ y :: Q ++ x :: S) ((w.setCell ⟨g, off + j, none⟩ (.int .i32 x)).setCell ⟨g, off + i, none⟩ (.int .i32 y)) := by
  subst hi hj
  have hl := h.len
  simp at hl
  have := (h.set (j := P.length + 1 + Q.length) (by omega) x).set (j := P.length) (by omega) y
  have e : ((P ++ x :: Q ++ y :: S).set (P.length + 1 + Q.length) x).set P.length y = P ++ y :: Q ++ x :: S := by
    have e1 : (P ++ x :: Q ++ y :: S).set (P.length + 1 + Q.length) x = P ++ x :: Q ++ x :: S := by
      rw [show P.length + 1 + Q.length = (P ++ x :: Q).length by simp; omega, List.set_append_right _ _ (Nat.le_refl _)]; simp
    rw [e1, List.append_assoc, List.set_append_right _ _ (Nat.le_refl _)]; simp
  rwa [e] at this
/-! ### stable orders -/
def Srt (xs : List Int) : Prop := xs.Pairwise fun a b => clsI a ≤ clsI b
def SP (xs ys : List Int) : Prop := ∀ c : Int, xs.filter (fun x => clsI x == c) = ys.filter (fun x => clsI x == c)
theorem SP.refl (xs : List Int) : SP xs xs := fun _ => rfl
theorem SP.symm {xs ys : List Int} (h : SP xs ys) : SP ys xs := fun c => (h c).symm
theorem SP.trans {xs ys zs : List Int} (h : SP xs ys) (k : SP ys zs) : SP xs zs := fun c => (h c).trans (k c)
theorem SP.append {a b c d : List Int} (h : SP a b) (k : SP c d) : SP (a ++ c) (b ++ d) := fun x => by rw [List.filter_append, List.filter_append, h x, k x]
theorem SP.flip {a b : List Int} (h : ∀ x ∈ a, ∀ y ∈ b, clsI x ≠ clsI y) : SP (a ++ b) (b ++ a) := fun c => by
  rw [List.filter_append, List.filter_append]
  by_cases ha : a.filter (fun x => clsI x == c) = []
  · rw [ha]; simp
  · obtain ⟨x, hx⟩ := List.exists_mem_of_ne_nil _ ha
    rw [List.mem_filter] at hx
    have hb : b.filter (fun x => clsI x == c) = [] := by
      rw [List.filter_eq_nil_iff]
      intro y hy e
      have h1 : clsI x = c := by simpa using hx.2
      have h2 : clsI y = c := by simpa using e
      exact h x hx.1 y hy (h1.trans h2.symm)
    rw [hb]; simp
theorem SP.mem {xs ys : List Int} (h : SP xs ys) {x : Int} (hx : x ∈ xs) : x ∈ ys := by
  have : x ∈ xs.filter (fun y => clsI y == clsI x) := by rw [List.mem_filter]; exact ⟨hx, by simp⟩
  rw [h (clsI x), List.mem_filter] at this
  exact this.1
theorem cls_three (r : Int) : clsI r = 0 ∨ clsI r = 202 ∨ clsI r = 230 := by
  unfold clsI
  split
  · right; right; rfl
  · split
    · right; left; rfl
    · left; rfl
theorem SP.length {xs ys : List Int} (h : SP xs ys) : xs.length = ys.length := by
  have key : ∀ l : List Int, l.length = (l.filter (fun x => clsI x == 0)).length + (l.filter (fun x => clsI x == 202)).length + (l.filter (fun x => clsI x == 230)).length := by
    intro l
    induction l with
    | nil => rfl
    | cons x l ih =>
      have hc := cls_three x
      rcases hc with e | e | e <;> simp [List.filter_cons, e, ih] <;> omega
  rw [key xs, key ys, h 0, h 202, h 230]
theorem srt_unique : ∀ {xs ys : List Int}, Srt xs → Srt ys → SP xs ys → xs = ys
  | [], ys, _, _, h => by
    have := h.length
    exact (List.eq_nil_of_length_eq_zero this.symm).symm
  | x :: xs, [], _, _, h => by have := h.length; simp at this
  | x :: xs, y :: ys, h1, h2, h => by
    have hx := List.pairwise_cons.1 h1
    have hy := List.pairwise_cons.1 h2
    have m1 : x ∈ y :: ys := h.mem (by simp)
    have m2 : y ∈ x :: xs := h.symm.mem (by simp)
    have c1 : clsI y ≤ clsI x := by
      rcases List.mem_cons.1 m1 with e | e
      · rw [e]; exact Int.le_refl _
      · exact hy.1 x e
    have c2 : clsI x ≤ clsI y := by
      rcases List.mem_cons.1 m2 with e | e
      · rw [e]; exact Int.le_refl _
      · exact hx.1 y e
    have ce : clsI x = clsI y := by omega
    have e := h (clsI x)
    rw [List.filter_cons, List.filter_cons, if_pos (by simp), if_pos (by simp [ce])] at e
    injection e with e1 e2
    subst e1
    congr 1
    refine srt_unique hx.2 hy.2 fun c => ?_
    have := h c
    rw [List.filter_cons, List.filter_cons] at this
    by_cases hc : (clsI x == c) = true
    · rw [if_pos hc, if_pos hc] at this; injection this
    · rw [if_neg hc, if_neg hc] at this; exact this
theorem Srt.append {a b : List Int} (ha : Srt a) (hb : Srt b) (h : ∀ x ∈ a, ∀ y ∈ b, clsI x ≤ clsI y) : Srt (a ++ b) := List.pairwise_append.2 ⟨ha, hb, h⟩
theorem Srt.left {a b : List Int} (h : Srt (a ++ b)) : Srt a := (List.pairwise_append.1 h).1
theorem Srt.right {a b : List Int} (h : Srt (a ++ b)) : Srt b := (List.pairwise_append.1 h).2.1
theorem Srt.cross {a b : List Int} (h : Srt (a ++ b)) : ∀ x ∈ a, ∀ y ∈ b, clsI x ≤ clsI y := (List.pairwise_append.1 h).2.2
theorem cls_range (r : Int) : 0 ≤ clsI r ∧ clsI r ≤ 230 := by unfold clsI; repeat' split <;> omega
set_option maxHeartbeats 400000 in
theorem cmp_any (a b : Int) (w : World) : Calls Tryz.prog 173 #[.int .i32 a, .int .i32 b] w fun e w' => e = .returned (.int .i64 (clsI a - clsI b)) ∧ w = w' := by
  have ha := cls_range a
  have hb := cls_range b
  have HA := Lib.hid (class_any a)
  have HB := Lib.hid (class_any b)
  generalize clsI a = x at HA ha
  generalize clsI b = y at HB hb
  go_enter Tryz.func173, Tryz.ntmps173
  go_wp2_with fail
  refine (HA.out _).mono ?_
  rintro e w1 ⟨rfl, rfl⟩
  go_wp2_with fail
  refine (HB.out _).mono ?_
  rintro e w1 ⟨rfl, rfl⟩
  go_wp2
  go_ret
  exact ⟨rfl, rfl⟩
end Go.Proofs.YtpmlggjhfiljmaaGreatDoor
