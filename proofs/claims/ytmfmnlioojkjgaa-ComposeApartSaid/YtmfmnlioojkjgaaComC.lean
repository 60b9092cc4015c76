/- compose.Pair. -/
import Derived.Test.YtmfmnlioojkjgaaComB
namespace Go.Proofs.Ytmfmnlioojkjgaa
open Go.RowKit
set_option linter.unusedVariables false

def PairRel (a b : Int) (w : World) (i : Value) (wr : World) : Prop := ∃ k : Nat, i = .int .i64 k ∧ k ≤ 13 ∧ (uptoT k).find? (isAB a b) = none ∧ Fresh w wr
def InnerRel (li : List Int) (a : Int) (L : ByteArray) (W1 wr' : World) : Prop := ∃ i : Nat, i ≤ li.length ∧ wr' = W1.iter L i ∧ ∀ j : Nat, j < i → li.getD j 0 ≠ a
def PairPost (a b : Int) (w : World) (e : Ending) (w' : World) : Prop := OptI (pairI a b) e ∧ Fresh w w'
theorem hit_row {a b mk : Int} {li mi : List Int} (hmk : mk = b) (hl : li.length = mi.length) {i : Nat} (hi : i < li.length) (hno : ∀ j : Nat, j < i → li.getD j 0 ≠ a) (hp : li.getD i 0 = a) :
    ((li.zip mi).map fun x => (x.1, mk, x.2)).find? (isAB a b) = some (li.getD i 0, mk, mi.getD i 0) :=
  find_zip (p := (· == a)) (f := fun x => (x.1, mk, x.2)) li mi (isAB a b) (fun x => by simp [isAB, hmk]) i hi hl (fun j hj => by simpa using hno j hj) (by simpa using hp)
theorem miss_row {a b mk : Int} {li mi : List Int} (hmk : mk = b) (hno : ∀ j : Nat, j < li.length → li.getD j 0 ≠ a) :
    ((li.zip mi).map fun x => (x.1, mk, x.2)).find? (isAB a b) = none :=
  find_zip_none (p := (· == a)) (f := fun x => (x.1, mk, x.2)) li mi (isAB a b) (fun x => by simp [isAB, hmk]) (fun j hj => by simpa using hno j hj)
theorem T_split {k : Nat} (h : k < 13) {p : Int × Int × Int → Bool} {t : Int × Int × Int} (h1 : (uptoT k).find? p = none) (h2 : (rowT k).find? p = some t) : T.find? p = some t := by
  obtain ⟨r, hr⟩ := uptoT_prefix (show k + 1 ≤ 13 by omega)
  unfold T
  rw [hr, uptoT_succ, List.find?_append, List.find?_append, h1, h2]
  rfl
theorem pair_hit {k : Nat} (h : k < 13) {a b x m q q' : Int} (h1 : (uptoT k).find? (isAB a b) = none) (h2 : (rowT k).find? (isAB a b) = some (x, m, q')) (hq : q' = q) : pairI a b = some q := by
  unfold pairI
  rw [T_split h h1 h2, hq]
set_option maxHeartbeats 1600000 in
theorem pair_any (a b : Int) (w : World) (ha : -2147483648 ≤ a ∧ a < 2147483648) (hb : -2147483648 ≤ b ∧ b < 2147483648) :
    Calls Try.prog 10 #[.int .i32 a, .int .i32 b] w (PairPost a b w) := by
  go_enter Try.func10, Try.ntmps10
  go_wp2_with fail
  refine (lines_any _).mono ?_
  rintro e w1 ⟨rfl, h1, hblk⟩
  go_wp2
  go_loopw [13] (fun i wr => PairRel a b w1 i wr) (fun i _ => 13 - (intOf i).toNat)
  case atStart => exact ⟨0, rfl, by omega, rfl, Fresh.refl _⟩
  case round =>
    obtain ⟨k, rfl, hk, hfind, hf⟩ := hrel
    have HFI := Lib.hid hfind
    clear hfind
    by_cases hlt : k < 13
    · have hb2 := hblk.keep hf
      obtain ⟨t0, t1, t2⟩ := tab_cells hlt
      have c0 : wr.cell? ⟨w.heap.size, k * 3, none⟩ = some (.int .i32 (mkI k)) := by rw [hb2.cell]; simpa using t0
      have c1 : wr.cell? ⟨w.heap.size, k * 3 + 1, none⟩ = some (.string (lsS k)) := by rw [hb2.cell]; simpa using t1
      have c2 : wr.cell? ⟨w.heap.size, k * 3 + 2, none⟩ = some (.string (msS k)) := by rw [hb2.cell]; simpa using t2
      clear t0 t1 t2
      by_cases hm : mkI k = b
      · have hm2 : (mkI k != b) = false := by simp [hm]
        have HM := Lib.hid hm
        have hru := runes_run (ms_runes hlt) (by have := ls_size hlt; omega)
        clear hm
        obtain ⟨z1, z2, z3, z4⟩ := ls_size hlt
        have HD := Lib.hid (ls_dec hlt)
        have HR := Lib.hid (show rowT k = ((liI k).zip (miI k)).map fun x => (x.1, mkI k, x.2) from rfl)
        generalize hL : lsS k = L at c1 z1 HD
        generalize hM : msS k = M at c2 z4 hru
        generalize hmk : mkI k = mk at c0 hm2 HM HR
        generalize hli : liI k = li at z1 z2 z3 HD HR
        generalize hmi : miI k = mi at z2 HR hru
        have Z1 := Lib.hid z1
        have Z2 := Lib.hid z2
        clear hL hM hmk hli hmi z1 z2
        have hrc : (runesWorld (wr.alloc (.cells #[.int .i32 mk, .string L, .string M] 39)) mi).cell? ⟨wr.heap.size, 1, none⟩ = some (.string L) :=
          (Below.cell (runes_fresh (wr.alloc (.cells #[.int .i32 mk, .string L, .string M] 39)) mi) (p := ⟨wr.heap.size, 1, none⟩) (by simp)).trans (by rw [World.cell?_alloc_at _ _ _ _ rfl]; rfl)
        have HF1 : Hid (Fresh wr (runesWorld (wr.alloc (.cells #[.int .i32 mk, .string L, .string M] 39)) mi)) := ((Fresh.refl wr).alloc _).trans (runes_fresh _ _)
        have HC1 : Hid (∀ j, j < mi.length → (runesWorld (wr.alloc (.cells #[.int .i32 mk, .string L, .string M] 39)) mi).cell? ⟨wr.heap.size + 1, j, none⟩ = some (.int .i32 (mi.getD j 0))) := fun j hj => by
          have := runes_cell (wr.alloc (.cells #[.int .i32 mk, .string L, .string M] 39)) mi j hj
          simpa using this
        have HS1 : Hid (wr.heap.size + 1 < (runesWorld (wr.alloc (.cells #[.int .i32 mk, .string L, .string M] 39)) mi).heap.size) := by
          unfold runesWorld; simp [Hid]
        go_wp2
        generalize (runesWorld (wr.alloc (.cells #[.int .i32 mk, .string L, .string M] 39)) mi) = W1 at HF1 HC1 HS1
        clear hrc hru c0 c1 c2
        go_loopw [9] (fun _ wr' => InnerRel li a L W1 wr') (fun _ wr' => li.length - wr'.iterPos W1.heap.size)
        case atStart => exact ⟨0, Nat.zero_le _, rfl, fun j hj => absurd hj (Nat.not_lt_zero _)⟩
        case round =>
          obtain ⟨i, hi, rfl, he⟩ := hrel
          have HE := Lib.hid he
          clear he
          by_cases hil : i < li.length
          · have hd := HD.out i hil
            have hnx : ∀ ty, (Instr.next (.pointer (some ⟨W1.heap.size, 0, none⟩)) true ty).run Try.prog (W1.iter L i) = .ok (.tuple #[.bool true, .int .i64 i, .int .i32 (li.getD i 0)]) (W1.iter L (i + 1)) := fun ty => by
              have := run_next_any (P := Try.prog) W1 L i ty (by have := Z1.out; omega)
              rw [hd.1] at this
              simp only at this
              rw [Int.toNat_of_nonneg hd.2] at this
              exact this
            have hmc : (W1.iter L (i + 1)).cell? ⟨wr.heap.size + 1, i, none⟩ = some (.int .i32 (mi.getD i 0)) :=
              (World.cell?_alloc_lt W1 _ _ HS1.out).trans (HC1.out i (by have := Z2.out; omega))
            clear hd
            generalize hp : li.getD i 0 = p at hnx
            generalize hq : mi.getD i 0 = q at hmc
            have HP := Lib.hid hp
            have HQ := Lib.hid hq
            clear hp hq
            by_cases hpa : p = a
            · have hb : (p == a) = true := by simp [hpa]
              have HPA := Lib.hid hpa
              clear hpa
              have him : i < mi.length := by have := Z2.out; omega
              go_wp2
              go_ret2
              refine ⟨OptI.yes (pair_hit hlt HFI.out (by rw [HR.out]; exact hit_row HM.out (by have := Z2.out; omega) hil HE.out (by rw [HP.out, HPA.out])) HQ.out), (h1.trans hf).trans (HF1.out.alloc _)⟩
            · have hb : (p == a) = false := by simp [hpa]
              have HPA := Lib.hid hpa
              clear hpa
              go_wp2
              refine ⟨⟨i + 1, by omega, rfl, fun j hj => ?_⟩, by simp; omega⟩
              by_cases hji : j = i
              · rw [hji, HP.out]; exact HPA.out
              · exact HE.out j (by omega)
          · have hnx : ∀ ty, (Instr.next (.pointer (some ⟨W1.heap.size, 0, none⟩)) true ty).run Try.prog (W1.iter L i) = .ok (.tuple #[.bool false]) (W1.iter L i) := fun ty => run_next_end W1 L i ty (by have := Z1.out; omega)
            go_wp2
            exact ⟨⟨k + 1, by rw [Int.natCast_add]; rfl, by omega, by rw [uptoT_succ, List.find?_append, HFI.out, HR.out, miss_row HM.out (fun j hj => HE.out j (by omega))]; rfl, hf.trans (HF1.out.alloc _)⟩, by simp [intOf]; omega⟩
      · have hm2 : (mkI k != b) = true := by simp [hm]
        have HM := Lib.hid hm
        clear hm
        generalize lsS k = L at c1
        generalize msS k = M at c2
        generalize hmk : mkI k = mk at c0 hm2
        clear hmk
        go_wp2
        exact ⟨⟨k + 1, by rw [Int.natCast_add]; rfl, by omega, by rw [uptoT_succ, List.find?_append, HFI.out, find_row_none HM.out]; rfl, hf.alloc _⟩, by simp [intOf]; omega⟩
    · have hk13 : k = 13 := by omega
      subst hk13
      go_wp2_with fail
      refine (hangul_any _ _ _ ha hb).mono ?_
      rintro e w3 ⟨he, rfl⟩
      have HT := Lib.hid (show pairI a b = hanI a b by unfold pairI T; rw [HFI.out])
      unfold OptI at he
      subst he
      go_wp2
      go_ret2
      exact ⟨by rw [HT.out]; rfl, h1.trans hf⟩
end Go.Proofs.Ytmfmnlioojkjgaa
