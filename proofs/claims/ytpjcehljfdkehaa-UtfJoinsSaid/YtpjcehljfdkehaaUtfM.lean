/- The reference's Join; what a slice argument is told as. -/
import Derived.Test.YtpjcehljfdkehaaUtfL
namespace Go.Proofs.Ytpjcehljfdkehaa
open Go.RowKit
set_option linter.unusedVariables false

def JoinRel2 (xs : List Int) (w : World) (out i : Value) (wr : World) : Prop :=
  ∃ k : Nat, i = .int .i64 k ∧ k ≤ xs.length ∧ out = .string (joinS (xs.take k)) ∧ Fresh w wr
set_option maxHeartbeats 800000 in
theorem refJoin_any (u : Value) (xs : List Int) (w : World) (hu : Sl w u xs) (hx : xs.length ≤ 1000000) :
    Calls Try.prog 19 #[u] w fun e w' => e = .returned (.string (joinS xs)) ∧ Fresh w w' := by
  obtain ⟨a, ca, rfl, hu⟩ := hu
  rcases hu with rfl | ⟨b1, o1, rfl, hb1, hc1⟩
  · go_enter Try.func19, Try.ntmps19
    go_wp2
    refine wp_loop_rounds 1 ?_
    rw [rounds_succ]
    go_wp2
    go_ret
    exact ⟨rfl, Fresh.refl _⟩
  have H1 := Lib.hid hc1
  clear hc1
  generalize hn : xs.length = n at hx H1
  have HN := Lib.hid hn
  clear hn
  go_enter Try.func19, Try.ntmps19
  go_wp2
  go_loopw [3, 4] (fun out i wr => JoinRel2 xs w out i wr) (fun _ i _ => n - (intOf i).toNat)
  case atStart => exact ⟨0, rfl, Nat.zero_le _, rfl, Fresh.refl _⟩
  case round =>
    obtain ⟨k, rfl, hk, rfl, hf⟩ := hrel
    have hk' : k ≤ n := by have := HN.out; omega
    by_cases hlt : k < n
    · have c1 : wr.cell? ⟨b1, o1 + k, none⟩ = some (.int .i32 (xs.getD k 0)) := (Below.cell hf (p := ⟨b1, o1 + k, none⟩) hb1).trans (H1.out k hlt)
      have ht := take_succ_getD xs k (by have := HN.out; omega)
      have HT := Lib.hid ht
      generalize hp : xs.getD k 0 = p at c1 HT
      clear hp ht
      have hsz := joinS_size (xs.take k)
      have hsl : (xs.take k).length ≤ k := List.length_take_le _ _
      have hps := encS_small p
      have HJ := Lib.hid (show joinS (xs.take (k + 1)) = joinS (xs.take k) ++ encS p by rw [HT.out, joinS_append, joinS_one])
      generalize joinS (xs.take k) = j at hsz HJ
      go_wp2_with fail
      refine (refIs_any _ _).mono ?_
      rintro e w1 ⟨rfl, rfl⟩
      cases hc : isC p with
      | true =>
        have HC := Lib.hid hc
        clear hc
        go_wp2_with fail
        have c2 : wr.cell? ⟨b1, o1 + k, none⟩ = some (.int .i32 p) := c1
        refine (refBytes_any _ HC.out _).mono ?_
        rintro e w2 ⟨rfl, h2⟩
        clear c1 c2
        go_wp2
        go_roundw
        case rel => exact ⟨k + 1, by rw [Int.natCast_add]; rfl, by have := HN.out; omega, by rw [HJ.out], hf.trans h2⟩
        case measure => simp [intOf]; omega
      | false =>
        have HE := Lib.hid (encS_none hc)
        clear hc c1
        go_wp2
        go_roundw
        case rel => exact ⟨k + 1, by rw [Int.natCast_add]; rfl, by have := HN.out; omega, by rw [HJ.out, HE.out, ByteArray.append_empty], hf⟩
        case measure => simp [intOf]; omega
    · have hkn : xs.take k = xs := List.take_of_length_le (by have := HN.out; omega)
      rw [hkn]
      clear hkn hk
      go_wp2
      go_ret
      exact ⟨rfl, hf⟩

/-- what a slice of whole numbers that came in is told as -/
def IsRow (k : IntKind) (w : World) (a : Option Addr) (len cap : Nat) (zs : List Int) : Prop :=
  (a = none ∧ len = 0 ∧ cap = 0 ∧ zs = []) ∨
  ∃ x, a = some x ∧ len ≤ cap ∧ cap ≤ maxLen ∧ zs.length = cap ∧ (∀ i, i < zs.length → w.cell? (x.add i) = some (.int k (zs.getD i 0))) ∧ ∀ n ∈ zs, (Lit.int k n).wf = true
theorem IsRow.sl {w : World} {a : Option Addr} {len cap : Nat} {zs : List Int} (h : IsRow .i32 w a len cap zs) : Sl w (.slice a len cap) (zs.take len) ∧ (zs.take len).length = len ∧ ∀ n ∈ zs.take len, -2147483648 ≤ n ∧ n < 2147483648 := by
  rcases h with ⟨rfl, rfl, rfl, rfl⟩ | ⟨x, rfl, hl, hm, hz, hcell, hwz⟩
  · exact ⟨⟨none, 0, rfl, .inl rfl⟩, rfl, fun n hn => by simp at hn⟩
  · have hlen : (zs.take len).length = len := by rw [List.length_take]; omega
    refine ⟨⟨some x, cap, by rw [hlen], ?_⟩, hlen, fun n hn => ?_⟩
    · by_cases h0 : len = 0
      · left; subst h0; simp
      · right
        obtain ⟨b, off, spot⟩ := x
        have hc := hcell 0 (by omega)
        have hspot : spot = none := by simpa [Addr.add] using World.cell?_spot hc
        subst hspot
        refine ⟨b, off, rfl, ?_, fun j hj => ?_⟩
        · rcases Nat.lt_or_ge b w.heap.size with q | q
          · exact q
          · simp [World.cell?, Addr.add, Array.getElem?_eq_none q] at hc
        · rw [hlen] at hj
          have := hcell j (by omega)
          rw [List.getD_eq_getElem?_getD, List.getElem?_take, if_pos hj, ← List.getD_eq_getElem?_getD, ← this]
          unfold Addr.add
          split
          · rename_i q; subst q; rfl
          · rfl
    · have := hwz n (List.mem_of_mem_take hn)
      simp [Lit.wf, IntKind.min, IntKind.max, IntKind.bits, IntKind.signed] at this
      omega
end Go.Proofs.Ytpjcehljfdkehaa
