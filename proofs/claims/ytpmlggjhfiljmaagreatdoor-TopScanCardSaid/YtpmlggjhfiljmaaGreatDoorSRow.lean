/- The law TopScan of the given program answers true at every input, and leaves its arguments as they were; no condition but the listed variables' data, which are tied to the program's text. -/
import Derived.Test.YtpmlggjhfiljmaaGreatDoorCards
import Derived.Test.YtpmlggjhfiljmaaGreatDoorTie
import Derived.WalkKit
import Derived.ProofKit
import Derived.OpenShut
import Derived.ShutString
import Derived.ChangeOld
import Derived.Below
import Derived.SizedLaws
import Derived.LaidMore
import Derived.Lay
import Derived.SevenTiedAt
import Derived.Stop.Joined
import Derived.Test.YtpmlggjhfiljmaaGreatDoorS40
import Derived.Test.YtpmlggjhfiljmaaGreatDoorSFa
namespace Go.Proofs.YtpmlggjhfiljmaaGreatDoor.topScan
open Go.ChangeShapes Go.WideShapes Go.ChangeAt Go.RowKit
open Go.ChangeMaps (open_string shut_string)
set_option linter.unusedVariables false
theorem own : ownKnob Tryz.prog.godebug = none := by kernel_rfl
theorem laidOut : laidOutB Tryz.prog = true := by kernel_rfl
set_option maxRecDepth 100000 in
theorem lifted (os : Os) (started : os.Started) (H : Type) (enc : TypeId × Value → H) :
    ReturnsInHanded {} Tryz.checked os 6 .any (fun w args => (Rows.topScanSpec.pre enc Tryz.prog Tryz.f6 Rows.topScanRow.domain false w args ∧ laidMetH Tryz.prog Rows.topScanRow.laid w) ∧ sizedMet enc Tryz.prog Tryz.f6 (OpenSpec.ofChange Rows.topScanSpec) false w args)
      (Rows.topScanSpec.post enc Tryz.prog Tryz.f6 false true false false) := by
  refine returnsInHanded_of_change_and (C := Tryz.checked) (X := fun w _ => laidMetH Tryz.prog Rows.topScanRow.laid w) (fun _ _ _ hh h => h.of_heap hh) own started (by kernel_rfl) Tryz.func6
    (ChangeSpec.witness_shaped (enc := enc) (C := Tryz.checked) (os := os) (X := fun w _ => laidMetH Tryz.prog Rows.topScanRow.laid w) false (World.laidAll Tryz.prog os Rows.topScanRow.laid) #[.int .u8 0, .slice none 0 0, .slice none 0 0] 8 (World.laidAll_os _ _ _)
      (World.shaped_of_ZipB (by kernel_rfl) (by kernel_rfl)) (by kernel_rfl) (by kernel_rfl) (by kernel_rfl)
      (by rw [MakeChecks.laidMetH_plain _ _ _ (by kernel_rfl)]; exact laidMet_laidAll _ (by kernel_rfl) (by kernel_rfl))) ?_
  intro W base args ds gs before hval0 hW hcnd hsz0 hL _
  have hsz : (DataW.weightsEach Tryz.prog (Tryz.f6.params.toList ++ Rows.topScanSpec.plain.varTypes Tryz.prog) (ds ++ gs)).all (· ≤ reachBytes) = true := hsz0
  have hval : ∀ (j : Nat) t v, Tryz.f6.params[j]? = some t → args[j]? = some v → Value.okWide Tryz.prog W .any base t v := hval0
  have hW' := hW
  obtain ⟨p, q, hA0, hV, rfl, hfz, hnd⟩ := hW
  have hA : DataW.TrodAll enc Tryz.prog W 0 (fun _ => true) true Tryz.f6.params.toList args.toList ds p := hA0
  rw [Tryz.params6] at hA hval hsz
  obtain ⟨v0, vs0, d0, ds0, p0, q0, hargs, rfl, rfl, h0, r0⟩ := trodAll_cons hA
  obtain ⟨v1, vs1, d1, ds1, p1, q1, rfl, rfl, rfl, h1, r1⟩ := trodAll_cons r0
  obtain ⟨v2, vs2, d2, ds2, p2, q2, rfl, rfl, rfl, h2, r2⟩ := trodAll_cons r1
  obtain ⟨rfl, rfl, rfl⟩ := trodAll_nil r2
  obtain rfl : args = #[v0, v1, v2] := by cases args; simp_all
  obtain ⟨rfl, rfl⟩ := trodVars_none hV
  obtain ⟨a0, rfl, rfl, rfl, w0⟩ := open_int Tryz.underlying5 (hval 0 5 v0 rfl rfl) h0
  obtain ⟨a1, len1, cap1, rfl⟩ := okWide_slice Tryz.underlying75 (hval 1 75 v1 rfl rfl)
  have k1 := h1
  have lt1 : ∀ x ∈ p1, x.block < W.heap.size := by obtain ⟨m, hm⟩ := k1; exact DataW.trod_lt m _ _ _ hm
  obtain ⟨z1, w1, u1, x1⟩ : ∃ zs : List Cal, SlC W (.slice a1 len1 cap1) zs ∧ zs.length = len1 ∧ ∀ x ∈ zs, 0 ≤ x.kind := by
    obtain ⟨fuel, hf⟩ := h1
    rcases Go.Deep.open_slice Tryz.underlying75 hf with ⟨hcs, _⟩ | ⟨x, l, c, m, n, D, Pl, hcs, _, hl, hm, hz, _, hcell⟩
    · simp [Value.cells] at hcs
      obtain ⟨rfl, rfl, rfl⟩ := hcs
      exact slc_nil W
    · simp [Value.cells] at hcs
      obtain ⟨rfl, rfl, rfl⟩ := hcs
      refine slc_of (m := m) hl (by simp at hz; omega) (fun i hi => ?_)
      obtain ⟨cs', g1, g2⟩ := hcell i hi
      rw [call_cells] at g1
      exact call_of g1 g2
  obtain ⟨a2, len2, cap2, rfl⟩ := okWide_slice Tryz.underlying75 (hval 2 75 v2 rfl rfl)
  have k2 := h2
  have lt2 : ∀ x ∈ p2, x.block < W.heap.size := by obtain ⟨m, hm⟩ := k2; exact DataW.trod_lt m _ _ _ hm
  obtain ⟨z2, w2, u2, x2⟩ : ∃ zs : List Cal, SlC W (.slice a2 len2 cap2) zs ∧ zs.length = len2 ∧ ∀ x ∈ zs, 0 ≤ x.kind := by
    obtain ⟨fuel, hf⟩ := h2
    rcases Go.Deep.open_slice Tryz.underlying75 hf with ⟨hcs, _⟩ | ⟨x, l, c, m, n, D, Pl, hcs, _, hl, hm, hz, _, hcell⟩
    · simp [Value.cells] at hcs
      obtain ⟨rfl, rfl, rfl⟩ := hcs
      exact slc_nil W
    · simp [Value.cells] at hcs
      obtain ⟨rfl, rfl, rfl⟩ := hcs
      refine slc_of (m := m) hl (by simp at hz; omega) (fun i hi => ?_)
      obtain ⟨cs', g1, g2⟩ := hcell i hi
      rw [call_cells] at g1
      exact call_of g1 g2
  have hGT : GT W := by
    rw [MakeChecks.laidMetH_plain _ _ _ (by kernel_rfl)] at hL
    exact gt_of_reads (Lib.laidMet.reads hL (.tail _ (.head _)))
  clear hA0 hval0 hsz0 hsz
  have b0 := wfU8' w0
  refine (scan_in a0 _ _ z1 z2 W hGT b0.1 b0.2 w1 w2 x1 x2).mono fun e W' ⟨he, bel⟩ => ?_
  subst he
  exact ⟨_, rfl, _, _, _, [], _, [], hW', trodAll_mk1 (shut_bool Tryz.underlying4 _), (trodAll_cons_mk (shut_int Tryz.underlying5 w0) (trodAll_cons_mk (Below.trod laidOut (by kernel_rfl) (of_decide_eq_true (by kernel_rfl)) k1 bel lt1) (trodAll_cons_mk (Below.trod laidOut (by kernel_rfl) (of_decide_eq_true (by kernel_rfl)) k2 bel lt2) trodAll_mk0))), rfl, bel.frame _, fun h => by cases h⟩
theorem over : Rows.topScanRow.holds Tryz.pinned (OpenSpec.ofChange Rows.topScanSpec) :=
  OpenClaim.holds_of_wide 6 Tryz.f6 rfl rfl rfl rfl rfl rfl rfl ⟨rfl, rfl, rfl, rfl, rfl⟩ rfl rfl rfl rfl rfl named Tryz.func6 closed inst wrap
    (fun os started H enc _ => lifted os started H enc)
theorem card : Claim7.holds Tryz.pinned (.plain (OpenSpec.ofChange Rows.topScanSpec)) Rows.topScanCard :=
  Claim7.holds_tied_plain_at .later [] [.data, .data, .data, .data, .pinned] true (true, "857ee87cd4def8f02e935a89a8b6bc7bbb18f73b966267fb87000182588f5bb7") true over (fun _ h => by cases h) wft (fun _ h => by cases h) topScan_row_tie rfl ⟨rfl, rfl⟩ main rfl
    (fun f fn hf hfn => by
      obtain rfl : f = 6 := Option.some.inj (named.symm.trans hf) |>.symm
      obtain rfl : fn = Tryz.f6 := (Option.some.inj (Tryz.func6.symm.trans hfn)).symm
      exact ⟨look, fun j t ht => by
        rw [Tryz.params6] at ht
        have hm : t ∈ [5, 75, 75] := by simpa using Array.mem_of_getElem? ht
        exact (show Tryz.prog.wantsStandIn t = false by simpa using List.all_eq_true.1 stand t hm)⟩)
    goes
end Go.Proofs.YtpmlggjhfiljmaaGreatDoor.topScan
namespace Go.Proofs.YtpmlggjhfiljmaaGreatDoor
/-- The law answers true at every input; what the row lists of package-level variables is tied to the program's text. -/
theorem topScan_holds : Rows.TopScanCardSaid := topScan.card
#print axioms topScan_holds
end Go.Proofs.YtpmlggjhfiljmaaGreatDoor
