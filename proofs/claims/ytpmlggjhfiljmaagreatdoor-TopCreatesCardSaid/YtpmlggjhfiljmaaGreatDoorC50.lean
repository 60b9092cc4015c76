/- Contracts that the law rests on, part 50 of 50 (TopB, TopC, Sized). Each states its own conditions. -/
import Derived.SizedLaws
import Derived.ChangeSlices
import Derived.Test.YtpmlggjhfiljmaaGreatDoorC18
import Derived.Test.YtpmlggjhfiljmaaGreatDoorC19
import Derived.Test.YtpmlggjhfiljmaaGreatDoorC48
import Derived.Test.YtpmlggjhfiljmaaGreatDoorC49
/- TopBack: the walk. -/
namespace Go.Proofs.YtpmlggjhfiljmaaGreatDoor
open Go.RowKit
set_option linter.unusedVariables false
set_option linter.unnecessarySimpa false
set_option linter.unusedSimpArgs false
theorem wfU8 {r : Int} (h : (Lit.int .u8 r).wf = true) : 0 ≤ r ∧ r < 256 := by
  simp [Lit.wf, IntKind.min, IntKind.max, IntKind.signed, IntKind.bits] at h
  omega
end Go.Proofs.YtpmlggjhfiljmaaGreatDoor
/- TopCreates: the walk. -/
namespace Go.Proofs.YtpmlggjhfiljmaaGreatDoor
open Go.RowKit
set_option linter.unusedVariables false
set_option linter.unnecessarySimpa false
set_option linter.unusedSimpArgs false
theorem encL_append (enc : Int) : ∀ (a b : List Int), encL enc (a ++ b) = encL enc a ++ encL enc b
  | [], b => by show _ = ByteArray.empty ++ _; simp
  | r :: a, b => by
    show encB enc r ++ encL enc (a ++ b) = encB enc r ++ encL enc a ++ encL enc b
    rw [encL_append enc a b, ByteArray.append_assoc]
theorem strC_enc {enc r : Int} {x : List Int} (h : encC enc r = some x) : strC (encC enc r) = encB enc r := by unfold encB; rw [h]; rfl
def CreRel (enc : Int) (xs : List Int) (w : World) (raw i : Value) (wr : World) : Prop :=
  ∃ k : Nat, i = .int .i64 k ∧ k ≤ xs.length ∧ raw = .string (encL enc (xs.take k)) ∧ (∀ j : Nat, j < k → (encC enc (xs.getD j 0)).isSome = true ∧ resB (xs.getD j 0) = false) ∧ Fresh w wr
set_option maxRecDepth 100000 in
set_option maxHeartbeats 6400000 in
theorem creates_in (a : Int) (u : Value) (xs : List Int) (w : World) (ha : 0 ≤ a ∧ a < 256) (hu : Sl w u xs) (h32 : In32 xs) (hl : xs.length ≤ 30) (hl1 : 1 ≤ xs.length) :
    Calls Tryz.prog 5 #[.int .u8 a, u] w fun e w' => e = .returned (.bool true) ∧ Below w.heap.size w w' := by
  have hk : 0 ≤ a % 9 ∧ a % 9 ≤ 8 := by omega
  have hu0 := hu
  obtain ⟨ad, ca, rfl, hu⟩ := hu
  rcases hu with hnil | ⟨b1, o1, rfl, hb1, hc1⟩
  · rw [hnil] at hl1; simp at hl1
  have HC := Lib.hid hc1
  have HU := Lib.hid hu0
  have H32 := Lib.hid h32
  obtain ⟨n, hn⟩ : ∃ n, xs.length = n := ⟨_, rfl⟩
  have HN := Lib.hid hn
  rw [hn] at hl hl1 HU ⊢
  clear hc1 hu0 hn h32
  have HENC := Lib.hid (fun r (hr : -2147483648 ≤ r ∧ r < 2147483648) W => rEnc_str (a % 9) r hk.1 hk.2 hr W)
  unfold BytesStr at HENC
  obtain ⟨enc, he⟩ : ∃ enc, a % 9 = enc := ⟨_, rfl⟩
  rw [he] at HENC hk
  have i1 : ¬ (30 : Int) < (n : Int) := by omega
  have i2 : ¬ (n : Int) = 0 := by omega
  have i3 : ((n : Int) == 0) = false := by simpa using i2
  have i4 : (n == 0) = false := by simp; omega
  go_enter Tryz.func5, Tryz.ntmps5
  go_wp2_with fail
  refine (awake_any _).mono ?_
  rintro e w1 ⟨rfl, h1⟩
  have H1 := Lib.hid h1
  clear h1
  go_wp2
  go_loopw [6, 7] (fun raw i wr => CreRel enc xs w raw i wr) (fun _ i _ => n - (intOf i).toNat)
  case atStart => exact ⟨0, rfl, by omega, rfl, fun j hj => by omega, H1.out⟩
  case round =>
    obtain ⟨k, rfl, hkk, rfl, hal, hf⟩ := hrel
    have HAL := Lib.hid hal
    have hkn : k ≤ n := by have := HN.out; omega
    clear hal hkk
    by_cases hlt : k < n
    · have c1 : wr.cell? ⟨b1, o1 + k, none⟩ = some (.int .i32 (xs.getD k 0)) := (Below.cell hf (p := ⟨b1, o1 + k, none⟩) hb1).trans (HC.out k (by have := HN.out; omega))
      have HT := Lib.hid (take_succ_getD xs k (by have := HN.out; omega))
      have hr32 : -2147483648 ≤ xs.getD k 0 ∧ xs.getD k 0 < 2147483648 := H32.out _ (by
        rw [List.getD_eq_getElem?_getD, List.getElem?_eq_getElem (by have := HN.out; omega)]
        exact List.getElem_mem _)
      obtain ⟨r, hr⟩ : ∃ r, xs.getD k 0 = r := ⟨_, rfl⟩
      have HRR := Lib.hid hr
      rw [hr] at c1 HT hr32
      clear hr
      go_wp2_with fail
      refine (HENC.out r hr32 _).mono ?_
      rintro e w2 ⟨rfl, h2⟩
      have H2 := Lib.hid (hf.trans h2)
      have c2 : w2.cell? ⟨b1, o1 + k, none⟩ = some (.int .i32 r) := (Below.cell h2 (p := ⟨b1, o1 + k, none⟩) (Nat.lt_of_lt_of_le hb1 hf.size)).trans c1
      clear h2 c1
      cases hx : encC enc r with
      | none =>
        go_wp2
        go_ret
        exact ⟨rfl, H2.out.below⟩
      | some x =>
        have HB : Hid (strC (some x) = encB enc r) := Lib.hid (by rw [← hx]; exact strC_enc hx)
        have HX : Hid ((encC enc r).isSome = true) := Lib.hid (by rw [hx]; rfl)
        clear hx
        rw [HB.out]
        go_wp2_with fail
        refine (refRes_any r _).mono ?_
        rintro e w3 ⟨rfl, h3⟩
        have H3 := Lib.hid (H2.out.trans h3)
        clear h3 c2
        cases hrs : resB r with
        | true =>
          clear hrs
          go_wp2
          go_ret
          exact ⟨rfl, H3.out.below⟩
        | false =>
          have HRS := Lib.hid hrs
          have hz1 : (encL enc (xs.take k)).size ≤ 120 := by have := encL_size enc (xs.take k); have := List.length_take_le k xs; omega
          have hz2 : (encB enc r).size ≤ 4 := encB_size enc r
          clear hrs
          go_wp2
          go_roundw
          case rel =>
            refine ⟨k + 1, by go_num, by have := HN.out; omega, ?_, fun j hj => ?_, H3.out⟩
            · rw [HT.out, encL_append]
              have : encL enc [r] = encB enc r := by show encB enc r ++ ByteArray.empty = _; simp
              rw [this]
            · by_cases ej : j = k
              · subst ej; rw [HRR.out]; exact ⟨HX.out, HRS.out⟩
              · exact HAL.out j (by omega)
          case measure => simp [intOf]; omega
    · obtain rfl : k = n := by omega
      have htk : xs.take k = xs := List.take_of_length_le (by have := HN.out; omega)
      rw [htk]
      have HEO : Hid (EncOK enc xs ∧ ∀ r ∈ xs, resB r = false) := Lib.hid (by
        have hm : ∀ r ∈ xs, ∃ j, j < k ∧ xs.getD j 0 = r := fun r hr => by
          obtain ⟨j, hj, e⟩ := List.mem_iff_getElem.1 hr
          exact ⟨j, by have := HN.out; omega, by rw [List.getD_eq_getElem?_getD, List.getElem?_eq_getElem hj]; exact e⟩
        exact ⟨fun r hr => by obtain ⟨j, hj, e⟩ := hm r hr; rw [← e]; exact (HAL.out j hj).1, fun r hr => by obtain ⟨j, hj, e⟩ := hm r hr; rw [← e]; exact (HAL.out j hj).2⟩)
      obtain ⟨q, rfl⟩ : ∃ q, k = q + 1 := ⟨k - 1, by omega⟩
      have j4 : (q : Int) ≤ 10000 := by omega
      have j5 : (0 : Int) ≤ (q : Int) := by omega
      have cq : wr.cell? ⟨b1, o1 + q, none⟩ = some (.int .i32 (xs.getD q 0)) := (Below.cell hf (p := ⟨b1, o1 + q, none⟩) hb1).trans (HC.out q (by have := HN.out; omega))
      have HLZ : Hid (∀ z, xs.getLast? = some z → z = xs.getD q 0) := Lib.hid (fun z hz => by
        have hn := HN.out
        rw [List.getLast?_eq_getElem?, hn, Nat.add_sub_cancel] at hz
        rw [List.getD_eq_getElem?_getD, hz]; rfl)
      obtain ⟨z, hz⟩ : ∃ z, xs.getD q 0 = z := ⟨_, rfl⟩
      rw [hz] at cq HLZ
      clear hz htk hlt hkn
      obtain ⟨R, hR⟩ : ∃ R, encL enc xs = R := ⟨_, rfl⟩
      have HR := Lib.hid hR
      rw [hR]
      clear hR
      by_cases h46 : z = 46
      · subst h46
        go_wp2
        go_ret
        exact ⟨rfl, hf.below⟩
      by_cases h32 : z = 32
      · subst h32
        go_wp2
        go_ret
        exact ⟨rfl, hf.below⟩
      have b46 : (z == 46) = false := by simpa using h46
      have b32 : (z == 32) = false := by simpa using h32
      have HLA : Hid (∀ z, xs.getLast? = some z → z ≠ 46 ∧ z ≠ 32) := Lib.hid (fun y hy => by rw [HLZ.out y hy]; exact ⟨h46, h32⟩)
      have HFR := Lib.hid hf
      clear h46 h32
      by_cases e8 : enc = 8
      · have b8 : (enc == 8) = true := by simp [e8]
        have H8 := Lib.hid e8
        clear e8
        go_wp2_with fail
        refine (cstable_any (.slice (some ⟨b1, o1, none⟩) (q + 1) ca) xs wr (HU.out.keep HFR.out) (by have := HN.out; omega) H32.out).mono ?_
        rintro e w2 ⟨rfl, h2⟩
        have HF2 := Lib.hid (HFR.out.trans h2)
        clear h2 cq
        by_cases hst : apt xs = xs
        · rw [decide_eq_true hst]
          have HST := Lib.hid hst
          clear hst
          have c0 : w2.cell? ⟨b1, o1, none⟩ = some (.int .i32 (xs.getD 0 0)) := (Below.cell HF2.out (p := ⟨b1, o1, none⟩) hb1).trans (HC.out 0 (by have := HN.out; omega))
          have HHZ : Hid (∀ z, xs.head? = some z → z = xs.getD 0 0) := Lib.hid (fun z hz => by
            rw [List.head?_eq_getElem?] at hz
            rw [List.getD_eq_getElem?_getD, hz]; rfl)
          obtain ⟨y, hy⟩ : ∃ y, xs.getD 0 0 = y := ⟨_, rfl⟩
          rw [hy] at c0 HHZ
          clear hy
          have k0 : 0 < q + 1 := by omega
          go_wp2_with fail
          refine (class_any y _).mono ?_
          rintro e w3 ⟨rfl, rfl⟩
          by_cases hcl : 0 < clsI y
          · clear c0
            go_wp2
            go_ret
            exact ⟨rfl, HF2.out.below⟩
          · have HCL : Hid (clsI y = 0) := Lib.hid (by have := (cls_range y).1; omega)
            go_wp2_with fail
            refine (good_any R _).mono ?_
            rintro e w3 ⟨b, rfl, hb, h3⟩
            have HF3 := Lib.hid (HF2.out.trans h3)
            clear h3 c0
            by_cases hg : GoodN R
            · obtain rfl : b = true := hb.2 hg
              have HCRE : Hid (CreOK enc xs) := Lib.hid ⟨by intro e; have := HN.out; rw [e] at this; simp at this, by have := HN.out; omega, HEO.out.1, HEO.out.2, HLA.out, fun _ => HST.out, fun _ z hz => by rw [HHZ.out z hz]; exact HCL.out, by rw [HR.out]; exact hg⟩
              clear hb hg
              have hcn := cre_name hk.1 hk.2 HCRE.out
              have hgd := HCRE.out.good
              have HOP := Lib.hid (fun F p W (hd : DevAt W F p 60 (fun _ => zer 64) 0) (hF : FB F W) => opened_any F enc p 60 W 30 hd hF rfl (by omega) (by omega) hk.1 hk.2)
              have HMK := Lib.hid (fun F f p T qt W (hfs : FsAt W F f enc p (30 : Nat) 60 0 2 5 T qt) (hT : IsT0 T) (hq : qt ≤ 10) => fmake_t0 enc F f p (30 : Nat) 60 5 T qt W hfs hT hq _ _ hcn.2.1 hcn.2.2 hgd false hk.1 hk.2 (by omega) (by omega) (by omega) (by omega))
              have HRW := Lib.hid (fun F f p k t q T qt W (hT : IsT0 T) (hfs : FsAt W F f enc p (30 : Nat) 60 k t q (t1 T (encL enc xs)) qt) => hfs.raw (t1_tok hT hk.1 hk.2 hgd.2.1) (slashS ++ joinS (wantL enc xs)) (by rw [slash_size]; have := hcn.2.1.2.1; omega))
              have HLI := Lib.hid (fun F f p k t q T qt W (hT : IsT0 T) (hfs : FsAt W F f enc p (30 : Nat) 60 k t q (t1 T (encL enc xs)) qt) => hfs.list (t1_tok hT hk.1 hk.2 hgd.2.1) (t1_rises hT) slashS (by decide) 0 9)
              have HT1 := Lib.hid (fun (T : TreS) (hT : IsT0 T) => And.intro (t1_at hT hcn.2.1 hcn.1) (t1_list hT hcn.1))
              have hPN := hcn.2.1
              obtain ⟨S, hS⟩ : ∃ S, joinS (wantL enc xs) = S := ⟨_, rfl⟩
              rw [hS] at HMK HRW HT1 hPN
              rw [HR.out] at HMK HRW HLI HT1
              unfold slashS at HMK HRW HLI HT1
              have hSz : S.size ≤ 1000 := hPN.2.1
              have HJS := Lib.hid hS
              clear hcn hgd hS hPN
              have hj : joinS (tog xs) = S := by rw [← HJS.out]; unfold wantL; rw [if_pos H8.out]
              have HJJ := Lib.hid hj
              clear hj
              go_wp2_with fail
              refine (refJoin_any (.slice (some ⟨b1, o1, none⟩) (q + 1) ca) xs w3 (HU.out.keep HF3.out) (by have := HN.out; omega)).mono ?_
              rintro e w4 ⟨rfl, h4⟩
              have HF4 := Lib.hid (HF3.out.trans h4)
              clear h4 HF3
              go_wp2_with fail
              refine (ctog_any (.slice (some ⟨b1, o1, none⟩) (q + 1) ca) xs w4 (HU.out.keep HF4.out) (by have := HN.out; omega) H32.out).mono ?_
              rintro e w5 ⟨v5, rfl, hv5, h5⟩
              have HF5 := Lib.hid (And.intro hv5.sl (HF4.out.trans h5))
              clear h5 HF4 hv5
              have HJ := Lib.hid (refJoin_any v5 (tog xs) w5 HF5.out.1 (by have := tog_len2 xs; have := HN.out; omega))
              rw [HJJ.out] at HJ
              go_wp2_with fail
              refine HJ.out.mono ?_
              rintro e w6 ⟨rfl, h6⟩
              have HF := Lib.hid (HF5.out.2.trans h6)
              clear h6 HF5 HJ
              go_wp2_with fail
              refine (secNew_any 60 (by omega) (by omega) _).mono ?_
              rintro e wa ⟨p, rfl, hd, hfa⟩
              have HA := Lib.hid (And.intro hd (HF.out.trans hfa))
              have HWZ := Lib.hid HF.out.size
              clear hd hfa HF
              go_wp2_with fail
              refine (HOP.out _ p wa HA.out.1 (fun j hj => hj.2)).mono ?_
              rintro e wb ⟨f, T, qt, Fb, rfl, hfs, hT, hqt, hmb, hgb⟩
              have HBB := Lib.hid (And.intro hfs (And.intro hT (And.intro hqt (And.intro hmb hgb))))
              clear hfs hT hqt hmb hgb
              go_wp2_with fail
              refine (HMK.out Fb f p T qt wb HBB.out.1 HBB.out.2.1 HBB.out.2.2.1).mono ?_
              rintro e wc ⟨x, y, k2, t2, q2, T2, qt2, Fc, ⟨rfl, rfl, rfl, rfl, rfl, rfl, rfl⟩, rfl, hfs, hTB, hmc, hgc⟩
              have HFC : Hid (Fresh w wc) := Lib.hid (by
                have z1 := HWZ.out
                have z2 := HA.out.2.size
                refine (HA.out.2.mut2 HBB.out.2.2.2.1 (fun j hj => Nat.le_trans z1 hj.1)).mut2 hmc (fun j hj => ?_)
                rcases HBB.out.2.2.2.2 j hj with h | h
                · exact Nat.le_trans z1 h.1
                · exact Nat.le_trans z2 h.1)
              have HCC := Lib.hid hfs
              have HRW2 : Hid (Calls Tryz.prog 30 #[.pointer (some ⟨f, 0, none⟩), .string (⟨#[47]⟩ ++ S)] wc fun e w' => e = .returned (.tuple #[.string R, .int .i64 0]) ∧ Fresh wc w') := Lib.hid (by
                have h := HRW.out Fc f p _ _ _ T _ wc HBB.out.2.1 HCC.out
                rw [(HT1.out T HBB.out.2.1).1] at h
                exact h)
              have HLI2 : Hid (∀ W, Fresh wc W → Calls Tryz.prog 31 #[.pointer (some ⟨f, 0, none⟩), .string ⟨#[47]⟩, .int .i64 0, .int .i64 9] W (FsListF ([S], 1, 0) W)) := Lib.hid (fun W hW => by
                have h := HLI.out Fc f p _ _ _ T _ W HBB.out.2.1 (FsAt.fresh HCC.out hW)
                rw [(HT1.out T HBB.out.2.1).2] at h
                exact h)
              clear hfs hTB hmc hgc HRW HLI HMK HOP
              go_wp2_with fail
              refine HRW2.out.mono ?_
              rintro e wd ⟨rfl, hfd⟩
              have HFD := Lib.hid hfd
              clear hfd
              go_wp2_with fail
              refine (HLI2.out wd HFD.out).mono ?_
              rintro e we ⟨a5, c5, rfl, hsl, hfe⟩
              have HFE := Lib.hid ((HFC.out.trans HFD.out).trans hfe)
              rcases SlS.cases hsl with ⟨h0, _⟩ | ⟨_, g5, o5, cap5, hv5, _, _, hg5, hc5⟩
              · exact absurd h0 (by simp)
              injection hv5 with hv51 _ hv52
              subst hv51 hv52
              have c5' : we.cell? ⟨g5, o5, none⟩ = some (.string S) := hc5 0 (by simp)
              clear hsl hfe hc5 HCC
              simp only [List.length_singleton]
              go_wp2
              go_ret
              exact ⟨rfl, HFE.out.below⟩
            · obtain rfl : b = false := by cases b; rfl; exact absurd (hb.1 rfl) hg
              clear hb hg
              go_wp2
              go_ret
              exact ⟨rfl, HF3.out.below⟩
        · rw [decide_eq_false hst]
          clear hst
          go_wp2
          go_ret
          exact ⟨rfl, HF2.out.below⟩
      · have b8 : (enc == 8) = false := by simpa using e8
        go_wp2_with fail
        refine (good_any R _).mono ?_
        rintro e w2 ⟨b, rfl, hb, h2⟩
        have HF2 := Lib.hid (HFR.out.trans h2)
        clear h2
        by_cases hg : GoodN R
        · obtain rfl : b = true := hb.2 hg
          have HCRE : Hid (CreOK enc xs) := Lib.hid ⟨by intro e; have := HN.out; rw [e] at this; simp at this, by have := HN.out; omega, HEO.out.1, HEO.out.2, HLA.out, fun e => absurd e e8, fun e => absurd e e8, by rw [HR.out]; exact hg⟩
          clear hb hg
          have hcn := cre_name hk.1 hk.2 HCRE.out
          have hgd := HCRE.out.good
          have HOP := Lib.hid (fun F p W (hd : DevAt W F p 60 (fun _ => zer 64) 0) (hF : FB F W) => opened_any F enc p 60 W 30 hd hF rfl (by omega) (by omega) hk.1 hk.2)
          have HMK := Lib.hid (fun F f p T qt W (hfs : FsAt W F f enc p (30 : Nat) 60 0 2 5 T qt) (hT : IsT0 T) (hq : qt ≤ 10) => fmake_t0 enc F f p (30 : Nat) 60 5 T qt W hfs hT hq _ _ hcn.2.1 hcn.2.2 hgd false hk.1 hk.2 (by omega) (by omega) (by omega) (by omega))
          have HRW := Lib.hid (fun F f p k t q T qt W (hT : IsT0 T) (hfs : FsAt W F f enc p (30 : Nat) 60 k t q (t1 T (encL enc xs)) qt) => hfs.raw (t1_tok hT hk.1 hk.2 hgd.2.1) (slashS ++ joinS (wantL enc xs)) (by rw [slash_size]; have := hcn.2.1.2.1; omega))
          have HLI := Lib.hid (fun F f p k t q T qt W (hT : IsT0 T) (hfs : FsAt W F f enc p (30 : Nat) 60 k t q (t1 T (encL enc xs)) qt) => hfs.list (t1_tok hT hk.1 hk.2 hgd.2.1) (t1_rises hT) slashS (by decide) 0 9)
          have HT1 := Lib.hid (fun (T : TreS) (hT : IsT0 T) => And.intro (t1_at hT hcn.2.1 hcn.1) (t1_list hT hcn.1))
          have hPN := hcn.2.1
          obtain ⟨S, hS⟩ : ∃ S, joinS (wantL enc xs) = S := ⟨_, rfl⟩
          rw [hS] at HMK HRW HT1 hPN
          rw [HR.out] at HMK HRW HLI HT1
          unfold slashS at HMK HRW HLI HT1
          have hSz : S.size ≤ 1000 := hPN.2.1
          have HJS := Lib.hid hS
          clear hcn hgd hS hPN
          have hj : joinS xs = S := by rw [← HJS.out]; unfold wantL; rw [if_neg e8]
          have HJ := Lib.hid (refJoin_any (.slice (some ⟨b1, o1, none⟩) (q + 1) ca) xs w2 (HU.out.keep HF2.out) (by have := HN.out; omega))
          rw [hj] at HJ
          clear hj
          go_wp2_with fail
          refine HJ.out.mono ?_
          rintro e w3 ⟨rfl, h3⟩
          have HF := Lib.hid (HF2.out.trans h3)
          clear h3 HF2 HJ
          go_wp2_with fail
          refine (secNew_any 60 (by omega) (by omega) _).mono ?_
          rintro e wa ⟨p, rfl, hd, hfa⟩
          have HA := Lib.hid (And.intro hd (HF.out.trans hfa))
          have HWZ := Lib.hid HF.out.size
          clear hd hfa HF
          go_wp2_with fail
          refine (HOP.out _ p wa HA.out.1 (fun j hj => hj.2)).mono ?_
          rintro e wb ⟨f, T, qt, Fb, rfl, hfs, hT, hqt, hmb, hgb⟩
          have HBB := Lib.hid (And.intro hfs (And.intro hT (And.intro hqt (And.intro hmb hgb))))
          clear hfs hT hqt hmb hgb
          go_wp2_with fail
          refine (HMK.out Fb f p T qt wb HBB.out.1 HBB.out.2.1 HBB.out.2.2.1).mono ?_
          rintro e wc ⟨x, y, k2, t2, q2, T2, qt2, Fc, ⟨rfl, rfl, rfl, rfl, rfl, rfl, rfl⟩, rfl, hfs, hTB, hmc, hgc⟩
          have HFC : Hid (Fresh w wc) := Lib.hid (by
            have z1 := HWZ.out
            have z2 := HA.out.2.size
            refine (HA.out.2.mut2 HBB.out.2.2.2.1 (fun j hj => Nat.le_trans z1 hj.1)).mut2 hmc (fun j hj => ?_)
            rcases HBB.out.2.2.2.2 j hj with h | h
            · exact Nat.le_trans z1 h.1
            · exact Nat.le_trans z2 h.1)
          have HCC := Lib.hid hfs
          have HRW2 : Hid (Calls Tryz.prog 30 #[.pointer (some ⟨f, 0, none⟩), .string (⟨#[47]⟩ ++ S)] wc fun e w' => e = .returned (.tuple #[.string R, .int .i64 0]) ∧ Fresh wc w') := Lib.hid (by
            have h := HRW.out Fc f p _ _ _ T _ wc HBB.out.2.1 HCC.out
            rw [(HT1.out T HBB.out.2.1).1] at h
            exact h)
          have HLI2 : Hid (∀ W, Fresh wc W → Calls Tryz.prog 31 #[.pointer (some ⟨f, 0, none⟩), .string ⟨#[47]⟩, .int .i64 0, .int .i64 9] W (FsListF ([S], 1, 0) W)) := Lib.hid (fun W hW => by
            have h := HLI.out Fc f p _ _ _ T _ W HBB.out.2.1 (FsAt.fresh HCC.out hW)
            rw [(HT1.out T HBB.out.2.1).2] at h
            exact h)
          clear hfs hTB hmc hgc HRW HLI HMK HOP
          go_wp2_with fail
          refine HRW2.out.mono ?_
          rintro e wd ⟨rfl, hfd⟩
          have HFD := Lib.hid hfd
          clear hfd
          go_wp2_with fail
          refine (HLI2.out wd HFD.out).mono ?_
          rintro e we ⟨a5, c5, rfl, hsl, hfe⟩
          have HFE := Lib.hid ((HFC.out.trans HFD.out).trans hfe)
          rcases SlS.cases hsl with ⟨h0, _⟩ | ⟨_, g5, o5, cap5, hv5, _, _, hg5, hc5⟩
          · exact absurd h0 (by simp)
          injection hv5 with hv51 _ hv52
          subst hv51 hv52
          have c5' : we.cell? ⟨g5, o5, none⟩ = some (.string S) := hc5 0 (by simp)
          clear hsl hfe hc5 HCC
          simp only [List.length_singleton]
          go_wp2
          go_ret
          exact ⟨rfl, HFE.out.below⟩
        · obtain rfl : b = false := by cases b; rfl; exact absurd (hb.1 rfl) hg
          clear hb hg
          go_wp2
          go_ret
          exact ⟨rfl, HF2.out.below⟩
theorem walk_TopCreates (a : Int) (ad : Option Addr) (len cap : Nat) (zs : List Int) (w : World) (ha : (Lit.int .u8 a).wf = true) (h : IsRow .i32 w ad len cap zs) (_ : len * 4 ≤ 140737488351232) :
    Calls Tryz.prog 5 #[.int .u8 a, .slice ad len cap] w fun e w' => e = .returned (.bool true) ∧ Below w.heap.size w w' := by
  have ha := wfU8 ha
  by_cases hl : len ≤ 30 ∧ 1 ≤ len
  · exact creates_in a _ _ w ha h.sl.1 h.sl.2.2 (by rw [h.sl.2.1]; exact hl.1) (by rw [h.sl.2.1]; exact hl.2)
  · clear h
    rcases (by omega : len = 0 ∨ 30 < len) with rfl | h30
    · clear hl
      go_enter Tryz.func5, Tryz.ntmps5
      go_wp2_with fail
      refine (awake_any _).mono ?_
      rintro e w1 ⟨rfl, h1⟩
      have H1 := Lib.hid h1
      clear h1
      go_wp2_with fail
      refine (awake_any _).mono ?_
      rintro e w2 ⟨rfl, h2⟩
      go_wp2
      go_ret
      exact ⟨rfl, (H1.out.trans h2).below⟩
    · have i1 : (30 : Int) < (len : Int) := by omega
      clear hl
      go_enter Tryz.func5, Tryz.ntmps5
      go_wp2_with fail
      refine (awake_any _).mono ?_
      rintro e w1 ⟨rfl, h1⟩
      have H1 := Lib.hid h1
      clear h1
      go_wp2_with fail
      refine (awake_any _).mono ?_
      rintro e w2 ⟨rfl, h2⟩
      go_wp2
      go_ret
      exact ⟨rfl, (H1.out.trans h2).below⟩
end Go.Proofs.YtpmlggjhfiljmaaGreatDoor
/- A row's slice of whole numbers is no longer than its weight allows. -/
namespace Go.Proofs.YtpmlggjhfiljmaaGreatDoor
open Go.ChangeShapes Go.WideShapes
theorem sized_ints {H : Type} {enc : TypeId × Value → H} {P : Program} {W : World} {base : Nat} {spare : Nat → Bool} {held : Bool} {t e : TypeId} {k : IntKind} {a : Option Addr} {len cap : Nat} {d : DataW H} {ps : List MemPlace} {ts : List TypeId} {ds : List (DataW H)} {j : Nat}
    (hsz : (DataW.weightsEach P ts ds).all (· ≤ reachBytes) = true) (ht : ts[j]? = some t) (hd : ds[j]? = some d) (hu : P.underlying t = some (.slice e)) (he : P.underlying e = some (.int k)) (hc : P.cellsOf e = 1) {B : Nat} (hB : P.bytesOf e = B)
    (h : DataW.Trod enc P W base spare held t (.slice a len cap) d ps) : len * B ≤ 140737488351232 := by
  obtain ⟨fuel, hf⟩ := h
  rcases open_ints hu he hc hf with ⟨hcs, _⟩ | ⟨x, l, c, zs, hcs, _, hl, _, hz, hx, _, _⟩
  · simp [Value.cells] at hcs
    obtain ⟨rfl, rfl, rfl⟩ := hcs
    simp
  · simp [Value.cells] at hcs
    obtain ⟨rfl, rfl, rfl⟩ := hcs
    obtain ⟨hx, _⟩ := Prod.mk.inj hx
    subst hx
    have z := sized_slice hsz ht hd hu
    rw [hB] at z
    have hl2 : len ≤ zs.length := by
      rw [hz]
      split
      · exact hl
      · exact Nat.le_refl _
    have h1 : (lits (H := H) k (zs.take len)).length + (lits (H := H) k (zs.drop len)).length = zs.length := by
      simp [lits]
      omega
    rw [h1] at z
    exact Nat.le_trans (Nat.mul_le_mul_right _ hl2) z
end Go.Proofs.YtpmlggjhfiljmaaGreatDoor
