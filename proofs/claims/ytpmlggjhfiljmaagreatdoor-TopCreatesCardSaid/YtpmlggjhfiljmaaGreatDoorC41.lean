/- Contracts that the law rests on, part 41 of 50 (WlkA, WlkB, WlkC). Each states its own conditions. -/
import Derived.Test.YtpmlggjhfiljmaaGreatDoorC40
/- Layer 15: Split. -/
namespace Go.Proofs.YtpmlggjhfiljmaaGreatDoor
open Go.RowKit
set_option linter.unusedVariables false
set_option linter.unnecessarySimpa false
set_option linter.unusedSimpArgs false
def WSplPost (r : List ByteArray ⊕ Int) (w : World) (e : Ending) (w' : World) : Prop :=
  (∃ k, k ≠ 0 ∧ r = .inr k ∧ e = .returned (.tuple #[.slice none 0 0, .int .i64 k]) ∧ Fresh w w') ∨
  (∃ l a c, r = .inl l ∧ e = .returned (.tuple #[.slice a l.length c, .int .i64 0]) ∧ SlS w' (fun g => w.heap.size ≤ g) (.slice a l.length c) l ∧ Fresh w w')
theorem badN_iff (l : List ByteArray) : badN l = (Lib.containsS l ByteArray.empty || Lib.containsS l dotS || Lib.containsS l dotsS) := by
  rw [Bool.eq_iff_iff]
  simp only [badN, List.any_eq_true, Bool.or_eq_true, beq_iff_eq, bytes_inj, Lib.containsS_iff]
  constructor
  · rintro ⟨x, hx, (rfl | rfl) | rfl⟩
    · exact .inl (.inl hx)
    · exact .inl (.inr hx)
    · exact .inr hx
  · rintro ((h | h) | h)
    · exact ⟨_, h, .inl (.inl rfl)⟩
    · exact ⟨_, h, .inl (.inr rfl)⟩
    · exact ⟨_, h, .inr rfl⟩
theorem cut_no {s : ByteArray} (h : ¬ (1 ≤ s.size ∧ (s.data.toList.getD 0 0).toNat = 47)) : Lib.hasPrefix s.data.toList [47] = false := by
  unfold Lib.hasPrefix
  cases hs : s.data.toList with
  | nil => rfl
  | cons a l =>
    rw [hs] at h
    have h1 : 1 ≤ s.size := by
      have : s.data.toList.length = s.size := Array.length_toList
      rw [hs] at this
      simp at this
      omega
    have h2 : a ≠ 47 := fun e => h ⟨h1, by rw [e]; rfl⟩
    simp [List.isPrefixOf]
    exact fun e => h2 e.symm
theorem cut_yes {s : ByteArray} (h : 1 ≤ s.size ∧ (s.data.toList.getD 0 0).toNat = 47) : Lib.hasPrefix s.data.toList [47] = true ∧ (⟨(Lib.trimPrefix s.data.toList [47]).toArray⟩ : ByteArray) = restP s := by
  have h0 : Lib.hasPrefix s.data.toList [47] = true := by
    unfold Lib.hasPrefix
    cases hs : s.data.toList with
    | nil =>
      have : s.data.toList.length = s.size := Array.length_toList
      rw [hs] at this
      simp at this
      omega
    | cons a l =>
      rw [hs] at h
      have : a = 47 := UInt8.toNat_inj.1 (by have := h.2; simpa using this)
      subst this
      simp [List.isPrefixOf]
  refine ⟨h0, ?_⟩
  unfold Lib.trimPrefix restP
  rw [if_pos h0]
  apply ByteArray.ext
  rw [ByteArray.data_extract]
  apply Array.ext'
  simp
  rw [List.take_of_length_le (by simp)]
theorem SlS.has {w : World} {A : Nat → Prop} {a : Option Addr} {c : Nat} {l : List ByteArray} (h : SlS w A (.slice a l.length c) l) (hl : l.length ≤ 100000) (x : ByteArray) : Calls Tryz.prog 218 #[.slice a l.length c, .string x] w fun e w' => e = .returned (.bool (Lib.containsS l x)) ∧ w' = w := by
  rcases h.cases with ⟨rfl, _⟩ | ⟨h0, g, off, cap, hv, _, _, _, hc⟩
  · exact Tryz.slices_Contains_string_empty a c x w
  · injection hv with hv1 _ hv2
    subst hv1 hv2
    have := Tryz.slices_Contains_string g off l.length c l x w (Nat.le_refl _) (by omega) (fun j hj => by rw [hc j hj, List.getD_eq_getElem?_getD, List.getElem?_eq_getElem hj]; rfl)
    rw [List.take_length] at this
    exact this
set_option maxRecDepth 100000 in
set_option maxHeartbeats 1600000 in
theorem wsplit_any (s : ByteArray) (hs : s.size ≤ 1000000) (w : World) : Calls Tryz.prog 140 #[.string s] w (WSplPost (splitP s) w) := by
  by_cases h1 : 1024 < s.size
  · have HP : Hid (splitP s = .inr 4) := Lib.hid (by unfold splitP; rw [if_pos h1])
    have i1 : (1024 : Int) < (s.size : Int) := by omega
    clear h1
    go_enter Tryz.func140, Tryz.ntmps140
    go_wp2
    go_ret2
    exact .inl ⟨4, by omega, HP.out, rfl, Fresh.refl _⟩
  have i1 : ¬ (1024 : Int) < (s.size : Int) := by omega
  have HC := Lib.hid (fun W => Tryz.strings_CutPrefix s ⟨#[47]⟩ W)
  by_cases h2 : 1 ≤ s.size ∧ (s.data.toList.getD 0 0).toNat = 47
  case neg =>
    have HP : Hid (splitP s = .inr 3) := Lib.hid (by unfold splitP; rw [if_neg h1, if_pos h2])
    have hcn := cut_no h2
    rw [show ((⟨#[47]⟩ : ByteArray).data.toList) = [47] from rfl, hcn] at HC
    clear h1 h2 hcn
    go_enter Tryz.func140, Tryz.ntmps140
    go_wp2_with fail
    refine (HC.out _).mono ?_
    rintro e w1 ⟨rfl, rfl⟩
    go_wp2
    go_ret2
    exact .inl ⟨3, by omega, HP.out, rfl, Fresh.refl _⟩
  case pos =>
    obtain ⟨hcy, hcr⟩ := cut_yes h2
    rw [show ((⟨#[47]⟩ : ByteArray).data.toList) = [47] from rfl, hcy, hcr] at HC
    have hrs : (restP s).size = s.size - 1 := by unfold restP; rw [ByteArray.size_extract]; omega
    by_cases h3 : s.size = 1
    · have HP : Hid (splitP s = .inl []) := Lib.hid (by unfold splitP; rw [if_neg h1, if_neg (fun h => h h2), if_pos h3])
      have he : restP s = ⟨#[]⟩ := by
        have h0 : (restP s).size = 0 := by omega
        have : (restP s).data.toList = [] := List.eq_nil_of_length_eq_zero (by rw [Array.length_toList]; exact h0)
        exact bytes_inj.1 (by rw [ByteArray.toList_eq, ByteArray.toList_eq, this])
      rw [he] at HC
      clear h1 h2 h3 hcy hcr hrs he
      go_enter Tryz.func140, Tryz.ntmps140
      go_wp2_with fail
      refine (HC.out _).mono ?_
      rintro e w1 ⟨rfl, rfl⟩
      go_wp2
      go_ret2
      exact .inr ⟨[], none, 0, HP.out, rfl, SlG.nil _ _ _, Fresh.refl _⟩
    · have hne : (restP s).toList.isEmpty = false := ne_str (by omega)
      have HP : Hid (splitP s = if badN (splB (restP s)) = true then .inr 3 else if 16 < (splB (restP s)).length then .inr 4 else .inl (splB (restP s))) := Lib.hid (by
        conv => lhs; unfold splitP
        rw [if_neg h1, if_neg (fun h => h h2), if_neg h3])
      have HS := Lib.hid (fun W => strSplit_any (restP s) (by omega) W)
      have hll : (splB (restP s)).length ≤ 2000 := by
        rw [splB_len]
        have := List.count_le_length (a := (47 : UInt8)) (l := (restP s).data.toList)
        have h2 : (restP s).data.toList.length = (restP s).size := Array.length_toList
        omega
      obtain ⟨rest, hrest⟩ : ∃ rest, restP s = rest := ⟨_, rfl⟩
      rw [hrest] at HC hne HP HS hll
      obtain ⟨l, hl⟩ : ∃ l, splB rest = l := ⟨_, rfl⟩
      rw [hl] at HP HS hll
      clear h1 h2 h3 hcy hcr hrs hrest hl
      go_enter Tryz.func140, Tryz.ntmps140
      go_wp2_with fail
      refine (HC.out _).mono ?_
      rintro e w1 ⟨rfl, rfl⟩
      go_wp2_with fail
      refine (HS.out _).mono ?_
      rintro e w2 ⟨g, c, rfl, hsl, hf⟩
      have HX := Lib.hid (And.intro hsl hf)
      have HH := Lib.hid (fun x => SlS.has hsl (by omega) x)
      rw [badN_iff] at HP
      obtain ⟨b0, hb0⟩ : ∃ b0, Lib.containsS l ByteArray.empty = b0 := ⟨_, rfl⟩
      obtain ⟨b1, hb1⟩ : ∃ b1, Lib.containsS l dotS = b1 := ⟨_, rfl⟩
      obtain ⟨b2, hb2⟩ : ∃ b2, Lib.containsS l dotsS = b2 := ⟨_, rfl⟩
      have H0 := Lib.hid (HH.out ByteArray.empty)
      have H1 := Lib.hid (HH.out dotS)
      have H2 := Lib.hid (HH.out dotsS)
      rw [hb0] at HP H0
      rw [hb1] at HP H1
      rw [hb2] at HP H2
      clear hsl hf hb0 hb1 hb2 hne
      cases b0 with
      | true =>
        go_wp2_with fail
        refine H0.out.mono ?_
        rintro e w3 ⟨rfl, rfl⟩
        go_wp2
        go_ret2
        exact .inl ⟨3, by omega, by rw [HP.out]; rfl, rfl, HX.out.2⟩
      | false =>
        go_wp2_with fail
        refine H0.out.mono ?_
        rintro e w3 ⟨rfl, rfl⟩
        cases b1 with
        | true =>
          go_wp2_with fail
          refine H1.out.mono ?_
          rintro e w3 ⟨rfl, rfl⟩
          go_wp2
          go_ret2
          exact .inl ⟨3, by omega, by rw [HP.out]; rfl, rfl, HX.out.2⟩
        | false =>
          go_wp2_with fail
          refine H1.out.mono ?_
          rintro e w3 ⟨rfl, rfl⟩
          go_wp2_with fail
          refine H2.out.mono ?_
          rintro e w3 ⟨rfl, rfl⟩
          cases b2 with
          | true =>
            go_wp2
            go_ret2
            exact .inl ⟨3, by omega, by rw [HP.out]; rfl, rfl, HX.out.2⟩
          | false =>
            by_cases h16 : 16 < l.length
            · have i2 : (16 : Int) < (l.length : Int) := by omega
              have HQ : Hid (splitP s = .inr 4) := Lib.hid (by rw [HP.out, if_pos h16]; rfl)
              clear h16
              go_wp2
              go_ret2
              exact .inl ⟨4, by omega, HQ.out, rfl, HX.out.2⟩
            · have i2 : ¬ (16 : Int) < (l.length : Int) := by omega
              have HQ : Hid (splitP s = .inl l) := Lib.hid (by rw [HP.out, if_neg h16]; rfl)
              clear h16
              go_wp2
              go_ret2
              exact .inr ⟨l, _, c, HQ.out, rfl, HX.out.1, HX.out.2⟩
end Go.Proofs.YtpmlggjhfiljmaaGreatDoor
/- Layer 15: step. -/
namespace Go.Proofs.YtpmlggjhfiljmaaGreatDoor
open Go.RowKit
set_option linter.unusedVariables false
set_option linter.unnecessarySimpa false
set_option linter.unusedSimpArgs false
/-- a tree whose faces are told -/
structure TOK (enc : Int) (T : TreS) : Prop where
  of : ∀ d l, T.dirs d = some l → ∀ e ∈ l, OfOK enc e
  len : ∀ d l, T.dirs d = some l → l.length ≤ 10000
  node : ∀ d l, T.dirs d = some l → ∀ e ∈ l, I64 e.node
def lsF (t : Nat) : Value := .func (.func 35) #[.pointer (some ⟨t, 0, none⟩)] #[]
def WkAt (w : World) (g t : Nat) (d : Int) (b : Bool) : Prop := Blk w g 217 #[.int .i64 d, .bool b, lsF t]
theorem enters_list : ∀ (args : Array Value) (W : World), Sem.run Tryz.prog (callFunc 35 args) W = .ok (.enter 35 args) W := by intro args w; go_simp
def LsYes (l : List Ent) (w : World) (e : Ending) (w' : World) : Prop := ∃ a c, e = .returned (.tuple #[.slice a l.length c, .int .i64 0]) ∧ OwnE w' (fun g => w.heap.size ≤ g) (.slice a l.length c) l ∧ Fresh w w'
def LsNo (k : Int) (w : World) (e : Ending) (w' : World) : Prop := e = .returned (.tuple #[.slice none 0 0, .int .i64 k]) ∧ Fresh w w'
theorem ls_yes {A : Nat → Prop} {t : Nat} {T : TreS} {q : Nat} {d : Int} {l : List Ent} {w : World} (h : TreeAt w A t T q) (hd : I64 d) (hl : T.dirs d = some l) (hl2 : l.length ≤ 10000) : Calls Tryz.prog 35 #[.pointer (some ⟨t, 0, none⟩), .int .i64 d] w (LsYes l w) := by
  refine (tlist_any w A t T q h d hd (fun l' h' => by rw [hl] at h'; injection h' with h'; rw [← h']; omega)).mono ?_
  rintro e w' (⟨l', v, h1, rfl, ho, hf⟩ | ⟨h1, _⟩)
  · rw [hl] at h1
    injection h1 with h1
    subst h1
    obtain ⟨a, c, rfl⟩ := ho.shape
    exact ⟨a, c, rfl, ho, hf⟩
  · rw [hl] at h1; cases h1
theorem ls_no {A : Nat → Prop} {t : Nat} {T : TreS} {q : Nat} {d : Int} {w : World} (h : TreeAt w A t T q) (hd : I64 d) (hl : T.dirs d = none) : Calls Tryz.prog 35 #[.pointer (some ⟨t, 0, none⟩), .int .i64 d] w (LsNo (if T.files d = true then 8 else 5) w) := by
  refine (tlist_any w A t T q h d hd (fun l' h' => by rw [hl] at h'; cases h')).mono ?_
  rintro e w' (⟨l', v, h1, _⟩ | ⟨h1, rfl, hf⟩)
  · rw [hl] at h1; cases h1
  · exact ⟨rfl, hf⟩
def stepR : Option Ent → Ent ⊕ Int
  | none => .inr 5
  | some e => .inl e
def StepPost (r : Ent ⊕ Int) (g t : Nat) (w : World) (e : Ending) (w' : World) : Prop :=
  (∃ k, k ≠ 0 ∧ r = .inr k ∧ e = .returned (.int .i64 k) ∧ Fresh w w') ∨ (∃ x, r = .inl x ∧ e = .returned (.int .i64 0) ∧ WkAt w' g t x.node x.dir ∧ Mut (fun j => j = g) w w')
set_option maxRecDepth 100000 in
set_option maxHeartbeats 1600000 in
theorem step_any (enc : Int) (A : Nat → Prop) (t : Nat) (T : TreS) (q : Nat) (hT : TOK enc T) (g : Nat) (d : Int) (b : Bool) (name : ByteArray) (w : World) (h : TreeAt w A t T q) (hw : WkAt w g t d b) (hd : I64 d) :
    Calls Tryz.prog 219 #[.pointer (some ⟨g, 0, none⟩), .int .i64 enc, .string name] w (StepPost (stepT enc T d name) g t w) := by
  have hen := enters_list
  unfold WkAt at hw
  have HW := Lib.hid hw
  have c0 : w.cell? ⟨g, 0, none⟩ = some (.int .i64 d) := by rw [hw.cell]; rfl
  have c2 : w.cell? ⟨g, 2, none⟩ = some (.func (.func 35) #[.pointer (some ⟨t, 0, none⟩)] #[]) := by rw [hw.cell]; rfl
  cases hdl : T.dirs d with
  | none =>
    have HL := Lib.hid (fun W (hW : Fresh w W) => ls_no (h.fresh hW) hd hdl)
    obtain ⟨k, hk⟩ : ∃ k : Int, (if T.files d = true then 8 else 5) = k := ⟨_, rfl⟩
    have HS : Hid (stepT enc T d name = .inr k) := Lib.hid (by unfold stepT; rw [hdl]; simp only; rw [hk])
    have hk0 : k ≠ 0 := by rw [← hk]; split <;> omega
    have hkb : (k != 0) = true := by simp [hk0]
    rw [hk] at HL
    have HK := Lib.hid hk0
    clear hw h hT hdl hk hk0
    go_enter Tryz.func219, Tryz.ntmps219
    go_wp2_with fail
    go_region_law (first
      | (go_simp; go_at_call 35; refine (HL.out _ (by repeat (first | exact Fresh.refl _ | refine Fresh.drew ?_))).mono ?_; rintro e w2 ⟨rfl, hf2⟩; have HF : Hid (Fresh w w2) := Lib.hid (Fresh.trans (by repeat (first | exact Fresh.refl _ | refine Fresh.drew ?_)) hf2); clear hf2))
    all_goals
      go_wp2
      go_ret
      exact .inl ⟨k, HK.out, HS.out, rfl, HF.out⟩
  | some l =>
    have HL := Lib.hid (fun W (hW : Fresh w W) => ls_yes (h.fresh hW) hd hdl (hT.len d l hdl))
    have HO := Lib.hid (hT.of d l hdl)
    have HLN := Lib.hid (hT.len d l hdl)
    obtain ⟨r, hr⟩ : ∃ r, l.find? (faceB enc name) = r := ⟨_, rfl⟩
    have HS : Hid (stepT enc T d name = stepR r) := Lib.hid (by rw [← hr]; unfold stepT; rw [hdl]; rfl)
    have HR := Lib.hid hr
    clear hw h hT hdl hr
    go_enter Tryz.func219, Tryz.ntmps219
    go_wp2_with fail
    go_region_law (first
      | (go_simp; go_at_call 35; refine (HL.out _ (by repeat (first | exact Fresh.refl _ | refine Fresh.drew ?_))).mono ?_; rintro e w2 ⟨a, c, rfl, ho, hf2⟩; have HF : Hid (Fresh w w2) := Lib.hid (Fresh.trans (by repeat (first | exact Fresh.refl _ | refine Fresh.drew ?_)) hf2); have HOW := Lib.hid ho; clear hf2 ho))
    all_goals
      have HFD := Lib.hid (ffind_any enc _ _ l name w2 (OwnE.sl HOW.out) (by have := HLN.out; omega) HO.out)
      rw [HR.out] at HFD
      go_wp2_with fail
      refine HFD.out.mono ?_
      rintro e w3 ⟨rfl, hf3⟩
      have HF3 := Lib.hid (HF.out.trans hf3)
      clear hf3
      cases r with
      | none =>
        have HR5 : Hid (stepT enc T d name = .inr 5) := Lib.hid HS.out
        clear HS HR HFD
        simp only [Option.getD_none, Option.isSome_none, ent0]
        go_wp2
        go_ret
        exact .inl ⟨5, by omega, HR5.out, rfl, HF3.out.alloc _⟩
      | some x =>
        have HR5 : Hid (stepT enc T d name = .inl x) := Lib.hid HS.out
        clear HS HR HFD
        obtain ⟨nm, nd, dr, ck, sh⟩ := x
        simp only [Option.getD_some, Option.isSome_some]
        have hb := HW.out.keep HF3.out
        have f0 : w3.frozen? ⟨g, 0, none⟩ = false := hb.frozen 0
        have f1 : w3.frozen? ⟨g, 1, none⟩ = false := hb.frozen 1
        have d0 : w3.cell? ⟨g, 0, none⟩ = some (.int .i64 d) := hb.cell 0
        have d1 : w3.cell? ⟨g, 1, none⟩ = some (.bool b) := hb.cell 1
        have hgl := hb.lt
        have HB := Lib.hid hb
        clear hb c0 c2
        go_wp2
        have hf4 : Fresh w3 (w3.alloc (.cells #[.string nm, .int .i64 nd, .bool dr, .int .i64 ck, .int .i64 sh] 88)) := (Fresh.refl _).alloc _
        have hb4 := HB.out.keep hf4
        have he4 := Blk.new w3 88 #[.string nm, .int .i64 nd, .bool dr, .int .i64 ck, .int .i64 sh]
        obtain ⟨z, hz⟩ : ∃ z, w3.heap.size = z := ⟨_, rfl⟩
        rw [hz] at he4 hgl ⊢
        have hne : g ≠ z := by omega
        have HZ := Lib.hid hz
        clear f0 f1 d0 d1 hz
        generalize w3.alloc (.cells #[.string nm, .int .i64 nd, .bool dr, .int .i64 ck, .int .i64 sh] 88) = W4 at hf4 hb4 he4 ⊢
        have f0 : W4.frozen? ⟨g, 0, none⟩ = false := hb4.frozen 0
        have f1 : W4.frozen? ⟨g, 1, none⟩ = false := hb4.frozen 1
        have d0 : W4.cell? ⟨g, 0, none⟩ = some (.int .i64 d) := hb4.cell 0
        have d1 : W4.cell? ⟨g, 1, none⟩ = some (.bool b) := hb4.cell 1
        have e1 : W4.cell? ⟨z, 1, none⟩ = some (.int .i64 nd) := he4.cell 1
        have e2 : W4.cell? ⟨z, 2, none⟩ = some (.bool dr) := he4.cell 2
        have HB4 := Lib.hid (And.intro hb4 (And.intro he4 (HF3.out.trans hf4)))
        clear hb4 he4 hf4
        have HQ1 : Hid (WkAt ((W4.setCell ⟨g, 0, none⟩ (.int .i64 nd)).setCell ⟨g, 1, none⟩ (.bool dr)).drew g t nd dr ∧ Mut (fun j => j = g) w ((W4.setCell ⟨g, 0, none⟩ (.int .i64 nd)).setCell ⟨g, 1, none⟩ (.bool dr)).drew) := Lib.hid (by
          obtain ⟨h1, _, h3⟩ := HB4.out
          have h4 : Blk _ g 217 #[.int .i64 nd, .bool b, lsF t] := h1.set (i := 0) (u := .int .i64 nd)
          have h5 : Blk _ g 217 #[.int .i64 nd, .bool dr, lsF t] := h4.set (i := 1) (u := .bool dr)
          exact ⟨h5.keep (Fresh.drew (Fresh.refl _)), (((h3.mut (fun j => j = g)).setCell (p := ⟨g, 0, none⟩) (.inl rfl) _).setCell (p := ⟨g, 1, none⟩) (.inl rfl) _).drew⟩)
        have HQ2 : Hid (WkAt ((W4.setCell ⟨g, 1, none⟩ (.bool dr)).setCell ⟨g, 0, none⟩ (.int .i64 nd)).drew g t nd dr ∧ Mut (fun j => j = g) w ((W4.setCell ⟨g, 1, none⟩ (.bool dr)).setCell ⟨g, 0, none⟩ (.int .i64 nd)).drew) := Lib.hid (by
          obtain ⟨h1, _, h3⟩ := HB4.out
          have h4 : Blk _ g 217 #[.int .i64 d, .bool dr, lsF t] := h1.set (i := 1) (u := .bool dr)
          have h5 : Blk _ g 217 #[.int .i64 nd, .bool dr, lsF t] := h4.set (i := 0) (u := .int .i64 nd)
          exact ⟨h5.keep (Fresh.drew (Fresh.refl _)), (((h3.mut (fun j => j = g)).setCell (p := ⟨g, 1, none⟩) (.inl rfl) _).setCell (p := ⟨g, 0, none⟩) (.inl rfl) _).drew⟩)
        go_region
        all_goals
          go_wp2
          go_ret
          first
          | exact .inr ⟨_, HR5.out, rfl, HQ1.out.1, HQ1.out.2⟩
          | exact .inr ⟨_, HR5.out, rfl, HQ2.out.1, HQ2.out.2⟩
end Go.Proofs.YtpmlggjhfiljmaaGreatDoor
/- Layer 15: all, Node. -/
namespace Go.Proofs.YtpmlggjhfiljmaaGreatDoor
open Go.RowKit
set_option linter.unusedVariables false
set_option linter.unnecessarySimpa false
set_option linter.unusedSimpArgs false
theorem splitP_len {s : ByteArray} {l : List ByteArray} (h : splitP s = .inl l) : l.length ≤ 16 := by
  unfold splitP at h
  split at h
  · cases h
  · split at h
    · cases h
    · split at h
      · injection h with h; subst h; simp
      · split at h
        · cases h
        · split at h
          · cases h
          · injection h with h; subst h; omega
def WallPost (r : (Int × Bool) ⊕ Int) (t : Nat) (w : World) (e : Ending) (w' : World) : Prop :=
  (∃ k, k ≠ 0 ∧ r = .inr k ∧ e = .returned (.tuple #[.pointer none, .int .i64 k]) ∧ Fresh w w') ∨ (∃ g n b, r = .inl (n, b) ∧ e = .returned (.tuple #[.pointer (some ⟨g, 0, none⟩), .int .i64 0]) ∧ WkAt w' g t n b ∧ I64 n ∧ Fresh w w')
def WaRel (enc : Int) (T : TreS) (l : List ByteArray) (g t : Nat) (w : World) (i : Value) (wr : World) : Prop :=
  ∃ (k : Nat) (n : Int) (b : Bool), i = .int .i64 k ∧ k ≤ l.length ∧ walkT enc T (n, b) (l.drop k) = walkT enc T (0, true) l ∧ WkAt wr g t n b ∧ I64 n ∧ Fresh w wr
theorem stepT_node {enc : Int} {T : TreS} (hT : TOK enc T) {d : Int} {name : ByteArray} {x : Ent} (h : stepT enc T d name = .inl x) : I64 x.node := by
  unfold stepT at h
  split at h
  · cases h
  · rename_i l hl
    split at h
    · cases h
    · rename_i e he
      injection h with h
      subst h
      exact hT.node d l hl _ (List.mem_of_find?_eq_some he)
set_option maxRecDepth 100000 in
set_option maxHeartbeats 1600000 in
theorem wall_any (enc : Int) (A A2 : Nat → Prop) (t : Nat) (T : TreS) (q : Nat) (hT : TOK enc T) (v : Value) (l : List ByteArray) (w : World) (h : TreeAt w A t T q) (hv : SlS w A2 v l) (hl : l.length ≤ 1000000) :
    Calls Tryz.prog 141 #[.int .i64 enc, .pointer (some ⟨t, 0, none⟩), v] w (WallPost (walkT enc T (0, true) l) t w) := by
  have HST := Lib.hid (fun g d b name W (hW : Fresh w W) hk hd => step_any enc A t T q hT g d b name W (h.fresh hW) hk hd)
  have HTT := Lib.hid hT
  obtain ⟨a, c, rfl⟩ : ∃ a c, v = .slice a l.length c := by obtain ⟨_, a, c, q, _⟩ := hv; exact ⟨a, c, q⟩
  have HV := Lib.hid hv.cases
  obtain ⟨n, hn⟩ : ∃ n, l.length = n := ⟨_, rfl⟩
  have HN := Lib.hid hn
  rw [hn] at hl ⊢
  clear h hT hv hn
  go_enter Tryz.func141, Tryz.ntmps141
  go_wp2_with fail
  have HWK := Lib.hid (Blk.new w 217 #[.int .i64 0, .bool true, lsF t])
  unfold lsF at HWK
  go_loopw [18] (fun i wr => WaRel enc T l w.heap.size t w i wr) (fun i _ => n - (intOf i).toNat)
  case atStart => exact ⟨0, 0, true, rfl, Nat.zero_le _, rfl, HWK.out, ⟨by omega, by omega⟩, (Fresh.refl _).alloc _⟩
  case round =>
    obtain ⟨k, nd, b, rfl, hk, hwk, hat, hi, hf⟩ := hrel
    obtain ⟨g, hg⟩ : ∃ g, w.heap.size = g := ⟨_, rfl⟩
    have HG := Lib.hid hg
    rw [hg] at hat ⊢
    have HWL := Lib.hid hwk
    have HAT := Lib.hid hat
    have HF := Lib.hid hf
    rw [HN.out] at hk
    clear hg hwk hat hf
    by_cases hlt : k < n
    · have i1 : (k : Int) < (n : Int) := by omega
      have hkl : k < l.length := by rw [HN.out]; exact hlt
      rcases HV.out with ⟨h0, _⟩ | ⟨_, gs, off, cap, hv, _, _, hgs, hc⟩
      · rw [h0] at hkl; simp at hkl
      · injection hv with hv1 _ hv2
        subst hv1 hv2
        obtain ⟨name, hname⟩ : ∃ name, l[k] = name := ⟨_, rfl⟩
        have c0 := (Below.cell HF.out (p := ⟨gs, off + k, none⟩) hgs).trans (hc k hkl)
        rw [hname] at c0
        have HDR : Hid (l.drop k = name :: l.drop (k + 1)) := Lib.hid (by rw [List.drop_eq_getElem_cons hkl, hname])
        have HS := Lib.hid (HST.out g nd b name wr HF.out HAT.out hi)
        clear hc hname
        go_wp2_with fail
        refine HS.out.mono ?_
        rintro e w2 (⟨j, hj, hst, rfl, hf2⟩ | ⟨x, hst, rfl, hat2, hm2⟩)
        · have hjb : (j != 0) = true := by simp [hj]
          have HR : Hid (walkT enc T (0, true) l = .inr j) := Lib.hid (by rw [← HWL.out, HDR.out]; unfold walkT; rw [hst])
          have HF2 := Lib.hid (HF.out.trans hf2)
          have HJ := Lib.hid hj
          clear hst hf2 hj c0
          go_wp2
          go_ret2
          exact .inl ⟨j, HJ.out, HR.out, rfl, HF2.out⟩
        · have HR : Hid (walkT enc T (x.node, x.dir) (l.drop (k + 1)) = walkT enc T (0, true) l) := Lib.hid (by
            rw [← HWL.out, HDR.out]
            conv => rhs; unfold walkT
            rw [hst])
          have HI := Lib.hid (stepT_node HTT.out hst)
          have HF2 := Lib.hid (HF.out.mut2 hm2 (fun j hj => by have := HG.out; omega))
          have HA2 := Lib.hid hat2
          clear hst hat2 hm2 c0
          go_wp2
          go_roundw
          case rel => exact ⟨k + 1, x.node, x.dir, by go_num, by have := HN.out; omega, HR.out, HA2.out, HI.out, HF2.out⟩
          case measure => simp [intOf]; omega
    · have i1 : ¬ (k : Int) < (n : Int) := by omega
      have HR : Hid (walkT enc T (0, true) l = .inl (nd, b)) := Lib.hid (by rw [← HWL.out, List.drop_of_length_le (by have := HN.out; omega)]; rfl)
      go_wp2
      go_ret2
      exact .inr ⟨g, nd, b, HR.out, rfl, HAT.out, hi, HF.out⟩
def NodePost (r : (Int × Bool) ⊕ Int) (w : World) (e : Ending) (w' : World) : Prop :=
  (∃ k, k ≠ 0 ∧ r = .inr k ∧ e = .returned (.tuple #[.int .i64 0, .bool false, .int .i64 k]) ∧ Fresh w w') ∨ (∃ n b, r = .inl (n, b) ∧ I64 n ∧ e = .returned (.tuple #[.int .i64 n, .bool b, .int .i64 0]) ∧ Fresh w w')
set_option maxRecDepth 100000 in
set_option maxHeartbeats 1600000 in
theorem wnode_any (enc : Int) (A : Nat → Prop) (t : Nat) (T : TreS) (q : Nat) (hT : TOK enc T) (s : ByteArray) (hs : s.size ≤ 1000000) (w : World) (h : TreeAt w A t T q) :
    Calls Tryz.prog 87 #[.int .i64 enc, .pointer (some ⟨t, 0, none⟩), .string s] w (NodePost (pathT enc T s) w) := by
  have HSP := Lib.hid (wsplit_any s hs w)
  have HTT := Lib.hid (And.intro hT h)
  clear h hT
  go_enter Tryz.func87, Tryz.ntmps87
  go_wp2_with fail
  refine HSP.out.mono ?_
  rintro e w1 (⟨k, hk, hsp, rfl, hf⟩ | ⟨l, a, c, hsp, rfl, hsl, hf⟩)
  · have hkb : (k != 0) = true := by simp [hk]
    have HR : Hid (pathT enc T s = .inr k) := Lib.hid (by unfold pathT; rw [hsp])
    have HK := Lib.hid (And.intro hk hf)
    clear hk hsp hf
    go_wp2
    go_ret3
    exact .inl ⟨k, HK.out.1, HR.out, rfl, HK.out.2⟩
  · have HR : Hid (pathT enc T s = walkT enc T (0, true) l) := Lib.hid (by unfold pathT; rw [hsp])
    have hll : l.length ≤ 1000000 := by have := splitP_len hsp; omega
    have HW := Lib.hid (wall_any enc A _ t T q HTT.out.1 _ l w1 (HTT.out.2.fresh hf) hsl hll)
    have HF := Lib.hid hf
    clear hsp hsl hf hll
    go_wp2_with fail
    refine HW.out.mono ?_
    rintro e w2 (⟨k, hk, hwl, rfl, hf2⟩ | ⟨g, n, b, hwl, rfl, hat, hi, hf2⟩)
    · have hkb : (k != 0) = true := by simp [hk]
      have HK := Lib.hid (And.intro hk (And.intro (HR.out.trans hwl) (HF.out.trans hf2)))
      clear hk hwl hf2
      go_wp2
      go_ret3
      exact .inl ⟨k, HK.out.1, HK.out.2.1, rfl, HK.out.2.2⟩
    · have HK := Lib.hid (And.intro hi (And.intro (HR.out.trans hwl) (HF.out.trans hf2)))
      have c0 : w2.cell? ⟨g, 0, none⟩ = some (.int .i64 n) := hat.cell 0
      have c1 : w2.cell? ⟨g, 1, none⟩ = some (.bool b) := hat.cell 1
      clear hat hi hwl hf2
      go_wp2_with fail
      go_region
      all_goals
        go_wp2
        go_ret3
        exact .inr ⟨n, b, HK.out.2.1, HK.out.1, rfl, HK.out.2.2.drew⟩
end Go.Proofs.YtpmlggjhfiljmaaGreatDoor
