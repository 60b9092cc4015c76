/- Contracts that the law rests on, part 50 of 50 (TrlD, FsyP, TrlE, TopB, Sized). Each states its own conditions. -/
import Derived.SizedLaws
import Derived.ChangeSlices
import Derived.Test.YtpmlggjhfiljmaaGreatDoorB21
import Derived.Test.YtpmlggjhfiljmaaGreatDoorB48
import Derived.Test.YtpmlggjhfiljmaaGreatDoorB49
/- Layer 18: Do of a make. -/
namespace Go.Proofs.YtpmlggjhfiljmaaGreatDoor
open Go.RowKit
set_option linter.unusedVariables false
set_option linter.unnecessarySimpa false
set_option linter.unusedSimpArgs false
attribute [local go_sem ↓] Go.wp_at_zero Go.wp_at_succ

theorem enters_make : ∀ (args : Array Value) (W : World), Sem.run Tryz.prog (callFunc 99 args) W = .ok (.enter 99 args) W := by intro args w; go_simp
def fnV (f : FuncId) : Value := .func (.func f) #[] #[]
def kindsV : Array Value := #[fnV 98, fnV 99, fnV 100, fnV 101, fnV 102, fnV 103, fnV 104, fnV 105, fnV 106]
theorem kinds_any (w : World) : Calls Tryz.prog 48 #[] w fun e w' => e = .returned (.slice (some ⟨w.heap.size, 0, none⟩) 9 9) ∧ w' = w.alloc (.cells kindsV 109) := by
  go_enter Tryz.func48, Tryz.ntmps48
  go_wp2
  go_ret
  exact ⟨rfl, rfl⟩
set_option maxRecDepth 100000 in
set_option maxHeartbeats 3200000 in
theorem tdo_make (S : Int → Int → Nat → Nat → Nat → TreS → Nat → Prop) (pa pb : ByteArray) (is : Bool) (ca cn : Int) (F : Nat → Prop) (g : Nat) (enc c : Int) (hc : 0 ≤ c ∧ c ≤ 1000000) (p : Nat) (m n : Int) (k t q : Nat) (T : TreS) (qt : Nat) (w : World) (h : TrlAt w F g enc c p m n k t q T qt)
    (HS : ∀ W Ff f, FsAt W Ff f enc p m n k t q T qt → Calls Tryz.prog 29 #[.pointer (some ⟨f, 0, none⟩), .string pa, .bool is] W (FdoG S Ff f enc p m n W)) :
    Calls Tryz.prog 14 #[.pointer (some ⟨g, 0, none⟩), callV 1 pa pb is ca cn] w (TrlG S (fun a b => ansV b a false ⟨#[]⟩ (.slice none 0 0) 0) F g enc (c + 1) p m n w) := by
  have hen := enters_make
  obtain ⟨hc0, hc1⟩ := hc
  have hg0 := h
  obtain ⟨f, Ff, hb, hFg, hFf, hfg, hfs, hF⟩ := hg0
  have hgl := hb.lt
  obtain ⟨W5, hW5⟩ : ∃ W5, ((w.alloc (.cells #[.int .i64 1, .string pa, .string pb, .bool is, .int .i64 ca, .int .i64 cn] 44)).alloc (.cells #[.int .i64 0, .int .i64 0, .bool false, .string ⟨#[]⟩, .slice none 0 0, .int .i64 0] 40)) = W5 := ⟨_, rfl⟩
  have f5 : Fresh w W5 := by rw [← hW5]; exact ((Fresh.refl _).alloc _).alloc _
  have b5 : Blk W5 w.heap.size 44 #[.int .i64 1, .string pa, .string pb, .bool is, .int .i64 ca, .int .i64 cn] := by rw [← hW5]; exact (Blk.new _ _ _).keep ((Fresh.refl _).alloc _)
  have a5 : Blk W5 (w.heap.size + 1) 40 #[.int .i64 0, .int .i64 0, .bool false, .string ⟨#[]⟩, .slice none 0 0, .int .i64 0] := by
    rw [← hW5]
    have := Blk.new (w.alloc (.cells #[.int .i64 1, .string pa, .string pb, .bool is, .int .i64 ca, .int .i64 cn] 44)) 40 #[.int .i64 0, .int .i64 0, .bool false, .string ⟨#[]⟩, .slice none 0 0, .int .i64 0]
    rw [World.size_alloc] at this
    exact this
  have hz5 : W5.heap.size = w.heap.size + 2 := by rw [← hW5]; simp
  have c3 : W5.cell? ⟨g, 3, none⟩ = some (.int .i64 c) := (hb.keep f5).cell 3
  have z3 : W5.frozen? ⟨g, 3, none⟩ = false := (hb.keep f5).frozen 3
  have H := Lib.hid (And.intro h (And.intro f5 (And.intro b5 (And.intro a5 hz5))))
  clear h hb hfs hF hFf f5 b5 a5 hz5
  go_enter Tryz.func14, Tryz.ntmps14
  go_wp2_with fail
  obtain ⟨W6, hW6⟩ : ∃ W6, W5.setCell ⟨g, 3, none⟩ (.int .i64 (c + 1)) = W6 := ⟨_, rfl⟩
  have hu : Mut (fun j => j = g) W5 W6 := by rw [← hW6]; exact (Mut.refl (fun j => j = g) W5).setCell (p := ⟨g, 3, none⟩) (.inl rfl) _
  have hs6 : W6.heap.size = W5.heap.size := by rw [← hW6]; simp [World.setCell]
  have HT6 : Hid (TrlAt W6 F g enc (c + 1) p m n k t q T qt) := Lib.hid (by
    obtain ⟨f, Ff, hb, hFg, hFf, hfg, hfs, hF⟩ := H.out.1
    have hb6 : Blk W6 g 98 #[.pointer (some ⟨p, 0, none⟩), .pointer (some ⟨f, 0, none⟩), .int .i64 enc, .int .i64 (c + 1)] := by rw [← hW6]; exact (hb.keep H.out.2.1).set (i := 3) (u := .int .i64 (c + 1))
    exact ⟨f, Ff, hb6, hFg, hFf, hfg, (hfs.fresh H.out.2.1).mut hu (fun j hj e => hfg (e ▸ hj)), (hF.later H.out.2.1.size).later hu.size⟩)
  have hb6 : Blk W6 w.heap.size 44 #[.int .i64 1, .string pa, .string pb, .bool is, .int .i64 ca, .int .i64 cn] := H.out.2.2.1.mut hu (by omega)
  have ha6 : Blk W6 (w.heap.size + 1) 40 #[.int .i64 0, .int .i64 0, .bool false, .string ⟨#[]⟩, .slice none 0 0, .int .i64 0] := H.out.2.2.2.1.mut hu (by omega)
  have hs6' : W6.heap.size = w.heap.size + 2 := hs6.trans H.out.2.2.2.2
  rw [hW6]
  refine (kinds_any _).mono ?_
  rintro e w1 ⟨rfl, rfl⟩
  obtain ⟨W7, hW7⟩ : ∃ W7, W6.alloc (.cells kindsV 109) = W7 := ⟨_, rfl⟩
  have h67 : Fresh W6 W7 := by rw [← hW7]; exact (Fresh.refl _).alloc _
  have hk7 : Blk W7 (w.heap.size + 2) 109 kindsV := by rw [← hW7, ← hs6']; exact Blk.new _ _ _
  have hs7 : W7.heap.size = w.heap.size + 3 := by rw [← hW7]; simp; omega
  have HP : Hid (∀ W, Mut (fun j => F j ∨ j = w.heap.size + 1) W7 W → W.cell? ⟨w.heap.size, 0, none⟩ = some (.int .i64 1) ∧ W.cell? ⟨w.heap.size, 1, none⟩ = some (.string pa) ∧ W.cell? ⟨w.heap.size, 2, none⟩ = some (.string pb) ∧ W.cell? ⟨w.heap.size, 3, none⟩ = some (.bool is) ∧ W.cell? ⟨w.heap.size, 4, none⟩ = some (.int .i64 ca) ∧ W.cell? ⟨w.heap.size, 5, none⟩ = some (.int .i64 cn) ∧ W.cell? ⟨w.heap.size + 2, 1, none⟩ = some (.func (.func 99) #[] #[])) := Lib.hid (fun W hW => by
    have hFB := H.out.1.fb
    have n0 : ¬ (F w.heap.size ∨ w.heap.size = w.heap.size + 1) := fun h => by rcases h with h | h; (have := hFB _ h; omega); omega
    have n2 : ¬ (F (w.heap.size + 2) ∨ w.heap.size + 2 = w.heap.size + 1) := fun h => by rcases h with h | h; (have := hFB _ h; omega); omega
    have x := (hb6.keep h67).mut hW n0
    have y := hk7.mut hW n2
    exact ⟨x.cell 0, x.cell 1, x.cell 2, x.cell 3, x.cell 4, x.cell 5, y.cell 1⟩)
  have HM := Lib.hid (fun W (hW : Fresh W7 W) => tmake_any S 1 pa pb is ca cn F g enc (c + 1) p m n k t q T qt W ((HT6.out.fresh h67).fresh hW) (fun W' Ff f _ hfs => HS W' Ff f hfs))
  have ha7 := ha6.keep h67
  have H7 := Lib.hid (And.intro hu (And.intro h67 (And.intro ha7 (And.intro hs6' hs7))))
  obtain ⟨e0, e1, e2, e3, e4, e5, e6⟩ := HP.out W7 (Mut.refl _ _)
  rw [hs6']
  have hlt9 : (1 : Int) < 9 := by omega
  clear HS hu hs6 hb6 ha6 h67 hk7 hs7 ha7 hW6 hW5 c3 z3 hs6'
  go_wp2_with fail
  go_region_held3 (fun W => W.cell? ⟨w.heap.size, 0, none⟩ = some (.int .i64 1) ∧ W.cell? ⟨w.heap.size, 1, none⟩ = some (.string pa) ∧ W.cell? ⟨w.heap.size, 2, none⟩ = some (.string pb) ∧ W.cell? ⟨w.heap.size, 3, none⟩ = some (.bool is) ∧ W.cell? ⟨w.heap.size, 4, none⟩ = some (.int .i64 ca) ∧ W.cell? ⟨w.heap.size, 5, none⟩ = some (.int .i64 cn) ∧ W.cell? ⟨w.heap.size + 2, 1, none⟩ = some (.func (.func 99) #[] #[])) (first | (with_reducible exact hS8) | exact HP.out _ (by repeat (first | (with_reducible exact hm6) | exact Mut.refl _ _ | refine Mut.setCell ?_ (.inl (.inr rfl)) _ | refine Mut.drew ?_)) | go_keep) (first
    | (go_at_call 99; refine (HM.out _ (by repeat (first | exact Fresh.refl _ | refine Fresh.drew ?_))).mono ?_; rintro e w2 ⟨a, b, k2, t2, q2, T2, qt2, F2, hS, rfl, htr, hTB, hm, hg⟩; have hm5 : Mut F W7 w2 := (Fresh.andMut (by repeat (first | exact Fresh.refl _ | refine Fresh.drew ?_)) hm); have hm6 : Mut (fun j => F j ∨ j = w.heap.size + 1) W7 w2 := hm5.mono (fun j _ h => .inl h); have hS8 := HP.out w2 hm6; have ha2 := H7.out.2.2.1.mut hm5 (fun h => by have := H.out.1.fb _ h; omega); have x0 : w2.cell? ⟨w.heap.size + 1, 0, none⟩ = some (.int .i64 0) := ha2.cell 0; have y0 : w2.frozen? ⟨w.heap.size + 1, 0, none⟩ = false := ha2.frozen 0; have x1 : w2.cell? ⟨w.heap.size + 1, 1, none⟩ = some (.int .i64 0) := ha2.cell 1; have y1 : w2.frozen? ⟨w.heap.size + 1, 1, none⟩ = false := ha2.frozen 1; have x2 : w2.cell? ⟨w.heap.size + 1, 2, none⟩ = some (.bool false) := ha2.cell 2; have y2 : w2.frozen? ⟨w.heap.size + 1, 2, none⟩ = false := ha2.frozen 2; have x3 : w2.cell? ⟨w.heap.size + 1, 3, none⟩ = some (.string ⟨#[]⟩) := ha2.cell 3; have y3 : w2.frozen? ⟨w.heap.size + 1, 3, none⟩ = false := ha2.frozen 3; have x4 : w2.cell? ⟨w.heap.size + 1, 4, none⟩ = some (.slice none 0 0) := ha2.cell 4; have y4 : w2.frozen? ⟨w.heap.size + 1, 4, none⟩ = false := ha2.frozen 4; have x5 : w2.cell? ⟨w.heap.size + 1, 5, none⟩ = some (.int .i64 0) := ha2.cell 5; have y5 : w2.frozen? ⟨w.heap.size + 1, 5, none⟩ = false := ha2.frozen 5; have HM2 := Lib.hid (And.intro hS (And.intro htr (And.intro hTB (And.intro hm5 (And.intro hg ha2))))); clear hS htr hTB hm hg ha2))
  all_goals
    clear hS8 hm5 hm6 e0 e1 e2 e3 e4 e5 e6 hen hlt9
    rename_i hHeld
    clear hHeld
    have HZ := Lib.hid (And.intro (Blk.set6 HM2.out.2.2.2.2.2 (.int .i64 b) (.int .i64 a) (.bool false) (.string ⟨#[]⟩) (.slice none 0 0) (.int .i64 0)) (Mut.set6 (w := w2) (g := w.heap.size + 1) (.int .i64 b) (.int .i64 a) (.bool false) (.string ⟨#[]⟩) (.slice none 0 0) (.int .i64 0)))
    go_wp2
    have hz := HZ.out
    refine bodyPost_ret (v := ansV b a false ⟨#[]⟩ (.slice none 0 0) 0) ?_ rfl ?_
    · simp [results, Tryz.results14, go_sem, hz.1.cell 0, hz.1.cell 1, hz.1.cell 2, hz.1.cell 3, hz.1.cell 4, hz.1.cell 5]
    · have hu := HZ.out.2
      generalize ((((((w2.setCell ⟨w.heap.size + 1, 0, none⟩ (.int .i64 b)).setCell ⟨w.heap.size + 1, 1, none⟩ (.int .i64 a)).setCell ⟨w.heap.size + 1, 2, none⟩ (.bool false)).setCell ⟨w.heap.size + 1, 3, none⟩ (.string ⟨#[]⟩)).setCell ⟨w.heap.size + 1, 4, none⟩ (.slice none 0 0)).setCell ⟨w.heap.size + 1, 5, none⟩ (.int .i64 0)) = W9 at hu ⊢
      obtain ⟨hS, htr, hTB, hm5', hg, _⟩ := HM2.out
      obtain ⟨hug, h67, _, hs6, hs7⟩ := H7.out
      have hF := H.out.1.fb
      have s2 := hm5'.size
      have s9 := hu.size
      have hF2 : ∀ j, F2 j → F j ∨ (w.heap.size + 3 ≤ j ∧ j < w2.heap.size) := fun j hj => by
        rcases hg j hj with h | h
        · exact .inl h
        · have h1 : W7.heap.size ≤ j := h.1
          exact .inr ⟨by omega, h.2⟩
      have hFg : F g := by obtain ⟨f, Ff, hb, hFg, _⟩ := H.out.1; exact hFg
      refine ⟨a, b, k2, t2, q2, T2, qt2, F2, hS, rfl, htr.mut hu (fun j hj e => ?_), hTB, ?_, fun j hj => ?_⟩
      · rcases hF2 j hj with h | h
        · have := hF j h; omega
        · omega
      · have m1 : Mut F w W7 := (H.out.2.1.andMut (hug.mono (T := F) (fun j _ e => by rw [e]; exact hFg))).andFresh h67
        exact (m1.trans hm5').trans2 hu (fun _ h => h) (fun j hj e => by omega)
      · rcases hF2 j hj with h | h
        · exact .inl h
        · exact .inr ⟨by omega, by omega⟩
end Go.Proofs.YtpmlggjhfiljmaaGreatDoor
/- Layer 17, plain: the path of a name that stands in the root; the pool without numbers that were given back. -/
namespace Go.Proofs.YtpmlggjhfiljmaaGreatDoor
open Go.RowKit
set_option linter.unusedVariables false
set_option linter.unnecessarySimpa false
set_option linter.unusedSimpArgs false

/-- a name that may stand in a path -/
def PathN (s : ByteArray) : Prop := 1 ≤ s.size ∧ s.size ≤ 1000 ∧ (∀ b ∈ s.data.toList, b.toNat ≠ 47) ∧ s ≠ dotS ∧ s ≠ dotsS
theorem splL_plain : ∀ (l : List UInt8), (∀ b ∈ l, b.toNat ≠ 47) → splL l = [l]
  | [], _ => rfl
  | c :: l, h => by
    unfold splL
    rw [if_neg (h c (by simp)), splL_plain l (fun b hb => h b (by simp [hb]))]
theorem slash_size (s : ByteArray) : (slashS ++ s).size = s.size + 1 := by
  rw [ByteArray.size_append]
  show 1 + _ = _
  omega
theorem slash_rest (s : ByteArray) : restP (slashS ++ s) = s := by
  unfold restP
  rw [slash_size]
  exact ByteArray.extract_append_eq_right rfl (by show _ = 1 + _; omega)
theorem slash_head (s : ByteArray) : ((slashS ++ s).data.toList.getD 0 0).toNat = 47 := by
  have : (slashS ++ s).data.toList = 47 :: s.data.toList := by rw [ByteArray.data_append, Array.toList_append]; rfl
  rw [this]; rfl
theorem badN_one {s : ByteArray} (h : PathN s) : ¬ badN [s] = true := by
  obtain ⟨h1, h2, h3, h4, h5⟩ := h
  intro hb
  unfold badN at hb
  simp only [List.any_cons, List.any_nil, Bool.or_false, Bool.or_eq_true, beq_iff_eq] at hb
  rcases hb with (hb | hb) | hb
  · rw [toList_inj] at hb; rw [hb] at h1; exact absurd h1 (by decide)
  · exact h4 (toList_inj.1 hb)
  · exact h5 (toList_inj.1 hb)
theorem splB_one {s : ByteArray} (h : PathN s) : splB s = [s] := by
  unfold splB
  rw [splL_plain _ h.2.2.1]
  simp
theorem splitP_one {s : ByteArray} (h : PathN s) : splitP (slashS ++ s) = .inl [s] := by
  have h1 := h.1
  have h2 := h.2.1
  unfold splitP
  rw [slash_size, slash_rest, splB_one h, slash_head]
  rw [if_neg (by omega), if_neg (by simp), if_neg (by omega), if_neg (badN_one h), if_neg (by simp)]
theorem parT_one {enc : Int} {T : TreS} {s : ByteArray} (h : PathN s) : parT enc T (slashS ++ s) = .inl (0, s) := by
  unfold parT
  rw [splitP_one h]
  rfl
/-- the root's entries -/
def rootL (T : TreS) : List Ent := (T.dirs 0).getD []
theorem atR_one {enc : Int} {T : TreS} {s : ByteArray} (h : PathN s) : atR enc T (slashS ++ s) = match (rootL T).find? (faceB enc s) with
    | none => (0, s, ent0, 5)
    | some e => (0, s, e, 0) := by
  unfold atR
  rw [parT_one h]
  rfl
theorem freshR_one {enc : Int} {T : TreS} {s : ByteArray} (h : PathN s) (hf : (rootL T).find? (faceB enc s) = none) : freshR enc T (slashS ++ s) = (0, (rawF enc s).1, (rawF enc s).2) := by
  have h1 := h.1
  unfold freshR
  rw [atR_one h, hf]
  simp only
  rw [if_neg (by decide), if_neg (by intro q; rcases q with q | q; exact q rfl; omega)]
theorem next_le {O : Int → Bool} {fr k : Int} (hO : OutOK O) (hf : fr ≤ 201) (h : NextIs O fr k) : k ≤ 201 := by
  obtain ⟨h1, h2, h3⟩ := h
  rcases (by omega : 201 < k ∨ k ≤ 201) with q | q
  · have := (hO _ (h3 201 hf q)).2; omega
  · exact q
/-- of a pool without numbers that were given back -/
def RNew (T : TreS) (k fr : Int) (bk : List Int) : Prop := NextIs T.out T.fr k ∧ fr = k ∧ bk = []
theorem takes_new {T : TreS} {qt : Nat} (hb : T.bk = []) (hO : OutOK T.out) (hf : 1 ≤ T.fr ∧ T.fr ≤ 201) (hq : qt ≤ 1000000) : Takes (RNew T) T qt := by
  intro W A p h
  rw [hb] at h
  refine (take_new W A p T.fr T.out qt h hO hf hq).mono ?_
  rintro e w' ⟨k, A', hn, hm, hg, h⟩
  have hk := next_le hO hf.2 hn
  have h1 := hn.1
  refine ⟨k, k, [], A', ⟨hn, rfl, rfl⟩, ⟨by omega, by omega⟩, hm, hg, ?_⟩
  rcases h with ⟨h1, h2, h3⟩ | ⟨h1, h2, h3⟩
  · exact .inl ⟨h1, h2, h3⟩
  · exact .inr ⟨h1, h2, h3.le (by omega)⟩
theorem IsT0.root {T : TreS} (h : IsT0 T) : rootL T = [] := by
  unfold rootL
  rw [h.1]
  rfl
theorem IsT0.out {T : TreS} (h : IsT0 T) : OutOK T.out := fun i hi => by rw [h.2.2.2.1] at hi; cases hi
theorem IsT0.takes {T : TreS} {qt : Nat} (h : IsT0 T) (hq : qt ≤ 1000000) : Takes (RNew T) T qt := takes_new h.2.2.2.2.2 h.out (by rw [h.2.2.2.2.1]; omega) hq
theorem IsT0.first {T : TreS} (h : IsT0 T) {k fr : Int} {bk : List Int} (hr : RNew T k fr bk) : k = 1 := by
  obtain ⟨⟨h1, h2, h3⟩, _, _⟩ := hr
  rw [h.2.2.2.2.1] at h1 h3
  rcases (by omega : 1 < k ∨ k ≤ 1) with q | q
  · have := h3 1 (by omega) q; rw [h.2.2.2.1] at this; cases this
  · omega
end Go.Proofs.YtpmlggjhfiljmaaGreatDoor
/- Layer 17: Make in a root without entries; the first word of the great statements: awake. -/
namespace Go.Proofs.YtpmlggjhfiljmaaGreatDoor
open Go.RowKit
set_option linter.unusedVariables false
set_option linter.unnecessarySimpa false
set_option linter.unusedSimpArgs false
attribute [local go_sem ↓] Go.wp_at_zero Go.wp_at_succ

/-- what Make of a name in a root without entries answers, and the state behind it -/
def NewS (T : TreS) (raw : ByteArray) (isDir : Bool) (q qt : Nat) (a b : Int) (k2 t2 q2 : Nat) (T2 : TreS) (qt2 : Nat) : Prop :=
  a = 1 ∧ b = 0 ∧ k2 = 1 ∧ t2 = 2 + kfr (raw.size + 9) ∧ q2 = q + kfr (raw.size + 9) ∧ T2 = linkT T 0 raw isDir 0 1 1 [] ∧ qt2 = qt + 3
theorem newS_of {T : TreS} {raw : ByteArray} {isDir : Bool} {q qt : Nat} (h0 : IsT0 T) (hg : GoodN raw) {a b : Int} {k2 t2 q2 : Nat} {T2 : TreS} {qt2 : Nat}
    (h : MakeS (LinkS (RNew T) T 0 raw isDir 0 0 2 q qt) (0, raw, 0) 0 2 q T qt a b k2 t2 q2 T2 qt2) : NewS T raw isDir q qt a b k2 t2 q2 T2 qt2 := by
  have hd : T.dirs 0 = some [] := by rw [h0.1]; rfl
  rcases h with ⟨h, _⟩ | ⟨_, h⟩
  · exact absurd rfl h
  · rcases h with ⟨hb, ha, h, _⟩ | ⟨_, fr, bk, hr, hi, rfl, rfl, rfl, rfl, rfl, rfl⟩
    · exfalso
      rcases h with (⟨h, _⟩ | ⟨l, hl, h⟩) | ⟨_, _, k, fr, bk, hr, hk⟩
      · rw [hd] at h; cases h
      · rw [hd] at hl
        injection hl with hl
        subst hl
        rcases h with ⟨h, _⟩ | ⟨_, h, _⟩ | ⟨_, _, _, h, _⟩
        · exact h hg
        · exact h (by omega)
        · exact absurd h (by unfold fidx; decide)
      · have := h0.first hr; omega
    · have e := h0.first hr
      obtain ⟨_, e2, e3⟩ := hr
      subst e3
      rw [e] at e2
      subst e2
      subst e
      exact ⟨rfl, rfl, rfl, rfl, rfl, rfl, rfl⟩
theorem FdoG.mono {S S' : Int → Int → Nat → Nat → Nat → TreS → Nat → Prop} {F : Nat → Prop} {f : Nat} {enc : Int} {p : Nat} {m n : Int} {w : World} {e : Ending} {w' : World} (h : FdoG S F f enc p m n w e w') (hs : ∀ a b k t q T qt, S a b k t q T qt → S' a b k t q T qt) : FdoG S' F f enc p m n w e w' := by
  obtain ⟨a, b, k, t, q, T, qt, F', h1, h2⟩ := h
  exact ⟨a, b, k, t, q, T, qt, F', hs _ _ _ _ _ _ _ h1, h2⟩
theorem fmake_t0 (enc : Int) (F : Nat → Prop) (f p : Nat) (m n : Int) (q : Nat) (T : TreS) (qt : Nat) (w : World) (h : FsAt w F f enc p m n 0 2 q T qt) (hT : IsT0 T) (hqt : qt ≤ 10) (s raw : ByteArray) (hs : PathN s) (hr : rawF enc s = (raw, 0)) (hg : GoodN raw) (isDir : Bool)
    (h0 : 0 ≤ enc) (h8 : enc ≤ 8) (hm : 0 ≤ m ∧ m + m ≤ n) (hn : n ≤ 1000000) (hfit : 7 ≤ m) (hq : q ≤ 70000) :
    Calls Tryz.prog 29 #[.pointer (some ⟨f, 0, none⟩), .string (slashS ++ s), .bool isDir] w (FdoG (NewS T raw isDir q qt) F f enc p m n w) := by
  have hB := TB.t0 hT (qt := qt) (by omega)
  have hfr : freshR enc T (slashS ++ s) = (0, raw, 0) := by rw [freshR_one hs (by rw [hT.root]; rfl), hr]
  have hsz := hs.2.1
  have H := fmake_any (LinkS (RNew T) T 0 raw isDir 0 0 2 q qt) F f enc p m n 0 2 q T qt w h (TOK.t0 hT) (slashS ++ s) isDir (by rw [slash_size]; omega) h0 h8 (fun _ W Fs s' _ hst => by
    rw [hfr]
    exact sdo_link (RNew T) Fs s' p m n 0 2 q T qt W hst (hT.takes (by omega)) (fun i fr bk hR => by rw [hR.2.2]; simp) 0 raw isDir 0 (by omega) (by omega) hg.2.1 hB (by omega) (fun i l hl => by
      rw [hT.1] at hl
      split at hl
      · injection hl with hl; subst hl; simp
      · cases hl) (by rw [hT.2.1]; omega) hm hn (by omega) (by omega) hq (by omega))
  rw [hfr] at H
  exact H.mono fun e w' h' => (h'.fdo h hB).mono fun a b k2 t2 q2 T2 qt2 hS => newS_of hT hg hS
theorem rawF_a : rawF 4 ⟨#[97]⟩ = (⟨#[97]⟩, 0) := by decide +kernel
theorem pathN_a : PathN ⟨#[97]⟩ := ⟨by decide, by decide, by decide, by decide, by decide⟩
theorem good_a : GoodN ⟨#[97]⟩ := (goodB_iff _).1 (by decide +kernel)
set_option maxRecDepth 100000 in
set_option maxHeartbeats 3200000 in
/-- a file system is made on a device, mounted, and a name is made -/
theorem awake_any (w : World) : Calls Tryz.prog 8 #[] w fun e w' => e = .returned (.bool true) ∧ Fresh w w' := by
  have HST := Lib.hid (fun W => start_any 30 4 15 rfl (by omega) (by omega) (by omega) (by omega) W)
  have HDO := Lib.hid (fun F g p T qt W (h : TrlAt W F g 4 0 p 15 30 0 2 5 T qt) (hT : IsT0 T) (hq : qt ≤ 10) => tdo_make (NewS T ⟨#[97]⟩ true 5 qt) ⟨#[47, 97]⟩ ⟨#[]⟩ true 0 0 F g 4 0 (by omega) p 15 30 0 2 5 T qt W h (fun W' Ff f hfs => fmake_t0 4 Ff f p 15 30 5 T qt W' hfs hT hq ⟨#[97]⟩ ⟨#[97]⟩ pathN_a rawF_a good_a true (by omega) (by omega) (by omega) (by omega) (by omega) (by omega)))
  have hfd : ∀ w : World, (Instr.field 40 (.agg #[.int .i64 0, .int .i64 1, .bool false, .string ⟨#[]⟩, .slice none 0 0, .int .i64 0]) 1).run Tryz.prog w = .ok (.int .i64 1) w := fun _ => by kernel_rfl
  go_enter Tryz.func8, Tryz.ntmps8
  go_wp2_with fail
  refine (HST.out _).mono ?_
  rintro e w1 ⟨g, p, T, qt, F, rfl, htr, hT0, hqt, hf1, hF⟩
  have H1 := Lib.hid (And.intro htr (And.intro hT0 (And.intro hqt (And.intro hf1 hF))))
  clear htr hT0 hqt hf1 hF
  go_wp2_with fail
  refine (HDO.out F g p T qt _ H1.out.1 H1.out.2.1 H1.out.2.2.1).mono ?_
  rintro e w2 ⟨a, b, k, t, q, T2, qt2, F', ⟨rfl, rfl, _⟩, rfl, htr, hTB, hm, hg⟩
  have HF : Hid (Fresh w w2) := Lib.hid (H1.out.2.2.2.1.mut2 hm H1.out.2.2.2.2)
  clear htr hTB hm hg
  unfold ansV
  go_wp2
  go_ret
  exact ⟨rfl, HF.out⟩
end Go.Proofs.YtpmlggjhfiljmaaGreatDoor
/- TopBack: the walk. -/
namespace Go.Proofs.YtpmlggjhfiljmaaGreatDoor
open Go.RowKit
set_option linter.unusedVariables false
set_option linter.unnecessarySimpa false
set_option linter.unusedSimpArgs false

theorem wfU8 {r : Int} (h : (Lit.int .u8 r).wf = true) : 0 ≤ r ∧ r < 256 := by
  simp [Lit.wf, IntKind.min, IntKind.max, IntKind.signed, IntKind.bits] at h
  omega
theorem back_all {enc : Int} {raw : ByteArray} (h0 : 0 ≤ enc) (h8 : enc ≤ 8) : allFrom (presS enc raw) 0 = some (presC enc raw) := by
  unfold presS
  rw [all_join]
  congr 1
  exact List.filter_eq_self.2 (fun c hc => pres_chars h0 h8 (pcs_chain h0 h8) c hc)
theorem back_raw {enc : Int} {raw : ByteArray} (h0 : 0 ≤ enc) (h8 : enc ≤ 8) (hg : GoodN raw) : rawF enc (presS enc raw) = if 255 < (presS enc raw).size then (ByteArray.empty, 4) else (raw, 0) := by
  unfold rawF
  rw [restF_pres h0 h8 hg]
theorem back_tog (raw : ByteArray) : tog (presC 8 raw) = presC 8 raw := pres_tog (pcs_chain (by omega) (by omega))
theorem isC_32 {l : List Int} (h : ∀ c ∈ l, isC c = true) : In32 l := fun c hc => by
  have := h c hc
  unfold isC at this
  simp at this
  omega
set_option maxRecDepth 100000 in
set_option maxHeartbeats 6400000 in
theorem back_good (a : Int) (raw : ByteArray) (w : World) (ha : 0 ≤ a ∧ a < 256) (hg : GoodN raw) :
    Calls Tryz.prog 4 #[.int .u8 a, .string raw] w fun e w' => e = .returned (.bool true) ∧ Below w.heap.size w w' := by
  have hk : 0 ≤ a % 9 ∧ a % 9 ≤ 8 := by omega
  have hrs := hg.2.1
  have hsz := presS_size (enc := a % 9) (s := raw) hk.1 hk.2
  have hlen := presC_len (enc := a % 9) (s := raw) hk.1 hk.2
  have HG := Lib.hid (fun W => good_any raw W)
  have HP := Lib.hid (fun W => present_any (a % 9) raw hk.1 hk.2 (by omega) W)
  have HLO := Lib.hid (fun W => long_any (a % 9) raw hk.1 hk.2 (by omega) W)
  have hal := back_all (raw := raw) hk.1 hk.2
  have hra := back_raw hk.1 hk.2 hg
  have hch : ∀ c ∈ presC (a % 9) raw, isC c = true := fun c hc => pres_chars hk.1 hk.2 (pcs_chain hk.1 hk.2) c hc
  have h32 := isC_32 hch
  have htg : a % 9 = 8 → tog (presC (a % 9) raw) = presC (a % 9) raw := fun h => by rw [h]; exact back_tog raw
  obtain ⟨s, hs⟩ : ∃ s, presS (a % 9) raw = s := ⟨_, rfl⟩
  obtain ⟨l, hl⟩ : ∃ l, presC (a % 9) raw = l := ⟨_, rfl⟩
  rw [hs] at hsz HP HLO hal hra
  rw [hl] at hlen hal h32 htg
  have hss : s.size ≤ 3060 := by omega
  have hll : l.length ≤ 765 := by omega
  have HAL := Lib.hid (fun W => refAll_any s (by omega) W)
  unfold AllPost at HAL
  rw [hal] at HAL
  have HR := Lib.hid (fun W => fraw_any (a % 9) s hk.1 hk.2 (by omega) W)
  unfold RawPost at HR
  rw [hra] at HR
  have HSM := Lib.hid (fun u v W (hu : Sl W u l) (hv : Sl W v l) => refSame_any u v l l W hu hv (by omega) (by omega))
  have HTG := Lib.hid (fun u W (hu : Sl W u l) (h : a % 9 = 8) => ctog_any u l W hu (by omega) h32)
  have HTT := Lib.hid htg
  have HGG := Lib.hid hg
  clear hal hra h32 hch htg hg hs hl hsz hlen hll
  obtain ⟨enc, he⟩ : ∃ enc, a % 9 = enc := ⟨_, rfl⟩
  rw [he] at HP HLO HR HTG HTT hk
  go_enter Tryz.func4, Tryz.ntmps4
  go_wp2_with fail
  refine (awake_any _).mono ?_
  rintro e w1 ⟨rfl, h1⟩
  have H1 := Lib.hid h1
  clear h1
  go_wp2_with fail
  refine (HG.out _).mono ?_
  rintro e w2 ⟨b, rfl, hb, h2⟩
  obtain rfl : b = true := hb.2 HGG.out
  have H2 := Lib.hid (H1.out.trans h2)
  clear h2 hb H1
  go_wp2_with fail
  refine (HP.out _).mono ?_
  rintro e w3 ⟨rfl, h3⟩
  have H3 := Lib.hid (H2.out.trans h3)
  clear h3 H2
  go_wp2_with fail
  refine (HAL.out _).mono ?_
  rintro e w4 ⟨v, rfl, hv, h4⟩
  have H4 := Lib.hid (And.intro hv (H3.out.trans h4))
  clear h4 hv H3
  by_cases h255 : 255 < s.size
  · rw [if_pos h255] at HR
    have i1 : (255 : Int) < (s.size : Int) := by omega
    have hdc : decide (255 < (s.size : Int)) = true := decide_eq_true i1
    rw [hdc] at HLO
    clear hdc
    go_wp2_with fail
    refine (HR.out _).mono ?_
    rintro e w5 ⟨rfl, h5⟩
    have H5 := Lib.hid (And.intro (H4.out.1.keep h5) (H4.out.2.trans h5))
    clear h5 H4
    go_wp2_with fail
    refine (HLO.out _).mono ?_
    rintro e w6 ⟨rfl, h6⟩
    have H6 := Lib.hid (And.intro (H5.out.1.keep h6) (H5.out.2.trans h6))
    clear h6 H5
    by_cases h8 : enc = 8
    · go_wp2_with fail
      refine (HTG.out v _ H6.out.1.sl h8).mono ?_
      rintro e w7 ⟨v7, rfl, hv7, h7⟩
      rw [HTT.out h8] at hv7
      have H7 := Lib.hid (And.intro hv7 (And.intro (H6.out.1.keep h7) (H6.out.2.trans h7)))
      clear hv7 h7 H6
      go_wp2_with fail
      refine (HSM.out v7 v _ H7.out.1.sl H7.out.2.1.sl).mono ?_
      rintro e w8 ⟨rfl, h8'⟩
      rw [decide_eq_true rfl]
      have HF := Lib.hid (H7.out.2.2.trans h8')
      clear h8' H7
      go_wp2
      go_ret
      exact ⟨rfl, HF.out.below⟩
    · go_wp2
      go_ret
      exact ⟨rfl, H6.out.2.below⟩
  · rw [if_neg h255] at HR
    have i1 : ¬ (255 : Int) < (s.size : Int) := by omega
    have hdc : decide (255 < (s.size : Int)) = false := decide_eq_false i1
    rw [hdc] at HLO
    clear hdc
    go_wp2_with fail
    refine (HR.out _).mono ?_
    rintro e w5 ⟨rfl, h5⟩
    have H5 := Lib.hid (And.intro (H4.out.1.keep h5) (H4.out.2.trans h5))
    clear h5 H4
    go_wp2_with fail
    refine (HLO.out _).mono ?_
    rintro e w6 ⟨rfl, h6⟩
    have H6 := Lib.hid (And.intro (H5.out.1.keep h6) (H5.out.2.trans h6))
    clear h6 H5
    by_cases h8 : enc = 8
    · go_wp2_with fail
      refine (HTG.out v _ H6.out.1.sl h8).mono ?_
      rintro e w7 ⟨v7, rfl, hv7, h7⟩
      rw [HTT.out h8] at hv7
      have H7 := Lib.hid (And.intro hv7 (And.intro (H6.out.1.keep h7) (H6.out.2.trans h7)))
      clear hv7 h7 H6
      go_wp2_with fail
      refine (HSM.out v7 v _ H7.out.1.sl H7.out.2.1.sl).mono ?_
      rintro e w8 ⟨rfl, h8'⟩
      rw [decide_eq_true rfl]
      have HF := Lib.hid (H7.out.2.2.trans h8')
      clear h8' H7
      go_wp2
      go_ret
      exact ⟨rfl, HF.out.below⟩
    · go_wp2
      go_ret
      exact ⟨rfl, H6.out.2.below⟩
theorem walk_TopBack (a : Int) (raw : ByteArray) (w : World) (ha : (Lit.int .u8 a).wf = true) (hr : raw.size ≤ 140737488351232) :
    Calls Tryz.prog 4 #[.int .u8 a, .string raw] w fun e w' => e = .returned (.bool true) ∧ Below w.heap.size w w' := by
  have ha := wfU8 ha
  by_cases hg : GoodN raw
  · exact back_good a raw w ha hg
  · have HG := Lib.hid (fun W => good_any raw W)
    have HGG := Lib.hid hg
    clear hg
    go_enter Tryz.func4, Tryz.ntmps4
    go_wp2_with fail
    refine (awake_any _).mono ?_
    rintro e w1 ⟨rfl, h1⟩
    have H1 := Lib.hid h1
    clear h1
    go_wp2_with fail
    refine (HG.out _).mono ?_
    rintro e w2 ⟨b, rfl, hb, h2⟩
    obtain rfl : b = false := by cases b; rfl; exact absurd (hb.1 rfl) HGG.out
    have H2 := Lib.hid (H1.out.trans h2)
    clear h2 hb H1
    go_wp2_with fail
    refine (awake_any _).mono ?_
    rintro e w3 ⟨rfl, h3⟩
    go_wp2
    go_ret
    exact ⟨rfl, (H2.out.trans h3).below⟩
end Go.Proofs.YtpmlggjhfiljmaaGreatDoor
/- A row's slice of whole numbers is no longer than its weight allows. -/
namespace Go.Proofs.YtpmlggjhfiljmaaGreatDoor
open Go.ChangeShapes Go.WideShapes
theorem sized_ints {H : Type} {enc : TypeId × Value → H} {P : Program} {W : World} {base : Nat} {spare : Nat → Bool} {held : Bool} {t e : TypeId} {k : IntKind} {a : Option Addr} {len cap : Nat} {d : DataW H} {ps : List MemPlace} {ts : List TypeId} {ds : List (DataW H)} {j : Nat}
    (hsz : (DataW.weightsEach P ts ds).all (· ≤ reachBytes) = true) (ht : ts[j]? = some t) (hd : ds[j]? = some d) (hu : P.underlying t = some (.slice e)) (he : P.underlying e = some (.int k)) (hc : P.cellsOf e = 1) {B : Nat} (hB : P.bytesOf e = B)
    (h : DataW.Trod enc P W base spare held t (.slice a len cap) d ps) : len * B ≤ 140737488351232 := by
  obtain ⟨fuel, hf⟩ := h
  rcases open_ints hu he hc hf with ⟨hcs, _⟩ | ⟨x, l, c, zs, hcs, _, hl, _, hz, hx, _, _⟩
  · simp [Value.cells] at hcs
    obtain ⟨rfl, rfl, rfl⟩ := hcs
    simp
  · simp [Value.cells] at hcs
    obtain ⟨rfl, rfl, rfl⟩ := hcs
    obtain ⟨hx, _⟩ := Prod.mk.inj hx
    subst hx
    have z := sized_slice hsz ht hd hu
    rw [hB] at z
    have hl2 : len ≤ zs.length := by
      rw [hz]
      split
      · exact hl
      · exact Nat.le_refl _
    have h1 : (lits (H := H) k (zs.take len)).length + (lits (H := H) k (zs.drop len)).length = zs.length := by
      simp [lits]
      omega
    rw [h1] at z
    exact Nat.le_trans (Nat.mul_le_mul_right _ hl2) z
end Go.Proofs.YtpmlggjhfiljmaaGreatDoor
