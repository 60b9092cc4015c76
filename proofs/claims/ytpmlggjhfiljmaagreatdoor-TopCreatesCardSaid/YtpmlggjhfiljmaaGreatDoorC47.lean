/- Contracts that the law rests on, part 47 of 50 (TrlC, TrlD). Each states its own conditions. -/
import Derived.Test.YtpmlggjhfiljmaaGreatDoorC46
/- Layer 18: make. -/
namespace Go.Proofs.YtpmlggjhfiljmaaGreatDoor
open Go.RowKit
set_option linter.unusedVariables false
set_option linter.unnecessarySimpa false
set_option linter.unusedSimpArgs false
attribute [local go_sem ↓] Go.wp_at_zero Go.wp_at_succ
/-- Make's answer: an error ahead of the deed, or the deed's -/
def MakeS (S : Int → Int → Nat → Nat → Nat → TreS → Nat → Prop) (r : Int × ByteArray × Int) (k t q : Nat) (T : TreS) (qt : Nat) (a b : Int) (k2 t2 q2 : Nat) (T2 : TreS) (qt2 : Nat) : Prop :=
  (r.2.2 ≠ 0 ∧ a = 0 ∧ b = r.2.2 ∧ k2 = k ∧ t2 = t ∧ q2 = q ∧ T2 = T ∧ qt2 = qt) ∨ (r.2.2 = 0 ∧ S a b k2 t2 q2 T2 qt2)
theorem MakeG.fdo {S : Int → Int → Nat → Nat → Nat → TreS → Nat → Prop} {r : Int × ByteArray × Int} {F : Nat → Prop} {f : Nat} {enc : Int} {p : Nat} {m n : Int} {k t q : Nat} {T : TreS} {qt : Nat} {w : World} {e : Ending} {w' : World} (hfs : FsAt w F f enc p m n k t q T qt) (hB : TB T qt) (h : MakeG S r F f enc p m n w e w') : FdoG (MakeS S r k t q T qt) F f enc p m n w e w' := by
  rcases h with ⟨h1, rfl, hf⟩ | ⟨h1, a, b, k2, t2, q2, T2, qt2, F2, hS, rfl, h3, h4, h5, h6⟩
  · exact ⟨0, _, k, t, q, T, qt, F, .inl ⟨h1, rfl, rfl, rfl, rfl, rfl, rfl, rfl⟩, rfl, hfs.fresh hf, hB, hf.mut F, (Gr.refl F w).later hf.size⟩
  · exact ⟨a, b, k2, t2, q2, T2, qt2, F2, .inr ⟨h1, hS⟩, rfl, h3, h4, h5, h6⟩
abbrev callV (kind : Int) (a b : ByteArray) (is : Bool) (at_ n : Int) : Value := .agg #[.int .i64 kind, .string a, .string b, .bool is, .int .i64 at_, .int .i64 n]
def TrlG (S : Int → Int → Nat → Nat → Nat → TreS → Nat → Prop) (V : Int → Int → Value) (F : Nat → Prop) (g : Nat) (enc c : Int) (p : Nat) (m n : Int) (w : World) (e : Ending) (w' : World) : Prop :=
  ∃ a b k t q T qt F', S a b k t q T qt ∧ e = .returned (V a b) ∧ TrlAt w' F' g enc c p m n k t q T qt ∧ TB T qt ∧ Mut F w w' ∧ Gr F w w' F'
theorem TrlAt.fb {w : World} {F : Nat → Prop} {g : Nat} {enc c : Int} {p : Nat} {m n : Int} {k t q : Nat} {T : TreS} {qt : Nat} (h : TrlAt w F g enc c p m n k t q T qt) : FB F w := by obtain ⟨f, Ff, h1, h2, h3, h4, h5, h6⟩ := h; exact h6
theorem TrlAt.mut {S F : Nat → Prop} {w w' : World} {g : Nat} {enc c : Int} {p : Nat} {m n : Int} {k t q : Nat} {T : TreS} {qt : Nat} (h : TrlAt w F g enc c p m n k t q T qt) (hf : Mut S w w') (hn : ∀ j, F j → ¬ S j) : TrlAt w' F g enc c p m n k t q T qt := by
  obtain ⟨f, Ff, h1, h2, h3, h4, h5, h6⟩ := h
  exact ⟨f, Ff, h1.mut hf (hn _ h2), h2, h3, h4, h5.mut hf (fun j hj => hn _ (h3 j hj)), h6.later hf.size⟩
theorem TrlAt.fresh {F : Nat → Prop} {w w' : World} {g : Nat} {enc c : Int} {p : Nat} {m n : Int} {k t q : Nat} {T : TreS} {qt : Nat} (h : TrlAt w F g enc c p m n k t q T qt) (hf : Fresh w w') : TrlAt w' F g enc c p m n k t q T qt := h.mut (hf.mut fun _ => False) (fun _ _ q => q)
abbrev ansV (err node : Int) (is : Bool) (text : ByteArray) (names : Value) (next : Int) : Value := .agg #[.int .i64 err, .int .i64 node, .bool is, .string text, names, .int .i64 next]
theorem Blk.set6 {w : World} {g : Nat} {t : TypeId} {q0 q1 q2 q3 q4 q5 : Value} (h : Blk w g t #[q0, q1, q2, q3, q4, q5]) (a b c d e f : Value) : Blk ((((((w.setCell ⟨g, 0, none⟩ a).setCell ⟨g, 1, none⟩ b).setCell ⟨g, 2, none⟩ c).setCell ⟨g, 3, none⟩ d).setCell ⟨g, 4, none⟩ e).setCell ⟨g, 5, none⟩ f) g t #[a, b, c, d, e, f] := by
  have h0 : Blk _ g t #[a, q1, q2, q3, q4, q5] := h.set (i := 0) (u := a)
  have h1 : Blk _ g t #[a, b, q2, q3, q4, q5] := h0.set (i := 1) (u := b)
  have h2 : Blk _ g t #[a, b, c, q3, q4, q5] := h1.set (i := 2) (u := c)
  have h3 : Blk _ g t #[a, b, c, d, q4, q5] := h2.set (i := 3) (u := d)
  have h4 : Blk _ g t #[a, b, c, d, e, q5] := h3.set (i := 4) (u := e)
  exact h4.set (i := 5) (u := f)
theorem Mut.set6 {w : World} {g : Nat} (a b c d e f : Value) : Mut (fun j => j = g) w ((((((w.setCell ⟨g, 0, none⟩ a).setCell ⟨g, 1, none⟩ b).setCell ⟨g, 2, none⟩ c).setCell ⟨g, 3, none⟩ d).setCell ⟨g, 4, none⟩ e).setCell ⟨g, 5, none⟩ f) :=
  ((((((Mut.refl (fun j => j = g) w).setCell (p := ⟨g, 0, none⟩) (.inl rfl) a).setCell (p := ⟨g, 1, none⟩) (.inl rfl) b).setCell (p := ⟨g, 2, none⟩) (.inl rfl) c).setCell (p := ⟨g, 3, none⟩) (.inl rfl) d).setCell (p := ⟨g, 4, none⟩) (.inl rfl) e).setCell (p := ⟨g, 5, none⟩) (.inl rfl) f
set_option maxRecDepth 100000 in
set_option maxHeartbeats 3200000 in
theorem tmake_any (S : Int → Int → Nat → Nat → Nat → TreS → Nat → Prop) (kind : Int) (pa pb : ByteArray) (is : Bool) (ca cn : Int) (F : Nat → Prop) (g : Nat) (enc c : Int) (p : Nat) (m n : Int) (k t q : Nat) (T : TreS) (qt : Nat) (w : World) (h : TrlAt w F g enc c p m n k t q T qt)
    (HS : ∀ W Ff f, Fresh w W → FsAt W Ff f enc p m n k t q T qt → Calls Tryz.prog 29 #[.pointer (some ⟨f, 0, none⟩), .string pa, .bool is] W (FdoG S Ff f enc p m n W)) :
    Calls Tryz.prog 99 #[.pointer (some ⟨g, 0, none⟩), callV kind pa pb is ca cn] w (TrlG S (fun a b => ansV b a false ⟨#[]⟩ (.slice none 0 0) 0) F g enc c p m n w) := by
  obtain ⟨f, Ff, hb, hFg, hFf, hfg, hfs, hF⟩ := h
  obtain ⟨W5, hW5⟩ : ∃ W5, ((w.alloc (.cells #[.int .i64 kind, .string pa, .string pb, .bool is, .int .i64 ca, .int .i64 cn] 44)).alloc (.cells #[.int .i64 0, .int .i64 0, .bool false, .string ⟨#[]⟩, .slice none 0 0, .int .i64 0] 40)) = W5 := ⟨_, rfl⟩
  have f5 : Fresh w W5 := by rw [← hW5]; exact ((Fresh.refl _).alloc _).alloc _
  have b5 : Blk W5 w.heap.size 44 #[.int .i64 kind, .string pa, .string pb, .bool is, .int .i64 ca, .int .i64 cn] := by rw [← hW5]; exact (Blk.new _ _ _).keep ((Fresh.refl _).alloc _)
  have a5 : Blk W5 (w.heap.size + 1) 40 #[.int .i64 0, .int .i64 0, .bool false, .string ⟨#[]⟩, .slice none 0 0, .int .i64 0] := by
    rw [← hW5]
    have := Blk.new (w.alloc (.cells #[.int .i64 kind, .string pa, .string pb, .bool is, .int .i64 ca, .int .i64 cn] 44)) 40 #[.int .i64 0, .int .i64 0, .bool false, .string ⟨#[]⟩, .slice none 0 0, .int .i64 0]
    rw [World.size_alloc] at this
    exact this
  have hz5 : W5.heap.size = w.heap.size + 2 := by rw [← hW5]; simp
  have HZ5 := Lib.hid hz5
  clear hz5
  have hn0 : ¬ Ff w.heap.size := fun h => by have := hF _ (hFf _ h); omega
  have hn1 : ¬ Ff (w.heap.size + 1) := fun h => by have := hF _ (hFf _ h); omega
  have hgl := hb.lt
  have hne1 : g ≠ w.heap.size + 1 := by omega
  have hne2 : g ≠ w.heap.size := by omega
  have HP : Hid (∀ W, Mut (fun j => Ff j ∨ j = w.heap.size + 1) W5 W → W.cell? ⟨g, 1, none⟩ = some (.pointer (some ⟨f, 0, none⟩)) ∧ W.cell? ⟨w.heap.size, 1, none⟩ = some (.string pa) ∧ W.cell? ⟨w.heap.size, 3, none⟩ = some (.bool is)) := Lib.hid (fun W hW => ⟨((hb.keep f5).mut hW (fun h => h.elim hfg hne1)).cell 1, (b5.mut hW (fun h => h.elim hn0 (by omega))).cell 1, (b5.mut hW (fun h => h.elim hn0 (by omega))).cell 3⟩)
  have HM := Lib.hid (fun W (hW : Fresh W5 W) => HS W Ff f (f5.trans hW) (hfs.fresh (f5.trans hW)))
  have H := Lib.hid (And.intro f5 (And.intro (hb.keep f5) (And.intro a5 (And.intro hFg (And.intro hFf (And.intro hF (And.intro hn1 hfg)))))))
  obtain ⟨e0, e1, e2⟩ := HP.out W5 (Mut.refl _ _)
  clear hb hfs hF hFf f5 b5 a5 HS
  go_enter Tryz.func99, Tryz.ntmps99
  go_wp2_with fail
  go_region_held3 (fun W => W.cell? ⟨g, 1, none⟩ = some (.pointer (some ⟨f, 0, none⟩)) ∧ W.cell? ⟨w.heap.size, 1, none⟩ = some (.string pa) ∧ W.cell? ⟨w.heap.size, 3, none⟩ = some (.bool is)) (first | exact hS8 | exact HP.out _ (by repeat (first | exact hm6 | exact Mut.refl _ _ | refine Mut.setCell ?_ (.inl (.inr rfl)) _ | refine Mut.drew ?_)) | go_keep) (first
    | (go_at_call 29; refine (HM.out _ (by repeat (first | exact Fresh.refl _ | refine Fresh.drew ?_))).mono ?_; rintro e w2 ⟨a, b, k2, t2, q2, T2, qt2, F2, hS, rfl, hfs, hTB, hm, hg⟩; have hm5 : Mut Ff W5 w2 := (Fresh.andMut (by repeat (first | exact Fresh.refl _ | refine Fresh.drew ?_)) hm); have hm6 : Mut (fun j => Ff j ∨ j = w.heap.size + 1) W5 w2 := hm5.mono (fun j _ h => .inl h); have hS8 := HP.out w2 hm6; have ha2 := H.out.2.2.1.mut hm5 hn1; have q0 : w2.cell? ⟨w.heap.size + 1, 0, none⟩ = some (.int .i64 0) := ha2.cell 0; have q1 : w2.cell? ⟨w.heap.size + 1, 1, none⟩ = some (.int .i64 0) := ha2.cell 1; have z0 : w2.frozen? ⟨w.heap.size + 1, 0, none⟩ = false := ha2.frozen 0; have z1 : w2.frozen? ⟨w.heap.size + 1, 1, none⟩ = false := ha2.frozen 1; have HA2 := Lib.hid ha2; clear ha2; have HM2 := Lib.hid (And.intro hS (And.intro hfs (And.intro hTB (And.intro hm5 hg)))); clear hS hfs hTB hm hg))
  all_goals
    have ha5 : Blk _ (w.heap.size + 1) 40 #[.int .i64 0, .int .i64 a, .bool false, .string ⟨#[]⟩, .slice none 0 0, .int .i64 0] := HA2.out.set (i := 1) (u := .int .i64 a)
    have ha6 : Blk _ (w.heap.size + 1) 40 #[.int .i64 b, .int .i64 a, .bool false, .string ⟨#[]⟩, .slice none 0 0, .int .i64 0] := ha5.set (i := 0) (u := .int .i64 b)
    have hu6 : Mut (fun j => j = w.heap.size + 1) w2 ((w2.setCell ⟨w.heap.size + 1, 1, none⟩ (.int .i64 a)).setCell ⟨w.heap.size + 1, 0, none⟩ (.int .i64 b)) := ((Mut.refl (fun j => j = w.heap.size + 1) w2).setCell (p := ⟨w.heap.size + 1, 1, none⟩) (.inl rfl) _).setCell (p := ⟨w.heap.size + 1, 0, none⟩) (.inl rfl) _
    clear hS8 q0 q1 z0 z1 hm5 hm6 e0 e1 e2 ha5 hW5
    rename_i hHeld
    clear hHeld
    generalize ((w2.setCell ⟨w.heap.size + 1, 1, none⟩ (.int .i64 a)).setCell ⟨w.heap.size + 1, 0, none⟩ (.int .i64 b)) = W6 at ha6 hu6 ⊢
    have x0 : W6.cell? ⟨w.heap.size + 1, 0, none⟩ = some (.int .i64 b) := ha6.cell 0
    have y0 : W6.frozen? ⟨w.heap.size + 1, 0, none⟩ = false := ha6.frozen 0
    have x1 : W6.cell? ⟨w.heap.size + 1, 1, none⟩ = some (.int .i64 a) := ha6.cell 1
    have y1 : W6.frozen? ⟨w.heap.size + 1, 1, none⟩ = false := ha6.frozen 1
    have x2 : W6.cell? ⟨w.heap.size + 1, 2, none⟩ = some (.bool false) := ha6.cell 2
    have y2 : W6.frozen? ⟨w.heap.size + 1, 2, none⟩ = false := ha6.frozen 2
    have x3 : W6.cell? ⟨w.heap.size + 1, 3, none⟩ = some (.string ⟨#[]⟩) := ha6.cell 3
    have y3 : W6.frozen? ⟨w.heap.size + 1, 3, none⟩ = false := ha6.frozen 3
    have x4 : W6.cell? ⟨w.heap.size + 1, 4, none⟩ = some (.slice none 0 0) := ha6.cell 4
    have y4 : W6.frozen? ⟨w.heap.size + 1, 4, none⟩ = false := ha6.frozen 4
    have x5 : W6.cell? ⟨w.heap.size + 1, 5, none⟩ = some (.int .i64 0) := ha6.cell 5
    have y5 : W6.frozen? ⟨w.heap.size + 1, 5, none⟩ = false := ha6.frozen 5
    have HZ := Lib.hid (And.intro (Blk.set6 ha6 (.int .i64 b) (.int .i64 a) (.bool false) (.string ⟨#[]⟩) (.slice none 0 0) (.int .i64 0)) (hu6.trans (Mut.set6 (w := W6) (g := w.heap.size + 1) (.int .i64 b) (.int .i64 a) (.bool false) (.string ⟨#[]⟩) (.slice none 0 0) (.int .i64 0))))
    clear ha6 hu6
    go_wp2
    have hz := HZ.out
    refine bodyPost_ret (v := ansV b a false ⟨#[]⟩ (.slice none 0 0) 0) ?_ rfl ?_
    · simp [results, Tryz.results99, go_sem, hz.1.cell 0, hz.1.cell 1, hz.1.cell 2, hz.1.cell 3, hz.1.cell 4, hz.1.cell 5]
    · have hu := HZ.out.2
      generalize (((((((W6.setCell ⟨w.heap.size + 1, 0, none⟩ (.int .i64 b)).setCell ⟨w.heap.size + 1, 1, none⟩ (.int .i64 a)).setCell ⟨w.heap.size + 1, 2, none⟩ (.bool false)).setCell ⟨w.heap.size + 1, 3, none⟩ (.string ⟨#[]⟩)).setCell ⟨w.heap.size + 1, 4, none⟩ (.slice none 0 0)).setCell ⟨w.heap.size + 1, 5, none⟩ (.int .i64 0)) : World) = W9 at hu ⊢
      obtain ⟨hS, hfs, hTB, hm5, hg⟩ := HM2.out
      obtain ⟨hf5, hb5, _, hFg, hFf, hF, hn1, hfg⟩ := H.out
      have s5 := HZ5.out
      have s2 := hm5.size
      have s9 := hu.size
      have hFB2 := hfs.fb
      have hF2 : ∀ j, F2 j → F j ∨ (w.heap.size + 2 ≤ j ∧ j < w2.heap.size) := fun j hj => by
        rcases hg j hj with h | h
        · exact .inl (hFf j h)
        · have h1 : W5.heap.size ≤ j := h.1
          exact .inr ⟨by omega, h.2⟩
      have hF2n : ∀ j, F2 j → j ≠ w.heap.size + 1 := fun j hj => by
        rcases hF2 j hj with h | h
        · have := hF j h; omega
        · omega
      have hF2g : ¬ F2 g := fun h => by
        rcases hg g h with h | h
        · exact hfg h
        · have h1 : W5.heap.size ≤ g := h.1
          omega
      refine ⟨a, b, k2, t2, q2, T2, qt2, ext F w W9, hS, rfl, ⟨f, F2, (hb5.mut hm5 hfg).mut hu (by omega), .inl hFg, fun j hj => ?_, hF2g, hfs.mut hu (fun j hj => hF2n j hj), fun j hj => ?_⟩, hTB, ?_, Gr.ext _ _ _⟩
      · rcases hF2 j hj with h | h
        · exact .inl h
        · exact .inr ⟨by omega, by omega⟩
      · rcases hj with h | h
        · have := hF j h; omega
        · exact h.2
      · exact (hf5.andMut (hm5.mono (T := F) (fun j _ h => hFf j h))).trans2 hu (fun _ h => h) (fun j hj e => by omega)
end Go.Proofs.YtpmlggjhfiljmaaGreatDoor
/- Layer 18: Do of a make. -/
namespace Go.Proofs.YtpmlggjhfiljmaaGreatDoor
open Go.RowKit
set_option linter.unusedVariables false
set_option linter.unnecessarySimpa false
set_option linter.unusedSimpArgs false
attribute [local go_sem ↓] Go.wp_at_zero Go.wp_at_succ
theorem enters_make : ∀ (args : Array Value) (W : World), Sem.run Tryz.prog (callFunc 99 args) W = .ok (.enter 99 args) W := by intro args w; go_simp
def fnV (f : FuncId) : Value := .func (.func f) #[] #[]
def kindsV : Array Value := #[fnV 98, fnV 99, fnV 100, fnV 101, fnV 102, fnV 103, fnV 104, fnV 105, fnV 106]
theorem kinds_any (w : World) : Calls Tryz.prog 48 #[] w fun e w' => e = .returned (.slice (some ⟨w.heap.size, 0, none⟩) 9 9) ∧ w' = w.alloc (.cells kindsV 109) := by
  go_enter Tryz.func48, Tryz.ntmps48
  go_wp2
  go_ret
  exact ⟨rfl, rfl⟩
set_option maxRecDepth 100000 in
set_option maxHeartbeats 3200000 in
theorem tdo_make (S : Int → Int → Nat → Nat → Nat → TreS → Nat → Prop) (pa pb : ByteArray) (is : Bool) (ca cn : Int) (F : Nat → Prop) (g : Nat) (enc c : Int) (hc : 0 ≤ c ∧ c ≤ 1000000) (p : Nat) (m n : Int) (k t q : Nat) (T : TreS) (qt : Nat) (w : World) (h : TrlAt w F g enc c p m n k t q T qt)
    (HS : ∀ W Ff f, FsAt W Ff f enc p m n k t q T qt → Calls Tryz.prog 29 #[.pointer (some ⟨f, 0, none⟩), .string pa, .bool is] W (FdoG S Ff f enc p m n W)) :
    Calls Tryz.prog 14 #[.pointer (some ⟨g, 0, none⟩), callV 1 pa pb is ca cn] w (TrlG S (fun a b => ansV b a false ⟨#[]⟩ (.slice none 0 0) 0) F g enc (c + 1) p m n w) := by
  have hen := enters_make
  obtain ⟨hc0, hc1⟩ := hc
  have hg0 := h
  obtain ⟨f, Ff, hb, hFg, hFf, hfg, hfs, hF⟩ := hg0
  have hgl := hb.lt
  obtain ⟨W5, hW5⟩ : ∃ W5, ((w.alloc (.cells #[.int .i64 1, .string pa, .string pb, .bool is, .int .i64 ca, .int .i64 cn] 44)).alloc (.cells #[.int .i64 0, .int .i64 0, .bool false, .string ⟨#[]⟩, .slice none 0 0, .int .i64 0] 40)) = W5 := ⟨_, rfl⟩
  have f5 : Fresh w W5 := by rw [← hW5]; exact ((Fresh.refl _).alloc _).alloc _
  have b5 : Blk W5 w.heap.size 44 #[.int .i64 1, .string pa, .string pb, .bool is, .int .i64 ca, .int .i64 cn] := by rw [← hW5]; exact (Blk.new _ _ _).keep ((Fresh.refl _).alloc _)
  have a5 : Blk W5 (w.heap.size + 1) 40 #[.int .i64 0, .int .i64 0, .bool false, .string ⟨#[]⟩, .slice none 0 0, .int .i64 0] := by
    rw [← hW5]
    have := Blk.new (w.alloc (.cells #[.int .i64 1, .string pa, .string pb, .bool is, .int .i64 ca, .int .i64 cn] 44)) 40 #[.int .i64 0, .int .i64 0, .bool false, .string ⟨#[]⟩, .slice none 0 0, .int .i64 0]
    rw [World.size_alloc] at this
    exact this
  have hz5 : W5.heap.size = w.heap.size + 2 := by rw [← hW5]; simp
  have c3 : W5.cell? ⟨g, 3, none⟩ = some (.int .i64 c) := (hb.keep f5).cell 3
  have z3 : W5.frozen? ⟨g, 3, none⟩ = false := (hb.keep f5).frozen 3
  have H := Lib.hid (And.intro h (And.intro f5 (And.intro b5 (And.intro a5 hz5))))
  clear h hb hfs hF hFf f5 b5 a5 hz5
  go_enter Tryz.func14, Tryz.ntmps14
  go_wp2_with fail
  obtain ⟨W6, hW6⟩ : ∃ W6, W5.setCell ⟨g, 3, none⟩ (.int .i64 (c + 1)) = W6 := ⟨_, rfl⟩
  have hu : Mut (fun j => j = g) W5 W6 := by rw [← hW6]; exact (Mut.refl (fun j => j = g) W5).setCell (p := ⟨g, 3, none⟩) (.inl rfl) _
  have hs6 : W6.heap.size = W5.heap.size := by rw [← hW6]; simp [World.setCell]
  have HT6 : Hid (TrlAt W6 F g enc (c + 1) p m n k t q T qt) := Lib.hid (by
    obtain ⟨f, Ff, hb, hFg, hFf, hfg, hfs, hF⟩ := H.out.1
    have hb6 : Blk W6 g 98 #[.pointer (some ⟨p, 0, none⟩), .pointer (some ⟨f, 0, none⟩), .int .i64 enc, .int .i64 (c + 1)] := by rw [← hW6]; exact (hb.keep H.out.2.1).set (i := 3) (u := .int .i64 (c + 1))
    exact ⟨f, Ff, hb6, hFg, hFf, hfg, (hfs.fresh H.out.2.1).mut hu (fun j hj e => hfg (e ▸ hj)), (hF.later H.out.2.1.size).later hu.size⟩)
  have hb6 : Blk W6 w.heap.size 44 #[.int .i64 1, .string pa, .string pb, .bool is, .int .i64 ca, .int .i64 cn] := H.out.2.2.1.mut hu (by omega)
  have ha6 : Blk W6 (w.heap.size + 1) 40 #[.int .i64 0, .int .i64 0, .bool false, .string ⟨#[]⟩, .slice none 0 0, .int .i64 0] := H.out.2.2.2.1.mut hu (by omega)
  have hs6' : W6.heap.size = w.heap.size + 2 := hs6.trans H.out.2.2.2.2
  rw [hW6]
  refine (kinds_any _).mono ?_
  rintro e w1 ⟨rfl, rfl⟩
  obtain ⟨W7, hW7⟩ : ∃ W7, W6.alloc (.cells kindsV 109) = W7 := ⟨_, rfl⟩
  have h67 : Fresh W6 W7 := by rw [← hW7]; exact (Fresh.refl _).alloc _
  have hk7 : Blk W7 (w.heap.size + 2) 109 kindsV := by rw [← hW7, ← hs6']; exact Blk.new _ _ _
  have hs7 : W7.heap.size = w.heap.size + 3 := by rw [← hW7]; simp; omega
  have HP : Hid (∀ W, Mut (fun j => F j ∨ j = w.heap.size + 1) W7 W → W.cell? ⟨w.heap.size, 0, none⟩ = some (.int .i64 1) ∧ W.cell? ⟨w.heap.size, 1, none⟩ = some (.string pa) ∧ W.cell? ⟨w.heap.size, 2, none⟩ = some (.string pb) ∧ W.cell? ⟨w.heap.size, 3, none⟩ = some (.bool is) ∧ W.cell? ⟨w.heap.size, 4, none⟩ = some (.int .i64 ca) ∧ W.cell? ⟨w.heap.size, 5, none⟩ = some (.int .i64 cn) ∧ W.cell? ⟨w.heap.size + 2, 1, none⟩ = some (.func (.func 99) #[] #[])) := Lib.hid (fun W hW => by
    have hFB := H.out.1.fb
    have n0 : ¬ (F w.heap.size ∨ w.heap.size = w.heap.size + 1) := fun h => by rcases h with h | h; (have := hFB _ h; omega); omega
    have n2 : ¬ (F (w.heap.size + 2) ∨ w.heap.size + 2 = w.heap.size + 1) := fun h => by rcases h with h | h; (have := hFB _ h; omega); omega
    have x := (hb6.keep h67).mut hW n0
    have y := hk7.mut hW n2
    exact ⟨x.cell 0, x.cell 1, x.cell 2, x.cell 3, x.cell 4, x.cell 5, y.cell 1⟩)
  have HM := Lib.hid (fun W (hW : Fresh W7 W) => tmake_any S 1 pa pb is ca cn F g enc (c + 1) p m n k t q T qt W ((HT6.out.fresh h67).fresh hW) (fun W' Ff f _ hfs => HS W' Ff f hfs))
  have ha7 := ha6.keep h67
  have H7 := Lib.hid (And.intro hu (And.intro h67 (And.intro ha7 (And.intro hs6' hs7))))
  obtain ⟨e0, e1, e2, e3, e4, e5, e6⟩ := HP.out W7 (Mut.refl _ _)
  rw [hs6']
  have hlt9 : (1 : Int) < 9 := by omega
  clear HS hu hs6 hb6 ha6 h67 hk7 hs7 ha7 hW6 hW5 c3 z3 hs6'
  go_wp2_with fail
  go_region_held3 (fun W => W.cell? ⟨w.heap.size, 0, none⟩ = some (.int .i64 1) ∧ W.cell? ⟨w.heap.size, 1, none⟩ = some (.string pa) ∧ W.cell? ⟨w.heap.size, 2, none⟩ = some (.string pb) ∧ W.cell? ⟨w.heap.size, 3, none⟩ = some (.bool is) ∧ W.cell? ⟨w.heap.size, 4, none⟩ = some (.int .i64 ca) ∧ W.cell? ⟨w.heap.size, 5, none⟩ = some (.int .i64 cn) ∧ W.cell? ⟨w.heap.size + 2, 1, none⟩ = some (.func (.func 99) #[] #[])) (first | (with_reducible exact hS8) | exact HP.out _ (by repeat (first | (with_reducible exact hm6) | exact Mut.refl _ _ | refine Mut.setCell ?_ (.inl (.inr rfl)) _ | refine Mut.drew ?_)) | go_keep) (first
    | (go_at_call 99; refine (HM.out _ (by repeat (first | exact Fresh.refl _ | refine Fresh.drew ?_))).mono ?_; rintro e w2 ⟨a, b, k2, t2, q2, T2, qt2, F2, hS, rfl, htr, hTB, hm, hg⟩; have hm5 : Mut F W7 w2 := (Fresh.andMut (by repeat (first | exact Fresh.refl _ | refine Fresh.drew ?_)) hm); have hm6 : Mut (fun j => F j ∨ j = w.heap.size + 1) W7 w2 := hm5.mono (fun j _ h => .inl h); have hS8 := HP.out w2 hm6; have ha2 := H7.out.2.2.1.mut hm5 (fun h => by have := H.out.1.fb _ h; omega); have x0 : w2.cell? ⟨w.heap.size + 1, 0, none⟩ = some (.int .i64 0) := ha2.cell 0; have y0 : w2.frozen? ⟨w.heap.size + 1, 0, none⟩ = false := ha2.frozen 0; have x1 : w2.cell? ⟨w.heap.size + 1, 1, none⟩ = some (.int .i64 0) := ha2.cell 1; have y1 : w2.frozen? ⟨w.heap.size + 1, 1, none⟩ = false := ha2.frozen 1; have x2 : w2.cell? ⟨w.heap.size + 1, 2, none⟩ = some (.bool false) := ha2.cell 2; have y2 : w2.frozen? ⟨w.heap.size + 1, 2, none⟩ = false := ha2.frozen 2; have x3 : w2.cell? ⟨w.heap.size + 1, 3, none⟩ = some (.string ⟨#[]⟩) := ha2.cell 3; have y3 : w2.frozen? ⟨w.heap.size + 1, 3, none⟩ = false := ha2.frozen 3; have x4 : w2.cell? ⟨w.heap.size + 1, 4, none⟩ = some (.slice none 0 0) := ha2.cell 4; have y4 : w2.frozen? ⟨w.heap.size + 1, 4, none⟩ = false := ha2.frozen 4; have x5 : w2.cell? ⟨w.heap.size + 1, 5, none⟩ = some (.int .i64 0) := ha2.cell 5; have y5 : w2.frozen? ⟨w.heap.size + 1, 5, none⟩ = false := ha2.frozen 5; have HM2 := Lib.hid (And.intro hS (And.intro htr (And.intro hTB (And.intro hm5 (And.intro hg ha2))))); clear hS htr hTB hm hg ha2))
  all_goals
    clear hS8 hm5 hm6 e0 e1 e2 e3 e4 e5 e6 hen hlt9
    rename_i hHeld
    clear hHeld
    have HZ := Lib.hid (And.intro (Blk.set6 HM2.out.2.2.2.2.2 (.int .i64 b) (.int .i64 a) (.bool false) (.string ⟨#[]⟩) (.slice none 0 0) (.int .i64 0)) (Mut.set6 (w := w2) (g := w.heap.size + 1) (.int .i64 b) (.int .i64 a) (.bool false) (.string ⟨#[]⟩) (.slice none 0 0) (.int .i64 0)))
    go_wp2
    have hz := HZ.out
    refine bodyPost_ret (v := ansV b a false ⟨#[]⟩ (.slice none 0 0) 0) ?_ rfl ?_
    · simp [results, Tryz.results14, go_sem, hz.1.cell 0, hz.1.cell 1, hz.1.cell 2, hz.1.cell 3, hz.1.cell 4, hz.1.cell 5]
    · have hu := HZ.out.2
      generalize ((((((w2.setCell ⟨w.heap.size + 1, 0, none⟩ (.int .i64 b)).setCell ⟨w.heap.size + 1, 1, none⟩ (.int .i64 a)).setCell ⟨w.heap.size + 1, 2, none⟩ (.bool false)).setCell ⟨w.heap.size + 1, 3, none⟩ (.string ⟨#[]⟩)).setCell ⟨w.heap.size + 1, 4, none⟩ (.slice none 0 0)).setCell ⟨w.heap.size + 1, 5, none⟩ (.int .i64 0)) = W9 at hu ⊢
      obtain ⟨hS, htr, hTB, hm5', hg, _⟩ := HM2.out
      obtain ⟨hug, h67, _, hs6, hs7⟩ := H7.out
      have hF := H.out.1.fb
      have s2 := hm5'.size
      have s9 := hu.size
      have hF2 : ∀ j, F2 j → F j ∨ (w.heap.size + 3 ≤ j ∧ j < w2.heap.size) := fun j hj => by
        rcases hg j hj with h | h
        · exact .inl h
        · have h1 : W7.heap.size ≤ j := h.1
          exact .inr ⟨by omega, h.2⟩
      have hFg : F g := by obtain ⟨f, Ff, hb, hFg, _⟩ := H.out.1; exact hFg
      refine ⟨a, b, k2, t2, q2, T2, qt2, F2, hS, rfl, htr.mut hu (fun j hj e => ?_), hTB, ?_, fun j hj => ?_⟩
      · rcases hF2 j hj with h | h
        · have := hF j h; omega
        · omega
      · have m1 : Mut F w W7 := (H.out.2.1.andMut (hug.mono (T := F) (fun j _ e => by rw [e]; exact hFg))).andFresh h67
        exact (m1.trans hm5').trans2 hu (fun _ h => h) (fun j hj e => by omega)
      · rcases hF2 j hj with h | h
        · exact .inl h
        · exact .inr ⟨by omega, by omega⟩
end Go.Proofs.YtpmlggjhfiljmaaGreatDoor
