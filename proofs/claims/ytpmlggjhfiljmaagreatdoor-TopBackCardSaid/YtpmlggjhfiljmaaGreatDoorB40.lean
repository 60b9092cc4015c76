/- Contracts that the law rests on, part 40 of 50 (VltB, VltC). Each states its own conditions. -/
import Derived.Test.YtpmlggjhfiljmaaGreatDoorB39
/- Layer 8: a half begins. -/
namespace Go.Proofs.YtpmlggjhfiljmaaGreatDoor
open Go.RowKit
set_option linter.unusedVariables false
set_option linter.unnecessarySimpa false
set_option linter.unusedSimpArgs false

section
variable (F : Nat → Prop) (p : Nat) (n : Int) (D : Int → ByteArray) (q : Nat) (w : World)
set_option maxHeartbeats 800000 in
theorem begin1_any (h : DevAt w F p n D q) (b0 b1 : Nat) (f s : Int) (r : ByteArray) (h1 : 1 ≤ s) (h2 : 0 ≤ f) (h3 : f + s ≤ n) (hn : n ≤ 1000000) (hr : 1 ≤ r.size) (hr2 : r.size ≤ 60000) (hfit : 1 + kfr r.size ≤ s) (hq : q + kfr r.size ≤ 90000)
    (c0 : w.cell? ⟨b0, 0, none⟩ = some (.pointer (some ⟨p, 0, none⟩))) (c1 : w.cell? ⟨b0, 1, none⟩ = some (.int .i64 f)) (c2 : w.cell? ⟨b0, 2, none⟩ = some (.int .i64 s)) (c3 : w.cell? ⟨b1, 0, none⟩ = some (.string r)) :
    Calls Tryz.prog 305 #[.pointer (some ⟨b0, 0, none⟩), .pointer (some ⟨b1, 0, none⟩)] w (DevPost F p n (wrD D (f + 1) r (kfr r.size)) (q + kfr r.size) w (.int .i64 0)) := by
  have HS := Lib.hid (hwrite_any F p n D q _ h f s 1 r h1 h2 h3 hn (by omega) hr hr2 hfit hq)
  unfold hfv at HS
  clear h
  go_enter Tryz.func305, Tryz.ntmps305
  go_wp2_with fail
  refine HS.out.mono ?_
  rintro e w1 ⟨rfl, HH⟩
  have HH2 := Lib.hid HH
  clear HH
  go_wp2
  go_ret
  exact ⟨rfl, HH2.out⟩
set_option maxHeartbeats 800000 in
theorem begin2_any (h : DevAt w F p n D q) (b0 b2 : Nat) (f s e : Int) (hf : 0 ≤ f ∧ f < n) (hn : n ≤ 1000000) (hq : q ≤ 100000) (he : 0 ≤ e) (h64 : e < 18446744073709551616)
    (c0 : w.cell? ⟨b0, 0, none⟩ = some (.pointer (some ⟨p, 0, none⟩))) (c1 : w.cell? ⟨b0, 1, none⟩ = some (.int .i64 f)) (c3 : w.cell? ⟨b2, 0, none⟩ = some (.int .u64 e)) :
    Calls Tryz.prog 306 #[.pointer (some ⟨b0, 0, none⟩), .pointer (some ⟨b2, 0, none⟩)] w (DevPost F p n (upd D f (labS e)) (q + 1) w (.int .i64 0)) := by
  have HS := Lib.hid (setEpoch_any F p n D q _ h f e hf hn hq he h64)
  clear h
  go_enter Tryz.func306, Tryz.ntmps306
  go_wp2_with fail
  refine HS.out.mono ?_
  rintro e w1 ⟨rfl, HH⟩
  have HH2 := Lib.hid HH
  clear HH
  go_wp2
  go_ret
  exact ⟨rfl, HH2.out⟩
/-- what holds of the device between two steps -/
def DI (W : World) (D' : Int → ByteArray) (q' : Nat) (V : World) : Prop := ∃ F', DevAt V F' p n D' q' ∧ Mut F W V ∧ Gr F W V F'
theorem DI.start {F : Nat → Prop} {p : Nat} {n : Int} {D : Int → ByteArray} {q : Nat} {W : World} (h : DevAt W F p n D q) : DI F p n W D q W := ⟨F, h, Mut.refl _ _, Gr.refl _ _⟩
theorem DI.post {F F' : Nat → Prop} {p : Nat} {n : Int} {D D' : Int → ByteArray} {q q' : Nat} {W V V' : World} (hm : Mut F W V) (hg : Gr F W V F') {r : Value} {e : Ending} (h : DevPost F' p n D' q' V r e V') : e = .returned r ∧ DI F p n W D' q' V' := by
  obtain ⟨he, F2, hd, hm2, hg2⟩ := h
  exact ⟨he, F2, hd, hm.trans2 hm2 (fun _ h => h) (fun j hj h => (hg j h).elim id (fun q => absurd q.1 (by omega))), hg.trans hg2 hm.size hm2.size⟩
theorem DI.fresh {F F' : Nat → Prop} {p : Nat} {n : Int} {D : Int → ByteArray} {q : Nat} {W V V' : World} (hd : DevAt V F' p n D q) (hm : Mut F W V) (hg : Gr F W V F') (h : Fresh V V') : DI F p n W D q V' := ⟨F', hd.fresh h, hm.andFresh h, hg.later h.size⟩
end
theorem enters224 : EntersF 224 := by intro args w; go_simp
theorem enters225 : EntersF 225 := by intro args w; go_simp
theorem enters226 : EntersF 226 := by intro args w; go_simp
theorem enters305 : EntersF 305 := by intro args w; go_simp
theorem enters306 : EntersF 306 := by intro args w; go_simp
def begF : List FuncId := [224, 225, 226, 305, 225, 306, 225]
def begB (p : Nat) (f s : Int) : List (Array Value) := [#[hfv p f s], #[.pointer (some ⟨p, 0, none⟩)], #[hfv p f s], #[], #[.pointer (some ⟨p, 0, none⟩)], #[], #[.pointer (some ⟨p, 0, none⟩)]]
def begC (b : Nat) : List (Array Value) := [#[], #[], #[], #[.pointer (some ⟨b, 0, none⟩), .pointer (some ⟨b + 1, 0, none⟩)], #[], #[.pointer (some ⟨b, 0, none⟩), .pointer (some ⟨b + 2, 0, none⟩)], #[]]
def begV (p b : Nat) (f s : Int) (i : Nat) : Value := .func (.func (begF.getD i 0)) ((begB p f s).getD i #[]) ((begC b).getD i #[])
def begD (D : Int → ByteArray) (f e : Int) (r : ByteArray) : List (Int → ByteArray) :=
  [D, upd D f (labS 0), upd D f (labS 0), upd D f (labS 0), wrD (upd D f (labS 0)) (f + 1) r (kfr r.size), wrD (upd D f (labS 0)) (f + 1) r (kfr r.size), upd (wrD (upd D f (labS 0)) (f + 1) r (kfr r.size)) f (labS e), upd (wrD (upd D f (labS 0)) (f + 1) r (kfr r.size)) f (labS e)]
def begQ (q k : Nat) : List Nat := [q, q + 1, q + 1, q + 1, q + 1 + k, q + 1 + k, q + 1 + k + 1, q + 1 + k + 1]
section
variable (F : Nat → Prop) (p : Nat) (n : Int) (D : Int → ByteArray) (q : Nat) (w : World)
abbrev begW (w : World) (p : Nat) (f s e : Int) (r : ByteArray) : World :=
  (((w.alloc (.cells #[.pointer (some ⟨p, 0, none⟩), .int .i64 f, .int .i64 s] 296)).alloc (.cells #[.string r] 9)).alloc (.cells #[.int .u64 e] 208)).alloc
    (.cells #[.func (.func 224) #[.agg #[.pointer (some ⟨p, 0, none⟩), .int .i64 f, .int .i64 s]] #[], .func (.func 225) #[.pointer (some ⟨p, 0, none⟩)] #[],
      .func (.func 226) #[.agg #[.pointer (some ⟨p, 0, none⟩), .int .i64 f, .int .i64 s]] #[], .func (.func 305) #[] #[.pointer (some ⟨w.heap.size, 0, none⟩), .pointer (some ⟨w.heap.size + 1, 0, none⟩)],
      .func (.func 225) #[.pointer (some ⟨p, 0, none⟩)] #[], .func (.func 306) #[] #[.pointer (some ⟨w.heap.size, 0, none⟩), .pointer (some ⟨w.heap.size + 1 + 1, 0, none⟩)], .func (.func 225) #[.pointer (some ⟨p, 0, none⟩)] #[]] 100)
theorem begW_cells (f s e : Int) (r : ByteArray) : (∀ i, i < 7 → (begW w p f s e r).cell? ⟨w.heap.size + 1 + 1 + 1, 0 + i, none⟩ = some (begV p w.heap.size f s i)) ∧ (begW w p f s e r).cell? ⟨w.heap.size, 0, none⟩ = some (.pointer (some ⟨p, 0, none⟩)) ∧ (begW w p f s e r).cell? ⟨w.heap.size, 1, none⟩ = some (.int .i64 f) ∧
    (begW w p f s e r).cell? ⟨w.heap.size, 2, none⟩ = some (.int .i64 s) ∧ (begW w p f s e r).cell? ⟨w.heap.size + 1, 0, none⟩ = some (.string r) ∧ (begW w p f s e r).cell? ⟨w.heap.size + 2, 0, none⟩ = some (.int .u64 e) ∧ (begW w p f s e r).heap.size = w.heap.size + 4 ∧ Fresh w (begW w p f s e r) := by
  refine ⟨?_, by go_simp, by go_simp, by go_simp, by go_simp, by go_simp, by simp, (((((Fresh.refl w).alloc _).alloc _).alloc _).alloc _)⟩
  intro i hi
  rcases (by omega : i = 0 ∨ i = 1 ∨ i = 2 ∨ i = 3 ∨ i = 4 ∨ i = 5 ∨ i = 6) with rfl | rfl | rfl | rfl | rfl | rfl | rfl <;> (rw [World.cell?_alloc_at _ _ _ _ (by simp)]; rfl)
set_option maxRecDepth 100000 in
set_option maxHeartbeats 1600000 in
theorem begin_steps (h : DevAt w F p n D q) (hF : FB F w) (f : Int) (s : Nat) (e : Int) (r : ByteArray) (h1 : 1 ≤ s) (h2 : 0 ≤ f) (h3 : f + s ≤ n) (hn : n ≤ 1000000) (hr : 1 ≤ r.size) (hr2 : r.size ≤ 60000) (hfit : 1 + kfr r.size ≤ s) (hq : q + kfr r.size ≤ 80000)
    (he : 0 ≤ e) (h64 : e < 18446744073709551616) (hz : ∀ i, f + 1 ≤ i → i < f + s → D i = zer 64) :
    Calls Tryz.prog 223 #[.slice (some ⟨w.heap.size + 1 + 1 + 1, 0, none⟩) 7 7] (begW w p f s e r) fun e' w' => e' = .returned (.int .i64 0) ∧ DI F p n (begW w p f s e r) (upd (wrD (upd D f (labS 0)) (f + 1) r (kfr r.size)) f (labS e)) (q + 1 + kfr r.size + 1) w' := by
  obtain ⟨hc, b0, b1, b2, b3, b4, hsz, hfr⟩ := begW_cells p w f s e r
  have hd := h.fresh hfr
  obtain ⟨W, hW⟩ : ∃ W, begW w p f s e r = W := ⟨_, rfl⟩
  rw [hW] at hc b0 b1 b2 b3 b4 hsz hd ⊢
  clear hW hfr h
  have hnb : ∀ k, w.heap.size ≤ k → ¬ F k := fun k hk q => by have := hF k q; omega
  have keep : ∀ {V : World} {D' : Int → ByteArray} {q' : Nat}, DI F p n W D' q' V → ∀ (b o : Nat), w.heap.size ≤ b → b < w.heap.size + 4 → V.cell? ⟨b, o, none⟩ = W.cell? ⟨b, o, none⟩ := by
    intro V D' q' ⟨F', _, hm, _⟩ b o hb1 hb2
    exact hm.cell (p := ⟨b, o, none⟩) (by rw [hsz]; exact hb2) (hnb b hb1)
  refine all_steps 7 (w.heap.size + 1 + 1 + 1) 0 7 (fun i => begF.getD i 0) (fun i => (begB p f s).getD i #[]) (fun i => (begC w.heap.size).getD i #[]) (fun i V => DI F p n W ((begD D f e r).getD i D) ((begQ q (kfr r.size)).getD i 0) V) (by omega) ?_ ?_ ?_ W (DI.start hd)
  · intro i V hi hI
    rw [keep hI _ _ (by omega) (by omega)]
    exact hc i hi
  · intro i hi
    rcases (by omega : i = 0 ∨ i = 1 ∨ i = 2 ∨ i = 3 ∨ i = 4 ∨ i = 5 ∨ i = 6) with rfl | rfl | rfl | rfl | rfl | rfl | rfl
    · exact enters224
    · exact enters225
    · exact enters226
    · exact enters305
    · exact enters225
    · exact enters306
    · exact enters225
  · intro i V hi hI
    have hk := keep hI
    obtain ⟨F', hd', hm, hg⟩ := hI
    rcases (by omega : i = 0 ∨ i = 1 ∨ i = 2 ∨ i = 3 ∨ i = 4 ∨ i = 5 ∨ i = 6) with rfl | rfl | rfl | rfl | rfl | rfl | rfl
    · exact (blank_any F' p n _ _ V hd' f s (by omega) hn (by show q ≤ _; omega)).mono fun _ _ h => (by have h2 := DI.post (D := D) (q := q) hm hg h; exact h2)
    · exact (flush_any F' p n _ _ V hd').mono fun _ _ h => (by have h2 := DI.post (D := D) (q := q) hm hg h; exact h2)
    · refine (hwipe_any F' p n _ _ V hd' f s h2 h3 h1 hn fun i a b => ?_).mono fun _ _ h => (by have h2 := DI.fresh hd' hm hg h.2; exact ⟨h.1, h2⟩)
      show upd D f (labS 0) i = _
      unfold upd
      rw [if_neg (by omega)]
      exact hz i a b
    · exact (begin1_any F' p n _ _ V hd' w.heap.size (w.heap.size + 1) f s r (by omega) h2 h3 hn hr hr2 (by omega) (by show q + 1 + _ ≤ _; omega) (by rw [hk _ _ (by omega) (by omega), b0]) (by rw [hk _ _ (by omega) (by omega), b1]) (by rw [hk _ _ (by omega) (by omega), b2]) (by rw [hk _ _ (by omega) (by omega), b3])).mono fun _ _ h => (by have h2 := DI.post (D := D) (q := q) hm hg h; exact h2)
    · exact (flush_any F' p n _ _ V hd').mono fun _ _ h => (by have h2 := DI.post (D := D) (q := q) hm hg h; exact h2)
    · exact (begin2_any F' p n _ _ V hd' w.heap.size (w.heap.size + 2) f s e (by omega) hn (by show q + 1 + _ ≤ _; omega) he h64 (by rw [hk _ _ (by omega) (by omega), b0]) (by rw [hk _ _ (by omega) (by omega), b1]) (by rw [hk _ _ (by omega) (by omega), b4])).mono fun _ _ h => (by have h2 := DI.post (D := D) (q := q) hm hg h; exact h2)
    · exact (flush_any F' p n _ _ V hd').mono fun _ _ h => (by have h2 := DI.post (D := D) (q := q) hm hg h; exact h2)
set_option maxRecDepth 100000 in
set_option maxHeartbeats 1600000 in
theorem begin_any (h : DevAt w F p n D q) (hF : FB F w) (f : Int) (s : Nat) (e : Int) (r : ByteArray) (h1 : 1 ≤ s) (h2 : 0 ≤ f) (h3 : f + s ≤ n) (hn : n ≤ 1000000) (hr : 1 ≤ r.size) (hr2 : r.size ≤ 60000) (hfit : 1 + kfr r.size ≤ s) (hq : q + kfr r.size ≤ 80000)
    (he : 0 ≤ e) (h64 : e < 18446744073709551616) (hz : ∀ i, f + 1 ≤ i → i < f + s → D i = zer 64) :
    Calls Tryz.prog 227 #[hfv p f s, .string r, .int .u64 e] w (DevPost F p n (upd (wrD (upd D f (labS 0)) (f + 1) r (kfr r.size)) f (labS e)) (q + 1 + kfr r.size + 1) w (.int .i64 0)) := by
  have HX := Lib.hid (begin_steps F p n D q w h hF f s e r h1 h2 h3 hn hr hr2 hfit hq he h64 hz)
  have hsz : (begW w p f s e r).heap.size = w.heap.size + 4 := by simp
  have HSZ := Lib.hid hsz
  have HFR := Lib.hid (begW_cells p w f s e r).2.2.2.2.2.2.2
  clear h hsz
  unfold hfv
  go_enter Tryz.func227, Tryz.ntmps227
  go_wp2_with fail
  refine HX.out.mono ?_
  rintro e1 w1 ⟨rfl, HH⟩
  have HH2 := Lib.hid HH
  clear HH
  go_wp2
  go_ret
  obtain ⟨F', hd, hm, hg⟩ := HH2.out
  exact ⟨rfl, F', hd, HFR.out.andMut hm, hg.ahead HFR.out.size⟩
end
end Go.Proofs.YtpmlggjhfiljmaaGreatDoor
/- Layer 8: Format of a new device. -/
namespace Go.Proofs.YtpmlggjhfiljmaaGreatDoor
open Go.RowKit
set_option linter.unusedVariables false
set_option linter.unnecessarySimpa false
set_option linter.unusedSimpArgs false

def fmF : List FuncId := [224, 224, 225, 226]
def fmB (p : Nat) (m : Int) : List (Array Value) := [#[hfv p 0 m], #[hfv p m m], #[.pointer (some ⟨p, 0, none⟩)], #[hfv p m m]]
def fmD (D : Int → ByteArray) (m : Int) : List (Int → ByteArray) := [D, upd D 0 (labS 0), upd (upd D 0 (labS 0)) m (labS 0), upd (upd D 0 (labS 0)) m (labS 0), upd (upd D 0 (labS 0)) m (labS 0)]
def fmQ (q : Nat) : List Nat := [q, q + 1, q + 1 + 1, q + 1 + 1, q + 1 + 1]
section
variable (F : Nat → Prop) (p : Nat) (n : Int) (D : Int → ByteArray) (q : Nat) (w : World)
theorem may_any (h : DevAt w F p n D q) (hn : 4 ≤ n) : Calls Tryz.prog 220 #[.pointer (some ⟨p, 0, none⟩)] w fun e w' => e = .returned (.int .i64 0) ∧ Fresh w w' := by
  have HG := Lib.hid (get_out F p n D q w h (-1) (by omega) (by omega))
  have HS := Lib.hid (fun W (hf : Fresh w W) => devSize_any F p n D q W (h.fresh hf))
  go_enter Tryz.func220, Tryz.ntmps220
  go_wp2_with fail
  refine HG.out.mono ?_
  rintro e w1 ⟨rfl, hf⟩
  go_wp2_with fail
  refine (HS.out _ hf).mono ?_
  rintro e w2 ⟨rfl, rfl⟩
  go_wp2
  go_ret
  exact ⟨rfl, hf⟩
set_option maxRecDepth 100000 in
set_option maxHeartbeats 1600000 in
theorem fm_steps (g : Nat) (m : Nat) (h : DevAt w F p n D q) (hF : ∀ k, F k → k ≠ g) (hg : g < w.heap.size) (hm1 : 1 ≤ m) (hm2 : (m : Int) + m ≤ n) (hn : n ≤ 1000000) (hq : q ≤ 10000) (hz : ∀ i, (m : Int) + 1 ≤ i → i < m + m → D i = zer 64)
    (c0 : w.cell? ⟨g, 0, none⟩ = some (.func (.func 224) #[.agg #[.pointer (some ⟨p, 0, none⟩), .int .i64 0, .int .i64 m]] #[])) (c1 : w.cell? ⟨g, 1, none⟩ = some (.func (.func 224) #[.agg #[.pointer (some ⟨p, 0, none⟩), .int .i64 m, .int .i64 m]] #[]))
    (c2 : w.cell? ⟨g, 2, none⟩ = some (.func (.func 225) #[.pointer (some ⟨p, 0, none⟩)] #[])) (c3 : w.cell? ⟨g, 3, none⟩ = some (.func (.func 226) #[.agg #[.pointer (some ⟨p, 0, none⟩), .int .i64 m, .int .i64 m]] #[])) :
    Calls Tryz.prog 223 #[.slice (some ⟨g, 0, none⟩) 4 4] w fun e' w' => e' = .returned (.int .i64 0) ∧ DI F p n w (upd (upd D 0 (labS 0)) m (labS 0)) (q + 1 + 1) w' := by
  refine all_steps 4 g 0 4 (fun i => fmF.getD i 0) (fun i => (fmB p m).getD i #[]) (fun i => #[]) (fun i V => DI F p n w ((fmD D m).getD i D) ((fmQ q).getD i 0) V) (by omega) ?_ ?_ ?_ w (DI.start h)
  · intro i V hi ⟨F', _, hm, _⟩
    rw [hm.cell (p := ⟨g, 0 + i, none⟩) hg (fun q => hF g q rfl)]
    rcases (by omega : i = 0 ∨ i = 1 ∨ i = 2 ∨ i = 3) with rfl | rfl | rfl | rfl
    · exact c0
    · exact c1
    · exact c2
    · exact c3
  · intro i hi
    rcases (by omega : i = 0 ∨ i = 1 ∨ i = 2 ∨ i = 3) with rfl | rfl | rfl | rfl
    · exact enters224
    · exact enters224
    · exact enters225
    · exact enters226
  · intro i V hi hI
    obtain ⟨F', hd', hm, hg⟩ := hI
    rcases (by omega : i = 0 ∨ i = 1 ∨ i = 2 ∨ i = 3) with rfl | rfl | rfl | rfl
    · exact (blank_any F' p n _ _ V hd' 0 m (by omega) hn (by show q ≤ _; omega)).mono fun _ _ h => (by have h2 := DI.post (D := D) (q := q) hm hg h; exact h2)
    · exact (blank_any F' p n _ _ V hd' m m (by omega) hn (by show q + 1 ≤ _; omega)).mono fun _ _ h => (by have h2 := DI.post (D := D) (q := q) hm hg h; exact h2)
    · exact (flush_any F' p n _ _ V hd').mono fun _ _ h => (by have h2 := DI.post (D := D) (q := q) hm hg h; exact h2)
    · refine (hwipe_any F' p n _ _ V hd' m m (by omega) hm2 hm1 hn fun i a b => ?_).mono fun _ _ h => (by have h2 := DI.fresh hd' hm hg h.2; exact ⟨h.1, h2⟩)
      show upd (upd D 0 (labS 0)) m (labS 0) i = _
      unfold upd
      rw [if_neg (by omega), if_neg (by omega)]
      exact hz i a b
/-- what stands on a device that was formatted -/
def newD (img : ByteArray) (m : Int) : Int → ByteArray := upd (wrD (upd (upd (upd (fun _ => zer 64) 0 (labS 0)) m (labS 0)) 0 (labS 0)) (0 + 1) img (kfr img.size)) 0 (labS 1)
set_option maxRecDepth 100000 in
set_option maxHeartbeats 1600000 in
theorem format_new (m : Nat) (h : DevAt w F p n (fun _ => zer 64) 0) (hF : FB F w) (hm : n / 2 = m) (hm1 : 4 ≤ m) (hn : n ≤ 1000000) (r : ByteArray) (hr : 1 ≤ r.size) (hr2 : r.size ≤ 62) :
    Calls Tryz.prog 142 #[.pointer (some ⟨p, 0, none⟩), .string r] w (DevPost F p n (newD r m) 5 w (.int .i64 0)) := by
  have hk : kfr r.size = 1 := by unfold kfr; rw [if_neg (by omega)]; omega
  have HD := Lib.hid h
  have HM := Lib.hid (may_any F p n _ 0 w h (by omega))
  have HH := Lib.hid (fun W (hf : Fresh w W) => halves_any F p n _ 0 W (h.fresh hf) (by omega))
  rw [hm] at HH

  clear h
  go_enter Tryz.func142, Tryz.ntmps142
  go_wp2_with fail
  refine HM.out.mono ?_
  rintro e w1 ⟨rfl, hf1⟩
  go_wp2_with fail
  refine (HH.out _ hf1).mono ?_
  rintro e w2 ⟨rfl, hf2⟩
  have HF2 := Lib.hid (hf1.trans hf2)
  clear hf1 hf2
  go_wp2_with fail
  refine (fits_any p _ 0 m 1 r (by omega) (by omega) hr (by omega) (by omega)).mono ?_
  rintro e w3 ⟨rfl, hf3⟩
  have hc3 : ∀ b o, b < _ → w3.cell? ⟨b, o, none⟩ = _ := fun b o h => Below.cell hf3 (p := ⟨b, o, none⟩) h
  have HF3 := Lib.hid (HF2.out.trans (((Fresh.refl w2).alloc _).trans hf3))
  have hz3 := hf3.size
  simp only [World.size_alloc] at hz3
  go_wp2_with fail
  refine (fm_steps F p n _ 0 _ w3.heap.size m (by exact HD.out.fresh (HF3.out.alloc _)) (fun k hk e => by have := hF k hk; have := HF3.out.size; omega) (by simp) (by omega) (by omega) hn (by omega) (fun i _ _ => rfl) (by go_simp) (by go_simp) (by go_simp) (by go_simp)).mono ?_
  rintro e w4 ⟨rfl, F4, hd4, hm4, hg4⟩
  have hz4 := hm4.size
  simp only [World.size_alloc] at hz4
  have hF2 := HF2.out.size
  have hc4 : ∀ o, w4.cell? ⟨w2.heap.size, o, none⟩ = w3.cell? ⟨w2.heap.size, o, none⟩ := fun o => (hm4.cell (p := ⟨w2.heap.size, o, none⟩) (by simp; omega) (fun q => by have := hF _ q; simp at this; omega)).trans (World.cell?_alloc_past _ _ _ (by omega))
  have hFB4 : FB F4 w4 := FB.gr (hF.later (by simp; omega)) hg4 hm4.size
  have HB := Lib.hid (begin_any F4 p n _ (0 + 1 + 1) w4 hd4 hFB4 0 m 1 r (by omega) (by omega) (by omega) hn hr (by omega) (by omega) (by omega) (by omega) (by omega) (fun i h1 h2 => by unfold upd; rw [if_neg (by omega), if_neg (by omega)]))
  have HFIN : Hid (∀ (e : Ending) (w' : World), DevPost F4 p n (upd (wrD (upd (upd (upd (fun _ => zer 64) 0 (labS 0)) m (labS 0)) 0 (labS 0)) (0 + 1) r (kfr r.size)) 0 (labS 1)) (0 + 1 + 1 + 1 + kfr r.size + 1) w4 (.int .i64 0) e w' → DevPost F p n (newD r m) 5 w (.int .i64 0) e w') := Lib.hid (fun e w' hp => by
    obtain ⟨he, F5, hd5, hm5, hg5⟩ := hp
    have h5 : 0 + 1 + 1 + 1 + kfr r.size + 1 = 5 := by omega
    rw [h5] at hd5
    refine ⟨he, F5, hd5, Fresh.andMut (HF3.out.alloc _) (hm4.trans2 hm5 (fun _ h => h) (fun j hj h => (hg4 j h).elim id (fun q => absurd q.1 (by omega)))), ((hg4.trans hg5 hm4.size hm5.size).ahead (by have := HF3.out.size; simp; omega))⟩)
  unfold hfv at HB
  clear hd4 hm4 hg4
  go_wp2_with fail
  refine HB.out.mono ?_
  intro e w5 hp
  have HR := Lib.hid (HFIN.out e w5 hp)
  obtain ⟨rfl, _⟩ := hp
  go_wp2
  go_ret
  exact HR.out
end
end Go.Proofs.YtpmlggjhfiljmaaGreatDoor
