/- Contracts that the law rests on, part 48 of 50 (FsyD, FsyE, FsyF, FsyG, FsyH). Each states its own conditions. -/
import Derived.Test.YtpmlggjhfiljmaaGreatDoorB47
/- Layer 17: doing. -/
namespace Go.Proofs.YtpmlggjhfiljmaaGreatDoor
open Go.RowKit
set_option linter.unusedVariables false
set_option linter.unnecessarySimpa false
set_option linter.unusedSimpArgs false
attribute [local go_sem ↓] Go.wp_at_zero Go.wp_at_succ

theorem StoAt.mut {S F : Nat → Prop} {w w' : World} {s p : Nat} {m n : Int} {k t q : Nat} {T : TreS} {qt : Nat} (h : StoAt w F s p m n k t q T qt) (hf : Mut S w w') (hn : ∀ j, F j → ¬ S j) : StoAt w' F s p m n k t q T qt := by
  obtain ⟨v, tr, Fv, At, hb, hFs, hFv, hAt, hs1, hs2, hd, hv, ht, hF⟩ := h
  exact ⟨v, tr, Fv, At, hb.mut hf (hn _ hFs), hFs, hFv, hAt, hs1, hs2, hd, hv.mut hf (fun j hj => hn _ (hFv j hj)), ht.mut hf (fun j hj => hn _ (hAt j hj)), hF.later hf.size⟩
theorem StoAt.fresh {F : Nat → Prop} {w w' : World} {s p : Nat} {m n : Int} {k t q : Nat} {T : TreS} {qt : Nat} (h : StoAt w F s p m n k t q T qt) (hf : Fresh w w') : StoAt w' F s p m n k t q T qt := h.mut (hf.mut fun _ => False) (fun _ _ q => q)
theorem StoAt.fb {F : Nat → Prop} {w : World} {s p : Nat} {m n : Int} {k t q : Nat} {T : TreS} {qt : Nat} (h : StoAt w F s p m n k t q T qt) : FB F w := by
  obtain ⟨v, tr, Fv, At, hb, hFs, hFv, hAt, hs1, hs2, hd, hv, ht, hF⟩ := h
  exact hF
/-- a file system at f: its store's blocks meet Fs, its own tree's At -/
def FsAt (w : World) (F : Nat → Prop) (f : Nat) (enc : Int) (p : Nat) (m n : Int) (k t q : Nat) (T : TreS) (qt : Nat) : Prop :=
  ∃ s tr Fs At, FsV w f s enc tr ∧ F f ∧ (∀ j, Fs j → F j) ∧ (∀ j, At j → F j) ∧ ¬ Fs f ∧ ¬ At f ∧ (∀ j, At j → ¬ Fs j) ∧ StoAt w Fs s p m n k t q T qt ∧ TreeAt w At tr T qt ∧ FB F w
theorem FsAt.mut {S F : Nat → Prop} {w w' : World} {f : Nat} {enc : Int} {p : Nat} {m n : Int} {k t q : Nat} {T : TreS} {qt : Nat} (h : FsAt w F f enc p m n k t q T qt) (hf : Mut S w w') (hn : ∀ j, F j → ¬ S j) : FsAt w' F f enc p m n k t q T qt := by
  obtain ⟨s, tr, Fs, At, hb, hFf, hFs, hAt, hf1, hf2, hd, hs, ht, hF⟩ := h
  exact ⟨s, tr, Fs, At, Blk.mut hb hf (hn _ hFf), hFf, hFs, hAt, hf1, hf2, hd, hs.mut hf (fun j hj => hn _ (hFs j hj)), ht.mut hf (fun j hj => hn _ (hAt j hj)), hF.later hf.size⟩
theorem FsAt.fresh {F : Nat → Prop} {w w' : World} {f : Nat} {enc : Int} {p : Nat} {m n : Int} {k t q : Nat} {T : TreS} {qt : Nat} (h : FsAt w F f enc p m n k t q T qt) (hf : Fresh w w') : FsAt w' F f enc p m n k t q T qt := h.mut (hf.mut fun _ => False) (fun _ _ q => q)
theorem FsAt.fb {F : Nat → Prop} {w : World} {f : Nat} {enc : Int} {p : Nat} {m n : Int} {k t q : Nat} {T : TreS} {qt : Nat} (h : FsAt w F f enc p m n k t q T qt) : FB F w := by
  obtain ⟨s, tr, Fs, At, hb, hFf, hFs, hAt, hf1, hf2, hd, hs, ht, hF⟩ := h
  exact hF
/-- bounds of a tree -/
structure TB (T : TreS) (qt : Nat) : Prop where
  qt : qt ≤ 100000
  bk : T.bk.length ≤ 100000
  len : ∀ i l, T.dirs i = some l → l.length ≤ 10000
  next : 0 ≤ T.next ∧ T.next ≤ 100000
abbrev deedV (kind dir dst : Int) (name as_ : ByteArray) (isDir : Bool) (short : Int) : Value := .agg #[.int .i64 kind, .int .i64 dir, .int .i64 dst, .string name, .string as_, .bool isDir, .int .i64 short]
/-- what store.Do does: S tells the answer's two numbers, and the state behind it -/
def SdoG (S : Int → Int → Nat → Nat → Nat → TreS → Nat → Prop) (F : Nat → Prop) (s p : Nat) (m n : Int) (w : World) (e : Ending) (w' : World) : Prop :=
  ∃ a b k t q T qt F', S a b k t q T qt ∧ e = .returned (.tuple #[.int .i64 a, .int .i64 b]) ∧ StoAt w' F' s p m n k t q T qt ∧ TB T qt ∧ Mut F w w' ∧ Gr F w w' F'
def FdoG (S : Int → Int → Nat → Nat → Nat → TreS → Nat → Prop) (F : Nat → Prop) (f : Nat) (enc : Int) (p : Nat) (m n : Int) (w : World) (e : Ending) (w' : World) : Prop :=
  ∃ a b k t q T qt F', S a b k t q T qt ∧ e = .returned (.tuple #[.int .i64 a, .int .i64 b]) ∧ FsAt w' F' f enc p m n k t q T qt ∧ TB T qt ∧ Mut F w w' ∧ Gr F w w' F'
theorem fover_any (F : Nat → Prop) (f : Nat) (enc : Int) (p : Nat) (m n : Int) (k t q : Nat) (T : TreS) (qt : Nat) (w : World) (h : FsAt w F f enc p m n k t q T qt) : Calls Tryz.prog 68 #[.pointer (some ⟨f, 0, none⟩)] w fun e w' => e = .returned (.bool false) ∧ w = w' := by
  obtain ⟨s, tr, Fs, At, hb, hFf, hFs, hAt, hf1, hf2, hd, hs, ht, hF⟩ := h
  have c0 : w.cell? ⟨f, 0, none⟩ = some (.pointer (some ⟨s, 0, none⟩)) := hb.cell 0
  have HO := Lib.hid (sover_any Fs s p m n k t q T qt w hs)
  clear hb hs ht hd hF hFs hAt
  go_enter Tryz.func68, Tryz.ntmps68
  go_wp2_with fail
  refine HO.out.mono ?_
  rintro e w1 ⟨rfl, rfl⟩
  go_wp2
  go_ret
  exact ⟨rfl, rfl⟩
set_option maxRecDepth 100000 in
set_option maxHeartbeats 3200000 in
theorem fdo_any (S : Int → Int → Nat → Nat → Nat → TreS → Nat → Prop) (kind dir dst : Int) (name as_ : ByteArray) (isDir : Bool) (short : Int) (F : Nat → Prop) (f : Nat) (enc : Int) (p : Nat) (m n : Int) (k t q : Nat) (T : TreS) (qt : Nat) (w : World) (h : FsAt w F f enc p m n k t q T qt)
    (HS : ∀ W Fs s, Fresh w W → StoAt W Fs s p m n k t q T qt → Calls Tryz.prog 127 #[.pointer (some ⟨s, 0, none⟩), deedV kind dir dst name as_ isDir short] W (SdoG S Fs s p m n W)) :
    Calls Tryz.prog 70 #[.pointer (some ⟨f, 0, none⟩), deedV kind dir dst name as_ isDir short] w (FdoG S F f enc p m n w) := by
  obtain ⟨s, tr, Fs, At, hb, hFf, hFs, hAt, hf1, hf2, hd, hs, ht, hF⟩ := h
  unfold FsV at hb
  obtain ⟨W5, hW5⟩ : ∃ W5, w.alloc (.cells #[.int .i64 kind, .int .i64 dir, .int .i64 dst, .string name, .string as_, .bool isDir, .int .i64 short] 142) = W5 := ⟨_, rfl⟩
  have f5 : Fresh w W5 := by rw [← hW5]; exact (Fresh.refl _).alloc _
  have b5 : Blk W5 w.heap.size 142 #[.int .i64 kind, .int .i64 dir, .int .i64 dst, .string name, .string as_, .bool isDir, .int .i64 short] := by rw [← hW5]; exact Blk.new _ _ _
  have HP : Hid (∀ W, Mut Fs W5 W → W.cell? ⟨f, 0, none⟩ = some (.pointer (some ⟨s, 0, none⟩)) ∧ W.cell? ⟨w.heap.size, 0, none⟩ = some (.int .i64 kind) ∧ W.cell? ⟨w.heap.size, 1, none⟩ = some (.int .i64 dir) ∧ W.cell? ⟨w.heap.size, 2, none⟩ = some (.int .i64 dst) ∧ W.cell? ⟨w.heap.size, 3, none⟩ = some (.string name) ∧ W.cell? ⟨w.heap.size, 4, none⟩ = some (.string as_) ∧ W.cell? ⟨w.heap.size, 5, none⟩ = some (.bool isDir) ∧ W.cell? ⟨w.heap.size, 6, none⟩ = some (.int .i64 short)) := Lib.hid (fun W hW => by
    have c := (hb.keep f5).mut hW hf1
    have d := b5.mut hW (fun h => by have := hF _ (hFs _ h); omega)
    exact ⟨c.cell 0, d.cell 0, d.cell 1, d.cell 2, d.cell 3, d.cell 4, d.cell 5, d.cell 6⟩)
  have HDO := Lib.hid (fun W (hW : Fresh W5 W) => HS W Fs s (f5.trans hW) (hs.fresh (f5.trans hW)))
  have HF5 := Lib.hid f5
  have H := Lib.hid (And.intro hb (And.intro hFf (And.intro hFs (And.intro hf1 hF))))
  have hfl := hb.lt
  obtain ⟨e0, e1, e2, e3, e4, e5, e6, e7⟩ := HP.out W5 (Mut.refl _ _)
  clear hb hs ht hd hF hFs hAt f5 b5 HS
  go_enter Tryz.func70, Tryz.ntmps70
  go_wp2_with fail
  go_region_held3 (fun W => W.cell? ⟨f, 0, none⟩ = some (.pointer (some ⟨s, 0, none⟩)) ∧ W.cell? ⟨w.heap.size, 0, none⟩ = some (.int .i64 kind) ∧ W.cell? ⟨w.heap.size, 1, none⟩ = some (.int .i64 dir) ∧ W.cell? ⟨w.heap.size, 2, none⟩ = some (.int .i64 dst) ∧ W.cell? ⟨w.heap.size, 3, none⟩ = some (.string name) ∧ W.cell? ⟨w.heap.size, 4, none⟩ = some (.string as_) ∧ W.cell? ⟨w.heap.size, 5, none⟩ = some (.bool isDir) ∧ W.cell? ⟨w.heap.size, 6, none⟩ = some (.int .i64 short)) (first | go_keep | exact hS8 | (have := hS8; exact hS8)) (first
    | (go_at_call 127; refine (HDO.out _ (by repeat (first | exact Fresh.refl _ | refine Fresh.drew ?_))).mono ?_; rintro e w2 ⟨a, b, k2, t2, q2, T2, qt2, F2, hS, rfl, hst, hTB, hm, hg⟩; have hm5 : Mut Fs W5 w2 := (Fresh.andMut (by repeat (first | exact Fresh.refl _ | refine Fresh.drew ?_)) hm); have hS8 := HP.out w2 hm5; have HM := Lib.hid (And.intro hS (And.intro hst (And.intro hTB (And.intro hm5 hg)))); clear hS hst hTB hm hg))
  all_goals
    have hb2 : Blk w2 f 152 #[.pointer (some ⟨s, 0, none⟩), .int .i64 enc, .pointer (some ⟨tr, 0, none⟩)] := (H.out.1.keep HF5.out).mut HM.out.2.2.2.1 hf1
    have c0 : w2.cell? ⟨f, 0, none⟩ = some (.pointer (some ⟨s, 0, none⟩)) := hb2.cell 0
    have HTR := Lib.hid (stree_any F2 s p m n k2 t2 q2 T2 qt2 w2 HM.out.2.1 (by have := HM.out.2.2.1.qt; omega) HM.out.2.2.1.bk (fun i l hl => by have := HM.out.2.2.1.len i l hl; omega))
    have HB2 := Lib.hid hb2
    clear hW5 hm5 hS8 e0 e1 e2 e3 e4 e5 e6 e7 hb2
    go_wp2_with fail
    refine HTR.out.mono ?_
    rintro e w3 ⟨x, rfl, hx, hf3⟩
    have hb3 := HB2.out.keep hf3
    have c2 : w3.cell? ⟨f, 2, none⟩ = some (.pointer (some ⟨tr, 0, none⟩)) := hb3.cell 2
    have z2 : w3.frozen? ⟨f, 2, none⟩ = false := hb3.frozen 2
    have HFIN : Hid (FdoG S F f enc p m n w (.returned (.tuple #[.int .i64 a, .int .i64 b])) (w3.setCell ⟨f, 2, none⟩ (.pointer (some ⟨x, 0, none⟩)))) := Lib.hid (by
      obtain ⟨hS, hst, hTB, hm5, hg⟩ := HM.out
      obtain ⟨_, _, hFs, _, hF⟩ := H.out
      have z5 := HF5.out.size
      have zz2 := hm5.size
      have z3 := hf3.size
      have hu : Mut (fun j => j = f) w3 (w3.setCell ⟨f, 2, none⟩ (.pointer (some ⟨x, 0, none⟩))) := (Mut.refl (fun j => j = f) w3).setCell (p := ⟨f, 2, none⟩) (.inl rfl) _
      have zu := hu.size
      have hF2 : ∀ j, F2 j → F j ∨ (w.heap.size ≤ j ∧ j < w2.heap.size) := fun j hj => by
        rcases hg j hj with h | h
        · exact .inl (hFs j h)
        · have h1 : W5.heap.size ≤ j := h.1
          exact .inr ⟨by omega, h.2⟩
      have hF2f : ¬ F2 f := fun h => by
        rcases hg f h with h | h
        · exact hf1 h
        · have h1 : W5.heap.size ≤ f := h.1
          omega
      have hF2l : ∀ j, F2 j → j < w2.heap.size := fun j hj => by
        rcases hF2 j hj with h | h
        · have := hF j h; omega
        · exact h.2
      refine ⟨a, b, k2, t2, q2, T2, qt2, ext F w (w3.setCell ⟨f, 2, none⟩ (.pointer (some ⟨x, 0, none⟩))), hS, rfl, ⟨s, x, F2, fun j => w2.heap.size ≤ j ∧ j < w3.heap.size, hb3.set (i := 2), .inl hFf, fun j hj => ?_, fun j hj => .inr ⟨by omega, by omega⟩, hF2f, fun h => by omega, fun j hj h => by have := hF2l j h; omega, (hst.fresh hf3).mut hu (fun j hj e => hF2f (e ▸ hj)), (hx.mono (fun j h1 h2 => ⟨h2, h1⟩)).mut hu (fun j hj e => by omega), fun j hj => ?_⟩, hTB, ?_, Gr.ext _ _ _⟩
      · rcases hF2 j hj with h | h
        · exact .inl h
        · exact .inr ⟨h.1, by omega⟩
      · rcases hj with h | h
        · have := hF j h; omega
        · exact h.2
      · exact ((HF5.out.andMut (hm5.mono (T := F) (fun j _ h => hFs j h))).andFresh hf3).trans2 hu (fun _ h => h) (fun j _ e => by rw [e]; exact hFf))
    clear hx hf3 hb3 HM
    go_wp2
    go_ret2
    exact HFIN.out
end Go.Proofs.YtpmlggjhfiljmaaGreatDoor
/- Layer 17: Make; the Link deed. -/
namespace Go.Proofs.YtpmlggjhfiljmaaGreatDoor
open Go.RowKit
set_option linter.unusedVariables false
set_option linter.unnecessarySimpa false
set_option linter.unusedSimpArgs false

/-- what a Link deed answers, and the state behind it -/
def LinkS (R : Int → Int → List Int → Prop) (T : TreS) (d : Int) (name : ByteArray) (isDir : Bool) (short : Int) (k t q qt : Nat) (a b : Int) (k2 t2 q2 : Nat) (T2 : TreS) (qt2 : Nat) : Prop :=
  (b ≠ 0 ∧ a = 0 ∧ (LinkErr T d name short b ∨ (LinkOk T d name short ∧ b = 12 ∧ ∃ k fr bk, R k fr bk ∧ 200 < k)) ∧ k2 = k ∧ t2 = t ∧ q2 = q ∧ T2 = T ∧ qt2 = qt) ∨
  (LinkOk T d name short ∧ ∃ fr bk, R a fr bk ∧ a ≤ 200 ∧ b = 0 ∧ k2 = k + 1 ∧ t2 = t + kfr (name.size + 9) ∧ q2 = q + kfr (name.size + 9) ∧ T2 = linkT T d name isDir short a fr bk ∧ qt2 = qt + 3)
theorem TB.link {T : TreS} {qt : Nat} (h : TB T qt) (hq : qt + 3 ≤ 100000) (hl : ∀ i l, T.dirs i = some l → l.length + 1 ≤ 10000) (hn : T.next + 1 ≤ 100000) {d : Int} {name : ByteArray} {isDir : Bool} {short k fr : Int} {bk : List Int} (hb : bk.length ≤ 100000) : TB (linkT T d name isDir short k fr bk) (qt + 3) := by
  have hN : ∀ i l, (nodeT T isDir k fr bk).dirs i = some l → l.length + 1 ≤ 10000 := fun i l hh => by
    unfold nodeT at hh
    simp only at hh
    cases isDir with
    | false => exact hl i l hh
    | true =>
      simp only [if_true] at hh
      split at hh
      · injection hh with hh; subst hh; simp
      · exact hl i l hh
  refine ⟨hq, hb, fun i l hh => ?_, ?_⟩
  · unfold linkT putT at hh
    simp only at hh
    split at hh
    · injection hh with hh
      subst hh
      rw [List.length_append, List.length_singleton]
      cases hd : (nodeT T isDir k fr bk).dirs d with
      | none => simp
      | some l' => have := hN d l' hd; simp; omega
    · have := hN i l hh; omega
  · have := h.next
    show 0 ≤ (nodeT T isDir k fr bk).next + 1 ∧ (nodeT T isDir k fr bk).next + 1 ≤ 100000
    have e : (nodeT T isDir k fr bk).next = T.next := rfl
    rw [e]
    omega
theorem sdo_link (R : Int → Int → List Int → Prop) (F : Nat → Prop) (s p : Nat) (m n : Int) (k t q : Nat) (T : TreS) (qt : Nat) (w : World) (h : StoAt w F s p m n k t q T qt) (hT : Takes R T qt) (hRb : ∀ i fr bk, R i fr bk → bk.length ≤ 100000) (dir : Int) (name : ByteArray) (isDir : Bool) (short : Int) (hd : 0 ≤ dir ∧ dir ≤ 65535) (hs : 0 ≤ short ∧ short ≤ 1000000) (hnm : name.size ≤ 255)
    (hB : TB T qt) (hqt : qt + 3 ≤ 100000) (hl : ∀ i l, T.dirs i = some l → l.length + 1 ≤ 10000) (hnx : T.next + 1 ≤ 100000) (hm : 0 ≤ m ∧ m + m ≤ n) (hn : n ≤ 1000000) (ht : 1 ≤ t) (hfit : (t : Int) + 5 ≤ m) (hq : q ≤ 70000) (hk : k ≤ 100000) :
    Calls Tryz.prog 127 #[.pointer (some ⟨s, 0, none⟩), deedV 1 dir 0 name ⟨#[]⟩ isDir short] w (SdoG (LinkS R T dir name isDir short k t q qt) F s p m n w) := by
  refine (sdo_any R F s p m n k t q T qt w h hT dir name isDir short hd hs hnm hB.qt hB.bk (fun i l hh => by have := hl i l hh; omega) hB.next hm hn ht hfit hq hk).mono ?_
  rintro e w' (⟨r, hr, hre, rfl, hf⟩ | ⟨hok, i, fr, bk, F', hR, hi, rfl, hst, hm2, hg⟩)
  · exact ⟨0, r, k, t, q, T, qt, F, .inl ⟨hr, rfl, hre, rfl, rfl, rfl, rfl, rfl⟩, rfl, h.fresh hf, hB, hf.mut F, (Gr.refl F w).later hf.size⟩
  · exact ⟨i, 0, k + 1, _, _, _, qt + 3, F', .inr ⟨hok, fr, bk, hR, hi, rfl, rfl, rfl, rfl, rfl, rfl⟩, rfl, hst, hB.link hqt hl hnx (hRb i fr bk hR), hm2, hg⟩
def MakeG (S : Int → Int → Nat → Nat → Nat → TreS → Nat → Prop) (r : Int × ByteArray × Int) (F : Nat → Prop) (f : Nat) (enc : Int) (p : Nat) (m n : Int) (w : World) (e : Ending) (w' : World) : Prop :=
  (r.2.2 ≠ 0 ∧ e = .returned (.tuple #[.int .i64 0, .int .i64 r.2.2]) ∧ Fresh w w') ∨ (r.2.2 = 0 ∧ FdoG S F f enc p m n w e w')
set_option maxRecDepth 100000 in
set_option maxHeartbeats 1600000 in
theorem fmake_any (S : Int → Int → Nat → Nat → Nat → TreS → Nat → Prop) (F : Nat → Prop) (f : Nat) (enc : Int) (p : Nat) (m n : Int) (k t q : Nat) (T : TreS) (qt : Nat) (w : World) (h : FsAt w F f enc p m n k t q T qt) (hT : TOK enc T) (path : ByteArray) (isDir : Bool) (hp : path.size ≤ 1000000) (h0 : 0 ≤ enc) (h8 : enc ≤ 8)
    (HS : (freshR enc T path).2.2 = 0 → ∀ W Fs s, Fresh w W → StoAt W Fs s p m n k t q T qt → Calls Tryz.prog 127 #[.pointer (some ⟨s, 0, none⟩), deedV 1 (freshR enc T path).1 0 (freshR enc T path).2.1 ⟨#[]⟩ isDir 0] W (SdoG S Fs s p m n W)) :
    Calls Tryz.prog 29 #[.pointer (some ⟨f, 0, none⟩), .string path, .bool isDir] w (MakeG S (freshR enc T path) F f enc p m n w) := by
  have HO := Lib.hid (fover_any F f enc p m n k t q T qt w h)
  have HFR : Hid (Calls Tryz.prog 69 #[.pointer (some ⟨f, 0, none⟩), .string path] w (ParF (freshR enc T path) w)) := Lib.hid (by
    obtain ⟨s, tr, Fs, At, hb, hFf, hFs, hAt, hf1, hf2, hd, hs, ht, hF⟩ := h
    exact fresh_any enc At f s tr T qt hT w hb ht path hp h0 h8)
  have HDO := Lib.hid (fun (hz : (freshR enc T path).2.2 = 0) W (hW : Fresh w W) => fdo_any S 1 (freshR enc T path).1 0 (freshR enc T path).2.1 ⟨#[]⟩ isDir 0 F f enc p m n k t q T qt W (h.fresh hW) (fun W' Fs s hW' hs => HS hz W' Fs s (hW.trans hW') hs))
  obtain ⟨r, hr⟩ : ∃ r, freshR enc T path = r := ⟨_, rfl⟩
  rw [hr] at HFR HDO ⊢
  obtain ⟨d, raw, j⟩ := r
  unfold ParF at HFR
  simp only at HFR HDO
  clear h HS hT hr
  by_cases hj : j = 0
  · subst hj
    have HDO2 := Lib.hid (HDO.out rfl)
    clear HDO
    go_enter Tryz.func29, Tryz.ntmps29
    go_wp2_with fail
    refine HO.out.mono ?_
    rintro e w1 ⟨rfl, rfl⟩
    go_wp2_with fail
    refine HFR.out.mono ?_
    rintro e w2 ⟨rfl, hf2⟩
    have HF2 := Lib.hid hf2
    clear hf2
    go_wp2_with fail
    refine (HDO2.out w2 HF2.out).mono ?_
    rintro e w3 ⟨a, b, k2, t2, q2, T2, qt2, F2, hS, rfl, hfs, hTB, hm, hg⟩
    have HFIN : Hid (MakeG S (d, raw, 0) F f enc p m n w (.returned (.tuple #[.int .i64 a, .int .i64 b])) w3) := Lib.hid (.inr ⟨rfl, a, b, k2, t2, q2, T2, qt2, F2, hS, rfl, hfs, hTB, HF2.out.andMut hm, hg.ahead HF2.out.size⟩)
    clear hS hfs hTB hm hg
    go_wp2
    go_ret2
    exact HFIN.out
  · have hjb : (j != 0) = true := by simp [hj]
    have HJ := Lib.hid hj
    clear hj HDO
    go_enter Tryz.func29, Tryz.ntmps29
    go_wp2_with fail
    refine HO.out.mono ?_
    rintro e w1 ⟨rfl, rfl⟩
    go_wp2_with fail
    refine HFR.out.mono ?_
    rintro e w2 ⟨rfl, hf2⟩
    go_wp2
    go_ret2
    exact .inl ⟨HJ.out, rfl, hf2⟩
end Go.Proofs.YtpmlggjhfiljmaaGreatDoor
/- Layer 17: Format and Mount of a new device. -/
namespace Go.Proofs.YtpmlggjhfiljmaaGreatDoor
open Go.RowKit
set_option linter.unusedVariables false
set_option linter.unnecessarySimpa false
set_option linter.unusedSimpArgs false
attribute [local go_sem ↓] Go.wp_at_zero Go.wp_at_succ

theorem TOK.t0 {enc : Int} {T : TreS} (h : IsT0 T) : TOK enc T := by
  have hd : ∀ d l, T.dirs d = some l → l = [] := fun d l hl => by
    rw [h.1] at hl
    split at hl
    · injection hl with hl; exact hl.symm
    · cases hl
  exact ⟨fun d l hl e he => by rw [hd d l hl] at he; simp at he, fun d l hl => by rw [hd d l hl]; simp, fun d l hl e he => by rw [hd d l hl] at he; simp at he⟩
theorem TB.t0 {T : TreS} {qt : Nat} (h : IsT0 T) (hq : qt ≤ 100000) : TB T qt := by
  have hd : ∀ d l, T.dirs d = some l → l = [] := fun d l hl => by
    rw [h.1] at hl
    split at hl
    · injection hl with hl; exact hl.symm
    · cases hl
  obtain ⟨_, h2, _, _, _, h6⟩ := h
  exact ⟨hq, by rw [h6]; simp, fun d l hl => by rw [hd d l hl]; simp, by rw [h2]; omega⟩
theorem enters_clean1 : ∀ (args : Array Value) (W : World), Sem.run Tryz.prog (callFunc 81 args) W = .ok (.enter 81 args) W := by intro args w; go_simp
set_option maxHeartbeats 800000 in
theorem names_nil (enc : Int) (a : Option Addr) (c : Nat) (w : World) : Calls Tryz.prog 74 #[.int .i64 enc, .slice a 0 c] w fun e w' => e = .returned (.slice none 0 0) ∧ w = w' := by
  go_enter Tryz.func74, Tryz.ntmps74
  go_wp2
  refine wp_loop_rounds 1 ?_
  rw [rounds_succ]
  go_wp2
  go_ret
  exact ⟨rfl, rfl⟩
set_option maxHeartbeats 800000 in
theorem clean_nil (enc : Int) (a : Option Addr) (c : Nat) (w : World) : Calls Tryz.prog 38 #[.int .i64 enc, .slice a 0 c] w fun e w' => e = .returned (.bool true) ∧ Fresh w w' := by
  have hf : Fresh w (w.alloc (.cells #[.int .i64 enc] 3)) := (Fresh.refl _).alloc _
  have HX := Lib.hid (fun W => containsFunc_any (fun _ => True) (.slice a 0 c) [] W ⟨by simp [ecs], a, c, rfl, Nat.zero_le _, .inl rfl⟩ (by simp) 81 #[] #[.pointer (some ⟨w.heap.size, 0, none⟩)] (fun _ => false) ⟨enters_clean1, fun W hW e he => by simp at he⟩)
  have HN := Lib.hid (fun W => names_nil enc a c W)
  have HS := Lib.hid (fun W => Tryz.slices_Sort_string_none none 0 W)
  have HC := Lib.hid (fun W => Tryz.slices_Compact_string_empty none 0 W)
  have hfx : fidx (fun _ : Ent => false) [] = -1 := rfl
  rw [hfx] at HX
  clear hf hfx
  go_enter Tryz.func38, Tryz.ntmps38
  go_wp2_with fail
  refine (HX.out _).mono ?_
  rintro e w1 ⟨rfl, hf1⟩
  have HF := Lib.hid (((Fresh.refl w).alloc _).trans hf1)
  have c0 : w1.cell? ⟨w.heap.size, 0, none⟩ = some (.int .i64 enc) := ((Blk.new w 3 #[.int .i64 enc]).keep hf1).cell 0
  clear hf1
  go_wp2_with fail
  refine (HN.out _).mono ?_
  rintro e w2 ⟨rfl, rfl⟩
  go_wp2_with fail
  refine (HS.out _).mono ?_
  rintro e w3 ⟨rfl, rfl⟩
  go_wp2_with fail
  refine (HC.out _).mono ?_
  rintro e w3 ⟨rfl, rfl⟩
  go_wp2
  go_ret
  exact ⟨rfl, HF.out⟩
end Go.Proofs.YtpmlggjhfiljmaaGreatDoor
/- A new device; Mount of a new one. -/
namespace Go.Proofs.YtpmlggjhfiljmaaGreatDoor
open Go.RowKit
set_option linter.unusedVariables false
set_option linter.unnecessarySimpa false
set_option linter.unusedSimpArgs false
attribute [local go_sem ↓] Go.wp_at_zero Go.wp_at_succ

def DevNew (n : Int) (w : World) (e : Ending) (w' : World) : Prop := ∃ p, e = .returned (.pointer (some ⟨p, 0, none⟩)) ∧ DevAt w' (fun g => w.heap.size ≤ g ∧ g < w'.heap.size) p n (fun _ => zer 64) 0 ∧ Fresh w w'
theorem secNew_any (n : Int) (h0 : 0 ≤ n) (h1 : n ≤ 4096) (w : World) : Calls Tryz.prog 28 #[.int .i64 n] w (DevNew n w) := by
  have hmm := @run_makeMap Tryz.prog
  have e1 : max n 0 = n := by omega
  have e2 : min n 4096 = n := by omega
  have hfin : Hid (DevAt (((w.alloc (.map #[] 0)).alloc (.map #[] 0)).alloc (.cells #[.int .i64 n, .map (some w.heap.size), .map (some (w.heap.size + 1)), .slice none 0 0, .int .i64 (-1)] 137)) (fun g => w.heap.size ≤ g ∧ g < w.heap.size + 3) (w.heap.size + 2) n (fun _ => zer 64) 0) := Lib.hid (by
    have hb := Blk.new ((w.alloc (.map #[] 0)).alloc (.map #[] 0)) 137 #[.int .i64 n, .map (some w.heap.size), .map (some (w.heap.size + 1)), .slice none 0 0, .int .i64 (-1)]
    rw [World.size_alloc, World.size_alloc] at hb
    have hm := (MapAt.made (w.alloc (.map #[] 0))).alloc (.cells #[.int .i64 n, .map (some w.heap.size), .map (some (w.heap.size + 1)), .slice none 0 0, .int .i64 (-1)] 137)
    rw [World.size_alloc] at hm
    exact ⟨.map (some w.heap.size), w.heap.size + 1, .slice none 0 0, 0, [], _, hb, ⟨by omega, by omega⟩, ⟨by omega, by omega⟩, hm, fun i => rfl, fun i => rfl, OwnA.nil _ _ _ _, Nat.le_refl _⟩)
  go_enter Tryz.func28, Tryz.ntmps28
  go_wp2
  go_ret
  exact ⟨w.heap.size + 2, rfl, by simpa using hfin.out, (((Fresh.refl _).alloc _).alloc _).alloc _⟩
end Go.Proofs.YtpmlggjhfiljmaaGreatDoor
/- Layer 17: Mount of a new device. -/
namespace Go.Proofs.YtpmlggjhfiljmaaGreatDoor
open Go.RowKit
set_option linter.unusedVariables false
set_option linter.unnecessarySimpa false
set_option linter.unusedSimpArgs false
attribute [local go_sem ↓] Go.wp_at_zero Go.wp_at_succ

def FMountPost (F : Nat → Prop) (enc : Int) (p : Nat) (m n : Int) (q : Nat) (w : World) (e : Ending) (w' : World) : Prop :=
  ∃ f T qt F', e = .returned (.tuple #[.pointer (some ⟨f, 0, none⟩), .int .i64 0]) ∧ FsAt w' F' f enc p m n 0 2 q T qt ∧ IsT0 T ∧ qt ≤ 10 ∧ w.heap.size ≤ f ∧ Mut F w w' ∧ Gr F w w' F'
theorem fformat_any (F : Nat → Prop) (p : Nat) (n : Int) (w : World) (m : Nat) (h : DevAt w F p n (fun _ => zer 64) 0) (hF : FB F w) (hm : n / 2 = m) (hm1 : 4 ≤ m) (hn : n ≤ 1000000) : Calls Tryz.prog 42 #[.pointer (some ⟨p, 0, none⟩)] w (DevPost F p n (newD img0 m) 5 w (.int .i64 0)) := by
  have HS := Lib.hid (sformat_any F p n w m h hF hm hm1 hn)
  obtain ⟨D, hD⟩ : ∃ D, newD img0 m = D := ⟨_, rfl⟩
  rw [hD] at HS ⊢
  clear hD h hF hm hm1
  go_enter Tryz.func42, Tryz.ntmps42
  go_wp2_with fail
  refine HS.out.mono ?_
  rintro e w3 ⟨rfl, F', hd, hm3, hg⟩
  have HX := Lib.hid (And.intro hd (And.intro hm3 hg))
  clear hd hm3 hg
  go_wp2
  go_ret
  exact ⟨rfl, F', HX.out.1, HX.out.2.1, HX.out.2.2⟩
set_option maxRecDepth 100000 in
set_option maxHeartbeats 3200000 in
theorem fmount_any (F : Nat → Prop) (enc : Int) (p : Nat) (n : Int) (q : Nat) (w : World) (m : Nat) (h : DevAt w F p n (newD img0 m) q) (hF : FB F w) (hm : n / 2 = m) (hm1 : 4 ≤ m) (hn : n ≤ 1000000) (h0 : 0 ≤ enc) (h8 : enc ≤ 8) :
    Calls Tryz.prog 67 #[.pointer (some ⟨p, 0, none⟩), .int .i64 enc] w (FMountPost F enc p m n q w) := by
  have hrb : rightB enc = true := by unfold rightB; simp; omega
  have HRT := Lib.hid (fun W => right_any enc W)
  rw [hrb] at HRT
  have HM := Lib.hid (smount_any F p n q w m h hF hm hm1 hn)
  have HFB := Lib.hid hF
  clear h hF hm hm1 hn hrb
  go_enter Tryz.func67, Tryz.ntmps67
  go_wp2_with fail
  refine (HRT.out _).mono ?_
  rintro e w1 ⟨rfl, rfl⟩
  go_wp2_with fail
  refine HM.out.mono ?_
  rintro e w1 ⟨s, T, qt, F1, rfl, hst, hT0, hqt, hsw, hm1, hg1⟩
  have HTB := Lib.hid (TB.t0 (T := T) hT0 (qt := qt) (by omega))
  have HTR := Lib.hid (stree_any F1 s p m n 0 2 q T qt w1 hst (by omega) HTB.out.bk (fun i l hl => by have := HTB.out.len i l hl; omega))
  have H1 := Lib.hid (And.intro hst (And.intro hT0 (And.intro hqt (And.intro hsw (And.intro hm1 hg1)))))
  clear hst hT0 hqt hsw hm1 hg1
  go_wp2_with fail
  refine HTR.out.mono ?_
  rintro e w2 ⟨x, rfl, hx, hf2⟩
  obtain ⟨W3, hW3⟩ : ∃ W3, w2.alloc (.cells #[.pointer (some ⟨s, 0, none⟩), .int .i64 enc, .pointer (some ⟨x, 0, none⟩)] 152) = W3 := ⟨_, rfl⟩
  have h23 : Fresh w2 W3 := by rw [← hW3]; exact (Fresh.refl _).alloc _
  have hb3 : Blk W3 w2.heap.size 152 #[.pointer (some ⟨s, 0, none⟩), .int .i64 enc, .pointer (some ⟨x, 0, none⟩)] := by rw [← hW3]; exact Blk.new _ _ _
  have hz3 : W3.heap.size = w2.heap.size + 1 := by rw [← hW3]; simp
  have HZ3 := Lib.hid hz3
  have H2 := Lib.hid (And.intro hx (And.intro hf2 (And.intro h23 hb3)))
  have HDR := Lib.hid (dirs_any W3 _ x T qt (hx.fresh h23) (by have := H1.out.2.2.1; omega))
  have c2 : W3.cell? ⟨w2.heap.size, 2, none⟩ = some (.pointer (some ⟨x, 0, none⟩)) := hb3.cell 2
  clear hx hf2 h23 hb3 hz3
  go_wp2_with fail
  refine HDR.out.mono ?_
  rintro e w4 ⟨v, ks, rfl, hks, hk1, hk2, hk3, hf4⟩
  have hk := dirs0 H1.out.2.1 hk1 hk2
  subst hk
  obtain ⟨a2, c2', rfl⟩ := hks.shape
  obtain ⟨g, hg⟩ : ∃ g, a2 = some ⟨g, 0, none⟩ := by
    obtain ⟨_, ⟨q1, q2⟩ | ⟨g, cap, cur, q, _⟩⟩ := hks.1
    · cases q2
    · injection q with q; exact ⟨g, q⟩
  subst hg
  have ck : w4.cell? ⟨g, 0, none⟩ = some (.int .i64 0) := hks.1.cells (g := g) rfl 0 (.int .i64 0) rfl
  have HF4 := Lib.hid (H2.out.2.2.1.trans hf4)
  have HF3 := Lib.hid hf4
  have c4 : w4.cell? ⟨w2.heap.size, 2, none⟩ = some (.pointer (some ⟨x, 0, none⟩)) := (H2.out.2.2.2.keep hf4).cell 2
  have hl0 : T.dirs 0 = some [] := by rw [H1.out.2.1.1]; rfl
  have HLS := Lib.hid (ls_yes (d := 0) (H2.out.1.fresh HF4.out) i64_0 hl0 (by simp))
  clear hW3 hks hk1 hk2 hk3 hf4 c2 hl0
  go_wp2_with fail
  refine wp_loop_rounds 2 ?_
  rw [rounds_succ]
  go_wp2_with fail
  refine HLS.out.mono ?_
  rintro e w5 ⟨a5, c5, rfl, ho5, hf5⟩
  simp only [List.length_nil]
  go_wp2_with fail
  refine (clean_nil enc a5 c5 _).mono ?_
  rintro e w6 ⟨rfl, hf6⟩
  have HF6 := Lib.hid (HF4.out.trans (hf5.trans hf6))
  have HF7 := Lib.hid (HF3.out.trans (hf5.trans hf6))
  clear ho5 hf5 hf6 ck c4
  go_wp2_with fail
  rw [rounds_succ]
  go_wp2
  go_ret2
  obtain ⟨hst, hT0, hqt, hsw, hm1, hg1⟩ := H1.out
  obtain ⟨hx, hf2, h23, hb3⟩ := H2.out
  have z1 := hm1.size
  have z2 := hf2.size
  have z6 := HF6.out.size
  have z7 := HF7.out.size
  have z3 := HZ3.out
  have hFB1 := hst.fb
  refine ⟨w2.heap.size, T, qt, ext F w w6, rfl, ⟨s, x, F1, fun j => w1.heap.size ≤ j ∧ j < w2.heap.size, hb3.keep HF7.out, .inr ⟨by omega, by omega⟩, fun j hj => ?_, fun j hj => .inr ⟨by omega, by omega⟩, fun h => by have := hFB1 _ h; omega, fun h => by omega, fun j hj h => by have := hFB1 _ h; omega, hst.fresh (hf2.trans HF6.out), (hx.mono (fun j h1 h2 => ⟨h2, h1⟩)).fresh HF6.out, fun j hj => ?_⟩, hT0, hqt, by omega, hm1.andFresh (hf2.trans HF6.out), Gr.ext _ _ _⟩
  · rcases hg1 j hj with h | h
    · exact .inl h
    · exact .inr ⟨h.1, by omega⟩
  · rcases hj with h | h
    · have := HFB.out j h; omega
    · exact h.2
end Go.Proofs.YtpmlggjhfiljmaaGreatDoor
