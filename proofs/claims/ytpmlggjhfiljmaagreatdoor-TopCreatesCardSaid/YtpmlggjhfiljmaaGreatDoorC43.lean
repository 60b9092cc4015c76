/- Contracts that the law rests on, part 43 of 50 (FsyC, FsyD, FsyE). Each states its own conditions. -/
import Derived.Test.YtpmlggjhfiljmaaGreatDoorC42
/- Layer 17: asking: fresh, list. -/
namespace Go.Proofs.YtpmlggjhfiljmaaGreatDoor
open Go.RowKit
set_option linter.unusedVariables false
set_option linter.unnecessarySimpa false
set_option linter.unusedSimpArgs false
attribute [local go_sem ↓] Go.wp_at_zero Go.wp_at_succ
theorem splL_le : ∀ (l : List UInt8), ∀ x ∈ splL l, x.length ≤ l.length
  | [], x, hx => by simp [splL] at hx; simp [hx]
  | c :: l, x, hx => by
    have ih := splL_le l
    unfold splL at hx
    split at hx
    · rcases List.mem_cons.1 hx with rfl | hx
      · simp
      · have := ih x hx; simp; omega
    · split at hx
      · rename_i h t hq
        rw [hq] at ih
        rcases List.mem_cons.1 hx with rfl | hx
        · have := ih h (by simp); simp; omega
        · have := ih x (by simp [hx]); simp; omega
      · rename_i hq
        exact absurd hq (splL_ne l)
theorem splB_le (s : ByteArray) : ∀ x ∈ splB s, x.size ≤ s.size := by
  intro x hx
  unfold splB at hx
  obtain ⟨l, hl, rfl⟩ := List.mem_map.1 hx
  have := splL_le _ l hl
  have h2 : s.data.toList.length = s.size := Array.length_toList
  show l.toArray.size ≤ _
  simp
  omega
theorem splitP_le {s : ByteArray} {l : List ByteArray} (h : splitP s = .inl l) : ∀ x ∈ l, x.size ≤ s.size := by
  unfold splitP at h
  have hr : (restP s).size ≤ s.size := by unfold restP; rw [ByteArray.size_extract]; omega
  split at h
  · cases h
  · split at h
    · cases h
    · split at h
      · injection h with h; subst h; intro x hx; simp at hx
      · split at h
        · cases h
        · split at h
          · cases h
          · injection h with h
            subst h
            intro x hx
            have := splB_le _ x hx
            omega
theorem parT_le {enc : Int} {T : TreS} {s : ByteArray} {r : Int × ByteArray} (h : parT enc T s = .inl r) : r.2.size ≤ s.size := by
  unfold parT at h
  split at h
  · cases h
  · rename_i l hl
    split at h
    · cases h
    · rename_i hne
      split at h
      · cases h
      · split at h
        · injection h with h
          subst h
          refine splitP_le hl _ ?_
          simp only
          rw [List.getLastD_eq_getLast?, List.getLast?_eq_some_getLast hne]
          exact List.getLast_mem hne
        · cases h
theorem atR_le (enc : Int) (T : TreS) (s : ByteArray) : (atR enc T s).2.1.size ≤ s.size := by
  unfold atR
  split
  · exact Nat.zero_le _
  · rename_i r hr
    have := parT_le hr
    split <;> exact this
def freshR (enc : Int) (T : TreS) (path : ByteArray) : Int × ByteArray × Int :=
  if (atR enc T path).2.2.2 = 0 then (0, ⟨#[]⟩, 6) else if (atR enc T path).2.2.2 ≠ 5 ∨ (atR enc T path).2.1.size = 0 then (0, ⟨#[]⟩, (atR enc T path).2.2.2) else ((atR enc T path).1, (rawF enc (atR enc T path).2.1).1, (rawF enc (atR enc T path).2.1).2)
def listR (enc : Int) (T : TreS) (path : ByteArray) : Int × List Ent × Int :=
  let r := nvR (pathT enc T path)
  if r.2.2 ≠ 0 then (0, [], r.2.2) else if r.2.1 = false then (0, [], 8) else match T.dirs r.1 with
    | some l => (r.1, l, 0)
    | none => (r.1, [], if T.files r.1 = true then 8 else 5)
def ListF (r : Int × List Ent × Int) (w : World) (e : Ending) (w' : World) : Prop := ∃ a c, e = .returned (.tuple #[.int .i64 r.1, .slice a r.2.1.length c, .int .i64 r.2.2]) ∧ SlE w' (fun g => w.heap.size ≤ g) (.slice a r.2.1.length c) r.2.1 ∧ Fresh w w'
section
variable (enc : Int) (A : Nat → Prop) (f s tr : Nat) (T : TreS) (q : Nat) (hT : TOK enc T) (w : World) (hv : FsV w f s enc tr) (h : TreeAt w A tr T q)
include hT hv h
set_option maxRecDepth 100000 in
set_option maxHeartbeats 1600000 in
theorem fresh_any (path : ByteArray) (hp : path.size ≤ 1000000) (h0 : 0 ≤ enc) (h8 : enc ≤ 8) : Calls Tryz.prog 69 #[.pointer (some ⟨f, 0, none⟩), .string path] w (ParF (freshR enc T path) w) := by
  have HA := Lib.hid (at_any2 enc A f s tr T q hT w hv h path hp)
  have hle := atR_le enc T path
  have HV := Lib.hid hv
  unfold freshR
  obtain ⟨r, hr⟩ : ∃ r, atR enc T path = r := ⟨_, rfl⟩
  rw [hr] at HA hle ⊢
  obtain ⟨d, nm, ⟨yn, yd, yr, yc, ys⟩, k⟩ := r
  simp only at HA hle ⊢
  clear hv h hT hr
  by_cases hk : k = 0
  · subst hk
    rw [if_pos rfl]
    go_enter Tryz.func69, Tryz.ntmps69
    go_wp2_with fail
    refine HA.out.mono ?_
    rintro e w2 ⟨rfl, hf⟩
    have HF := Lib.hid (hf.alloc (.cells #[.string yn, .int .i64 yd, .bool yr, .int .i64 yc, .int .i64 ys] 88))
    clear hf
    go_wp2
    go_ret3
    exact ⟨rfl, HF.out⟩
  · rw [if_neg hk]
    have hkb : ((k == 0) : Bool) = false := by simp [hk]
    by_cases h5 : k ≠ 5 ∨ nm.size = 0
    · rw [if_pos h5]
      by_cases h51 : k = 5
      · subst h51
        have hz : nm = ⟨#[]⟩ := by
          have h0 : nm.size = 0 := by rcases h5 with h | h; exact absurd rfl h; exact h
          have : nm.data.toList = [] := List.eq_nil_of_length_eq_zero (by rw [Array.length_toList]; exact h0)
          exact bytes_inj.1 (by rw [ByteArray.toList_eq, ByteArray.toList_eq, this])
        subst hz
        clear h5 hk hkb
        go_enter Tryz.func69, Tryz.ntmps69
        go_wp2_with fail
        refine HA.out.mono ?_
        rintro e w2 ⟨rfl, hf⟩
        have HF := Lib.hid (hf.alloc (.cells #[.string yn, .int .i64 yd, .bool yr, .int .i64 yc, .int .i64 ys] 88))
        clear hf
        go_wp2
        go_ret3
        exact ⟨rfl, HF.out⟩
      · have h5b : (k != 5) = true := by simp [h51]
        clear h5 hk h51
        go_enter Tryz.func69, Tryz.ntmps69
        go_wp2_with fail
        refine HA.out.mono ?_
        rintro e w2 ⟨rfl, hf⟩
        have HF := Lib.hid (hf.alloc (.cells #[.string yn, .int .i64 yd, .bool yr, .int .i64 yc, .int .i64 ys] 88))
        clear hf
        go_wp2
        go_ret3
        exact ⟨rfl, HF.out⟩
    · rw [if_neg h5]
      have h51 : k = 5 := by
        rcases Decidable.em (k = 5) with h | h
        · exact h
        · exact absurd (.inl h) h5
      subst h51
      have hne : nm.toList.isEmpty = false := ne_str (by rcases Nat.eq_zero_or_pos nm.size with h | h; exact absurd (.inr h) h5; exact h)
      have HR := Lib.hid (fun W => fraw_any enc nm h0 h8 (by omega) W)
      unfold RawPost at HR
      obtain ⟨r, hr⟩ : ∃ r, rawF enc nm = r := ⟨_, rfl⟩
      rw [hr] at HR ⊢
      obtain ⟨raw, j⟩ := r
      clear h5 hk hkb hr
      go_enter Tryz.func69, Tryz.ntmps69
      go_wp2_with fail
      refine HA.out.mono ?_
      rintro e w2 ⟨rfl, hf⟩
      have hf2 := hf.alloc (.cells #[.string yn, .int .i64 yd, .bool yr, .int .i64 yc, .int .i64 ys] 88)
      have HF := Lib.hid hf2
      have c1 : (w2.alloc (.cells #[.string yn, .int .i64 yd, .bool yr, .int .i64 yc, .int .i64 ys] 88)).cell? ⟨f, 1, none⟩ = some (.int .i64 enc) := (Blk.keep HV.out hf2).cell 1
      clear hf hf2
      go_wp2_with fail
      refine (HR.out _).mono ?_
      rintro e w3 ⟨rfl, hf3⟩
      have HF3 := Lib.hid (HF.out.trans hf3)
      clear hf3 c1
      go_wp2
      go_ret3
      exact ⟨rfl, HF3.out⟩
end
end Go.Proofs.YtpmlggjhfiljmaaGreatDoor
/- Layer 17: doing. -/
namespace Go.Proofs.YtpmlggjhfiljmaaGreatDoor
open Go.RowKit
set_option linter.unusedVariables false
set_option linter.unnecessarySimpa false
set_option linter.unusedSimpArgs false
attribute [local go_sem ↓] Go.wp_at_zero Go.wp_at_succ
theorem StoAt.mut {S F : Nat → Prop} {w w' : World} {s p : Nat} {m n : Int} {k t q : Nat} {T : TreS} {qt : Nat} (h : StoAt w F s p m n k t q T qt) (hf : Mut S w w') (hn : ∀ j, F j → ¬ S j) : StoAt w' F s p m n k t q T qt := by
  obtain ⟨v, tr, Fv, At, hb, hFs, hFv, hAt, hs1, hs2, hd, hv, ht, hF⟩ := h
  exact ⟨v, tr, Fv, At, hb.mut hf (hn _ hFs), hFs, hFv, hAt, hs1, hs2, hd, hv.mut hf (fun j hj => hn _ (hFv j hj)), ht.mut hf (fun j hj => hn _ (hAt j hj)), hF.later hf.size⟩
theorem StoAt.fresh {F : Nat → Prop} {w w' : World} {s p : Nat} {m n : Int} {k t q : Nat} {T : TreS} {qt : Nat} (h : StoAt w F s p m n k t q T qt) (hf : Fresh w w') : StoAt w' F s p m n k t q T qt := h.mut (hf.mut fun _ => False) (fun _ _ q => q)
theorem StoAt.fb {F : Nat → Prop} {w : World} {s p : Nat} {m n : Int} {k t q : Nat} {T : TreS} {qt : Nat} (h : StoAt w F s p m n k t q T qt) : FB F w := by
  obtain ⟨v, tr, Fv, At, hb, hFs, hFv, hAt, hs1, hs2, hd, hv, ht, hF⟩ := h
  exact hF
/-- a file system at f: its store's blocks meet Fs, its own tree's At -/
def FsAt (w : World) (F : Nat → Prop) (f : Nat) (enc : Int) (p : Nat) (m n : Int) (k t q : Nat) (T : TreS) (qt : Nat) : Prop :=
  ∃ s tr Fs At, FsV w f s enc tr ∧ F f ∧ (∀ j, Fs j → F j) ∧ (∀ j, At j → F j) ∧ ¬ Fs f ∧ ¬ At f ∧ (∀ j, At j → ¬ Fs j) ∧ StoAt w Fs s p m n k t q T qt ∧ TreeAt w At tr T qt ∧ FB F w
theorem FsAt.mut {S F : Nat → Prop} {w w' : World} {f : Nat} {enc : Int} {p : Nat} {m n : Int} {k t q : Nat} {T : TreS} {qt : Nat} (h : FsAt w F f enc p m n k t q T qt) (hf : Mut S w w') (hn : ∀ j, F j → ¬ S j) : FsAt w' F f enc p m n k t q T qt := by
  obtain ⟨s, tr, Fs, At, hb, hFf, hFs, hAt, hf1, hf2, hd, hs, ht, hF⟩ := h
  exact ⟨s, tr, Fs, At, Blk.mut hb hf (hn _ hFf), hFf, hFs, hAt, hf1, hf2, hd, hs.mut hf (fun j hj => hn _ (hFs j hj)), ht.mut hf (fun j hj => hn _ (hAt j hj)), hF.later hf.size⟩
theorem FsAt.fresh {F : Nat → Prop} {w w' : World} {f : Nat} {enc : Int} {p : Nat} {m n : Int} {k t q : Nat} {T : TreS} {qt : Nat} (h : FsAt w F f enc p m n k t q T qt) (hf : Fresh w w') : FsAt w' F f enc p m n k t q T qt := h.mut (hf.mut fun _ => False) (fun _ _ q => q)
theorem FsAt.fb {F : Nat → Prop} {w : World} {f : Nat} {enc : Int} {p : Nat} {m n : Int} {k t q : Nat} {T : TreS} {qt : Nat} (h : FsAt w F f enc p m n k t q T qt) : FB F w := by
  obtain ⟨s, tr, Fs, At, hb, hFf, hFs, hAt, hf1, hf2, hd, hs, ht, hF⟩ := h
  exact hF
/-- bounds of a tree -/
structure TB (T : TreS) (qt : Nat) : Prop where
  qt : qt ≤ 100000
  bk : T.bk.length ≤ 100000
  len : ∀ i l, T.dirs i = some l → l.length ≤ 10000
  next : 0 ≤ T.next ∧ T.next ≤ 100000
abbrev deedV (kind dir dst : Int) (name as_ : ByteArray) (isDir : Bool) (short : Int) : Value := .agg #[.int .i64 kind, .int .i64 dir, .int .i64 dst, .string name, .string as_, .bool isDir, .int .i64 short]
/-- what store.Do does: S tells the answer's two numbers, and the state behind it -/
def SdoG (S : Int → Int → Nat → Nat → Nat → TreS → Nat → Prop) (F : Nat → Prop) (s p : Nat) (m n : Int) (w : World) (e : Ending) (w' : World) : Prop :=
  ∃ a b k t q T qt F', S a b k t q T qt ∧ e = .returned (.tuple #[.int .i64 a, .int .i64 b]) ∧ StoAt w' F' s p m n k t q T qt ∧ TB T qt ∧ Mut F w w' ∧ Gr F w w' F'
def FdoG (S : Int → Int → Nat → Nat → Nat → TreS → Nat → Prop) (F : Nat → Prop) (f : Nat) (enc : Int) (p : Nat) (m n : Int) (w : World) (e : Ending) (w' : World) : Prop :=
  ∃ a b k t q T qt F', S a b k t q T qt ∧ e = .returned (.tuple #[.int .i64 a, .int .i64 b]) ∧ FsAt w' F' f enc p m n k t q T qt ∧ TB T qt ∧ Mut F w w' ∧ Gr F w w' F'
theorem fover_any (F : Nat → Prop) (f : Nat) (enc : Int) (p : Nat) (m n : Int) (k t q : Nat) (T : TreS) (qt : Nat) (w : World) (h : FsAt w F f enc p m n k t q T qt) : Calls Tryz.prog 68 #[.pointer (some ⟨f, 0, none⟩)] w fun e w' => e = .returned (.bool false) ∧ w = w' := by
  obtain ⟨s, tr, Fs, At, hb, hFf, hFs, hAt, hf1, hf2, hd, hs, ht, hF⟩ := h
  have c0 : w.cell? ⟨f, 0, none⟩ = some (.pointer (some ⟨s, 0, none⟩)) := hb.cell 0
  have HO := Lib.hid (sover_any Fs s p m n k t q T qt w hs)
  clear hb hs ht hd hF hFs hAt
  go_enter Tryz.func68, Tryz.ntmps68
  go_wp2_with fail
  refine HO.out.mono ?_
  rintro e w1 ⟨rfl, rfl⟩
  go_wp2
  go_ret
  exact ⟨rfl, rfl⟩
set_option maxRecDepth 100000 in
set_option maxHeartbeats 3200000 in
theorem fdo_any (S : Int → Int → Nat → Nat → Nat → TreS → Nat → Prop) (kind dir dst : Int) (name as_ : ByteArray) (isDir : Bool) (short : Int) (F : Nat → Prop) (f : Nat) (enc : Int) (p : Nat) (m n : Int) (k t q : Nat) (T : TreS) (qt : Nat) (w : World) (h : FsAt w F f enc p m n k t q T qt)
    (HS : ∀ W Fs s, Fresh w W → StoAt W Fs s p m n k t q T qt → Calls Tryz.prog 127 #[.pointer (some ⟨s, 0, none⟩), deedV kind dir dst name as_ isDir short] W (SdoG S Fs s p m n W)) :
    Calls Tryz.prog 70 #[.pointer (some ⟨f, 0, none⟩), deedV kind dir dst name as_ isDir short] w (FdoG S F f enc p m n w) := by
  obtain ⟨s, tr, Fs, At, hb, hFf, hFs, hAt, hf1, hf2, hd, hs, ht, hF⟩ := h
  unfold FsV at hb
  obtain ⟨W5, hW5⟩ : ∃ W5, w.alloc (.cells #[.int .i64 kind, .int .i64 dir, .int .i64 dst, .string name, .string as_, .bool isDir, .int .i64 short] 142) = W5 := ⟨_, rfl⟩
  have f5 : Fresh w W5 := by rw [← hW5]; exact (Fresh.refl _).alloc _
  have b5 : Blk W5 w.heap.size 142 #[.int .i64 kind, .int .i64 dir, .int .i64 dst, .string name, .string as_, .bool isDir, .int .i64 short] := by rw [← hW5]; exact Blk.new _ _ _
  have HP : Hid (∀ W, Mut Fs W5 W → W.cell? ⟨f, 0, none⟩ = some (.pointer (some ⟨s, 0, none⟩)) ∧ W.cell? ⟨w.heap.size, 0, none⟩ = some (.int .i64 kind) ∧ W.cell? ⟨w.heap.size, 1, none⟩ = some (.int .i64 dir) ∧ W.cell? ⟨w.heap.size, 2, none⟩ = some (.int .i64 dst) ∧ W.cell? ⟨w.heap.size, 3, none⟩ = some (.string name) ∧ W.cell? ⟨w.heap.size, 4, none⟩ = some (.string as_) ∧ W.cell? ⟨w.heap.size, 5, none⟩ = some (.bool isDir) ∧ W.cell? ⟨w.heap.size, 6, none⟩ = some (.int .i64 short)) := Lib.hid (fun W hW => by
    have c := (hb.keep f5).mut hW hf1
    have d := b5.mut hW (fun h => by have := hF _ (hFs _ h); omega)
    exact ⟨c.cell 0, d.cell 0, d.cell 1, d.cell 2, d.cell 3, d.cell 4, d.cell 5, d.cell 6⟩)
  have HDO := Lib.hid (fun W (hW : Fresh W5 W) => HS W Fs s (f5.trans hW) (hs.fresh (f5.trans hW)))
  have HF5 := Lib.hid f5
  have H := Lib.hid (And.intro hb (And.intro hFf (And.intro hFs (And.intro hf1 hF))))
  have hfl := hb.lt
  obtain ⟨e0, e1, e2, e3, e4, e5, e6, e7⟩ := HP.out W5 (Mut.refl _ _)
  clear hb hs ht hd hF hFs hAt f5 b5 HS
  go_enter Tryz.func70, Tryz.ntmps70
  go_wp2_with fail
  go_region_held3 (fun W => W.cell? ⟨f, 0, none⟩ = some (.pointer (some ⟨s, 0, none⟩)) ∧ W.cell? ⟨w.heap.size, 0, none⟩ = some (.int .i64 kind) ∧ W.cell? ⟨w.heap.size, 1, none⟩ = some (.int .i64 dir) ∧ W.cell? ⟨w.heap.size, 2, none⟩ = some (.int .i64 dst) ∧ W.cell? ⟨w.heap.size, 3, none⟩ = some (.string name) ∧ W.cell? ⟨w.heap.size, 4, none⟩ = some (.string as_) ∧ W.cell? ⟨w.heap.size, 5, none⟩ = some (.bool isDir) ∧ W.cell? ⟨w.heap.size, 6, none⟩ = some (.int .i64 short)) (first | go_keep | exact hS8 | (have := hS8; exact hS8)) (first
    | (go_at_call 127; refine (HDO.out _ (by repeat (first | exact Fresh.refl _ | refine Fresh.drew ?_))).mono ?_; rintro e w2 ⟨a, b, k2, t2, q2, T2, qt2, F2, hS, rfl, hst, hTB, hm, hg⟩; have hm5 : Mut Fs W5 w2 := (Fresh.andMut (by repeat (first | exact Fresh.refl _ | refine Fresh.drew ?_)) hm); have hS8 := HP.out w2 hm5; have HM := Lib.hid (And.intro hS (And.intro hst (And.intro hTB (And.intro hm5 hg)))); clear hS hst hTB hm hg))
  all_goals
    have hb2 : Blk w2 f 152 #[.pointer (some ⟨s, 0, none⟩), .int .i64 enc, .pointer (some ⟨tr, 0, none⟩)] := (H.out.1.keep HF5.out).mut HM.out.2.2.2.1 hf1
    have c0 : w2.cell? ⟨f, 0, none⟩ = some (.pointer (some ⟨s, 0, none⟩)) := hb2.cell 0
    have HTR := Lib.hid (stree_any F2 s p m n k2 t2 q2 T2 qt2 w2 HM.out.2.1 (by have := HM.out.2.2.1.qt; omega) HM.out.2.2.1.bk (fun i l hl => by have := HM.out.2.2.1.len i l hl; omega))
    have HB2 := Lib.hid hb2
    clear hW5 hm5 hS8 e0 e1 e2 e3 e4 e5 e6 e7 hb2
    go_wp2_with fail
    refine HTR.out.mono ?_
    rintro e w3 ⟨x, rfl, hx, hf3⟩
    have hb3 := HB2.out.keep hf3
    have c2 : w3.cell? ⟨f, 2, none⟩ = some (.pointer (some ⟨tr, 0, none⟩)) := hb3.cell 2
    have z2 : w3.frozen? ⟨f, 2, none⟩ = false := hb3.frozen 2
    have HFIN : Hid (FdoG S F f enc p m n w (.returned (.tuple #[.int .i64 a, .int .i64 b])) (w3.setCell ⟨f, 2, none⟩ (.pointer (some ⟨x, 0, none⟩)))) := Lib.hid (by
      obtain ⟨hS, hst, hTB, hm5, hg⟩ := HM.out
      obtain ⟨_, _, hFs, _, hF⟩ := H.out
      have z5 := HF5.out.size
      have zz2 := hm5.size
      have z3 := hf3.size
      have hu : Mut (fun j => j = f) w3 (w3.setCell ⟨f, 2, none⟩ (.pointer (some ⟨x, 0, none⟩))) := (Mut.refl (fun j => j = f) w3).setCell (p := ⟨f, 2, none⟩) (.inl rfl) _
      have zu := hu.size
      have hF2 : ∀ j, F2 j → F j ∨ (w.heap.size ≤ j ∧ j < w2.heap.size) := fun j hj => by
        rcases hg j hj with h | h
        · exact .inl (hFs j h)
        · have h1 : W5.heap.size ≤ j := h.1
          exact .inr ⟨by omega, h.2⟩
      have hF2f : ¬ F2 f := fun h => by
        rcases hg f h with h | h
        · exact hf1 h
        · have h1 : W5.heap.size ≤ f := h.1
          omega
      have hF2l : ∀ j, F2 j → j < w2.heap.size := fun j hj => by
        rcases hF2 j hj with h | h
        · have := hF j h; omega
        · exact h.2
      refine ⟨a, b, k2, t2, q2, T2, qt2, ext F w (w3.setCell ⟨f, 2, none⟩ (.pointer (some ⟨x, 0, none⟩))), hS, rfl, ⟨s, x, F2, fun j => w2.heap.size ≤ j ∧ j < w3.heap.size, hb3.set (i := 2), .inl hFf, fun j hj => ?_, fun j hj => .inr ⟨by omega, by omega⟩, hF2f, fun h => by omega, fun j hj h => by have := hF2l j h; omega, (hst.fresh hf3).mut hu (fun j hj e => hF2f (e ▸ hj)), (hx.mono (fun j h1 h2 => ⟨h2, h1⟩)).mut hu (fun j hj e => by omega), fun j hj => ?_⟩, hTB, ?_, Gr.ext _ _ _⟩
      · rcases hF2 j hj with h | h
        · exact .inl h
        · exact .inr ⟨h.1, by omega⟩
      · rcases hj with h | h
        · have := hF j h; omega
        · exact h.2
      · exact ((HF5.out.andMut (hm5.mono (T := F) (fun j _ h => hFs j h))).andFresh hf3).trans2 hu (fun _ h => h) (fun j _ e => by rw [e]; exact hFf))
    clear hx hf3 hb3 HM
    go_wp2
    go_ret2
    exact HFIN.out
end Go.Proofs.YtpmlggjhfiljmaaGreatDoor
/- Layer 17: Make; the Link deed. -/
namespace Go.Proofs.YtpmlggjhfiljmaaGreatDoor
open Go.RowKit
set_option linter.unusedVariables false
set_option linter.unnecessarySimpa false
set_option linter.unusedSimpArgs false
/-- what a Link deed answers, and the state behind it -/
def LinkS (R : Int → Int → List Int → Prop) (T : TreS) (d : Int) (name : ByteArray) (isDir : Bool) (short : Int) (k t q qt : Nat) (a b : Int) (k2 t2 q2 : Nat) (T2 : TreS) (qt2 : Nat) : Prop :=
  (b ≠ 0 ∧ a = 0 ∧ (LinkErr T d name short b ∨ (LinkOk T d name short ∧ b = 12 ∧ ∃ k fr bk, R k fr bk ∧ 200 < k)) ∧ k2 = k ∧ t2 = t ∧ q2 = q ∧ T2 = T ∧ qt2 = qt) ∨
  (LinkOk T d name short ∧ ∃ fr bk, R a fr bk ∧ a ≤ 200 ∧ b = 0 ∧ k2 = k + 1 ∧ t2 = t + kfr (name.size + 9) ∧ q2 = q + kfr (name.size + 9) ∧ T2 = linkT T d name isDir short a fr bk ∧ qt2 = qt + 3)
theorem TB.link {T : TreS} {qt : Nat} (h : TB T qt) (hq : qt + 3 ≤ 100000) (hl : ∀ i l, T.dirs i = some l → l.length + 1 ≤ 10000) (hn : T.next + 1 ≤ 100000) {d : Int} {name : ByteArray} {isDir : Bool} {short k fr : Int} {bk : List Int} (hb : bk.length ≤ 100000) : TB (linkT T d name isDir short k fr bk) (qt + 3) := by
  have hN : ∀ i l, (nodeT T isDir k fr bk).dirs i = some l → l.length + 1 ≤ 10000 := fun i l hh => by
    unfold nodeT at hh
    simp only at hh
    cases isDir with
    | false => exact hl i l hh
    | true =>
      simp only [if_true] at hh
      split at hh
      · injection hh with hh; subst hh; simp
      · exact hl i l hh
  refine ⟨hq, hb, fun i l hh => ?_, ?_⟩
  · unfold linkT putT at hh
    simp only at hh
    split at hh
    · injection hh with hh
      subst hh
      rw [List.length_append, List.length_singleton]
      cases hd : (nodeT T isDir k fr bk).dirs d with
      | none => simp
      | some l' => have := hN d l' hd; simp; omega
    · have := hN i l hh; omega
  · have := h.next
    show 0 ≤ (nodeT T isDir k fr bk).next + 1 ∧ (nodeT T isDir k fr bk).next + 1 ≤ 100000
    have e : (nodeT T isDir k fr bk).next = T.next := rfl
    rw [e]
    omega
theorem sdo_link (R : Int → Int → List Int → Prop) (F : Nat → Prop) (s p : Nat) (m n : Int) (k t q : Nat) (T : TreS) (qt : Nat) (w : World) (h : StoAt w F s p m n k t q T qt) (hT : Takes R T qt) (hRb : ∀ i fr bk, R i fr bk → bk.length ≤ 100000) (dir : Int) (name : ByteArray) (isDir : Bool) (short : Int) (hd : 0 ≤ dir ∧ dir ≤ 65535) (hs : 0 ≤ short ∧ short ≤ 1000000) (hnm : name.size ≤ 255)
    (hB : TB T qt) (hqt : qt + 3 ≤ 100000) (hl : ∀ i l, T.dirs i = some l → l.length + 1 ≤ 10000) (hnx : T.next + 1 ≤ 100000) (hm : 0 ≤ m ∧ m + m ≤ n) (hn : n ≤ 1000000) (ht : 1 ≤ t) (hfit : (t : Int) + 5 ≤ m) (hq : q ≤ 70000) (hk : k ≤ 100000) :
    Calls Tryz.prog 127 #[.pointer (some ⟨s, 0, none⟩), deedV 1 dir 0 name ⟨#[]⟩ isDir short] w (SdoG (LinkS R T dir name isDir short k t q qt) F s p m n w) := by
  refine (sdo_any R F s p m n k t q T qt w h hT dir name isDir short hd hs hnm hB.qt hB.bk (fun i l hh => by have := hl i l hh; omega) hB.next hm hn ht hfit hq hk).mono ?_
  rintro e w' (⟨r, hr, hre, rfl, hf⟩ | ⟨hok, i, fr, bk, F', hR, hi, rfl, hst, hm2, hg⟩)
  · exact ⟨0, r, k, t, q, T, qt, F, .inl ⟨hr, rfl, hre, rfl, rfl, rfl, rfl, rfl⟩, rfl, h.fresh hf, hB, hf.mut F, (Gr.refl F w).later hf.size⟩
  · exact ⟨i, 0, k + 1, _, _, _, qt + 3, F', .inr ⟨hok, fr, bk, hR, hi, rfl, rfl, rfl, rfl, rfl, rfl⟩, rfl, hst, hB.link hqt hl hnx (hRb i fr bk hR), hm2, hg⟩
def MakeG (S : Int → Int → Nat → Nat → Nat → TreS → Nat → Prop) (r : Int × ByteArray × Int) (F : Nat → Prop) (f : Nat) (enc : Int) (p : Nat) (m n : Int) (w : World) (e : Ending) (w' : World) : Prop :=
  (r.2.2 ≠ 0 ∧ e = .returned (.tuple #[.int .i64 0, .int .i64 r.2.2]) ∧ Fresh w w') ∨ (r.2.2 = 0 ∧ FdoG S F f enc p m n w e w')
set_option maxRecDepth 100000 in
set_option maxHeartbeats 1600000 in
theorem fmake_any (S : Int → Int → Nat → Nat → Nat → TreS → Nat → Prop) (F : Nat → Prop) (f : Nat) (enc : Int) (p : Nat) (m n : Int) (k t q : Nat) (T : TreS) (qt : Nat) (w : World) (h : FsAt w F f enc p m n k t q T qt) (hT : TOK enc T) (path : ByteArray) (isDir : Bool) (hp : path.size ≤ 1000000) (h0 : 0 ≤ enc) (h8 : enc ≤ 8)
    (HS : (freshR enc T path).2.2 = 0 → ∀ W Fs s, Fresh w W → StoAt W Fs s p m n k t q T qt → Calls Tryz.prog 127 #[.pointer (some ⟨s, 0, none⟩), deedV 1 (freshR enc T path).1 0 (freshR enc T path).2.1 ⟨#[]⟩ isDir 0] W (SdoG S Fs s p m n W)) :
    Calls Tryz.prog 29 #[.pointer (some ⟨f, 0, none⟩), .string path, .bool isDir] w (MakeG S (freshR enc T path) F f enc p m n w) := by
  have HO := Lib.hid (fover_any F f enc p m n k t q T qt w h)
  have HFR : Hid (Calls Tryz.prog 69 #[.pointer (some ⟨f, 0, none⟩), .string path] w (ParF (freshR enc T path) w)) := Lib.hid (by
    obtain ⟨s, tr, Fs, At, hb, hFf, hFs, hAt, hf1, hf2, hd, hs, ht, hF⟩ := h
    exact fresh_any enc At f s tr T qt hT w hb ht path hp h0 h8)
  have HDO := Lib.hid (fun (hz : (freshR enc T path).2.2 = 0) W (hW : Fresh w W) => fdo_any S 1 (freshR enc T path).1 0 (freshR enc T path).2.1 ⟨#[]⟩ isDir 0 F f enc p m n k t q T qt W (h.fresh hW) (fun W' Fs s hW' hs => HS hz W' Fs s (hW.trans hW') hs))
  obtain ⟨r, hr⟩ : ∃ r, freshR enc T path = r := ⟨_, rfl⟩
  rw [hr] at HFR HDO ⊢
  obtain ⟨d, raw, j⟩ := r
  unfold ParF at HFR
  simp only at HFR HDO
  clear h HS hT hr
  by_cases hj : j = 0
  · subst hj
    have HDO2 := Lib.hid (HDO.out rfl)
    clear HDO
    go_enter Tryz.func29, Tryz.ntmps29
    go_wp2_with fail
    refine HO.out.mono ?_
    rintro e w1 ⟨rfl, rfl⟩
    go_wp2_with fail
    refine HFR.out.mono ?_
    rintro e w2 ⟨rfl, hf2⟩
    have HF2 := Lib.hid hf2
    clear hf2
    go_wp2_with fail
    refine (HDO2.out w2 HF2.out).mono ?_
    rintro e w3 ⟨a, b, k2, t2, q2, T2, qt2, F2, hS, rfl, hfs, hTB, hm, hg⟩
    have HFIN : Hid (MakeG S (d, raw, 0) F f enc p m n w (.returned (.tuple #[.int .i64 a, .int .i64 b])) w3) := Lib.hid (.inr ⟨rfl, a, b, k2, t2, q2, T2, qt2, F2, hS, rfl, hfs, hTB, HF2.out.andMut hm, hg.ahead HF2.out.size⟩)
    clear hS hfs hTB hm hg
    go_wp2
    go_ret2
    exact HFIN.out
  · have hjb : (j != 0) = true := by simp [hj]
    have HJ := Lib.hid hj
    clear hj HDO
    go_enter Tryz.func29, Tryz.ntmps29
    go_wp2_with fail
    refine HO.out.mono ?_
    rintro e w1 ⟨rfl, rfl⟩
    go_wp2_with fail
    refine HFR.out.mono ?_
    rintro e w2 ⟨rfl, hf2⟩
    go_wp2
    go_ret2
    exact .inl ⟨HJ.out, rfl, hf2⟩
end Go.Proofs.YtpmlggjhfiljmaaGreatDoor
