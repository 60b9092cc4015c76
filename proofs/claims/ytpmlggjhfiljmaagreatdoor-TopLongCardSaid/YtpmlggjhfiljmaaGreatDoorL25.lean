/- Part 25 of what the law rests on. -/
import Derived.Lib.AppendStr
import Derived.Test.YtpmlggjhfiljmaaGreatDoorL18
import Derived.Test.YtpmlggjhfiljmaaGreatDoorL19
import Derived.Test.YtpmlggjhfiljmaaGreatDoorL22
import Derived.Test.YtpmlggjhfiljmaaGreatDoorL24
set_option linter.all false
namespace Go.Proofs.YtpmlggjhfiljmaaGreatDoor
open Go.RowKit
theorem img0_size : img0.size = 14 := by decide +kernel
section
variable (F : Nat → Prop) (p : Nat) (n : Int) (w : World)
theorem sformat_any (m : Nat) (h : DevAt w F p n (fun _ => zer 64) 0) (hF : FB F w) (hm : n / 2 = m) (hm1 : 4 ≤ m) (hn : n ≤ 1000000) : Calls Tryz.prog 88 #[.pointer (some ⟨p, 0, none⟩)] w (DevPost F p n (newD img0 m) 5 w (.int .i64 0)) := by
  have HTN := Lib.hid (fun W => treeNew_any W)
  have HEN := Lib.hid (fun W A t T q h1 h2 h3 => encode0_any W A t T q h1 h2 h3)
  have HFO := Lib.hid (fun W (hW : Fresh w W) => format_new F p n W m (h.fresh hW) (hF.later hW.size) hm hm1 hn img0 (by rw [img0_size]; omega) (by rw [img0_size]; omega))
  obtain ⟨S, hS⟩ : ∃ S, img0 = S := ⟨_, rfl⟩
  rw [hS] at HEN HFO ⊢
  clear hS h
  go_enter Tryz.func88, Tryz.ntmps88
  go_wp2_with fail
  refine (HTN.out _).mono ?_
  rintro e w1 ⟨t, rfl, ht, hf1⟩
  have HE1 := Lib.hid (HEN.out w1 _ t T0 1 ht isT0 (by omega))
  clear ht
  go_wp2_with fail
  refine HE1.out.mono ?_
  rintro e w2 ⟨rfl, hf2⟩
  have hf := hf1.trans hf2
  go_wp2_with fail
  refine (HFO.out w2 hf).mono ?_
  rintro e w3 ⟨rfl, F', hd, hm3, hg⟩
  have HX := Lib.hid (And.intro hd (And.intro (hf.andMut hm3) (hg.ahead hf.size)))
  clear hd hm3 hg
  go_wp2
  go_ret
  exact ⟨rfl, F', HX.out.1, HX.out.2.1, HX.out.2.2⟩
end
end Go.Proofs.YtpmlggjhfiljmaaGreatDoor
namespace Go.Proofs.YtpmlggjhfiljmaaGreatDoor
open Go.RowKit
theorem frS_img0 : frS (img0.extract (0 * 62) img0.size) = frS img0 := by
  have : img0.extract (0 * 62) img0.size = img0 := by decide +kernel
  rw [this]
theorem newD_facts (m : Nat) (hm : 4 ≤ m) : newD img0 m 0 = labS 1 ∧ newD img0 m m = labS 0 ∧ newD img0 m 1 = frS img0 ∧ ∀ i : Int, 2 ≤ i → i < m → newD img0 m i = zer 64 := by
  have hk : kfr img0.size = 1 := by rw [img0_size]; rfl
  have e0 : ((0 : Int) + 1 + (0 : Nat)) = 1 := rfl
  unfold newD
  rw [hk]
  unfold wrD wrD
  rw [frS_img0, e0]
  unfold upd
  refine ⟨by simp, ?_, ?_, fun i h1 h2 => ?_⟩
  · simp only
    rw [if_neg (by omega), if_neg (by omega), if_neg (by omega), if_pos trivial]
  · simp only
    rw [if_neg (by omega), if_pos trivial]
  · simp only
    rw [if_neg (by omega), if_neg (by omega), if_neg (by omega), if_neg (by omega), if_neg (by omega)]
theorem replay_none (t : Value) (a : Option Addr) (c : Nat) (w : World) : Calls Tryz.prog 177 #[t, .slice a 0 c] w fun e w' => e = .returned (.int .i64 0) ∧ w = w' := by
  go_enter Tryz.func177, Tryz.ntmps177
  go_wp2
  refine wp_loop_rounds 1 ?_
  rw [rounds_succ]
  go_wp2
  go_ret
  exact ⟨rfl, rfl⟩
def StoAt (w : World) (F : Nat → Prop) (s p : Nat) (m n : Int) (k t q : Nat) (T : TreS) (qt : Nat) : Prop :=
  ∃ v tr Fv At, Blk w s 201 #[.pointer (some ⟨v, 0, none⟩), .pointer (some ⟨tr, 0, none⟩)] ∧ F s ∧ (∀ j, Fv j → F j) ∧ (∀ j, At j → F j) ∧ ¬ Fv s ∧ ¬ At s ∧ (∀ j, At j → ¬ Fv j) ∧ VltAt w Fv v p m n img0 t k q ∧ TreeAt w At tr T qt ∧ FB F w
def MountPost (F : Nat → Prop) (p : Nat) (m n : Int) (q : Nat) (w : World) (e : Ending) (w' : World) : Prop :=
  ∃ s T qt F', e = .returned (.tuple #[.pointer (some ⟨s, 0, none⟩), .int .i64 0]) ∧ StoAt w' F' s p m n 0 2 q T qt ∧ IsT0 T ∧ qt ≤ 10 ∧ w.heap.size ≤ s ∧ Mut F w w' ∧ Gr F w w' F'
section
variable (F : Nat → Prop) (p : Nat) (n : Int) (q : Nat) (w : World)
set_option maxHeartbeats 1600000 in
theorem smount_any (m : Nat) (h : DevAt w F p n (newD img0 m) q) (hF : FB F w) (hm : n / 2 = m) (hm1 : 4 ≤ m) (hn : n ≤ 1000000) : Calls Tryz.prog 123 #[.pointer (some ⟨p, 0, none⟩)] w (MountPost F p m n q w) := by
  obtain ⟨d0, dm, d1, dz⟩ := newD_facts m hm1
  have HOP := Lib.hid (open_new F p n (newD img0 m) q w m h hF hm hm1 hn img0 (by rw [img0_size]; omega) (by rw [img0_size]; omega) d0 dm d1 dz)
  have HDE := Lib.hid (fun W => decode0_any W)
  have HIM := Lib.hid (fun F v p m n t k q W h => image_any F v p m n img0 t k q W h)
  have HRE := Lib.hid (fun F v p m n t q W h => records_none F v p m n img0 t q W h)
  obtain ⟨S, hS⟩ : ∃ S, img0 = S := ⟨_, rfl⟩
  have HSS := Lib.hid hS
  rw [hS] at HDE HIM HRE HOP
  clear hS h d0 dm d1 dz
  go_enter Tryz.func123, Tryz.ntmps123
  go_wp2_with fail
  refine HOP.out.mono ?_
  rintro e w1 ⟨v, F1, rfl, hv1, hm1, hg1⟩
  have HV := Lib.hid (And.intro hv1 (And.intro hm1 hg1))
  clear hv1 hm1 hg1
  go_wp2_with fail
  refine (HIM.out _ _ _ _ _ _ _ _ _ HV.out.1).mono ?_
  rintro e w1' ⟨rfl, rfl⟩
  go_wp2_with fail
  refine (HDE.out _).mono ?_
  rintro e w2 ⟨tr, T, qt, rfl, ht, hqt, hT, hf2⟩
  have HT := Lib.hid (And.intro ht (And.intro hqt (And.intro hT hf2)))
  clear ht hqt hT hf2
  go_wp2_with fail
  refine (HRE.out _ _ _ _ _ _ _ _ (HV.out.1.fresh HT.out.2.2.2)).mono ?_
  rintro e w3 ⟨⟨a, c, rfl⟩, hf3⟩
  go_wp2_with fail
  refine (replay_none _ a c _).mono ?_
  rintro e w3' ⟨rfl, rfl⟩
  go_wp2
  go_ret2
  obtain ⟨hv1, hm1, hg1⟩ := HV.out
  obtain ⟨ht, hqt, hT, hf2⟩ := HT.out
  have z1 := hm1.size
  have z2 := hf2.size
  have z3 := hf3.size
  have hFB1 : FB F1 w1 := by obtain ⟨_, _, _, _, _, _, _, _, _, h⟩ := hv1; exact h
  have f13 : Fresh w1 (w3.alloc (.cells #[.pointer (some ⟨v, 0, none⟩), .pointer (some ⟨tr, 0, none⟩)] 201)) := (hf2.trans hf3).alloc _
  refine ⟨w3.heap.size, T, qt, ext F w (w3.alloc (.cells #[.pointer (some ⟨v, 0, none⟩), .pointer (some ⟨tr, 0, none⟩)] 201)), rfl, ⟨v, tr, F1, fun k => w1.heap.size ≤ k ∧ k < w3.heap.size, Blk.new _ _ _, .inr ⟨by omega, by simp⟩, fun j hj => ?_, fun j hj => .inr ⟨by omega, by simp; omega⟩, fun h => ?_, fun h => by omega, fun j hj h => ?_, by rw [HSS.out]; exact hv1.fresh f13, ?_, fun k hk => ?_⟩, hT, hqt, by omega, hm1.andFresh f13, Gr.ext _ _ _⟩
  · rcases hg1 j hj with q | q
    · exact .inl q
    · exact .inr ⟨q.1, by simp; omega⟩
  · have := hFB1 _ h; omega
  · have := hFB1 _ h; omega
  · exact ((ht.fresh hf3).mono (A' := fun k => w1.heap.size ≤ k ∧ k < w3.heap.size) (fun k hk1 hk2 => ⟨hk2, hk1⟩)).fresh ((Fresh.refl _).alloc _)
  · rcases hk with q | q
    · have := hF k q; simp; omega
    · exact q.2
end
end Go.Proofs.YtpmlggjhfiljmaaGreatDoor
namespace Go.Proofs.YtpmlggjhfiljmaaGreatDoor
open Go.RowKit
abbrev linkV (dir : Int) (name : ByteArray) (isDir : Bool) (short : Int) : Value := .agg #[.int .i64 1, .int .i64 dir, .int .i64 0, .string name, .string ⟨#[]⟩, .bool isDir, .int .i64 short]
set_option maxRecDepth 100000 in
set_option maxHeartbeats 1600000 in
theorem formedL_any (dir : Int) (name : ByteArray) (isDir : Bool) (short : Int) (hd : 0 ≤ dir ∧ dir ≤ 65535) (hs : 0 ≤ short ∧ short ≤ 1000000) (b : Bool) (hb : b = decide (name.size ≤ 255)) (w : World) : Calls Tryz.prog 271 #[linkV dir name isDir short] w fun e w' => e = .returned (.bool b) ∧ Fresh w w' := by
  have e0 : (ByteArray.mk #[]).toList.isEmpty = true := by decide +kernel
  have e1 : (ByteArray.mk #[]).size = 0 := rfl
  obtain ⟨hd0, hd1⟩ := hd
  obtain ⟨hs0, hs1⟩ := hs
  by_cases h : name.size ≤ 255
  · have h1 : (name.size : Int) ≤ 255 := by omega
    have hb2 : b = true := by rw [hb]; simp [h]
    subst hb2
    clear hb h
    go_enter Tryz.func271, Tryz.ntmps271
    go_wp2
    go_ret
    exact ⟨rfl, (Fresh.refl w).alloc _⟩
  · have h1 : ¬ (name.size : Int) ≤ 255 := by omega
    have hb2 : b = false := by rw [hb]; simp [h]
    subst hb2
    clear hb h
    go_enter Tryz.func271, Tryz.ntmps271
    go_wp2
    go_ret
    exact ⟨rfl, (Fresh.refl w).alloc _⟩
open Go.RowKit
def U8At (w : World) (A : Nat → Prop) (v : Value) (k : Nat) : Prop := ∃ l : List Int, l.length = k ∧ (∀ x ∈ l, 0 ≤ x ∧ x < 256) ∧ OwnA w A 5 1 v k (l.map (Value.int .u8))
theorem U8At.mono {w : World} {A A' : Nat → Prop} {v : Value} {k : Nat} (h : U8At w A v k) (ha : ∀ g, g < w.heap.size → A g → A' g) : U8At w A' v k := by
  obtain ⟨l, h1, h2, h3⟩ := h
  exact ⟨l, h1, h2, h3.mono ha⟩
theorem U8At.fresh {w w' : World} {A : Nat → Prop} {v : Value} {k : Nat} (h : U8At w A v k) (hf : Fresh w w') : U8At w' A v k := by
  obtain ⟨l, h1, h2, h3⟩ := h
  exact ⟨l, h1, h2, h3.fresh hf⟩
def GrowU (A : Nat → Prop) (k : Nat) (w : World) (e : Ending) (w' : World) : Prop := ∃ a c, e = .returned (.slice a k c) ∧ U8At w' (ext A w w') (.slice a k c) k ∧ Mut A w w'
def NumD (A : Nat → Prop) (k0 k : Nat) (w : World) (v i : Value) (wr : World) : Prop := ∃ j : Nat, j ≤ k ∧ i = .int .i64 (8 * (j : Int) - 8) ∧ (∃ a c, v = .slice a (k0 + k - j) c) ∧ U8At wr (ext A w wr) v (k0 + k - j) ∧ Mut A w wr
set_option maxRecDepth 100000 in
set_option maxHeartbeats 1600000 in
theorem dnumber_any (A : Nat → Prop) (a0 : Option Addr) (c0 : Nat) (k0 : Nat) (n : Int) (hn : 0 ≤ n ∧ n ≤ 1000000000) (k : Nat) (hk : 1 ≤ k ∧ k ≤ 8) (hk0 : k0 ≤ 10000) (w : World) (h : U8At w A (.slice a0 k0 c0) k0) :
    Calls Tryz.prog 348 #[.slice a0 k0 c0, .int .i64 n, .int .i64 k] w (GrowU A (k0 + k) w) := by
  obtain ⟨i0, hi0, hz0, hz1, hz2⟩ := info_partsG infoU8
  have H := Lib.hid h
  clear h
  go_enter Tryz.func348, Tryz.ntmps348
  go_wp2_with fail
  go_loopw [0, 7] (fun v i wr => NumD A k0 k w v i wr) (fun _ i _ => (intOf i + 8).toNat)
  case atStart => exact ⟨k, Nat.le_refl _, by go_num, ⟨a0, c0, by rw [show k0 + k - k = k0 by omega]⟩, by rw [show k0 + k - k = k0 by omega]; exact H.out.mono (fun _ _ h => .inl h), Mut.refl _ _⟩
  case round =>
    obtain ⟨j, hj, rfl, ⟨a, c, rfl⟩, hu, hm⟩ := hrel
    have HU := Lib.hid hu
    cases j with
    | zero =>
      have hc : ¬ (0 : Int) ≤ 8 * ((0 : Nat) : Int) - 8 := by omega
      clear hu
      go_wp2
      go_ret
      exact ⟨a, c, rfl, HU.out, hm⟩
    | succ j =>
      have hc : (0 : Int) ≤ 8 * ((j + 1 : Nat) : Int) - 8 := by omega
      have hc2 : (8 : Int) ≤ 8 * ((j : Int) + 1) := by omega
      obtain ⟨l, hl1, hl2, ho⟩ := hu
      have HL := Lib.hid (And.intro hl1 hl2)
      clear hl1 hl2
      go_wp2_with (at_builtin; refine wpList_append_ownA _ rfl _ _ 131 rfl (ext A w wr) 5 i0 _ 1 1 Tryz.underlying131 hi0 hz0 hz1 hz2 rfl (by decide) _ _ _ rfl (ho.fresh ((Fresh.refl _).alloc _)) ⟨wr.heap.size, 0, none⟩ 1 1 [_] rfl rfl (newCells _ _ _) (by intro u hu; simp at hu; subst hu; rfl) (by omega) (by decide) ?_; intro a' c' w' hown' hgrow)
      have ek : k0 + k - (j + 1) + 1 = k0 + k - j := by omega
      rw [ek] at hown' ⊢
      have u2 : Mut (fun g => (Value.slice a (k0 + k - (j + 1)) c).ownBlock = some g) wr w' := Fresh.andMut ((Fresh.refl _).alloc _) hgrow
      have z1 := hm.size
      have z2 := u2.size
      have ho2 := ho
      obtain ⟨y, hy⟩ : ∃ y : Int, n / 2 ^ (8 * (j + 1) - 8) % 256 = y := ⟨_, rfl⟩
      have hyb : 0 ≤ y ∧ y < 256 := by omega
      rw [hy] at hown'
      refine ⟨⟨j, by omega, by go_num, ⟨a', c', rfl⟩, ⟨l ++ [y], by rw [List.length_append, HL.out.1]; exact ek, fun x hx => ?_, ?_⟩, ?_⟩, by simp [intOf]; omega⟩
      · rcases List.mem_append.1 hx with q | q
        · exact HL.out.2 x q
        · simp at q
          subst q
          exact hyb
      · rw [List.map_append]
        refine hown'.mono (fun g hg hh => ?_)
        rcases hh with (q | q) | q
        · exact .inl q
        · exact .inr ⟨q.1, by omega⟩
        · have := q.1
          simp at this
          exact .inr ⟨by omega, hg⟩
      · refine hm.trans2 u2 (fun _ h => h) (fun i hi h => ?_)
        rcases ho2.2 i h with q | q
        · exact q
        · omega
open Go.RowKit
theorem OwnA.up {w : World} {Bs : Nat} {e : TypeId} {sz : Nat} {v : Value} {n : Nat} {xs : List Value} (h : OwnA w (fun g => Bs ≤ g) e sz v n xs) : w.ownsRow Bs e sz v n xs := by
  obtain ⟨⟨h1, h2⟩, h3⟩ := h
  refine ⟨h1, ?_⟩
  rcases h2 with h2 | ⟨g, cap, cur, rfl, _, r⟩
  · exact .inl h2
  · exact .inr ⟨g, cap, cur, rfl, h3 g rfl, r⟩
theorem OwnA.down {w : World} {Bs : Nat} {e : TypeId} {sz : Nat} {v : Value} {n : Nat} {xs : List Value} (h : w.ownsRow Bs e sz v n xs) : OwnA w (fun g => Bs ≤ g) e sz v n xs := ⟨own_base h (Nat.zero_le _), fun g hg => (h.lt g hg).1⟩
theorem str_bytes (s : ByteArray) : ∃ l : List Int, l.length = s.size ∧ (∀ x ∈ l, 0 ≤ x ∧ x < 256) ∧ Lib.strCells s = l.map (Value.int .u8) := by
  refine ⟨s.data.toList.map (fun b => (b.toNat : Int)), by rw [List.length_map, Array.length_toList]; rfl, fun x hx => ?_, ?_⟩
  · obtain ⟨b, _, rfl⟩ := List.mem_map.1 hx
    have := b.toNat_lt
    omega
  · simp [Lib.strCells]
def GrowB (Bs k : Nat) (w : World) (e : Ending) (w' : World) : Prop := ∃ a c, e = .returned (.slice a k c) ∧ U8At w' (fun g => Bs ≤ g) (.slice a k c) k ∧ Below Bs w w'
set_option maxRecDepth 100000 in
set_option maxHeartbeats 1600000 in
theorem dname_any (Bs : Nat) (a0 : Option Addr) (c0 k0 : Nat) (s : ByteArray) (hs : s.size ≤ 1000) (hk0 : k0 ≤ 10000) (w : World) (hB : Bs ≤ w.heap.size) (h : U8At w (fun g => Bs ≤ g) (.slice a0 k0 c0) k0) :
    Calls Tryz.prog 347 #[.slice a0 k0 c0, .string s] w (GrowB Bs (k0 + 1 + s.size) w) := by
  obtain ⟨i0, hi0, hz0, hz1, hz2⟩ := info_partsG infoU8
  obtain ⟨l, hl1, hl2, ho⟩ := h
  obtain ⟨ls, hs1, hs2, hs3⟩ := str_bytes s
  have HL := Lib.hid (And.intro hl1 (And.intro hl2 (And.intro hs1 (And.intro hs2 hs3))))
  have HO := Lib.hid ho
  clear hl1 hl2 hs1 hs2 hs3 ho
  go_enter Tryz.func347, Tryz.ntmps347
  go_wp2_with (first
    | (at_builtin; refine wpList_append_ownA _ rfl _ _ 131 rfl (fun g => Bs ≤ g) 5 i0 _ 1 1 Tryz.underlying131 hi0 hz0 hz1 hz2 rfl (by decide) _ _ _ rfl (HO.out.fresh ((Fresh.refl _).alloc _)) ⟨w.heap.size, 0, none⟩ 1 1 [_] rfl rfl (newCells _ _ _) (by intro u hu; simp at hu; subst hu; rfl) (by omega) (by decide) ?_; intro a1 c1 w1 hown1 hgrow1; have ho1 := OwnA.up (hown1.mono (A' := fun g => Bs ≤ g) (fun g _ hg => hg.elim id (fun q => by have := q.1; simp at this; omega))); have hb1 : Below Bs w w1 := (Fresh.andMut ((Fresh.refl _).alloc _) hgrow1).below hB (fun k hk e => by have := HO.out.2 k e; omega))
    | (at_builtin; refine Lib.wpList_append_own_string _ rfl _ _ 131 9 rfl Bs 5 i0 Tryz.underlying131 Tryz.underlying9 hi0 hz0 hz1 hz2 _ _ _ rfl ho1 s rfl (by unfold maxLen; omega) (by omega) (Nat.le_trans hB hb1.size) ?_; intro v2 w2 hown2 hgrow2 hnil2))
  go_ret
  have ho3 := OwnA.down hown2
  have hsh := ho3.shape
  obtain ⟨a2, c2, rfl⟩ := hsh
  obtain ⟨q1, q2, q3, q4, q5⟩ := HL.out
  refine ⟨a2, c2, rfl, ⟨l ++ [(s.size : Int) % 256] ++ ls, by simp; omega, fun x hx => ?_, ?_⟩, hb1.trans (Below.grown (Below.refl Bs w1) hgrow2 (Nat.le_trans hB hb1.size) (fun k hk => (ho1.lt k hk).1))⟩
  · rcases List.mem_append.1 hx with q | q
    · rcases List.mem_append.1 q with q | q
      · exact q2 x q
      · simp at q
        subst q
        omega
    · exact q4 x q
  · rw [List.map_append, List.map_append, ← q5]
    exact ho3
open Go.RowKit
theorem dnumber_b (Bs : Nat) (a0 : Option Addr) (c0 : Nat) (k0 : Nat) (n : Int) (hn : 0 ≤ n ∧ n ≤ 1000000000) (k : Nat) (hk : 1 ≤ k ∧ k ≤ 8) (hk0 : k0 ≤ 10000) (w : World) (hB : Bs ≤ w.heap.size) (h : U8At w (fun g => Bs ≤ g) (.slice a0 k0 c0) k0) :
    Calls Tryz.prog 348 #[.slice a0 k0 c0, .int .i64 n, .int .i64 k] w (GrowB Bs (k0 + k) w) :=
  (dnumber_any _ a0 c0 k0 n hn k hk hk0 w h).mono fun e w' ⟨a, c, he, hu, hm⟩ => ⟨a, c, he, hu.mono (fun g _ hg => hg.elim id (fun q => by omega)), hm.below hB (fun k hk h => by omega)⟩
theorem Fresh.trans3 {a b c : World} (h : Fresh a b) (k : Below a.heap.size b c) : Fresh a c := Below.trans h k
theorem u8_new (W : World) : U8At (W.alloc (.cells #[.int .u8 (IntKind.u8.wrap 1)] 5)).drew (fun g => W.heap.size ≤ g) (.slice (some ⟨W.heap.size, 0, none⟩) 1 1) 1 := by
  refine ⟨[1], rfl, by simp, ⟨rfl, .inr ⟨_, 1, #[.int .u8 1], rfl, Nat.zero_le _, ?_, Nat.le_refl _, by unfold maxLen; omega, rfl, rfl⟩⟩, fun g hg => by have h2 := hg; simp [Value.ownBlock] at h2; omega⟩
  exact heap_alloc_new _ _
theorem conv_u8 {w : World} {A : Nat → Prop} {a : Option Addr} {c k : Nat} (h : U8At w A (.slice a k c) k) (hk : 1 ≤ k) : ∃ s : ByteArray, s.size = k ∧ (convert 131 9 (.slice a k c)).run Tryz.prog w = .ok (.string s) w := by
  obtain ⟨l, h1, h2, h3⟩ := h
  have h4 := h3.1
  obtain ⟨_, ⟨q1, q2⟩ | ⟨g, cap, cur, q, _⟩⟩ := h3.1
  · omega
  · injection q with q
    subst q
    refine ⟨strOfNums l, by rw [← h1]; simp [strOfNums, ByteArray.size], ?_⟩
    have := run_convert_bytes_arg (P := Tryz.prog) w 131 5 Tryz.underlying131 Tryz.underlying5 g 0 k c l h1 (fun i hi => by
      have := h4.cells (g := g) rfl i (.int .u8 (l.getD i 0)) (by have hi2 : i < l.length := (by omega); simp [List.getD, hi2])
      rw [Addr.add_lit, Nat.zero_add] at this
      simpa using this) 9 Tryz.underlying9
    exact this
theorem u8_push {w : World} {A : Nat → Prop} {v : Value} {k : Nat} {l : List Int} {y : Int} (h : OwnA w A 5 1 v (k + 1) (l.map (Value.int .u8) ++ [.int .u8 y])) (hy : 0 ≤ y ∧ y < 256) (h1 : l.length = k) (h2 : ∀ x ∈ l, 0 ≤ x ∧ x < 256) : U8At w A v (k + 1) := by
  refine ⟨l ++ [y], by simp [h1], fun x hx => ?_, by rw [List.map_append]; exact h⟩
  rcases List.mem_append.1 hx with q | q
  · exact h2 x q
  · simp at q
    subst q
    exact hy
def StrIs (k : Nat) (w : World) (e : Ending) (w' : World) : Prop := ∃ s : ByteArray, e = .returned (.string s) ∧ s.size = k ∧ Fresh w w'
set_option maxRecDepth 100000 in
set_option maxHeartbeats 3200000 in
theorem bytesL_any (dir : Int) (name : ByteArray) (isDir : Bool) (short : Int) (hd : 0 ≤ dir ∧ dir ≤ 65535) (hs : 0 ≤ short ∧ short ≤ 1000000) (hn : name.size ≤ 255) (w : World) : Calls Tryz.prog 275 #[linkV dir name isDir short] w (StrIs (name.size + 9) w) := by
  obtain ⟨W5, hW5⟩ : ∃ W5, (w.alloc (.cells #[.int .i64 1, .int .i64 dir, .int .i64 0, .string name, .string ⟨#[]⟩, .bool isDir, .int .i64 short] 142)) = W5 := ⟨_, rfl⟩
  have hs5 : W5.heap.size = w.heap.size + 1 := by rw [← hW5]; simp
  have X5 : Blk W5 w.heap.size 142 #[.int .i64 1, .int .i64 dir, .int .i64 0, .string name, .string ⟨#[]⟩, .bool isDir, .int .i64 short] := by rw [← hW5]; exact Blk.new _ _ _
  have HS5 := Lib.hid hs5
  have hf5 : Fresh w W5 := by rw [← hW5]; exact (Fresh.refl w).alloc _
  have HNU := Lib.hid (fun a0 c0 k0 n hn k hk hk0 W hB h => dnumber_b W5.heap.size a0 c0 k0 n hn k hk hk0 W hB h)
  have HNA := Lib.hid (fun a0 c0 k0 s hs hk0 W hB h => dname_any W5.heap.size a0 c0 k0 s hs hk0 W hB h)
  have HSP : Hid (∀ W, Fresh W5 W → W.cell? ⟨w.heap.size, 0, none⟩ = some (.int .i64 1) ∧ W.cell? ⟨w.heap.size, 1, none⟩ = some (.int .i64 dir) ∧ W.cell? ⟨w.heap.size, 3, none⟩ = some (.string name) ∧ W.cell? ⟨w.heap.size, 5, none⟩ = some (.bool isDir) ∧ W.cell? ⟨w.heap.size, 6, none⟩ = some (.int .i64 short) ∧ Fresh W5 W) := Lib.hid (fun W hW => by
    have b := X5.keep hW
    exact ⟨by rw [b.cell]; rfl, by rw [b.cell]; rfl, by rw [b.cell]; rfl, by rw [b.cell]; rfl, by rw [b.cell]; rfl, hW⟩)
  have h0 := HSP.out W5 (Fresh.refl _)
  have HFR := Lib.hid hf5
  clear hs5 hf5
  go_enter Tryz.func275, Tryz.ntmps275
  go_wp2_with fail
  try rw [hW5]
  clear hW5 X5
  go_region_held3 (fun W => W.cell? ⟨w.heap.size, 0, none⟩ = some (.int .i64 1) ∧ W.cell? ⟨w.heap.size, 1, none⟩ = some (.int .i64 dir) ∧ W.cell? ⟨w.heap.size, 3, none⟩ = some (.string name) ∧ W.cell? ⟨w.heap.size, 5, none⟩ = some (.bool isDir) ∧ W.cell? ⟨w.heap.size, 6, none⟩ = some (.int .i64 short) ∧ Fresh W5 W) (exact HSP.out _ (by repeat (first | assumption | exact Fresh.refl _ | refine Fresh.alloc ?_ _ | refine Fresh.drew ?_))) (first
    | (go_at_call 348; refine (HNU.out _ _ 1 dir (by omega) 2 (by omega) (by omega) _ (by show W5.heap.size ≤ (W5.alloc _).heap.size; simp) (u8_new W5)).mono ?_; rintro e wA ⟨aA, cA, rfl, hoA, hbA⟩; have hfA : Fresh W5 wA := (((Fresh.refl W5).alloc _).drew).trans3 hbA)
    | (go_at_call 347; refine (HNA.out _ _ 3 name (by omega) (by omega) _ hfA.size hoA).mono ?_; rintro e wB ⟨aB, cB, rfl, hoB, hbB⟩; have hfB : Fresh W5 wB := hfA.trans3 hbB))
  all_goals
    obtain ⟨s0, s1, s3, s5, s6, _⟩ := HSP.out wB hfB
    obtain ⟨i0, hi0, hz0, hz1, hz2⟩ := info_partsG infoU8
    obtain ⟨l, hl1, hl2, ho⟩ := hoB
    have HL := Lib.hid (And.intro hl1 hl2)
    clear hoA hbA hfA hbB hl1 hl2 h0
    cases isDir
    all_goals
      go_wp2_with (at_builtin; refine wpList_append_ownA _ rfl _ _ 131 rfl (fun g => W5.heap.size ≤ g) 5 i0 _ 1 1 Tryz.underlying131 hi0 hz0 hz1 hz2 rfl (by decide) _ _ _ rfl (ho.fresh ((Fresh.refl _).alloc _)) ⟨wB.heap.size, 0, none⟩ 1 1 [_] rfl rfl (newCells _ _ _) (by intro u hu; simp at hu; subst hu; rfl) (by omega) (by decide) ?_; intro aC cC wC ownC growC; have hfC : Fresh W5 wC := ((hfB.alloc _).mut2 growC (fun j e => by have := ho.2 j e; omega)); obtain ⟨p0, p1, p3, p5, p6, _⟩ := HSP.out wC hfC)
      have huC : U8At wC (fun g => W5.heap.size ≤ g) (.slice aC (4 + name.size + 1) cC) (4 + name.size + 1) := by
        have hq := HL.out
        exact (u8_push (ownC.mono (A' := fun g => W5.heap.size ≤ g) (fun g _ hg => hg.elim id (fun q => by have q1 := q.1; have z := hfB.size; simp at q1; omega))) (by omega) (by omega) hq.2)
      refine (HNU.out _ _ (4 + name.size + 1) short (by omega) 4 (by omega) (by omega) wC hfC.size huC).mono ?_
      rintro e wD ⟨aD, cD, rfl, huD, hbD⟩
      have hfD : Fresh W5 wD := hfC.trans3 hbD
      obtain ⟨st, hst1, hst2⟩ := conv_u8 huD (by omega)
      have HST := Lib.hid hst1
      have HFD := Lib.hid (HFR.out.trans hfD)
      clear huD huC hbD growC ownC hst1
      go_wp2
      go_ret
      exact ⟨st, rfl, by have := HST.out; omega, HFD.out⟩
open Go.RowKit
def EncD (k : Nat) (w : World) (e : Ending) (w' : World) : Prop := ∃ s : ByteArray, e = .returned (.tuple #[.string s, .int .i64 0]) ∧ s.size = k ∧ Fresh w w'
set_option maxRecDepth 100000 in
set_option maxHeartbeats 1600000 in
theorem dencodeL_any (dir : Int) (name : ByteArray) (isDir : Bool) (short : Int) (hd : 0 ≤ dir ∧ dir ≤ 65535) (hs : 0 ≤ short ∧ short ≤ 1000000) (hn : name.size ≤ 255) (w : World) : Calls Tryz.prog 185 #[linkV dir name isDir short] w (EncD (name.size + 9) w) := by
  have HFO := Lib.hid (fun W => formedL_any dir name isDir short hd hs true (by simp [hn]) W)
  have HBY := Lib.hid (fun W => bytesL_any dir name isDir short hd hs hn W)
  have X := Blk.new w 142 #[.int .i64 1, .int .i64 dir, .int .i64 0, .string name, .string ⟨#[]⟩, .bool isDir, .int .i64 short]
  have HX := Lib.hid X
  clear X hd hs hn
  go_enter Tryz.func185, Tryz.ntmps185
  go_wp2_with fail
  refine (HFO.out _).mono ?_
  rintro e w1 ⟨rfl, hf1⟩
  have b1 := HX.out.keep hf1
  have c0 : w1.cell? ⟨w.heap.size, 0, none⟩ = some (.int .i64 1) := by rw [b1.cell]; rfl
  have c1 : w1.cell? ⟨w.heap.size, 1, none⟩ = some (.int .i64 dir) := by rw [b1.cell]; rfl
  have c2 : w1.cell? ⟨w.heap.size, 2, none⟩ = some (.int .i64 0) := by rw [b1.cell]; rfl
  have c3 : w1.cell? ⟨w.heap.size, 3, none⟩ = some (.string name) := by rw [b1.cell]; rfl
  have c4 : w1.cell? ⟨w.heap.size, 4, none⟩ = some (.string ⟨#[]⟩) := by rw [b1.cell]; rfl
  have c5 : w1.cell? ⟨w.heap.size, 5, none⟩ = some (.bool isDir) := by rw [b1.cell]; rfl
  have c6 : w1.cell? ⟨w.heap.size, 6, none⟩ = some (.int .i64 short) := by rw [b1.cell]; rfl
  have HF1 : Hid (Fresh w w1) := Lib.hid (((Fresh.refl w).alloc _).trans hf1)
  clear b1 hf1
  go_wp2_with fail
  refine (HBY.out _).mono ?_
  rintro e w2 ⟨s, rfl, hs2, hf2⟩
  have HS2 := Lib.hid hs2
  clear hs2
  go_wp2
  go_ret2
  exact ⟨s, rfl, HS2.out, HF1.out.trans hf2⟩
open Go.RowKit
theorem enters272 : ∀ (args : Array Value) (W : World), Sem.run Tryz.prog (callFunc 272 args) W = .ok (.enter 272 args) W := by intro args w; go_simp
theorem TreeAt.gr {A : Nat → Prop} {w w' : World} (h : w.heap.size ≤ w'.heap.size) : True := trivial
theorem LinkPost.ahead {R : Int → Int → List Int → Prop} {A : Nat → Prop} {t : Nat} {T : TreS} {q : Nat} {d : Int} {name : ByteArray} {isDir : Bool} {short : Int} {w w1 : World} {e : Ending} {w' : World} (h : LinkPost R A t T q d name isDir short w1 e w') (hf : Fresh w w1) : LinkPost R A t T q d name isDir short w e w' := by
  rcases h with ⟨r, h1, h2, h3⟩ | ⟨h1, k, fr, bk, A', h2, h3, h4, h5⟩
  · exact .inl ⟨r, h1, h2, hf.trans h3⟩
  · exact .inr ⟨h1, k, fr, bk, A', h2, hf.andMut h3, h4.ahead hf.size, h5⟩
theorem LinkPost.shape {R : Int → Int → List Int → Prop} {A : Nat → Prop} {t : Nat} {T : TreS} {q : Nat} {d : Int} {name : ByteArray} {isDir : Bool} {short : Int} {w : World} {e : Ending} {w' : World} (h : LinkPost R A t T q d name isDir short w e w') : ∃ a b : Int, e = .returned (.tuple #[.int .i64 a, .int .i64 b]) := by
  rcases h with ⟨r, h1, h2, h3⟩ | ⟨h1, k, fr, bk, A', h2, h3, h4, ⟨_, h5, _⟩ | ⟨_, h5, _⟩⟩
  · exact ⟨_, _, h2⟩
  · exact ⟨_, _, h5⟩
  · exact ⟨_, _, h5⟩
set_option maxRecDepth 100000 in
set_option maxHeartbeats 1600000 in
theorem ddoL_any (R : Int → Int → List Int → Prop) (w : World) (A : Nat → Prop) (t : Nat) (T : TreS) (q : Nat) (h : TreeAt w A t T q) (hT : Takes R T q) (dir : Int) (name : ByteArray) (isDir : Bool) (short : Int) (hd : 0 ≤ dir ∧ dir ≤ 65535) (hs : 0 ≤ short ∧ short ≤ 1000000) (hn : name.size ≤ 255) (hq : q ≤ 100000) (hl : ∀ i l, T.dirs i = some l → l.length ≤ 10000) (hnx : 0 ≤ T.next ∧ T.next ≤ 100000) :
    Calls Tryz.prog 184 #[.pointer (some ⟨t, 0, none⟩), linkV dir name isDir short] w (LinkPost R A t T q dir name isDir short w) := by
  have HFO := Lib.hid (fun W => formedL_any dir name isDir short hd hs true (by simp [hn]) W)
  have HLK := Lib.hid (fun W (hW : Fresh w W) => link_any R W A t T q (h.fresh hW) hT dir (by unfold I64; omega) name isDir short hq hl hnx)
  have HX := Lib.hid (Blk.new w 142 #[.int .i64 1, .int .i64 dir, .int .i64 0, .string name, .string ⟨#[]⟩, .bool isDir, .int .i64 short])
  have hen := enters272
  clear h hT hd hs hn hl
  go_enter Tryz.func184, Tryz.ntmps184
  go_wp2_with fail
  refine (HFO.out _).mono ?_
  rintro e w1 ⟨rfl, hf1⟩
  have b1 := HX.out.keep hf1
  have c0 : w1.cell? ⟨w.heap.size, 0, none⟩ = some (.int .i64 1) := by rw [b1.cell]; rfl
  have c1 : w1.cell? ⟨w.heap.size, 1, none⟩ = some (.int .i64 dir) := by rw [b1.cell]; rfl
  have c3 : w1.cell? ⟨w.heap.size, 3, none⟩ = some (.string name) := by rw [b1.cell]; rfl
  have c5 : w1.cell? ⟨w.heap.size, 5, none⟩ = some (.bool isDir) := by rw [b1.cell]; rfl
  have c6 : w1.cell? ⟨w.heap.size, 6, none⟩ = some (.int .i64 short) := by rw [b1.cell]; rfl
  have HF1 : Hid (Fresh w w1) := Lib.hid (((Fresh.refl w).alloc _).trans hf1)
  clear b1 hf1
  go_wp2_with fail
  refine (HLK.out _ HF1.out).mono ?_
  intro e w2 hp
  obtain ⟨a, b, rfl⟩ := hp.shape
  have HP := Lib.hid (hp.ahead HF1.out)
  clear hp
  go_wp2
  go_ret2
  exact HP.out
open Go.RowKit
def rs0 (enc : Int) (s : ByteArray) : ByteArray × Bool := rsS enc s (s.size + 1) 0 [] ByteArray.empty true
def RestIs (enc : Int) (s r : ByteArray) (k : Int) : Prop :=
  ((rs0 enc s).2 = true ∧ GoodN (rs0 enc s).1 ∧ presS enc (rs0 enc s).1 = s ∧ r = (rs0 enc s).1 ∧ k = 0) ∨
  (¬ ((rs0 enc s).2 = true ∧ GoodN (rs0 enc s).1 ∧ presS enc (rs0 enc s).1 = s) ∧ r = ByteArray.empty ∧ k = 3)
theorem joinS_ge : ∀ {l : List Int}, (∀ c ∈ l, isC c = true) → l.length ≤ (joinS l).size
  | [], _ => by simp [joinS]
  | c :: l, h => by
    have ih := joinS_ge (l := l) fun x hx => h x (by simp [hx])
    have := encS_pos (h c (by simp))
    simp only [joinS, ByteArray.size_append, List.length_cons]
    omega
theorem rs0_pres {enc : Int} {raw : ByteArray} (h0 : 0 ≤ enc) (h8 : enc ≤ 8) : rs0 enc (presS enc raw) = (raw, true) := by
  have hc := pcs_chain (s := raw) h0 h8
  have hl := joinS_ge (pres_chars h0 h8 hc)
  unfold rs0
  exact rs_present h0 h8 hc (by show _ ≤ (joinS (presL enc (prt raw 0 (pcsS enc raw)))).size + 1; omega)
theorem bytes_inj {a b : ByteArray} : a.toList = b.toList ↔ a = b := by
  rw [ByteArray.toList_eq, ByteArray.toList_eq]
  exact ⟨fun h => ByteArray.ext (Array.toList_inj.1 h), fun h => by rw [h]⟩
def goodB (s : ByteArray) : Bool := decide (1 ≤ s.size) && decide (s.size ≤ 255) && !(s.data.toList.any fun b => b.toNat == 0 || b.toNat == 47) && !(s.toList == dotS.toList) && !(s.toList == dotsS.toList)
theorem goodB_iff (s : ByteArray) : goodB s = true ↔ GoodN s := by
  unfold goodB GoodN
  rw [← zs_has]
  simp only [Bool.and_eq_true, Bool.not_eq_true', decide_eq_true_eq, beq_eq_false_iff_ne, ne_eq, bytes_inj, List.any_eq_false, Bool.or_eq_true, beq_iff_eq, and_assoc]
  constructor
  · rintro ⟨h1, h2, h3, h4, h5⟩
    exact ⟨h1, h2, fun ⟨b, hb, hz⟩ => h3 b hb hz, h4, h5⟩
  · rintro ⟨h1, h2, h3, h4, h5⟩
    exact ⟨h1, h2, fun b hb hz => h3 ⟨b, hb, hz⟩, h4, h5⟩
def restF (enc : Int) (s : ByteArray) : ByteArray × Int := if (rs0 enc s).2 = true ∧ goodB (rs0 enc s).1 = true ∧ (presS enc (rs0 enc s).1).toList = s.toList then ((rs0 enc s).1, 0) else (ByteArray.empty, 3)
theorem rest_fun {enc : Int} {s r : ByteArray} {k : Int} (h : RestIs enc s r k) : r = (restF enc s).1 ∧ k = (restF enc s).2 := by
  unfold restF
  rcases h with ⟨h1, h2, h3, rfl, rfl⟩ | ⟨h1, rfl, rfl⟩
  · rw [if_pos ⟨h1, (goodB_iff _).2 h2, by rw [h3]⟩]
    exact ⟨rfl, rfl⟩
  · rw [if_neg (fun q => h1 ⟨q.1, (goodB_iff _).1 q.2.1, bytes_inj.1 q.2.2⟩)]
    exact ⟨rfl, rfl⟩
def rawF (enc : Int) (s : ByteArray) : ByteArray × Int := if 255 < s.size then (ByteArray.empty, 4) else restF enc s
structure RsAt (enc : Int) (s : ByteArray) (p : Nat) (o : List Int) (raw : ByteArray) (ok : Bool) : Prop where
  run : ∃ f, rsS enc s f p o raw ok = rs0 enc s ∧ (ok = true → s.size < f + p)
  pos : ok = true → p ≤ s.size
  len : o.length ≤ s.size
  len2 : ok = true → raw.size + 12 * o.length ≤ 12 * p
  in32 : In32 o
  sz : raw.size + 12 * o.length ≤ 12 * s.size
theorem RsAt.start (enc : Int) (s : ByteArray) : RsAt enc s 0 [] ByteArray.empty true :=
  ⟨⟨s.size + 1, rfl, fun _ => by omega⟩, fun _ => by omega, by simp, fun _ => Nat.le_refl _, (fun x hx => nomatch hx), by show 0 + 12 * 0 ≤ _; omega⟩
theorem RsAt.fin {enc : Int} {s : ByteArray} {p : Nat} {o : List Int} {raw : ByteArray} {ok : Bool} (h : RsAt enc s p o raw ok) (hd : ok = false ∨ s.size ≤ p) : rs0 enc s = (raw ++ flB enc o, ok && flK enc o) := by
  obtain ⟨f, h1, h2⟩ := h.run
  rw [← h1]
  cases f with
  | zero => rw [rsS]
  | succ f => rw [rsS, if_neg (by
    rintro ⟨q, q2⟩
    rcases hd with hd | hd
    · rw [hd] at q2; cases q2
    · omega)]
theorem RsAt.none {enc : Int} {s : ByteArray} {p : Nat} {o : List Int} {raw : ByteArray} (h : RsAt enc s p o raw true) (hp : p < s.size) (hn : (nxt s p).2 = 0) : RsAt enc s p o raw false := by
  obtain ⟨f, h1, h2⟩ := h.run
  obtain ⟨f', rfl⟩ : ∃ f', f = f' + 1 := ⟨f - 1, by have := h2 rfl; omega⟩
  rw [rsS, if_pos ⟨hp, rfl⟩, if_pos hn] at h1
  exact ⟨⟨f', h1, (fun h => nomatch h)⟩, (fun h => nomatch h), h.len, (fun h => nomatch h), h.in32, h.sz⟩
theorem RsAt.char {enc : Int} {s : ByteArray} {p : Nat} {o : List Int} {raw : ByteArray} (h : RsAt enc s p o raw true) (hp : p < s.size) (hn : (nxt s p).2 ≠ 0) (h37 : (nxt s p).1 ≠ 37) : RsAt enc s (p + (nxt s p).2.toNat) (o ++ [(nxt s p).1]) raw true := by
  obtain ⟨f, h1, h2⟩ := h.run
  obtain ⟨f', rfl⟩ : ∃ f', f = f' + 1 := ⟨f - 1, by have := h2 rfl; omega⟩
  rw [rsS, if_pos ⟨hp, rfl⟩, if_neg hn, if_neg h37] at h1
  have hq := nxt_pos hp hn
  have hl2 := h.len2 rfl
  have h2 := h2 rfl
  have hlen := h.len
  have hl3 : o.length ≤ p := by omega
  refine ⟨⟨f', h1, fun _ => by omega⟩, fun _ => by omega, by simp; omega, fun _ => by simp; omega, fun x hx => ?_, by simp; omega⟩
  rcases List.mem_append.1 hx with q | q
  · exact h.in32 x q
  · have q2 : x = (nxt s p).1 := List.mem_singleton.1 q
    have hc := isC_true (nxt_sound hp hn).1
    rw [← q2] at hc
    exact ⟨by omega, by omega⟩
theorem RsAt.esc {enc : Int} {s : ByteArray} {p : Nat} {o : List Int} {raw : ByteArray} (h : RsAt enc s p o raw true) (hp : p < s.size) (hn : (nxt s p).2 ≠ 0) (h37 : (nxt s p).1 = 37) (hk : escOK s (p + 1)) :
    RsAt enc s (p + 3) [] (raw ++ flB enc o ++ byteS (digitI (B s (p + 1)) * 16 + digitI (B s (p + 2)))) (flK enc o) := by
  obtain ⟨f, h1, h2⟩ := h.run
  obtain ⟨f', rfl⟩ : ∃ f', f = f' + 1 := ⟨f - 1, by have := h2 rfl; omega⟩
  rw [rsS, if_pos ⟨hp, rfl⟩, if_neg hn, if_pos h37, if_pos hk] at h1
  have hl2 := h.len2 rfl
  have h2 := h2 rfl
  have hk1 := hk.1
  have hfs := encL_size enc (opn enc o)
  have hfo := opn_len enc o
  have hff : (flB enc o).size = (encL enc (opn enc o)).size := rfl
  have hbs : ∀ c, (byteS c).size = 1 := fun c => by unfold byteS; rw [strOfNums_size]; rfl
  refine ⟨⟨f', h1, fun _ => by omega⟩, fun _ => by omega, by simp, fun _ => ?_, (fun x hx => nomatch hx), ?_⟩
  · simp only [ByteArray.size_append, hbs, List.length_nil]; omega
  · simp only [ByteArray.size_append, hbs, List.length_nil]; omega
theorem RsAt.bad {enc : Int} {s : ByteArray} {p : Nat} {o : List Int} {raw : ByteArray} (h : RsAt enc s p o raw true) (hp : p < s.size) (hn : (nxt s p).2 ≠ 0) (h37 : (nxt s p).1 = 37) (hk : ¬ escOK s (p + 1)) : RsAt enc s (p + 3) o raw false := by
  obtain ⟨f, h1, h2⟩ := h.run
  obtain ⟨f', rfl⟩ : ∃ f', f = f' + 1 := ⟨f - 1, by have := h2 rfl; omega⟩
  rw [rsS, if_pos ⟨hp, rfl⟩, if_neg hn, if_pos h37, if_neg hk] at h1
  exact ⟨⟨f', h1, (fun h => nomatch h)⟩, (fun h => nomatch h), h.len, (fun h => nomatch h), h.in32, h.sz⟩
end Go.Proofs.YtpmlggjhfiljmaaGreatDoor
