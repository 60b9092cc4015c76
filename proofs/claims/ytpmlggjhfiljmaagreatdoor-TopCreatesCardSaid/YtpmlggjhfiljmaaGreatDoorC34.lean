/- Contracts that the law rests on, part 34 of 50 (FacP, FacA, ImgF, SecA). Each states its own conditions. -/
import Derived.Test.YtpmlggjhfiljmaaGreatDoorC01
import Derived.Test.YtpmlggjhfiljmaaGreatDoorC25
import Derived.Test.YtpmlggjhfiljmaaGreatDoorC26
import Derived.Test.YtpmlggjhfiljmaaGreatDoorC33
/- Layers 14 and 15, plain words: faces, paths. -/
namespace Go.Proofs.YtpmlggjhfiljmaaGreatDoor
open Go.RowKit
set_option linter.unusedVariables false
set_option linter.unnecessarySimpa false
set_option linter.unusedSimpArgs false
/-! ### faces -/
def hashI (b : ByteArray) : Int := (b.data.toList.foldl (fun h c => bits .xor .u32 h (c.toNat : Int) * 16777619 % 4294967296) 2166136261)
def decL (n : Int) : List Int := if n < 10 then [48 + n] else [48 + n / 10, 48 + n % 10]
def hexL (h : Int) : List Int := [hexI (h / 268435456 % 16), hexI (h / 16777216 % 16), hexI (h / 1048576 % 16), hexI (h / 65536 % 16), hexI (h / 4096 % 16), hexI (h / 256 % 16), hexI (h / 16 % 16), hexI (h % 16)]
/-- short.Name, of a number below 100 -/
def nameS (h n : Int) : ByteArray := if n < 1 ∨ 1000000 < n then ByteArray.empty else strOfNums ([37, 126] ++ hexL h ++ [45] ++ decL n)
def faceS (enc : Int) (e : Ent) : ByteArray := if e.short = 0 then presS enc e.name else nameS (hashI e.name) e.short
def faceB (enc : Int) (name : ByteArray) (e : Ent) : Bool := (faceS enc e).toList == name.toList
theorem faceB_iff {enc : Int} {name : ByteArray} {e : Ent} : faceB enc name e = true ↔ faceS enc e = name := by unfold faceB; rw [beq_iff_eq, toList_inj]
theorem fidx_find {pr : Ent → Bool} : ∀ {l : List Ent}, (fidx pr l < 0 → l.find? pr = none) ∧ ∀ k : Nat, fidx pr l = k → ∃ hk : k < l.length, l.find? pr = some l[k]
  | [] => ⟨fun _ => rfl, fun k h => by simp [fidx] at h⟩
  | x :: l => by
    have ih := fidx_find (pr := pr) (l := l)
    unfold fidx
    cases hx : pr x with
    | true =>
      refine ⟨fun h => by simp at h, fun k h => ?_⟩
      simp only [if_true] at h
      have : k = 0 := by omega
      subst this
      exact ⟨by simp, by rw [List.find?_cons_of_pos hx]; rfl⟩
    | false =>
      have hne : ¬ pr x = true := by rw [hx]; simp
      refine ⟨fun h => ?_, fun k h => ?_⟩
      · rw [List.find?_cons_of_neg hne]
        simp only [Bool.false_eq_true, if_false] at h
        by_cases h2 : fidx pr l < 0
        · exact ih.1 h2
        · rw [if_neg h2] at h; omega
      · simp only [Bool.false_eq_true, if_false] at h
        by_cases h2 : fidx pr l < 0
        · rw [if_pos h2] at h; omega
        · rw [if_neg h2] at h
          cases k with
          | zero => omega
          | succ k =>
            obtain ⟨hk, h3⟩ := ih.2 k (by omega)
            exact ⟨by simpa using hk, by rw [List.find?_cons_of_neg hne, h3]; simp⟩
/-! ### paths -/
/-- the pieces between slashes -/
def splL : List UInt8 → List (List UInt8)
  | [] => [[]]
  | c :: l => if c.toNat = 47 then [] :: splL l else (match splL l with
    | h :: t => (c :: h) :: t
    | [] => [[c]])
def splB (s : ByteArray) : List ByteArray := (splL s.data.toList).map fun l => ⟨l.toArray⟩
def restP (path : ByteArray) : ByteArray := path.extract 1 path.size
def badN (l : List ByteArray) : Bool := l.any fun s => s.toList == ByteArray.empty.toList || s.toList == dotS.toList || s.toList == dotsS.toList
/-- a path's names, or an error -/
def splitP (path : ByteArray) : List ByteArray ⊕ Int :=
  if 1024 < path.size then .inr 4
  else if ¬ (1 ≤ path.size ∧ (path.data.toList.getD 0 0).toNat = 47) then .inr 3
  else if path.size = 1 then .inl []
  else if badN (splB (restP path)) = true then .inr 3
  else if 16 < (splB (restP path)).length then .inr 4
  else .inl (splB (restP path))
def stepT (enc : Int) (T : TreS) (d : Int) (name : ByteArray) : Ent ⊕ Int := match T.dirs d with
  | none => .inr (if T.files d = true then 8 else 5)
  | some l => match l.find? (faceB enc name) with
    | none => .inr 5
    | some e => .inl e
def walkT (enc : Int) (T : TreS) : Int × Bool → List ByteArray → (Int × Bool) ⊕ Int
  | st, [] => .inl st
  | st, n :: ns => match stepT enc T st.1 n with
    | .inl e => walkT enc T (e.node, e.dir) ns
    | .inr k => .inr k
def pathT (enc : Int) (T : TreS) (path : ByteArray) : (Int × Bool) ⊕ Int := match splitP path with
  | .inr k => .inr k
  | .inl l => walkT enc T (0, true) l
/-- the directory of a path's last name, and that name -/
def parT (enc : Int) (T : TreS) (path : ByteArray) : (Int × ByteArray) ⊕ Int := match splitP path with
  | .inr k => .inr k
  | .inl l => if l = [] then .inr 1 else match walkT enc T (0, true) l.dropLast with
    | .inr k => .inr k
    | .inl st => if st.2 = true then .inl (st.1, l.getLastD ByteArray.empty) else .inr 8
end Go.Proofs.YtpmlggjhfiljmaaGreatDoor
/- Layer 14: Raw, Long; of entries whose faces are told: Of, Find, Names. -/
namespace Go.Proofs.YtpmlggjhfiljmaaGreatDoor
open Go.RowKit
set_option linter.unusedVariables false
set_option linter.unnecessarySimpa false
set_option linter.unusedSimpArgs false
def RawPost (enc : Int) (s : ByteArray) (w : World) (e : Ending) (w' : World) : Prop := e = .returned (.tuple #[.string (rawF enc s).1, .int .i64 (rawF enc s).2]) ∧ Fresh w w'
theorem fraw_any (enc : Int) (s : ByteArray) (h0 : 0 ≤ enc) (h8 : enc ≤ 8) (hs : s.size ≤ 1000000) (w : World) : Calls Tryz.prog 18 #[.int .i64 enc, .string s] w (RawPost enc s w) := by
  by_cases hl : 255 < s.size
  · have HZ : Hid (rawF enc s = (ByteArray.empty, 4)) := Lib.hid (by unfold rawF; rw [if_pos hl])
    have i1 : (255 : Int) < (s.size : Int) := by omega
    clear hl
    go_enter Tryz.func18, Tryz.ntmps18
    go_wp2
    go_ret2
    exact ⟨by rw [HZ.out]; rfl, Fresh.refl _⟩
  · have HZ : Hid (rawF enc s = restF enc s) := Lib.hid (by unfold rawF; rw [if_neg hl])
    have i1 : ¬ (255 : Int) < (s.size : Int) := by omega
    have HR := Lib.hid (fun W => restore_any enc s h0 h8 (by omega) W)
    unfold RestPost at HR
    rw [← HZ.out] at HR
    unfold RawPost
    obtain ⟨r, hr⟩ : ∃ r, rawF enc s = r := ⟨_, rfl⟩
    rw [hr] at HR ⊢
    clear hl HZ hr
    obtain ⟨r, k⟩ := r
    go_enter Tryz.func18, Tryz.ntmps18
    go_wp2_with fail
    refine (HR.out _).mono ?_
    rintro e w1 ⟨rfl, hf1⟩
    go_wp2
    go_ret2
    exact ⟨rfl, hf1⟩
/-- faces.Of answers the face -/
def OfOK (enc : Int) (e : Ent) : Prop := ∀ W, Calls Tryz.prog 39 #[.int .i64 enc, entV e] W fun en W' => en = .returned (.string (faceS enc e)) ∧ Fresh W W'
theorem of_short (enc : Int) (e : Ent) (h0 : 0 ≤ enc) (h8 : enc ≤ 8) (hs : e.name.size ≤ 10000) (he : e.short = 0) : OfOK enc e := fun w => by
  obtain ⟨name, node, dir, cookie, short⟩ := e
  simp only at he hs
  subst he
  have HP := Lib.hid (fun W => present_any enc name h0 h8 hs W)
  unfold faceS
  rw [if_pos rfl]
  simp only
  obtain ⟨r, hr⟩ : ∃ r, presS enc name = r := ⟨_, rfl⟩
  rw [hr] at HP ⊢
  clear hr
  unfold entV
  simp only
  go_enter Tryz.func39, Tryz.ntmps39
  go_wp2_with fail
  refine (HP.out _).mono ?_
  rintro e w1 ⟨rfl, hf1⟩
  have HF := Lib.hid (((Fresh.refl w).alloc _).trans hf1)
  clear hf1
  go_wp2
  go_ret
  exact ⟨rfl, HF.out⟩
theorem enters_find1 : ∀ (args : Array Value) (W : World), Sem.run Tryz.prog (callFunc 270 args) W = .ok (.enter 270 args) W := by intro args w; go_simp
set_option maxHeartbeats 800000 in
theorem find1_any (enc : Int) (name : ByteArray) (e : Ent) (h : OfOK enc e) (b0 b1 : Nat) (w : World) (h0 : w.cell? ⟨b0, 0, none⟩ = some (.int .i64 enc)) (h1 : w.cell? ⟨b1, 0, none⟩ = some (.string name)) (l0 : b0 < w.heap.size) (l1 : b1 < w.heap.size) :
    Calls Tryz.prog 270 #[entV e, .pointer (some ⟨b0, 0, none⟩), .pointer (some ⟨b1, 0, none⟩)] w fun en w' => en = .returned (.bool (faceB enc name e)) ∧ Fresh w w' := by
  have HO := Lib.hid h
  unfold faceB
  unfold OfOK at HO
  obtain ⟨r, hr⟩ : ∃ r, faceS enc e = r := ⟨_, rfl⟩
  rw [hr] at HO ⊢
  clear hr h
  obtain ⟨nm, node, dir, cookie, short⟩ := e
  unfold entV at HO ⊢
  simp only at HO ⊢
  go_enter Tryz.func270, Tryz.ntmps270
  go_wp2_with fail
  go_region_law (first
    | (go_simp; go_at_call 39; refine (HO.out _).mono ?_; rintro e w2 ⟨rfl, hf2⟩; have HF : Hid (Fresh w w2) := Lib.hid (Fresh.trans (by repeat (first | exact Fresh.refl _ | refine Fresh.drew ?_ | refine Fresh.alloc ?_ _)) hf2); have q1 : w2.cell? ⟨b1, 0, none⟩ = some (.string name) := (Below.cell HF.out (p := ⟨b1, 0, none⟩) l1).trans h1; clear hf2))
  all_goals
    go_wp2
    go_ret
    exact ⟨rfl, HF.out⟩
end Go.Proofs.YtpmlggjhfiljmaaGreatDoor
/- Layer 12: Decode of the image of a root alone. -/
namespace Go.Proofs.YtpmlggjhfiljmaaGreatDoor
open Go.RowKit
set_option linter.unusedVariables false
set_option linter.unnecessarySimpa false
set_option linter.unusedSimpArgs false
set_option maxRecDepth 100000 in
set_option maxHeartbeats 3200000 in
theorem decode0_any (w : World) : Calls Tryz.prog 175 #[.string img0] w (MakePost w) := by
  have hmm := @run_makeMap Tryz.prog
  obtain ⟨S, hS⟩ : ∃ S, img0 = S := ⟨_, rfl⟩
  have HSS := Lib.hid hS
  rw [hS]
  have HR : Hid (ImRd (w.alloc (.cells #[.string S, .bool false] 338)) w.heap.size img0) := Lib.hid (by rw [hS]; exact Blk.new _ _ _)
  have HN0 := Lib.hid (num0 _ _ HR.out)
  have HSD := Lib.hid (fun W hW => sevD_any w.heap.size W hW)
  have HMK := Lib.hid (fun W gd q Md h1 h2 h3 => make0_any W gd q Md h1 h2 h3)
  have HEN := Lib.hid (fun W A t T q h1 h2 h3 => encode0_any W A t T q h1 h2 h3)
  rw [hS] at HEN
  clear hS
  go_enter Tryz.func175, Tryz.ntmps175
  go_wp2_with fail
  refine HN0.out.mono ?_
  rintro e w1 ⟨rfl, r1, u1⟩
  have HR1 := Lib.hid r1
  have HF1 : Hid (Fresh w w1) := Lib.hid (((Fresh.refl w).alloc _).mut2 u1 (fun j e => by omega))
  clear r1 u1
  go_wp2_with fail
  refine (HSD.out _ ((show Blk w1 _ _ _ from HR1.out).keep ((Fresh.refl w1).alloc (.map #[] 0)))).mono ?_
  rintro e w2 ⟨⟨g, c, rfl, c0, c1, hg⟩, r2, u2⟩
  have z1 := HF1.out.size
  have hrl : w.heap.size < w1.heap.size := (show Blk w1 _ _ _ from HR1.out).lt
  have m2 : MapAt w2 w1.heap.size 0 (fun _ => none) := (MapAt.made w1).mut u2 (by omega)
  have HF2 : Hid (Fresh w w2) := Lib.hid ((HF1.out.alloc _).mut2 u2 (fun j e => by omega))
  have HR2 := Lib.hid r2
  have HM2 := Lib.hid m2
  clear r2 u2 m2
  go_wp2_with fail
  refine wp_loop_rounds 2 ?_
  rw [rounds_succ]
  have HM3 : Hid (MapAt (w2.alloc (.cells #[.int .i64 0, .slice none 0 0] 343)) w1.heap.size 0 (fun _ => none)) := Lib.hid (HM2.out.alloc _)
  have m3 := HM3.out
  go_wp2_with (first
    | (at_mapUpdate; refine wpList_storeI _ rfl _ _ _ 155 rfl 83 Tryz.underlying155 w1.heap.size 0 _ rfl m3 (by omega) 0 rfl (by unfold I64; omega) (.slice none 0 0) rfl ?_; intro w4 m4 u4 z4)
    | fail)
  have z2 := HF2.out.size
  have HF4 : Hid (Fresh w w4) := Lib.hid ((HF2.out.alloc _).mut2 u4 (fun j e => by omega))
  have HR4 : Hid (ImRd w4 w.heap.size (im 14)) := Lib.hid (((show Blk w2 _ _ _ from HR2.out).keep ((Fresh.refl w2).alloc _)).mut u4 (by omega))
  have HMK4 := Lib.hid (HMK.out w4 _ _ _ m4 (by omega) (fun i => rfl))
  clear m3 m4 u4 c0 c1
  rw [rounds_succ]
  go_wp2_with fail
  refine HMK4.out.mono ?_
  rintro e w5 ⟨t, T, q, rfl, ht5, hq5, hT5, hf5⟩
  have b5 : w5.cell? ⟨w.heap.size, 1, none⟩ = some (.bool false) := by rw [((show Blk w4 _ _ _ from HR4.out).keep hf5).cell]; rfl
  have HEN5 := Lib.hid (HEN.out w5 _ t T q ht5 hT5 (by omega))
  have HX := Lib.hid (And.intro ht5 (And.intro hT5 hf5))
  clear ht5 hT5 hf5
  go_wp2_with fail
  refine HEN5.out.mono ?_
  rintro e w6 ⟨rfl, hf6⟩
  go_wp2
  go_ret2
  have z4 := HF4.out.size
  exact ⟨t, T, q, rfl, (HX.out.1.fresh hf6).mono (fun k _ hk => by omega), hq5, HX.out.2.1, (HF4.out.trans HX.out.2.2).trans hf6⟩
end Go.Proofs.YtpmlggjhfiljmaaGreatDoor
/- Layer 6: the device, whose power never goes. -/
namespace Go.Proofs.YtpmlggjhfiljmaaGreatDoor
open Go.RowKit
set_option linter.unusedVariables false
set_option linter.unnecessarySimpa false
set_option linter.unusedSimpArgs false
/-- noughts -/
def zer (n : Nat) : ByteArray := ⟨(List.replicate n 0).toArray⟩
theorem zer_size (n : Nat) : (zer n).size = n := by simp [zer, ByteArray.size]
theorem repeatL_zero : ∀ n : Nat, Lib.repeatL [0] n = List.replicate n 0
  | 0 => rfl
  | n + 1 => by
    have := repeatL_zero n
    simp [Lib.repeatL] at *
    simp [List.replicate_succ, this]
theorem repeat_any (c : Nat) (w : World) (hc : c ≤ 1000000) : Calls Tryz.prog 138 #[.string ⟨#[0]⟩, .int .i64 c] w fun e w' => e = .returned (.string (zer c)) ∧ Fresh w w' := by
  refine (Tryz.strings_Repeat ⟨#[0]⟩ c w (by omega) (by show 1 * c ≤ _; omega)).mono fun e w' ⟨he, hw⟩ => ⟨?_, hw⟩
  rw [he]
  have : (⟨#[0]⟩ : ByteArray).data.toList = [0] := rfl
  rw [this, repeatL_zero]
  rfl
theorem zeroS (w : World) : (zeroValue 9).run Tryz.prog w = .ok (.string ByteArray.empty) w := by kernel_rfl
/-- a device of n sectors, that hold D; at most q writes since -/
def DevAt (w : World) (F : Nat → Prop) (p : Nat) (n : Int) (D : Int → ByteArray) (q : Nat) : Prop :=
  ∃ sf gs qv m qs M, Blk w p 137 #[.int .i64 n, sf, .map (some gs), qv, .int .i64 (-1)] ∧ F p ∧ F gs ∧ MapAt w gs q M ∧ (∀ i, (M i).getD (.string (zer 64)) = .string (D i)) ∧ (∀ i, (D i).size = 64) ∧ OwnA w F 452 2 qv m qs ∧ m ≤ q
theorem DevAt.mut {S F : Nat → Prop} {w w' : World} {p : Nat} {n : Int} {D : Int → ByteArray} {q : Nat} (h : DevAt w F p n D q) (hf : Mut S w w') (hn : ∀ k, F k → ¬ S k) : DevAt w' F p n D q := by
  obtain ⟨sf, gs, qv, m, qs, M, h1, h2, h3, h4, h5, h6, h7, h8⟩ := h
  exact ⟨sf, gs, qv, m, qs, M, h1.mut hf (hn p h2), h2, h3, h4.mut hf (hn gs h3), h5, h6, h7.mut hf hn, h8⟩
theorem DevAt.fresh {F : Nat → Prop} {w w' : World} {p : Nat} {n : Int} {D : Int → ByteArray} {q : Nat} (h : DevAt w F p n D q) (hf : Fresh w w') : DevAt w' F p n D q := h.mut (hf.mut fun _ => False) (fun _ _ q => q)
theorem DevAt.lt {F : Nat → Prop} {w : World} {p : Nat} {n : Int} {D : Int → ByteArray} {q : Nat} (h : DevAt w F p n D q) : p < w.heap.size := by obtain ⟨sf, gs, qv, m, qs, M, h1, _⟩ := h; exact h1.lt
theorem DevAt.mono {F F' : Nat → Prop} {w : World} {p : Nat} {n : Int} {D : Int → ByteArray} {q : Nat} (h : DevAt w F p n D q) (hF : ∀ k, k < w.heap.size → F k → F' k) : DevAt w F' p n D q := by
  obtain ⟨sf, gs, qv, m, qs, M, h1, h2, h3, h4, h5, h6, h7, h8⟩ := h
  exact ⟨sf, gs, qv, m, qs, M, h1, hF p h1.lt h2, hF gs h4.lt h3, h4, h5, h6, h7.mono hF, h8⟩
def DevPost (F : Nat → Prop) (p : Nat) (n : Int) (D : Int → ByteArray) (q : Nat) (w : World) (r : Value) (e : Ending) (w' : World) : Prop := e = .returned r ∧ ∃ F', DevAt w' F' p n D q ∧ Mut F w w' ∧ Gr F w w' F'
def StrE (s : ByteArray) (c : Int) (w : World) (e : Ending) (w' : World) : Prop := e = .returned (.tuple #[.string s, .int .i64 c]) ∧ Fresh w w'
theorem devSize_any (F : Nat → Prop) (p : Nat) (n : Int) (D : Int → ByteArray) (q : Nat) (w : World) (h : DevAt w F p n D q) : Calls Tryz.prog 302 #[.pointer (some ⟨p, 0, none⟩)] w fun e w' => e = .returned (.int .i64 n) ∧ w = w' := by
  obtain ⟨sf, gs, qv, m, qs, M, h1, h2, h3, h4, h5, h6, h7, h8⟩ := h
  have c0 : w.cell? ⟨p, 0, none⟩ = some (.int .i64 n) := by rw [h1.cell]; rfl
  clear h1 h4 h5 h6 h7
  go_enter Tryz.func302, Tryz.ntmps302
  go_wp2
  go_ret
  exact ⟨rfl, rfl⟩
theorem ask_any (F : Nat → Prop) (p : Nat) (n : Int) (D : Int → ByteArray) (q : Nat) (w : World) (h : DevAt w F p n D q) (i : Int) (hi : -1000000 ≤ i ∧ i ≤ 1000000) (r : Int) (hr : r = if 0 ≤ i ∧ i < n then 0 else 1) :
    Calls Tryz.prog 360 #[.pointer (some ⟨p, 0, none⟩), .int .i64 i] w fun e w' => e = .returned (.int .i64 r) ∧ w = w' := by
  obtain ⟨sf, gs, qv, m, qs, M, h1, h2, h3, h4, h5, h6, h7, h8⟩ := h
  have c0 : w.cell? ⟨p, 0, none⟩ = some (.int .i64 n) := by rw [h1.cell]; rfl
  have c4 : w.cell? ⟨p, 4, none⟩ = some (.int .i64 (-1)) := by rw [h1.cell]; rfl
  clear h1 h4 h5 h6 h7
  by_cases a0 : i < 0
  · rw [if_neg (by omega)] at hr
    subst hr
    go_enter Tryz.func360, Tryz.ntmps360
    go_wp2
    go_ret
    exact ⟨rfl, rfl⟩
  by_cases a1 : n ≤ i
  · rw [if_neg (by omega)] at hr
    subst hr
    go_enter Tryz.func360, Tryz.ntmps360
    go_wp2
    go_ret
    exact ⟨rfl, rfl⟩
  · rw [if_pos (by omega)] at hr
    subst hr
    go_enter Tryz.func360, Tryz.ntmps360
    go_wp2
    go_ret
    exact ⟨rfl, rfl⟩
set_option maxHeartbeats 800000 in
theorem get_out (F : Nat → Prop) (p : Nat) (n : Int) (D : Int → ByteArray) (q : Nat) (w : World) (h : DevAt w F p n D q) (i : Int) (hi : -1000000 ≤ i ∧ i ≤ 1000000) (ho : ¬ (0 ≤ i ∧ i < n)) :
    Calls Tryz.prog 301 #[.pointer (some ⟨p, 0, none⟩), .int .i64 i] w (StrE ByteArray.empty 1 w) := by
  have HA := Lib.hid (ask_any F p n D q w h i hi 1 (by rw [if_neg ho]))
  clear h ho
  go_enter Tryz.func301, Tryz.ntmps301
  go_wp2_with fail
  refine HA.out.mono ?_
  rintro e w1 ⟨rfl, rfl⟩
  go_wp2
  go_ret2
  exact ⟨rfl, Fresh.refl _⟩
set_option maxHeartbeats 800000 in
theorem get_any (F : Nat → Prop) (p : Nat) (n : Int) (D : Int → ByteArray) (q : Nat) (w : World) (h : DevAt w F p n D q) (i : Int) (hi : 0 ≤ i ∧ i < n) (hn : n ≤ 1000000) :
    Calls Tryz.prog 301 #[.pointer (some ⟨p, 0, none⟩), .int .i64 i] w (StrE (D i) 0 w) := by
  have HA := Lib.hid (ask_any F p n D q w h i (by omega) 0 (by rw [if_pos hi]))
  obtain ⟨sf, gs, qv, m, qs, M, h1, h2, h3, h4, h5, h6, h7, h8⟩ := h
  have c2 : w.cell? ⟨p, 2, none⟩ = some (.map (some gs)) := by rw [h1.cell]; rfl
  have H5 := Lib.hid (h5 i)
  clear h1 h5 h6 h7
  go_enter Tryz.func301, Tryz.ntmps301
  go_wp2_with fail
  refine HA.out.mono ?_
  rintro e w1 ⟨rfl, rfl⟩
  cases hM : M i with
  | some v =>
    have hv : v = .string (D i) := by have := H5.out; rw [hM] at this; exact this
    subst hv
    have HM := Lib.hid hM
    clear hM
    go_wp2_with (at_lookup; refine wpList_lookOkI _ rfl _ _ 134 rfl 9 Tryz.underlying134 _ (zeroS _) gs q M rfl h4 i rfl (by unfold I64; omega) (.string (D i)) (by rw [HM.out]; rfl) true (by rw [HM.out]; rfl) ?_)
    go_ret2
    exact ⟨rfl, Fresh.refl _⟩
  | none =>
    have hv : zer 64 = D i := by have := H5.out; rw [hM] at this; injection this
    have HV := Lib.hid hv
    have HM := Lib.hid hM
    clear hM hv
    go_wp2_with (first
      | (at_lookup; refine wpList_lookOkI _ rfl _ _ 134 rfl 9 Tryz.underlying134 _ (zeroS _) gs q M rfl h4 i rfl (by unfold I64; omega) (.string ByteArray.empty) (by rw [HM.out]; rfl) false (by rw [HM.out]; rfl) ?_)
      | (go_at_call 138; refine (repeat_any 64 _ (by omega)).mono ?_; rintro e w1 ⟨rfl, hf1⟩))
    go_ret2
    exact ⟨by rw [HV.out]; rfl, hf1⟩
def upd (D : Int → ByteArray) (i : Int) (b : ByteArray) : Int → ByteArray := fun k => if k = i then b else D k
theorem infoPend : (Tryz.prog.info? 452).map (fun i => (i.zero, i.size, i.bytes)) = some (some (.agg #[.int .i64 0, .string ByteArray.empty]), 2, 24) := by kernel_rfl
theorem DevAt.put {F : Nat → Prop} {w w1 w2 : World} {p : Nat} {n : Int} {D : Int → ByteArray} {q : Nat} {i : Int} {b : ByteArray} {sf : Value} {gs : Nat} {qv v' : Value} {m : Nat} {qs qs' : List Value} {M : Int → Option Value}
    (h1 : Blk w p 137 #[.int .i64 n, sf, .map (some gs), qv, .int .i64 (-1)]) (h2 : F p) (h3 : F gs) (h4 : MapAt w gs q M) (h5 : ∀ i, (M i).getD (.string (zer 64)) = .string (D i)) (h6 : ∀ i, (D i).size = 64) (h7 : OwnA w F 452 2 qv m qs) (h8 : m ≤ q)
    (hb : b.size = 64) (m1 : MapAt w1 gs (q + 1) (fun k => if k = i then some (.string b) else M k)) (u1 : Mut (fun j => j = gs) w w1) (z1 : w1.heap.size = w.heap.size) (o2 : OwnA w2 (ext F (w1.alloc (.cells #[.int .i64 i, .string b] 452)) w2) 452 2 v' (m + 1) qs') (u2 : Mut (fun k => qv.ownBlock = some k) (w1.alloc (.cells #[.int .i64 i, .string b] 452)) w2) :
    DevPost F p n (upd D i b) (q + 1) w (.int .i64 0) (.returned (.int .i64 0)) (w2.setCell ⟨p, 3, none⟩ v') := by
  have hpg := h1.neMap h4
  have hqp := h7.ne h1 (by decide)
  have hqg := h7.neMap h4
  have hql := fun g hg => (h7.1.lt g hg).2
  have b1 : Blk w1 p _ _ := h1.mut u1 hpg
  have b2 : Blk w2 p _ _ := (b1.keep ((Fresh.refl _).alloc _)).mut u2 hqp
  have b3 := b2.set (i := 3) (u := v')
  have m2 : MapAt w2 gs (q + 1) _ := (m1.alloc _).mut u2 hqg
  have hsz : (w1.alloc (.cells #[.int .i64 i, .string b] 452)).heap.size = w.heap.size + 1 := by simp [z1]
  have us : Mut (fun j => j = p) w2 (w2.setCell ⟨p, 3, none⟩ v') := (Mut.refl (fun j => j = p) w2).setCell (p := ⟨p, 3, none⟩) (.inl rfl) v'
  have uall : Mut F w (w2.setCell ⟨p, 3, none⟩ v') := by
    refine Mut.setCell ?_ (p := ⟨p, 3, none⟩) (.inl h2) v'
    refine Mut.trans2 (S := F) (T := fun k => qv.ownBlock = some k) ((u1.mono fun j _ e => by rw [e]; exact h3).alloc _) u2 (fun _ h => h) fun j _ hj => h7.2 j hj
  refine ⟨rfl, ext F w (w2.setCell ⟨p, 3, none⟩ v'), ⟨sf, gs, v', m + 1, qs', _, b3, .inl h2, .inl h3, m2.mut us (fun e => hpg e.symm), fun k => ?_, fun k => ?_, ?_, by omega⟩, uall, Gr.ext _ _ _⟩
  · unfold upd
    by_cases e : k = i
    · rw [if_pos e, if_pos e]; rfl
    · rw [if_neg e, if_neg e]; exact h5 k
  · unfold upd
    split
    · exact hb
    · exact h6 k
  · have o3 : OwnA w2 (fun k => ext F w (w2.setCell ⟨p, 3, none⟩ v') k ∧ k ≠ p) 452 2 v' (m + 1) qs' := by
      refine ⟨o2.1, fun g hg => ⟨?_, fun e => o2.ne b2 (by decide) (by rw [hg, e])⟩⟩
      have hl := (o2.1.lt g hg).2
      rcases o2.2 g hg with r | r
      · exact .inl r
      · exact .inr ⟨by omega, by simpa [World.setCell] using hl⟩
    exact (o3.mut us fun g hg => hg.2).mono fun g _ hg => hg.1
set_option maxRecDepth 100000 in
set_option maxHeartbeats 1600000 in
theorem put_any (F : Nat → Prop) (p : Nat) (n : Int) (D : Int → ByteArray) (q : Nat) (w : World) (h : DevAt w F p n D q) (i : Int) (hi : 0 ≤ i ∧ i < n) (hn : n ≤ 1000000) (b : ByteArray) (hb : b.size = 64) (hq : q ≤ 100000) :
    Calls Tryz.prog 329 #[.pointer (some ⟨p, 0, none⟩), .int .i64 i, .string b] w (DevPost F p n (upd D i b) (q + 1) w (.int .i64 0)) := by
  have HA := Lib.hid (ask_any F p n D q w h i (by omega) 0 (by rw [if_pos hi]))
  obtain ⟨sf, gs, qv, m, qs, M, h1, h2, h3, h4, h5, h6, h7, h8⟩ := h
  have c2 : w.cell? ⟨p, 2, none⟩ = some (.map (some gs)) := by rw [h1.cell]; rfl
  have c4 : w.cell? ⟨p, 4, none⟩ = some (.int .i64 (-1)) := by rw [h1.cell]; rfl
  have c3 : w.cell? ⟨p, 3, none⟩ = some qv := by rw [h1.cell]; rfl
  have f3 : w.frozen? ⟨p, 3, none⟩ = false := h1.frozen 3
  have hpg := h1.neMap h4
  have hqp := h7.ne h1 (by decide)
  have hqg := h7.neMap h4
  have hpl := h1.lt
  have HB := Lib.hid hb
  have hbt : ((b.size : Int) != 64) = false := by simp [hb]
  have HP := Lib.hid (fun (w1 w2 : World) (v' : Value) (qs' : List Value) => DevAt.put (w1 := w1) (w2 := w2) (v' := v') (qs' := qs') (i := i) (b := b) h1 h2 h3 h4 h5 h6 h7 h8 hb)
  obtain ⟨i0, hi0, hz0, hz1, hz2⟩ := info_partsG infoPend
  clear h1 h5 h6 hb
  go_enter Tryz.func329, Tryz.ntmps329
  go_wp2_with fail
  refine HA.out.mono ?_
  rintro e w1 ⟨rfl, rfl⟩
  go_wp2_with (first
    | (at_mapUpdate; refine wpList_storeI _ rfl _ _ _ 134 rfl 9 Tryz.underlying134 gs q M rfl h4 (by omega) i rfl (by unfold I64; omega) (.string b) rfl ?_; intro w1 m1 u1 z1; have d3 := (u1.cell (p := ⟨p, 3, none⟩) hpl hpg).trans c3; have e3 := (u1.frozen (p := ⟨p, 3, none⟩) hpl hpg).trans f3; have o1 := h7.mutB u1 (fun g hg e => hqg (by rw [hg, e])))
    | (at_builtin; go_loud (refine wpList_append_ownA _ rfl _ _ 135 rfl F 452 i0 _ 2 24 Tryz.underlying135 hi0 hz0 hz1 hz2 rfl (by decide) qv m qs rfl (o1.fresh ((Fresh.refl _).alloc _)) ⟨w1.heap.size, 0, none⟩ 1 1 [.int .i64 i, .string b] rfl rfl (newCells _ _ _) (by intro u hu; simp at hu; rcases hu with rfl | rfl <;> rfl) (by omega) (by decide) ?_; intro a' c' w2 o2 u2; have g3 : w2.frozen? ⟨p, 3, none⟩ = false := (u2.frozen (p := ⟨p, 3, none⟩) (by have := u1.size; simp; omega) hqp).trans ((World.frozen?_alloc_past _ _ _ (Nat.lt_of_lt_of_le hpl u1.size)).trans e3); have d4 : w2.cell? ⟨p, 3, none⟩ = some qv := (u2.cell (p := ⟨p, 3, none⟩) (by have := u1.size; simp; omega) hqp).trans ((World.cell?_alloc_past _ _ _ (Nat.lt_of_lt_of_le hpl u1.size)).trans d3); have HZ := Lib.hid (HP.out _ _ _ _ m1 u1 z1.out o2 u2))))
  go_ret
  exact HZ.out
set_option maxRecDepth 100000 in
set_option maxHeartbeats 1600000 in
theorem flush_any (F : Nat → Prop) (p : Nat) (n : Int) (D : Int → ByteArray) (q : Nat) (w : World) (h : DevAt w F p n D q) :
    Calls Tryz.prog 225 #[.pointer (some ⟨p, 0, none⟩)] w (DevPost F p n D q w (.int .i64 0)) := by
  obtain ⟨sf, gs, qv, m, qs, M, h1, h2, h3, h4, h5, h6, h7, h8⟩ := h
  have c2 : w.cell? ⟨p, 2, none⟩ = some (.map (some gs)) := by rw [h1.cell]; rfl
  have c4 : w.cell? ⟨p, 4, none⟩ = some (.int .i64 (-1)) := by rw [h1.cell]; rfl
  have c1 : w.cell? ⟨p, 1, none⟩ = some sf := by rw [h1.cell]; rfl
  have c3 : w.cell? ⟨p, 3, none⟩ = some qv := by rw [h1.cell]; rfl
  have hpl := h1.lt
  have f1 : w.frozen? ⟨p, 1, none⟩ = false := h1.frozen 1
  have f3 : w.frozen? ⟨p, 3, none⟩ = false := h1.frozen 3
  have hpg := h1.neMap h4
  have HP : Hid (∀ w1 : World, Fresh w w1 → DevPost F p n D q w (.int .i64 0) (.returned (.int .i64 0)) ((w1.setCell ⟨p, 1, none⟩ (.map (some w.heap.size))).setCell ⟨p, 3, none⟩ (.slice none 0 0))) := Lib.hid (fun w1 hf => by
    have b1 := ((h1.keep hf).set (i := 1) (u := .map (some w.heap.size))).set (i := 3) (u := .slice none 0 0)
    have us : Mut (fun j => j = p) w1 ((w1.setCell ⟨p, 1, none⟩ (.map (some w.heap.size))).setCell ⟨p, 3, none⟩ (.slice none 0 0)) := ((Mut.refl (fun j => j = p) w1).setCell (p := ⟨p, 1, none⟩) (.inl rfl) _).setCell (p := ⟨p, 3, none⟩) (.inl rfl) _
    exact ⟨rfl, F, ⟨_, gs, .slice none 0 0, 0, [], M, b1, h2, h3, (h4.fresh hf).mut us (fun e => hpg e.symm), h5, h6, OwnA.nil _ _ _ _, Nat.zero_le _⟩, hf.andMut (us.mono fun j _ e => by rw [e]; exact h2), fun k h => .inl h⟩)
  clear h1 h5 h6 h7
  go_enter Tryz.func225, Tryz.ntmps225
  go_wp2_with fail
  refine (mapsClone_string gs q M w h4).mono ?_
  rintro e w1 ⟨rfl, _, hf, hsz⟩
  have d1 := (Below.cell hf (p := ⟨p, 1, none⟩) hpl).trans c1
  have d3 := (Below.cell hf (p := ⟨p, 3, none⟩) hpl).trans c3
  have g1 := (Below.frozen hf (p := ⟨p, 1, none⟩) hpl).trans f1
  have g3 := (Below.frozen hf (p := ⟨p, 3, none⟩) hpl).trans f3
  have HZ := Lib.hid (HP.out w1 hf)
  clear hsz
  go_wp2
  go_ret
  exact HZ.out
end Go.Proofs.YtpmlggjhfiljmaaGreatDoor
