/- Part 36 of what the law rests on. -/
import Derived.Test.YtpmlggjhfiljmaaGreatDoorL25
import Derived.Test.YtpmlggjhfiljmaaGreatDoorL29
import Derived.Test.YtpmlggjhfiljmaaGreatDoorL35
set_option linter.all false
namespace Go.Proofs.YtpmlggjhfiljmaaGreatDoor
def outOf (L : List Item) (n : Int) : List Item := L.filter fun x => decide (x.e.node ≠ n)
theorem mem_outOf {L : List Item} {n : Int} {x : Item} : x ∈ outOf L n ↔ x ∈ L ∧ x.e.node ≠ n := by unfold outOf; simp [List.mem_filter]
theorem inL_outOf (L : List Item) (n d : Int) : inL (outOf L n) d = (inL L d).filter fun e => decide (e.node ≠ n) := by
  unfold inL outOf
  rw [List.filter_map, List.filter_filter, List.filter_filter]
  congr 1
  exact List.filter_congr fun x _ => Bool.and_comm _ _
theorem filter_at {l : List Ent} (hu : l.Pairwise fun x y => x.node ≠ y.node) : ∀ {k : Nat} (hk : k < l.length), l.filter (fun e => decide (e.node ≠ l[k].node)) = l.take k ++ l.drop (k + 1) := by
  induction hu with
  | nil => intro k hk; simp at hk
  | @cons x l h1 h2 ih =>
    intro k hk
    cases k with
    | zero =>
      rw [List.filter_cons]
      simp only [List.getElem_cons_zero, ne_eq, not_true_eq_false, decide_false, Bool.false_eq_true, if_false, List.take_zero, List.nil_append]
      show _ = l.drop 0
      rw [List.drop_zero, List.filter_eq_self]
      intro y hy
      simpa using fun e => h1 y hy e.symm
    | succ k =>
      have hk2 : k < l.length := by simpa using hk
      have := ih hk2
      rw [List.filter_cons]
      have e1 : (x :: l)[k + 1] = l[k] := rfl
      rw [if_pos (by rw [e1]; simpa using h1 _ (List.getElem_mem hk2))]
      rw [e1, this]
      rfl
theorem inL_uniq {L : List Item} (h : L.Pairwise fun x y => x.e.node ≠ y.e.node) (d : Int) : (inL L d).Pairwise fun x y => x.node ≠ y.node := by
  unfold inL
  rw [List.pairwise_map]
  exact h.sublist List.filter_sublist
theorem fileL_outOf (L : List Item) (n i : Int) : fileL (outOf L n) i = (fileL L i && !decide (i = n)) := by
  rw [Bool.eq_iff_iff, Bool.and_eq_true, fileL_iff, fileL_iff]
  simp only [Bool.not_eq_true', decide_eq_false_iff_not]
  constructor
  · rintro ⟨x, hx, e1, e2⟩
    have := mem_outOf.1 hx
    exact ⟨⟨x, this.1, e1, e2⟩, fun e => this.2 (e1.trans e)⟩
  · rintro ⟨⟨x, hx, e1, e2⟩, hn⟩
    exact ⟨x, mem_outOf.2 ⟨hx, fun e => hn (e1.symm.trans e)⟩, e1, e2⟩
theorem outL_outOf (L : List Item) (n i : Int) : outL (outOf L n) i = (outL L i && !decide (i = n)) := by
  rw [Bool.eq_iff_iff, Bool.and_eq_true, outL_iff, outL_iff]
  simp only [Bool.not_eq_true', decide_eq_false_iff_not]
  constructor
  · rintro ⟨x, hx, e1⟩
    have := mem_outOf.1 hx
    exact ⟨⟨x, this.1, e1⟩, fun e => this.2 (e1.trans e)⟩
  · rintro ⟨⟨x, hx, e1⟩, hn⟩
    exact ⟨x, mem_outOf.2 ⟨hx, fun e => hn (e1.symm.trans e)⟩, e1⟩
theorem dirL_outOf {L : List Item} {n : Int} (hn : 1 ≤ n) (i : Int) : dirL (outOf L n) i = (dirL L i && !decide (i = n)) := by
  rw [Bool.eq_iff_iff, Bool.and_eq_true, dirL_iff, dirL_iff]
  simp only [Bool.not_eq_true', decide_eq_false_iff_not]
  constructor
  · rintro (h | ⟨x, hx, e1, e2⟩)
    · exact ⟨.inl h, by omega⟩
    · have := mem_outOf.1 hx
      exact ⟨.inr ⟨x, this.1, e1, e2⟩, fun e => this.2 (e1.trans e)⟩
  · rintro ⟨h | ⟨x, hx, e1, e2⟩, hn⟩
    · exact .inl h
    · exact .inr ⟨x, mem_outOf.2 ⟨hx, fun e => hn (e1.symm.trans e)⟩, e1, e2⟩
theorem outOf_len (L : List Item) (n : Int) : (outOf L n).length ≤ L.length := List.length_filter_le _ _
theorem LI.unlink {enc : Int} {L : List Item} {next : Int} (h : LI enc L next) {x : Item} (hx : x ∈ L) (he : inL L x.e.node = []) : LI enc (outOf L x.e.node) next := by
  have hs : (outOf L x.e.node).Sublist L := List.filter_sublist
  have hm : ∀ y, y ∈ outOf L x.e.node → y ∈ L := fun y hy => (mem_outOf.1 hy).1
  have hc : ∀ y ∈ L, y.inn ≠ x.e.node := fun y hy e => by
    have : y.e ∈ inL L x.e.node := mem_inL.2 ⟨y, hy, e, rfl⟩
    rw [he] at this; cases this
  exact ⟨fun y hy => h.node y (hm y hy), fun y hy => h.good y (hm y hy), fun y hy => h.cook y (hm y hy), fun y hy => h.short y (hm y hy), fun y hy => h.fits y (hm y hy),
    fun y hy => by rw [dirL_outOf (h.node x hx).1, h.home y (hm y hy)]; simpa using hc y (hm y hy),
    h.asc.sublist hs, h.uniq.sublist hs, h.names.sublist hs, h.shorts.sublist hs,
    fun d => Subrelation.accessible (r := childL L) (fun {a b} ⟨y, hy, r⟩ => ⟨y, hm y hy, r⟩) (h.wf d), by have := h.len; have := outOf_len L x.e.node; omega⟩
structure StAt (L : List Item) (T : TreS) (d : Int) (k : Nat) (x : Item) : Prop where
  mem : x ∈ L
  inn : x.inn = d
  lt : k < (inL L d).length
  get : (inL L d)[k]'lt = x.e
theorem TR.dropAt {enc : Int} {L : List Item} {T : TreS} (h : TR enc L T) {d : Int} {k : Nat} {x : Item} (ha : StAt L T d k x) (i : Int) : (dropT T d k).dirs i = if dirL L i = true then some (inL (outOf L x.e.node) i) else none := by
  obtain ⟨hx, hi, hk, hg⟩ := ha
  have hd : dirL L d = true := hi ▸ h.li.home x hx
  unfold dropT
  simp only
  rw [h.dirs, h.dirs]
  unfold dirsL
  rw [inL_outOf]
  by_cases e : i = d
  · subst e
    rw [if_pos rfl, if_pos hd, if_pos hd, Option.getD_some]
    have := filter_at (inL_uniq h.li.uniq i) hk
    rw [hg] at this
    rw [this]
  · rw [if_neg e]
    by_cases q : dirL L i = true
    · rw [if_pos q, if_pos q]
      congr 1
      refine (List.filter_eq_self.2 fun e' he' => ?_).symm
      obtain ⟨y, hy, e1, rfl⟩ := mem_inL.1 he'
      simp only [ne_eq, decide_not, Bool.not_eq_true', decide_eq_false_iff_not]
      intro e2
      have := uniq_eq h.li.uniq hy hx e2
      subst this
      exact e (e1.symm.trans hi)
    · rw [if_neg q, if_neg q]
theorem TR.unlink {enc : Int} {L : List Item} {T : TreS} (h : TR enc L T) {d : Int} {k : Nat} {x : Item} (ha : StAt L T d k x) (he : inL L x.e.node = []) {bk2 : List Int} (hg : GiveR T.fr T.bk x.e.node bk2) : TR enc (outOf L x.e.node) (unlinkT T d k x.e.node bk2) := by
  have hx := ha.mem
  have ho : T.out x.e.node = true := by rw [h.out]; exact outL_iff.2 ⟨x, hx, rfl⟩
  refine ⟨fun i => ?_, fun n => ?_, fun n => ?_, h.pool.give ho hg, h.li.unlink hx he⟩
  · unfold unlinkT dirsL
    simp only
    rw [h.dropAt ha, dirL_outOf (h.li.node x hx).1]
    by_cases e : i = x.e.node
    · rw [if_pos e]; simp [e]
    · rw [if_neg e]; simp [e]
  · unfold unlinkT
    simp only
    rw [fileL_outOf, h.files]
  · unfold unlinkT
    simp only
    rw [outL_outOf, h.out]
/-! ### Move -/
open Go.RowKit
def LinkS (R : Int → Int → List Int → Prop) (T : TreS) (d : Int) (name : ByteArray) (isDir : Bool) (short : Int) (k t q qt : Nat) (a b : Int) (k2 t2 q2 : Nat) (T2 : TreS) (qt2 : Nat) : Prop :=
  (b ≠ 0 ∧ a = 0 ∧ (LinkErr T d name short b ∨ (LinkOk T d name short ∧ b = 12 ∧ ∃ k fr bk, R k fr bk ∧ 200 < k)) ∧ k2 = k ∧ t2 = t ∧ q2 = q ∧ T2 = T ∧ qt2 = qt) ∨
  (LinkOk T d name short ∧ ∃ fr bk, R a fr bk ∧ a ≤ 200 ∧ b = 0 ∧ k2 = k + 1 ∧ t2 = t + kfr (name.size + 9) ∧ q2 = q + kfr (name.size + 9) ∧ T2 = linkT T d name isDir short a fr bk ∧ qt2 = qt + 3)
theorem TB.link {T : TreS} {qt : Nat} (h : TB T qt) (hq : qt + 3 ≤ 100000) (hl : ∀ i l, T.dirs i = some l → l.length + 1 ≤ 10000) (hn : T.next + 1 ≤ 100000) {d : Int} {name : ByteArray} {isDir : Bool} {short k fr : Int} {bk : List Int} (hb : bk.length ≤ 100000) : TB (linkT T d name isDir short k fr bk) (qt + 3) := by
  have hN : ∀ i l, (nodeT T isDir k fr bk).dirs i = some l → l.length + 1 ≤ 10000 := fun i l hh => by
    unfold nodeT at hh
    simp only at hh
    cases isDir with
    | false => exact hl i l hh
    | true =>
      simp only [if_true] at hh
      split at hh
      · injection hh with hh; subst hh; simp
      · exact hl i l hh
  refine ⟨hq, hb, fun i l hh => ?_, ?_⟩
  · unfold linkT putT at hh
    simp only at hh
    split at hh
    · injection hh with hh
      subst hh
      rw [List.length_append, List.length_singleton]
      cases hd : (nodeT T isDir k fr bk).dirs d with
      | none => simp
      | some l' => have := hN d l' hd; simp; omega
    · have := hN i l hh; omega
  · have := h.next
    show 0 ≤ (nodeT T isDir k fr bk).next + 1 ∧ (nodeT T isDir k fr bk).next + 1 ≤ 100000
    have e : (nodeT T isDir k fr bk).next = T.next := rfl
    rw [e]
    omega
theorem sdo_link (R : Int → Int → List Int → Prop) (F : Nat → Prop) (s p : Nat) (m n : Int) (k t q : Nat) (T : TreS) (qt : Nat) (w : World) (h : StoAt w F s p m n k t q T qt) (hT : Takes R T qt) (hRb : ∀ i fr bk, R i fr bk → bk.length ≤ 100000) (dir : Int) (name : ByteArray) (isDir : Bool) (short : Int) (hd : 0 ≤ dir ∧ dir ≤ 65535) (hs : 0 ≤ short ∧ short ≤ 1000000) (hnm : name.size ≤ 255)
    (hB : TB T qt) (hqt : qt + 3 ≤ 100000) (hl : ∀ i l, T.dirs i = some l → l.length + 1 ≤ 10000) (hnx : T.next + 1 ≤ 100000) (hm : 0 ≤ m ∧ m + m ≤ n) (hn : n ≤ 1000000) (ht : 1 ≤ t) (hfit : (t : Int) + 5 ≤ m) (hq : q ≤ 70000) (hk : k ≤ 100000) :
    Calls Tryz.prog 127 #[.pointer (some ⟨s, 0, none⟩), deedV 1 dir 0 name ⟨#[]⟩ isDir short] w (SdoG (LinkS R T dir name isDir short k t q qt) F s p m n w) := by
  refine (sdo_any R F s p m n k t q T qt w h hT dir name isDir short hd hs hnm hB.qt hB.bk (fun i l hh => by have := hl i l hh; omega) hB.next hm hn ht hfit hq hk).mono ?_
  rintro e w' (⟨r, hr, hre, rfl, hf⟩ | ⟨hok, i, fr, bk, F', hR, hi, rfl, hst, hm2, hg⟩)
  · exact ⟨0, r, k, t, q, T, qt, F, .inl ⟨hr, rfl, hre, rfl, rfl, rfl, rfl, rfl⟩, rfl, h.fresh hf, hB, hf.mut F, (Gr.refl F w).later hf.size⟩
  · exact ⟨i, 0, k + 1, _, _, _, qt + 3, F', .inr ⟨hok, fr, bk, hR, hi, rfl, rfl, rfl, rfl, rfl, rfl⟩, rfl, hst, hB.link hqt hl hnx (hRb i fr bk hR), hm2, hg⟩
def MakeG (S : Int → Int → Nat → Nat → Nat → TreS → Nat → Prop) (r : Int × ByteArray × Int) (F : Nat → Prop) (f : Nat) (enc : Int) (p : Nat) (m n : Int) (w : World) (e : Ending) (w' : World) : Prop :=
  (r.2.2 ≠ 0 ∧ e = .returned (.tuple #[.int .i64 0, .int .i64 r.2.2]) ∧ Fresh w w') ∨ (r.2.2 = 0 ∧ FdoG S F f enc p m n w e w')
set_option maxRecDepth 100000 in
set_option maxHeartbeats 1600000 in
theorem fmake_any (S : Int → Int → Nat → Nat → Nat → TreS → Nat → Prop) (F : Nat → Prop) (f : Nat) (enc : Int) (p : Nat) (m n : Int) (k t q : Nat) (T : TreS) (qt : Nat) (w : World) (h : FsAt w F f enc p m n k t q T qt) (hT : TOK enc T) (hGT : GT w) (path : ByteArray) (isDir : Bool) (hp : path.size ≤ 1000000) (h0 : 0 ≤ enc) (h8 : enc ≤ 8)
    (HS : (freshR enc T path).2.2 = 0 → ∀ W Fs s, Fresh w W → StoAt W Fs s p m n k t q T qt → Calls Tryz.prog 127 #[.pointer (some ⟨s, 0, none⟩), deedV 1 (freshR enc T path).1 0 (freshR enc T path).2.1 ⟨#[]⟩ isDir 0] W (SdoG S Fs s p m n W)) :
    Calls Tryz.prog 29 #[.pointer (some ⟨f, 0, none⟩), .string path, .bool isDir] w (MakeG S (freshR enc T path) F f enc p m n w) := by
  have HO := Lib.hid (fover_any F f enc p m n k t q T qt w h)
  have HFR : Hid (Calls Tryz.prog 69 #[.pointer (some ⟨f, 0, none⟩), .string path] w (ParF (freshR enc T path) w)) := Lib.hid (by
    obtain ⟨s, tr, Fs, At, hb, hFf, hFs, hAt, hf1, hf2, hd, hs, ht, hF⟩ := h
    exact fresh_any enc At f s tr T qt hT w hb ht hGT path hp h0 h8)
  have HDO := Lib.hid (fun (hz : (freshR enc T path).2.2 = 0) W (hW : Fresh w W) => fdo_any S 1 (freshR enc T path).1 0 (freshR enc T path).2.1 ⟨#[]⟩ isDir 0 F f enc p m n k t q T qt W (h.fresh hW) (fun W' Fs s hW' hs => HS hz W' Fs s (hW.trans hW') hs))
  obtain ⟨r, hr⟩ : ∃ r, freshR enc T path = r := ⟨_, rfl⟩
  rw [hr] at HFR HDO ⊢
  obtain ⟨d, raw, j⟩ := r
  unfold ParF at HFR
  simp only at HFR HDO
  clear h HS hT hr
  by_cases hj : j = 0
  · subst hj
    have HDO2 := Lib.hid (HDO.out rfl)
    clear HDO
    go_enter Tryz.func29, Tryz.ntmps29
    go_wp2_with fail
    refine HO.out.mono ?_
    rintro e w1 ⟨rfl, rfl⟩
    go_wp2_with fail
    refine HFR.out.mono ?_
    rintro e w2 ⟨rfl, hf2⟩
    have HF2 := Lib.hid hf2
    clear hf2
    go_wp2_with fail
    refine (HDO2.out w2 HF2.out).mono ?_
    rintro e w3 ⟨a, b, k2, t2, q2, T2, qt2, F2, hS, rfl, hfs, hTB, hm, hg⟩
    have HFIN : Hid (MakeG S (d, raw, 0) F f enc p m n w (.returned (.tuple #[.int .i64 a, .int .i64 b])) w3) := Lib.hid (.inr ⟨rfl, a, b, k2, t2, q2, T2, qt2, F2, hS, rfl, hfs, hTB, HF2.out.andMut hm, hg.ahead HF2.out.size⟩)
    clear hS hfs hTB hm hg
    go_wp2
    go_ret2
    exact HFIN.out
  · have hjb : (j != 0) = true := by simp [hj]
    have HJ := Lib.hid hj
    clear hj HDO
    go_enter Tryz.func29, Tryz.ntmps29
    go_wp2_with fail
    refine HO.out.mono ?_
    rintro e w1 ⟨rfl, rfl⟩
    go_wp2_with fail
    refine HFR.out.mono ?_
    rintro e w2 ⟨rfl, hf2⟩
    go_wp2
    go_ret2
    exact .inl ⟨HJ.out, rfl, hf2⟩
open Go.RowKit
attribute [local go_sem ↓] Go.wp_at_zero Go.wp_at_succ
theorem TOK.t0 {enc : Int} {T : TreS} (h : IsT0 T) : TOK enc T := by
  have hd : ∀ d l, T.dirs d = some l → l = [] := fun d l hl => by
    rw [h.1] at hl
    split at hl
    · injection hl with hl; exact hl.symm
    · cases hl
  exact ⟨fun d l hl e he => by rw [hd d l hl] at he; simp at he, fun d l hl => by rw [hd d l hl]; simp, fun d l hl e he => by rw [hd d l hl] at he; simp at he⟩
theorem TB.t0 {T : TreS} {qt : Nat} (h : IsT0 T) (hq : qt ≤ 100000) : TB T qt := by
  have hd : ∀ d l, T.dirs d = some l → l = [] := fun d l hl => by
    rw [h.1] at hl
    split at hl
    · injection hl with hl; exact hl.symm
    · cases hl
  obtain ⟨_, h2, _, _, _, h6⟩ := h
  exact ⟨hq, by rw [h6]; simp, fun d l hl => by rw [hd d l hl]; simp, by rw [h2]; omega⟩
theorem enters_clean1 : ∀ (args : Array Value) (W : World), Sem.run Tryz.prog (callFunc 81 args) W = .ok (.enter 81 args) W := by intro args w; go_simp
set_option maxHeartbeats 800000 in
theorem names_nil (enc : Int) (a : Option Addr) (c : Nat) (w : World) : Calls Tryz.prog 74 #[.int .i64 enc, .slice a 0 c] w fun e w' => e = .returned (.slice none 0 0) ∧ w = w' := by
  go_enter Tryz.func74, Tryz.ntmps74
  go_wp2
  refine wp_loop_rounds 1 ?_
  rw [rounds_succ]
  go_wp2
  go_ret
  exact ⟨rfl, rfl⟩
set_option maxHeartbeats 800000 in
theorem clean_nil (enc : Int) (a : Option Addr) (c : Nat) (w : World) : Calls Tryz.prog 38 #[.int .i64 enc, .slice a 0 c] w fun e w' => e = .returned (.bool true) ∧ Fresh w w' := by
  have hf : Fresh w (w.alloc (.cells #[.int .i64 enc] 3)) := (Fresh.refl _).alloc _
  have HX := Lib.hid (fun W => containsFunc_any (fun _ => True) (.slice a 0 c) [] W ⟨by simp [ecs], a, c, rfl, Nat.zero_le _, .inl rfl⟩ (by simp) 81 #[] #[.pointer (some ⟨w.heap.size, 0, none⟩)] (fun _ => false) ⟨enters_clean1, fun W hW e he => by simp at he⟩)
  have HN := Lib.hid (fun W => names_nil enc a c W)
  have HS := Lib.hid (fun W => Tryz.slices_Sort_string_none none 0 W)
  have HC := Lib.hid (fun W => Tryz.slices_Compact_string_empty none 0 W)
  have hfx : fidx (fun _ : Ent => false) [] = -1 := rfl
  rw [hfx] at HX
  clear hf hfx
  go_enter Tryz.func38, Tryz.ntmps38
  go_wp2_with fail
  refine (HX.out _).mono ?_
  rintro e w1 ⟨rfl, hf1⟩
  have HF := Lib.hid (((Fresh.refl w).alloc _).trans hf1)
  have c0 : w1.cell? ⟨w.heap.size, 0, none⟩ = some (.int .i64 enc) := ((Blk.new w 3 #[.int .i64 enc]).keep hf1).cell 0
  clear hf1
  go_wp2_with fail
  refine (HN.out _).mono ?_
  rintro e w2 ⟨rfl, rfl⟩
  go_wp2_with fail
  refine (HS.out _).mono ?_
  rintro e w3 ⟨rfl, rfl⟩
  go_wp2_with fail
  refine (HC.out _).mono ?_
  rintro e w3 ⟨rfl, rfl⟩
  go_wp2
  go_ret
  exact ⟨rfl, HF.out⟩
end Go.Proofs.YtpmlggjhfiljmaaGreatDoor
namespace Go.Proofs.YtpmlggjhfiljmaaGreatDoor
open Go.RowKit
def PathN (s : ByteArray) : Prop := 1 ≤ s.size ∧ s.size ≤ 1000 ∧ (∀ b ∈ s.data.toList, b.toNat ≠ 47) ∧ s ≠ dotS ∧ s ≠ dotsS
theorem splL_plain : ∀ (l : List UInt8), (∀ b ∈ l, b.toNat ≠ 47) → splL l = [l]
  | [], _ => rfl
  | c :: l, h => by
    unfold splL
    rw [if_neg (h c (by simp)), splL_plain l (fun b hb => h b (by simp [hb]))]
theorem slash_size (s : ByteArray) : (slashS ++ s).size = s.size + 1 := by
  rw [ByteArray.size_append]
  show 1 + _ = _
  omega
theorem slash_rest (s : ByteArray) : restP (slashS ++ s) = s := by
  unfold restP
  rw [slash_size]
  exact ByteArray.extract_append_eq_right rfl (by show _ = 1 + _; omega)
theorem slash_head (s : ByteArray) : ((slashS ++ s).data.toList.getD 0 0).toNat = 47 := by
  have : (slashS ++ s).data.toList = 47 :: s.data.toList := by rw [ByteArray.data_append, Array.toList_append]; rfl
  rw [this]; rfl
theorem badN_one {s : ByteArray} (h : PathN s) : ¬ badN [s] = true := by
  obtain ⟨h1, h2, h3, h4, h5⟩ := h
  intro hb
  unfold badN at hb
  simp only [List.any_cons, List.any_nil, Bool.or_false, Bool.or_eq_true, beq_iff_eq] at hb
  rcases hb with (hb | hb) | hb
  · rw [toList_inj] at hb; rw [hb] at h1; exact absurd h1 (by decide)
  · exact h4 (toList_inj.1 hb)
  · exact h5 (toList_inj.1 hb)
theorem splB_one {s : ByteArray} (h : PathN s) : splB s = [s] := by
  unfold splB
  rw [splL_plain _ h.2.2.1]
  simp
theorem splitP_one {s : ByteArray} (h : PathN s) : splitP (slashS ++ s) = .inl [s] := by
  have h1 := h.1
  have h2 := h.2.1
  unfold splitP
  rw [slash_size, slash_rest, splB_one h, slash_head]
  rw [if_neg (by omega), if_neg (by simp), if_neg (by omega), if_neg (badN_one h), if_neg (by simp)]
theorem parT_one {enc : Int} {T : TreS} {s : ByteArray} (h : PathN s) : parT enc T (slashS ++ s) = .inl (0, s) := by
  unfold parT
  rw [splitP_one h]
  rfl
def rootL (T : TreS) : List Ent := (T.dirs 0).getD []
theorem atR_one {enc : Int} {T : TreS} {s : ByteArray} (h : PathN s) : atR enc T (slashS ++ s) = match (rootL T).find? (faceB enc s) with
    | none => (0, s, ent0, 5)
    | some e => (0, s, e, 0) := by
  unfold atR
  rw [parT_one h]
  rfl
theorem freshR_one {enc : Int} {T : TreS} {s : ByteArray} (h : PathN s) (hf : (rootL T).find? (faceB enc s) = none) : freshR enc T (slashS ++ s) = (0, (rawF enc s).1, (rawF enc s).2) := by
  have h1 := h.1
  unfold freshR
  rw [atR_one h, hf]
  simp only
  rw [if_neg (by decide), if_neg (by intro q; rcases q with q | q; exact q rfl; omega)]
theorem next_le {O : Int → Bool} {fr k : Int} (hO : OutOK O) (hf : fr ≤ 201) (h : NextIs O fr k) : k ≤ 201 := by
  obtain ⟨h1, h2, h3⟩ := h
  rcases (by omega : 201 < k ∨ k ≤ 201) with q | q
  · have := (hO _ (h3 201 hf q)).2; omega
  · exact q
def RNew (T : TreS) (k fr : Int) (bk : List Int) : Prop := NextIs T.out T.fr k ∧ fr = k ∧ bk = []
theorem takes_new {T : TreS} {qt : Nat} (hb : T.bk = []) (hO : OutOK T.out) (hf : 1 ≤ T.fr ∧ T.fr ≤ 201) (hq : qt ≤ 1000000) : Takes (RNew T) T qt := by
  intro W A p h
  rw [hb] at h
  refine (take_new W A p T.fr T.out qt h hO hf hq).mono ?_
  rintro e w' ⟨k, A', hn, hm, hg, h⟩
  have hk := next_le hO hf.2 hn
  have h1 := hn.1
  refine ⟨k, k, [], A', ⟨hn, rfl, rfl⟩, ⟨by omega, by omega⟩, hm, hg, ?_⟩
  rcases h with ⟨h1, h2, h3⟩ | ⟨h1, h2, h3⟩
  · exact .inl ⟨h1, h2, h3⟩
  · exact .inr ⟨h1, h2, h3.le (by omega)⟩
theorem IsT0.root {T : TreS} (h : IsT0 T) : rootL T = [] := by
  unfold rootL
  rw [h.1]
  rfl
theorem IsT0.out {T : TreS} (h : IsT0 T) : OutOK T.out := fun i hi => by rw [h.2.2.2.1] at hi; cases hi
theorem IsT0.takes {T : TreS} {qt : Nat} (h : IsT0 T) (hq : qt ≤ 1000000) : Takes (RNew T) T qt := takes_new h.2.2.2.2.2 h.out (by rw [h.2.2.2.2.1]; omega) hq
theorem IsT0.first {T : TreS} (h : IsT0 T) {k fr : Int} {bk : List Int} (hr : RNew T k fr bk) : k = 1 := by
  obtain ⟨⟨h1, h2, h3⟩, _, _⟩ := hr
  rw [h.2.2.2.2.1] at h1 h3
  rcases (by omega : 1 < k ∨ k ≤ 1) with q | q
  · have := h3 1 (by omega) q; rw [h.2.2.2.1] at this; cases this
  · omega
open Go.RowKit
theorem pair_47 {c r x : Int} (h : pairI c r = some x) : x ≠ 47 := by
  have h1 := pairI_pos h
  unfold pairI at h
  cases ht : T.find? (isAB c r) with
  | some t =>
    rw [ht] at h
    have := T_of (List.mem_of_find?_eq_some ht)
    simp only [Option.some.injEq] at h
    omega
  | none =>
    rw [ht] at h
    unfold hanI at h
    simp only at h
    split at h
    · simp only [Option.some.injEq] at h; omega
    split at h
    · simp only [Option.some.injEq] at h; omega
    · cases h
theorem res_47 {r : Int} (h : resB r = false) : r ≠ 47 := by
  intro e
  subst e
  exact absurd h (by decide)
theorem encS_47 {c : Int} (hc : isC c = true) (h : c ≠ 47) : ∀ b ∈ (encS c).data.toList, b.toNat ≠ 47 := by
  have hr := isC_true hc
  have hb : ∀ x ∈ encI c, 0 ≤ x ∧ x < 256 ∧ x ≠ 47 := by
    unfold encI
    intro x hx
    split at hx
    · simp at hx; omega
    split at hx
    · simp at hx; omega
    split at hx
    · simp at hx; omega
    · simp at hx; omega
  intro b hbm
  unfold encS at hbm
  rw [if_pos hc] at hbm
  have : ∃ x ∈ encI c, b = UInt8.ofNat x.toNat := by
    simpa [strOfNums, eq_comm] using hbm
  obtain ⟨x, hx, rfl⟩ := this
  have := hb x hx
  rw [UInt8.toNat_ofNat']
  omega
theorem joinS_47 : ∀ {l : List Int}, (∀ c ∈ l, isC c = true) → (∀ c ∈ l, c ≠ 47) → ∀ b ∈ (joinS l).data.toList, b.toNat ≠ 47
  | [], _, _ => fun b hb => by simp [joinS] at hb
  | c :: l, h1, h2 => fun b hb => by
    have : (joinS (c :: l)).data.toList = (encS c).data.toList ++ (joinS l).data.toList := by
      show (encS c ++ joinS l).data.toList = _
      rw [ByteArray.data_append, Array.toList_append]
    rw [this] at hb
    rcases List.mem_append.1 hb with hb | hb
    · exact encS_47 (h1 c (by simp)) (h2 c (by simp)) b hb
    · exact joinS_47 (fun c hc => h1 c (by simp [hc])) (fun c hc => h2 c (by simp [hc])) b hb
theorem dots_rs : (((List.range 9).all fun e => (rs0 (e : Int) dotS).1.toList == dotS.toList) && ((List.range 9).all fun e => (rs0 (e : Int) dotsS).1.toList == dotsS.toList)) = true := by decide +kernel
theorem hexI_inj {a b : Int} (ha : 0 ≤ a ∧ a < 16) (hb : 0 ≤ b ∧ b < 16) (h : hexI a = hexI b) : a = b := by
  unfold hexI at h
  split at h <;> split at h <;> omega
theorem hash_fold (l : List UInt8) : ∀ h : Int, 0 ≤ h ∧ h < 4294967296 → 0 ≤ l.foldl (fun h c => bits .xor .u32 h (c.toNat : Int) * 16777619 % 4294967296) h ∧ l.foldl (fun h c => bits .xor .u32 h (c.toNat : Int) * 16777619 % 4294967296) h < 4294967296 := by
  induction l with
  | nil => intro h hh; exact hh
  | cons c l ih =>
    intro h _
    rw [List.foldl_cons]
    exact ih _ ⟨Int.emod_nonneg _ (by omega), Int.emod_lt_of_pos _ (by omega)⟩
theorem hashI_range (b : ByteArray) : 0 ≤ hashI b ∧ hashI b < 4294967296 := hash_fold _ _ (by omega)
theorem hexL_inj {a b : Int} (ha : 0 ≤ a ∧ a < 4294967296) (hb : 0 ≤ b ∧ b < 4294967296) (h : hexL a = hexL b) : a = b := by
  unfold hexL at h
  simp only [List.cons.injEq, and_true] at h
  obtain ⟨h1, h2, h3, h4, h5, h6, h7, h8⟩ := h
  have e1 := hexI_inj (by omega) (by omega) h1
  have e2 := hexI_inj (by omega) (by omega) h2
  have e3 := hexI_inj (by omega) (by omega) h3
  have e4 := hexI_inj (by omega) (by omega) h4
  have e5 := hexI_inj (by omega) (by omega) h5
  have e6 := hexI_inj (by omega) (by omega) h6
  have e7 := hexI_inj (by omega) (by omega) h7
  have e8 := hexI_inj (by omega) (by omega) h8
  clear h1 h2 h3 h4 h5 h6 h7 h8
  omega
theorem hexL_len (a : Int) : (hexL a).length = 8 := rfl
theorem decL_inj {a b : Int} (ha : 1 ≤ a ∧ a ≤ 99) (hb : 1 ≤ b ∧ b ≤ 99) (h : decL a = decL b) : a = b := by
  unfold decL at h
  split at h <;> split at h <;> simp only [List.cons.injEq, and_true] at h
  · omega
  · exact absurd h.2 (by simp)
  · exact absurd h.2 (by simp)
  · omega
theorem hexI_byte {d : Int} (h : 0 ≤ d ∧ d < 16) : (48 ≤ hexI d ∧ hexI d ≤ 57) ∨ (97 ≤ hexI d ∧ hexI d ≤ 102) := by unfold hexI; split <;> omega
theorem hexL_byte {a : Int} : ∀ x ∈ hexL a, (48 ≤ x ∧ x ≤ 57) ∨ (97 ≤ x ∧ x ≤ 102) := by
  intro x hx
  unfold hexL at hx
  simp only [List.mem_cons, List.not_mem_nil, or_false] at hx
  rcases hx with rfl | rfl | rfl | rfl | rfl | rfl | rfl | rfl <;> exact hexI_byte (by omega)
theorem decL_byte {n : Int} (h : 0 ≤ n ∧ n ≤ 99) : ∀ x ∈ decL n, 48 ≤ x ∧ x ≤ 57 := by
  intro x hx
  unfold decL at hx
  split at hx <;> simp only [List.mem_cons, List.not_mem_nil, or_false] at hx
  · omega
  · omega
def nameL (h n : Int) : List Int := [37, 126] ++ hexL h ++ [45] ++ decL n
theorem nameS_eq {h n : Int} (hn : 1 ≤ n ∧ n ≤ 99) : nameS h n = strOfNums (nameL h n) := by unfold nameS nameL; rw [if_neg (by omega)]
theorem nameL_byte {h n : Int} (hn : 0 ≤ n ∧ n ≤ 99) : ∀ x ∈ nameL h n, 0 ≤ x ∧ x < 256 ∧ x ≠ 47 := by
  intro x hx
  unfold nameL at hx
  simp only [List.mem_append, List.mem_cons, List.not_mem_nil, or_false] at hx
  rcases hx with ((hx | hx) | hx) | hx
  · omega
  · have := hexL_byte x hx; omega
  · omega
  · have := decL_byte hn x hx; omega
theorem strOfNums_inj {l m : List Int} (hl : ∀ x ∈ l, 0 ≤ x ∧ x < 256) (hm : ∀ x ∈ m, 0 ≤ x ∧ x < 256) (h : strOfNums l = strOfNums m) : l = m := by
  have e := strCells_nums hl
  rw [h, strCells_nums hm] at e
  exact ((List.map_inj_right (fun x y q => by injection q)).1 e).symm
theorem nameS_inj {h h' n n' : Int} (hh : 0 ≤ h ∧ h < 4294967296) (hh' : 0 ≤ h' ∧ h' < 4294967296) (hn : 1 ≤ n ∧ n ≤ 99) (hn' : 1 ≤ n' ∧ n' ≤ 99) (e : nameS h n = nameS h' n') : h = h' ∧ n = n' := by
  rw [nameS_eq hn, nameS_eq hn'] at e
  have e := strOfNums_inj (fun x hx => by have := nameL_byte (by omega) x hx; omega) (fun x hx => by have := nameL_byte (by omega) x hx; omega) e
  unfold nameL at e
  rw [List.append_assoc, List.append_assoc, List.append_assoc, List.append_assoc] at e
  have e1 := List.append_inj e rfl
  have e2 := List.append_inj e1.2 (by rw [hexL_len, hexL_len])
  have e3 := List.append_inj e2.2 rfl
  exact ⟨hexL_inj hh hh' e2.1, decL_inj hn hn' e3.2⟩
theorem nameL_len {h n : Int} : 12 ≤ (nameL h n).length ∧ (nameL h n).length ≤ 13 := by
  unfold nameL decL
  simp only [List.length_append, hexL_len, List.length_cons, List.length_nil]
  split <;> simp
theorem nameS_rs {enc h n : Int} (hn : 1 ≤ n ∧ n ≤ 99) : (rs0 enc (nameS h n)).2 = false := by
  rw [nameS_eq hn]
  have hb : ∀ x ∈ nameL h n, 0 ≤ x ∧ x < 256 := fun x hx => by have := nameL_byte (h := h) (n := n) (by omega) x hx; omega
  have hl := nameL_len (h := h) (n := n)
  have hs : (strOfNums (nameL h n)).size = (nameL h n).length := strOfNums_size _
  have b0 : B (strOfNums (nameL h n)) 0 = 37 := B_strOfNums hb (by omega)
  have b1 : B (strOfNums (nameL h n)) 1 = 126 := B_strOfNums hb (by omega)
  have hc : isC 37 = true := by decide
  have hat : At (strOfNums (nameL h n)) 0 37 := by
    have e : encI 37 = [37] := by decide
    unfold At
    rw [e]
    refine ⟨by simp; omega, fun i hi => ?_⟩
    obtain rfl : i = 0 := by simpa using hi
    exact b0
  have hnx := nxt_of hc hat
  have hsz : szI 37 ≠ 0 := by decide
  have hbad := (RsAt.start enc (strOfNums (nameL h n))).bad (by omega) (by rw [hnx]; exact hsz) (by rw [hnx]) (fun q => by
    have := q.2.1
    rw [b1] at this
    exact absurd this (by decide))
  rw [hbad.fin (.inl rfl)]
  rfl
theorem presS_inj {enc : Int} (h0 : 0 ≤ enc) (h8 : enc ≤ 8) {a b : ByteArray} (h : presS enc a = presS enc b) : a = b := by
  have ea := rs0_pres (raw := a) h0 h8
  rw [h, rs0_pres h0 h8] at ea
  injection ea with e _
  exact e.symm
theorem pres_ne_name {enc : Int} (h0 : 0 ≤ enc) (h8 : enc ≤ 8) {a : ByteArray} {h n : Int} (hn : 1 ≤ n ∧ n ≤ 99) : presS enc a ≠ nameS h n := fun e => by
  have := nameS_rs (enc := enc) (h := h) hn
  rw [← e, rs0_pres h0 h8] at this
  cases this
theorem pw_of {α : Type} {R : α → α → Prop} (hs : ∀ x y, R x y → R y x) {L : List α} (h : L.Pairwise R) : ∀ {x y : α}, x ∈ L → y ∈ L → x ≠ y → R x y := by
  induction h with
  | nil => intro x y hx; cases hx
  | cons h1 h2 ih =>
    intro x y hx hy e
    rcases List.mem_cons.1 hx with hx1 | hx1
    · rcases List.mem_cons.1 hy with hy1 | hy1
      · exact absurd (hx1.trans hy1.symm) e
      · rw [hx1]; exact h1 _ hy1
    · rcases List.mem_cons.1 hy with hy1 | hy1
      · rw [hy1]; exact hs _ _ (h1 _ hx1)
      · exact ih hx1 hy1 e
theorem LI.names_of {enc : Int} {L : List Item} {next : Int} (h : LI enc L next) {x y : Item} (hx : x ∈ L) (hy : y ∈ L) (hi : x.inn = y.inn) (hn : x.e.name = y.e.name) : x = y := by
  rcases Classical.em (x = y) with q | q
  · exact q
  · exact absurd hn (pw_of (R := fun x y : Item => x.inn = y.inn → x.e.name ≠ y.e.name) (fun a b r e f => r e.symm f.symm) h.names hx hy q hi)
theorem LI.shorts_of {enc : Int} {L : List Item} {next : Int} (h : LI enc L next) {x y : Item} (hx : x ∈ L) (hy : y ∈ L) (hi : x.inn = y.inn) (h0 : x.e.short ≠ 0) (hs : x.e.short = y.e.short) (hh : hashI x.e.name = hashI y.e.name) : x = y := by
  rcases Classical.em (x = y) with q | q
  · exact q
  · exact absurd hh (pw_of (R := fun x y : Item => x.inn = y.inn → x.e.short ≠ 0 → x.e.short = y.e.short → hashI x.e.name ≠ hashI y.e.name) (fun a b r e f g k => r e.symm (by rw [← g]; exact f) g.symm k.symm) h.shorts hx hy q hi h0 hs)
theorem LI.faces {enc : Int} (e0 : 0 ≤ enc) (e8 : enc ≤ 8) {L : List Item} {next : Int} (h : LI enc L next) (hn : next ≤ 100) {x y : Item} (hx : x ∈ L) (hy : y ∈ L) (hi : x.inn = y.inn) (hf : faceS enc x.e = faceS enc y.e) : x = y := by
  have sx := h.short x hx
  have sy := h.short y hy
  unfold faceS at hf
  by_cases zx : x.e.short = 0
  · by_cases zy : y.e.short = 0
    · rw [if_pos zx, if_pos zy] at hf
      exact h.names_of hx hy hi (presS_inj e0 e8 hf)
    · rw [if_pos zx, if_neg zy] at hf
      exact absurd hf (pres_ne_name e0 e8 (by omega))
  · by_cases zy : y.e.short = 0
    · rw [if_neg zx, if_pos zy] at hf
      exact absurd hf.symm (pres_ne_name e0 e8 (by omega))
    · rw [if_neg zx, if_neg zy] at hf
      have q := nameS_inj (hashI_range _) (hashI_range _) (by omega) (by omega) hf
      exact h.shorts_of hx hy hi zx q.2 q.1
theorem inL_faces {enc : Int} (e0 : 0 ≤ enc) (e8 : enc ≤ 8) {L : List Item} {next : Int} (h : LI enc L next) (hn : next ≤ 100) {d : Int} {a b : Ent} (ha : a ∈ inL L d) (hb : b ∈ inL L d) (hf : faceS enc a = faceS enc b) : a = b := by
  obtain ⟨x, hx, ix, rfl⟩ := mem_inL.1 ha
  obtain ⟨y, hy, iy, rfl⟩ := mem_inL.1 hb
  rw [h.faces e0 e8 hn hx hy (ix.trans iy.symm) hf]
theorem inL_find {enc : Int} (e0 : 0 ≤ enc) (e8 : enc ≤ 8) {L : List Item} {next : Int} (h : LI enc L next) (hn : next ≤ 100) {d : Int} {e : Ent} (he : e ∈ inL L d) : (inL L d).find? (faceB enc (faceS enc e)) = some e := by
  cases hq : (inL L d).find? (faceB enc (faceS enc e)) with
  | none =>
    have := List.find?_eq_none.1 hq e he
    exact absurd (faceB_iff.2 rfl) this
  | some b =>
    have hb := List.mem_of_find?_eq_some hq
    have hf := faceB_iff.1 (List.find?_some hq)
    rw [inL_faces e0 e8 h hn hb he hf]
theorem inL_nodup {enc : Int} (e0 : 0 ≤ enc) (e8 : enc ≤ 8) {L : List Item} {next : Int} (h : LI enc L next) (hn : next ≤ 100) (d : Int) : ((inL L d).map (faceS enc)).Nodup := by
  unfold List.Nodup
  rw [List.pairwise_map]
  refine (inL_uniq h.uniq d).imp_of_mem fun {a b} ha hb hne hf => ?_
  exact hne (by rw [inL_faces e0 e8 h hn ha hb hf])
theorem rs0_empty (enc : Int) : (rs0 enc ByteArray.empty).1 = ByteArray.empty := by
  rw [(RsAt.start enc ByteArray.empty).fin (.inr (Nat.le_refl 0)), flB_nil]
  rfl
theorem pres_47 {enc : Int} {s : ByteArray} (h0 : 0 ≤ enc) (h8 : enc ≤ 8) : ∀ c ∈ presC enc s, c ≠ 47 := by
  have key : ∀ (J : List Int → List Int) (hid : Part → Bool) (mk : Bool), (∀ p, hid p = false → hidB p = false) → (∀ o, (∀ r ∈ o, r ≠ 47) → ∀ r ∈ J o, r ≠ 47) →
      ∀ (ps : List Part) (o : List Int), (∀ r ∈ o, r ≠ 47) → ∀ c ∈ prL J hid mk ps o, c ≠ 47 := by
    intro J hid mk hh hJ ps
    induction ps with
    | nil => intro o ho c hc; exact hJ o ho c hc
    | cons p ps ih =>
      intro o ho c hc
      rw [prL] at hc
      split at hc
      · rcases List.mem_append.1 hc with hc | hc
        · exact hJ o ho c hc
        · rcases List.mem_append.1 hc with hc | hc
          · unfold esc at hc
            rw [List.mem_flatMap] at hc
            obtain ⟨d, hd, hc⟩ := hc
            simp only [bl, List.mem_map] at hd
            obtain ⟨y, _, rfl⟩ := hd
            have := y.toNat_lt
            have g1 := hexI_byte (d := (y.toNat : Int) / 16) (by omega)
            have g2 := hexI_byte (d := (y.toNat : Int) % 16) (by omega)
            simp only [escI, List.mem_cons, List.not_mem_nil, or_false] at hc
            rcases hc with e | e | e <;> omega
          · exact ih [] (fun r hr => by simp at hr) c hc
      · rename_i hcond
        simp only [Bool.or_eq_true, not_or, Bool.not_eq_true] at hcond
        refine ih (o ++ [p.1]) (fun r hr => ?_) c hc
        rcases List.mem_append.1 hr with hr | hr
        · exact ho r hr
        · rw [List.mem_singleton] at hr
          rw [hr]
          have := hh p hcond.1
          unfold hidB at this
          simp only [Bool.or_eq_false_iff] at this
          exact res_47 this.1.2
  have hid' : ∀ o : List Int, (∀ r ∈ o, r ≠ 47) → ∀ r ∈ id o, r ≠ 47 := fun o h => h
  have htog : ∀ o : List Int, (∀ r ∈ o, r ≠ 47) → ∀ r ∈ tog o, r ≠ 47 := fun o h => tog_mem (p := fun x => x ≠ 47) (fun c r x hx => pair_47 hx) h
  unfold presC presL
  split
  · exact key id hidB false (fun p h => h) hid' _ [] (fun r hr => by simp at hr)
  split
  · exact key tog hidB true (fun p h => h) htog _ [] (fun r hr => by simp at hr)
  · exact key id strB false (fun p h => (str_facts h).1) hid' _ [] (fun r hr => by simp at hr)
theorem pres_path {enc : Int} (h0 : 0 ≤ enc) (h8 : enc ≤ 8) {raw : ByteArray} (hg : GoodN raw) (hs : (presS enc raw).size ≤ 255) : PathN (presS enc raw) := by
  have hrs := rs0_pres (raw := raw) h0 h8
  obtain ⟨n, hn⟩ := Int.eq_ofNat_of_zero_le h0
  have hd := dots_rs
  simp only [Bool.and_eq_true, List.all_eq_true, beq_iff_eq] at hd
  refine ⟨?_, by omega, joinS_47 (pres_chars h0 h8 (pcs_chain h0 h8)) (pres_47 h0 h8), fun e => ?_, fun e => ?_⟩
  · rcases Nat.eq_zero_or_pos (presS enc raw).size with q | q
    · exfalso
      have e : presS enc raw = ByteArray.empty := by
        have : (presS enc raw).data.toList = [] := List.eq_nil_of_length_eq_zero (by rw [Array.length_toList]; exact q)
        exact bytes_inj.1 (by rw [ByteArray.toList_eq, ByteArray.toList_eq, this]; rfl)
      have e2 := rs0_empty enc
      rw [← e, hrs] at e2
      have e2 : raw = ByteArray.empty := e2.trans e
      have := hg.1
      rw [e2] at this
      exact absurd this (by decide)
    · exact q
  · have := hd.1 n (List.mem_range.2 (by omega))
    rw [e] at hrs
    rw [show ((n : Nat) : Int) = enc from hn.symm, hrs] at this
    exact hg.2.2.2.1 (toList_inj.1 this)
  · have := hd.2 n (List.mem_range.2 (by omega))
    rw [e] at hrs
    rw [show ((n : Nat) : Int) = enc from hn.symm, hrs] at this
    exact hg.2.2.2.2 (toList_inj.1 this)
theorem name_path {h n : Int} (hn : 1 ≤ n ∧ n ≤ 99) : PathN (nameS h n) := by
  rw [nameS_eq hn]
  have hl := nameL_len (h := h) (n := n)
  have hs : (strOfNums (nameL h n)).size = (nameL h n).length := strOfNums_size _
  refine ⟨by omega, by omega, fun b hb => ?_, fun e => ?_, fun e => ?_⟩
  · have : ∃ x ∈ nameL h n, b = UInt8.ofNat x.toNat := by simpa [strOfNums, eq_comm] using hb
    obtain ⟨x, hx, rfl⟩ := this
    have := nameL_byte (h := h) (n := n) (by omega) x hx
    rw [UInt8.toNat_ofNat']
    omega
  · rw [e] at hs
    have : dotS.size = 1 := by decide
    omega
  · rw [e] at hs
    have : dotsS.size = 2 := by decide
    omega
theorem face_path {enc : Int} (e0 : 0 ≤ enc) (e8 : enc ≤ 8) {L : List Item} {next : Int} (h : LI enc L next) (hn : next ≤ 100) {x : Item} (hx : x ∈ L) : PathN (faceS enc x.e) ∧ (faceS enc x.e).size ≤ 255 := by
  have sx := h.short x hx
  unfold faceS
  by_cases zx : x.e.short = 0
  · rw [if_pos zx]
    have := (h.fits x hx).1 zx
    exact ⟨pres_path e0 e8 (h.good x hx) this, this⟩
  · rw [if_neg zx]
    refine ⟨name_path (by omega), ?_⟩
    rw [nameS_eq (by omega), strOfNums_size]
    have := nameL_len (h := hashI x.e.name) (n := x.e.short)
    omega
end Go.Proofs.YtpmlggjhfiljmaaGreatDoor
