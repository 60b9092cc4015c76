/- Part 33 of what the law rests on. -/
import Derived.Test.YtpmlggjhfiljmaaGreatDoorL25
import Derived.Test.YtpmlggjhfiljmaaGreatDoorL26
import Derived.Test.YtpmlggjhfiljmaaGreatDoorL29
import Derived.Test.YtpmlggjhfiljmaaGreatDoorL32
set_option linter.all false
namespace Go.Proofs.YtpmlggjhfiljmaaGreatDoor
open Go.RowKit
attribute [local go_sem ↓] Go.wp_at_zero Go.wp_at_succ
def unlinkE (T : TreS) (d : Int) (name : ByteArray) (isDir : Bool) : Int := match findT T d name with
  | none => findR T d name
  | some x => if isDir = true ∧ x.dir = false then 8 else if isDir = false ∧ x.dir = true then 7 else if (T.dirs x.node).getD [] ≠ [] then 9 else 0
def UnlinkPost (A : Nat → Prop) (t : Nat) (T : TreS) (q : Nat) (d : Int) (name : ByteArray) (isDir : Bool) (w : World) (e : Ending) (w' : World) : Prop :=
  (unlinkE T d name isDir ≠ 0 ∧ e = .returned (.int .i64 (unlinkE T d name isDir)) ∧ Fresh w w') ∨
  (unlinkE T d name isDir = 0 ∧ ∃ x l k bk2 A', findT T d name = some x ∧ T.dirs d = some l ∧ fidx (nameB name) l = (k : Nat) ∧ GiveR T.fr T.bk x.node bk2 ∧ e = .returned (.int .i64 0) ∧ TreeAt w' A' t (unlinkT T d k x.node bk2) (q + 2) ∧ Mut A w w' ∧ Gr A w w' A')
theorem findT_at {T : TreS} {d : Int} {name : ByteArray} {x : Ent} (h : findT T d name = some x) : ∃ l k, T.dirs d = some l ∧ fidx (nameB name) l = ((k : Nat) : Int) ∧ ∃ hk : k < l.length, l[k] = x := by
  unfold findT at h
  cases hl : T.dirs d with
  | none => rw [hl] at h; cases h
  | some l =>
    rw [hl] at h
    have h : l.find? (nameB name) = some x := h
    have hf := fidx_find (pr := nameB name) (l := l)
    rcases Int.lt_or_le (fidx (nameB name) l) 0 with q | q
    · rw [hf.1 q] at h; cases h
    · obtain ⟨k, hk⟩ := Int.eq_ofNat_of_zero_le q
      obtain ⟨hk2, e⟩ := hf.2 k hk
      rw [e] at h
      injection h with h
      exact ⟨l, k, rfl, hk, hk2, h⟩
theorem findR_none {T : TreS} {d : Int} {name : ByteArray} (h : findT T d name = none) : findR T d name ≠ 0 := by
  unfold findT at h
  unfold findR
  cases hl : T.dirs d with
  | none => simp only; split <;> omega
  | some l =>
    rw [hl] at h
    have h : l.find? (nameB name) = none := h
    simp [h]
theorem findR_some {T : TreS} {d : Int} {name : ByteArray} {x : Ent} (h : findT T d name = some x) : findR T d name = 0 := by
  unfold findT at h
  unfold findR
  cases hl : T.dirs d with
  | none => rw [hl] at h; cases h
  | some l =>
    rw [hl] at h
    have h : l.find? (nameB name) = some x := h
    simp [h]
set_option maxRecDepth 100000 in
set_option maxHeartbeats 3200000 in
theorem tunlink_err (w : World) (A : Nat → Prop) (t : Nat) (T : TreS) (q : Nat) (h : TreeAt w A t T q) (d : Int) (hd : I64 d) (name : ByteArray) (isDir : Bool) (hl : ∀ i l, T.dirs i = some l → l.length ≤ 10000) (hE : unlinkE T d name isDir ≠ 0) (hx : ∀ x, findT T d name = some x → I64 x.node) :
    Calls Tryz.prog 273 #[.pointer (some ⟨t, 0, none⟩), .int .i64 d, .string name, .bool isDir] w (UnlinkPost A t T q d name isDir w) := by
  have HF := Lib.hid (tfind_any w A t T q h d hd name hl)
  have HE := Lib.hid hE
  unfold TFindPost at HF
  cases hf : findT T d name with
  | none =>
    have hr0 := findR_none hf
    have HR : Hid (unlinkE T d name isDir = findR T d name) := Lib.hid (by unfold unlinkE; rw [hf])
    rw [hf] at HF
    obtain ⟨r, hr⟩ : ∃ r, findR T d name = r := ⟨_, rfl⟩
    rw [hr] at HF HR hr0
    have hrb : (r != 0) = true := by simp [hr0]
    unfold ent0 at HF
    simp only [Option.getD_none] at HF
    clear hr hf h hE hr0 hx hl
    go_enter Tryz.func273, Tryz.ntmps273
    go_wp2_with fail
    refine HF.out.mono ?_
    rintro e w1 ⟨rfl, hf1⟩
    have HF1 := Lib.hid hf1
    clear hf1
    go_wp2
    go_ret
    exact .inl ⟨HE.out, by rw [HR.out]; rfl, HF1.out.alloc _⟩
  | some x =>
    have hxn := hx x hf
    have hr0 := findR_some hf
    rw [hf, hr0] at HF
    have HU : Hid (unlinkE T d name isDir = if isDir = true ∧ x.dir = false then 8 else if isDir = false ∧ x.dir = true then 7 else if (T.dirs x.node).getD [] ≠ [] then 9 else 0) := Lib.hid (by unfold unlinkE; rw [hf])
    obtain ⟨nm, nd, dr, ck, sh⟩ := x
    simp only [Option.getD_some] at HF HU hxn
    have HH := Lib.hid h
    obtain ⟨gd, gf, pp, Md, Mf, Ap, hApl, h1, h2, h3, h4, h5, h6, h7, h8, h9, h10, h12, h11⟩ := h.open
    obtain ⟨a, c, HL⟩ : ∃ a c, Hid (∀ W, Fresh w W → W.cell? ⟨t, 0, none⟩ = some (.map (some gd)) ∧ ∀ nq, (Instr.lookup 155 (.map (some gd)) (.int .i64 nd) false).run Tryz.prog (W.drewN nq) = .ok (.slice a ((T.dirs nd).getD []).length c) (W.drewN nq)) := by
      cases hdn : T.dirs nd with
      | none => exact ⟨none, 0, Lib.hid (fun W hW => ⟨(h1.keep hW).cell 0, fun nq => ((h6.fresh hW).drewN nq).look Tryz.underlying155 zeroL hxn (by rw [h10 nd hdn]; rfl)⟩)⟩
      | some l =>
        obtain ⟨v, hv, ho⟩ := h9 nd l hdn
        obtain ⟨a, c, rfl⟩ := ho.shape
        exact ⟨a, c, Lib.hid (fun W hW => ⟨(h1.keep hW).cell 0, fun nq => ((h6.fresh hW).drewN nq).look Tryz.underlying155 zeroL hxn (by rw [hv]; rfl)⟩)⟩
    clear h1 h2 h3 h4 h5 h6 h7 h8 h9 h10 h12 h11 hApl h hf hr0 hx hl
    cases isDir
    all_goals cases dr
    case false.true =>
      have HU7 : Hid (unlinkE T d name false = 7) := Lib.hid (by rw [HU.out]; simp)
      clear hE
      go_enter Tryz.func273, Tryz.ntmps273
      go_wp2_with fail
      refine HF.out.mono ?_
      rintro e w1 ⟨rfl, hf1⟩
      have HF1 := Lib.hid hf1
      clear hf1
      go_wp2
      go_ret
      exact .inl ⟨HE.out, by rw [HU7.out]; rfl, HF1.out.alloc _⟩
    case true.false =>
      have HU8 : Hid (unlinkE T d name true = 8) := Lib.hid (by rw [HU.out]; simp)
      clear hE
      go_enter Tryz.func273, Tryz.ntmps273
      go_wp2_with fail
      refine HF.out.mono ?_
      rintro e w1 ⟨rfl, hf1⟩
      have HF1 := Lib.hid hf1
      clear hf1
      go_wp2
      go_ret
      exact .inl ⟨HE.out, by rw [HU8.out]; rfl, HF1.out.alloc _⟩
    all_goals
      have hne : (T.dirs nd).getD [] ≠ [] := fun e => hE (by rw [HU.out]; simp [e])
      have HU9 := Lib.hid (HU.out.trans (by simp [hne]) : _ = (9 : Int))
      have hpos : (0 : Int) < (((T.dirs nd).getD []).length : Int) := by have := List.length_pos_iff.2 hne; omega
      obtain ⟨n, hn⟩ : ∃ n, ((T.dirs nd).getD []).length = n := ⟨_, rfl⟩
      rw [hn] at HL hpos
      clear hE hne hn
      go_enter Tryz.func273, Tryz.ntmps273
      go_wp2_with fail
      refine HF.out.mono ?_
      rintro e w1 ⟨rfl, hf1⟩
      have HF1 := Lib.hid hf1
      have c0 := fun o => (HL.out (w1.alloc o) (hf1.alloc o)).1
      have hlk := fun o => (HL.out (w1.alloc o) (hf1.alloc o)).2
      clear hf1
      go_wp2_with fail
      go_quiet (fail)
      all_goals
        go_wp2
        go_ret
        exact .inl ⟨HE.out, by rw [HU9.out]; rfl, (HF1.out.alloc _).drewN _⟩
theorem TreeAt.lim {A : Nat → Prop} {w : World} {t : Nat} {T : TreS} {q : Nat} (h : TreeAt w A t T q) (B : Nat) (hB : w.heap.size ≤ B) : TreeAt w (fun k => A k ∧ k < B) t T q := h.mono fun k hk hA => ⟨hA, by omega⟩
set_option maxRecDepth 100000 in
set_option maxHeartbeats 6400000 in
theorem tunlink_ok (w : World) (A : Nat → Prop) (t : Nat) (T : TreS) (q : Nat) (h : TreeAt w A t T q) (d : Int) (hd : I64 d) (name : ByteArray) (isDir : Bool) (hl : ∀ i l, T.dirs i = some l → l.length ≤ 10000) (hE : unlinkE T d name isDir = 0) (hx : ∀ x, findT T d name = some x → I64 x.node ∧ T.out x.node = true) (hq : q ≤ 100000) (hbl : T.bk.length + 1 ≤ 100000) (hhp : Hp T.bk) :
    Calls Tryz.prog 273 #[.pointer (some ⟨t, 0, none⟩), .int .i64 d, .string name, .bool isDir] w (UnlinkPost A t T q d name isDir w) := by
  have HF := Lib.hid (tfind_any w A t T q h d hd name hl)
  have HE := Lib.hid hE
  unfold TFindPost at HF
  cases hf : findT T d name with
  | none =>
    exact absurd (by unfold unlinkE at hE; rw [hf] at hE; exact hE) (findR_none hf)
  | some x =>
    have hxn := hx x hf
    have hr0 := findR_some hf
    obtain ⟨l, k, hdl, hfi, hkl, hlk⟩ := findT_at hf
    have hE2 := hE
    unfold unlinkE at hE2
    rw [hf] at hE2
    simp only at hE2
    have h1 : ¬ (isDir = true ∧ x.dir = false) := fun e => by rw [if_pos e] at hE2; omega
    rw [if_neg h1] at hE2
    have h2 : ¬ (isDir = false ∧ x.dir = true) := fun e => by rw [if_pos e] at hE2; omega
    rw [if_neg h2] at hE2
    have h3 : (T.dirs x.node).getD [] = [] := Decidable.byContradiction fun e => by rw [if_pos e] at hE2; omega
    rw [hf, hr0] at HF
    have HFT := Lib.hid hf
    obtain ⟨nm, nd, dr, ck, sh⟩ := x
    simp only [Option.getD_some] at HF hxn h1 h2 h3
    obtain rfl : isDir = dr := by cases isDir <;> cases dr <;> simp at h1 h2 ⊢
    have HDL := Lib.hid (And.intro hdl (And.intro hfi hxn))
    have hAl := h.lim w.heap.size (Nat.le_refl _)
    have HH := Lib.hid hAl
    obtain ⟨gd, gf, pp, Md, Mf, Ap, hApl, g1, g2, g3, g4, g5, g6, g7, g8, g9, g10, g12, g11⟩ := hAl.open
    obtain ⟨a, c, HL⟩ : ∃ a c, Hid (∀ W, Fresh w W → W.cell? ⟨t, 0, none⟩ = some (.map (some gd)) ∧ ∀ nq, (Instr.lookup 155 (.map (some gd)) (.int .i64 nd) false).run Tryz.prog (W.drewN nq) = .ok (.slice a 0 c) (W.drewN nq)) := by
      cases hdn : T.dirs nd with
      | none => exact ⟨none, 0, Lib.hid (fun W hW => ⟨(g1.keep hW).cell 0, fun nq => ((g6.fresh hW).drewN nq).look Tryz.underlying155 zeroL hxn.1 (by rw [g10 nd hdn]; rfl)⟩)⟩
      | some l2 =>
        obtain ⟨v, hv, ho⟩ := g9 nd l2 hdn
        rw [hdn] at h3
        have h3 : l2 = [] := h3
        subst h3
        obtain ⟨a, c, rfl⟩ := ho.shape
        exact ⟨a, c, Lib.hid (fun W hW => ⟨(g1.keep hW).cell 0, fun nq => ((g6.fresh hW).drewN nq).look Tryz.underlying155 zeroL hxn.1 (by rw [hv]; rfl)⟩)⟩
    have hll := hl d l hdl
    have HDR := Lib.hid (fun W (hW : Fresh w W) => tdrop_any W _ t T q (HH.out.fresh hW) d hd name k l hdl (by omega) hfi (by omega))
    have hxI := hxn.1
    clear g1 g2 g3 g4 g5 g6 g7 g8 g9 g10 g12 g11 hApl h hAl hf hr0 hl hE hE2 h1 h2 h3 hdl hfi hxn hx hkl hlk hll
    go_enter Tryz.func273, Tryz.ntmps273
    go_wp2_with fail
    refine HF.out.mono ?_
    rintro e w1 ⟨rfl, hf1⟩
    obtain ⟨W2, hW2⟩ : ∃ W2, w1.alloc (.cells #[.string nm, .int .i64 nd, .bool isDir, .int .i64 ck, .int .i64 sh] 88) = W2 := ⟨_, rfl⟩
    have f2 : Fresh w W2 := by rw [← hW2]; exact hf1.alloc _
    have bx : Blk W2 w1.heap.size 88 #[.string nm, .int .i64 nd, .bool isDir, .int .i64 ck, .int .i64 sh] := by rw [← hW2]; exact Blk.new _ _ _
    have hwx : w.heap.size ≤ w1.heap.size := hf1.size
    obtain ⟨c0, hlk⟩ := HL.out W2 f2
    have x1 : W2.cell? ⟨w1.heap.size, 1, none⟩ = some (.int .i64 nd) := bx.cell 1
    have x2 : W2.cell? ⟨w1.heap.size, 2, none⟩ = some (.bool isDir) := bx.cell 2
    have H2 := Lib.hid (And.intro f2 bx)
    clear hf1 f2 bx
    cases isDir
    all_goals
      go_wp2_with fail
      try rw [hW2]
      clear hW2
      go_quiet (fail)
      all_goals
        go_wp2_with fail
        refine (HDR.out _ (H2.out.1.drewN _)).mono ?_
        rintro e w3 ⟨A3, rfl, t3, u3, gr3⟩
        have hs2 : (W2.drewN nq).heap.size = W2.heap.size := rfl
        have hxl : w1.heap.size < W2.heap.size := H2.out.2.lt
        have nx : ¬ A3 w1.heap.size := fun h => by
          rcases gr3 _ h with q | q
          · have := q.2; omega
          · omega
        have b3 : Blk w3 w1.heap.size 88 _ := (show Blk (W2.drewN nq) w1.heap.size _ _ from H2.out.2).mut u3 (fun h => by have := h.2; omega)
        obtain ⟨gd, gf, pp, Md, Mf, Ap, hApl, g1, g2, g3, g4, g5, g6, g7, g8, g9, g10, g12, g11⟩ := t3.open
        have htd : t ≠ gd := g1.neMap g6
        have htf : t ≠ gf := g1.neMap g7
        have nxd : w1.heap.size ≠ gd := fun e => nx (e ▸ g3.1)
        have nxf : w1.heap.size ≠ gf := fun e => nx (e ▸ g4.1)
        have d0 : w3.cell? ⟨t, 0, none⟩ = some (.map (some gd)) := g1.cell 0
        have y1 : w3.cell? ⟨w1.heap.size, 1, none⟩ = some (.int .i64 nd) := b3.cell 1
        have H3 := Lib.hid (And.intro b3 (And.intro g1 (And.intro g6 (And.intro g7 g11))))
        have HM3 := Lib.hid (And.intro u3 gr3)
        have HFIN := Lib.hid (fun (w4 w5 w6 : World) (Ap' : Nat → Prop) (bk : List Int) m4 u4 m5 u5 hm hg hp => unlink_fin (w3 := w3) (w4 := w4) (w5 := w5) (w6 := w6) (Ap' := Ap') (x := nd) (bk := bk) g1 g2 g3 g4 g5 g6 g7 g8 g9 g10 g12 m4 u4 m5 u5 hm hg hp)
        have HN := Lib.hid (And.intro htd (And.intro htf (And.intro nxd (And.intro nxf (And.intro g5 (And.intro (fun h => g3.2 h : ¬ Ap gd) (fun h => g4.2 h : ¬ Ap gf)))))))
        have hta := g1.lt
        have hxa := b3.lt
        have hApt : ¬ Ap t := g2.2
        have hApx : ¬ Ap w1.heap.size := fun h => nx (g12 _ h)
        clear b3 g1 g2 g3 g4 g5 g6 g7 g8 g9 g10 g12 g11 hApl t3 u3 gr3 nx htd htf nxd nxf hs2 hxl c0 hlk x1 x2
        go_wp2_with fail
        go_region_held3 (fun W => W.cell? ⟨t, 0, none⟩ = some (.map (some gd)) ∧ W.cell? ⟨w1.heap.size, 1, none⟩ = some (.int .i64 nd)) (first | go_keep | exact ⟨k0, k1⟩) ((refine step_del rfl (.tmp 53) (.tmp 55) 155 83 rfl Tryz.underlying155 gd (q + 1) Md (by simp [Act.eval, Act.put]) (show MapAt _ gd (q + 1) Md from H3.out.2.2.1) nd (by simp [Act.eval, Act.put]) hxI ?_; intro w4 m4 u4 z4; have k0 : w4.cell? ⟨t, 0, none⟩ = some (.map (some gd)) := (u4.cell (p := ⟨t, 0, none⟩) hta HN.out.1).trans d0; have k1 : w4.cell? ⟨w1.heap.size, 1, none⟩ = some (.int .i64 nd) := (u4.cell (p := ⟨w1.heap.size, 1, none⟩) hxa HN.out.2.2.1).trans y1))
        have v4 : Mut (fun j => j = gd) w3 w4 := ⟨u4.os, u4.tape, u4.output, u4.size, u4.block⟩
        have H4 := Lib.hid (And.intro m4 v4)
        have z34 := v4.size
        have t1 : w4.cell? ⟨t, 1, none⟩ = some (.map (some gf)) := ((show Blk w3 t _ _ from H3.out.2.1).mut v4 HN.out.1).cell 1
        have M5 := Lib.hid (MapAt.mut H3.out.2.2.2.1 v4 (fun e => HN.out.2.2.2.2.1 e.symm))
        have hta4 : t < w4.heap.size := by omega
        have hxa4 : w1.heap.size < w4.heap.size := by omega
        clear m4 u4 z4 d0 y1 k0 v4
        go_wp2_with fail
        go_region_held3 (fun W => W.cell? ⟨t, 1, none⟩ = some (.map (some gf)) ∧ W.cell? ⟨w1.heap.size, 1, none⟩ = some (.int .i64 nd)) (first | go_keep | exact ⟨k0, k2⟩) ((refine step_del rfl (.tmp 59) (.tmp 61) 156 3 rfl Tryz.underlying156 gf (q + 1) Mf (by simp [Act.eval, Act.put]) (show MapAt _ gf (q + 1) Mf from M5.out) nd (by simp [Act.eval, Act.put]) hxI ?_; intro w5 m5 u5 z5; have k0 : w5.cell? ⟨t, 1, none⟩ = some (.map (some gf)) := (u5.cell (p := ⟨t, 1, none⟩) hta4 HN.out.2.1).trans t1; have k2 : w5.cell? ⟨w1.heap.size, 1, none⟩ = some (.int .i64 nd) := (u5.cell (p := ⟨w1.heap.size, 1, none⟩) hxa4 HN.out.2.2.2.1).trans k1))
        have v5 : Mut (fun j => j = gf) w4 w5 := ⟨u5.os, u5.tape, u5.output, u5.size, u5.block⟩
        have H5 := Lib.hid (And.intro m5 v5)
        have z45 := v5.size
        have hta5 : t < w5.heap.size := by omega
        have hxa5 : w1.heap.size < w5.heap.size := by omega
        have b5 := (((show Blk w3 t _ _ from H3.out.2.1).mut H4.out.2 HN.out.1).mut v5 HN.out.2.1)
        have t2 : w5.cell? ⟨t, 2, none⟩ = some (.pointer (some ⟨pp, 0, none⟩)) := b5.cell 2
        have hp5 : PoolAt w5 Ap pp T.fr T.bk T.out (q + 1) := (H3.out.2.2.2.2.mut H4.out.2 (fun j hj e => HN.out.2.2.2.2.2.1 (e ▸ hj))).mut v5 (fun j hj e => HN.out.2.2.2.2.2.2 (e ▸ hj))
        have HGV := Lib.hid (fun W (hW : Fresh w5 W) => give_any W Ap pp T.fr T.bk T.out (q + 1) nd (hp5.mut (hW.mut fun _ => False) (fun _ _ q => q)) HDL.out.2.2.2 hxI hbl hhp)
        clear m5 u5 z5 t1 k0 k1 v5 b5 hp5 M5 hta4 hxa4
        go_wp2_with fail
        go_region_held3 (fun W => W.cell? ⟨t, 2, none⟩ = some (.pointer (some ⟨pp, 0, none⟩)) ∧ W.cell? ⟨w1.heap.size, 1, none⟩ = some (.int .i64 nd)) (first | go_keep | exact ⟨k0, k1⟩) (first
          | (go_at_call 345; refine (HGV.out _ (by repeat (first | exact Fresh.refl _ | refine Fresh.drew ?_))).mono ?_; rintro e w6 ⟨bk2, A6, rfl, hgv, hp6, u6, gr6⟩; have k0 : w6.cell? ⟨t, 2, none⟩ = some (.pointer (some ⟨pp, 0, none⟩)) := (u6.cell (p := ⟨t, 2, none⟩) hta5 hApt).trans t2; have k1 : w6.cell? ⟨w1.heap.size, 1, none⟩ = some (.int .i64 nd) := (u6.cell (p := ⟨w1.heap.size, 1, none⟩) hxa5 hApx).trans k2; have H6 := Lib.hid (And.intro hgv (And.intro hp6 (And.intro u6 gr6))); clear hgv hp6 u6 gr6))
        all_goals
          have HFI : Hid (UnlinkPost A t T q d name _ w (.returned (.int .i64 0)) w6) := Lib.hid (by
            obtain ⟨hgv, hp6, u6, gr6⟩ := H6.out
            have u6' : Mut Ap w5 w6 := ⟨u6.os, u6.tape, u6.output, u6.size, u6.block⟩
            have gr6' : Gr Ap w5 w6 A6 := gr6
            have hfin := HFIN.out w4 w5 w6 A6 bk2 H4.out.1 H4.out.2 H5.out.1 H5.out.2 u6' gr6' hp6
            have zf := H2.out.1.size
            have z23 := HM3.out.1.size
            have z56 := u6'.size
            have hu3 : Mut A w w3 := (H2.out.1.drewN nq).andMut (HM3.out.1.mono (T := A) (fun j _ h => h.1))
            have hin : ∀ j, A3 j → A j ∨ (w.heap.size ≤ j ∧ j < w3.heap.size) := fun j hj => by
              rcases HM3.out.2 j hj with h | h
              · exact .inl h.1
              · have h1 : W2.heap.size ≤ j := h.1
                exact .inr ⟨by omega, h.2⟩
            refine .inr ⟨HE.out, _, l, k, bk2, _, HFT.out, HDL.out.1, HDL.out.2.1, hgv, rfl, hfin.1, hu3.trans2 hfin.2 (fun _ h => h) (fun j hj h => ?_), fun j hj => ?_⟩
            · rcases hin j h with q | q
              · exact q
              · omega
            · rcases hj with h | h
              · rcases hin j h with q | q
                · exact .inl q
                · exact .inr ⟨q.1, by omega⟩
              · exact .inr ⟨by omega, h.2⟩)
          clear H6 k0 k1
          go_wp2
          go_ret
          exact HFI.out
theorem tunlink_any (w : World) (A : Nat → Prop) (t : Nat) (T : TreS) (q : Nat) (h : TreeAt w A t T q) (d : Int) (hd : I64 d) (name : ByteArray) (isDir : Bool) (hl : ∀ i l, T.dirs i = some l → l.length ≤ 10000) (hx : ∀ x, findT T d name = some x → I64 x.node ∧ T.out x.node = true) (hq : q ≤ 100000) (hbl : T.bk.length + 1 ≤ 100000) (hhp : Hp T.bk) :
    Calls Tryz.prog 273 #[.pointer (some ⟨t, 0, none⟩), .int .i64 d, .string name, .bool isDir] w (UnlinkPost A t T q d name isDir w) := by
  by_cases hE : unlinkE T d name isDir = 0
  · exact tunlink_ok w A t T q h d hd name isDir hl hE hx hq hbl hhp
  · exact tunlink_err w A t T q h d hd name isDir hl hE (fun x hf => (hx x hf).1)
end Go.Proofs.YtpmlggjhfiljmaaGreatDoor
namespace Go.Proofs.YtpmlggjhfiljmaaGreatDoor
open Go.RowKit
abbrev unlinkV (dir : Int) (name : ByteArray) (isDir : Bool) : Value := .agg #[.int .i64 2, .int .i64 dir, .int .i64 0, .string name, .string ⟨#[]⟩, .bool isDir, .int .i64 0]
set_option maxRecDepth 100000 in
set_option maxHeartbeats 1600000 in
theorem formedU_any (dir : Int) (name : ByteArray) (isDir : Bool) (hd : 0 ≤ dir ∧ dir ≤ 65535) (hn : name.size ≤ 255) (w : World) : Calls Tryz.prog 271 #[unlinkV dir name isDir] w fun e w' => e = .returned (.bool true) ∧ Fresh w w' := by
  have e0 : (ByteArray.mk #[]).toList.isEmpty = true := by decide +kernel
  have e1 : (ByteArray.mk #[]).size = 0 := rfl
  obtain ⟨hd0, hd1⟩ := hd
  have h1 : (name.size : Int) ≤ 255 := by omega
  clear hn
  go_enter Tryz.func271, Tryz.ntmps271
  go_wp2
  go_ret
  exact ⟨rfl, (Fresh.refl w).alloc _⟩
theorem u8_new2 (W : World) : U8At (W.alloc (.cells #[.int .u8 (IntKind.u8.wrap 2)] 5)).drew (fun g => W.heap.size ≤ g) (.slice (some ⟨W.heap.size, 0, none⟩) 1 1) 1 := by
  refine ⟨[2], rfl, by simp, ⟨rfl, .inr ⟨_, 1, #[.int .u8 2], rfl, Nat.zero_le _, ?_, Nat.le_refl _, by unfold maxLen; omega, rfl, rfl⟩⟩, fun g hg => by have h2 := hg; simp [Value.ownBlock] at h2; omega⟩
  exact heap_alloc_new _ _
set_option maxRecDepth 100000 in
set_option maxHeartbeats 3200000 in
theorem bytesU_any (dir : Int) (name : ByteArray) (isDir : Bool) (hd : 0 ≤ dir ∧ dir ≤ 65535) (hn : name.size ≤ 255) (w : World) : Calls Tryz.prog 275 #[unlinkV dir name isDir] w (StrIs (name.size + 5) w) := by
  obtain ⟨W5, hW5⟩ : ∃ W5, (w.alloc (.cells #[.int .i64 2, .int .i64 dir, .int .i64 0, .string name, .string ⟨#[]⟩, .bool isDir, .int .i64 0] 142)) = W5 := ⟨_, rfl⟩
  have hs5 : W5.heap.size = w.heap.size + 1 := by rw [← hW5]; simp
  have X5 : Blk W5 w.heap.size 142 #[.int .i64 2, .int .i64 dir, .int .i64 0, .string name, .string ⟨#[]⟩, .bool isDir, .int .i64 0] := by rw [← hW5]; exact Blk.new _ _ _
  have HS5 := Lib.hid hs5
  have hf5 : Fresh w W5 := by rw [← hW5]; exact (Fresh.refl w).alloc _
  have HNU := Lib.hid (fun a0 c0 k0 n hn k hk hk0 W hB h => dnumber_b W5.heap.size a0 c0 k0 n hn k hk hk0 W hB h)
  have HNA := Lib.hid (fun a0 c0 k0 s hs hk0 W hB h => dname_any W5.heap.size a0 c0 k0 s hs hk0 W hB h)
  have HSP : Hid (∀ W, Fresh W5 W → W.cell? ⟨w.heap.size, 0, none⟩ = some (.int .i64 2) ∧ W.cell? ⟨w.heap.size, 1, none⟩ = some (.int .i64 dir) ∧ W.cell? ⟨w.heap.size, 3, none⟩ = some (.string name) ∧ W.cell? ⟨w.heap.size, 5, none⟩ = some (.bool isDir) ∧ W.cell? ⟨w.heap.size, 6, none⟩ = some (.int .i64 0) ∧ Fresh W5 W) := Lib.hid (fun W hW => by
    have b := X5.keep hW
    exact ⟨by rw [b.cell]; rfl, by rw [b.cell]; rfl, by rw [b.cell]; rfl, by rw [b.cell]; rfl, by rw [b.cell]; rfl, hW⟩)
  have h0 := HSP.out W5 (Fresh.refl _)
  have HFR := Lib.hid hf5
  clear hs5 hf5
  go_enter Tryz.func275, Tryz.ntmps275
  go_wp2_with fail
  try rw [hW5]
  clear hW5 X5
  go_region_held3 (fun W => W.cell? ⟨w.heap.size, 0, none⟩ = some (.int .i64 2) ∧ W.cell? ⟨w.heap.size, 1, none⟩ = some (.int .i64 dir) ∧ W.cell? ⟨w.heap.size, 3, none⟩ = some (.string name) ∧ W.cell? ⟨w.heap.size, 5, none⟩ = some (.bool isDir) ∧ W.cell? ⟨w.heap.size, 6, none⟩ = some (.int .i64 0) ∧ Fresh W5 W) (exact HSP.out _ (by repeat (first | assumption | exact Fresh.refl _ | refine Fresh.alloc ?_ _ | refine Fresh.drew ?_))) (first
    | (go_at_call 348; refine (HNU.out _ _ 1 dir (by omega) 2 (by omega) (by omega) _ (by show W5.heap.size ≤ (W5.alloc _).heap.size; simp) (u8_new2 W5)).mono ?_; rintro e wA ⟨aA, cA, rfl, hoA, hbA⟩; have hfA : Fresh W5 wA := (((Fresh.refl W5).alloc _).drew).trans3 hbA)
    | (go_at_call 347; refine (HNA.out _ _ 3 name (by omega) (by omega) _ hfA.size hoA).mono ?_; rintro e wB ⟨aB, cB, rfl, hoB, hbB⟩; have hfB : Fresh W5 wB := hfA.trans3 hbB))
  all_goals
    obtain ⟨s0, s1, s3, s5, s6, _⟩ := HSP.out wB hfB
    obtain ⟨i0, hi0, hz0, hz1, hz2⟩ := info_partsG infoU8
    obtain ⟨l, hl1, hl2, ho⟩ := hoB
    have HL := Lib.hid (And.intro hl1 hl2)
    clear hoA hbA hfA hbB hl1 hl2 h0
    cases isDir
    all_goals
      go_wp2_with (at_builtin; refine wpList_append_ownA _ rfl _ _ 131 rfl (fun g => W5.heap.size ≤ g) 5 i0 _ 1 1 Tryz.underlying131 hi0 hz0 hz1 hz2 rfl (by decide) _ _ _ rfl (ho.fresh ((Fresh.refl _).alloc _)) ⟨wB.heap.size, 0, none⟩ 1 1 [_] rfl rfl (newCells _ _ _) (by intro u hu; simp at hu; subst hu; rfl) (by omega) (by decide) ?_; intro aC cC wC ownC growC; have hfC : Fresh W5 wC := ((hfB.alloc _).mut2 growC (fun j e => by have := ho.2 j e; omega)); obtain ⟨p0, p1, p3, p5, p6, _⟩ := HSP.out wC hfC; obtain ⟨st, hst1, hst2⟩ := conv_u8 (u8_push (ownC.mono (A' := fun g => W5.heap.size ≤ g) (fun g _ hg => hg.elim id (fun q => by have q1 := q.1; have z := hfB.size; simp at q1; omega))) (by omega) (by have hq := HL.out; omega) HL.out.2) (by omega))
      have HST := Lib.hid hst1
      have HFD := Lib.hid (HFR.out.trans hfC)
      clear hst1
      go_ret
      exact ⟨st, rfl, by have := HST.out; omega, HFD.out⟩
set_option maxRecDepth 100000 in
set_option maxHeartbeats 1600000 in
theorem dencodeU_any (dir : Int) (name : ByteArray) (isDir : Bool) (hd : 0 ≤ dir ∧ dir ≤ 65535) (hn : name.size ≤ 255) (w : World) : Calls Tryz.prog 185 #[unlinkV dir name isDir] w (EncD (name.size + 5) w) := by
  have HFO := Lib.hid (fun W => formedU_any dir name isDir hd hn W)
  have HBY := Lib.hid (fun W => bytesU_any dir name isDir hd hn W)
  have X := Blk.new w 142 #[.int .i64 2, .int .i64 dir, .int .i64 0, .string name, .string ⟨#[]⟩, .bool isDir, .int .i64 0]
  have HX := Lib.hid X
  clear X hd hn
  go_enter Tryz.func185, Tryz.ntmps185
  go_wp2_with fail
  refine (HFO.out _).mono ?_
  rintro e w1 ⟨rfl, hf1⟩
  have b1 := HX.out.keep hf1
  have c0 : w1.cell? ⟨w.heap.size, 0, none⟩ = some (.int .i64 2) := by rw [b1.cell]; rfl
  have c1 : w1.cell? ⟨w.heap.size, 1, none⟩ = some (.int .i64 dir) := by rw [b1.cell]; rfl
  have c2 : w1.cell? ⟨w.heap.size, 2, none⟩ = some (.int .i64 0) := by rw [b1.cell]; rfl
  have c3 : w1.cell? ⟨w.heap.size, 3, none⟩ = some (.string name) := by rw [b1.cell]; rfl
  have c4 : w1.cell? ⟨w.heap.size, 4, none⟩ = some (.string ⟨#[]⟩) := by rw [b1.cell]; rfl
  have c5 : w1.cell? ⟨w.heap.size, 5, none⟩ = some (.bool isDir) := by rw [b1.cell]; rfl
  have c6 : w1.cell? ⟨w.heap.size, 6, none⟩ = some (.int .i64 0) := by rw [b1.cell]; rfl
  have HF1 : Hid (Fresh w w1) := Lib.hid (((Fresh.refl w).alloc _).trans hf1)
  clear b1 hf1
  go_wp2_with fail
  refine (HBY.out _).mono ?_
  rintro e w2 ⟨s, rfl, hs2, hf2⟩
  have HS2 := Lib.hid hs2
  clear hs2
  go_wp2
  go_ret2
  exact ⟨s, rfl, HS2.out, HF1.out.trans hf2⟩
def UnErr (T : TreS) (d : Int) (name : ByteArray) (isDir : Bool) (r : Int) : Prop := unlinkE T d name isDir ≠ 0 ∧ r = unlinkE T d name isDir
def UnOk (T : TreS) (qt : Nat) (d : Int) (name : ByteArray) (isDir : Bool) (a : Int) (T2 : TreS) (qt2 : Nat) : Prop :=
  unlinkE T d name isDir = 0 ∧ a = 0 ∧ qt2 = qt + 2 ∧ ∃ x l k bk2, findT T d name = some x ∧ T.dirs d = some l ∧ fidx (nameB name) l = (k : Nat) ∧ GiveR T.fr T.bk x.node bk2 ∧ T2 = unlinkT T d k x.node bk2
theorem enters_unlink : ∀ (args : Array Value) (W : World), Sem.run Tryz.prog (callFunc 273 args) W = .ok (.enter 273 args) W := by intro args w; go_simp
set_option maxRecDepth 100000 in
set_option maxHeartbeats 1600000 in
theorem ddoU_any (w : World) (A : Nat → Prop) (t : Nat) (T : TreS) (q : Nat) (h : TreeAt w A t T q) (dir : Int) (name : ByteArray) (isDir : Bool) (hd : 0 ≤ dir ∧ dir ≤ 65535) (hn : name.size ≤ 255) (hl : ∀ i l, T.dirs i = some l → l.length ≤ 10000) (hx : ∀ x, findT T dir name = some x → I64 x.node ∧ T.out x.node = true) (hq : q ≤ 100000) (hbl : T.bk.length + 1 ≤ 100000) (hhp : Hp T.bk) :
    Calls Tryz.prog 184 #[.pointer (some ⟨t, 0, none⟩), unlinkV dir name isDir] w (DoG (UnErr T dir name isDir) (UnOk T q dir name isDir) A t w) := by
  have HFO := Lib.hid (fun W => formedU_any dir name isDir hd hn W)
  have HLK := Lib.hid (fun W (hW : Fresh w W) => tunlink_any W A t T q (h.fresh hW) dir (by unfold I64; omega) name isDir hl hx hq hbl hhp)
  have HX := Lib.hid (Blk.new w 142 #[.int .i64 2, .int .i64 dir, .int .i64 0, .string name, .string ⟨#[]⟩, .bool isDir, .int .i64 0])
  have hen := enters_unlink
  clear h hd hn hl hx hhp
  go_enter Tryz.func184, Tryz.ntmps184
  go_wp2_with fail
  refine (HFO.out _).mono ?_
  rintro e w1 ⟨rfl, hf1⟩
  have b1 := HX.out.keep hf1
  have c0 : w1.cell? ⟨w.heap.size, 0, none⟩ = some (.int .i64 2) := by rw [b1.cell]; rfl
  have c1 : w1.cell? ⟨w.heap.size, 1, none⟩ = some (.int .i64 dir) := by rw [b1.cell]; rfl
  have c3 : w1.cell? ⟨w.heap.size, 3, none⟩ = some (.string name) := by rw [b1.cell]; rfl
  have c5 : w1.cell? ⟨w.heap.size, 5, none⟩ = some (.bool isDir) := by rw [b1.cell]; rfl
  have HF1 : Hid (Fresh w w1) := Lib.hid (((Fresh.refl w).alloc _).trans hf1)
  clear b1 hf1
  go_wp2_with fail
  refine (HLK.out _ HF1.out).mono ?_
  rintro e w2 (⟨he, rfl, hf⟩ | ⟨he, x, l, k, bk2, A', h1, h2, h3, h4, rfl, ht, hm, hg⟩)
  · obtain ⟨r, hr⟩ : ∃ r, unlinkE T dir name isDir = r := ⟨_, rfl⟩
    have HP : Hid (DoG (UnErr T dir name isDir) (UnOk T q dir name isDir) A t w (.returned (.tuple #[.int .i64 0, .int .i64 r])) w2) := Lib.hid (.inl ⟨r, by rw [← hr]; exact he, ⟨he, hr.symm⟩, rfl, (HF1.out.trans hf).mut A⟩)
    rw [hr]
    clear he hf hr
    go_wp2
    go_ret2
    exact HP.out
  · have HP : Hid (DoG (UnErr T dir name isDir) (UnOk T q dir name isDir) A t w (.returned (.tuple #[.int .i64 0, .int .i64 0])) w2) := Lib.hid (.inr ⟨0, _, _, A', ⟨he, rfl, rfl, x, l, k, bk2, h1, h2, h3, h4, rfl⟩, rfl, ht, HF1.out.andMut hm, hg.ahead HF1.out.size⟩)
    clear he h1 h2 h3 h4 ht hm hg
    go_wp2
    go_ret2
    exact HP.out
set_option maxRecDepth 100000 in
set_option maxHeartbeats 1600000 in
theorem ddoLong_any (w : World) (A : Nat → Prop) (t : Nat) (dir : Int) (name : ByteArray) (isDir : Bool) (short : Int) (hd : 0 ≤ dir ∧ dir ≤ 65535) (hs : 0 ≤ short ∧ short ≤ 1000000) (hn : 255 < name.size) :
    Calls Tryz.prog 184 #[.pointer (some ⟨t, 0, none⟩), linkV dir name isDir short] w (DoG (fun r => r = 1) (fun _ _ _ => False) A t w) := by
  have HFO := Lib.hid (fun W => formedL_any dir name isDir short hd hs false (by simp; omega) W)
  clear hd hs hn
  go_enter Tryz.func184, Tryz.ntmps184
  go_wp2_with fail
  refine (HFO.out _).mono ?_
  rintro e w1 ⟨rfl, hf1⟩
  have HF1 : Hid (Fresh w w1) := Lib.hid (((Fresh.refl w).alloc _).trans hf1)
  clear hf1
  go_wp2
  go_ret2
  exact .inl ⟨1, by omega, rfl, rfl, HF1.out.mut A⟩
open Go.RowKit
def hStep (h c : Int) : Int := bits .xor .u32 h c * 16777619 % 4294967296
def hashU (b : ByteArray) (k : Nat) : Int := (b.data.toList.take k).foldl (fun h c => hStep h (c.toNat : Int)) 2166136261
theorem hashU_all (b : ByteArray) : hashU b b.size = hashI b := by
  unfold hashU hashI hStep
  rw [List.take_of_length_le (by rw [Array.length_toList]; exact Nat.le_refl _)]
theorem hashU_succ (b : ByteArray) (k : Nat) (hk : k < b.size) : hashU b (k + 1) = hStep (hashU b k) (B b k) := by
  unfold hashU
  have hk2 : k < b.data.toList.length := by rw [Array.length_toList]; exact hk
  rw [List.take_succ_eq_append_getElem hk2, List.foldl_append]
  simp [B, List.getD_eq_getElem?_getD, List.getElem?_eq_getElem hk2]
theorem hStep_range (h c : Int) : 0 ≤ hStep h c ∧ hStep h c < 4294967296 := ⟨Int.emod_nonneg _ (by omega), Int.emod_lt_of_pos _ (by omega)⟩
theorem hashU_range (b : ByteArray) (k : Nat) : 0 ≤ hashU b k ∧ hashU b k < 4294967296 := by
  unfold hashU
  generalize b.data.toList.take k = l
  have : ∀ (l : List UInt8) (h : Int), 0 ≤ h ∧ h < 4294967296 → 0 ≤ l.foldl (fun h c => hStep h (c.toNat : Int)) h ∧ l.foldl (fun h c => hStep h (c.toNat : Int)) h < 4294967296 := by
    intro l
    induction l with
    | nil => intro h hh; exact hh
    | cons c l ih => intro h _; rw [List.foldl_cons]; exact ih _ (hStep_range _ _)
  exact this l _ (by omega)
theorem hash_pos (b : ByteArray) : 0 ≤ hashI b := by rw [← hashU_all]; exact (hashU_range b b.size).1
def HashRel (b : ByteArray) (w : World) (h i : Value) (wr : World) : Prop := ∃ k : Nat, i = .int .i64 (k : Nat) ∧ k ≤ b.size ∧ h = .int .u32 (hashU b k) ∧ Fresh w wr
def HashPost (h : Int) (w : World) (e : Ending) (w' : World) : Prop := e = .returned (.int .u32 h) ∧ Fresh w w'
set_option maxHeartbeats 1600000 in
set_option maxRecDepth 100000 in
theorem hash_any (b : ByteArray) (hb : b.size ≤ 100000) (w : World) : Calls Tryz.prog 86 #[.string b] w (HashPost (hashI b) w) := by
  have hcv := fun W : World => Lib.run_convert_string_bytes (P := Tryz.prog) W 9 131 5 b Tryz.underlying9 Tryz.underlying131 Tryz.underlying5
  have HCELL := Lib.hid (fun (W : World) (j : Nat) (hj : j < b.size) => Lib.bytesWorld_cell W 5 b j hj)
  have HFW : Hid (∀ W : World, Fresh W (Lib.bytesWorld W 5 b)) := Lib.hid (fun W => fresh_bytes W _ _)
  have HLT : Hid (w.heap.size < (Lib.bytesWorld w 5 b).heap.size) := Lib.hid (by rw [Lib.bytesWorld_size]; omega)
  obtain ⟨n, hn⟩ : ∃ n, b.size = n := ⟨_, rfl⟩
  have HN := Lib.hid hn
  rw [hn] at hb hcv
  clear hn
  go_enter Tryz.func86, Tryz.ntmps86
  go_wp2
  go_loopw [3, 9] (fun h i wr => HashRel b (Lib.bytesWorld w 5 b) h i wr) (fun _ i _ => n - (intOf i).toNat)
  case atStart => exact ⟨0, rfl, Nat.zero_le _, rfl, Fresh.refl _⟩
  case round =>
    obtain ⟨k, rfl, hk, rfl, hf⟩ := hrel
    have hkn : k ≤ n := by have := HN.out; omega
    have hr := hashU_range b k
    obtain ⟨h, hh⟩ : ∃ h, hashU b k = h := ⟨_, rfl⟩
    have HH := Lib.hid hh
    rw [hh] at hr ⊢
    obtain ⟨hr0, hr1⟩ := hr
    clear hk hh
    by_cases hlt : k < n
    · have c1 : wr.cell? ⟨w.heap.size, k, none⟩ = some (.int .u8 (B b k)) := (Below.cell hf (p := ⟨w.heap.size, k, none⟩) HLT.out).trans (HCELL.out w k (by have := HN.out; omega))
      have HS := Lib.hid (hashU_succ b k (by have := HN.out; omega))
      rw [HH.out] at HS
      have hbr := B_range b k
      obtain ⟨c, hc⟩ : ∃ c, B b k = c := ⟨_, rfl⟩
      rw [hc] at c1 hbr HS
      obtain ⟨hc0, hc1⟩ := hbr
      have i1 : (0 : Int) ≤ (k : Int) := by omega
      have i2 : (k : Int) < (n : Int) := by omega
      clear hc
      go_wp2
      go_roundw
      case rel => exact ⟨k + 1, by go_num, by have := HN.out; omega, by rw [HS.out]; rfl, hf⟩
      case measure => simp [intOf]; omega
    · have hkE : k = n := by omega
      have hE : Hid (h = hashI b) := Lib.hid (by rw [← hashU_all, HN.out, ← hkE]; exact HH.out.symm)
      have hlt9 : ¬ (k : Int) < (n : Int) := by omega
      go_wp2
      go_ret
      exact ⟨by rw [hE.out]; rfl, (HFW.out w).trans hf⟩
end Go.Proofs.YtpmlggjhfiljmaaGreatDoor
