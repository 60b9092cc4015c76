/- Contracts that the law rests on, part 39 of 50 (DeeD, DeeE, DeeF, StoC, StoD, StoE). Each states its own conditions. -/
import Derived.Test.YtpmlggjhfiljmaaGreatDoorC38
/- Layer 11: the bytes of a Link deed: how many they are; Encode; Do. -/
namespace Go.Proofs.YtpmlggjhfiljmaaGreatDoor
open Go.RowKit
set_option linter.unusedVariables false
set_option linter.unnecessarySimpa false
set_option linter.unusedSimpArgs false
theorem dnumber_b (Bs : Nat) (a0 : Option Addr) (c0 : Nat) (k0 : Nat) (n : Int) (hn : 0 ≤ n ∧ n ≤ 1000000000) (k : Nat) (hk : 1 ≤ k ∧ k ≤ 8) (hk0 : k0 ≤ 10000) (w : World) (hB : Bs ≤ w.heap.size) (h : U8At w (fun g => Bs ≤ g) (.slice a0 k0 c0) k0) :
    Calls Tryz.prog 348 #[.slice a0 k0 c0, .int .i64 n, .int .i64 k] w (GrowB Bs (k0 + k) w) :=
  (dnumber_any _ a0 c0 k0 n hn k hk hk0 w h).mono fun e w' ⟨a, c, he, hu, hm⟩ => ⟨a, c, he, hu.mono (fun g _ hg => hg.elim id (fun q => by omega)), hm.below hB (fun k hk h => by omega)⟩
theorem Fresh.trans3 {a b c : World} (h : Fresh a b) (k : Below a.heap.size b c) : Fresh a c := Below.trans h k
theorem u8_new (W : World) : U8At (W.alloc (.cells #[.int .u8 (IntKind.u8.wrap 1)] 5)).drew (fun g => W.heap.size ≤ g) (.slice (some ⟨W.heap.size, 0, none⟩) 1 1) 1 := by
  refine ⟨[1], rfl, by simp, ⟨rfl, .inr ⟨_, 1, #[.int .u8 1], rfl, Nat.zero_le _, ?_, Nat.le_refl _, by unfold maxLen; omega, rfl, rfl⟩⟩, fun g hg => by have h2 := hg; simp [Value.ownBlock] at h2; omega⟩
  exact heap_alloc_new _ _
theorem conv_u8 {w : World} {A : Nat → Prop} {a : Option Addr} {c k : Nat} (h : U8At w A (.slice a k c) k) (hk : 1 ≤ k) : ∃ s : ByteArray, s.size = k ∧ (convert 131 9 (.slice a k c)).run Tryz.prog w = .ok (.string s) w := by
  obtain ⟨l, h1, h2, h3⟩ := h
  have h4 := h3.1
  obtain ⟨_, ⟨q1, q2⟩ | ⟨g, cap, cur, q, _⟩⟩ := h3.1
  · omega
  · injection q with q
    subst q
    refine ⟨strOfNums l, by rw [← h1]; simp [strOfNums, ByteArray.size], ?_⟩
    have := run_convert_bytes_arg (P := Tryz.prog) w 131 5 Tryz.underlying131 Tryz.underlying5 g 0 k c l h1 (fun i hi => by
      have := h4.cells (g := g) rfl i (.int .u8 (l.getD i 0)) (by have hi2 : i < l.length := (by omega); simp [List.getD, hi2])
      rw [Addr.add_lit, Nat.zero_add] at this
      simpa using this) 9 Tryz.underlying9
    exact this
theorem u8_push {w : World} {A : Nat → Prop} {v : Value} {k : Nat} {l : List Int} {y : Int} (h : OwnA w A 5 1 v (k + 1) (l.map (Value.int .u8) ++ [.int .u8 y])) (hy : 0 ≤ y ∧ y < 256) (h1 : l.length = k) (h2 : ∀ x ∈ l, 0 ≤ x ∧ x < 256) : U8At w A v (k + 1) := by
  refine ⟨l ++ [y], by simp [h1], fun x hx => ?_, by rw [List.map_append]; exact h⟩
  rcases List.mem_append.1 hx with q | q
  · exact h2 x q
  · simp at q
    subst q
    exact hy
/-- the string of so many bytes -/
def StrIs (k : Nat) (w : World) (e : Ending) (w' : World) : Prop := ∃ s : ByteArray, e = .returned (.string s) ∧ s.size = k ∧ Fresh w w'
set_option maxRecDepth 100000 in
set_option maxHeartbeats 3200000 in
theorem bytesL_any (dir : Int) (name : ByteArray) (isDir : Bool) (short : Int) (hd : 0 ≤ dir ∧ dir ≤ 65535) (hs : 0 ≤ short ∧ short ≤ 1000000) (hn : name.size ≤ 255) (w : World) : Calls Tryz.prog 275 #[linkV dir name isDir short] w (StrIs (name.size + 9) w) := by
  obtain ⟨W5, hW5⟩ : ∃ W5, (w.alloc (.cells #[.int .i64 1, .int .i64 dir, .int .i64 0, .string name, .string ⟨#[]⟩, .bool isDir, .int .i64 short] 142)) = W5 := ⟨_, rfl⟩
  have hs5 : W5.heap.size = w.heap.size + 1 := by rw [← hW5]; simp
  have X5 : Blk W5 w.heap.size 142 #[.int .i64 1, .int .i64 dir, .int .i64 0, .string name, .string ⟨#[]⟩, .bool isDir, .int .i64 short] := by rw [← hW5]; exact Blk.new _ _ _
  have HS5 := Lib.hid hs5
  have hf5 : Fresh w W5 := by rw [← hW5]; exact (Fresh.refl w).alloc _
  have HNU := Lib.hid (fun a0 c0 k0 n hn k hk hk0 W hB h => dnumber_b W5.heap.size a0 c0 k0 n hn k hk hk0 W hB h)
  have HNA := Lib.hid (fun a0 c0 k0 s hs hk0 W hB h => dname_any W5.heap.size a0 c0 k0 s hs hk0 W hB h)
  have HSP : Hid (∀ W, Fresh W5 W → W.cell? ⟨w.heap.size, 0, none⟩ = some (.int .i64 1) ∧ W.cell? ⟨w.heap.size, 1, none⟩ = some (.int .i64 dir) ∧ W.cell? ⟨w.heap.size, 3, none⟩ = some (.string name) ∧ W.cell? ⟨w.heap.size, 5, none⟩ = some (.bool isDir) ∧ W.cell? ⟨w.heap.size, 6, none⟩ = some (.int .i64 short) ∧ Fresh W5 W) := Lib.hid (fun W hW => by
    have b := X5.keep hW
    exact ⟨by rw [b.cell]; rfl, by rw [b.cell]; rfl, by rw [b.cell]; rfl, by rw [b.cell]; rfl, by rw [b.cell]; rfl, hW⟩)
  have h0 := HSP.out W5 (Fresh.refl _)
  have HFR := Lib.hid hf5
  clear hs5 hf5
  go_enter Tryz.func275, Tryz.ntmps275
  go_wp2_with fail
  try rw [hW5]
  clear hW5 X5
  go_region_held3 (fun W => W.cell? ⟨w.heap.size, 0, none⟩ = some (.int .i64 1) ∧ W.cell? ⟨w.heap.size, 1, none⟩ = some (.int .i64 dir) ∧ W.cell? ⟨w.heap.size, 3, none⟩ = some (.string name) ∧ W.cell? ⟨w.heap.size, 5, none⟩ = some (.bool isDir) ∧ W.cell? ⟨w.heap.size, 6, none⟩ = some (.int .i64 short) ∧ Fresh W5 W) (exact HSP.out _ (by repeat (first | assumption | exact Fresh.refl _ | refine Fresh.alloc ?_ _ | refine Fresh.drew ?_))) (first
    | (go_at_call 348; refine (HNU.out _ _ 1 dir (by omega) 2 (by omega) (by omega) _ (by show W5.heap.size ≤ (W5.alloc _).heap.size; simp) (u8_new W5)).mono ?_; rintro e wA ⟨aA, cA, rfl, hoA, hbA⟩; have hfA : Fresh W5 wA := (((Fresh.refl W5).alloc _).drew).trans3 hbA)
    | (go_at_call 347; refine (HNA.out _ _ 3 name (by omega) (by omega) _ hfA.size hoA).mono ?_; rintro e wB ⟨aB, cB, rfl, hoB, hbB⟩; have hfB : Fresh W5 wB := hfA.trans3 hbB))
  all_goals
    obtain ⟨s0, s1, s3, s5, s6, _⟩ := HSP.out wB hfB
    obtain ⟨i0, hi0, hz0, hz1, hz2⟩ := info_partsG infoU8
    obtain ⟨l, hl1, hl2, ho⟩ := hoB
    have HL := Lib.hid (And.intro hl1 hl2)
    clear hoA hbA hfA hbB hl1 hl2 h0
    cases isDir
    all_goals
      go_wp2_with (at_builtin; refine wpList_append_ownA _ rfl _ _ 131 rfl (fun g => W5.heap.size ≤ g) 5 i0 _ 1 1 Tryz.underlying131 hi0 hz0 hz1 hz2 rfl (by decide) _ _ _ rfl (ho.fresh ((Fresh.refl _).alloc _)) ⟨wB.heap.size, 0, none⟩ 1 1 [_] rfl rfl (newCells _ _ _) (by intro u hu; simp at hu; subst hu; rfl) (by omega) (by decide) ?_; intro aC cC wC ownC growC; have hfC : Fresh W5 wC := ((hfB.alloc _).mut2 growC (fun j e => by have := ho.2 j e; omega)); obtain ⟨p0, p1, p3, p5, p6, _⟩ := HSP.out wC hfC)
      have huC : U8At wC (fun g => W5.heap.size ≤ g) (.slice aC (4 + name.size + 1) cC) (4 + name.size + 1) := by
        have hq := HL.out
        exact (u8_push (ownC.mono (A' := fun g => W5.heap.size ≤ g) (fun g _ hg => hg.elim id (fun q => by have q1 := q.1; have z := hfB.size; simp at q1; omega))) (by omega) (by omega) hq.2)
      refine (HNU.out _ _ (4 + name.size + 1) short (by omega) 4 (by omega) (by omega) wC hfC.size huC).mono ?_
      rintro e wD ⟨aD, cD, rfl, huD, hbD⟩
      have hfD : Fresh W5 wD := hfC.trans3 hbD
      obtain ⟨st, hst1, hst2⟩ := conv_u8 huD (by omega)
      have HST := Lib.hid hst1
      have HFD := Lib.hid (HFR.out.trans hfD)
      clear huD huC hbD growC ownC hst1
      go_wp2
      go_ret
      exact ⟨st, rfl, by have := HST.out; omega, HFD.out⟩
end Go.Proofs.YtpmlggjhfiljmaaGreatDoor
/- Layer 11: Encode and Do of a Link deed. -/
namespace Go.Proofs.YtpmlggjhfiljmaaGreatDoor
open Go.RowKit
set_option linter.unusedVariables false
set_option linter.unnecessarySimpa false
set_option linter.unusedSimpArgs false
def EncD (k : Nat) (w : World) (e : Ending) (w' : World) : Prop := ∃ s : ByteArray, e = .returned (.tuple #[.string s, .int .i64 0]) ∧ s.size = k ∧ Fresh w w'
set_option maxRecDepth 100000 in
set_option maxHeartbeats 1600000 in
theorem dencodeL_any (dir : Int) (name : ByteArray) (isDir : Bool) (short : Int) (hd : 0 ≤ dir ∧ dir ≤ 65535) (hs : 0 ≤ short ∧ short ≤ 1000000) (hn : name.size ≤ 255) (w : World) : Calls Tryz.prog 185 #[linkV dir name isDir short] w (EncD (name.size + 9) w) := by
  have HFO := Lib.hid (fun W => formedL_any dir name isDir short hd hs true (by simp [hn]) W)
  have HBY := Lib.hid (fun W => bytesL_any dir name isDir short hd hs hn W)
  have X := Blk.new w 142 #[.int .i64 1, .int .i64 dir, .int .i64 0, .string name, .string ⟨#[]⟩, .bool isDir, .int .i64 short]
  have HX := Lib.hid X
  clear X hd hs hn
  go_enter Tryz.func185, Tryz.ntmps185
  go_wp2_with fail
  refine (HFO.out _).mono ?_
  rintro e w1 ⟨rfl, hf1⟩
  have b1 := HX.out.keep hf1
  have c0 : w1.cell? ⟨w.heap.size, 0, none⟩ = some (.int .i64 1) := by rw [b1.cell]; rfl
  have c1 : w1.cell? ⟨w.heap.size, 1, none⟩ = some (.int .i64 dir) := by rw [b1.cell]; rfl
  have c2 : w1.cell? ⟨w.heap.size, 2, none⟩ = some (.int .i64 0) := by rw [b1.cell]; rfl
  have c3 : w1.cell? ⟨w.heap.size, 3, none⟩ = some (.string name) := by rw [b1.cell]; rfl
  have c4 : w1.cell? ⟨w.heap.size, 4, none⟩ = some (.string ⟨#[]⟩) := by rw [b1.cell]; rfl
  have c5 : w1.cell? ⟨w.heap.size, 5, none⟩ = some (.bool isDir) := by rw [b1.cell]; rfl
  have c6 : w1.cell? ⟨w.heap.size, 6, none⟩ = some (.int .i64 short) := by rw [b1.cell]; rfl
  have HF1 : Hid (Fresh w w1) := Lib.hid (((Fresh.refl w).alloc _).trans hf1)
  clear b1 hf1
  go_wp2_with fail
  refine (HBY.out _).mono ?_
  rintro e w2 ⟨s, rfl, hs2, hf2⟩
  have HS2 := Lib.hid hs2
  clear hs2
  go_wp2
  go_ret2
  exact ⟨s, rfl, HS2.out, HF1.out.trans hf2⟩
end Go.Proofs.YtpmlggjhfiljmaaGreatDoor
/- Layer 11: Do of a Link deed. -/
namespace Go.Proofs.YtpmlggjhfiljmaaGreatDoor
open Go.RowKit
set_option linter.unusedVariables false
set_option linter.unnecessarySimpa false
set_option linter.unusedSimpArgs false
theorem enters272 : ∀ (args : Array Value) (W : World), Sem.run Tryz.prog (callFunc 272 args) W = .ok (.enter 272 args) W := by intro args w; go_simp
theorem TreeAt.gr {A : Nat → Prop} {w w' : World} (h : w.heap.size ≤ w'.heap.size) : True := trivial
theorem LinkPost.ahead {R : Int → Int → List Int → Prop} {A : Nat → Prop} {t : Nat} {T : TreS} {q : Nat} {d : Int} {name : ByteArray} {isDir : Bool} {short : Int} {w w1 : World} {e : Ending} {w' : World} (h : LinkPost R A t T q d name isDir short w1 e w') (hf : Fresh w w1) : LinkPost R A t T q d name isDir short w e w' := by
  rcases h with ⟨r, h1, h2, h3⟩ | ⟨h1, k, fr, bk, A', h2, h3, h4, h5⟩
  · exact .inl ⟨r, h1, h2, hf.trans h3⟩
  · exact .inr ⟨h1, k, fr, bk, A', h2, hf.andMut h3, h4.ahead hf.size, h5⟩
theorem LinkPost.shape {R : Int → Int → List Int → Prop} {A : Nat → Prop} {t : Nat} {T : TreS} {q : Nat} {d : Int} {name : ByteArray} {isDir : Bool} {short : Int} {w : World} {e : Ending} {w' : World} (h : LinkPost R A t T q d name isDir short w e w') : ∃ a b : Int, e = .returned (.tuple #[.int .i64 a, .int .i64 b]) := by
  rcases h with ⟨r, h1, h2, h3⟩ | ⟨h1, k, fr, bk, A', h2, h3, h4, ⟨_, h5, _⟩ | ⟨_, h5, _⟩⟩
  · exact ⟨_, _, h2⟩
  · exact ⟨_, _, h5⟩
  · exact ⟨_, _, h5⟩
set_option maxRecDepth 100000 in
set_option maxHeartbeats 1600000 in
theorem ddoL_any (R : Int → Int → List Int → Prop) (w : World) (A : Nat → Prop) (t : Nat) (T : TreS) (q : Nat) (h : TreeAt w A t T q) (hT : Takes R T q) (dir : Int) (name : ByteArray) (isDir : Bool) (short : Int) (hd : 0 ≤ dir ∧ dir ≤ 65535) (hs : 0 ≤ short ∧ short ≤ 1000000) (hn : name.size ≤ 255) (hq : q ≤ 100000) (hl : ∀ i l, T.dirs i = some l → l.length ≤ 10000) (hnx : 0 ≤ T.next ∧ T.next ≤ 100000) :
    Calls Tryz.prog 184 #[.pointer (some ⟨t, 0, none⟩), linkV dir name isDir short] w (LinkPost R A t T q dir name isDir short w) := by
  have HFO := Lib.hid (fun W => formedL_any dir name isDir short hd hs true (by simp [hn]) W)
  have HLK := Lib.hid (fun W (hW : Fresh w W) => link_any R W A t T q (h.fresh hW) hT dir (by unfold I64; omega) name isDir short hq hl hnx)
  have HX := Lib.hid (Blk.new w 142 #[.int .i64 1, .int .i64 dir, .int .i64 0, .string name, .string ⟨#[]⟩, .bool isDir, .int .i64 short])
  have hen := enters272
  clear h hT hd hs hn hl
  go_enter Tryz.func184, Tryz.ntmps184
  go_wp2_with fail
  refine (HFO.out _).mono ?_
  rintro e w1 ⟨rfl, hf1⟩
  have b1 := HX.out.keep hf1
  have c0 : w1.cell? ⟨w.heap.size, 0, none⟩ = some (.int .i64 1) := by rw [b1.cell]; rfl
  have c1 : w1.cell? ⟨w.heap.size, 1, none⟩ = some (.int .i64 dir) := by rw [b1.cell]; rfl
  have c3 : w1.cell? ⟨w.heap.size, 3, none⟩ = some (.string name) := by rw [b1.cell]; rfl
  have c5 : w1.cell? ⟨w.heap.size, 5, none⟩ = some (.bool isDir) := by rw [b1.cell]; rfl
  have c6 : w1.cell? ⟨w.heap.size, 6, none⟩ = some (.int .i64 short) := by rw [b1.cell]; rfl
  have HF1 : Hid (Fresh w w1) := Lib.hid (((Fresh.refl w).alloc _).trans hf1)
  clear b1 hf1
  go_wp2_with fail
  refine (HLK.out _ HF1.out).mono ?_
  intro e w2 hp
  obtain ⟨a, b, rfl⟩ := hp.shape
  have HP := Lib.hid (hp.ahead HF1.out)
  clear hp
  go_wp2
  go_ret2
  exact HP.out
end Go.Proofs.YtpmlggjhfiljmaaGreatDoor
/- Layer 13: the store: Over, Tree, Sync; what a try appends. -/
namespace Go.Proofs.YtpmlggjhfiljmaaGreatDoor
open Go.RowKit
set_option linter.unusedVariables false
set_option linter.unnecessarySimpa false
set_option linter.unusedSimpArgs false
section
variable (F : Nat → Prop) (s p : Nat) (m n : Int) (k t q : Nat) (T : TreS) (qt : Nat) (w : World)
theorem sover_any (h : StoAt w F s p m n k t q T qt) : Calls Tryz.prog 125 #[.pointer (some ⟨s, 0, none⟩)] w fun e w' => e = .returned (.bool false) ∧ w = w' := by
  obtain ⟨v, tr, Fv, At, hb, hFs, hFv, hAt, hs1, hs2, hd, hv, ht, hF⟩ := h
  have c0 : w.cell? ⟨s, 0, none⟩ = some (.pointer (some ⟨v, 0, none⟩)) := by rw [hb.cell]; rfl
  have HO := Lib.hid (over_any Fv v p m n img0 t k q w hv)
  clear hb hv ht hd hF hFv hAt
  go_enter Tryz.func125, Tryz.ntmps125
  go_wp2_with fail
  refine HO.out.mono ?_
  rintro e w1 ⟨rfl, rfl⟩
  go_wp2
  go_ret
  exact ⟨rfl, rfl⟩
theorem stree_any (h : StoAt w F s p m n k t q T qt) (hq : qt ≤ 1000000) (hbk : T.bk.length ≤ 100000) (hl : ∀ i l, T.dirs i = some l → l.length ≤ 100000) : Calls Tryz.prog 77 #[.pointer (some ⟨s, 0, none⟩)] w (TreeNew T qt w) := by
  obtain ⟨v, tr, Fv, At, hb, hFs, hFv, hAt, hs1, hs2, hd, hv, ht, hF⟩ := h
  have c1 : w.cell? ⟨s, 1, none⟩ = some (.pointer (some ⟨tr, 0, none⟩)) := by rw [hb.cell]; rfl
  have HC := Lib.hid (treeClone_any w At tr T qt ht hq hbk hl)
  clear hb hv ht hd hF hFv hAt hq hbk hl
  go_enter Tryz.func77, Tryz.ntmps77
  go_wp2_with fail
  refine HC.out.mono ?_
  rintro e w1 ⟨x, rfl, hx, hf⟩
  have HX := Lib.hid (And.intro hx hf)
  clear hx hf
  go_wp2
  go_ret
  exact ⟨x, rfl, HX.out.1, HX.out.2⟩
end
end Go.Proofs.YtpmlggjhfiljmaaGreatDoor
/- Layer 13: the store: what a try appends; once more. -/
namespace Go.Proofs.YtpmlggjhfiljmaaGreatDoor
open Go.RowKit
set_option linter.unusedVariables false
set_option linter.unnecessarySimpa false
set_option linter.unusedSimpArgs false
section
variable (Fv : Nat → Prop) (s v p : Nat) (m n : Int) (k t q : Nat) (w : World)
set_option maxHeartbeats 1600000 in
theorem do1_any (b0 b1 : Nat) (r : ByteArray) (h0 : w.cell? ⟨b0, 0, none⟩ = some (.pointer (some ⟨s, 0, none⟩))) (h1 : w.cell? ⟨b1, 0, none⟩ = some (.string r)) (h2 : w.cell? ⟨s, 0, none⟩ = some (.pointer (some ⟨v, 0, none⟩)))
    (hv : VltAt w Fv v p m n img0 t k q) (hm : 0 ≤ m ∧ m + m ≤ n) (hn : n ≤ 1000000) (ht : 1 ≤ t) (hr : 1 ≤ r.size) (hr2 : r.size ≤ 60000) (hfit : (t : Int) + kfr r.size ≤ m) (hq : q + kfr r.size ≤ 80000) (hk : k ≤ 1000000) :
    Calls Tryz.prog 186 #[.pointer (some ⟨b0, 0, none⟩), .pointer (some ⟨b1, 0, none⟩)] w (VltPost Fv v p m n img0 (t + kfr r.size) (k + 1) (q + kfr r.size) w (.int .i64 0)) := by
  have HA := Lib.hid (fun W (hW : Fresh w W) => vappend_any Fv v p m n img0 t k q W (hv.fresh hW) r hm hn ht hr hr2 hfit hq hk)
  clear hv hm hn ht hr hr2 hfit hq hk
  go_enter Tryz.func186, Tryz.ntmps186
  go_wp2_with fail
  go_region_law (first
    | (go_simp; go_at_call 187; refine (HA.out _ (by repeat (first | exact Fresh.refl _ | refine Fresh.drew ?_))).mono ?_; rintro e w2 ⟨rfl, F2, hv2, hm2, hg2⟩))
  all_goals
    have hfin : VltPost Fv v p m n img0 (t + kfr r.size) (k + 1) (q + kfr r.size) w (.int .i64 0) (.returned (.int .i64 0)) w2 := ⟨rfl, F2, hv2, ⟨hm2.os, hm2.tape, hm2.output, hm2.size, hm2.block⟩, hg2⟩
    have HF := Lib.hid hfin
    clear hfin hv2 hm2 hg2
    go_wp2
    go_ret
    exact HF.out
theorem enters186 : ∀ (args : Array Value) (W : World), Sem.run Tryz.prog (callFunc 186 args) W = .ok (.enter 186 args) W := by intro args w; go_simp
set_option maxHeartbeats 1600000 in
theorem run1_any (b0 b1 : Nat) (fr : Value) (hfr : fr.cells.size = 1) (r : ByteArray) (h0 : w.cell? ⟨b0, 0, none⟩ = some (.pointer (some ⟨s, 0, none⟩))) (h1 : w.cell? ⟨b1, 0, none⟩ = some (.string r)) (h2 : w.cell? ⟨s, 0, none⟩ = some (.pointer (some ⟨v, 0, none⟩))) (l0 : b0 < w.heap.size) (l1 : b1 < w.heap.size) (l2 : s < w.heap.size)
    (hv : VltAt w Fv v p m n img0 t k q) (hm : 0 ≤ m ∧ m + m ≤ n) (hn : n ≤ 1000000) (ht : 1 ≤ t) (hr : 1 ≤ r.size) (hr2 : r.size ≤ 60000) (hfit : (t : Int) + kfr r.size ≤ m) (hq : q + kfr r.size ≤ 80000) (hk : k ≤ 1000000) :
    Calls Tryz.prog 190 #[.agg #[.func (.func 186) #[] #[.pointer (some ⟨b0, 0, none⟩), .pointer (some ⟨b1, 0, none⟩)], .func (.func 188) #[] #[.pointer (some ⟨b0, 0, none⟩)]]] w (VltPost Fv v p m n img0 (t + kfr r.size) (k + 1) (q + kfr r.size) w (.int .i64 0)) := by
  have HD := Lib.hid (fun W (hW : Fresh w W) => do1_any Fv s v p m n k t q W b0 b1 r ((Below.cell hW (p := ⟨b0, 0, none⟩) l0).trans h0) ((Below.cell hW (p := ⟨b1, 0, none⟩) l1).trans h1) ((Below.cell hW (p := ⟨s, 0, none⟩) l2).trans h2) (hv.fresh hW) hm hn ht hr hr2 hfit hq hk)
  have hen := enters186
  clear hv hm hn ht hr hr2 hfit hq hk h0 h1 h2
  go_enter Tryz.func190, Tryz.ntmps190
  go_wp2_with fail
  refine (HD.out _ ((Fresh.refl w).alloc _)).mono ?_
  rintro e w2 ⟨rfl, F2, hv2, hm2, hg2⟩
  have HF : Hid (VltPost Fv v p m n img0 (t + kfr r.size) (k + 1) (q + kfr r.size) w (.int .i64 0) (.returned (.int .i64 0)) w2) := Lib.hid ⟨rfl, F2, hv2, ((Fresh.refl w).alloc _).andMut hm2, hg2.ahead (by simp)⟩
  clear hv2 hm2 hg2
  go_wp2
  go_ret
  exact HF.out
end
end Go.Proofs.YtpmlggjhfiljmaaGreatDoor
/- Layer 13: the store: Do of a Link deed. -/
namespace Go.Proofs.YtpmlggjhfiljmaaGreatDoor
open Go.RowKit
set_option linter.unusedVariables false
set_option linter.unnecessarySimpa false
set_option linter.unusedSimpArgs false
def SDoPost (R : Int → Int → List Int → Prop) (F : Nat → Prop) (s p : Nat) (m n : Int) (k t q : Nat) (T : TreS) (qt : Nat) (d : Int) (name : ByteArray) (isDir : Bool) (short : Int) (w : World) (e : Ending) (w' : World) : Prop :=
  (∃ r, r ≠ 0 ∧ (LinkErr T d name short r ∨ (LinkOk T d name short ∧ r = 12 ∧ ∃ k fr bk, R k fr bk ∧ 200 < k)) ∧ e = .returned (.tuple #[.int .i64 0, .int .i64 r]) ∧ Fresh w w') ∨
  (LinkOk T d name short ∧ ∃ i fr bk F', R i fr bk ∧ i ≤ 200 ∧ e = .returned (.tuple #[.int .i64 i, .int .i64 0]) ∧ StoAt w' F' s p m n (k + 1) (t + kfr (name.size + 9)) (q + kfr (name.size + 9)) (linkT T d name isDir short i fr bk) (qt + 3) ∧ Mut F w w' ∧ Gr F w w' F')
theorem LinkErr.ne {T : TreS} {d : Int} {name : ByteArray} {short r : Int} (h : LinkErr T d name short r) : r ≠ 0 := by
  rcases h with ⟨_, h⟩ | ⟨l, _, ⟨_, h⟩ | ⟨_, _, h⟩ | ⟨_, _, _, _, h⟩⟩
  · rw [h]; split <;> omega
  · omega
  · omega
  · omega
set_option maxRecDepth 100000 in
set_option maxHeartbeats 3200000 in
theorem sdo_any (R : Int → Int → List Int → Prop) (F : Nat → Prop) (s p : Nat) (m n : Int) (k t q : Nat) (T : TreS) (qt : Nat) (w : World) (h : StoAt w F s p m n k t q T qt) (hT : Takes R T qt) (dir : Int) (name : ByteArray) (isDir : Bool) (short : Int) (hd : 0 ≤ dir ∧ dir ≤ 65535) (hs : 0 ≤ short ∧ short ≤ 1000000) (hnm : name.size ≤ 255)
    (hqt : qt ≤ 100000) (hbk : T.bk.length ≤ 100000) (hl : ∀ i l, T.dirs i = some l → l.length ≤ 10000) (hnx : 0 ≤ T.next ∧ T.next ≤ 100000) (hm : 0 ≤ m ∧ m + m ≤ n) (hn : n ≤ 1000000) (ht : 1 ≤ t) (hfit : (t : Int) + 5 ≤ m) (hq : q ≤ 70000) (hk : k ≤ 100000) :
    Calls Tryz.prog 127 #[.pointer (some ⟨s, 0, none⟩), linkV dir name isDir short] w (SDoPost R F s p m n k t q T qt dir name isDir short w) := by
  obtain ⟨v, tr, Fv, At, hb, hFs, hFv, hAt, hs1, hs2, hdj, hv, htr, hFB⟩ := h
  have hsl := hb.lt
  have H := Lib.hid (And.intro hb (And.intro hv (And.intro htr hFB)))
  have HOV := Lib.hid (fun W (hW : Fresh w W) => over_any Fv v p m n img0 t k q W (hv.fresh hW))
  have HTC := Lib.hid (fun W (hW : Fresh w W) => treeClone_any W At tr T qt (htr.fresh hW) (by omega) hbk (fun i l hh => by have := hl i l hh; omega))
  have HEN := Lib.hid (fun W => dencodeL_any dir name isDir short hd hs hnm W)
  have HDO := Lib.hid (fun W A x (hx : TreeAt W A x T qt) => ddoL_any R W A x T qt hx hT dir name isDir short hd hs hnm hqt hl hnx)
  obtain ⟨W5, hW5⟩ : ∃ W5, ((w.alloc (.cells #[.pointer (some ⟨s, 0, none⟩)] 150)).alloc (.cells #[.int .i64 1, .int .i64 dir, .int .i64 0, .string name, .string ⟨#[]⟩, .bool isDir, .int .i64 short] 142)) = W5 := ⟨_, rfl⟩
  have f5 : Fresh w W5 := by rw [← hW5]; exact ((Fresh.refl w).alloc _).alloc _
  have b0 : Blk W5 w.heap.size 150 #[.pointer (some ⟨s, 0, none⟩)] := by rw [← hW5]; exact (Blk.new _ _ _).keep ((Fresh.refl _).alloc _)
  have b1 : Blk W5 (w.heap.size + 1) 142 #[.int .i64 1, .int .i64 dir, .int .i64 0, .string name, .string ⟨#[]⟩, .bool isDir, .int .i64 short] := by
    rw [← hW5]
    have := Blk.new (w.alloc (.cells #[.pointer (some ⟨s, 0, none⟩)] 150)) 142 #[.int .i64 1, .int .i64 dir, .int .i64 0, .string name, .string ⟨#[]⟩, .bool isDir, .int .i64 short]
    rw [World.size_alloc] at this
    exact this
  have HS5 : Hid (W5.heap.size = w.heap.size + 2) := Lib.hid (by rw [← hW5]; simp)
  have HSP : Hid (∀ W, Fresh W5 W → W.cell? ⟨w.heap.size, 0, none⟩ = some (.pointer (some ⟨s, 0, none⟩)) ∧ W.cell? ⟨s, 0, none⟩ = some (.pointer (some ⟨v, 0, none⟩)) ∧ W.cell? ⟨s, 1, none⟩ = some (.pointer (some ⟨tr, 0, none⟩)) ∧ W.cell? ⟨w.heap.size + 1, 0, none⟩ = some (.int .i64 1) ∧ W.cell? ⟨w.heap.size + 1, 1, none⟩ = some (.int .i64 dir) ∧ W.cell? ⟨w.heap.size + 1, 2, none⟩ = some (.int .i64 0) ∧ W.cell? ⟨w.heap.size + 1, 3, none⟩ = some (.string name) ∧ W.cell? ⟨w.heap.size + 1, 4, none⟩ = some (.string ⟨#[]⟩) ∧ W.cell? ⟨w.heap.size + 1, 5, none⟩ = some (.bool isDir) ∧ W.cell? ⟨w.heap.size + 1, 6, none⟩ = some (.int .i64 short)) := Lib.hid (fun W hW => by
    have c := b0.keep hW
    have d := b1.keep hW
    have a := hb.keep (f5.trans hW)
    exact ⟨by rw [c.cell]; rfl, by rw [a.cell]; rfl, by rw [a.cell]; rfl, by rw [d.cell]; rfl, by rw [d.cell]; rfl, by rw [d.cell]; rfl, by rw [d.cell]; rfl, by rw [d.cell]; rfl, by rw [d.cell]; rfl, by rw [d.cell]; rfl⟩)
  have HF5 := Lib.hid f5
  obtain ⟨e0, e1, e2, e3, e4, e5, e6, e7, e8, e9⟩ := HSP.out W5 (Fresh.refl _)
  clear hb hv htr hFB b0 b1 f5 hl hT
  go_enter Tryz.func127, Tryz.ntmps127
  go_wp2_with fail
  refine (HOV.out _ HF5.out).mono ?_
  rintro e w1 ⟨rfl, rfl⟩
  clear hW5
  go_wp2_with fail
  refine (HTC.out _ HF5.out).mono ?_
  rintro e w2 ⟨x, rfl, hx, hf2⟩
  have HX := Lib.hid (And.intro hx hf2)
  clear e0 e1 e2 e3 e4 e5 e6 e7 e8 e9
  obtain ⟨e0, e1, e2, e3, e4, e5, e6, e7, e8, e9⟩ := HSP.out w2 hf2
  clear hx hf2
  go_wp2_with fail
  refine (HDO.out w2 (fun g => W5.heap.size ≤ g ∧ g < w2.heap.size) x (HX.out.1.mono (fun g hg hh => ⟨hh, hg⟩))).mono ?_
  rintro e w3 (⟨r, hre, rfl, hf3⟩ | ⟨hok, i, fr, bk, A3, hR, hm3, hg3, ⟨hi, rfl, ht3⟩ | ⟨hi, rfl, _⟩⟩)
  · have hr0 := hre.ne
    have hrb : (r != 0) = true := by simp [hr0]
    have hfin : Hid (SDoPost R F s p m n k t q T qt dir name isDir short w (.returned (.tuple #[.int .i64 0, .int .i64 r])) w3) := Lib.hid (.inl ⟨r, hr0, .inl hre, rfl, (HF5.out.trans HX.out.2).trans hf3⟩)
    clear hre hf3 hr0
    go_wp2
    go_ret2
    exact hfin.out
  · have z5 := HF5.out.size
    have f3 : Fresh W5 w3 := HX.out.2.mut2 hm3 (fun j hj => hj.1)
    have HM3 := Lib.hid (And.intro hok (And.intro hR (And.intro hg3 (And.intro ht3 (And.intro f3 hm3.size)))))
    clear e0 e1 e2 e3 e4 e5 e6 e7 e8 e9
    obtain ⟨e0, e1, e2, e3, e4, e5, e6, e7, e8, e9⟩ := HSP.out w3 f3
    clear hok hR hm3 hg3 ht3 f3
    go_wp2_with fail
    refine (HEN.out _).mono ?_
    rintro e w4 ⟨r, rfl, hrs, hf4⟩
    have f4 : Fresh W5 (w4.alloc (.cells #[.string r] 9)) := (HM3.out.2.2.2.2.1.trans hf4).alloc _
    have hr9 : (w4.alloc (.cells #[.string r] 9)).cell? ⟨w4.heap.size, 0, none⟩ = some (.string r) := by
      have := (Blk.new w4 9 #[.string r]).cell 0
      exact this
    have z4 : W5.heap.size ≤ w4.heap.size := (HM3.out.2.2.2.2.1.trans hf4).size
    clear e0 e1 e2 e3 e4 e5 e6 e7 e8 e9
    obtain ⟨e0, e1, e2, e3, e4, e5, e6, e7, e8, e9⟩ := HSP.out _ f4
    have hkf : kfr r.size ≤ 5 := by rw [hrs]; unfold kfr; split <;> omega
    have HRUN := Lib.hid (run1_any Fv s v p m n k t q (w4.alloc (.cells #[.string r] 9)) w.heap.size w4.heap.size undef rfl r e0 hr9 e1 (by have := HS5.out; simp; omega) (by simp) (by simp; omega) (H.out.2.1.fresh (HF5.out.trans f4)) hm hn ht (by omega) (by omega) (by omega) (by omega) (by omega))
    have HF4 := Lib.hid (And.intro hrs (And.intro hf4 f4))
    clear hrs hf4 f4 hr9 hkf
    go_wp2_with fail
    refine HRUN.out.mono ?_
    rintro e w5 ⟨rfl, F2, hv2, hm2, hg2⟩
    have hFvl : ∀ j, Fv j → j < w.heap.size := fun j hj => by have := H.out.2.2.2 j (hFv j hj); exact this
    have fC : Fresh w (w4.alloc (.cells #[.string r] 9)) := HF5.out.trans HF4.out.2.2
    have zC := fC.size
    have e0' : w5.cell? ⟨w.heap.size, 0, none⟩ = some (.pointer (some ⟨s, 0, none⟩)) := (hm2.cell (p := ⟨w.heap.size, 0, none⟩) (by have := HS5.out; show w.heap.size < _; simp; omega) (fun h => by have := hFvl w.heap.size h; omega)).trans e0
    have bs5 : Blk w5 s 201 #[.pointer (some ⟨v, 0, none⟩), .pointer (some ⟨tr, 0, none⟩)] := (H.out.1.keep fC).mut hm2 hs1
    have e2' : w5.cell? ⟨s, 1, none⟩ = some (.pointer (some ⟨tr, 0, none⟩)) := by rw [bs5.cell]; rfl
    have g2' : w5.frozen? ⟨s, 1, none⟩ = false := bs5.frozen 1
    have u6 : Mut (fun j => j = s) w5 (w5.setCell ⟨s, 1, none⟩ (.pointer (some ⟨x, 0, none⟩))) := (Mut.refl (fun j => j = s) w5).setCell (p := ⟨s, 1, none⟩) (.inl rfl) _
    have hfin : Hid (SDoPost R F s p m n k t q T qt dir name isDir short w (.returned (.tuple #[.int .i64 i, .int .i64 0])) (w5.setCell ⟨s, 1, none⟩ (.pointer (some ⟨x, 0, none⟩)))) := Lib.hid (by
      obtain ⟨hok, hR, hg3, ht3, f3, z3⟩ := HM3.out
      obtain ⟨hrs, hf4, f4⟩ := HF4.out
      have hz4 := hf4.size
      have hz5 := hm2.size
      have hz5' : w4.heap.size + 1 ≤ w5.heap.size := by simpa using hz5
      have hz6 := u6.size
      have hs5 := HS5.out
      have hz2 := HX.out.2.size
      have hA3 : ∀ j, A3 j → w.heap.size ≤ j ∧ j < w4.heap.size := fun j hj => by
        rcases hg3 j hj with h | h
        · omega
        · omega
      have hF2 : ∀ j, F2 j → F j ∨ (w4.heap.size ≤ j ∧ j < w5.heap.size) := fun j hj => by
        rcases hg2 j hj with h | h
        · exact .inl (hFv j h)
        · have := h.1; simp at this; exact .inr ⟨by omega, h.2⟩
      have hF2s : ¬ F2 s := fun h => by
        rcases hg2 s h with h | h
        · exact hs1 h
        · have := h.1; simp at this; omega
      rw [hrs] at hv2
      refine .inr ⟨hok, i, fr, bk, ext F w (w5.setCell ⟨s, 1, none⟩ (.pointer (some ⟨x, 0, none⟩))), hR, hi, rfl, ⟨v, x, F2, A3, bs5.set (i := 1), .inl hFs, fun j hj => ?_, fun j hj => .inr ⟨(hA3 j hj).1, by have := (hA3 j hj).2; omega⟩, hF2s, fun h => by have := (hA3 s h).1; omega, fun j hj h => ?_, hv2.mut u6 (fun j hj e => hF2s (e ▸ hj)), ?_, fun j hj => ?_⟩, ?_, Gr.ext _ _ _⟩
      · rcases hF2 j hj with h | h
        · exact .inl h
        · exact .inr ⟨by omega, by omega⟩
      · have ha := hA3 j hj
        rcases hg2 j h with h | h
        · have := hFvl j h; omega
        · have := h.1; simp at this; omega
      · exact (((ht3.fresh hf4).fresh ((Fresh.refl _).alloc _)).mut hm2 (fun j hj h => by have := hFvl j h; have := (hA3 j hj).1; omega)).mut u6 (fun j hj e => by have := (hA3 j hj).1; omega)
      · rcases hj with h | h
        · have := H.out.2.2.2 j h; omega
        · exact h.2
      · exact (fC.andMut (hm2.mono (T := F) (fun j _ h => hFv j h))).trans2 u6 (fun _ h => h) (fun j _ e => by rw [e]; exact hFs))
    clear hv2 hm2 hg2 u6 bs5 e1 e2 e3 e4 e5 e6 e7 e8 e9 e0
    go_wp2
    go_ret2
    exact hfin.out
  · have z5 := HF5.out.size
    have hf3 : Fresh w w3 := (HF5.out.trans HX.out.2).mut2 hm3 (fun j hj => by omega)
    have hfin : Hid (SDoPost R F s p m n k t q T qt dir name isDir short w (.returned (.tuple #[.int .i64 0, .int .i64 12])) w3) := Lib.hid (.inl ⟨12, by omega, .inr ⟨hok, rfl, i, fr, bk, hR, hi⟩, rfl, hf3⟩)
    clear hok hR hm3 hg3 hf3
    go_wp2
    go_ret2
    exact hfin.out
end Go.Proofs.YtpmlggjhfiljmaaGreatDoor
