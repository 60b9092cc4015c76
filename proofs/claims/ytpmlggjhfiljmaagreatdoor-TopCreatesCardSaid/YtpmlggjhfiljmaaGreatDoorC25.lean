/- Contracts that the law rests on, part 25 of 50 (EscS, EscT). Each states its own conditions. -/
import Derived.Test.YtpmlggjhfiljmaaGreatDoorC22
import Derived.Test.YtpmlggjhfiljmaaGreatDoorC23
import Derived.Test.YtpmlggjhfiljmaaGreatDoorC24
/- The reader: what is restored, plain. -/
namespace Go.Proofs.YtpmlggjhfiljmaaGreatDoor
open Go.RowKit
set_option linter.unusedVariables false
set_option linter.unnecessarySimpa false
set_option linter.unusedSimpArgs false
def rs0 (enc : Int) (s : ByteArray) : ByteArray × Bool := rsS enc s (s.size + 1) 0 [] ByteArray.empty true
/-- what Restore answers: the name on the disk, and 0; or nothing, and 3 -/
def RestIs (enc : Int) (s r : ByteArray) (k : Int) : Prop :=
  ((rs0 enc s).2 = true ∧ GoodN (rs0 enc s).1 ∧ presS enc (rs0 enc s).1 = s ∧ r = (rs0 enc s).1 ∧ k = 0) ∨
  (¬ ((rs0 enc s).2 = true ∧ GoodN (rs0 enc s).1 ∧ presS enc (rs0 enc s).1 = s) ∧ r = ByteArray.empty ∧ k = 3)
theorem joinS_ge : ∀ {l : List Int}, (∀ c ∈ l, isC c = true) → l.length ≤ (joinS l).size
  | [], _ => by simp [joinS]
  | c :: l, h => by
    have ih := joinS_ge (l := l) fun x hx => h x (by simp [hx])
    have := encS_pos (h c (by simp))
    simp only [joinS, ByteArray.size_append, List.length_cons]
    omega
theorem rs0_pres {enc : Int} {raw : ByteArray} (h0 : 0 ≤ enc) (h8 : enc ≤ 8) : rs0 enc (presS enc raw) = (raw, true) := by
  have hc := pcs_chain (s := raw) h0 h8
  have hl := joinS_ge (pres_chars h0 h8 hc)
  unfold rs0
  exact rs_present h0 h8 hc (by show _ ≤ (joinS (presL enc (prt raw 0 (pcsS enc raw)))).size + 1; omega)
theorem bytes_inj {a b : ByteArray} : a.toList = b.toList ↔ a = b := by
  rw [ByteArray.toList_eq, ByteArray.toList_eq]
  exact ⟨fun h => ByteArray.ext (Array.toList_inj.1 h), fun h => by rw [h]⟩
def goodB (s : ByteArray) : Bool := decide (1 ≤ s.size) && decide (s.size ≤ 255) && !(s.data.toList.any fun b => b.toNat == 0 || b.toNat == 47) && !(s.toList == dotS.toList) && !(s.toList == dotsS.toList)
theorem goodB_iff (s : ByteArray) : goodB s = true ↔ GoodN s := by
  unfold goodB GoodN
  rw [← zs_has]
  simp only [Bool.and_eq_true, Bool.not_eq_true', decide_eq_true_eq, beq_eq_false_iff_ne, ne_eq, bytes_inj, List.any_eq_false, Bool.or_eq_true, beq_iff_eq, and_assoc]
  constructor
  · rintro ⟨h1, h2, h3, h4, h5⟩
    exact ⟨h1, h2, fun ⟨b, hb, hz⟩ => h3 b hb hz, h4, h5⟩
  · rintro ⟨h1, h2, h3, h4, h5⟩
    exact ⟨h1, h2, fun b hb hz => h3 ⟨b, hb, hz⟩, h4, h5⟩
/-- Restore's answer -/
def restF (enc : Int) (s : ByteArray) : ByteArray × Int := if (rs0 enc s).2 = true ∧ goodB (rs0 enc s).1 = true ∧ (presS enc (rs0 enc s).1).toList = s.toList then ((rs0 enc s).1, 0) else (ByteArray.empty, 3)
theorem rest_fun {enc : Int} {s r : ByteArray} {k : Int} (h : RestIs enc s r k) : r = (restF enc s).1 ∧ k = (restF enc s).2 := by
  unfold restF
  rcases h with ⟨h1, h2, h3, rfl, rfl⟩ | ⟨h1, rfl, rfl⟩
  · rw [if_pos ⟨h1, (goodB_iff _).2 h2, by rw [h3]⟩]
    exact ⟨rfl, rfl⟩
  · rw [if_neg (fun q => h1 ⟨q.1, (goodB_iff _).1 q.2.1, bytes_inj.1 q.2.2⟩)]
    exact ⟨rfl, rfl⟩
theorem restF_pres {enc : Int} {raw : ByteArray} (h0 : 0 ≤ enc) (h8 : enc ≤ 8) (hg : GoodN raw) : restF enc (presS enc raw) = (raw, 0) := by
  unfold restF
  rw [rs0_pres h0 h8, if_pos ⟨rfl, (goodB_iff _).2 hg, rfl⟩]
/-- faces.Raw's answer -/
def rawF (enc : Int) (s : ByteArray) : ByteArray × Int := if 255 < s.size then (ByteArray.empty, 4) else restF enc s
/-- a round's state -/
structure RsAt (enc : Int) (s : ByteArray) (p : Nat) (o : List Int) (raw : ByteArray) (ok : Bool) : Prop where
  run : ∃ f, rsS enc s f p o raw ok = rs0 enc s ∧ (ok = true → s.size < f + p)
  pos : ok = true → p ≤ s.size
  len : o.length ≤ s.size
  len2 : ok = true → raw.size + 12 * o.length ≤ 12 * p
  in32 : In32 o
  sz : raw.size + 12 * o.length ≤ 12 * s.size
theorem RsAt.start (enc : Int) (s : ByteArray) : RsAt enc s 0 [] ByteArray.empty true :=
  ⟨⟨s.size + 1, rfl, fun _ => by omega⟩, fun _ => by omega, by simp, fun _ => Nat.le_refl _, (fun x hx => nomatch hx), by show 0 + 12 * 0 ≤ _; omega⟩
theorem RsAt.fin {enc : Int} {s : ByteArray} {p : Nat} {o : List Int} {raw : ByteArray} {ok : Bool} (h : RsAt enc s p o raw ok) (hd : ok = false ∨ s.size ≤ p) : rs0 enc s = (raw ++ flB enc o, ok && flK enc o) := by
  obtain ⟨f, h1, h2⟩ := h.run
  rw [← h1]
  cases f with
  | zero => rw [rsS]
  | succ f => rw [rsS, if_neg (by
    rintro ⟨q, q2⟩
    rcases hd with hd | hd
    · rw [hd] at q2; cases q2
    · omega)]
theorem RsAt.none {enc : Int} {s : ByteArray} {p : Nat} {o : List Int} {raw : ByteArray} (h : RsAt enc s p o raw true) (hp : p < s.size) (hn : (nxt s p).2 = 0) : RsAt enc s p o raw false := by
  obtain ⟨f, h1, h2⟩ := h.run
  obtain ⟨f', rfl⟩ : ∃ f', f = f' + 1 := ⟨f - 1, by have := h2 rfl; omega⟩
  rw [rsS, if_pos ⟨hp, rfl⟩, if_pos hn] at h1
  exact ⟨⟨f', h1, (fun h => nomatch h)⟩, (fun h => nomatch h), h.len, (fun h => nomatch h), h.in32, h.sz⟩
theorem RsAt.char {enc : Int} {s : ByteArray} {p : Nat} {o : List Int} {raw : ByteArray} (h : RsAt enc s p o raw true) (hp : p < s.size) (hn : (nxt s p).2 ≠ 0) (h37 : (nxt s p).1 ≠ 37) : RsAt enc s (p + (nxt s p).2.toNat) (o ++ [(nxt s p).1]) raw true := by
  obtain ⟨f, h1, h2⟩ := h.run
  obtain ⟨f', rfl⟩ : ∃ f', f = f' + 1 := ⟨f - 1, by have := h2 rfl; omega⟩
  rw [rsS, if_pos ⟨hp, rfl⟩, if_neg hn, if_neg h37] at h1
  have hq := nxt_pos hp hn
  have hl2 := h.len2 rfl
  have h2 := h2 rfl
  have hlen := h.len
  have hl3 : o.length ≤ p := by omega
  refine ⟨⟨f', h1, fun _ => by omega⟩, fun _ => by omega, by simp; omega, fun _ => by simp; omega, fun x hx => ?_, by simp; omega⟩
  rcases List.mem_append.1 hx with q | q
  · exact h.in32 x q
  · have q2 : x = (nxt s p).1 := List.mem_singleton.1 q
    have hc := isC_true (nxt_sound hp hn).1
    rw [← q2] at hc
    exact ⟨by omega, by omega⟩
theorem RsAt.esc {enc : Int} {s : ByteArray} {p : Nat} {o : List Int} {raw : ByteArray} (h : RsAt enc s p o raw true) (hp : p < s.size) (hn : (nxt s p).2 ≠ 0) (h37 : (nxt s p).1 = 37) (hk : escOK s (p + 1)) :
    RsAt enc s (p + 3) [] (raw ++ flB enc o ++ byteS (digitI (B s (p + 1)) * 16 + digitI (B s (p + 2)))) (flK enc o) := by
  obtain ⟨f, h1, h2⟩ := h.run
  obtain ⟨f', rfl⟩ : ∃ f', f = f' + 1 := ⟨f - 1, by have := h2 rfl; omega⟩
  rw [rsS, if_pos ⟨hp, rfl⟩, if_neg hn, if_pos h37, if_pos hk] at h1
  have hl2 := h.len2 rfl
  have h2 := h2 rfl
  have hk1 := hk.1
  have hfs := encL_size enc (opn enc o)
  have hfo := opn_len enc o
  have hff : (flB enc o).size = (encL enc (opn enc o)).size := rfl
  have hbs : ∀ c, (byteS c).size = 1 := fun c => by unfold byteS; rw [strOfNums_size]; rfl
  refine ⟨⟨f', h1, fun _ => by omega⟩, fun _ => by omega, by simp, fun _ => ?_, (fun x hx => nomatch hx), ?_⟩
  · simp only [ByteArray.size_append, hbs, List.length_nil]; omega
  · simp only [ByteArray.size_append, hbs, List.length_nil]; omega
theorem RsAt.bad {enc : Int} {s : ByteArray} {p : Nat} {o : List Int} {raw : ByteArray} (h : RsAt enc s p o raw true) (hp : p < s.size) (hn : (nxt s p).2 ≠ 0) (h37 : (nxt s p).1 = 37) (hk : ¬ escOK s (p + 1)) : RsAt enc s (p + 3) o raw false := by
  obtain ⟨f, h1, h2⟩ := h.run
  obtain ⟨f', rfl⟩ : ∃ f', f = f' + 1 := ⟨f - 1, by have := h2 rfl; omega⟩
  rw [rsS, if_pos ⟨hp, rfl⟩, if_neg hn, if_pos h37, if_neg hk] at h1
  exact ⟨⟨f', h1, (fun h => nomatch h)⟩, (fun h => nomatch h), h.len, (fun h => nomatch h), h.in32, h.sz⟩
end Go.Proofs.YtpmlggjhfiljmaaGreatDoor
/- Restore. -/
namespace Go.Proofs.YtpmlggjhfiljmaaGreatDoor
open Go.RowKit
set_option linter.unusedVariables false
set_option linter.unnecessarySimpa false
set_option linter.unusedSimpArgs false
def okOf (w : World) (g : Nat) : Nat := match w.cell? ⟨g, 3, none⟩ with | some (.bool true) => 1 | _ => 0
theorem RdAt.ok {w : World} {gr : Nat} {enc : Int} {raw : ByteArray} {o : List Int} {ok : Bool} (h : RdAt w gr enc raw o ok) : okOf w gr = if ok = true then 1 else 0 := by
  obtain ⟨v, h1, _⟩ := h
  unfold okOf
  rw [h1.cell]
  cases ok <;> rfl
theorem RdAt.new (w : World) (enc : Int) (b : Bool) : RdAt (w.alloc (.cells #[.int .i64 enc, .string ⟨#[]⟩, .slice none 0 0, .bool b] 182)) w.heap.size enc ByteArray.empty [] b := ⟨_, Blk.new _ _ _, OwnR.nil _ _⟩
def RsRel (enc : Int) (s : ByteArray) (gr : Nat) (w : World) (at_ : Value) (wr : World) : Prop :=
  ∃ (p : Nat) (o : List Int) (raw : ByteArray) (ok : Bool), at_ = .int .i64 p ∧ p ≤ s.size + 3 ∧ RdAt wr gr enc raw o ok ∧ RsAt enc s p o raw ok ∧ Fresh w wr
def RestPost (enc : Int) (s : ByteArray) (w : World) (e : Ending) (w' : World) : Prop := e = .returned (.tuple #[.string (restF enc s).1, .int .i64 (restF enc s).2]) ∧ Fresh w w'
theorem escOK_ext (s : ByteArray) (a : Nat) (ha : a ≤ s.size) : escOK (s.extract a s.size) 0 ↔ escOK s a := by
  unfold escOK
  rw [ByteArray.size_extract]
  constructor
  · rintro ⟨h1, h2, h3⟩
    rw [B_tail s a _ ha] at h2 h3
    exact ⟨by omega, h2, h3⟩
  · rintro ⟨h1, h2, h3⟩
    rw [B_tail s a _ ha, B_tail s a _ ha]
    exact ⟨by omega, h2, h3⟩
theorem rd_keep {W W' : World} {gr : Nat} {o : Obj} {v : Value} {xs : List Int} {t : TypeId} {cs : Array Value} (h1 : Blk W gr t cs) (h2 : OwnR W (gr + 1) v xs) (hg : (W.alloc o).grownBy W' v.ownBlock) : Blk W' gr t cs := by
  have h3 := h1.keep ((Fresh.refl W).alloc o)
  exact (hg.block gr h3.lt (fun e => by have := (h2.lt gr e.symm).1; omega)).trans h3
theorem rest_no {enc : Int} {s : ByteArray} (h : RestIs enc s ByteArray.empty 3) {w w' : World} (hf : Fresh w w') : RestPost enc s w (.returned (.tuple #[.string ⟨#[]⟩, .int .i64 3])) w' := by
  obtain ⟨h1, h2⟩ := rest_fun h
  unfold RestPost
  rw [← h1, ← h2]
  exact ⟨rfl, hf⟩
theorem rest_yes {enc : Int} {s r : ByteArray} (h : RestIs enc s r 0) {w w' : World} (hf : Fresh w w') : RestPost enc s w (.returned (.tuple #[.string r, .int .i64 0])) w' := by
  obtain ⟨h1, h2⟩ := rest_fun h
  unfold RestPost
  rw [← h1, ← h2]
  exact ⟨rfl, hf⟩
set_option maxHeartbeats 3200000 in
set_option maxRecDepth 100000 in
theorem restore_any (enc : Int) (s : ByteArray) (h0 : 0 ≤ enc) (h8 : enc ≤ 8) (hs : s.size ≤ 1000) (w : World) :
    Calls Tryz.prog 59 #[.int .i64 enc, .string s] w (RestPost enc s w) := by
  have hrb : rightB enc = true := by unfold rightB; simp; omega
  have HRT := Lib.hid (fun W => right_any enc W)
  rw [hrb] at HRT
  have HNX := Lib.hid (fun (p : Nat) W => utfNext_any s (p : Nat) (by omega) W)
  have HSS := Lib.hid (Nat.le_refl s.size)
  go_enter Tryz.func59, Tryz.ntmps59
  go_wp2_with fail
  refine (HRT.out _).mono ?_
  rintro e w1 ⟨rfl, rfl⟩
  clear hrb
  go_wp2_with fail
  go_loopw [7] (fun at_ wr => RsRel enc s w.heap.size w at_ wr) (fun at_ wr => okOf wr w.heap.size * (s.size + 10) + (s.size + 4 - (intOf at_).toNat))
  case atStart => exact ⟨0, [], ByteArray.empty, true, rfl, by omega, RdAt.new _ _ _, RsAt.start _ _, (Fresh.refl _).alloc _⟩
  case round =>
    obtain ⟨p, o, raw, ok, rfl, hp3, hat, hrs, hf⟩ := hrel
    obtain ⟨gr, hgr⟩ : ∃ gr, w.heap.size = gr := ⟨_, rfl⟩
    have HF := Lib.hid hf
    have HG := Lib.hid hgr
    rw [hgr] at hat ⊢
    have hokv := hat.ok
    have HOKV := Lib.hid hokv
    have HAT := Lib.hid hat
    have HRS := Lib.hid hrs
    have hge := HF.out.size
    obtain ⟨v, hblk, hown⟩ := hat
    have c0 : wr.cell? ⟨gr, 0, none⟩ = some (.int .i64 enc) := by rw [hblk.cell]; rfl
    have c2 : wr.cell? ⟨gr, 2, none⟩ = some v := by rw [hblk.cell]; rfl
    have c3 : wr.cell? ⟨gr, 3, none⟩ = some (.bool ok) := by rw [hblk.cell]; rfl
    have f2 : wr.frozen? ⟨gr, 2, none⟩ = false := hblk.frozen 2
    have f3 : wr.frozen? ⟨gr, 3, none⟩ = false := hblk.frozen 3
    have hgl := hblk.lt
    have HB := Lib.hid hblk
    have HO := Lib.hid hown
    have hown3 := hown
    unfold OwnR at hown3
    have hol := hrs.len
    have hsz := hrs.sz
    have H32 := Lib.hid hrs.in32
    clear hf hgr hokv hblk hown hrs
    by_cases hb : ok = true ∧ p < s.size
    · obtain ⟨rfl, hlt⟩ := hb
      have i1 : (p : Int) < (s.size : Int) := by omega
      have hnx : nextI s (p : Int) = nxt s p := by unfold nextI; rw [if_pos ⟨by omega, by omega⟩]; rfl
      have HN := Lib.hid (HNX.out p wr)
      rw [hnx] at HN
      obtain ⟨r, n, hrn⟩ : ∃ r n, nxt s p = (r, n) := ⟨_, _, rfl⟩
      have hr1 : (nxt s p).1 = r := by rw [hrn]
      have hr2 : (nxt s p).2 = n := by rw [hrn]
      rw [hr1, hr2] at HN
      have HR1 := Lib.hid hr1
      have HR2 := Lib.hid hr2
      clear hnx hrn hr1 hr2
      by_cases hn : n = 0
      · subst hn
        go_wp2_with fail
        refine HN.out.mono ?_
        rintro e w1 ⟨rfl, hf1⟩
        have hbd := (HAT.out.fresh hf1).bad false
        have HBD := Lib.hid hbd
        have f31 : w1.frozen? ⟨gr, 3, none⟩ = false := (Below.frozen hf1 (p := ⟨gr, 3, none⟩) hgl).trans f3
        have c31 : w1.cell? ⟨gr, 3, none⟩ = some (.bool true) := (Below.cell hf1 (p := ⟨gr, 3, none⟩) hgl).trans c3
        have HF1 := Lib.hid hf1
        have HFIN := Lib.hid (And.intro HBD.out.1 (And.intro (HRS.out.none hlt HR2.out) ((HF.out.trans HF1.out).setCell (p := ⟨gr, 3, none⟩) (by have := HG.out; show _ ≤ gr; omega) (.bool false))))
        have hmes : Hid (okOf (w1.setCell ⟨gr, 3, none⟩ (.bool false)) gr = 0) := Lib.hid (by rw [HBD.out.1.ok]; rfl)
        clear hbd hf1 c0 c2 c3 f2 f3
        go_wp2
        go_roundw
        case rel => exact ⟨p, o, raw, false, by go_num, hp3, HFIN.out.1, HFIN.out.2.1, HFIN.out.2.2⟩
        case measure =>
          rw [hmes.out, HOKV.out]
          simp [intOf]
      · have hn0 : ((n == 0) : Bool) = false := by simp [hn]
        have hns := nxt_pos hlt (by rw [HR2.out]; exact hn)
        rw [HR2.out] at hns
        obtain ⟨m, rfl⟩ := Int.eq_ofNat_of_zero_le (show 0 ≤ n by omega)
        have hm1 : 1 ≤ m := by omega
        have hm4 : p + m ≤ s.size := by omega
        clear hns
        have hne : (nxt s p).2 ≠ 0 := by rw [HR2.out]; exact hn
        have HNE := Lib.hid hne
        clear hne hn
        by_cases h37 : r = 37
        · subst h37
          have i2 : ((p : Int) + 1) ≤ (s.size : Int) := by omega
          have i3 : p + 1 ≤ s.size := by omega
          clear c0 c2 f2 f3 hown3
          by_cases hk : escOK s (p + 1)
          · have hk2 := (escOK_ext s (p + 1) (by omega)).2 hk
            have HE := Lib.hid (fun W (hW : Fresh wr W) => by
              have q := rescape_any gr enc raw o true (s.extract (p + 1) s.size) W h0 h8 (by omega) H32.out (by omega) (HAT.out.fresh hW) (by rw [ByteArray.size_extract]; omega)
              rw [if_pos hk2, B_tail s (p + 1) 0 (by omega), B_tail s (p + 1) 1 (by omega)] at q
              exact q)
            have HRE := Lib.hid (HRS.out.esc hlt HNE.out HR1.out hk)
            clear hk hk2
            go_wp2_with fail
            refine HN.out.mono ?_
            rintro e w1 ⟨rfl, hf1⟩
            go_wp2_with fail
            refine (HE.out _ hf1).mono ?_
            rintro e w2 ⟨rfl, hat2, hm2⟩
            have HFIN := Lib.hid (And.intro hat2 (And.intro hf1 hm2))
            clear hat2 hm2 hf1
            go_wp2
            go_roundw
            case rel => exact ⟨p + 3, [], _, _, by go_num, by omega, HFIN.out.1, HRE.out, Mut.fresh (Fresh.andMut (HF.out.trans HFIN.out.2.1) HFIN.out.2.2) (fun j hj q => by have := HG.out; omega)⟩
            case measure =>
              have := HFIN.out.1.ok
              rw [HOKV.out, this]
              simp [intOf]
              split <;> omega
          · have hk2 : ¬ escOK (s.extract (p + 1) s.size) 0 := fun h => hk ((escOK_ext s (p + 1) (by omega)).1 h)
            have HE := Lib.hid (fun W (hW : Fresh wr W) => by
              have q := rescape_any gr enc raw o true (s.extract (p + 1) s.size) W h0 h8 (by omega) H32.out (by omega) (HAT.out.fresh hW) (by rw [ByteArray.size_extract]; omega)
              rw [if_neg hk2] at q
              exact q)
            have HRE := Lib.hid (HRS.out.bad hlt HNE.out HR1.out hk)
            clear hk hk2
            go_wp2_with fail
            refine HN.out.mono ?_
            rintro e w1 ⟨rfl, hf1⟩
            go_wp2_with fail
            refine (HE.out _ hf1).mono ?_
            rintro e w2 ⟨rfl, hat2, hm2⟩
            have HFIN := Lib.hid (And.intro hat2 (And.intro hf1 hm2))
            clear hat2 hm2 hf1
            go_wp2
            go_roundw
            case rel => exact ⟨p + 3, o, raw, false, by go_num, by omega, HFIN.out.1, HRE.out, Mut.fresh (Fresh.andMut (HF.out.trans HFIN.out.2.1) HFIN.out.2.2) (fun j hj q => by have := HG.out; omega)⟩
            case measure =>
              have := HFIN.out.1.ok
              rw [HOKV.out, this]
              simp [intOf]
              omega
        · have hr37 : ((r == 37) : Bool) = false := by simp [h37]
          have hch := HRS.out.char hlt HNE.out (by rw [HR1.out]; exact h37)
          rw [HR1.out, HR2.out] at hch
          have HCH := Lib.hid hch
          clear hch h37
          obtain ⟨i0, hi0, hz0, hz1, hz2⟩ := info_parts info32
          go_wp2_with fail
          refine HN.out.mono ?_
          rintro e w1 ⟨rfl, hf1⟩
          have c21 : w1.cell? ⟨gr, 2, none⟩ = some v := (Below.cell hf1 (p := ⟨gr, 2, none⟩) hgl).trans c2
          have f21 : w1.frozen? ⟨gr, 2, none⟩ = false := (Below.frozen hf1 (p := ⟨gr, 2, none⟩) hgl).trans f2
          have hown4 := HO.out.keep hf1
          unfold OwnR at hown4
          have HF1 := Lib.hid hf1
          have HO4 := Lib.hid (And.intro (HB.out.keep hf1) (HO.out.keep hf1))
          have hgl1 := Nat.lt_of_lt_of_le hgl hf1.size
          clear hf1 c0 c2 c3 f2 f3 hown3
          go_wp2_with (at_builtin; refine wpList_append_own2 _ rfl _ _ 50 rfl (gr + 1) 21 i0 (.int .i32 0) 1 4 Tryz.underlying50 hi0 hz0 hz1 hz2 rfl (by decide) _ _ _ rfl (hown4.alloc _) ⟨w1.heap.size, 0, none⟩ 1 1 [.int .i32 r] rfl rfl ?c1 ?c2 ?c3 ?c4 ?c5 ?_)
          case c1 => exact cell_new1 _ _ _
          case c2 => intro u hu; simp at hu; subst hu; rfl
          case c3 => unfold maxLen; omega
          case c4 => omega
          case c5 => simp; omega
          intro v' w' hown' hgrow hblk
          obtain ⟨g', cap', rfl⟩ := own_slice hown' (by omega)
          have hb2 := rd_keep HO4.out.1 HO4.out.2 hgrow
          have f22 : w'.frozen? ⟨gr, 2, none⟩ = false := hb2.frozen 2
          have c22 : w'.cell? ⟨gr, 2, none⟩ = some v := by rw [hb2.cell]; rfl
          have hrd : RdAt (w'.setCell ⟨gr, 2, none⟩ (.slice (some ⟨g', 0, none⟩) (o.length + 1) cap')) gr enc raw (o ++ [r]) true := ⟨_, hb2.set (i := 2), OwnR.mut (OwnR.push hown') ((Mut.refl (fun k => k = gr) _).setCell (p := ⟨gr, 2, none⟩) (.inl rfl) _) fun k hk q => by omega⟩
          have hff : Fresh w (w'.setCell ⟨gr, 2, none⟩ (.slice (some ⟨g', 0, none⟩) (o.length + 1) cap')) := Fresh.setCell (Below.grown ((HF.out.trans HF1.out).alloc _) hgrow (by have := (HF.out.trans HF1.out).size; simp; omega) (fun g hg => by have := (HO4.out.2.lt g hg).1; have := HG.out; omega)) (by have := HG.out; show _ ≤ gr; omega) _
          have HFIN := Lib.hid (And.intro hrd hff)
          clear hown' hgrow hblk hb2 hrd hff
          go_wp2
          go_roundw
          case rel => exact ⟨p + m, o ++ [r], raw, true, by go_num, by omega, HFIN.out.1, HCH.out, HFIN.out.2⟩
          case measure =>
            have := HFIN.out.1.ok
            rw [HOKV.out, this]
            simp [intOf]
            omega
    · have hd : ok = false ∨ s.size ≤ p := by
        cases ok with
        | false => exact .inl rfl
        | true => exact .inr (by have : ¬ p < s.size := fun h => hb ⟨rfl, h⟩; omega)
      have hz := HRS.out.fin hd
      have HFL := Lib.hid (rflush_any gr enc raw o ok wr h0 h8 (by omega) H32.out (by omega) HAT.out)
      have hfs := encL_size enc (opn enc o)
      have hfo := opn_len enc o
      obtain ⟨raw1, hr1⟩ : ∃ raw1, raw ++ flB enc o = raw1 := ⟨_, rfl⟩
      obtain ⟨kf, hkf⟩ : ∃ kf, (ok && flK enc o) = kf := ⟨_, rfl⟩
      rw [hr1, hkf] at HFL hz
      have HZ := Lib.hid hz
      clear hz hr1 hkf hfs hfo
      have hcond : Hid ((∃ _ : ok = false, p < s.size) ∨ ¬ p < s.size) := Lib.hid (by
        rcases hd with h | h
        · by_cases q : p < s.size
          · exact .inl ⟨h, q⟩
          · exact .inr q
        · exact .inr (by omega))
      clear hb hd c0 c2 f2 f3 hown3
      rcases hcond.out with ⟨rfl, hlt⟩ | hlt
      all_goals
        first
        | (have i1 : (p : Int) < (s.size : Int) := by omega)
        | (have i1 : ¬ (p : Int) < (s.size : Int) := by omega)
        go_wp2_with fail
        refine HFL.out.mono ?_
        rintro e w2 ⟨rfl, ⟨v2, hb2, ho2⟩, hm2⟩
        have d1 : w2.cell? ⟨gr, 1, none⟩ = some (.string raw1) := by rw [hb2.cell]; rfl
        have d3 : w2.cell? ⟨gr, 3, none⟩ = some (.bool kf) := by rw [hb2.cell]; rfl
        have HF2 := Lib.hid (Mut.fresh (Fresh.andMut HF.out hm2) (fun j hj q => by have := HG.out; omega))
        have hgl2 := hb2.lt
        clear hb2 ho2 hm2 c3
        cases kf with
        | false =>
          go_wp2
          go_ret2
          exact rest_no (by unfold RestIs; rw [HZ.out]; exact .inr ⟨by simp, rfl, rfl⟩) HF2.out
        | true =>
          go_wp2_with fail
          refine (good_any raw1 _).mono ?_
          rintro e w3 ⟨b, rfl, hb, hf3⟩
          have HBB := Lib.hid hb
          have hgl3 := Nat.lt_of_lt_of_le hgl2 hf3.size
          have d13 : w3.cell? ⟨gr, 1, none⟩ = some (.string raw1) := (Below.cell hf3 (p := ⟨gr, 1, none⟩) hgl2).trans d1
          have HF3 := Lib.hid (HF2.out.trans hf3)
          clear hb d1 d3 hf3
          cases b with
          | false =>
            have HFIN : Hid (RestIs enc s ByteArray.empty 3) := Lib.hid (by unfold RestIs; rw [HZ.out]; exact .inr ⟨fun h => absurd (HBB.out.2 h.2.1) (by simp), rfl, rfl⟩)
            go_wp2
            go_ret2
            exact rest_no HFIN.out HF3.out
          | true =>
            have hgd := HBB.out.1 rfl
            have HPR := Lib.hid (present_any enc raw1 h0 h8 (by have := hgd.2.1; omega))
            have HGD := Lib.hid hgd
            clear hgd
            obtain ⟨ps, hps⟩ : ∃ ps, presS enc raw1 = ps := ⟨_, rfl⟩
            rw [hps] at HPR
            have HPS := Lib.hid hps
            clear hps
            go_wp2_with fail
            refine (HPR.out _).mono ?_
            rintro e w4 ⟨rfl, hf4⟩
            have d14 : w4.cell? ⟨gr, 1, none⟩ = some (.string raw1) := (Below.cell hf4 (p := ⟨gr, 1, none⟩) hgl3).trans d13
            have HF4 := Lib.hid (HF3.out.trans hf4)
            clear hf4 d13
            go_wp2
            · rename_i hq
              have hne : ps ≠ s := fun h => by rw [h] at hq; simp at hq
              have HNE : Hid (RestIs enc s ByteArray.empty 3) := Lib.hid (by unfold RestIs; rw [HZ.out]; exact .inr ⟨fun h => hne (by rw [← HPS.out]; exact h.2.2), rfl, rfl⟩)
              go_ret2
              exact rest_no HNE.out HF4.out
            · rename_i hq
              have hne : ps = s := bytes_inj.1 (by simpa using hq)
              have HNE : Hid (RestIs enc s raw1 0) := Lib.hid (by unfold RestIs; rw [HZ.out]; exact .inl ⟨rfl, HGD.out, by rw [← hne]; exact HPS.out, rfl, rfl⟩)
              go_ret2
              exact rest_yes HNE.out HF4.out
end Go.Proofs.YtpmlggjhfiljmaaGreatDoor
