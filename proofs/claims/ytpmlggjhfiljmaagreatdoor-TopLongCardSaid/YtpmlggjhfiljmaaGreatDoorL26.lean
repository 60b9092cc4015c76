/- Part 26 of what the law rests on. -/
import Derived.Test.YtpmlggjhfiljmaaGreatDoorL21
import Derived.Test.YtpmlggjhfiljmaaGreatDoorL25
set_option linter.all false
namespace Go.Proofs.YtpmlggjhfiljmaaGreatDoor
open Go.RowKit
def okOf (w : World) (g : Nat) : Nat := match w.cell? ⟨g, 3, none⟩ with | some (.bool true) => 1 | _ => 0
theorem RdAt.ok {w : World} {gr : Nat} {enc : Int} {raw : ByteArray} {o : List Int} {ok : Bool} (h : RdAt w gr enc raw o ok) : okOf w gr = if ok = true then 1 else 0 := by
  obtain ⟨v, h1, _⟩ := h
  unfold okOf
  rw [h1.cell]
  cases ok <;> rfl
theorem RdAt.new (w : World) (enc : Int) (b : Bool) : RdAt (w.alloc (.cells #[.int .i64 enc, .string ⟨#[]⟩, .slice none 0 0, .bool b] 182)) w.heap.size enc ByteArray.empty [] b := ⟨_, Blk.new _ _ _, OwnR.nil _ _⟩
def RsRel (enc : Int) (s : ByteArray) (gr : Nat) (w : World) (at_ : Value) (wr : World) : Prop :=
  ∃ (p : Nat) (o : List Int) (raw : ByteArray) (ok : Bool), at_ = .int .i64 p ∧ p ≤ s.size + 3 ∧ RdAt wr gr enc raw o ok ∧ RsAt enc s p o raw ok ∧ Fresh w wr
def RestPost (enc : Int) (s : ByteArray) (w : World) (e : Ending) (w' : World) : Prop := e = .returned (.tuple #[.string (restF enc s).1, .int .i64 (restF enc s).2]) ∧ Fresh w w'
theorem escOK_ext (s : ByteArray) (a : Nat) (ha : a ≤ s.size) : escOK (s.extract a s.size) 0 ↔ escOK s a := by
  unfold escOK
  rw [ByteArray.size_extract]
  constructor
  · rintro ⟨h1, h2, h3⟩
    rw [B_tail s a _ ha] at h2 h3
    exact ⟨by omega, h2, h3⟩
  · rintro ⟨h1, h2, h3⟩
    rw [B_tail s a _ ha, B_tail s a _ ha]
    exact ⟨by omega, h2, h3⟩
theorem rd_keep {W W' : World} {gr : Nat} {o : Obj} {v : Value} {xs : List Int} {t : TypeId} {cs : Array Value} (h1 : Blk W gr t cs) (h2 : OwnR W (gr + 1) v xs) (hg : (W.alloc o).grownBy W' v.ownBlock) : Blk W' gr t cs := by
  have h3 := h1.keep ((Fresh.refl W).alloc o)
  exact (hg.block gr h3.lt (fun e => by have := (h2.lt gr e.symm).1; omega)).trans h3
theorem rest_no {enc : Int} {s : ByteArray} (h : RestIs enc s ByteArray.empty 3) {w w' : World} (hf : Fresh w w') : RestPost enc s w (.returned (.tuple #[.string ⟨#[]⟩, .int .i64 3])) w' := by
  obtain ⟨h1, h2⟩ := rest_fun h
  unfold RestPost
  rw [← h1, ← h2]
  exact ⟨rfl, hf⟩
theorem rest_yes {enc : Int} {s r : ByteArray} (h : RestIs enc s r 0) {w w' : World} (hf : Fresh w w') : RestPost enc s w (.returned (.tuple #[.string r, .int .i64 0])) w' := by
  obtain ⟨h1, h2⟩ := rest_fun h
  unfold RestPost
  rw [← h1, ← h2]
  exact ⟨rfl, hf⟩
set_option maxHeartbeats 3200000 in
set_option maxRecDepth 100000 in
theorem restore_any (enc : Int) (s : ByteArray) (h0 : 0 ≤ enc) (h8 : enc ≤ 8) (hs : s.size ≤ 1000) (w : World) :
    Calls Tryz.prog 59 #[.int .i64 enc, .string s] w (RestPost enc s w) := by
  have hrb : rightB enc = true := by unfold rightB; simp; omega
  have HRT := Lib.hid (fun W => right_any enc W)
  rw [hrb] at HRT
  have HNX := Lib.hid (fun (p : Nat) W => utfNext_any s (p : Nat) (by omega) W)
  have HSS := Lib.hid (Nat.le_refl s.size)
  go_enter Tryz.func59, Tryz.ntmps59
  go_wp2_with fail
  refine (HRT.out _).mono ?_
  rintro e w1 ⟨rfl, rfl⟩
  clear hrb
  go_wp2_with fail
  go_loopw [7] (fun at_ wr => RsRel enc s w.heap.size w at_ wr) (fun at_ wr => okOf wr w.heap.size * (s.size + 10) + (s.size + 4 - (intOf at_).toNat))
  case atStart => exact ⟨0, [], ByteArray.empty, true, rfl, by omega, RdAt.new _ _ _, RsAt.start _ _, (Fresh.refl _).alloc _⟩
  case round =>
    obtain ⟨p, o, raw, ok, rfl, hp3, hat, hrs, hf⟩ := hrel
    obtain ⟨gr, hgr⟩ : ∃ gr, w.heap.size = gr := ⟨_, rfl⟩
    have HF := Lib.hid hf
    have HG := Lib.hid hgr
    rw [hgr] at hat ⊢
    have hokv := hat.ok
    have HOKV := Lib.hid hokv
    have HAT := Lib.hid hat
    have HRS := Lib.hid hrs
    have hge := HF.out.size
    obtain ⟨v, hblk, hown⟩ := hat
    have c0 : wr.cell? ⟨gr, 0, none⟩ = some (.int .i64 enc) := by rw [hblk.cell]; rfl
    have c2 : wr.cell? ⟨gr, 2, none⟩ = some v := by rw [hblk.cell]; rfl
    have c3 : wr.cell? ⟨gr, 3, none⟩ = some (.bool ok) := by rw [hblk.cell]; rfl
    have f2 : wr.frozen? ⟨gr, 2, none⟩ = false := hblk.frozen 2
    have f3 : wr.frozen? ⟨gr, 3, none⟩ = false := hblk.frozen 3
    have hgl := hblk.lt
    have HB := Lib.hid hblk
    have HO := Lib.hid hown
    have hown3 := hown
    unfold OwnR at hown3
    have hol := hrs.len
    have hsz := hrs.sz
    have H32 := Lib.hid hrs.in32
    clear hf hgr hokv hblk hown hrs
    by_cases hb : ok = true ∧ p < s.size
    · obtain ⟨rfl, hlt⟩ := hb
      have i1 : (p : Int) < (s.size : Int) := by omega
      have hnx : nextI s (p : Int) = nxt s p := by unfold nextI; rw [if_pos ⟨by omega, by omega⟩]; rfl
      have HN := Lib.hid (HNX.out p wr)
      rw [hnx] at HN
      obtain ⟨r, n, hrn⟩ : ∃ r n, nxt s p = (r, n) := ⟨_, _, rfl⟩
      have hr1 : (nxt s p).1 = r := by rw [hrn]
      have hr2 : (nxt s p).2 = n := by rw [hrn]
      rw [hr1, hr2] at HN
      have HR1 := Lib.hid hr1
      have HR2 := Lib.hid hr2
      clear hnx hrn hr1 hr2
      by_cases hn : n = 0
      · subst hn
        go_wp2_with fail
        refine HN.out.mono ?_
        rintro e w1 ⟨rfl, hf1⟩
        have hbd := (HAT.out.fresh hf1).bad false
        have HBD := Lib.hid hbd
        have f31 : w1.frozen? ⟨gr, 3, none⟩ = false := (Below.frozen hf1 (p := ⟨gr, 3, none⟩) hgl).trans f3
        have c31 : w1.cell? ⟨gr, 3, none⟩ = some (.bool true) := (Below.cell hf1 (p := ⟨gr, 3, none⟩) hgl).trans c3
        have HF1 := Lib.hid hf1
        have HFIN := Lib.hid (And.intro HBD.out.1 (And.intro (HRS.out.none hlt HR2.out) ((HF.out.trans HF1.out).setCell (p := ⟨gr, 3, none⟩) (by have := HG.out; show _ ≤ gr; omega) (.bool false))))
        have hmes : Hid (okOf (w1.setCell ⟨gr, 3, none⟩ (.bool false)) gr = 0) := Lib.hid (by rw [HBD.out.1.ok]; rfl)
        clear hbd hf1 c0 c2 c3 f2 f3
        go_wp2
        go_roundw
        case rel => exact ⟨p, o, raw, false, by go_num, hp3, HFIN.out.1, HFIN.out.2.1, HFIN.out.2.2⟩
        case measure =>
          rw [hmes.out, HOKV.out]
          simp [intOf]
      · have hn0 : ((n == 0) : Bool) = false := by simp [hn]
        have hns := nxt_pos hlt (by rw [HR2.out]; exact hn)
        rw [HR2.out] at hns
        obtain ⟨m, rfl⟩ := Int.eq_ofNat_of_zero_le (show 0 ≤ n by omega)
        have hm1 : 1 ≤ m := by omega
        have hm4 : p + m ≤ s.size := by omega
        clear hns
        have hne : (nxt s p).2 ≠ 0 := by rw [HR2.out]; exact hn
        have HNE := Lib.hid hne
        clear hne hn
        by_cases h37 : r = 37
        · subst h37
          have i2 : ((p : Int) + 1) ≤ (s.size : Int) := by omega
          have i3 : p + 1 ≤ s.size := by omega
          clear c0 c2 f2 f3 hown3
          by_cases hk : escOK s (p + 1)
          · have hk2 := (escOK_ext s (p + 1) (by omega)).2 hk
            have HE := Lib.hid (fun W (hW : Fresh wr W) => by
              have q := rescape_any gr enc raw o true (s.extract (p + 1) s.size) W h0 h8 (by omega) H32.out (by omega) (HAT.out.fresh hW) (by rw [ByteArray.size_extract]; omega)
              rw [if_pos hk2, B_tail s (p + 1) 0 (by omega), B_tail s (p + 1) 1 (by omega)] at q
              exact q)
            have HRE := Lib.hid (HRS.out.esc hlt HNE.out HR1.out hk)
            clear hk hk2
            go_wp2_with fail
            refine HN.out.mono ?_
            rintro e w1 ⟨rfl, hf1⟩
            go_wp2_with fail
            refine (HE.out _ hf1).mono ?_
            rintro e w2 ⟨rfl, hat2, hm2⟩
            have HFIN := Lib.hid (And.intro hat2 (And.intro hf1 hm2))
            clear hat2 hm2 hf1
            go_wp2
            go_roundw
            case rel => exact ⟨p + 3, [], _, _, by go_num, by omega, HFIN.out.1, HRE.out, Mut.fresh (Fresh.andMut (HF.out.trans HFIN.out.2.1) HFIN.out.2.2) (fun j hj q => by have := HG.out; omega)⟩
            case measure =>
              have := HFIN.out.1.ok
              rw [HOKV.out, this]
              simp [intOf]
              split <;> omega
          · have hk2 : ¬ escOK (s.extract (p + 1) s.size) 0 := fun h => hk ((escOK_ext s (p + 1) (by omega)).1 h)
            have HE := Lib.hid (fun W (hW : Fresh wr W) => by
              have q := rescape_any gr enc raw o true (s.extract (p + 1) s.size) W h0 h8 (by omega) H32.out (by omega) (HAT.out.fresh hW) (by rw [ByteArray.size_extract]; omega)
              rw [if_neg hk2] at q
              exact q)
            have HRE := Lib.hid (HRS.out.bad hlt HNE.out HR1.out hk)
            clear hk hk2
            go_wp2_with fail
            refine HN.out.mono ?_
            rintro e w1 ⟨rfl, hf1⟩
            go_wp2_with fail
            refine (HE.out _ hf1).mono ?_
            rintro e w2 ⟨rfl, hat2, hm2⟩
            have HFIN := Lib.hid (And.intro hat2 (And.intro hf1 hm2))
            clear hat2 hm2 hf1
            go_wp2
            go_roundw
            case rel => exact ⟨p + 3, o, raw, false, by go_num, by omega, HFIN.out.1, HRE.out, Mut.fresh (Fresh.andMut (HF.out.trans HFIN.out.2.1) HFIN.out.2.2) (fun j hj q => by have := HG.out; omega)⟩
            case measure =>
              have := HFIN.out.1.ok
              rw [HOKV.out, this]
              simp [intOf]
              omega
        · have hr37 : ((r == 37) : Bool) = false := by simp [h37]
          have hch := HRS.out.char hlt HNE.out (by rw [HR1.out]; exact h37)
          rw [HR1.out, HR2.out] at hch
          have HCH := Lib.hid hch
          clear hch h37
          obtain ⟨i0, hi0, hz0, hz1, hz2⟩ := info_parts info32
          go_wp2_with fail
          refine HN.out.mono ?_
          rintro e w1 ⟨rfl, hf1⟩
          have c21 : w1.cell? ⟨gr, 2, none⟩ = some v := (Below.cell hf1 (p := ⟨gr, 2, none⟩) hgl).trans c2
          have f21 : w1.frozen? ⟨gr, 2, none⟩ = false := (Below.frozen hf1 (p := ⟨gr, 2, none⟩) hgl).trans f2
          have hown4 := HO.out.keep hf1
          unfold OwnR at hown4
          have HF1 := Lib.hid hf1
          have HO4 := Lib.hid (And.intro (HB.out.keep hf1) (HO.out.keep hf1))
          have hgl1 := Nat.lt_of_lt_of_le hgl hf1.size
          clear hf1 c0 c2 c3 f2 f3 hown3
          go_wp2_with (at_builtin; refine wpList_append_own2 _ rfl _ _ 50 rfl (gr + 1) 21 i0 (.int .i32 0) 1 4 Tryz.underlying50 hi0 hz0 hz1 hz2 rfl (by decide) _ _ _ rfl (hown4.alloc _) ⟨w1.heap.size, 0, none⟩ 1 1 [.int .i32 r] rfl rfl ?c1 ?c2 ?c3 ?c4 ?c5 ?_)
          case c1 => exact cell_new1 _ _ _
          case c2 => intro u hu; simp at hu; subst hu; rfl
          case c3 => unfold maxLen; omega
          case c4 => omega
          case c5 => simp; omega
          intro v' w' hown' hgrow hblk
          obtain ⟨g', cap', rfl⟩ := own_slice hown' (by omega)
          have hb2 := rd_keep HO4.out.1 HO4.out.2 hgrow
          have f22 : w'.frozen? ⟨gr, 2, none⟩ = false := hb2.frozen 2
          have c22 : w'.cell? ⟨gr, 2, none⟩ = some v := by rw [hb2.cell]; rfl
          have hrd : RdAt (w'.setCell ⟨gr, 2, none⟩ (.slice (some ⟨g', 0, none⟩) (o.length + 1) cap')) gr enc raw (o ++ [r]) true := ⟨_, hb2.set (i := 2), OwnR.mut (OwnR.push hown') ((Mut.refl (fun k => k = gr) _).setCell (p := ⟨gr, 2, none⟩) (.inl rfl) _) fun k hk q => by omega⟩
          have hff : Fresh w (w'.setCell ⟨gr, 2, none⟩ (.slice (some ⟨g', 0, none⟩) (o.length + 1) cap')) := Fresh.setCell (Below.grown ((HF.out.trans HF1.out).alloc _) hgrow (by have := (HF.out.trans HF1.out).size; simp; omega) (fun g hg => by have := (HO4.out.2.lt g hg).1; have := HG.out; omega)) (by have := HG.out; show _ ≤ gr; omega) _
          have HFIN := Lib.hid (And.intro hrd hff)
          clear hown' hgrow hblk hb2 hrd hff
          go_wp2
          go_roundw
          case rel => exact ⟨p + m, o ++ [r], raw, true, by go_num, by omega, HFIN.out.1, HCH.out, HFIN.out.2⟩
          case measure =>
            have := HFIN.out.1.ok
            rw [HOKV.out, this]
            simp [intOf]
            omega
    · have hd : ok = false ∨ s.size ≤ p := by
        cases ok with
        | false => exact .inl rfl
        | true => exact .inr (by have : ¬ p < s.size := fun h => hb ⟨rfl, h⟩; omega)
      have hz := HRS.out.fin hd
      have HFL := Lib.hid (rflush_any gr enc raw o ok wr h0 h8 (by omega) H32.out (by omega) HAT.out)
      have hfs := encL_size enc (opn enc o)
      have hfo := opn_len enc o
      obtain ⟨raw1, hr1⟩ : ∃ raw1, raw ++ flB enc o = raw1 := ⟨_, rfl⟩
      obtain ⟨kf, hkf⟩ : ∃ kf, (ok && flK enc o) = kf := ⟨_, rfl⟩
      rw [hr1, hkf] at HFL hz
      have HZ := Lib.hid hz
      clear hz hr1 hkf hfs hfo
      have hcond : Hid ((∃ _ : ok = false, p < s.size) ∨ ¬ p < s.size) := Lib.hid (by
        rcases hd with h | h
        · by_cases q : p < s.size
          · exact .inl ⟨h, q⟩
          · exact .inr q
        · exact .inr (by omega))
      clear hb hd c0 c2 f2 f3 hown3
      rcases hcond.out with ⟨rfl, hlt⟩ | hlt
      all_goals
        first
        | (have i1 : (p : Int) < (s.size : Int) := by omega)
        | (have i1 : ¬ (p : Int) < (s.size : Int) := by omega)
        go_wp2_with fail
        refine HFL.out.mono ?_
        rintro e w2 ⟨rfl, ⟨v2, hb2, ho2⟩, hm2⟩
        have d1 : w2.cell? ⟨gr, 1, none⟩ = some (.string raw1) := by rw [hb2.cell]; rfl
        have d3 : w2.cell? ⟨gr, 3, none⟩ = some (.bool kf) := by rw [hb2.cell]; rfl
        have HF2 := Lib.hid (Mut.fresh (Fresh.andMut HF.out hm2) (fun j hj q => by have := HG.out; omega))
        have hgl2 := hb2.lt
        clear hb2 ho2 hm2 c3
        cases kf with
        | false =>
          go_wp2
          go_ret2
          exact rest_no (by unfold RestIs; rw [HZ.out]; exact .inr ⟨by simp, rfl, rfl⟩) HF2.out
        | true =>
          go_wp2_with fail
          refine (good_any raw1 _).mono ?_
          rintro e w3 ⟨b, rfl, hb, hf3⟩
          have HBB := Lib.hid hb
          have hgl3 := Nat.lt_of_lt_of_le hgl2 hf3.size
          have d13 : w3.cell? ⟨gr, 1, none⟩ = some (.string raw1) := (Below.cell hf3 (p := ⟨gr, 1, none⟩) hgl2).trans d1
          have HF3 := Lib.hid (HF2.out.trans hf3)
          clear hb d1 d3 hf3
          cases b with
          | false =>
            have HFIN : Hid (RestIs enc s ByteArray.empty 3) := Lib.hid (by unfold RestIs; rw [HZ.out]; exact .inr ⟨fun h => absurd (HBB.out.2 h.2.1) (by simp), rfl, rfl⟩)
            go_wp2
            go_ret2
            exact rest_no HFIN.out HF3.out
          | true =>
            have hgd := HBB.out.1 rfl
            have HPR := Lib.hid (present_any enc raw1 h0 h8 (by have := hgd.2.1; omega))
            have HGD := Lib.hid hgd
            clear hgd
            obtain ⟨ps, hps⟩ : ∃ ps, presS enc raw1 = ps := ⟨_, rfl⟩
            rw [hps] at HPR
            have HPS := Lib.hid hps
            clear hps
            go_wp2_with fail
            refine (HPR.out _).mono ?_
            rintro e w4 ⟨rfl, hf4⟩
            have d14 : w4.cell? ⟨gr, 1, none⟩ = some (.string raw1) := (Below.cell hf4 (p := ⟨gr, 1, none⟩) hgl3).trans d13
            have HF4 := Lib.hid (HF3.out.trans hf4)
            clear hf4 d13
            go_wp2
            · rename_i hq
              have hne : ps ≠ s := fun h => by rw [h] at hq; simp at hq
              have HNE : Hid (RestIs enc s ByteArray.empty 3) := Lib.hid (by unfold RestIs; rw [HZ.out]; exact .inr ⟨fun h => hne (by rw [← HPS.out]; exact h.2.2), rfl, rfl⟩)
              go_ret2
              exact rest_no HNE.out HF4.out
            · rename_i hq
              have hne : ps = s := bytes_inj.1 (by simpa using hq)
              have HNE : Hid (RestIs enc s raw1 0) := Lib.hid (by unfold RestIs; rw [HZ.out]; exact .inl ⟨rfl, HGD.out, by rw [← hne]; exact HPS.out, rfl, rfl⟩)
              go_ret2
              exact rest_yes HNE.out HF4.out
open Go.RowKit
/-! ### faces -/
def hashI (b : ByteArray) : Int := (b.data.toList.foldl (fun h c => bits .xor .u32 h (c.toNat : Int) * 16777619 % 4294967296) 2166136261)
def decL (n : Int) : List Int := if n < 10 then [48 + n] else [48 + n / 10, 48 + n % 10]
def hexL (h : Int) : List Int := [hexI (h / 268435456 % 16), hexI (h / 16777216 % 16), hexI (h / 1048576 % 16), hexI (h / 65536 % 16), hexI (h / 4096 % 16), hexI (h / 256 % 16), hexI (h / 16 % 16), hexI (h % 16)]
def nameS (h n : Int) : ByteArray := if n < 1 ∨ 1000000 < n then ByteArray.empty else strOfNums ([37, 126] ++ hexL h ++ [45] ++ decL n)
def faceS (enc : Int) (e : Ent) : ByteArray := if e.short = 0 then presS enc e.name else nameS (hashI e.name) e.short
def faceB (enc : Int) (name : ByteArray) (e : Ent) : Bool := (faceS enc e).toList == name.toList
theorem faceB_iff {enc : Int} {name : ByteArray} {e : Ent} : faceB enc name e = true ↔ faceS enc e = name := by unfold faceB; rw [beq_iff_eq, toList_inj]
theorem fidx_find {pr : Ent → Bool} : ∀ {l : List Ent}, (fidx pr l < 0 → l.find? pr = none) ∧ ∀ k : Nat, fidx pr l = k → ∃ hk : k < l.length, l.find? pr = some l[k]
  | [] => ⟨fun _ => rfl, fun k h => by simp [fidx] at h⟩
  | x :: l => by
    have ih := fidx_find (pr := pr) (l := l)
    unfold fidx
    cases hx : pr x with
    | true =>
      refine ⟨fun h => by simp at h, fun k h => ?_⟩
      simp only [if_true] at h
      have : k = 0 := by omega
      subst this
      exact ⟨by simp, by rw [List.find?_cons_of_pos hx]; rfl⟩
    | false =>
      have hne : ¬ pr x = true := by rw [hx]; simp
      refine ⟨fun h => ?_, fun k h => ?_⟩
      · rw [List.find?_cons_of_neg hne]
        simp only [Bool.false_eq_true, if_false] at h
        by_cases h2 : fidx pr l < 0
        · exact ih.1 h2
        · rw [if_neg h2] at h; omega
      · simp only [Bool.false_eq_true, if_false] at h
        by_cases h2 : fidx pr l < 0
        · rw [if_pos h2] at h; omega
        · rw [if_neg h2] at h
          cases k with
          | zero => omega
          | succ k =>
            obtain ⟨hk, h3⟩ := ih.2 k (by omega)
            exact ⟨by simpa using hk, by rw [List.find?_cons_of_neg hne, h3]; simp⟩
/-! ### paths -/
def splL : List UInt8 → List (List UInt8)
  | [] => [[]]
  | c :: l => if c.toNat = 47 then [] :: splL l else (match splL l with
    | h :: t => (c :: h) :: t
    | [] => [[c]])
def splB (s : ByteArray) : List ByteArray := (splL s.data.toList).map fun l => ⟨l.toArray⟩
def restP (path : ByteArray) : ByteArray := path.extract 1 path.size
def badN (l : List ByteArray) : Bool := l.any fun s => s.toList == ByteArray.empty.toList || s.toList == dotS.toList || s.toList == dotsS.toList
def splitP (path : ByteArray) : List ByteArray ⊕ Int :=
  if 1024 < path.size then .inr 4
  else if ¬ (1 ≤ path.size ∧ (path.data.toList.getD 0 0).toNat = 47) then .inr 3
  else if path.size = 1 then .inl []
  else if badN (splB (restP path)) = true then .inr 3
  else if 16 < (splB (restP path)).length then .inr 4
  else .inl (splB (restP path))
def stepT (enc : Int) (T : TreS) (d : Int) (name : ByteArray) : Ent ⊕ Int := match T.dirs d with
  | none => .inr (if T.files d = true then 8 else 5)
  | some l => match l.find? (faceB enc name) with
    | none => .inr 5
    | some e => .inl e
def walkT (enc : Int) (T : TreS) : Int × Bool → List ByteArray → (Int × Bool) ⊕ Int
  | st, [] => .inl st
  | st, n :: ns => match stepT enc T st.1 n with
    | .inl e => walkT enc T (e.node, e.dir) ns
    | .inr k => .inr k
def pathT (enc : Int) (T : TreS) (path : ByteArray) : (Int × Bool) ⊕ Int := match splitP path with
  | .inr k => .inr k
  | .inl l => walkT enc T (0, true) l
def parT (enc : Int) (T : TreS) (path : ByteArray) : (Int × ByteArray) ⊕ Int := match splitP path with
  | .inr k => .inr k
  | .inl l => if l = [] then .inr 1 else match walkT enc T (0, true) l.dropLast with
    | .inr k => .inr k
    | .inl st => if st.2 = true then .inl (st.1, l.getLastD ByteArray.empty) else .inr 8
open Go.RowKit
def RawPost (enc : Int) (s : ByteArray) (w : World) (e : Ending) (w' : World) : Prop := e = .returned (.tuple #[.string (rawF enc s).1, .int .i64 (rawF enc s).2]) ∧ Fresh w w'
theorem fraw_any (enc : Int) (s : ByteArray) (h0 : 0 ≤ enc) (h8 : enc ≤ 8) (hs : s.size ≤ 1000000) (w : World) : Calls Tryz.prog 18 #[.int .i64 enc, .string s] w (RawPost enc s w) := by
  by_cases hl : 255 < s.size
  · have HZ : Hid (rawF enc s = (ByteArray.empty, 4)) := Lib.hid (by unfold rawF; rw [if_pos hl])
    have i1 : (255 : Int) < (s.size : Int) := by omega
    clear hl
    go_enter Tryz.func18, Tryz.ntmps18
    go_wp2
    go_ret2
    exact ⟨by rw [HZ.out]; rfl, Fresh.refl _⟩
  · have HZ : Hid (rawF enc s = restF enc s) := Lib.hid (by unfold rawF; rw [if_neg hl])
    have i1 : ¬ (255 : Int) < (s.size : Int) := by omega
    have HR := Lib.hid (fun W => restore_any enc s h0 h8 (by omega) W)
    unfold RestPost at HR
    rw [← HZ.out] at HR
    unfold RawPost
    obtain ⟨r, hr⟩ : ∃ r, rawF enc s = r := ⟨_, rfl⟩
    rw [hr] at HR ⊢
    clear hl HZ hr
    obtain ⟨r, k⟩ := r
    go_enter Tryz.func18, Tryz.ntmps18
    go_wp2_with fail
    refine (HR.out _).mono ?_
    rintro e w1 ⟨rfl, hf1⟩
    go_wp2
    go_ret2
    exact ⟨rfl, hf1⟩
theorem long_any (enc : Int) (s : ByteArray) (h0 : 0 ≤ enc) (h8 : enc ≤ 8) (hs : s.size ≤ 10000) (w : World) : Calls Tryz.prog 19 #[.int .i64 enc, .string s] w fun e w' => e = .returned (.bool (decide (255 < ((presS enc s).size : Int)))) ∧ Fresh w w' := by
  have HP := Lib.hid (present_any enc s h0 h8 hs w)
  obtain ⟨r, hr⟩ : ∃ r, presS enc s = r := ⟨_, rfl⟩
  rw [hr] at HP ⊢
  clear hr
  go_enter Tryz.func19, Tryz.ntmps19
  go_wp2_with fail
  refine HP.out.mono ?_
  rintro e w1 ⟨rfl, hf1⟩
  go_wp2
  go_ret
  exact ⟨rfl, hf1⟩
def GT (w : World) : Prop := w.cell? ⟨3, 15, none⟩ = some (.int .u8 4) ∧ 3 < w.heap.size
theorem GT.mut {S : Nat → Prop} {w w' : World} (h : GT w) (hf : Mut S w w') (hn : ¬ S 3) : GT w' := ⟨(hf.cell (p := ⟨3, 15, none⟩) h.2 hn).trans h.1, Nat.lt_of_lt_of_le h.2 hf.size⟩
theorem GT.fresh {w w' : World} (h : GT w) (hf : Fresh w w') : GT w' := h.mut (hf.mut fun _ => False) (fun q => q)
def OfOK (enc : Int) (e : Ent) : Prop := ∀ W, GT W → Calls Tryz.prog 39 #[.int .i64 enc, entV e] W fun en W' => en = .returned (.string (faceS enc e)) ∧ Fresh W W'
theorem of_short (enc : Int) (e : Ent) (h0 : 0 ≤ enc) (h8 : enc ≤ 8) (hs : e.name.size ≤ 10000) (he : e.short = 0) : OfOK enc e := fun w _ => by
  obtain ⟨name, node, dir, cookie, short⟩ := e
  simp only at he hs
  subst he
  have HP := Lib.hid (fun W => present_any enc name h0 h8 hs W)
  unfold faceS
  rw [if_pos rfl]
  simp only
  obtain ⟨r, hr⟩ : ∃ r, presS enc name = r := ⟨_, rfl⟩
  rw [hr] at HP ⊢
  clear hr
  unfold entV
  simp only
  go_enter Tryz.func39, Tryz.ntmps39
  go_wp2_with fail
  refine (HP.out _).mono ?_
  rintro e w1 ⟨rfl, hf1⟩
  have HF := Lib.hid (((Fresh.refl w).alloc _).trans hf1)
  clear hf1
  go_wp2
  go_ret
  exact ⟨rfl, HF.out⟩
theorem enters_find1 : ∀ (args : Array Value) (W : World), Sem.run Tryz.prog (callFunc 270 args) W = .ok (.enter 270 args) W := by intro args w; go_simp
set_option maxHeartbeats 800000 in
theorem find1_any (enc : Int) (name : ByteArray) (e : Ent) (h : OfOK enc e) (b0 b1 : Nat) (w : World) (h0 : w.cell? ⟨b0, 0, none⟩ = some (.int .i64 enc)) (h1 : w.cell? ⟨b1, 0, none⟩ = some (.string name)) (l0 : b0 < w.heap.size) (l1 : b1 < w.heap.size) (hGT : GT w) :
    Calls Tryz.prog 270 #[entV e, .pointer (some ⟨b0, 0, none⟩), .pointer (some ⟨b1, 0, none⟩)] w fun en w' => en = .returned (.bool (faceB enc name e)) ∧ Fresh w w' := by
  have HO := Lib.hid h
  unfold faceB
  unfold OfOK at HO
  obtain ⟨r, hr⟩ : ∃ r, faceS enc e = r := ⟨_, rfl⟩
  rw [hr] at HO ⊢
  clear hr h
  obtain ⟨nm, node, dir, cookie, short⟩ := e
  unfold entV at HO ⊢
  simp only at HO ⊢
  go_enter Tryz.func270, Tryz.ntmps270
  go_wp2_with fail
  go_region_law (first
    | (go_simp; go_at_call 39; refine (HO.out _ (hGT.fresh (by repeat (first | exact Fresh.refl _ | refine Fresh.drew ?_ | refine Fresh.alloc ?_ _)))).mono ?_; rintro e w2 ⟨rfl, hf2⟩; have HF : Hid (Fresh w w2) := Lib.hid (Fresh.trans (by repeat (first | exact Fresh.refl _ | refine Fresh.drew ?_ | refine Fresh.alloc ?_ _)) hf2); have q1 : w2.cell? ⟨b1, 0, none⟩ = some (.string name) := (Below.cell HF.out (p := ⟨b1, 0, none⟩) l1).trans h1; clear hf2))
  all_goals
    go_wp2
    go_ret
    exact ⟨rfl, HF.out⟩
open Go.RowKit
section
variable (F : Nat → Prop) (s p : Nat) (m n : Int) (k t q : Nat) (T : TreS) (qt : Nat) (w : World)
theorem sover_any (h : StoAt w F s p m n k t q T qt) : Calls Tryz.prog 125 #[.pointer (some ⟨s, 0, none⟩)] w fun e w' => e = .returned (.bool false) ∧ w = w' := by
  obtain ⟨v, tr, Fv, At, hb, hFs, hFv, hAt, hs1, hs2, hd, hv, ht, hF⟩ := h
  have c0 : w.cell? ⟨s, 0, none⟩ = some (.pointer (some ⟨v, 0, none⟩)) := by rw [hb.cell]; rfl
  have HO := Lib.hid (over_any Fv v p m n img0 t k q w hv)
  clear hb hv ht hd hF hFv hAt
  go_enter Tryz.func125, Tryz.ntmps125
  go_wp2_with fail
  refine HO.out.mono ?_
  rintro e w1 ⟨rfl, rfl⟩
  go_wp2
  go_ret
  exact ⟨rfl, rfl⟩
theorem stree_any (h : StoAt w F s p m n k t q T qt) (hq : qt ≤ 1000000) (hbk : T.bk.length ≤ 100000) (hl : ∀ i l, T.dirs i = some l → l.length ≤ 100000) : Calls Tryz.prog 77 #[.pointer (some ⟨s, 0, none⟩)] w (TreeNew T qt w) := by
  obtain ⟨v, tr, Fv, At, hb, hFs, hFv, hAt, hs1, hs2, hd, hv, ht, hF⟩ := h
  have c1 : w.cell? ⟨s, 1, none⟩ = some (.pointer (some ⟨tr, 0, none⟩)) := by rw [hb.cell]; rfl
  have HC := Lib.hid (treeClone_any w At tr T qt ht hq hbk hl)
  clear hb hv ht hd hF hFv hAt hq hbk hl
  go_enter Tryz.func77, Tryz.ntmps77
  go_wp2_with fail
  refine HC.out.mono ?_
  rintro e w1 ⟨x, rfl, hx, hf⟩
  have HX := Lib.hid (And.intro hx hf)
  clear hx hf
  go_wp2
  go_ret
  exact ⟨x, rfl, HX.out.1, HX.out.2⟩
end
end Go.Proofs.YtpmlggjhfiljmaaGreatDoor
namespace Go.Proofs.YtpmlggjhfiljmaaGreatDoor
open Go.RowKit
section
variable (Fv : Nat → Prop) (s v p : Nat) (m n : Int) (k t q : Nat) (w : World)
set_option maxHeartbeats 1600000 in
theorem do1_any (b0 b1 : Nat) (r : ByteArray) (h0 : w.cell? ⟨b0, 0, none⟩ = some (.pointer (some ⟨s, 0, none⟩))) (h1 : w.cell? ⟨b1, 0, none⟩ = some (.string r)) (h2 : w.cell? ⟨s, 0, none⟩ = some (.pointer (some ⟨v, 0, none⟩)))
    (hv : VltAt w Fv v p m n img0 t k q) (hm : 0 ≤ m ∧ m + m ≤ n) (hn : n ≤ 1000000) (ht : 1 ≤ t) (hr : 1 ≤ r.size) (hr2 : r.size ≤ 60000) (hfit : (t : Int) + kfr r.size ≤ m) (hq : q + kfr r.size ≤ 80000) (hk : k ≤ 1000000) :
    Calls Tryz.prog 186 #[.pointer (some ⟨b0, 0, none⟩), .pointer (some ⟨b1, 0, none⟩)] w (VltPost Fv v p m n img0 (t + kfr r.size) (k + 1) (q + kfr r.size) w (.int .i64 0)) := by
  have HA := Lib.hid (fun W (hW : Fresh w W) => vappend_any Fv v p m n img0 t k q W (hv.fresh hW) r hm hn ht hr hr2 hfit hq hk)
  clear hv hm hn ht hr hr2 hfit hq hk
  go_enter Tryz.func186, Tryz.ntmps186
  go_wp2_with fail
  go_region_law (first
    | (go_simp; go_at_call 187; refine (HA.out _ (by repeat (first | exact Fresh.refl _ | refine Fresh.drew ?_))).mono ?_; rintro e w2 ⟨rfl, F2, hv2, hm2, hg2⟩))
  all_goals
    have hfin : VltPost Fv v p m n img0 (t + kfr r.size) (k + 1) (q + kfr r.size) w (.int .i64 0) (.returned (.int .i64 0)) w2 := ⟨rfl, F2, hv2, ⟨hm2.os, hm2.tape, hm2.output, hm2.size, hm2.block⟩, hg2⟩
    have HF := Lib.hid hfin
    clear hfin hv2 hm2 hg2
    go_wp2
    go_ret
    exact HF.out
theorem enters186 : ∀ (args : Array Value) (W : World), Sem.run Tryz.prog (callFunc 186 args) W = .ok (.enter 186 args) W := by intro args w; go_simp
set_option maxHeartbeats 1600000 in
theorem run1_any (b0 b1 : Nat) (fr : Value) (hfr : fr.cells.size = 1) (r : ByteArray) (h0 : w.cell? ⟨b0, 0, none⟩ = some (.pointer (some ⟨s, 0, none⟩))) (h1 : w.cell? ⟨b1, 0, none⟩ = some (.string r)) (h2 : w.cell? ⟨s, 0, none⟩ = some (.pointer (some ⟨v, 0, none⟩))) (l0 : b0 < w.heap.size) (l1 : b1 < w.heap.size) (l2 : s < w.heap.size)
    (hv : VltAt w Fv v p m n img0 t k q) (hm : 0 ≤ m ∧ m + m ≤ n) (hn : n ≤ 1000000) (ht : 1 ≤ t) (hr : 1 ≤ r.size) (hr2 : r.size ≤ 60000) (hfit : (t : Int) + kfr r.size ≤ m) (hq : q + kfr r.size ≤ 80000) (hk : k ≤ 1000000) :
    Calls Tryz.prog 190 #[.agg #[.func (.func 186) #[] #[.pointer (some ⟨b0, 0, none⟩), .pointer (some ⟨b1, 0, none⟩)], .func (.func 188) #[] #[.pointer (some ⟨b0, 0, none⟩)]]] w (VltPost Fv v p m n img0 (t + kfr r.size) (k + 1) (q + kfr r.size) w (.int .i64 0)) := by
  have HD := Lib.hid (fun W (hW : Fresh w W) => do1_any Fv s v p m n k t q W b0 b1 r ((Below.cell hW (p := ⟨b0, 0, none⟩) l0).trans h0) ((Below.cell hW (p := ⟨b1, 0, none⟩) l1).trans h1) ((Below.cell hW (p := ⟨s, 0, none⟩) l2).trans h2) (hv.fresh hW) hm hn ht hr hr2 hfit hq hk)
  have hen := enters186
  clear hv hm hn ht hr hr2 hfit hq hk h0 h1 h2
  go_enter Tryz.func190, Tryz.ntmps190
  go_wp2_with fail
  refine (HD.out _ ((Fresh.refl w).alloc _)).mono ?_
  rintro e w2 ⟨rfl, F2, hv2, hm2, hg2⟩
  have HF : Hid (VltPost Fv v p m n img0 (t + kfr r.size) (k + 1) (q + kfr r.size) w (.int .i64 0) (.returned (.int .i64 0)) w2) := Lib.hid ⟨rfl, F2, hv2, ((Fresh.refl w).alloc _).andMut hm2, hg2.ahead (by simp)⟩
  clear hv2 hm2 hg2
  go_wp2
  go_ret
  exact HF.out
end
end Go.Proofs.YtpmlggjhfiljmaaGreatDoor
namespace Go.Proofs.YtpmlggjhfiljmaaGreatDoor
open Go.RowKit
def SDoPost (R : Int → Int → List Int → Prop) (F : Nat → Prop) (s p : Nat) (m n : Int) (k t q : Nat) (T : TreS) (qt : Nat) (d : Int) (name : ByteArray) (isDir : Bool) (short : Int) (w : World) (e : Ending) (w' : World) : Prop :=
  (∃ r, r ≠ 0 ∧ (LinkErr T d name short r ∨ (LinkOk T d name short ∧ r = 12 ∧ ∃ k fr bk, R k fr bk ∧ 200 < k)) ∧ e = .returned (.tuple #[.int .i64 0, .int .i64 r]) ∧ Fresh w w') ∨
  (LinkOk T d name short ∧ ∃ i fr bk F', R i fr bk ∧ i ≤ 200 ∧ e = .returned (.tuple #[.int .i64 i, .int .i64 0]) ∧ StoAt w' F' s p m n (k + 1) (t + kfr (name.size + 9)) (q + kfr (name.size + 9)) (linkT T d name isDir short i fr bk) (qt + 3) ∧ Mut F w w' ∧ Gr F w w' F')
theorem LinkErr.ne {T : TreS} {d : Int} {name : ByteArray} {short r : Int} (h : LinkErr T d name short r) : r ≠ 0 := by
  rcases h with ⟨_, h⟩ | ⟨l, _, ⟨_, h⟩ | ⟨_, _, h⟩ | ⟨_, _, _, _, h⟩⟩
  · rw [h]; split <;> omega
  · omega
  · omega
  · omega
set_option maxRecDepth 100000 in
set_option maxHeartbeats 3200000 in
theorem sdo_any (R : Int → Int → List Int → Prop) (F : Nat → Prop) (s p : Nat) (m n : Int) (k t q : Nat) (T : TreS) (qt : Nat) (w : World) (h : StoAt w F s p m n k t q T qt) (hT : Takes R T qt) (dir : Int) (name : ByteArray) (isDir : Bool) (short : Int) (hd : 0 ≤ dir ∧ dir ≤ 65535) (hs : 0 ≤ short ∧ short ≤ 1000000) (hnm : name.size ≤ 255)
    (hqt : qt ≤ 100000) (hbk : T.bk.length ≤ 100000) (hl : ∀ i l, T.dirs i = some l → l.length ≤ 10000) (hnx : 0 ≤ T.next ∧ T.next ≤ 100000) (hm : 0 ≤ m ∧ m + m ≤ n) (hn : n ≤ 1000000) (ht : 1 ≤ t) (hfit : (t : Int) + 5 ≤ m) (hq : q ≤ 70000) (hk : k ≤ 100000) :
    Calls Tryz.prog 127 #[.pointer (some ⟨s, 0, none⟩), linkV dir name isDir short] w (SDoPost R F s p m n k t q T qt dir name isDir short w) := by
  obtain ⟨v, tr, Fv, At, hb, hFs, hFv, hAt, hs1, hs2, hdj, hv, htr, hFB⟩ := h
  have hsl := hb.lt
  have H := Lib.hid (And.intro hb (And.intro hv (And.intro htr hFB)))
  have HOV := Lib.hid (fun W (hW : Fresh w W) => over_any Fv v p m n img0 t k q W (hv.fresh hW))
  have HTC := Lib.hid (fun W (hW : Fresh w W) => treeClone_any W At tr T qt (htr.fresh hW) (by omega) hbk (fun i l hh => by have := hl i l hh; omega))
  have HEN := Lib.hid (fun W => dencodeL_any dir name isDir short hd hs hnm W)
  have HDO := Lib.hid (fun W A x (hx : TreeAt W A x T qt) => ddoL_any R W A x T qt hx hT dir name isDir short hd hs hnm hqt hl hnx)
  obtain ⟨W5, hW5⟩ : ∃ W5, ((w.alloc (.cells #[.pointer (some ⟨s, 0, none⟩)] 150)).alloc (.cells #[.int .i64 1, .int .i64 dir, .int .i64 0, .string name, .string ⟨#[]⟩, .bool isDir, .int .i64 short] 142)) = W5 := ⟨_, rfl⟩
  have f5 : Fresh w W5 := by rw [← hW5]; exact ((Fresh.refl w).alloc _).alloc _
  have b0 : Blk W5 w.heap.size 150 #[.pointer (some ⟨s, 0, none⟩)] := by rw [← hW5]; exact (Blk.new _ _ _).keep ((Fresh.refl _).alloc _)
  have b1 : Blk W5 (w.heap.size + 1) 142 #[.int .i64 1, .int .i64 dir, .int .i64 0, .string name, .string ⟨#[]⟩, .bool isDir, .int .i64 short] := by
    rw [← hW5]
    have := Blk.new (w.alloc (.cells #[.pointer (some ⟨s, 0, none⟩)] 150)) 142 #[.int .i64 1, .int .i64 dir, .int .i64 0, .string name, .string ⟨#[]⟩, .bool isDir, .int .i64 short]
    rw [World.size_alloc] at this
    exact this
  have HS5 : Hid (W5.heap.size = w.heap.size + 2) := Lib.hid (by rw [← hW5]; simp)
  have HSP : Hid (∀ W, Fresh W5 W → W.cell? ⟨w.heap.size, 0, none⟩ = some (.pointer (some ⟨s, 0, none⟩)) ∧ W.cell? ⟨s, 0, none⟩ = some (.pointer (some ⟨v, 0, none⟩)) ∧ W.cell? ⟨s, 1, none⟩ = some (.pointer (some ⟨tr, 0, none⟩)) ∧ W.cell? ⟨w.heap.size + 1, 0, none⟩ = some (.int .i64 1) ∧ W.cell? ⟨w.heap.size + 1, 1, none⟩ = some (.int .i64 dir) ∧ W.cell? ⟨w.heap.size + 1, 2, none⟩ = some (.int .i64 0) ∧ W.cell? ⟨w.heap.size + 1, 3, none⟩ = some (.string name) ∧ W.cell? ⟨w.heap.size + 1, 4, none⟩ = some (.string ⟨#[]⟩) ∧ W.cell? ⟨w.heap.size + 1, 5, none⟩ = some (.bool isDir) ∧ W.cell? ⟨w.heap.size + 1, 6, none⟩ = some (.int .i64 short)) := Lib.hid (fun W hW => by
    have c := b0.keep hW
    have d := b1.keep hW
    have a := hb.keep (f5.trans hW)
    exact ⟨by rw [c.cell]; rfl, by rw [a.cell]; rfl, by rw [a.cell]; rfl, by rw [d.cell]; rfl, by rw [d.cell]; rfl, by rw [d.cell]; rfl, by rw [d.cell]; rfl, by rw [d.cell]; rfl, by rw [d.cell]; rfl, by rw [d.cell]; rfl⟩)
  have HF5 := Lib.hid f5
  obtain ⟨e0, e1, e2, e3, e4, e5, e6, e7, e8, e9⟩ := HSP.out W5 (Fresh.refl _)
  clear hb hv htr hFB b0 b1 f5 hl hT
  go_enter Tryz.func127, Tryz.ntmps127
  go_wp2_with fail
  refine (HOV.out _ HF5.out).mono ?_
  rintro e w1 ⟨rfl, rfl⟩
  clear hW5
  go_wp2_with fail
  refine (HTC.out _ HF5.out).mono ?_
  rintro e w2 ⟨x, rfl, hx, hf2⟩
  have HX := Lib.hid (And.intro hx hf2)
  clear e0 e1 e2 e3 e4 e5 e6 e7 e8 e9
  obtain ⟨e0, e1, e2, e3, e4, e5, e6, e7, e8, e9⟩ := HSP.out w2 hf2
  clear hx hf2
  go_wp2_with fail
  refine (HDO.out w2 (fun g => W5.heap.size ≤ g ∧ g < w2.heap.size) x (HX.out.1.mono (fun g hg hh => ⟨hh, hg⟩))).mono ?_
  rintro e w3 (⟨r, hre, rfl, hf3⟩ | ⟨hok, i, fr, bk, A3, hR, hm3, hg3, ⟨hi, rfl, ht3⟩ | ⟨hi, rfl, _⟩⟩)
  · have hr0 := hre.ne
    have hrb : (r != 0) = true := by simp [hr0]
    have hfin : Hid (SDoPost R F s p m n k t q T qt dir name isDir short w (.returned (.tuple #[.int .i64 0, .int .i64 r])) w3) := Lib.hid (.inl ⟨r, hr0, .inl hre, rfl, (HF5.out.trans HX.out.2).trans hf3⟩)
    clear hre hf3 hr0
    go_wp2
    go_ret2
    exact hfin.out
  · have z5 := HF5.out.size
    have f3 : Fresh W5 w3 := HX.out.2.mut2 hm3 (fun j hj => hj.1)
    have HM3 := Lib.hid (And.intro hok (And.intro hR (And.intro hg3 (And.intro ht3 (And.intro f3 hm3.size)))))
    clear e0 e1 e2 e3 e4 e5 e6 e7 e8 e9
    obtain ⟨e0, e1, e2, e3, e4, e5, e6, e7, e8, e9⟩ := HSP.out w3 f3
    clear hok hR hm3 hg3 ht3 f3
    go_wp2_with fail
    refine (HEN.out _).mono ?_
    rintro e w4 ⟨r, rfl, hrs, hf4⟩
    have f4 : Fresh W5 (w4.alloc (.cells #[.string r] 9)) := (HM3.out.2.2.2.2.1.trans hf4).alloc _
    have hr9 : (w4.alloc (.cells #[.string r] 9)).cell? ⟨w4.heap.size, 0, none⟩ = some (.string r) := by
      have := (Blk.new w4 9 #[.string r]).cell 0
      exact this
    have z4 : W5.heap.size ≤ w4.heap.size := (HM3.out.2.2.2.2.1.trans hf4).size
    clear e0 e1 e2 e3 e4 e5 e6 e7 e8 e9
    obtain ⟨e0, e1, e2, e3, e4, e5, e6, e7, e8, e9⟩ := HSP.out _ f4
    have hkf : kfr r.size ≤ 5 := by rw [hrs]; unfold kfr; split <;> omega
    have HRUN := Lib.hid (run1_any Fv s v p m n k t q (w4.alloc (.cells #[.string r] 9)) w.heap.size w4.heap.size undef rfl r e0 hr9 e1 (by have := HS5.out; simp; omega) (by simp) (by simp; omega) (H.out.2.1.fresh (HF5.out.trans f4)) hm hn ht (by omega) (by omega) (by omega) (by omega) (by omega))
    have HF4 := Lib.hid (And.intro hrs (And.intro hf4 f4))
    clear hrs hf4 f4 hr9 hkf
    go_wp2_with fail
    refine HRUN.out.mono ?_
    rintro e w5 ⟨rfl, F2, hv2, hm2, hg2⟩
    have hFvl : ∀ j, Fv j → j < w.heap.size := fun j hj => by have := H.out.2.2.2 j (hFv j hj); exact this
    have fC : Fresh w (w4.alloc (.cells #[.string r] 9)) := HF5.out.trans HF4.out.2.2
    have zC := fC.size
    have e0' : w5.cell? ⟨w.heap.size, 0, none⟩ = some (.pointer (some ⟨s, 0, none⟩)) := (hm2.cell (p := ⟨w.heap.size, 0, none⟩) (by have := HS5.out; show w.heap.size < _; simp; omega) (fun h => by have := hFvl w.heap.size h; omega)).trans e0
    have bs5 : Blk w5 s 201 #[.pointer (some ⟨v, 0, none⟩), .pointer (some ⟨tr, 0, none⟩)] := (H.out.1.keep fC).mut hm2 hs1
    have e2' : w5.cell? ⟨s, 1, none⟩ = some (.pointer (some ⟨tr, 0, none⟩)) := by rw [bs5.cell]; rfl
    have g2' : w5.frozen? ⟨s, 1, none⟩ = false := bs5.frozen 1
    have u6 : Mut (fun j => j = s) w5 (w5.setCell ⟨s, 1, none⟩ (.pointer (some ⟨x, 0, none⟩))) := (Mut.refl (fun j => j = s) w5).setCell (p := ⟨s, 1, none⟩) (.inl rfl) _
    have hfin : Hid (SDoPost R F s p m n k t q T qt dir name isDir short w (.returned (.tuple #[.int .i64 i, .int .i64 0])) (w5.setCell ⟨s, 1, none⟩ (.pointer (some ⟨x, 0, none⟩)))) := Lib.hid (by
      obtain ⟨hok, hR, hg3, ht3, f3, z3⟩ := HM3.out
      obtain ⟨hrs, hf4, f4⟩ := HF4.out
      have hz4 := hf4.size
      have hz5 := hm2.size
      have hz5' : w4.heap.size + 1 ≤ w5.heap.size := by simpa using hz5
      have hz6 := u6.size
      have hs5 := HS5.out
      have hz2 := HX.out.2.size
      have hA3 : ∀ j, A3 j → w.heap.size ≤ j ∧ j < w4.heap.size := fun j hj => by
        rcases hg3 j hj with h | h
        · omega
        · omega
      have hF2 : ∀ j, F2 j → F j ∨ (w4.heap.size ≤ j ∧ j < w5.heap.size) := fun j hj => by
        rcases hg2 j hj with h | h
        · exact .inl (hFv j h)
        · have := h.1; simp at this; exact .inr ⟨by omega, h.2⟩
      have hF2s : ¬ F2 s := fun h => by
        rcases hg2 s h with h | h
        · exact hs1 h
        · have := h.1; simp at this; omega
      rw [hrs] at hv2
      refine .inr ⟨hok, i, fr, bk, ext F w (w5.setCell ⟨s, 1, none⟩ (.pointer (some ⟨x, 0, none⟩))), hR, hi, rfl, ⟨v, x, F2, A3, bs5.set (i := 1), .inl hFs, fun j hj => ?_, fun j hj => .inr ⟨(hA3 j hj).1, by have := (hA3 j hj).2; omega⟩, hF2s, fun h => by have := (hA3 s h).1; omega, fun j hj h => ?_, hv2.mut u6 (fun j hj e => hF2s (e ▸ hj)), ?_, fun j hj => ?_⟩, ?_, Gr.ext _ _ _⟩
      · rcases hF2 j hj with h | h
        · exact .inl h
        · exact .inr ⟨by omega, by omega⟩
      · have ha := hA3 j hj
        rcases hg2 j h with h | h
        · have := hFvl j h; omega
        · have := h.1; simp at this; omega
      · exact (((ht3.fresh hf4).fresh ((Fresh.refl _).alloc _)).mut hm2 (fun j hj h => by have := hFvl j h; have := (hA3 j hj).1; omega)).mut u6 (fun j hj e => by have := (hA3 j hj).1; omega)
      · rcases hj with h | h
        · have := H.out.2.2.2 j h; omega
        · exact h.2
      · exact (fC.andMut (hm2.mono (T := F) (fun j _ h => hFv j h))).trans2 u6 (fun _ h => h) (fun j _ e => by rw [e]; exact hFs))
    clear hv2 hm2 hg2 u6 bs5 e1 e2 e3 e4 e5 e6 e7 e8 e9 e0
    go_wp2
    go_ret2
    exact hfin.out
  · have z5 := HF5.out.size
    have hf3 : Fresh w w3 := (HF5.out.trans HX.out.2).mut2 hm3 (fun j hj => by omega)
    have hfin : Hid (SDoPost R F s p m n k t q T qt dir name isDir short w (.returned (.tuple #[.int .i64 0, .int .i64 12])) w3) := Lib.hid (.inl ⟨12, by omega, .inr ⟨hok, rfl, i, fr, bk, hR, hi⟩, rfl, hf3⟩)
    clear hok hR hm3 hg3 hf3
    go_wp2
    go_ret2
    exact hfin.out
end Go.Proofs.YtpmlggjhfiljmaaGreatDoor
