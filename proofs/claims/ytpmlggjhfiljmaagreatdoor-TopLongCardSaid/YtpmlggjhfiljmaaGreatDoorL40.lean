/- Part 40 of what the law rests on. -/
import Derived.Test.YtpmlggjhfiljmaaGreatDoorCards
import Derived.Lib.LaidU8
import Derived.KernelRfl
import Derived.Deep.Strs
import Derived.Test.YtpmlggjhfiljmaaGreatDoorL23
import Derived.Test.YtpmlggjhfiljmaaGreatDoorL25
import Derived.Test.YtpmlggjhfiljmaaGreatDoorL26
import Derived.Test.YtpmlggjhfiljmaaGreatDoorL27
import Derived.Test.YtpmlggjhfiljmaaGreatDoorL39
set_option linter.all false
namespace Go.Proofs.YtpmlggjhfiljmaaGreatDoor
theorem LQ.mem {L : List Item} {all : List ByteArray} (h : LQ L all) {raw : ByteArray} : raw ∈ all ↔ ∃ e ∈ Go.Proofs.YtpmlggjhfiljmaaGreatDoor.inL L 0, e.name = raw := by
  rw [h.inL, ← h.names]
  simp only [List.mem_map]
  constructor
  · rintro ⟨x, hx, rfl⟩; exact ⟨x.e, ⟨x, hx, rfl⟩, rfl⟩
  · rintro ⟨e, ⟨x, hx, rfl⟩, rfl⟩; exact ⟨x, hx, rfl⟩
theorem LQ.good {enc : Int} {L : List Item} {all : List ByteArray} {next : Int} (h : LQ L all) (hl : LI enc L next) : ∀ raw ∈ all, GoodN raw := fun raw hr => by
  rw [← h.names] at hr
  obtain ⟨x, hx, rfl⟩ := List.mem_map.1 hr
  exact hl.good x hx
theorem LQ.len {L : List Item} {all : List ByteArray} (h : LQ L all) : L.length = all.length := by rw [← h.names, List.length_map]
theorem LQ.dup {L L2 : List Item} {all : List ByteArray} {T T2 : TreS} (h : LQ L all) (ht : TR 0 L T) {raw : ByteArray} (hr : raw ∈ all) {a b : Int} (ho : LinkOut 0 L T 0 (Go.Proofs.YtpmlggjhfiljmaaGreatDoor.inL L 0) raw false (PickIs 0 (Go.Proofs.YtpmlggjhfiljmaaGreatDoor.inL L 0) raw) a b L2 T2) : a = 0 ∧ b = 6 := by
  have hg := h.good ht.li raw hr
  rcases ho with ⟨_, ha, _, _, ⟨h1, _⟩ | ⟨h1, _⟩ | ⟨_, h2, _⟩⟩ | ⟨_, _, h1, _⟩
  · have := hg.2.1; omega
  · exact absurd hg h1
  · exact ⟨ha, h2⟩
  · obtain ⟨e, he, hn⟩ := h.mem.1 hr
    exact absurd hn (h1 e he)
theorem link_bad {L L2 : List Item} {T T2 : TreS} {raw : ByteArray} (hg : ¬ GoodN raw) {l : List Ent} {P : Int → Prop} {a b : Int} (ho : LinkOut 0 L T 0 l raw false P a b L2 T2) : (b = 1 ∨ b = 3) ∧ a = 0 ∧ L2 = L ∧ T2 = T := by
  rcases ho with ⟨_, ha, hL, hT, ⟨_, hb⟩ | ⟨_, hb⟩ | ⟨h1, _⟩⟩ | ⟨_, h1, _⟩
  · exact ⟨.inl hb, ha, hL, hT⟩
  · exact ⟨.inr hb, ha, hL, hT⟩
  · exact absurd h1 hg
  · exact absurd h1 hg
theorem LQ.new {L L2 : List Item} {all : List ByteArray} {T T2 : TreS} (h : LQ L all) {raw : ByteArray} (hr : raw ∉ all) (hg : GoodN raw) {a b : Int} (ho : LinkOut 0 L T 0 (Go.Proofs.YtpmlggjhfiljmaaGreatDoor.inL L 0) raw false (PickIs 0 (Go.Proofs.YtpmlggjhfiljmaaGreatDoor.inL L 0) raw) a b L2 T2) : b = 0 ∧ LQ L2 (all ++ [raw]) := by
  rcases ho with ⟨_, ha, hL, hT, ⟨h1, _⟩ | ⟨h1, _⟩ | ⟨_, _, h2⟩⟩ | ⟨hb, _, h1, ⟨s, hs, rfl⟩, _⟩
  · have := hg.2.1; omega
  · exact absurd hg h1
  · exact absurd (h.mem.2 h2) hr
  · exact ⟨hb, h.plant hs⟩
theorem LQ.back {L L3 : List Item} {all : List ByteArray} {T T2 T3 : TreS} (h : LQ L all) (ht : TR 0 L T) (hn : T3.next ≤ 100) (ht3 : TR 0 L3 T3) {x : Item} (hx : x ∈ L) {a b : Int} (ho : LinkOut 0 (outOf L x.e.node) T2 0 (Go.Proofs.YtpmlggjhfiljmaaGreatDoor.inL (outOf L x.e.node) 0) x.e.name false (PickIs 0 (Go.Proofs.YtpmlggjhfiljmaaGreatDoor.inL (outOf L x.e.node) 0) x.e.name) a b L3 T3) :
    b = 0 ∧ ∃ e, (Go.Proofs.YtpmlggjhfiljmaaGreatDoor.inL L3 0).find? (faceB 0 (faceS 0 x.e)) = some e ∧ e.node = a := by
  have hg := ht.li.good x hx
  rcases ho with ⟨_, ha, hL, hT, ⟨h1, _⟩ | ⟨h1, _⟩ | ⟨_, _, e, he, h2⟩⟩ | ⟨hb, _, h1, ⟨s, hs, rfl⟩, _⟩
  · have := hg.2.1; omega
  · exact absurd hg h1
  · exfalso
    obtain ⟨y, hy, iy, rfl⟩ := mem_inL.1 he
    have hy := mem_outOf.1 hy
    exact hy.2 (by rw [ht.li.names_of hy.1 hx ((h.root y hy.1).trans (h.root x hx).symm) h2])
  · have hsx := h.again ht.li hx hs
    refine ⟨hb, ⟨x.e.name, a, false, T2.next, s⟩, ?_, rfl⟩
    have hf : faceS 0 x.e = faceS 0 ⟨x.e.name, a, false, T2.next, s⟩ := by rw [hsx]; rfl
    rw [hf]
    exact inL_find (by omega) (by omega) ht3.li hn (mem_inL.2 ⟨_, List.mem_append.2 (.inr (List.mem_singleton.2 rfl)), rfl, rfl⟩)
theorem LQ.unlink {L : List Item} {all : List ByteArray} {T : TreS} (h : LQ L all) (ht : TR 0 L T) {x : Item} (hx : x ∈ L) : unlinkE T 0 x.e.name false = 0 := by
  have hf := h.file x hx
  unfold unlinkE
  rw [findT_inL ht hx (h.root x hx)]
  simp only
  rw [if_neg (by simp), if_neg (by rw [hf]; simp), if_neg]
  intro q
  apply q
  rw [ht.dirs]
  unfold dirsL
  rw [ht.li.file_dir hx hf]
  rfl
theorem LQ.clean {L : List Item} {all : List ByteArray} {T : TreS} (h : LQ L all) (ht : TR 0 L T) (hn : T.next ≤ 100) : (∀ e ∈ Go.Proofs.YtpmlggjhfiljmaaGreatDoor.inL L 0, fitsB 0 e = true) ∧ ((Go.Proofs.YtpmlggjhfiljmaaGreatDoor.inL L 0).map (faceS 0)).Nodup ∧ (∀ e ∈ Go.Proofs.YtpmlggjhfiljmaaGreatDoor.inL L 0, e.name.size ≤ 10000) :=
  ⟨fun e he => by
    obtain ⟨x, hx, _, rfl⟩ := mem_inL.1 he
    exact fitsB_iff.2 (ht.li.fits x hx),
   inL_nodup (by omega) (by omega) ht.li hn 0,
   fun e he => by
    obtain ⟨x, hx, _, rfl⟩ := mem_inL.1 he
    have := (ht.li.good x hx).2.1
    omega⟩
open Go.RowKit
theorem zs_step {s : ByteArray} {k : Nat} (hk : k < s.size) (h : ¬ hasZs s k) (h0 : ¬ (s[k]'hk).toNat = 0) (h47 : ¬ (s[k]'hk).toNat = 47) : ¬ hasZs s (k + 1) := by
  rintro ⟨j, hj, hlt, hz⟩
  by_cases e : j = k
  · subst e; rcases hz with q | q
    · exact h0 q
    · exact h47 q
  · exact h ⟨j, hj, by omega, hz⟩
set_option maxRecDepth 100000 in
set_option maxHeartbeats 1600000 in
theorem refGood_any (s : ByteArray) (hs : s.size ≤ 100000) (w : World) : Calls Tryz.prog 37 #[.string s] w fun e w' => e = .returned (.bool (goodB s)) ∧ w = w' := by
  have HG := Lib.hid (goodB_iff s)
  obtain ⟨b, hb⟩ : ∃ b, goodB s = b := ⟨_, rfl⟩
  rw [hb] at HG ⊢
  clear hb
  go_enter Tryz.func37, Tryz.ntmps37
  go_wp2
  go_loop [3] (fun i => ∃ k : Nat, i = .int .i64 k ∧ k ≤ s.size ∧ ¬ hasZs s k) (fun i => s.size - (intOf i).toNat)
  case atStart => exact ⟨0, rfl, Nat.zero_le _, fun ⟨j, _, h, _⟩ => by omega⟩
  case round =>
    obtain ⟨k, rfl, hk, hz⟩ := hrel
    have HZ := Lib.hid hz
    clear hz
    by_cases hlt : k < s.size
    · by_cases h0 : (s[k]'hlt).toNat = 0
      · have hbf : Hid (b = false) := Lib.hid (by cases b; rfl; exact absurd ⟨k, hlt, hlt, .inl h0⟩ (HG.out.1 rfl).2.2.1)
        go_wp2
        go_ret
        exact ⟨by rw [hbf.out]; rfl, rfl⟩
      · by_cases h47 : (s[k]'hlt).toNat = 47
        · have hbf : Hid (b = false) := Lib.hid (by cases b; rfl; exact absurd ⟨k, hlt, hlt, .inr h47⟩ (HG.out.1 rfl).2.2.1)
          go_wp2
          go_ret
          exact ⟨by rw [hbf.out]; rfl, rfl⟩
        · have HN := Lib.hid (zs_step hlt HZ.out h0 h47)
          have b0 : (((s[k]'hlt).toNat : Int) == 0) = false := by simp; omega
          have b47 : (((s[k]'hlt).toNat : Int) == 47) = false := by simp; omega
          clear h0 h47
          go_wp2
          go_round
          case rel => exact ⟨k + 1, by go_num, by omega, HN.out⟩
          case measure => simp [intOf]; omega
    · have hks : k = s.size := by omega
      rw [hks] at HZ
      have HK := Lib.hid hks
      have hlt2 : ¬ (k : Int) < (s.size : Int) := by omega
      clear hks hlt hk
      by_cases z0 : s.size = 0
      · have hbf : Hid (b = false) := Lib.hid (by cases b; rfl; have := (HG.out.1 rfl).1; omega)
        have he : s.toList = [] := by
          rw [bytes_toList]
          exact List.eq_nil_of_length_eq_zero (by rw [Array.length_toList]; exact z0)
        clear z0 HK
        go_wp2
        go_ret
        exact ⟨by rw [hbf.out]; rfl, rfl⟩
      have n0 : s.toList.isEmpty = false := ne_str (by omega)
      have n1 : ¬ s.toList = [] := fun e => by rw [e] at n0; cases n0
      by_cases z1 : 255 < s.size
      · have hbf : Hid (b = false) := Lib.hid (by cases b; rfl; have := (HG.out.1 rfl).2.1; omega)
        have i1 : ¬ (s.size : Int) ≤ 255 := by omega
        clear z1 z0 HK
        go_wp2
        go_ret
        exact ⟨by rw [hbf.out]; rfl, rfl⟩
      have i1 : (s.size : Int) ≤ 255 := by omega
      by_cases z2 : s = dotS
      · have hbf : Hid (b = false) := Lib.hid (by cases b; rfl; exact absurd z2 (HG.out.1 rfl).2.2.2.1)
        have he : s.toList = [46] := by rw [bytes_toList, z2]; rfl
        clear z0 z1 z2 HK n0 n1
        go_wp2
        go_ret
        exact ⟨by rw [hbf.out]; rfl, rfl⟩
      have n2 : ¬ s.toList = [46] := fun e => z2 (bytes_of e)
      have n2b : (s.toList == [46]) = false := by simpa using n2
      by_cases z3 : s = dotsS
      · have hbf : Hid (b = false) := Lib.hid (by cases b; rfl; exact absurd z3 (HG.out.1 rfl).2.2.2.2)
        have he : s.toList = [46, 46] := by rw [bytes_toList, z3]; rfl
        clear z0 z1 z2 z3 HK n0 n1 n2 n2b
        go_wp2
        go_ret
        exact ⟨by rw [hbf.out]; rfl, rfl⟩
      have n3 : ¬ s.toList = [46, 46] := fun e => z3 (bytes_of e)
      have n3b : (s.toList == [46, 46]) = false := by simpa using n3
      have hbt : Hid (b = true) := Lib.hid (HG.out.2 ⟨by omega, by omega, HZ.out, z2, z3⟩)
      clear z0 z1 z2 z3 HK
      go_wp2
      go_ret
      exact ⟨by rw [hbt.out]; rfl, rfl⟩
open Go.RowKit
attribute [local go_sem ↓] Go.wp_at_zero Go.wp_at_succ
def FTreePost (T : TreS) (w : World) (e : Ending) (w' : World) : Prop := ∃ x q, e = .returned (.pointer (some ⟨x, 0, none⟩)) ∧ TreeAt w' (fun g => w.heap.size ≤ g) x T q ∧ Fresh w w'
theorem St.tree {F : Nat → Prop} {w : World} {f : Nat} {enc : Int} {p : Nat} {m n : Int} {L : List Item} {T : TreS} {c : Nat} (h : St w F f enc p m n L T c) (hc : c ≤ 90) : Calls Tryz.prog 34 #[.pointer (some ⟨f, 0, none⟩)] w (FTreePost T w) := by
  obtain ⟨⟨k, t, q, qt, hfs, b1, b2, b3, b4, b5⟩, htr, hnx, hbk⟩ := h
  have hTB := htr.tb (qt := qt) (by omega) (by omega) (by omega)
  obtain ⟨s, tr, Fs, At, hb, hFf, hFs, hAt, hf1, hf2, hd, hs, ht, hF⟩ := hfs
  have c0 : w.cell? ⟨f, 0, none⟩ = some (.pointer (some ⟨s, 0, none⟩)) := hb.cell 0
  have HS := Lib.hid (stree_any Fs s p m n k t q T qt w hs (by omega) (by omega) (fun i l hl => by have := hTB.len i l hl; omega))
  clear hb hs ht hd hF hFs hAt htr hTB
  go_enter Tryz.func34, Tryz.ntmps34
  go_wp2_with fail
  refine HS.out.mono ?_
  rintro e w1 ⟨x, rfl, hx, hf⟩
  have HX := Lib.hid (And.intro hx hf)
  clear hx hf
  go_wp2
  go_ret
  exact ⟨x, qt, rfl, HX.out.1, HX.out.2⟩
theorem gone_ix {x n : Int} (hx : 0 ≤ x) (hn : 0 < n) : 0 ≤ x % n ∧ x % n < n := ⟨Int.emod_nonneg _ (by omega), Int.emod_lt_of_pos _ hn⟩
theorem own_beside {w wr w2 : World} {F F2 : Nat → Prop} {v : Value} {all : List ByteArray} (h : OwnL wr (fun g => w.heap.size ≤ g ∧ ¬ F g) v all) (hm : Mut F wr w2) (hg : Gr F wr w2 F2) : OwnL w2 (fun g => w.heap.size ≤ g ∧ ¬ F2 g) v all := by
  have h1 : OwnL wr (fun g => (w.heap.size ≤ g ∧ ¬ F g) ∧ g < wr.heap.size) v all := OwnA.mono h (fun g h1 h2 => ⟨h2, h1⟩)
  have h2 : OwnL w2 (fun g => (w.heap.size ≤ g ∧ ¬ F g) ∧ g < wr.heap.size) v all := OwnA.mut h1 hm (fun g hg => hg.1.2)
  exact OwnA.mono h2 (fun g _ hh => ⟨hh.1.1, fun q => by
    rcases hg g q with r | r
    · exact hh.1.2 r
    · omega⟩)
def LgRel (raws : List ByteArray) (w : World) (f p : Nat) (v i : Value) (wr : World) : Prop := ∃ (k : Nat) (L : List Item) (T : TreS) (all : List ByteArray) (F : Nat → Prop), i = .int .i64 k ∧ k ≤ raws.length ∧ St wr F f 0 p 300 600 L T k ∧ LQ L all ∧ all.length ≤ k ∧ OwnL wr (fun g => w.heap.size ≤ g ∧ ¬ F g) v all ∧ (∀ j, F j → w.heap.size ≤ j) ∧ Fresh w wr
def LgIn (all : List ByteArray) (r : ByteArray) (w2 : World) (i : Value) (wr : World) : Prop := ∃ k : Nat, i = .int .i64 k ∧ k ≤ all.length ∧ (∀ j (hj : j < all.length), j < k → all[j] ≠ r) ∧ Fresh w2 wr
set_option maxRecDepth 100000 in
set_option maxHeartbeats 12800000 in
theorem long_in (ad : Option Addr) (ca : Nat) (raws : List ByteArray) (gone : Int) (w : World) (hGT : GT w) (hu : SlS w (fun _ => True) (.slice ad raws.length ca) raws) (hl : raws.length ≤ 8) (hgo : 0 ≤ gone ∧ gone < 256) :
    Calls Tryz.prog 7 #[.slice ad raws.length ca, .int .u8 gone] w fun e w' => e = .returned (.bool true) ∧ Below w.heap.size w w' := by
  have HCS := Lib.hid hu.cases
  have HG := Lib.hid hGT
  obtain ⟨n, hn⟩ : ∃ n, raws.length = n := ⟨_, rfl⟩
  have HN := Lib.hid hn
  rw [hn] at hl ⊢
  have i8 : ¬ (8 : Int) < (n : Int) := by omega
  obtain ⟨hgo0, hgo1⟩ := hgo
  clear hu hn
  go_enter Tryz.func7, Tryz.ntmps7
  go_wp2_with fail
  refine (awake_any _ hGT).mono ?_
  rintro e w1 ⟨rfl, h1⟩
  have H1 := Lib.hid h1
  clear h1 hGT
  go_wp2
  go_loopw [5] (fun i wr => ∃ k : Nat, i = .int .i64 k ∧ k ≤ n ∧ (∀ j (hj : j < raws.length), j < k → raws[j].size ≤ 400) ∧ Fresh w wr) (fun i _ => n - (intOf i).toNat)
  case atStart => exact ⟨0, rfl, by omega, fun j hj h => by omega, H1.out⟩
  case round =>
    obtain ⟨k, rfl, hk, hal, hf⟩ := hrel
    have HAL := Lib.hid (And.intro hal hf)
    clear hal hf
    by_cases hlt : k < n
    · rcases HCS.out with ⟨e0, _⟩ | ⟨_, g, off, cap, hv, hcap, _, hgl, hc⟩
      · have := HN.out; rw [e0] at this; simp at this; omega
      injection hv with hv1 _ hv2
      subst hv1 hv2
      have hkl : k < raws.length := by rw [HN.out]; exact hlt
      have c0 := (Below.cell HAL.out.2 (p := ⟨g, off + k, none⟩) hgl).trans (hc k hkl)
      obtain ⟨r, hr⟩ : ∃ r, raws[k] = r := ⟨_, rfl⟩
      have HR := Lib.hid hr
      rw [hr] at c0
      have i1 : (k : Int) < (n : Int) := by omega
      clear hc hr
      by_cases h4 : 400 < r.size
      · have i4 : (400 : Int) < (r.size : Int) := by omega
        clear h4
        go_wp2
        go_ret
        exact ⟨rfl, HAL.out.2.below⟩
      · have i4 : ¬ (400 : Int) < (r.size : Int) := by omega
        have H4 : Hid (r.size ≤ 400) := Lib.hid (by omega)
        clear h4
        go_wp2
        go_roundw
        case rel => exact ⟨k + 1, by go_num, by omega, fun j hj hlt' => (by
          by_cases e : j = k
          · subst e; rw [HR.out]; exact H4.out
          · exact HAL.out.1 j hj (by omega)), HAL.out.2⟩
        case measure => simp [intOf]; omega
    · obtain rfl : k = n := by omega
      have HSM : Hid (∀ r ∈ raws, r.size ≤ 400) := Lib.hid (fun r hr => by
        obtain ⟨j, hj, rfl⟩ := List.mem_iff_getElem.1 hr
        exact HAL.out.1 j hj (by rw [← HN.out]; exact hj))
      have HF := Lib.hid HAL.out.2
      have HOP := Lib.hid (fun F p W (hd : DevAt W F p 600 (fun _ => zer 64) 0) (hF : FB F W) => opened_any F 0 p 600 W 300 hd hF rfl (by omega) (by omega) (by omega) (by omega))
      clear HAL hlt
      go_wp2_with fail
      refine (secNew_any 600 (by omega) (by omega) _).mono ?_
      rintro e wa ⟨p, rfl, hd, hfa⟩
      have HA := Lib.hid (And.intro hd (HF.out.trans hfa))
      have HWZ := Lib.hid HF.out.size
      clear hd hfa HF
      go_wp2_with fail
      refine (HOP.out _ p wa HA.out.1 (fun j hj => hj.2)).mono ?_
      rintro e wb ⟨f, T0', qt, Fb, rfl, hfs, hT, hqt, hmb, hgb⟩
      have HST : Hid (St wb Fb f 0 p 300 600 [] T0' 0 ∧ (∀ j, Fb j → w.heap.size ≤ j) ∧ Fresh w wb) := Lib.hid ⟨St.new hfs hT hqt, fun j hj => by
        have z1 := HWZ.out
        have z2 := HA.out.2.size
        rcases hgb j hj with h | h
        · exact Nat.le_trans z1 h.1
        · exact Nat.le_trans z2 h.1, HA.out.2.mut2 hmb (fun j hj => Nat.le_trans HWZ.out hj.1)⟩
      clear hfs hT hqt hmb hgb HOP
      go_wp2
      go_loopw [7, 8] (fun v i wr => LgRel raws w f p v i wr) (fun _ i _ => k - (intOf i).toNat)
      case atStart => exact ⟨0, [], T0', [], Fb, rfl, by omega, HST.out.1, LQ.zero, Nat.le_refl _, OwnA.nil _ _ _ _, HST.out.2.1, HST.out.2.2⟩
      case round =>
        obtain ⟨j, L, T, all, F, rfl, hj, hst, hlq, hla, hown, hFb, hf⟩ := hrel
        obtain ⟨av, cv, rfl⟩ := hown.shape
        have HV := Lib.hid (And.intro hst (And.intro hlq (And.intro hown (And.intro hFb hf))))
        have hjk : j ≤ k := by have := HN.out; omega
        clear hst hlq hown hFb hf hj
        by_cases hlt : j < k
        · rcases HCS.out with ⟨e0, _⟩ | ⟨_, g, off, cap, hv, hcap, _, hgl, hc⟩
          · have := HN.out; rw [e0] at this; simp at this; omega
          injection hv with hv1 _ hv2
          subst hv1 hv2
          have hkl : j < raws.length := by rw [HN.out]; exact hlt
          have H400 := Lib.hid (HSM.out raws[j] (List.getElem_mem _))
          have CR := Lib.hid (fun W (hf : Fresh w W) => (Below.cell hf (p := ⟨g, off + j, none⟩) hgl).trans (hc j hkl))
          obtain ⟨r, hr⟩ : ∃ r, raws[j] = r := ⟨_, rfl⟩
          rw [hr] at CR H400
          have i1 : (j : Int) < (k : Int) := by omega
          have c0 := CR.out _ HV.out.2.2.2.2
          have HPL := Lib.hid (St.plant HV.out.1 (HG.out.fresh HV.out.2.2.2.2) ⟨#[47]⟩ r false (by decide) (by omega) (by omega) (by have := H400.out; omega) (root_list HV.out.1.tr) HV.out.1.tr.root (by omega) (by omega) (by omega) (by omega) (by omega))
          have HGR := Lib.hid (fun W => refGood_any r (by have := H400.out; omega) W)
          clear hc hr
          go_wp2_with fail
          refine HPL.out.mono ?_
          rintro e w2 ⟨a, b, L2, T2, F2, hlo, rfl, hst2, hm2, hg2⟩
          have hf2 : Fresh w w2 := HV.out.2.2.2.2.mut2 hm2 HV.out.2.2.2.1
          have hF2 : ∀ i, F2 i → w.heap.size ≤ i := fun i hi => by
            have z := HV.out.2.2.2.2.size
            rcases hg2 i hi with q | q
            · exact HV.out.2.2.2.1 i q
            · exact Nat.le_trans z q.1
          have HX := Lib.hid (And.intro hlo (And.intro hst2 (And.intro (own_beside HV.out.2.2.1 hm2 hg2) (And.intro hF2 hf2))))
          have HQ := Lib.hid (And.intro HV.out.2.1 HV.out.1.tr)
          clear hlo hst2 hm2 hg2 hf2 hF2 HPL c0 HV
          go_wp2
          go_loopw [11] (fun i wq => LgIn all r w2 i wq) (fun i _ => all.length - (intOf i).toNat)
          case atStart => exact ⟨0, rfl, Nat.zero_le _, fun _ _ h => by omega, Fresh.refl _⟩
          case round =>
            obtain ⟨u, rfl, hu, hal, hf3⟩ := hrel
            have HU := Lib.hid (And.intro hal hf3)
            clear hal hf3
            have c0 := CR.out _ (HX.out.2.2.2.2.trans HU.out.2)
            by_cases hltu : u < all.length
            · have i2 : (u : Int) < (all.length : Int) := by omega
              rcases SlS.cases (OwnL.sl (OwnA.fresh HX.out.2.2.1 HU.out.2)) with ⟨e0, _⟩ | ⟨_, g2, off2, cap2, hv2, hcap2, _, hgl2, hc2⟩
              · rw [e0] at hltu; simp at hltu
              injection hv2 with hv3 _ hv4
              subst hv3 hv4
              have d0 := hc2 u hltu
              have HAU : Hid (∀ q : all[u] ≠ r, ∀ j' (hj : j' < all.length), j' < u + 1 → all[j'] ≠ r) := Lib.hid (fun q j' hj' hlt' => by
                by_cases e : j' = u
                · subst e; exact q
                · exact HU.out.1 j' hj' (by omega))
              have HME : Hid (all[u] = r → r ∈ all) := Lib.hid (fun q => by rw [← q]; exact List.getElem_mem _)
              obtain ⟨y, hy⟩ : ∃ y, all[u] = y := ⟨_, rfl⟩
              rw [hy] at d0 HAU HME
              clear hc2 hy
              by_cases hyr : y = r
              · subst hyr
                obtain ⟨rfl, rfl⟩ := HQ.out.1.dup HQ.out.2 (HME.out rfl) HX.out.1
                have hq := Lib.hid (HX.out.2.2.2.2.trans HU.out.2)
                clear HAU HME HU HX HQ
                go_wp2
                go_quiet (fail)
                go_wp2
                go_ret
                exact ⟨rfl, (hq.out.drewN _).below⟩
              · have b1 : (y.toList == r.toList) = false := by rw [Bool.eq_false_iff]; exact fun q => hyr (bytes_inj.1 (beq_iff_eq.1 q))
                have hal2 := Lib.hid (HAU.out hyr)
                have hfq := Lib.hid HU.out.2
                clear HAU HME HU HX HQ hyr
                go_wp2
                go_quiet (fail)
                go_wp2
                exact ⟨⟨u + 1, by go_num, by omega, hal2.out, hfq.out.drewN _⟩, by simp [intOf]; omega⟩
            · have hnm : r ∉ all := fun q => by
                obtain ⟨i, hi, he⟩ := List.mem_iff_getElem.1 q
                exact HU.out.1 i hi (by omega) he
              obtain ⟨gb, hgb⟩ : ∃ gb, goodB r = gb := ⟨_, rfl⟩
              have hGB := Lib.hid hgb
              rw [hgb] at HGR
              cases gb
              · have hng : ¬ GoodN r := fun q => by
                  have := (goodB_iff _).2 q
                  rw [hGB.out] at this; cases this
                obtain ⟨hb, rfl, rfl, rfl⟩ := link_bad hng HX.out.1
                have HB := Lib.hid (And.intro HX.out.2 (And.intro HQ.out.1 HU.out.2))
                clear HX HQ HU hnm hng hgb
                rcases hb with rfl | rfl
                all_goals
                  go_wp2_with fail
                  refine (HGR.out _).mono ?_
                  rintro e w4 ⟨rfl, rfl⟩
                  go_wp2
                  go_roundw
                  case rel => exact ⟨j + 1, _, _, all, F2, by go_num, by have := HN.out; omega, HB.out.1.1.fresh HB.out.2.2, HB.out.2.1, by omega, OwnA.fresh HB.out.1.2.1 HB.out.2.2, HB.out.1.2.2.1, HB.out.1.2.2.2.trans HB.out.2.2⟩
                  case measure => simp [intOf]; omega
              · obtain ⟨rfl, hlq2⟩ := HQ.out.1.new hnm ((goodB_iff _).1 hgb) HX.out.1
                have HB := Lib.hid (And.intro HX.out.2 (And.intro hlq2 HU.out.2))
                have hown := OwnA.fresh HX.out.2.2.1 HU.out.2
                obtain ⟨n2, hn2⟩ : ∃ n2, all.length = n2 := ⟨_, rfl⟩
                have HN2 := Lib.hid hn2
                rw [hn2] at hown
                clear HX HQ HU hnm hlq2 hgb
                obtain ⟨i0, hi0, hz0, hz1, hz2⟩ := info_partsG infoStr
                rw [hn2]
                go_wp2_with fail
                refine (HGR.out _).mono ?_
                rintro e w4 ⟨rfl, rfl⟩
                go_wp2_with (at_builtin; refine wpList_append_ownA _ rfl _ _ 38 rfl (fun g => w.heap.size ≤ g ∧ ¬ F2 g) 9 i0 _ 1 16 Tryz.underlying38 hi0 hz0 hz1 hz2 rfl (by decide) _ n2 _ rfl (hown.fresh ((Fresh.refl _).alloc _)) ⟨wr.heap.size, 0, none⟩ 1 1 [.string r] rfl rfl (newCells _ _ _) (by intro u hu; simp at hu; rcases hu with rfl; rfl) (by omega) (by decide) ?_; intro a' c' w3 o2 u2)
                have hFB := HB.out.1.1.fb
                have hfr := HB.out.2.2
                have s2 : ∀ i, F2 i → i < wr.heap.size := fun i hi => Nat.lt_of_lt_of_le (hFB i hi) hfr.size
                have h0 : w.heap.size ≤ (wr.alloc (.cells #[.string r] 9)).heap.size := by have := (HB.out.1.2.2.2.trans hfr).size; simp; omega
                have HZ : Hid (St w3 F2 f 0 p 300 600 L2 T2 (j + 1) ∧ OwnA w3 (fun g => w.heap.size ≤ g ∧ ¬ F2 g) 9 1 (.slice a' (n2 + 1) c') (n2 + 1) (strs all ++ [.string r]) ∧ Fresh w w3) := by
                  refine Lib.hid ⟨(HB.out.1.1.fresh (hfr.alloc _)).mut u2 (fun i hi q => (hown.2 i q).2 hi), OwnA.mono o2 (fun i _ hi => ?_), ((HB.out.1.2.2.2.trans hfr).alloc _).mut2 u2 (fun i q => (hown.2 i q).1)⟩
                  rcases hi with hi | ⟨h1, _⟩
                  · exact hi
                  · refine ⟨Nat.le_trans h0 h1, fun q => ?_⟩
                    have := s2 i q
                    simp at h1
                    omega
                have HFB := Lib.hid (And.intro HB.out.1.2.2.1 HB.out.2.1)
                clear o2 u2 hown hFB hfr s2 h0 HB
                go_roundw
                case rel =>
                  refine ⟨j + 1, _, _, all ++ [r], F2, by go_num, by have := HN.out; omega, HZ.out.1, HFB.out.2, by simp; have := HN2.out; omega, ?_, HFB.out.1, HZ.out.2.2⟩
                  unfold OwnL
                  rw [List.length_append, HN2.out]
                  unfold strs at *
                  rw [List.map_append]
                  exact HZ.out.2.1
                case measure => simp [intOf]; omega
        · obtain rfl : j = k := by omega
          have HTR := Lib.hid (HV.out.1.tree (by omega))
          have hnx : T.next ≤ 100 := by have := HV.out.1.next; omega
          have HRT := Lib.hid HV.out.1.tr.root
          have HGR := Lib.hid (HG.out.fresh HV.out.2.2.2.2)
          obtain ⟨cl1, cl2, cl3⟩ := HV.out.2.1.clean HV.out.1.tr hnx
          have HCL := Lib.hid (fun (A : Nat → Prop) v W (h : SlE W A v (inL L 0)) (hf : Fresh wr W) => clean_any 0 A v (inL L 0) W h (by have := HV.out.1.tr.len HRT.out; omega) (by omega) (by omega) cl3 (fun e he => (HV.out.1.tr.tok (by omega) (by omega) hnx).of 0 _ HRT.out e he) (HGR.out.fresh hf) cl1 cl2)
          have HLL : Hid ((inL L 0).length = all.length) := Lib.hid (by rw [HV.out.2.1.inL, List.length_map]; exact HV.out.2.1.len)
          clear cl1 cl2 cl3 hlt HCS HSM
          go_wp2_with fail
          refine HTR.out.mono ?_
          rintro e w2 ⟨x, q, rfl, hx, hf2⟩
          have HTX := Lib.hid (ls_yes (d := 0) hx i64_0 HRT.out (by have := HV.out.1.tr.len HRT.out; omega))
          have H2 := Lib.hid hf2
          clear hx hf2 HTR
          go_wp2_with fail
          refine HTX.out.mono ?_
          rintro e w3 ⟨a3, c3, rfl, ho3, hf3⟩
          have HO := Lib.hid (And.intro ho3 (H2.out.trans hf3))
          have HCC := Lib.hid (HCL.out _ _ _ (OwnE.sl ho3) (H2.out.trans hf3))
          clear ho3 hf3 HTX H2 HCL
          go_wp2_with fail
          refine HCC.out.mono ?_
          rintro e w4 ⟨rfl, hf4⟩
          have H4 := Lib.hid (And.intro (SlG.fresh (OwnE.sl HO.out.1) hf4) (HO.out.2.trans hf4))
          clear hf4 HO HCC
          rw [HLL.out]
          by_cases h0 : all.length = 0
          · rw [h0]
            go_wp2
            go_ret
            exact ⟨rfl, (HV.out.2.2.2.2.trans H4.out.2).below⟩
          · have i3 : (((all.length : Nat) : Int) == 0) = false := beq_false_of_ne (by omega)
            have i4 : ¬ (all.length : Int) = 0 := by omega
            obtain ⟨z0, z1⟩ := gone_ix (x := gone) (n := (all.length : Int)) hgo0 (by omega)
            obtain ⟨ix, hix⟩ := Int.eq_ofNat_of_zero_le z0
            have hil : ix < all.length := by omega
            have hil2 : ix < (inL L 0).length := by rw [HLL.out]; exact hil
            have i5 : (ix : Int) < (all.length : Int) := by omega
            rcases SlE.cases H4.out.1 with ⟨e0, _⟩ | ⟨_, g5, o5, cap5, hv5, hcap5, _, hg5, hc5⟩
            · rw [e0] at hil2; simp at hil2
            injection hv5 with hv1 _ hv2
            subst hv1 hv2
            obtain ⟨d0, d1, d2, d3, d4⟩ := hc5 ix hil2
            obtain ⟨X, hX, hXi, hXe⟩ := mem_inL.1 (List.getElem_mem hil2)
            rw [← hXe] at d0 d1 d2 d3 d4
            clear hc5 hXe z0 z1
            have hLI := HV.out.1.tr.li
            obtain ⟨hpn, hps⟩ := face_path (by omega) (by omega) hLI hnx hX
            have hXm : X.e ∈ inL L 0 := mem_inL.2 ⟨X, hX, hXi, rfl⟩
            have hfd := inL_find (enc := 0) (by omega) (by omega) hLI hnx hXm
            have hgf := gone_face (enc := 0) (by omega) (by omega) hLI hnx hX
            rw [hXi] at hgf
            have HOF := Lib.hid ((HV.out.1.tr.tok (by omega) (by omega) hnx).of 0 _ HRT.out _ hXm)
            have HUN := Lib.hid (HV.out.2.1.unlink HV.out.1.tr hX)
            have hgs := (hLI.good X hX).2.1
            have HBK := Lib.hid (fun (T2 T3 : TreS) (hn3 : T3.next ≤ 100) (L3 : List Item) (ht3 : TR 0 L3 T3) (a b : Int) ho => HV.out.2.1.back (T2 := T2) HV.out.1.tr hn3 ht3 hX (a := a) (b := b) ho)
            unfold OfOK at HOF
            obtain ⟨fc, hfc⟩ : ∃ fc, faceS 0 X.e = fc := ⟨_, rfl⟩
            rw [hfc] at HOF HBK hpn hps hfd hgf
            have HRM := Lib.hid (fun W (hs : St W F f 0 p 300 600 L T j) (hG : GT W) => St.remove hs hG (slashS ++ fc) false (by rw [ByteArray.size_append]; have : slashS.size = 1 := rfl; omega) (by omega) (by omega) (at_one hs.tr hpn hfd) hX hXi (by omega) (by omega) (by omega) (by omega))
            have HPN := Lib.hid (And.intro hpn (And.intro hgf hps))
            have HST := Lib.hid (And.intro HV.out.1 (And.intro HV.out.2.2.2.1 (HV.out.2.2.2.2.trans H4.out.2)))
            have HS4 := Lib.hid (HV.out.1.fresh H4.out.2)
            obtain ⟨nodeX, hnodeX⟩ : ∃ z, X.e.node = z := ⟨_, rfl⟩
            obtain ⟨nm, hnm⟩ : ∃ z, X.e.name = z := ⟨_, rfl⟩
            have HE : Hid (entV X.e = entV ⟨nm, nodeX, X.e.dir, X.e.cookie, X.e.short⟩) := Lib.hid (by rw [← hnm, ← hnodeX])
            rw [HE.out] at HOF
            rw [hnm] at d0 HUN HBK hgs
            rw [hnodeX] at d1 HBK HPN
            obtain ⟨W1, hW1⟩ : ∃ W1, w4.alloc (.cells #[.string nm, .int .i64 nodeX, .bool X.e.dir, .int .i64 X.e.cookie, .int .i64 X.e.short] 88) = W1 := ⟨_, rfl⟩
            have h01 : Fresh w4 W1 := by rw [← hW1]; exact (Fresh.refl _).alloc _
            have e1 : Blk W1 w4.heap.size 88 #[.string nm, .int .i64 nodeX, .bool X.e.dir, .int .i64 X.e.cookie, .int .i64 X.e.short] := by rw [← hW1]; exact Blk.new _ _ _
            have q0 : W1.cell? ⟨w4.heap.size, 0, none⟩ = some (.string nm) := e1.cell 0
            have q1 : W1.cell? ⟨w4.heap.size, 1, none⟩ = some (.int .i64 nodeX) := e1.cell 1
            have q2 : W1.cell? ⟨w4.heap.size, 2, none⟩ = some (.bool X.e.dir) := e1.cell 2
            have q3 : W1.cell? ⟨w4.heap.size, 3, none⟩ = some (.int .i64 X.e.cookie) := e1.cell 3
            have q4 : W1.cell? ⟨w4.heap.size, 4, none⟩ = some (.int .i64 X.e.short) := e1.cell 4
            have HB1 := Lib.hid (And.intro e1 h01)
            have HEQ := Lib.hid (And.intro hnm hnodeX)
            clear hfc hpn hfd hgf hXm hLI HE hnm hnodeX e1 h01 HV H4
            go_wp2_with fail
            refine (HOF.out W1 (HG.out.fresh (HST.out.2.2.trans HB1.out.2))).mono ?_
            rintro e w5 ⟨rfl, hf5⟩
            have HB5 := Lib.hid (And.intro (HB1.out.1.keep hf5) (And.intro (HST.out.2.2.trans (HB1.out.2.trans hf5)) (HS4.out.fresh (HB1.out.2.trans hf5))))
            have HNF : Hid (¬ F w4.heap.size) := Lib.hid (fun q => by have := HS4.out.fb _ q; omega)
            clear hf5 q0 q1 q2 q3 q4 d0 d1 d2 d3 d4 hW1
            go_wp2_with fail
            refine (HRM.out _ HB5.out.2.2 (HG.out.fresh HB5.out.2.1)).mono ?_
            rintro e w6 ⟨b6, L6, T6, F6, hrm, rfl, hs6, hm6, hg6⟩
            have hrm2 : b6 = 0 ∧ L6 = outOf L nodeX := by
              rcases hrm with ⟨h1, h2, _⟩ | ⟨h1, _, h2, _⟩
              · rw [HEQ.out.1, HUN.out] at h2; exact absurd h2 h1
              · rw [HEQ.out.2] at h2; exact ⟨h1, h2⟩
            obtain ⟨rfl, rfl⟩ := hrm2
            have HB6 := Lib.hid (And.intro (HB5.out.1.mut hm6 HNF.out) (And.intro (HB5.out.2.1.mut2 hm6 HST.out.2.1) hs6))
            have HF6 : Hid (¬ F6 w4.heap.size ∧ ∀ i, F6 i → w.heap.size ≤ i) := Lib.hid ⟨fun q => by
              rcases hg6 _ q with q | q
              · exact HNF.out q
              · have := HB5.out.1.lt; omega, fun i q => by
              rcases hg6 _ q with q | q
              · exact HST.out.2.1 i q
              · exact Nat.le_trans HB5.out.2.1.size q.1⟩
            clear hrm hs6 hm6 hg6 HRM HB5
            have HL6 := Lib.hid (St.lookup HB6.out.2.2 (HG.out.fresh HB6.out.2.1) (slashS ++ fc) (by rw [ByteArray.size_append]; have : slashS.size = 1 := rfl; have := HPN.out.2.2; omega) (by omega) (by omega) (by omega))
            rw [path_one HB6.out.2.2.tr HPN.out.1, HPN.out.2.1] at HL6
            unfold NodeF at HL6
            simp only at HL6
            go_wp2_with fail
            refine HL6.out.mono ?_
            rintro e w7 ⟨rfl, hf7⟩
            have hs7 := HB6.out.2.2.fresh hf7
            have hb7 := HB6.out.1.keep hf7
            have q0 : w7.cell? ⟨w4.heap.size, 0, none⟩ = some (.string nm) := hb7.cell 0
            have HB7 := Lib.hid (And.intro (HB6.out.2.1.trans hf7) hs7)
            have HP7 := Lib.hid (St.plant hs7 (HG.out.fresh HB7.out.1) ⟨#[47]⟩ nm false (by decide) (by omega) (by omega) (by omega) (root_list hs7.tr) hs7.tr.root (by omega) (by omega) (by omega) (by omega) (by omega))
            clear hf7 hs7 hb7 HL6 HB6
            go_wp2_with fail
            refine HP7.out.mono ?_
            rintro e w8 ⟨a8, b8, L8, T8, F8, hlo8, rfl, hs8, hm8, hg8⟩
            obtain ⟨rfl, e8, hfd8, hnd8⟩ := HBK.out _ T8 (by have := hs8.next; omega) L8 hs8.tr a8 b8 hlo8
            have HB8 := Lib.hid (And.intro (HB7.out.1.mut2 hm8 HF6.out.2) hs8)
            have HL8 := Lib.hid (St.lookup hs8 (HG.out.fresh HB8.out.1) (slashS ++ fc) (by rw [ByteArray.size_append]; have : slashS.size = 1 := rfl; have := HPN.out.2.2; omega) (by omega) (by omega) (by omega))
            rw [path_one hs8.tr HPN.out.1, hfd8] at HL8
            unfold NodeF at HL8
            simp only [hnd8] at HL8
            clear hlo8 hs8 hm8 hg8 hfd8 hnd8 HP7 q0
            go_wp2_with fail
            refine HL8.out.mono ?_
            rintro e w9 ⟨rfl, hf9⟩
            have hq := Lib.hid (HB8.out.1.trans hf9)
            clear hf9
            go_wp2
            go_ret
            exact ⟨rfl, hq.out.below⟩
theorem wfU8' {r : Int} (h : (Lit.int .u8 r).wf = true) : 0 ≤ r ∧ r < 256 := by
  simp [Lit.wf, IntKind.min, IntKind.max, IntKind.signed, IntKind.bits] at h
  omega
set_option maxRecDepth 100000 in
theorem walk_TopLong (ad : Option Addr) (len ca : Nat) (raws : List ByteArray) (gone : Int) (w : World) (hs : SlS w (fun _ => True) (.slice ad len ca) raws ∧ raws.length = len) (hg : (Lit.int .u8 gone).wf = true) (hGT : GT w) :
    Calls Tryz.prog 7 #[.slice ad len ca, .int .u8 gone] w fun e w' => e = .returned (.bool true) ∧ Below w.heap.size w w' := by
  obtain ⟨hu, rfl⟩ := hs
  by_cases hl : raws.length ≤ 8
  · exact long_in ad ca raws gone w hGT hu hl (wfU8' hg)
  · obtain ⟨n, hn⟩ : ∃ n, raws.length = n := ⟨_, rfl⟩
    rw [hn] at hl ⊢
    have i8 : (8 : Int) < (n : Int) := by omega
    clear hu hg hl hn
    go_enter Tryz.func7, Tryz.ntmps7
    go_wp2_with fail
    refine (awake_any _ hGT).mono ?_
    rintro e w1 ⟨rfl, h1⟩
    have H1 := Lib.hid (And.intro h1 (hGT.fresh h1))
    clear h1
    go_wp2_with fail
    refine (awake_any _ H1.out.2).mono ?_
    rintro e w2 ⟨rfl, h2⟩
    go_wp2
    go_ret
    exact ⟨rfl, (H1.out.1.trans h2).below⟩
end Go.Proofs.YtpmlggjhfiljmaaGreatDoor
namespace Go.Proofs.YtpmlggjhfiljmaaGreatDoor
open Go.RowKit
theorem gt_named : Tryz.prog.globalNamed "math/bits.deBruijn64tab" = some 3 := by kernel_rfl
theorem gt_type : (Tryz.prog.globals[3]?).map (·.type) = some 471 := by kernel_rfl
theorem gt_cells : Tryz.prog.cellsOf 471 = 64 := by kernel_rfl
theorem gt_elem : Tryz.prog.cellsOf 5 = 1 := by kernel_rfl
theorem gt_of_reads {W : World} (h : Lib.VarReads Tryz.prog W "math/bits.deBruijn64tab" Rows.laid_math_bits_deBruijn64tab) : GT W := by
  obtain ⟨g, t, cs, fuel, p, hg, ht, hv, hd⟩ := h
  obtain rfl := Option.some.inj (gt_named.symm.trans hg)
  obtain rfl := Option.some.inj (gt_type.symm.trans ht)
  have e1 := Lib.cells_of_tab (k := .u8) (zs := [0, 1, 56, 2, 57, 49, 28, 3, 61, 58, 42, 50, 38, 29, 17, 4, 62, 47, 59, 36, 45, 43, 51, 22, 53, 39, 33, 30, 24, 18, 12, 5, 63, 55, 48, 27, 60, 41, 37, 16, 46, 35, 44, 21, 52, 32, 23, 11, 54, 26, 40, 15, 34, 20, 31, 10, 25, 14, 19, 9, 13, 8, 7, 6]) Tryz.underlying471 Tryz.underlying5 gt_elem gt_cells hd
  have hT : Lib.TabIs Tryz.prog W "math/bits.deBruijn64tab" .u8 [0, 1, 56, 2, 57, 49, 28, 3, 61, 58, 42, 50, 38, 29, 17, 4, 62, 47, 59, 36, 45, 43, 51, 22, 53, 39, 33, 30, 24, 18, 12, 5, 63, 55, 48, 27, 60, 41, 37, 16, 46, 35, 44, 21, 52, 32, 23, 11, 54, 26, 40, 15, 34, 20, 31, 10, 25, 14, 19, 9, 13, 8, 7, 6] := by
    unfold Lib.TabIs
    rw [hv, ← e1]
  have hc := hT.cell gt_named 15 (by decide)
  refine ⟨hc, ?_⟩
  rcases Nat.lt_or_ge 3 W.heap.size with q | q
  · exact q
  · exfalso
    unfold World.cell? at hc
    rw [Array.getElem?_eq_none q] at hc
    simp at hc
theorem sls_of_strs {W : World} {a : Addr} {len cap m : Nat} {Sx : Nat → ByteArray} (hl : len ≤ cap) (hm : len ≤ m) (hc : ∀ i, i < m → W.cell? (a.add i) = some (.string (Sx i))) :
    ∃ zs, SlS W (fun _ => True) (.slice (some a) len cap) zs ∧ zs.length = len := by
  have hz : ((List.range len).map Sx).length = len := by simp
  refine ⟨_, ?_, hz⟩
  unfold SlS
  rw [hz]
  refine ⟨by simp [Go.Proofs.YtpmlggjhfiljmaaGreatDoor.strs], some a, cap, rfl, hl, ?_⟩
  by_cases h0 : len = 0
  · exact .inl h0
  · obtain ⟨b, off, spot⟩ := a
    have hc0 := hc 0 (by omega)
    have hspot : spot = none := by simpa [Addr.add] using World.cell?_spot hc0
    subst hspot
    refine .inr ⟨b, off, rfl, trivial, ?_, fun j hj => ?_⟩
    · rcases Nat.lt_or_ge b W.heap.size with q | q
      · exact q
      · exfalso
        unfold World.cell? at hc0
        rw [show ((⟨b, off, none⟩ : Addr).add 0).block = b by simp [Addr.add], Array.getElem?_eq_none q] at hc0
        simp at hc0
    · have h1 := hc j (by omega)
      rw [show (⟨b, off, none⟩ : Addr).add j = ⟨b, off + j, none⟩ by simp [Addr.add]] at h1
      rw [h1]
      simp [Go.Proofs.YtpmlggjhfiljmaaGreatDoor.strs, show j < len by omega]
theorem sls_nil (W : World) : ∃ zs : List ByteArray, SlS W (fun _ => True) (.slice none 0 0) zs ∧ zs.length = 0 := ⟨[], SlG.nil _ _ _, rfl⟩
end Go.Proofs.YtpmlggjhfiljmaaGreatDoor
