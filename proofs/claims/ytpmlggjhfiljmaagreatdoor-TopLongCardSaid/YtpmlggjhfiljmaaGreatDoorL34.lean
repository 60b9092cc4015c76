/- Part 34 of what the law rests on. -/
import Derived.Laws.MathBits
import Derived.Lib.ConvBytes
import Derived.Test.YtpmlggjhfiljmaaGreatDoorL05
import Derived.Test.YtpmlggjhfiljmaaGreatDoorL22
import Derived.Test.YtpmlggjhfiljmaaGreatDoorL26
import Derived.Test.YtpmlggjhfiljmaaGreatDoorL32
import Derived.Test.YtpmlggjhfiljmaaGreatDoorL33
set_option linter.all false
namespace Go.Proofs.YtpmlggjhfiljmaaGreatDoor
open Go.RowKit
theorem u64_and15 (z : Int) (h0 : 0 ≤ z) (h1 : z < 18446744073709551616) : bits .and .u64 z 15 = z % 16 := by go_bits2
set_option maxRecDepth 100000 in
theorem tz16_any (w : World) (hGT : GT w) : Calls Tryz.prog 354 #[.int .u64 16] w fun e w' => e = .returned (.int .i64 4) ∧ w = w' := by
  have c := hGT.1
  have h1 : bits .and .u64 16 (IntKind.u64.wrap (-16)) = 16 := by decide
  have h2 : IntKind.u64.wrap 4573923408821661840 = 4573923408821661840 := by decide
  have h3 : IntKind.u64.wrap (16 * 285870213051353865) = 4573923408821661840 := by decide
  go_enter Tryz.func354, Tryz.ntmps354
  go_wp2
  go_ret
  exact ⟨rfl, rfl⟩
def hexD : Nat → Nat → List Int
  | 0, _ => []
  | f + 1, v => if v < 16 then [hexI (v : Int)] else hexD f (v / 16) ++ [hexI ((v % 16 : Nat) : Int)]
structure HexAt (w : World) (g : Nat) (i : Nat) (ds : List Int) : Prop where
  blk : ∃ cs : Array Value, cs.size = 65 ∧ Blk w g 442 cs ∧ ∀ k, k < ds.length → cs[i + k]? = some (.int .u8 (ds.getD k 0))
  len : i + ds.length = 65
  by_ : ∀ x ∈ ds, 0 ≤ x ∧ x < 256
theorem HexAt.push {w : World} {g i : Nat} {ds : List Int} (h : HexAt w g (i + 1) ds) {x : Int} (hx : 0 ≤ x ∧ x < 256) : HexAt (w.setCell ⟨g, i, none⟩ (.int .u8 x)) g i (x :: ds) := by
  obtain ⟨⟨cs, h1, h2, h3⟩, h4, h5⟩ := h
  refine ⟨⟨cs.setIfInBounds i (.int .u8 x), by simpa using h1, (show Blk w g _ _ from h2).set, fun k hk => ?_⟩, by simp; omega, fun y hy => ?_⟩
  · cases k with
    | zero => rw [Nat.add_zero, Array.getElem?_setIfInBounds_self_of_lt (by omega)]; rfl
    | succ k =>
      rw [Array.getElem?_setIfInBounds_ne (by omega), show i + (k + 1) = i + 1 + k by omega, h3 k (by simpa using hk)]
      rfl
  · rcases List.mem_cons.1 hy with rfl | hy
    · exact hx
    · exact h5 y hy
theorem HexAt.fresh {w w' : World} {g i : Nat} {ds : List Int} (h : HexAt w g i ds) (hf : Fresh w w') : HexAt w' g i ds := by
  obtain ⟨⟨cs, h1, h2, h3⟩, h4, h5⟩ := h
  exact ⟨⟨cs, h1, (show Blk w g _ _ from h2).keep hf, h3⟩, h4, h5⟩
theorem HexAt.new (w : World) : HexAt (w.alloc (.cells Tryz.zeroCells442 442)) w.heap.size 65 [] :=
  ⟨⟨_, Tryz.zeroCells442_size, Blk.new _ _ _, fun k hk => by simp at hk⟩, rfl, fun x hx => by simp at hx⟩
theorem HexAt.conv {w : World} {g i : Nat} {ds : List Int} (h : HexAt w g i ds) (n c : Nat) (hn : ds.length = n) : (convert 131 9 (.slice (some ⟨g, i, none⟩) n c)).run Tryz.prog w = .ok (.string (strOfNums ds)) w := by
  subst hn
  obtain ⟨⟨cs, h1, h2, h3⟩, h4, h5⟩ := h
  exact run_convert_bytes_arg (P := Tryz.prog) w 131 5 Tryz.underlying131 Tryz.underlying5 g i _ c ds rfl (fun k hk => by rw [(show Blk w g _ _ from h2).cell]; exact h3 k hk) 9 Tryz.underlying9
theorem hex_lit {d : Nat} (h : d < 16) (H : ByteArray) (hs : d < H.size) (hH : H.data.toList.take 16 = [48, 49, 50, 51, 52, 53, 54, 55, 56, 57, 97, 98, 99, 100, 101, 102]) : ((H[d]'hs).toNat : Int) = hexI (d : Int) := by
  have e : H.data.toList[d]? = some (H[d]'hs) := by
    rw [List.getElem?_eq_getElem (show d < H.data.toList.length from by rw [Array.length_toList]; exact hs)]
    rfl
  have e2 : (H.data.toList.take 16)[d]? = some (H[d]'hs) := by rw [List.getElem?_take, if_pos h, e]
  rw [hH] at e2
  have : d = 0 ∨ d = 1 ∨ d = 2 ∨ d = 3 ∨ d = 4 ∨ d = 5 ∨ d = 6 ∨ d = 7 ∨ d = 8 ∨ d = 9 ∨ d = 10 ∨ d = 11 ∨ d = 12 ∨ d = 13 ∨ d = 14 ∨ d = 15 := by omega
  generalize H[d]'hs = x at e2 ⊢
  rcases this with rfl | rfl | rfl | rfl | rfl | rfl | rfl | rfl | rfl | rfl | rfl | rfl | rfl | rfl | rfl | rfl <;> (injection e2 with e2; subst e2; rfl)
theorem hexI_u8 {d : Int} (h : 0 ≤ d ∧ d < 16) : 0 ≤ hexI d ∧ hexI d < 256 := by unfold hexI; split <;> omega
theorem HexAt.at {w : World} {g i : Nat} {ds : List Int} (h : HexAt w g i ds) {j : Nat} (hj : j < 65) : (∃ v, w.cell? ⟨g, j, none⟩ = some v) ∧ w.frozen? ⟨g, j, none⟩ = false := by
  obtain ⟨⟨cs, h1, h2, h3⟩, h4, h5⟩ := h
  have hb : Blk w g _ cs := h2
  exact ⟨⟨cs[j]'(by omega), by rw [hb.cell, Array.getElem?_eq_getElem]⟩, hb.frozen j⟩
theorem hexD_step {u x : Nat} {ds : List Int} (h : hexD 8 u = hexD (8 - ds.length) x ++ ds) (hx : 16 ≤ x) (hl : ds.length ≤ 6) : hexD 8 u = hexD (8 - (hexI ((x % 16 : Nat) : Int) :: ds).length) (x / 16) ++ hexI ((x % 16 : Nat) : Int) :: ds := by
  rw [h]
  obtain ⟨n, hn⟩ : ∃ n, 8 - ds.length = n + 1 := ⟨7 - ds.length, by omega⟩
  rw [hn, show 8 - (hexI ((x % 16 : Nat) : Int) :: ds).length = n by simp; omega]
  conv => lhs; unfold hexD
  rw [if_neg (by omega), List.append_assoc]
  rfl
theorem hexD_last {u x : Nat} {ds : List Int} (h : hexD 8 u = hexD (8 - ds.length) x ++ ds) (hx : x < 16) (hl : ds.length ≤ 7) : hexD 8 u = hexI (x : Int) :: ds := by
  rw [h]
  obtain ⟨n, hn⟩ : ∃ n, 8 - ds.length = n + 1 := ⟨7 - ds.length, by omega⟩
  rw [hn]
  conv => lhs; unfold hexD
  rw [if_pos hx]
  rfl
theorem fb_len0 {x u n : Nat} (h : x * 16 ^ n ≤ u) (h1 : 1 ≤ x ∨ n = 0) (hu : u < 4294967296) : n ≤ 7 := by
  rcases h1 with h1 | h1
  · rcases Nat.lt_or_ge n 8 with q | q
    · omega
    · have h2 : 16 ^ 8 ≤ 16 ^ n := Nat.pow_le_pow_right (by omega) q
      have h3 : 1 * 16 ^ 8 ≤ x * 16 ^ n := Nat.mul_le_mul h1 h2
      omega
  · omega
theorem hHexPush {w : World} {g j : Nat} {ds : List Int} (h : HexAt w g (j + 1) ds) {d : Nat} (hd : d < 16) : HexAt (w.setCell ⟨g, j, none⟩ (.int .u8 (hexI (d : Int)))) g j (hexI (d : Int) :: ds) := h.push (hexI_u8 (by omega))
def FbRel (u : Nat) (g : Nat) (w : World) (v i : Value) (wr : World) : Prop :=
  ∃ (x k : Nat) (ds : List Int), v = .int .u64 x ∧ i = .int .i64 k ∧ HexAt wr g k ds ∧ hexD 8 u = hexD (8 - ds.length) x ++ ds ∧ x * 16 ^ ds.length ≤ u ∧ (1 ≤ x ∨ ds.length = 0) ∧ Below g w wr
def FbPost (u : Nat) (w : World) (e : Ending) (w' : World) : Prop := e = .returned (.tuple #[.slice none 0 0, .string (strOfNums (hexD 8 u))]) ∧ Fresh w w'
theorem fb_len {x u n : Nat} (h : x * 16 ^ n ≤ u) (hx : 16 ≤ x) (hu : u < 4294967296) : n ≤ 6 := by
  rcases Nat.lt_or_ge n 7 with q | q
  · omega
  · have h1 : 16 ^ 7 ≤ 16 ^ n := Nat.pow_le_pow_right (by omega) q
    have h2 : 16 * 16 ^ 7 ≤ x * 16 ^ n := Nat.mul_le_mul hx h1
    omega
set_option maxRecDepth 100000 in
set_option maxHeartbeats 3200000 in
theorem fbits_any (u : Nat) (hu : u < 4294967296) (w : World) (hGT : GT w) : Calls Tryz.prog 291 #[.slice none 0 0, .int .u64 u, .int .i64 16, .bool false, .bool false] w (FbPost u w) := by
  have hp2 : bits .and .i64 16 15 = 0 := by decide
  have HU := Lib.hid hu
  have HG := Lib.hid hGT
  have hz := Tryz.zeroValue442
  clear hu hGT
  go_enter Tryz.func291, Tryz.ntmps291
  go_wp2_with (first
    | (go_at_call 354; refine (tz16_any _ (HG.out.fresh ((Fresh.refl _).alloc _))).mono ?_; rintro e w1 ⟨rfl, rfl⟩)
    | go_in)
  have HN := Lib.hid (HexAt.new w)
  go_loopw [1, 13] (fun v i wr => FbRel u w.heap.size (w.alloc (.cells Tryz.zeroCells442 442)) v i wr) (fun _ i _ => (intOf i).toNat)
  case atStart => exact ⟨u, 65, [], rfl, rfl, HN.out, by simp, by simp, .inr rfl, Below.refl _ _⟩
  case round =>
    obtain ⟨x, k, ds, rfl, rfl, hat, hd, hle, h10, hb⟩ := hrel
    have hl7 := fb_len0 hle h10 HU.out
    obtain ⟨j, rfl⟩ : ∃ j, k = j + 1 := ⟨k - 1, by have := hat.len; omega⟩
    have hkd := hat.len
    have hj65 : j < 65 := by omega
    obtain ⟨⟨v0, c0⟩, f0⟩ := hat.at hj65
    have hxu : x < 4294967296 := by
      have h1 : x * 1 ≤ x * 16 ^ ds.length := Nat.mul_le_mul_left _ (Nat.pow_pos (by omega))
      have := HU.out
      omega
    have HH := Lib.hid (And.intro hat (And.intro hd (And.intro hle (And.intro h10 hb))))
    clear hat hd hle hb h10
    by_cases hx : 16 ≤ x
    · have hl6 := fb_len HH.out.2.2.1 hx HU.out
      have hand : bits .and .u64 (x : Int) 15 = ((x % 16 : Nat) : Int) := (u64_and15 _ (by omega) (by omega)).trans (by omega)
      obtain ⟨d, hd⟩ : ∃ d, x % 16 = d := ⟨_, rfl⟩
      have hd16 : d < 16 := by omega
      have HD := Lib.hid hd
      rw [hd] at hand
      clear hd
      have HP := Lib.hid (hHexPush HH.out.1 (d := d) (by omega))
      go_wp2
      rw [hex_lit hd16]
      case hH => rfl
      refine ⟨⟨x / 16, j, hexI ((x % 16 : Nat) : Int) :: ds, by go_num, rfl, ?_, hexD_step HH.out.2.1 hx hl6, ?_, .inl (by omega), ?_⟩, by simp [intOf]⟩
      · rw [HD.out]; exact HP.out
      · have h1 := HH.out.2.2.1
        rw [List.length_cons, Nat.pow_succ]
        have h2 : x / 16 * (16 ^ ds.length * 16) = (x / 16 * 16) * 16 ^ ds.length := by rw [Nat.mul_comm (16 ^ ds.length) 16, Nat.mul_assoc]
        have h3 : x / 16 * 16 * 16 ^ ds.length ≤ x * 16 ^ ds.length := Nat.mul_le_mul_right _ (by omega)
        omega
      · exact HH.out.2.2.2.2.setCell (Nat.le_refl _) _
    · have hx2 : x < 16 := by omega
      have hsl : ∀ W, (Instr.sliceAt 442 (.pointer (some ⟨w.heap.size, 0, none⟩)) (some (.int .i64 (j : Int))) none none).run Tryz.prog W = .ok (.slice (some ⟨w.heap.size, j, none⟩) (65 - j) (65 - j)) W := fun W => by
        have hal : Tryz.prog.arrayLen 442 = 65 := by simp [Program.arrayLen, Tryz.underlying442]
        have hne : ¬ 65 = j := by omega
        rw [run_sliceAt_array_l W 442 ⟨w.heap.size, 0, none⟩ (by simp [Program.arrayLen, Program.elem, Tryz.underlying442]) .i64 (j : Int) (by omega) (by rw [hal]; omega), hal]
        go_simp
      have HP := Lib.hid (hHexPush HH.out.1 (d := x) (by omega))
      have HCV := Lib.hid ((hHexPush HH.out.1 (d := x) (by omega)).conv (65 - j) (65 - j) (by simp; omega))
      have hcv := HCV.out
      go_wp2_with (rw [hex_lit hx2]; case hH => rfl)
      go_ret2
      refine ⟨by rw [hexD_last HH.out.2.1 hx2 hl7]; rfl, ?_⟩
      have hb : Below w.heap.size (w.alloc (.cells Tryz.zeroCells442 442)) (wr.setCell ⟨w.heap.size, j, none⟩ (.int .u8 (hexI (x : Int)))) := HH.out.2.2.2.2.setCell (Nat.le_refl _) _
      exact Below.trans ((Fresh.refl w).alloc _) hb
def HexPost (u : Nat) (w : World) (e : Ending) (w' : World) : Prop := e = .returned (.string (strOfNums (hexD 8 u))) ∧ Fresh w w'
set_option maxRecDepth 100000 in
theorem fuint_any (u : Nat) (hu : u < 4294967296) (w : World) (hGT : GT w) : Calls Tryz.prog 137 #[.int .u64 u, .int .i64 16] w (HexPost u w) := by
  have HF := Lib.hid (fbits_any u hu w hGT)
  obtain ⟨S, hS⟩ : ∃ S, strOfNums (hexD 8 u) = S := ⟨_, rfl⟩
  unfold FbPost at HF
  unfold HexPost
  rw [hS] at HF ⊢
  clear hS hGT
  go_enter Tryz.func137, Tryz.ntmps137
  go_wp2_with (first
    | (go_at_call 291; refine HF.out.mono ?_; rintro e w1 ⟨rfl, hf⟩)
    | go_in)
  go_ret
  exact ⟨rfl, hf⟩
open Go.RowKit
def hexP : Nat → Nat → List Int
  | 0, _ => []
  | n + 1, v => hexP n (v / 16) ++ [hexI ((v % 16 : Nat) : Int)]
theorem hexP_zero : ∀ n, hexP n 0 = List.replicate n 48
  | 0 => rfl
  | n + 1 => by
    rw [hexP, Nat.zero_div, hexP_zero n, List.replicate_succ']
    rfl
theorem hexP_eq : ∀ (n f v : Nat), n ≤ f → 1 ≤ n → v < 16 ^ n → hexP n v = List.replicate (n - (hexD f v).length) 48 ++ hexD f v
  | 0, f, v, _, h, _ => by omega
  | n + 1, 0, v, h, _, _ => by omega
  | n + 1, f + 1, v, hnf, _, hv => by
    rw [hexP]
    conv => rhs; unfold hexD
    by_cases hx : v < 16
    · rw [if_pos hx, Nat.div_eq_of_lt hx, hexP_zero, Nat.mod_eq_of_lt hx]
      simp
    · have hn : 1 ≤ n := by
        rcases Nat.eq_zero_or_pos n with q | q
        · subst q; simp at hv; omega
        · exact q
      have hv2 : v / 16 < 16 ^ n := by rw [Nat.div_lt_iff_lt_mul (by omega), ← Nat.pow_succ]; exact hv
      rw [if_neg hx, hexP_eq n f (v / 16) (by omega) hn hv2, List.append_assoc]
      simp
theorem hexD_len : ∀ (f v : Nat), (hexD f v).length ≤ f
  | 0, v => by simp [hexD]
  | f + 1, v => by
    have ih := hexD_len f (v / 16)
    unfold hexD
    split
    · simp
    · simp; omega
theorem hexL_P (u : Nat) : hexL (u : Int) = hexP 8 u := by
  unfold hexL
  simp only [hexP, List.nil_append, List.cons_append]
  have e1 : (u : Int) / 268435456 % 16 = ((u / 16 / 16 / 16 / 16 / 16 / 16 / 16 % 16 : Nat) : Int) := by omega
  have e2 : (u : Int) / 16777216 % 16 = ((u / 16 / 16 / 16 / 16 / 16 / 16 % 16 : Nat) : Int) := by omega
  have e3 : (u : Int) / 1048576 % 16 = ((u / 16 / 16 / 16 / 16 / 16 % 16 : Nat) : Int) := by omega
  have e4 : (u : Int) / 65536 % 16 = ((u / 16 / 16 / 16 / 16 % 16 : Nat) : Int) := by omega
  have e5 : (u : Int) / 4096 % 16 = ((u / 16 / 16 / 16 % 16 : Nat) : Int) := by omega
  have e6 : (u : Int) / 256 % 16 = ((u / 16 / 16 % 16 : Nat) : Int) := by omega
  have e7 : (u : Int) / 16 % 16 = ((u / 16 % 16 : Nat) : Int) := by omega
  have e8 : (u : Int) % 16 = ((u % 16 : Nat) : Int) := by omega
  rw [e1, e2, e3, e4, e5, e6, e7, e8]
theorem rep_str (c : Nat) : (⟨(Lib.repeatL [48] c).toArray⟩ : ByteArray) = strOfNums (List.replicate c 48) := by
  have : Lib.repeatL [48] c = (List.replicate c (48 : Int)).map fun x => UInt8.ofNat x.toNat := by
    induction c with
    | zero => rfl
    | succ c ih => rw [Lib.repeatL, ih, List.replicate_succ]; rfl
  rw [this]
  rfl
theorem dec_str_dec : ((List.range 100).all fun i => (⟨(Lib.decDigits i).toArray⟩ : ByteArray).toList == (strOfNums (decL (i : Int))).toList) = true := by decide +kernel
theorem dec_str {i : Nat} (h : i < 100) : (⟨(Lib.decDigits i).toArray⟩ : ByteArray) = strOfNums (decL (i : Int)) := by
  have := List.all_eq_true.1 dec_str_dec i (List.mem_range.2 h)
  exact toList_inj.1 (by simpa using this)
theorem name_str {u i : Nat} (hu : u < 4294967296) (hi : 1 ≤ i ∧ i < 100) : (⟨#[37, 126]⟩ : ByteArray) ++ strOfNums (List.replicate (8 - (hexD 8 u).length) 48) ++ strOfNums (hexD 8 u) ++ ⟨#[45]⟩ ++ strOfNums (decL (i : Int)) = nameS (u : Int) (i : Int) := by
  have e1 : (⟨#[37, 126]⟩ : ByteArray) = strOfNums [37, 126] := rfl
  have e2 : (⟨#[45]⟩ : ByteArray) = strOfNums [45] := rfl
  rw [e1, e2, ← strOfNums_append, ← strOfNums_append, ← strOfNums_append, ← strOfNums_append]
  unfold nameS
  rw [if_neg (by omega), hexL_P, hexP_eq 8 8 u (Nat.le_refl _) (by omega) (by omega), List.append_assoc [37, 126]]
def NamePost (h n : Int) (w : World) (e : Ending) (w' : World) : Prop := e = .returned (.string (nameS h n)) ∧ Fresh w w'
set_option maxRecDepth 100000 in
set_option maxHeartbeats 1600000 in
theorem sname_any (u i : Nat) (hu : u < 4294967296) (hi : 1 ≤ i ∧ i < 100) (w : World) (hGT : GT w) : Calls Tryz.prog 85 #[.int .u32 u, .int .i64 i] w (NamePost u i w) := by
  have HF := Lib.hid (fuint_any u hu w hGT)
  have hlen := hexD_len 8 u
  have HIT := Lib.hid (fun W => Tryz.strconv_Itoa_small i (by omega) W)
  have HNS := Lib.hid (name_str hu hi)
  have hsz : (strOfNums (hexD 8 u)).size = (hexD 8 u).length := strOfNums_size _
  obtain ⟨m, hm⟩ : ∃ m, (hexD 8 u).length = m := ⟨_, rfl⟩
  rw [hm] at hsz hlen HNS
  have HRP : Hid (∀ W, Calls Tryz.prog 138 #[.string ⟨#[48]⟩, .int .i64 (8 - (m : Int))] W fun e w' => e = .returned (.string (strOfNums (List.replicate (8 - m) 48))) ∧ Fresh W w') := Lib.hid (fun W => by
    have x := Tryz.strings_Repeat ⟨#[48]⟩ (8 - m) W (by omega) (by show 1 * (8 - m) ≤ _; omega)
    rw [show ((8 - m : Nat) : Int) = 8 - (m : Int) by omega] at x
    refine x.mono fun e w' ⟨he, hb⟩ => ⟨?_, hb⟩
    rw [he, ← rep_str])
  have hrs : (strOfNums (List.replicate (8 - m) 48)).size ≤ 8 := by rw [strOfNums_size]; simp
  have hds : (strOfNums (decL (i : Int))).size ≤ 2 := by rw [strOfNums_size]; unfold decL; split <;> simp
  rw [dec_str (by omega)] at HIT
  unfold HexPost at HF
  unfold NamePost
  obtain ⟨S, hS⟩ : ∃ S, strOfNums (hexD 8 u) = S := ⟨_, rfl⟩
  obtain ⟨R, hR⟩ : ∃ R, strOfNums (List.replicate (8 - m) 48) = R := ⟨_, rfl⟩
  obtain ⟨D, hD⟩ : ∃ D, strOfNums (decL (i : Int)) = D := ⟨_, rfl⟩
  obtain ⟨X, hX⟩ : ∃ X, nameS (u : Int) (i : Int) = X := ⟨_, rfl⟩
  rw [hS] at HF HNS hsz
  rw [hR] at HRP HNS hrs
  rw [hD] at HIT HNS hds
  rw [hX] at HNS ⊢
  have hs1 : (S.size : Int) ≤ 8 := by omega
  have hr1 : (R.size : Int) ≤ 8 := by omega
  have hd1 : (D.size : Int) ≤ 2 := by omega
  have HSZ := Lib.hid hsz
  have hm8 : (m : Int) ≤ 8 := by omega
  obtain ⟨hi1, hi2⟩ := hi
  have i1 : (1 : Int) ≤ (i : Int) := by omega
  have i2 : (i : Int) ≤ 1000000 := by omega
  clear hS hR hD hX hm hsz hrs hds hGT
  go_enter Tryz.func85, Tryz.ntmps85
  go_wp2_with fail
  refine HF.out.mono ?_
  rintro e w1 ⟨rfl, h1⟩
  have H1 := Lib.hid h1
  clear h1
  have hsz := HSZ.out
  go_wp2_with fail
  refine (HRP.out _).mono ?_
  rintro e w2 ⟨rfl, h2⟩
  have H2 := Lib.hid (H1.out.trans h2)
  clear h2
  go_wp2_with fail
  refine (HIT.out _).mono ?_
  rintro e w3 ⟨rfl, rfl⟩
  go_wp2
  go_ret
  exact ⟨by rw [← HNS.out]; rfl, H2.out⟩
open Go.RowKit
theorem numLen_any (a : Option Addr) (n c : Nat) (w : World) : Calls Tryz.prog 195 #[.slice a n c] w fun e w' => e = .returned (.int .i64 n) ∧ w = w' := by
  go_enter Tryz.func195, Tryz.ntmps195
  go_wp2
  go_ret
  exact ⟨rfl, rfl⟩
set_option maxRecDepth 100000 in
theorem numLess_any (g n c i j : Nat) (x y : Int) (w : World) (hi : i < n) (hj : j < n) (hn : n ≤ 1000000) (ci : w.cell? ⟨g, i, none⟩ = some (.int .i64 x)) (cj : w.cell? ⟨g, j, none⟩ = some (.int .i64 y)) :
    Calls Tryz.prog 426 #[.slice (some ⟨g, 0, none⟩) n c, .int .i64 i, .int .i64 j] w fun e w' => e = .returned (.bool (decide (x < y))) ∧ Fresh w w' := by
  have i0 : (0 : Int) ≤ (i : Int) := by omega
  have i1 : (i : Int) < (n : Int) := by omega
  have j0 : (0 : Int) ≤ (j : Int) := by omega
  have j1 : (j : Int) < (n : Int) := by omega
  go_enter Tryz.func426, Tryz.ntmps426
  go_wp2_with fail
  go_quiet (fail)
  all_goals
    go_wp2
    go_ret
    exact ⟨rfl, (Fresh.refl _).drewN _⟩
set_option maxRecDepth 100000 in
set_option maxHeartbeats 1600000 in
theorem numSwap_any (A : Nat → Prop) (g c i j : Nat) (l : List Int) (w : World) (h : OwnI w A (.slice (some ⟨g, 0, none⟩) l.length c) l) (hi : i < l.length) (hj : j < l.length) (hij : i ≠ j) (hn : l.length ≤ 1000000) :
    Calls Tryz.prog 427 #[.slice (some ⟨g, 0, none⟩) l.length c, .int .i64 i, .int .i64 j] w fun e w' => e = .returned (.tuple #[]) ∧ OwnI w' A (.slice (some ⟨g, 0, none⟩) l.length c) (sw l i j) ∧ Mut (fun k => k = g) w w' := by
  have H := Lib.hid (h.sw hi hj)
  obtain ⟨g', c', hv, hA, hg, hcl⟩ := h.cells (by omega)
  injection hv with hv1 _ hv2
  injection hv1 with hv1
  injection hv1 with hv1
  subst hv1 hv2
  obtain ⟨ci, fi⟩ := hcl i hi
  obtain ⟨cj, fj⟩ := hcl j hj
  obtain ⟨x, hx⟩ : ∃ x, l.getD i 0 = x := ⟨_, rfl⟩
  obtain ⟨y, hy⟩ : ∃ y, l.getD j 0 = y := ⟨_, rfl⟩
  rw [hx] at ci H
  rw [hy] at cj H
  obtain ⟨n, hn2⟩ : ∃ n, l.length = n := ⟨_, rfl⟩
  rw [hn2] at hi hj hn H ⊢
  have i0 : (0 : Int) ≤ (i : Int) := by omega
  have i1 : (i : Int) < (n : Int) := by omega
  have j0 : (0 : Int) ≤ (j : Int) := by omega
  have j1 : (j : Int) < (n : Int) := by omega
  clear hcl hx hy hn2 h
  go_enter Tryz.func427, Tryz.ntmps427
  go_wp2_with fail
  go_region
  all_goals
    go_wp2
    go_end0
    exact ⟨rfl, OwnA.fresh H.out ((Fresh.refl _).drew), (((Mut.refl (fun k => k = g) w).setCell (p := ⟨g, i, none⟩) (.inl rfl) _).setCell (p := ⟨g, j, none⟩) (.inl rfl) _).drew⟩
set_option maxRecDepth 100000 in
set_option maxHeartbeats 1600000 in
theorem numSwap_self (A : Nat → Prop) (g c i : Nat) (l : List Int) (w : World) (h : OwnI w A (.slice (some ⟨g, 0, none⟩) l.length c) l) (hi : i < l.length) (hn : l.length ≤ 1000000) :
    Calls Tryz.prog 427 #[.slice (some ⟨g, 0, none⟩) l.length c, .int .i64 i, .int .i64 i] w fun e w' => e = .returned (.tuple #[]) ∧ OwnI w' A (.slice (some ⟨g, 0, none⟩) l.length c) (sw l i i) ∧ Mut (fun k => k = g) w w' := by
  have H := Lib.hid (h.sw hi hi)
  obtain ⟨g', c', hv, hA, hg, hcl⟩ := h.cells (by omega)
  injection hv with hv1 _ hv2
  injection hv1 with hv1
  injection hv1 with hv1
  subst hv1 hv2
  obtain ⟨ci, fi⟩ := hcl i hi
  obtain ⟨x, hx⟩ : ∃ x, l.getD i 0 = x := ⟨_, rfl⟩
  rw [hx] at ci H
  obtain ⟨n, hn2⟩ : ∃ n, l.length = n := ⟨_, rfl⟩
  rw [hn2] at hi hn H ⊢
  have i0 : (0 : Int) ≤ (i : Int) := by omega
  have i1 : (i : Int) < (n : Int) := by omega
  clear hcl hx hn2 h
  go_enter Tryz.func427, Tryz.ntmps427
  go_wp2_with fail
  go_region
  all_goals
    go_wp2
    go_end0
    exact ⟨rfl, OwnA.fresh H.out ((Fresh.refl _).drew), (((Mut.refl (fun k => k = g) w).setCell (p := ⟨g, i, none⟩) (.inl rfl) _).setCell (p := ⟨g, i, none⟩) (.inl rfl) _).drew⟩
theorem numSwap_all (A : Nat → Prop) (g c i j : Nat) (l : List Int) (w : World) (h : OwnI w A (.slice (some ⟨g, 0, none⟩) l.length c) l) (hi : i < l.length) (hj : j < l.length) (hn : l.length ≤ 1000000) :
    Calls Tryz.prog 427 #[.slice (some ⟨g, 0, none⟩) l.length c, .int .i64 i, .int .i64 j] w fun e w' => e = .returned (.tuple #[]) ∧ OwnI w' A (.slice (some ⟨g, 0, none⟩) l.length c) (sw l i j) ∧ Mut (fun k => k = g) w w' := by
  by_cases e : i = j
  · subst e; exact numSwap_self A g c i l w h hi hn
  · exact numSwap_any A g c i j l w h hi hj e hn
theorem nilchk_run (P : Program) (t t2 : TypeId) (a : Addr) (s1 s2 : String) (W : World) : Sem.run P (Builtin.ssaWrapNilChk_ #[t] t2 #[.pointer (some a), strVal s1, strVal s2]) W = .ok (.pointer (some a)) W := rfl
theorem num_method {nm : String} {f : FuncId} (hi : ((Tryz.prog.info? 268).bind fun ti => (ti.methods.find? (·.name == nm)).map fun m => (m.path, m.func)) = some (#[], some (f, false))) (b o : Nat) (v : Value) (W : World) (h : W.cell? ⟨b, o, none⟩ = some v) :
    Sem.run Tryz.prog (method 591 268 (.pointer (some ⟨b, o, none⟩)) nm) W = .ok (f, v) W := by
  obtain ⟨ti, m, h1, h2, h3, h4⟩ := info_method hi
  have h5 : Sem.run Tryz.prog (follow [] 268 (.val (.pointer (some ⟨b, o, none⟩)))) W = .ok (268, .val (.pointer (some ⟨b, o, none⟩))) W := by kernel_rfl
  have h6 := method_run (K := 590) (v := .pointer (some ⟨b, o, none⟩)) (W := W) h1 h2 (xt := 268) (x := .val (.pointer (some ⟨b, o, none⟩))) (by rw [h3]; exact h5) h4
  rw [h6, h3]
  have h7 : Sem.run Tryz.prog (receiverAt 268 (.val (.pointer (some ⟨b, o, none⟩))) false (some ((nm.splitOn ".").getLastD nm))) W = .ok v W := by
    simp [receiverAt, run_underlying Tryz.underlying268, run_underlying Tryz.underlying266, Place.get, loadVar, isAgg, nilchk_run, asAddr, h]
  rw [show (#[] : Array FieldStep).isEmpty = true from rfl, if_pos rfl, h7]
  rfl
theorem numI : HeapI 268 195 426 427 where
  eLen := by intro args w; go_simp
  eLess := by intro args w; go_simp
  eSwap := by intro args w; go_simp
  mLen := fun b o v W h => num_method (by kernel_rfl) b o v W h
  mLess := fun b o v W h => num_method (by kernel_rfl) b o v W h
  mSwap := fun b o v W h => num_method (by kernel_rfl) b o v W h
  len := numLen_any
  less := fun g n c i j x y w hi hj hn ci cj => numLess_any g n c i j x y w hi hj hn ci cj
  swap := fun A g c i j l w h hi hj hn => numSwap_all A g c i j l w h hi hj hn
set_option maxRecDepth 100000 in
set_option maxHeartbeats 1600000 in
theorem npop_any (A : Nat → Prop) (b : Nat) (t : TypeId) (cs : Array Value) (o : Nat) (g c : Nat) (l : List Int) (w : World) (h : NumsAt w A b t cs o (.slice (some ⟨g, 0, none⟩) l.length c) l) (hl1 : 1 ≤ l.length) (hl : l.length ≤ 100000) :
    Calls Tryz.prog 428 #[.pointer (some ⟨b, o, none⟩)] w fun e w' => e = .returned (.iface 3 (.int .i64 (l.getD (l.length - 1) 0))) ∧ NPost A b t cs o (.slice (some ⟨g, 0, none⟩) l.length c) w (l.take (l.length - 1)) w' := by
  obtain ⟨hb, hcs, ho, hvb⟩ := h
  have HB := Lib.hid (And.intro hb (And.intro hcs (And.intro ho hvb)))
  have hc : w.cell? ⟨b, o, none⟩ = some (.slice (some ⟨g, 0, none⟩) l.length c) := (hb.cell o).trans hcs
  have hf : w.frozen? ⟨b, o, none⟩ = false := hb.frozen o
  obtain ⟨q, hq⟩ : ∃ q, l.length = q + 1 := ⟨l.length - 1, by omega⟩
  have hx : w.cell? ⟨g, q, none⟩ = some (.int .i64 (l.getD q 0)) := ho.at hl1 (by omega)
  have HQ := Lib.hid hq
  obtain ⟨_, _, hv, _, hgl, _⟩ := ho.cells hl1
  have hcap : l.length ≤ c := by
    obtain ⟨⟨h1, ⟨h2, _⟩ | ⟨g', cap, cur, hv, hb, hh, q1, q2, q3, q4⟩⟩, hA⟩ := ho
    · cases h2
    · injection hv with hv1 hv2 hv3; omega
  obtain ⟨x, hxx⟩ : ∃ x, l.getD q 0 = x := ⟨_, rfl⟩
  have HX := Lib.hid hxx
  rw [hxx] at hx
  rw [hq] at hc hl hcap ⊢
  rw [Nat.add_sub_cancel, hxx]
  have i1 : (q : Int) ≤ 100000 := by omega
  have i0 : (0 : Int) ≤ (q : Int) := by omega
  clear hb hcs ho hvb hq hxx hl1 hv
  go_enter Tryz.func428, Tryz.ntmps428
  go_wp2
  go_ret
  obtain ⟨hb, hcs, ho, hvb⟩ := HB.out
  have hq := HQ.out
  have u3 : Mut (fun k => k = b) w (w.setCell ⟨b, o, none⟩ (.slice (some ⟨g, 0, none⟩) q c)) := (Mut.refl (fun k => k = b) w).setCell (p := ⟨b, o, none⟩) (.inl rfl) _
  have hs := ho.shrink (m := q) (by omega)
  have hgb : g ≠ b := fun e => hvb (by rw [e]; rfl)
  refine ⟨rfl, .slice (some ⟨g, 0, none⟩) q c, ⟨hb.set, set_self hcs _, OwnA.mono (OwnA.mutB hs u3 (fun g' hg e => ?_)) (fun g' _ hg => .inl hg), fun e => hgb (Option.some.inj e)⟩, fun g' hg => .inl hg, u3.mono (fun j _ e => .inl e)⟩
  have : g = g' := Option.some.inj hg
  omega
theorem num_pop (a : Addr) (W : World) : Sem.run Tryz.prog (method 591 268 (.pointer (some a)) "Pop") W = .ok (428, .pointer (some a)) W := by kernel_rfl
theorem enters_npop : ∀ (args : Array Value) (W : World), Sem.run Tryz.prog (callFunc 428 args) W = .ok (.enter 428 args) W := by intro args w; go_simp
set_option maxRecDepth 100000 in
set_option maxHeartbeats 1600000 in
theorem hpopN_any (A : Nat → Prop) (b : Nat) (t : TypeId) (cs : Array Value) (o : Nat) (v : Value) (l : List Int) (w : World) (h : NumsAt w A b t cs o v l) (hl1 : 1 ≤ l.length) (hl : l.length ≤ 100000) (hp : Hp l) :
    Calls Tryz.prog 196 #[.iface 268 (.pointer (some ⟨b, o, none⟩))] w (PopPost A b t cs o v l w) := by
  obtain ⟨g, c, rfl, _, _, _⟩ := h.2.2.1.cells hl1
  have hc : w.cell? ⟨b, o, none⟩ = some (.slice (some ⟨g, 0, none⟩) l.length c) := (h.1.cell o).trans h.2.1
  have hgb : g ≠ b := fun e => h.2.2.2 (by rw [e]; rfl)
  have hm1 := numI.mLen b o _ w hc
  have hm2 := numI.mSwap b o _ w hc
  have hm3 := fun W => num_pop ⟨b, o, none⟩ W
  have hen1 := numI.eLen
  have hen2 := numI.eSwap
  have hen3 := enters_npop
  have HH := Lib.hid (And.intro h (And.intro hgb (And.intro hl1 (And.intro hl hp))))
  obtain ⟨q, hq⟩ : ∃ q, l.length = q + 1 := ⟨l.length - 1, by omega⟩
  have HQ := Lib.hid hq
  have HSW := Lib.hid (numSwap_all A g c 0 q l w h.2.2.1 (by omega) (by omega) (by omega))
  have HDN := Lib.hid (fun W (hcW : W.cell? ⟨b, o, none⟩ = some (.slice (some ⟨g, 0, none⟩) l.length c)) (hoW : OwnI W A (.slice (some ⟨g, 0, none⟩) l.length c) (sw l 0 q)) (hbW : b < W.heap.size) => by
    have e1 : (sw l 0 q).length = l.length := sw_len _ _ _
    have x := down_any numI A b o g c (sw l 0 q) 0 q W (by rw [e1]; exact hcW) (by rw [e1]; exact hoW) hgb hbW (by omega) (by omega) (by omega) (by omega) (by have := hp_swap hp hl1; rw [hq, Nat.add_sub_cancel] at this; exact this)
    rw [e1] at x
    exact x)
  have j1 : (q : Int) ≤ 100000 := by omega
  have j0 : (0 : Int) ≤ (q : Int) := by omega
  rw [hq] at hm1 hm2 HSW HDN
  clear h hc hgb hl1 hl hp hq
  go_enter Tryz.func196, Tryz.ntmps196
  go_wp2_with fail
  refine (numLen_any _ _ _ _).mono ?_
  rintro e w1 ⟨rfl, rfl⟩
  go_wp2_with fail
  refine HSW.out.mono ?_
  rintro e w2 ⟨rfl, ho2, hu2⟩
  have hc2 : w2.cell? ⟨b, o, none⟩ = some (.slice (some ⟨g, 0, none⟩) (q + 1) c) := by
    have h := HH.out.1
    have hq := HQ.out
    rw [← hq]
    exact (hu2.cell (p := ⟨b, o, none⟩) h.1.lt (fun e => HH.out.2.1 e.symm)).trans ((h.1.cell o).trans h.2.1)
  have HD2 := Lib.hid (HDN.out w2 hc2 ho2 (Nat.lt_of_lt_of_le HH.out.1.1.lt hu2.size))
  have H2 := Lib.hid (And.intro ho2 hu2)
  clear hm1 hm2 ho2 hu2 hc2
  go_wp2_with fail
  refine HD2.out.mono ?_
  rintro e w3 ⟨r, l2, rfl, hdn, ho3, hu3⟩
  have HDD : Hid ((l2.take q ++ [l.getD 0 0]).Perm l ∧ Hp (l2.take q) ∧ l2.getD q 0 = l.getD 0 0 ∧ l2.length = l.length) := Lib.hid (by
    have hq := HQ.out
    have x := hp_take (l := l) (l2 := l2) HH.out.2.2.1 (by rw [hq, Nat.add_sub_cancel]; exact hdn)
    rw [hq, Nat.add_sub_cancel] at x
    exact ⟨x.1, x.2.1, x.2.2.1, by rw [hq]; exact x.2.2.2⟩)
  have h4 : NumsAt w3 A b t cs o (.slice (some ⟨g, 0, none⟩) l2.length c) l2 := by
    have h := HH.out.1
    have hq := HQ.out
    have hl2 := HDD.out.2.2.2
    have hgb : ¬ b = g := fun e => HH.out.2.1 e.symm
    have e : l2.length = q + 1 := by omega
    refine ⟨(h.1.mut H2.out.2 hgb).mut hu3 hgb, by rw [hl2]; exact h.2.1, by rw [e]; exact ho3, by rw [hl2]; exact h.2.2.2⟩
  have HP4 := Lib.hid (npop_any A b t cs o g c l2 w3 h4 (by rw [HDD.out.2.2.2]; exact HH.out.2.2.1) (by rw [HDD.out.2.2.2]; exact HH.out.2.2.2.1))
  obtain ⟨x, hxx⟩ : ∃ x, l2.getD (l2.length - 1) 0 = x := ⟨_, rfl⟩
  rw [hxx] at HP4
  have HXX : Hid (x = l.getD 0 0) := Lib.hid (by
    have hq := HQ.out
    have hl2 := HDD.out.2.2.2
    rw [← hxx, show l2.length - 1 = q by omega]; exact HDD.out.2.2.1)
  clear hxx
  have H3 := Lib.hid (H2.out.2.trans hu3)
  clear hdn ho3 hu3 h4
  go_wp2_with fail
  refine HP4.out.mono ?_
  rintro e w4 ⟨rfl, v4, hn4, hob4, hu4⟩
  have H4 := Lib.hid (And.intro hn4 (And.intro hob4 hu4))
  clear hn4 hob4 hu4
  go_wp2
  go_ret
  obtain ⟨hn4, hob4, hu4⟩ := H4.out
  obtain ⟨hpm, hhp, hx, hl2⟩ := HDD.out
  have hq := HQ.out
  have e2 : l2.length - 1 = q := by omega
  rw [e2] at hn4
  have z3 := H3.out.size
  have z4 := hu4.size
  refine ⟨l2.take q, by rw [← HXX.out]; rfl, hpm, hhp, v4, ⟨hn4.1, hn4.2.1, OwnA.mono hn4.2.2.1 (fun g' _ hg => hg.imp id fun p => ⟨by omega, p.2⟩), hn4.2.2.2⟩, fun g' hg => (hob4 g' hg).imp (fun e => e) (fun p => by omega), ?_⟩
  refine (H3.out.mono (T := fun k => k = b ∨ (Value.slice (some ⟨g, 0, none⟩) l.length c).ownBlock = some k) (fun j _ e => .inr (by rw [e]; rfl))).trans2 hu4 (fun _ h => h) (fun j _ h => h)
def InitPost (A : Nat → Prop) (g c : Nat) (l : List Int) (w : World) (e : Ending) (w' : World) : Prop := ∃ l', e = .returned (.tuple #[]) ∧ l'.Perm l ∧ Hp l' ∧ OwnI w' A (.slice (some ⟨g, 0, none⟩) l.length c) l' ∧ Mut (fun k => k = g) w w'
def InRel (A : Nat → Prop) (g c N : Nat) (l : List Int) (w : World) (i : Value) (wr : World) : Prop := ∃ (k : Nat) (l' : List Int), i = .int .i64 ((k : Int) - 1) ∧ k ≤ N / 2 ∧ l'.Perm l ∧ HpFrom l' N k ∧ OwnI wr A (.slice (some ⟨g, 0, none⟩) N c) l' ∧ Mut (fun k => k = g) w wr
set_option maxRecDepth 100000 in
set_option maxHeartbeats 1600000 in
theorem hinit_any {ty : TypeId} {fLen fLess fSwap : FuncId} (HI : HeapI ty fLen fLess fSwap) (A : Nat → Prop) (b o g c : Nat) (l : List Int) (w : World) (hc : w.cell? ⟨b, o, none⟩ = some (.slice (some ⟨g, 0, none⟩) l.length c)) (ho : OwnI w A (.slice (some ⟨g, 0, none⟩) l.length c) l) (hgb : g ≠ b) (hbl : b < w.heap.size)
    (hl1 : 1 ≤ l.length) (hl : l.length ≤ 100000) : Calls Tryz.prog 194 #[.iface ty (.pointer (some ⟨b, o, none⟩))] w (InitPost A g c l w) := by
  have hel := HI.eLen
  have hml := HI.mLen b o _ w hc
  have HLN := Lib.hid (fun a n c W => HI.len a n c W)
  obtain ⟨N, hN⟩ : ∃ N, l.length = N := ⟨_, rfl⟩
  have HC : Hid (∀ W, Mut (fun k => k = g) w W → W.cell? ⟨b, o, none⟩ = some (.slice (some ⟨g, 0, none⟩) N c)) := Lib.hid (fun W hW => by rw [← hN]; exact (hW.cell (p := ⟨b, o, none⟩) hbl (fun e => hgb e.symm)).trans hc)
  have HN := Lib.hid hN
  have HO := Lib.hid ho
  have HH := Lib.hid HI
  have HGB := Lib.hid hgb
  rw [hN] at hl1 hl hml HO
  have hq : (N : Int) / 2 - 1 = ((N / 2 : Nat) : Int) - 1 := by omega
  have HQ := Lib.hid hq
  clear hc ho hgb HI hN hq
  go_enter Tryz.func194, Tryz.ntmps194
  go_wp2_with fail
  refine (HLN.out _ _ _ _).mono ?_
  rintro e w1 ⟨rfl, rfl⟩
  clear hml
  go_wp2
  go_loopw [3] (fun i wr => InRel A g c N l w i wr) (fun i _ => (intOf i + 1).toNat)
  case atStart => exact ⟨N / 2, l, by rw [HQ.out], Nat.le_refl _, List.Perm.refl _, fun c a b d => by omega, HO.out, Mut.refl _ _⟩
  case round =>
    obtain ⟨k, l', rfl, hk, hpm, hhp, ho, hm⟩ := hrel
    have HV := Lib.hid (And.intro hpm (And.intro hhp (And.intro ho hm)))
    clear hpm hhp ho hm
    by_cases hk0 : k = 0
    · subst hk0
      go_wp2
      go_end0
      have hlen : l'.length = N := by rw [HV.out.1.length_eq]; exact HN.out
      refine ⟨l', rfl, HV.out.1, ?_, by rw [HN.out]; exact HV.out.2.2.1, HV.out.2.2.2⟩
      unfold Hp
      rw [hlen]
      exact HV.out.2.1
    · obtain ⟨j, rfl⟩ : ∃ j, k = j + 1 := ⟨k - 1, by omega⟩
      have HD : Hid (Calls Tryz.prog 281 #[.iface ty (.pointer (some ⟨b, o, none⟩)), .int .i64 j, .int .i64 N] wr fun e w' => ∃ (r : Bool) (l2 : List Int), e = .returned (.bool r) ∧ Downed l' l2 N j ∧ OwnI w' A (.slice (some ⟨g, 0, none⟩) N c) l2 ∧ Mut (fun k => k = g) wr w') := Lib.hid (by
        have hlen : l'.length = N := by rw [HV.out.1.length_eq]; exact HN.out
        have x := down_any HH.out A b o g c l' j N wr (by rw [hlen]; exact HC.out wr HV.out.2.2.2) (by rw [hlen]; exact HV.out.2.2.1) HGB.out (Nat.lt_of_lt_of_le hbl HV.out.2.2.2.size) (by omega) (by omega) (by omega) (by omega) HV.out.2.1
        rw [hlen] at x
        exact x)
      have e1 : ((j + 1 : Nat) : Int) - 1 = (j : Int) := by omega
      rw [e1]
      clear e1 hk0
      go_wp2_with fail
      refine HD.out.mono ?_
      rintro e w2 ⟨r, l2, rfl, hdn, ho2, hm2⟩
      have HV2 := Lib.hid (And.intro (hdn.perm.trans HV.out.1) (And.intro hdn.hp (And.intro ho2 (HV.out.2.2.2.trans hm2))))
      clear hdn ho2 hm2
      go_wp2
      go_roundw
      case rel => exact ⟨j, l2, rfl, by omega, HV2.out.1, HV2.out.2.1, HV2.out.2.2.1, HV2.out.2.2.2⟩
      case measure => simp [intOf]
theorem hinit_none {ty : TypeId} {fLen fLess fSwap : FuncId} (HI : HeapI ty fLen fLess fSwap) (b o : Nat) (a : Option Addr) (c : Nat) (w : World) (hc : w.cell? ⟨b, o, none⟩ = some (.slice a 0 c)) : Calls Tryz.prog 194 #[.iface ty (.pointer (some ⟨b, o, none⟩))] w fun e w' => e = .returned (.tuple #[]) ∧ w = w' := by
  have hel := HI.eLen
  have hml := HI.mLen b o _ w hc
  have HLN := Lib.hid (fun a n c W => HI.len a n c W)
  clear HI hc
  go_enter Tryz.func194, Tryz.ntmps194
  go_wp2_with fail
  refine (HLN.out _ _ _ _).mono ?_
  rintro e w1 ⟨rfl, rfl⟩
  clear hml
  go_wp2
  refine wp_loop_rounds 1 ?_
  rw [rounds_succ]
  go_wp2
  go_end0
  exact ⟨rfl, rfl⟩
end Go.Proofs.YtpmlggjhfiljmaaGreatDoor
