/- Contracts that the law rests on, part 13 of 50 (EscP, EscQ). Each states its own conditions. -/
import Derived.Test.YtpmlggjhfiljmaaGreatDoorC09
import Derived.Test.YtpmlggjhfiljmaaGreatDoorC12
/- Plain laws of layer 4: names as they are presented. -/
namespace Go.Proofs.YtpmlggjhfiljmaaGreatDoor
set_option linter.unusedVariables false
set_option linter.unnecessarySimpa false
set_option linter.unusedSimpArgs false
/-- a piece: its character, its bytes, is it the last one -/
abbrev Part := Int × ByteArray × Bool
def bl (b : ByteArray) : List Int := b.data.toList.map fun x => (x.toNat : Int)
def hexI (d : Int) : Int := if d < 10 then 48 + d else 87 + d
def digitI (c : Int) : Int := if 48 ≤ c ∧ c ≤ 57 then c - 48 else if 97 ≤ c ∧ c ≤ 102 then c - 87 else -1
def escI (c : Int) : List Int := [37, hexI (c / 16), hexI (c % 16)]
def esc (b : ByteArray) : List Int := (bl b).flatMap escI
def reservedL : List Int := [34, 37, 42, 47, 58, 60, 62, 63, 92, 124]
def resB (r : Int) : Bool := (decide (0 ≤ r) && decide (r < 32)) || decide (r = 127) || reservedL.contains r
def hidB (p : Part) : Bool := decide (p.1 < 0) || resB p.1 || (p.2.2 && (decide (p.1 = 46) || decide (p.1 = 32)))
def strB (p : Part) : Bool := hidB p || decide (128 ≤ p.1)
def prL (J : List Int → List Int) (hid : Part → Bool) (mk : Bool) : List Part → List Int → List Int
  | [], o => J o
  | p :: ps, o => if (hid p || (mk && o.isEmpty && decide (clsI p.1 ≠ 0))) = true then J o ++ (esc p.2.1 ++ prL J hid mk ps []) else prL J hid mk ps (o ++ [p.1])
def runesOf (ps : List Part) : List Int := ps.map (·.1)
def regB (ps : List Part) : Bool := ps.all (fun p => decide (0 ≤ p.1)) && decide (apt (runesOf ps) = runesOf ps)
def presL (enc : Int) (ps : List Part) : List Int :=
  if enc ≠ 8 then prL id hidB false ps [] else if regB ps = true then prL tog hidB true ps [] else prL id strB false ps []
/-- the parts of a name, out of its pieces -/
def prt (s : ByteArray) : Nat → List (Int × Int) → List Part
  | _, [] => []
  | p, x :: l => (x.1, s.extract p (p + x.2.toNat), decide (p + x.2.toNat = s.size)) :: prt s (p + x.2.toNat) l
def catB : List Part → ByteArray
  | [] => ByteArray.empty
  | p :: ps => p.2.1 ++ catB ps
/-! ### taken again -/
def encB (enc r : Int) : ByteArray := match encC enc r with
  | some l => strOfNums l
  | none => ByteArray.empty
def encL (enc : Int) : List Int → ByteArray
  | [] => ByteArray.empty
  | r :: o => encB enc r ++ encL enc o
def encAll (enc : Int) (o : List Int) : Bool := o.all fun r => (encC enc r).isSome
def opn (enc : Int) (o : List Int) : List Int := if enc = 8 then apt o else o
def flB (enc : Int) (o : List Int) : ByteArray := encL enc (opn enc o)
def flK (enc : Int) (o : List Int) : Bool := encAll enc (opn enc o)
def byteS (c : Int) : ByteArray := strOfNums [c]
def escOK (s : ByteArray) (p : Nat) : Prop := p + 2 ≤ s.size ∧ 0 ≤ digitI (B s p) ∧ 0 ≤ digitI (B s (p + 1))
instance (s : ByteArray) (p : Nat) : Decidable (escOK s p) := by unfold escOK; infer_instance
def rsS (enc : Int) (s : ByteArray) : Nat → Nat → List Int → ByteArray → Bool → ByteArray × Bool
  | 0, _, o, raw, ok => (raw ++ flB enc o, ok && flK enc o)
  | f + 1, p, o, raw, ok =>
    if p < s.size ∧ ok = true then
      if (nxt s p).2 = 0 then rsS enc s f p o raw false
      else if (nxt s p).1 = 37 then
        (if escOK s (p + 1) then rsS enc s f (p + 3) [] (raw ++ flB enc o ++ byteS (digitI (B s (p + 1)) * 16 + digitI (B s (p + 2)))) (flK enc o)
         else rsS enc s f (p + 3) o raw false)
      else rsS enc s f (p + (nxt s p).2.toNat) (o ++ [(nxt s p).1]) raw true
    else (raw ++ flB enc o, ok && flK enc o)
theorem at_join (A R : ByteArray) {r : Int} (hc : isC r = true) : At (A ++ (encS r ++ R)) A.size r := by
  have := At_enc hc
  refine ⟨by rw [← encS_size hc]; simp only [ByteArray.size_append]; omega, fun i hi => ?_⟩
  rw [B_append_right, B_append_left _ _ _ (by rw [encS_size hc]; exact hi), ← this.2 i hi, show 0 + i = i from by omega]
theorem nxt_join (A R : ByteArray) {r : Int} (hc : isC r = true) : nxt (A ++ (encS r ++ R)) A.size = (r, szI r) := nxt_of hc (at_join A R hc)
theorem encS_pos {r : Int} (hc : isC r = true) : 1 ≤ (encS r).size := by have := size_enc hc; rcases szI_cases r with h | h | h | h <;> omega
theorem flB_nil (enc : Int) : flB enc [] = ByteArray.empty := by
  have : opn enc [] = [] := by unfold opn; split <;> rfl
  unfold flB; rw [this]; rfl
theorem flK_nil (enc : Int) : flK enc [] = true := by
  have : opn enc [] = [] := by unfold opn; split <;> rfl
  unfold flK; rw [this]; rfl
/-- characters but the sign are gathered -/
theorem rs_chars (enc : Int) : ∀ (o : List Int) (A R : ByteArray) (f : Nat) (op : List Int) (raw : ByteArray), (∀ c ∈ o, isC c = true ∧ c ≠ 37) →
    rsS enc (A ++ (joinS o ++ R)) (f + o.length) A.size op raw true = rsS enc (A ++ (joinS o ++ R)) f (A ++ joinS o).size (op ++ o) raw true
  | [], A, R, f, op, raw, _ => by simp [joinS]
  | c :: o, A, R, f, op, raw, h => by
    obtain ⟨hc, h37⟩ := h c (by simp)
    have hs : A ++ (joinS (c :: o) ++ R) = A ++ (encS c ++ (joinS o ++ R)) := by simp only [joinS, ByteArray.append_assoc]
    have hn := nxt_join A (joinS o ++ R) hc
    have hp := encS_pos hc
    have h2 : (nxt (A ++ (encS c ++ (joinS o ++ R))) A.size).2 ≠ 0 := by rw [hn]; rcases szI_cases c with q | q | q | q <;> (simp only; omega)
    have hz : (szI c).toNat = (encS c).size := by have := size_enc hc; omega
    rw [hs, List.length_cons, show f + (o.length + 1) = (f + o.length) + 1 by omega]
    have e1 : rsS enc (A ++ (encS c ++ (joinS o ++ R))) (f + o.length + 1) A.size op raw true = rsS enc (A ++ (encS c ++ (joinS o ++ R))) (f + o.length) (A.size + (encS c).size) (op ++ [c]) raw true := by
      rw [rsS, if_pos ⟨by simp only [ByteArray.size_append]; omega, rfl⟩, if_neg h2, hn, if_neg h37, hz]
    rw [e1]
    have ih := rs_chars enc o (A ++ encS c) R f (op ++ [c]) raw fun x hx => h x (by simp [hx])
    rw [ByteArray.append_assoc, ByteArray.size_append] at ih
    rw [ih]
    simp only [joinS, ByteArray.append_assoc, ByteArray.size_append, List.append_assoc, List.singleton_append]
theorem hex_facts {d : Int} (h : 0 ≤ d ∧ d < 16) : digitI (hexI d) = d ∧ isC (hexI d) = true ∧ hexI d < 128 ∧ 0 ≤ hexI d ∧ hexI d ≠ 37 ∧ clsI (hexI d) = 0 := by
  have hh : 48 ≤ hexI d ∧ hexI d ≤ 102 := by unfold hexI; split <;> omega
  refine ⟨?_, isC_of (by omega), by omega, by omega, by omega, ?_⟩
  · unfold digitI hexI; split
    · rw [if_pos (by omega)]; omega
    · rw [if_neg (by omega), if_pos (by omega)]; omega
  · unfold clsI; rw [if_neg (by omega), if_neg (by omega)]
theorem encS_ascii {r : Int} (h0 : 0 ≤ r) (h1 : r < 128) : (encS r).size = 1 ∧ B (encS r) 0 = r := by
  have hc : isC r = true := isC_of (by omega)
  have hs := size_enc hc
  have hz : szI r = 1 := by unfold szI; rw [if_pos h1]
  have ha := At_enc hc
  have e : encI r = [r] := by unfold encI; rw [if_pos h1]
  have h2 := ha.2 0 (by rw [e]; simp)
  rw [e] at h2
  exact ⟨by omega, by simpa using h2⟩
/-- an escape is taken -/
theorem rs_one (enc : Int) (A R : ByteArray) (f : Nat) (op : List Int) (raw : ByteArray) {c : Int} (hc : 0 ≤ c ∧ c < 256) (hk : flK enc op = true) :
    rsS enc (A ++ (joinS (escI c) ++ R)) (f + 1) A.size op raw true = rsS enc (A ++ (joinS (escI c) ++ R)) f (A ++ joinS (escI c)).size [] (raw ++ flB enc op ++ byteS c) true := by
  have hd1 := hex_facts (d := c / 16) (by omega)
  have hd2 := hex_facts (d := c % 16) (by omega)
  have h37 := encS_ascii (r := 37) (by omega) (by omega)
  have ha1 := encS_ascii hd1.2.2.2.1 hd1.2.2.1
  have ha2 := encS_ascii hd2.2.2.2.1 hd2.2.2.1
  have hj : joinS (escI c) = encS 37 ++ (encS (hexI (c / 16)) ++ encS (hexI (c % 16))) := by simp [escI, joinS]
  generalize hx : hexI (c / 16) = x at hd1 ha1 hj
  generalize hy : hexI (c % 16) = y at hd2 ha2 hj
  have hs : A ++ (joinS (escI c) ++ R) = A ++ (encS 37 ++ (encS x ++ (encS y ++ R))) := by rw [hj]; simp only [ByteArray.append_assoc]
  have hn := nxt_join A (encS x ++ (encS y ++ R)) (r := 37) (by decide)
  have b1 : B (A ++ (encS 37 ++ (encS x ++ (encS y ++ R)))) (A.size + 1) = x := by
    rw [B_append_right, show (1 : Nat) = (encS 37).size + 0 by omega, B_append_right, B_append_left _ _ _ (by omega)]; exact ha1.2
  have b2 : B (A ++ (encS 37 ++ (encS x ++ (encS y ++ R)))) (A.size + 2) = y := by
    rw [B_append_right, show (2 : Nat) = (encS 37).size + ((encS x).size + 0) by omega, B_append_right, B_append_right, B_append_left _ _ _ (by omega)]; exact ha2.2
  have hok : escOK (A ++ (encS 37 ++ (encS x ++ (encS y ++ R)))) (A.size + 1) := by
    refine ⟨by simp only [ByteArray.size_append]; omega, ?_, ?_⟩
    · rw [b1, hd1.1]; omega
    · rw [show A.size + 1 + 1 = A.size + 2 by omega, b2, hd2.1]; omega
  have hz : (A ++ joinS (escI c)).size = A.size + 3 := by rw [hj]; simp only [ByteArray.size_append]; omega
  rw [hz, hs, rsS, if_pos ⟨by simp only [ByteArray.size_append]; omega, rfl⟩, if_neg (by rw [hn]; decide), hn, if_pos rfl, if_pos hok, b1, b2, hd1.1, hd2.1, hk, show c / 16 * 16 + c % 16 = c by omega]
theorem strOfNums_append (a b : List Int) : strOfNums (a ++ b) = strOfNums a ++ strOfNums b := by
  unfold strOfNums
  rw [List.map_append]
  apply ByteArray.ext
  simp
theorem strOfNums_nil : strOfNums [] = ByteArray.empty := rfl
theorem rs_escs (enc : Int) : ∀ (bs : List Int) (A R : ByteArray) (f : Nat) (op : List Int) (raw : ByteArray), (∀ c ∈ bs, 0 ≤ c ∧ c < 256) → flK enc op = true → 1 ≤ bs.length →
    rsS enc (A ++ (joinS (bs.flatMap escI) ++ R)) (f + bs.length) A.size op raw true = rsS enc (A ++ (joinS (bs.flatMap escI) ++ R)) f (A ++ joinS (bs.flatMap escI)).size [] (raw ++ flB enc op ++ strOfNums bs) true
  | [], _, _, _, _, _, _, _, h => by simp at h
  | c :: bs, A, R, f, op, raw, hb, hk, _ => by
    have e0 : joinS ((c :: bs).flatMap escI) = joinS (escI c) ++ joinS (bs.flatMap escI) := by rw [List.flatMap_cons, joinS_append]
    have e1 := rs_one enc A (joinS (bs.flatMap escI) ++ R) (f + bs.length) op raw (hb c (by simp)) hk
    rw [e0, ByteArray.append_assoc, List.length_cons, show f + (bs.length + 1) = f + bs.length + 1 by omega, e1]
    have e2 : strOfNums (c :: bs) = byteS c ++ strOfNums bs := by have := strOfNums_append [c] bs; simpa [byteS] using this
    cases bs with
    | nil => simp [joinS, e2, strOfNums_nil]
    | cons d bs =>
      have ih := rs_escs enc (d :: bs) (A ++ joinS (escI c)) R f [] (raw ++ flB enc op ++ byteS c) (fun x hx => hb x (by simp [hx])) (flK_nil enc) (by simp)
      rw [ByteArray.append_assoc] at ih
      rw [ih, flB_nil, ByteArray.append_empty, e2]
      simp only [ByteArray.append_assoc]
/-- what is presented is taken again -/
theorem rs_main (enc : Int) (J : List Int → List Int) (hid : Part → Bool) (mk : Bool) (I : List Int → List Part → Prop)
    (hshow : ∀ o p ps, I o (p :: ps) → (hid p || (mk && o.isEmpty && decide (clsI p.1 ≠ 0))) = false → I (o ++ [p.1]) ps ∧ p.2.1 = encB enc p.1)
    (hhide : ∀ o p ps, I o (p :: ps) → I [] ps ∧ 1 ≤ p.2.1.size)
    (hJ : ∀ o ps, I o ps → (∀ c ∈ J o, isC c = true ∧ c ≠ 37) ∧ flB enc (J o) = encL enc o ∧ flK enc (J o) = true) :
    ∀ (ps : List Part) (o : List Int) (A : ByteArray) (f : Nat) (raw : ByteArray), I o ps → (prL J hid mk ps o).length ≤ f →
      rsS enc (A ++ joinS (prL J hid mk ps o)) f A.size [] raw true = (raw ++ (encL enc o ++ catB ps), true)
  | [], o, A, f, raw, hI, hf => by
    obtain ⟨h1, h2, h3⟩ := hJ o [] hI
    have hf' : (J o).length ≤ f := hf
    obtain ⟨f', rfl⟩ : ∃ f', f = f' + (J o).length := ⟨f - (J o).length, by omega⟩
    have := rs_chars enc (J o) A ByteArray.empty f' [] raw h1
    rw [ByteArray.append_empty, List.nil_append] at this
    show rsS enc (A ++ joinS (J o)) _ _ _ _ _ = _
    rw [this]
    cases f' with
    | zero => rw [rsS, h2, h3]; simp [catB]
    | succ f' => rw [rsS, if_neg (by omega), h2, h3]; simp [catB]
  | p :: ps, o, A, f, raw, hI, hf => by
    cases hh : (hid p || (mk && o.isEmpty && decide (clsI p.1 ≠ 0))) with
    | false =>
      obtain ⟨hI2, hb⟩ := hshow o p ps hI hh
      have e : prL J hid mk (p :: ps) o = prL J hid mk ps (o ++ [p.1]) := by rw [prL, hh]; simp
      rw [e] at hf ⊢
      rw [rs_main enc J hid mk I hshow hhide hJ ps (o ++ [p.1]) A f raw hI2 hf]
      have e2 : ∀ o : List Int, encL enc (o ++ [p.1]) = encL enc o ++ encB enc p.1 := by
        intro o
        induction o with
        | nil => simp [encL]
        | cons x o ih => simp only [List.cons_append, encL, ih, ByteArray.append_assoc]
      rw [e2]
      simp only [catB, hb, ByteArray.append_assoc]
    | true =>
      obtain ⟨hI2, hb⟩ := hhide o p ps hI
      obtain ⟨h1, h2, h3⟩ := hJ o (p :: ps) hI
      have e : prL J hid mk (p :: ps) o = J o ++ (esc p.2.1 ++ prL J hid mk ps []) := by rw [prL, hh]; simp
      rw [e] at hf ⊢
      simp only [List.length_append] at hf
      have hbl : (bl p.2.1).length = p.2.1.size := by simp [bl]
      have hel : ∀ l : List Int, (l.flatMap escI).length = 3 * l.length := by
        intro l
        induction l with
        | nil => rfl
        | cons x l ih => rw [List.flatMap_cons, List.length_append, ih]; simp [escI]; omega
      have hel2 : (esc p.2.1).length = 3 * (bl p.2.1).length := hel _
      obtain ⟨f', rfl⟩ : ∃ f', f = f' + (bl p.2.1).length + (J o).length := ⟨f - (bl p.2.1).length - (J o).length, by omega⟩
      rw [joinS_append, joinS_append]
      have r1 := rs_chars enc (J o) A (joinS (esc p.2.1) ++ joinS (prL J hid mk ps [])) (f' + (bl p.2.1).length) [] raw h1
      rw [List.nil_append] at r1
      rw [r1]
      have r2 := rs_escs enc (bl p.2.1) (A ++ joinS (J o)) (joinS (prL J hid mk ps [])) f' (J o) raw (fun c hc => by
        simp only [bl, List.mem_map] at hc
        obtain ⟨x, _, rfl⟩ := hc
        have := x.toNat_lt
        omega) h3 (by omega)
      have hcell : strOfNums (bl p.2.1) = p.2.1 := strOfNums_cells p.2.1
      rw [hcell, h2] at r2
      have r2' : rsS enc (A ++ (joinS (J o) ++ (joinS (esc p.2.1) ++ joinS (prL J hid mk ps [])))) (f' + (bl p.2.1).length) (A ++ joinS (J o)).size (J o) raw true = rsS enc (A ++ (joinS (J o) ++ (joinS (esc p.2.1) ++ joinS (prL J hid mk ps [])))) f' (A ++ joinS (J o) ++ joinS (esc p.2.1)).size [] (raw ++ encL enc o ++ p.2.1) true := by
        have := r2
        rw [ByteArray.append_assoc] at this
        simpa [esc] using this
      rw [r2']
      have ih := rs_main enc J hid mk I hshow hhide hJ ps [] (A ++ joinS (J o) ++ joinS (esc p.2.1)) f' (raw ++ encL enc o ++ p.2.1) hI2 (by omega)
      rw [ByteArray.append_assoc, ByteArray.append_assoc] at ih
      rw [ih]
      simp only [encL, catB, ByteArray.append_assoc, ByteArray.empty_append]
end Go.Proofs.YtpmlggjhfiljmaaGreatDoor
/- Plain laws of layer 4: what is presented is restored; it is as put together as can be. -/
namespace Go.Proofs.YtpmlggjhfiljmaaGreatDoor
set_option linter.unusedVariables false
set_option linter.unnecessarySimpa false
set_option linter.unusedSimpArgs false
def PartOK (enc : Int) (p : Part) : Prop := (0 ≤ p.1 ∧ isC p.1 = true ∧ (encC enc p.1).isSome = true ∧ p.2.1 = encB enc p.1 ∧ 1 ≤ p.2.1.size) ∨ (p.1 = -1 ∧ p.2.1.size = 1)
theorem encC_isC {enc r : Int} {l : List Int} (h : encC enc r = some l) : isC r = true := by
  unfold encC at h
  split at h
  · assumption
  · cases h
theorem extract_full (s : ByteArray) : s.extract 0 s.size = s := by simp
theorem extract_cat (s : ByteArray) {p q : Nat} (h1 : p ≤ q) (h2 : q ≤ s.size) : s.extract p q ++ s.extract q s.size = s.extract p s.size := by
  rw [ByteArray.extract_append_extract]
  congr 1 <;> omega
theorem prt_ok {enc : Int} {s : ByteArray} (h0 : 0 ≤ enc) (h8 : enc ≤ 8) : ∀ (xs : List (Int × Int)) (p : Nat), p ≤ s.size → Chain enc s p xs s.size → (∀ q ∈ prt s p xs, PartOK enc q) ∧ catB (prt s p xs) = s.extract p s.size
  | [], p, hp, h => by
    have h : p = s.size := h
    subst h
    refine ⟨fun q hq => by simp [prt] at hq, ?_⟩
    simp [prt, catB]
  | x :: l, p, hp, h => by
    obtain ⟨hlt, hx, hc⟩ := h
    rcases next_back h0 h8 hlt with ⟨r, m, e, hr, hm, hs⟩ | ⟨e, _⟩
    · have hb := encC_bytes hm
      rw [hx] at e
      subst e
      simp only at hc
      have hq : p + ((m.length : Nat) : Int).toNat = p + m.length := by rw [Int.toNat_natCast]
      rw [hq] at hc
      have ih := prt_ok h0 h8 l (p + m.length) hs.1 hc
      have hex : s.extract p (p + m.length) = strOfNums m := (stands_eq hb.1 hs).symm
      have hsz : (strOfNums m).size = m.length := strOfNums_size m
      refine ⟨fun q hq2 => ?_, ?_⟩
      · simp only [prt, hq] at hq2
        rcases List.mem_cons.1 hq2 with e | hq2
        · subst e
          left
          refine ⟨hr, encC_isC hm, by rw [hm]; rfl, ?_, ?_⟩
          · simp only [hex, encB, hm]
          · simp only [hex]; omega
        · exact ih.1 q hq2
      · simp only [prt, hq, catB, ih.2]
        exact extract_cat s (by omega) hs.1
    · rw [hx] at e
      subst e
      have hc : Chain enc s (p + 1) l s.size := hc
      have ih := prt_ok h0 h8 l (p + 1) (by omega) hc
      have hsz : (s.extract p (p + 1)).size = 1 := by rw [ByteArray.size_extract]; omega
      refine ⟨fun q hq2 => ?_, ?_⟩
      · have hq2 : q ∈ (-1, s.extract p (p + 1), decide (p + 1 = s.size)) :: prt s (p + 1) l := hq2
        rcases List.mem_cons.1 hq2 with e | hq2
        · subst e; right; exact ⟨rfl, hsz⟩
        · exact ih.1 q hq2
      · have : catB (prt s p ((-1, 1) :: l)) = s.extract p (p + 1) ++ catB (prt s (p + 1) l) := rfl
        rw [this, ih.2]
        exact extract_cat s (by omega) (by omega)
theorem cls_low {r : Int} (h : r < 768) : clsI r = 0 := by unfold clsI; rw [if_neg (by omega), if_neg (by omega)]
theorem split_low {r : Int} (h : r < 128) : splitI r = none := by
  unfold splitI
  cases ht : T.find? (isR r) with
  | some t =>
    have := T_of (List.mem_of_find?_eq_some ht)
    have := find_r ht
    omega
  | none => simp only; unfold hanS; rw [if_neg (by omega)]
theorem nf_zero : ∀ {o : List Int}, (∀ r ∈ o, clsI r = 0) → Nf o
  | [], _ => trivial
  | [_], _ => trivial
  | x :: y :: l, h => ⟨by have := h y (by simp); omega, nf_zero fun r hr => h r (by simp [List.mem_cons.1 hr])⟩
theorem apt_low {o : List Int} (h : ∀ r ∈ o, r < 128) : apt o = o := by
  unfold apt
  rw [spl_same fun x hx => split_low (h x hx)]
  exact nf_ord (nf_zero fun r hr => cls_low (by have := h r hr; omega))
theorem res_37 {r : Int} (h : resB r = false) : r ≠ 37 := by
  intro e
  subst e
  exact absurd h (by decide)
theorem hid_facts {enc : Int} {p : Part} (hp : PartOK enc p) (h : hidB p = false) : 0 ≤ p.1 ∧ p.1 ≠ 37 ∧ isC p.1 = true ∧ (encC enc p.1).isSome = true ∧ p.2.1 = encB enc p.1 := by
  unfold hidB at h
  simp only [Bool.or_eq_false_iff, decide_eq_false_iff_not] at h
  rcases hp with ⟨h1, h2, h3, h4, _⟩ | ⟨h1, _⟩
  · exact ⟨h1, res_37 h.1.2, h2, h3, h4⟩
  · omega
theorem part_size {enc : Int} {p : Part} (hp : PartOK enc p) : 1 ≤ p.2.1.size := by
  rcases hp with h | h
  · exact h.2.2.2.2
  · omega
theorem encK_all {enc : Int} {o : List Int} (h : ∀ r ∈ o, (encC enc r).isSome = true) : encAll enc o = true := by unfold encAll; rw [List.all_eq_true]; exact h
/-- characters stand as they are -/
theorem rs_plain {enc : Int} (hid : Part → Bool) (hh : ∀ p, hid p = false → hidB p = false ∧ (enc = 8 → p.1 < 128)) (ps : List Part) (A : ByteArray) (f : Nat) (raw : ByteArray)
    (hps : ∀ p ∈ ps, PartOK enc p) (hf : (prL id hid false ps []).length ≤ f) : rsS enc (A ++ joinS (prL id hid false ps [])) f A.size [] raw true = (raw ++ catB ps, true) := by
  have := rs_main enc id hid false (fun o ps => (∀ r ∈ o, isC r = true ∧ r ≠ 37 ∧ (encC enc r).isSome = true ∧ (enc = 8 → r < 128)) ∧ ∀ p ∈ ps, PartOK enc p) ?_ ?_ ?_ ps [] A f raw ⟨fun r hr => by simp at hr, hps⟩ hf
  · rw [this]; simp [encL]
  · intro o p ps hI h
    simp at h
    obtain ⟨h1, h2⟩ := hh p h
    have h3 := hid_facts (hI.2 p (by simp)) h1
    refine ⟨⟨fun r hr => ?_, fun q hq => hI.2 q (by simp [hq])⟩, h3.2.2.2.2⟩
    rcases List.mem_append.1 hr with hr | hr
    · exact hI.1 r hr
    · simp at hr; rw [hr]; exact ⟨h3.2.2.1, h3.2.1, h3.2.2.2.1, h2⟩
  · intro o p ps hI
    exact ⟨⟨fun r hr => by simp at hr, fun q hq => hI.2 q (by simp [hq])⟩, part_size (hI.2 p (by simp))⟩
  · intro o ps hI
    have ho : opn enc o = o := by
      unfold opn
      split
      · rename_i h8; exact apt_low fun r hr => (hI.1 r hr).2.2.2 h8
      · rfl
    refine ⟨fun c hc => ⟨(hI.1 c hc).1, (hI.1 c hc).2.1⟩, ?_, ?_⟩
    · show encL enc (opn enc o) = _; rw [ho]
    · show encAll enc (opn enc o) = _; rw [ho]; exact encK_all fun r hr => (hI.1 r hr).2.2.1
theorem enc8_some {r : Int} (h : isC r = true) : (encC 8 r).isSome = true := by unfold encC; rw [if_pos h, if_pos (by decide)]; rfl
theorem pair_char {c r x : Int} (h : pairI c r = some x) : isC x = true ∧ x ≠ 37 := by
  have h1 := pairI_pos h
  have h2 : 128 ≤ x := by
    unfold pairI at h
    cases ht : T.find? (isAB c r) with
    | some t =>
      rw [ht] at h
      have := T_of (List.mem_of_find?_eq_some ht)
      simp only [Option.some.injEq] at h
      omega
    | none =>
      rw [ht] at h
      unfold hanI at h
      simp only at h
      split at h
      · simp only [Option.some.injEq] at h; omega
      split at h
      · simp only [Option.some.injEq] at h; omega
      · cases h
  have h3 : x < 55296 := by omega
  exact ⟨isC_of (by omega), by omega⟩
theorem nf_app_right {A B : List Int} (h : Nf (A ++ B)) : Nf B := by
  induction A with
  | nil => exact h
  | cons x A ih => exact ih (Nf.tail h)
/-- a HFS disk's regular name -/
theorem rs_regular (ps : List Part) (A : ByteArray) (f : Nat) (raw : ByteArray) (hps : ∀ p ∈ ps, PartOK 8 p) (hr : regB ps = true) (hf : (prL tog hidB true ps []).length ≤ f) :
    rsS 8 (A ++ joinS (prL tog hidB true ps [])) f A.size [] raw true = (raw ++ catB ps, true) := by
  unfold regB at hr
  simp only [Bool.and_eq_true, decide_eq_true_eq] at hr
  have hsp : ∀ p ∈ ps, splitI p.1 = none := fun p hp => by
    have : p.1 ∈ apt (runesOf ps) := by rw [hr.2]; unfold runesOf; exact List.mem_map_of_mem hp
    exact apt_mem _ this
  have hnf : Nf (runesOf ps) := by have := apt_nf (runesOf ps); rwa [hr.2] at this
  have := rs_main 8 tog hidB true (fun o ps => (∀ r ∈ o, isC r = true ∧ r ≠ 37 ∧ splitI r = none) ∧ Nf (o ++ runesOf ps) ∧ ∀ p ∈ ps, PartOK 8 p ∧ splitI p.1 = none) ?_ ?_ ?_ ps [] A f raw ⟨fun r hr => by simp at hr, hnf, fun p hp => ⟨hps p hp, hsp p hp⟩⟩ hf
  · rw [this]; simp [encL]
  · intro o p ps hI h
    simp only [Bool.or_eq_false_iff] at h
    have h3 := hid_facts (hI.2.2 p (by simp)).1 h.1
    refine ⟨⟨fun r hr => ?_, by simpa [runesOf] using hI.2.1, fun q hq => hI.2.2 q (by simp [hq])⟩, h3.2.2.2.2⟩
    rcases List.mem_append.1 hr with hr | hr
    · exact hI.1 r hr
    · simp at hr; rw [hr]; exact ⟨h3.2.2.1, h3.2.1, (hI.2.2 p (by simp)).2⟩
  · intro o p ps hI
    have h4 : Nf (p.1 :: runesOf ps) := nf_app_right (A := o) (by simpa [runesOf] using hI.2.1)
    exact ⟨⟨fun r hr => by simp at hr, Nf.tail h4, fun q hq => hI.2.2 q (by simp [hq])⟩, part_size (hI.2.2 p (by simp)).1⟩
  · intro o ps hI
    have ho : opn 8 (tog o) = o := by
      unfold opn
      rw [if_pos rfl]
      exact apt_tog (fun x hx => (hI.1 x hx).2.2) (nf_pre hI.2.1)
    refine ⟨fun c hc => ?_, ?_, ?_⟩
    · exact tog_mem (p := fun x => isC x = true ∧ x ≠ 37) (fun c r x h => pair_char h) (fun x hx => ⟨(hI.1 x hx).1, (hI.1 x hx).2.1⟩) c hc
    · show encL 8 (opn 8 (tog o)) = _; rw [ho]
    · show encAll 8 (opn 8 (tog o)) = _; rw [ho]; exact encK_all fun r hr => enc8_some (hI.1 r hr).1
theorem str_facts {p : Part} (h : strB p = false) : hidB p = false ∧ p.1 < 128 := by
  unfold strB at h
  simp only [Bool.or_eq_false_iff, decide_eq_false_iff_not] at h
  exact ⟨h.1, by omega⟩
/-- what is presented is restored -/
theorem rs_present {enc : Int} {s : ByteArray} {xs : List (Int × Int)} (h0 : 0 ≤ enc) (h8 : enc ≤ 8) (hc : Chain enc s 0 xs s.size) {f : Nat} (hf : (presL enc (prt s 0 xs)).length ≤ f) :
    rsS enc (joinS (presL enc (prt s 0 xs))) f 0 [] ByteArray.empty true = (s, true) := by
  obtain ⟨hok, hcat⟩ := prt_ok h0 h8 xs 0 (Nat.zero_le _) hc
  rw [extract_full] at hcat
  generalize prt s 0 xs = ps at hok hcat hf
  have fin : ∀ L : List Int, rsS enc (ByteArray.empty ++ joinS L) f ByteArray.empty.size [] ByteArray.empty true = (ByteArray.empty ++ catB ps, true) → rsS enc (joinS L) f 0 [] ByteArray.empty true = (s, true) := fun L h => by
    rw [ByteArray.empty_append, ByteArray.empty_append, hcat] at h
    exact h
  unfold presL at hf ⊢
  by_cases h : enc ≠ 8
  · rw [if_pos h] at hf ⊢
    exact fin _ (rs_plain hidB (fun p hp => ⟨hp, fun e => absurd e h⟩) ps _ f _ hok hf)
  · rw [if_neg h] at hf ⊢
    have e8 : enc = 8 := by omega
    subst e8
    by_cases hr : regB ps = true
    · rw [if_pos hr] at hf ⊢
      exact fin _ (rs_regular ps _ f _ hok hr hf)
    · rw [if_neg hr] at hf ⊢
      exact fin _ (rs_plain strB (fun p hp => ⟨(str_facts hp).1, fun _ => (str_facts hp).2⟩) ps _ f _ hok hf)
/-! ### as put together as can be -/
theorem tog_head {y : Int} {Y : List Int} (hy : clsI y = 0) : ∃ z Z, tog (y :: Y) = z :: Z ∧ clsI z = 0 := by
  have key : ∀ (m : List Int) (P : List Int) (c : Int) (Q : List Int), (∃ z Z, P ++ [c] = z :: Z ∧ clsI z = 0) → ∃ z Z, tO (m.foldl tstep (P, some c, Q)) = z :: Z ∧ clsI z = 0 := by
    intro m
    induction m with
    | nil =>
      intro P c Q h
      obtain ⟨z, Z, e, hz⟩ := h
      refine ⟨z, Z ++ Q, ?_, hz⟩
      show P ++ c :: Q = _
      have : P ++ c :: Q = (P ++ [c]) ++ Q := by simp
      rw [this, e]; rfl
    | cons r m ih =>
      intro P c Q h
      obtain ⟨z, Z, e, hz⟩ := h
      rw [List.foldl_cons]
      cases hm : mkO c Q r with
      | some x =>
        have e2 : tstep (P, some c, Q) r = (P, some x, Q) := by unfold tstep; simp only [hm]
        rw [e2]
        refine ih P x Q ?_
        have hp2 : pairI c r = some x := by
          unfold mkO at hm
          split at hm
          · exact hm
          · cases hm
        cases P with
        | nil => exact ⟨x, [], rfl, (pair_facts hp2).1⟩
        | cons p P => simp at e; exact ⟨p, P ++ [x], rfl, by rw [e.1]; exact hz⟩
      | none =>
        have e2 : tstep (P, some c, Q) r = tpush P (some c) Q r := by unfold tstep; simp only [hm]
        rw [e2]
        unfold tpush
        by_cases hr : clsI r = 0
        · rw [if_pos hr]
          refine ih _ r [] ?_
          refine ⟨z, Z ++ Q ++ [r], ?_, hz⟩
          show P ++ c :: Q ++ [r] = _
          have : P ++ c :: Q ++ [r] = (P ++ [c]) ++ Q ++ [r] := by simp
          rw [this, e]; rfl
        · rw [if_neg hr]
          exact ih P c _ ⟨z, Z, e, hz⟩
  have e3 : trun (y :: Y) = Y.foldl tstep ([], some y, []) := by
    unfold trun
    rw [List.foldl_cons]
    have : tstep ([], none, []) y = ([], some y, []) := by show tpush [] none [] y = _; unfold tpush; rw [if_pos hy]; rfl
    rw [this]
  unfold tog
  rw [e3]
  exact key Y [] y [] ⟨y, [], rfl, hy⟩
theorem escI_low {c : Int} (hc : 0 ≤ c ∧ c < 256) : ∀ b ∈ escI c, b < 128 := by
  intro b hb
  have h1 := hex_facts (d := c / 16) (by omega)
  have h2 := hex_facts (d := c % 16) (by omega)
  simp only [escI, List.mem_cons, List.not_mem_nil, or_false] at hb
  rcases hb with e | e | e <;> subst e
  · decide
  · exact h1.2.2.1
  · exact h2.2.2.1
theorem esc_low (b : ByteArray) : ∀ x ∈ esc b, x < 128 := by
  intro x hx
  unfold esc at hx
  rw [List.mem_flatMap] at hx
  obtain ⟨c, hc, hx⟩ := hx
  refine escI_low ?_ x hx
  simp only [bl, List.mem_map] at hc
  obtain ⟨y, _, rfl⟩ := hc
  have := y.toNat_lt
  omega
/-- all that is presented are characters -/
theorem pres_chars {enc : Int} {s : ByteArray} {xs : List (Int × Int)} (h0 : 0 ≤ enc) (h8 : enc ≤ 8) (hc : Chain enc s 0 xs s.size) : ∀ c ∈ presL enc (prt s 0 xs), isC c = true := by
  obtain ⟨hok, _⟩ := prt_ok h0 h8 xs 0 (Nat.zero_le _) hc
  generalize prt s 0 xs = ps at hok
  have key : ∀ (J : List Int → List Int) (hid : Part → Bool) (mk : Bool), (∀ p, hid p = false → hidB p = false) → (∀ o, (∀ r ∈ o, isC r = true) → ∀ r ∈ J o, isC r = true) →
      ∀ (ps : List Part) (o : List Int), (∀ p ∈ ps, PartOK enc p) → (∀ r ∈ o, isC r = true) → ∀ c ∈ prL J hid mk ps o, isC c = true := by
    intro J hid mk hh hJ ps
    induction ps with
    | nil => intro o _ ho c hc; exact hJ o ho c hc
    | cons p ps ih =>
      intro o hp ho c hc
      rw [prL] at hc
      split at hc
      · rcases List.mem_append.1 hc with hc | hc
        · exact hJ o ho c hc
        · rcases List.mem_append.1 hc with hc | hc
          · have h1 := esc_low _ c hc
            have h2 : 0 ≤ c := by
              unfold esc at hc
              rw [List.mem_flatMap] at hc
              obtain ⟨d, hd, hc⟩ := hc
              simp only [bl, List.mem_map] at hd
              obtain ⟨y, _, rfl⟩ := hd
              have := y.toNat_lt
              have g1 := hex_facts (d := (y.toNat : Int) / 16) (by omega)
              have g2 := hex_facts (d := (y.toNat : Int) % 16) (by omega)
              simp only [escI, List.mem_cons, List.not_mem_nil, or_false] at hc
              rcases hc with e | e | e <;> omega
            exact isC_of (by omega)
          · exact ih [] (fun q hq => hp q (by simp [hq])) (fun r hr => by simp at hr) c hc
      · rename_i hcond
        simp only [Bool.or_eq_true, not_or, Bool.not_eq_true] at hcond
        refine ih (o ++ [p.1]) (fun q hq => hp q (by simp [hq])) (fun r hr => ?_) c hc
        rcases List.mem_append.1 hr with hr | hr
        · exact ho r hr
        · simp at hr; rw [hr]; exact (hid_facts (hp p (by simp)) (hh p hcond.1)).2.2.1
  have hid' : ∀ o : List Int, (∀ r ∈ o, isC r = true) → ∀ r ∈ id o, isC r = true := fun o h => h
  have htog : ∀ o : List Int, (∀ r ∈ o, isC r = true) → ∀ r ∈ tog o, isC r = true := fun o h => tog_mem (p := fun x => isC x = true) (fun c r x hx => (pair_char hx).1) h
  unfold presL
  split
  · exact key id hidB false (fun p h => h) hid' ps [] hok (fun r hr => by simp at hr)
  split
  · exact key tog hidB true (fun p h => h) htog ps [] hok (fun r hr => by simp at hr)
  · exact key id strB false (fun p h => (str_facts h).1) hid' ps [] hok (fun r hr => by simp at hr)
theorem tog_len2 (o : List Int) : (tog o).length ≤ o.length := trun_len o
theorem esc_len (b : ByteArray) : (esc b).length = 3 * b.size := by
  have hel : ∀ l : List Int, (l.flatMap escI).length = 3 * l.length := by
    intro l
    induction l with
    | nil => rfl
    | cons x l ih => rw [List.flatMap_cons, List.length_append, ih]; simp [escI]; omega
  unfold esc
  rw [hel]
  simp [bl]
theorem pres_len {enc : Int} {s : ByteArray} {xs : List (Int × Int)} (h0 : 0 ≤ enc) (h8 : enc ≤ 8) (hc : Chain enc s 0 xs s.size) : (presL enc (prt s 0 xs)).length ≤ 3 * s.size := by
  obtain ⟨hok, hcat⟩ := prt_ok h0 h8 xs 0 (Nat.zero_le _) hc
  rw [extract_full] at hcat
  have hsz : s.size = (catB (prt s 0 xs)).size := by rw [hcat]
  rw [hsz]
  clear hsz hcat
  generalize prt s 0 xs = ps at hok
  have key : ∀ (J : List Int → List Int) (hid : Part → Bool) (mk : Bool), (∀ o, (J o).length ≤ o.length) →
      ∀ (ps : List Part) (o : List Int), (∀ p ∈ ps, PartOK enc p) → (prL J hid mk ps o).length ≤ o.length + 3 * (catB ps).size := by
    intro J hid mk hJ ps
    induction ps with
    | nil => intro o _; exact Nat.le_trans (hJ o) (by omega)
    | cons p ps ih =>
      intro o hp
      have h1 := part_size (hp p (by simp))
      rw [prL]
      simp only [catB, ByteArray.size_append]
      split
      · have := ih [] fun q hq => hp q (by simp [hq])
        have := hJ o
        have := esc_len p.2.1
        simp only [List.length_append, List.length_nil] at *
        omega
      · have := ih (o ++ [p.1]) fun q hq => hp q (by simp [hq])
        simp only [List.length_append, List.length_singleton] at this
        omega
  unfold presL
  split
  · have := key id hidB false (fun o => Nat.le_refl _) ps [] hok; simpa using this
  split
  · have := key tog hidB true tog_len2 ps [] hok; simpa using this
  · have := key id strB false (fun o => Nat.le_refl _) ps [] hok; simpa using this
end Go.Proofs.YtpmlggjhfiljmaaGreatDoor
