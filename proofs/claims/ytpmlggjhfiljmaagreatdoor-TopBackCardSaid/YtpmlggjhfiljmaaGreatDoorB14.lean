/- Contracts that the law rests on, part 14 of 50 (EscP). Each states its own conditions. -/
import Derived.Test.YtpmlggjhfiljmaaGreatDoorB09
import Derived.Test.YtpmlggjhfiljmaaGreatDoorB10
import Derived.Test.YtpmlggjhfiljmaaGreatDoorB13
namespace Go.Proofs.YtpmlggjhfiljmaaGreatDoor
set_option linter.unusedVariables false
set_option linter.unnecessarySimpa false
set_option linter.unusedSimpArgs false

/-- a piece: its character, its bytes, is it the last one -/
abbrev Part := Int × ByteArray × Bool
def bl (b : ByteArray) : List Int := b.data.toList.map fun x => (x.toNat : Int)
def hexI (d : Int) : Int := if d < 10 then 48 + d else 87 + d
def digitI (c : Int) : Int := if 48 ≤ c ∧ c ≤ 57 then c - 48 else if 97 ≤ c ∧ c ≤ 102 then c - 87 else -1
def escI (c : Int) : List Int := [37, hexI (c / 16), hexI (c % 16)]
def esc (b : ByteArray) : List Int := (bl b).flatMap escI
def reservedL : List Int := [34, 37, 42, 47, 58, 60, 62, 63, 92, 124]
def resB (r : Int) : Bool := (decide (0 ≤ r) && decide (r < 32)) || decide (r = 127) || reservedL.contains r
def hidB (p : Part) : Bool := decide (p.1 < 0) || resB p.1 || (p.2.2 && (decide (p.1 = 46) || decide (p.1 = 32)))
def strB (p : Part) : Bool := hidB p || decide (128 ≤ p.1)
def prL (J : List Int → List Int) (hid : Part → Bool) (mk : Bool) : List Part → List Int → List Int
  | [], o => J o
  | p :: ps, o => if (hid p || (mk && o.isEmpty && decide (clsI p.1 ≠ 0))) = true then J o ++ (esc p.2.1 ++ prL J hid mk ps []) else prL J hid mk ps (o ++ [p.1])
def runesOf (ps : List Part) : List Int := ps.map (·.1)
def regB (ps : List Part) : Bool := ps.all (fun p => decide (0 ≤ p.1)) && decide (apt (runesOf ps) = runesOf ps)
def presL (enc : Int) (ps : List Part) : List Int :=
  if enc ≠ 8 then prL id hidB false ps [] else if regB ps = true then prL tog hidB true ps [] else prL id strB false ps []
/-- the parts of a name, out of its pieces -/
def prt (s : ByteArray) : Nat → List (Int × Int) → List Part
  | _, [] => []
  | p, x :: l => (x.1, s.extract p (p + x.2.toNat), decide (p + x.2.toNat = s.size)) :: prt s (p + x.2.toNat) l
def catB : List Part → ByteArray
  | [] => ByteArray.empty
  | p :: ps => p.2.1 ++ catB ps

/-! ### taken again -/
def encB (enc r : Int) : ByteArray := match encC enc r with
  | some l => strOfNums l
  | none => ByteArray.empty
def encL (enc : Int) : List Int → ByteArray
  | [] => ByteArray.empty
  | r :: o => encB enc r ++ encL enc o
def encAll (enc : Int) (o : List Int) : Bool := o.all fun r => (encC enc r).isSome
def opn (enc : Int) (o : List Int) : List Int := if enc = 8 then apt o else o
def flB (enc : Int) (o : List Int) : ByteArray := encL enc (opn enc o)
def flK (enc : Int) (o : List Int) : Bool := encAll enc (opn enc o)
def byteS (c : Int) : ByteArray := strOfNums [c]
def escOK (s : ByteArray) (p : Nat) : Prop := p + 2 ≤ s.size ∧ 0 ≤ digitI (B s p) ∧ 0 ≤ digitI (B s (p + 1))
instance (s : ByteArray) (p : Nat) : Decidable (escOK s p) := by unfold escOK; infer_instance
def rsS (enc : Int) (s : ByteArray) : Nat → Nat → List Int → ByteArray → Bool → ByteArray × Bool
  | 0, _, o, raw, ok => (raw ++ flB enc o, ok && flK enc o)
  | f + 1, p, o, raw, ok =>
    if p < s.size ∧ ok = true then
      if (nxt s p).2 = 0 then rsS enc s f p o raw false
      else if (nxt s p).1 = 37 then
        (if escOK s (p + 1) then rsS enc s f (p + 3) [] (raw ++ flB enc o ++ byteS (digitI (B s (p + 1)) * 16 + digitI (B s (p + 2)))) (flK enc o)
         else rsS enc s f (p + 3) o raw false)
      else rsS enc s f (p + (nxt s p).2.toNat) (o ++ [(nxt s p).1]) raw true
    else (raw ++ flB enc o, ok && flK enc o)
theorem at_join (A R : ByteArray) {r : Int} (hc : isC r = true) : At (A ++ (encS r ++ R)) A.size r := by
  have := At_enc hc
  refine ⟨by rw [← encS_size hc]; simp only [ByteArray.size_append]; omega, fun i hi => ?_⟩
  rw [B_append_right, B_append_left _ _ _ (by rw [encS_size hc]; exact hi), ← this.2 i hi, show 0 + i = i from by omega]
theorem nxt_join (A R : ByteArray) {r : Int} (hc : isC r = true) : nxt (A ++ (encS r ++ R)) A.size = (r, szI r) := nxt_of hc (at_join A R hc)
theorem encS_pos {r : Int} (hc : isC r = true) : 1 ≤ (encS r).size := by have := size_enc hc; rcases szI_cases r with h | h | h | h <;> omega
theorem flB_nil (enc : Int) : flB enc [] = ByteArray.empty := by
  have : opn enc [] = [] := by unfold opn; split <;> rfl
  unfold flB; rw [this]; rfl
theorem flK_nil (enc : Int) : flK enc [] = true := by
  have : opn enc [] = [] := by unfold opn; split <;> rfl
  unfold flK; rw [this]; rfl
/-- characters but the sign are gathered -/
theorem rs_chars (enc : Int) : ∀ (o : List Int) (A R : ByteArray) (f : Nat) (op : List Int) (raw : ByteArray), (∀ c ∈ o, isC c = true ∧ c ≠ 37) →
    rsS enc (A ++ (joinS o ++ R)) (f + o.length) A.size op raw true = rsS enc (A ++ (joinS o ++ R)) f (A ++ joinS o).size (op ++ o) raw true
  | [], A, R, f, op, raw, _ => by simp [joinS]
  | c :: o, A, R, f, op, raw, h => by
    obtain ⟨hc, h37⟩ := h c (by simp)
    have hs : A ++ (joinS (c :: o) ++ R) = A ++ (encS c ++ (joinS o ++ R)) := by simp only [joinS, ByteArray.append_assoc]
    have hn := nxt_join A (joinS o ++ R) hc
    have hp := encS_pos hc
    have h2 : (nxt (A ++ (encS c ++ (joinS o ++ R))) A.size).2 ≠ 0 := by rw [hn]; rcases szI_cases c with q | q | q | q <;> (simp only; omega)
    have hz : (szI c).toNat = (encS c).size := by have := size_enc hc; omega
    rw [hs, List.length_cons, show f + (o.length + 1) = (f + o.length) + 1 by omega]
    have e1 : rsS enc (A ++ (encS c ++ (joinS o ++ R))) (f + o.length + 1) A.size op raw true = rsS enc (A ++ (encS c ++ (joinS o ++ R))) (f + o.length) (A.size + (encS c).size) (op ++ [c]) raw true := by
      rw [rsS, if_pos ⟨by simp only [ByteArray.size_append]; omega, rfl⟩, if_neg h2, hn, if_neg h37, hz]
    rw [e1]
    have ih := rs_chars enc o (A ++ encS c) R f (op ++ [c]) raw fun x hx => h x (by simp [hx])
    rw [ByteArray.append_assoc, ByteArray.size_append] at ih
    rw [ih]
    simp only [joinS, ByteArray.append_assoc, ByteArray.size_append, List.append_assoc, List.singleton_append]
theorem hex_facts {d : Int} (h : 0 ≤ d ∧ d < 16) : digitI (hexI d) = d ∧ isC (hexI d) = true ∧ hexI d < 128 ∧ 0 ≤ hexI d ∧ hexI d ≠ 37 ∧ clsI (hexI d) = 0 := by
  have hh : 48 ≤ hexI d ∧ hexI d ≤ 102 := by unfold hexI; split <;> omega
  refine ⟨?_, isC_of (by omega), by omega, by omega, by omega, ?_⟩
  · unfold digitI hexI; split
    · rw [if_pos (by omega)]; omega
    · rw [if_neg (by omega), if_pos (by omega)]; omega
  · unfold clsI; rw [if_neg (by omega), if_neg (by omega)]
theorem encS_ascii {r : Int} (h0 : 0 ≤ r) (h1 : r < 128) : (encS r).size = 1 ∧ B (encS r) 0 = r := by
  have hc : isC r = true := isC_of (by omega)
  have hs := size_enc hc
  have hz : szI r = 1 := by unfold szI; rw [if_pos h1]
  have ha := At_enc hc
  have e : encI r = [r] := by unfold encI; rw [if_pos h1]
  have h2 := ha.2 0 (by rw [e]; simp)
  rw [e] at h2
  exact ⟨by omega, by simpa using h2⟩
/-- an escape is taken -/
theorem rs_one (enc : Int) (A R : ByteArray) (f : Nat) (op : List Int) (raw : ByteArray) {c : Int} (hc : 0 ≤ c ∧ c < 256) (hk : flK enc op = true) :
    rsS enc (A ++ (joinS (escI c) ++ R)) (f + 1) A.size op raw true = rsS enc (A ++ (joinS (escI c) ++ R)) f (A ++ joinS (escI c)).size [] (raw ++ flB enc op ++ byteS c) true := by
  have hd1 := hex_facts (d := c / 16) (by omega)
  have hd2 := hex_facts (d := c % 16) (by omega)
  have h37 := encS_ascii (r := 37) (by omega) (by omega)
  have ha1 := encS_ascii hd1.2.2.2.1 hd1.2.2.1
  have ha2 := encS_ascii hd2.2.2.2.1 hd2.2.2.1
  have hj : joinS (escI c) = encS 37 ++ (encS (hexI (c / 16)) ++ encS (hexI (c % 16))) := by simp [escI, joinS]
  generalize hx : hexI (c / 16) = x at hd1 ha1 hj
  generalize hy : hexI (c % 16) = y at hd2 ha2 hj
  have hs : A ++ (joinS (escI c) ++ R) = A ++ (encS 37 ++ (encS x ++ (encS y ++ R))) := by rw [hj]; simp only [ByteArray.append_assoc]
  have hn := nxt_join A (encS x ++ (encS y ++ R)) (r := 37) (by decide)
  have b1 : B (A ++ (encS 37 ++ (encS x ++ (encS y ++ R)))) (A.size + 1) = x := by
    rw [B_append_right, show (1 : Nat) = (encS 37).size + 0 by omega, B_append_right, B_append_left _ _ _ (by omega)]; exact ha1.2
  have b2 : B (A ++ (encS 37 ++ (encS x ++ (encS y ++ R)))) (A.size + 2) = y := by
    rw [B_append_right, show (2 : Nat) = (encS 37).size + ((encS x).size + 0) by omega, B_append_right, B_append_right, B_append_left _ _ _ (by omega)]; exact ha2.2
  have hok : escOK (A ++ (encS 37 ++ (encS x ++ (encS y ++ R)))) (A.size + 1) := by
    refine ⟨by simp only [ByteArray.size_append]; omega, ?_, ?_⟩
    · rw [b1, hd1.1]; omega
    · rw [show A.size + 1 + 1 = A.size + 2 by omega, b2, hd2.1]; omega
  have hz : (A ++ joinS (escI c)).size = A.size + 3 := by rw [hj]; simp only [ByteArray.size_append]; omega
  rw [hz, hs, rsS, if_pos ⟨by simp only [ByteArray.size_append]; omega, rfl⟩, if_neg (by rw [hn]; decide), hn, if_pos rfl, if_pos hok, b1, b2, hd1.1, hd2.1, hk, show c / 16 * 16 + c % 16 = c by omega]
theorem strOfNums_append (a b : List Int) : strOfNums (a ++ b) = strOfNums a ++ strOfNums b := by
  unfold strOfNums
  rw [List.map_append]
  apply ByteArray.ext
  simp
theorem strOfNums_nil : strOfNums [] = ByteArray.empty := rfl
theorem rs_escs (enc : Int) : ∀ (bs : List Int) (A R : ByteArray) (f : Nat) (op : List Int) (raw : ByteArray), (∀ c ∈ bs, 0 ≤ c ∧ c < 256) → flK enc op = true → 1 ≤ bs.length →
    rsS enc (A ++ (joinS (bs.flatMap escI) ++ R)) (f + bs.length) A.size op raw true = rsS enc (A ++ (joinS (bs.flatMap escI) ++ R)) f (A ++ joinS (bs.flatMap escI)).size [] (raw ++ flB enc op ++ strOfNums bs) true
  | [], _, _, _, _, _, _, _, h => by simp at h
  | c :: bs, A, R, f, op, raw, hb, hk, _ => by
    have e0 : joinS ((c :: bs).flatMap escI) = joinS (escI c) ++ joinS (bs.flatMap escI) := by rw [List.flatMap_cons, joinS_append]
    have e1 := rs_one enc A (joinS (bs.flatMap escI) ++ R) (f + bs.length) op raw (hb c (by simp)) hk
    rw [e0, ByteArray.append_assoc, List.length_cons, show f + (bs.length + 1) = f + bs.length + 1 by omega, e1]
    have e2 : strOfNums (c :: bs) = byteS c ++ strOfNums bs := by have := strOfNums_append [c] bs; simpa [byteS] using this
    cases bs with
    | nil => simp [joinS, e2, strOfNums_nil]
    | cons d bs =>
      have ih := rs_escs enc (d :: bs) (A ++ joinS (escI c)) R f [] (raw ++ flB enc op ++ byteS c) (fun x hx => hb x (by simp [hx])) (flK_nil enc) (by simp)
      rw [ByteArray.append_assoc] at ih
      rw [ih, flB_nil, ByteArray.append_empty, e2]
      simp only [ByteArray.append_assoc]
/-- what is presented is taken again -/
theorem rs_main (enc : Int) (J : List Int → List Int) (hid : Part → Bool) (mk : Bool) (I : List Int → List Part → Prop)
    (hshow : ∀ o p ps, I o (p :: ps) → (hid p || (mk && o.isEmpty && decide (clsI p.1 ≠ 0))) = false → I (o ++ [p.1]) ps ∧ p.2.1 = encB enc p.1)
    (hhide : ∀ o p ps, I o (p :: ps) → I [] ps ∧ 1 ≤ p.2.1.size)
    (hJ : ∀ o ps, I o ps → (∀ c ∈ J o, isC c = true ∧ c ≠ 37) ∧ flB enc (J o) = encL enc o ∧ flK enc (J o) = true) :
    ∀ (ps : List Part) (o : List Int) (A : ByteArray) (f : Nat) (raw : ByteArray), I o ps → (prL J hid mk ps o).length ≤ f →
      rsS enc (A ++ joinS (prL J hid mk ps o)) f A.size [] raw true = (raw ++ (encL enc o ++ catB ps), true)
  | [], o, A, f, raw, hI, hf => by
    obtain ⟨h1, h2, h3⟩ := hJ o [] hI
    have hf' : (J o).length ≤ f := hf
    obtain ⟨f', rfl⟩ : ∃ f', f = f' + (J o).length := ⟨f - (J o).length, by omega⟩
    have := rs_chars enc (J o) A ByteArray.empty f' [] raw h1
    rw [ByteArray.append_empty, List.nil_append] at this
    show rsS enc (A ++ joinS (J o)) _ _ _ _ _ = _
    rw [this]
    cases f' with
    | zero => rw [rsS, h2, h3]; simp [catB]
    | succ f' => rw [rsS, if_neg (by omega), h2, h3]; simp [catB]
  | p :: ps, o, A, f, raw, hI, hf => by
    cases hh : (hid p || (mk && o.isEmpty && decide (clsI p.1 ≠ 0))) with
    | false =>
      obtain ⟨hI2, hb⟩ := hshow o p ps hI hh
      have e : prL J hid mk (p :: ps) o = prL J hid mk ps (o ++ [p.1]) := by rw [prL, hh]; simp
      rw [e] at hf ⊢
      rw [rs_main enc J hid mk I hshow hhide hJ ps (o ++ [p.1]) A f raw hI2 hf]
      have e2 : ∀ o : List Int, encL enc (o ++ [p.1]) = encL enc o ++ encB enc p.1 := by
        intro o
        induction o with
        | nil => simp [encL]
        | cons x o ih => simp only [List.cons_append, encL, ih, ByteArray.append_assoc]
      rw [e2]
      simp only [catB, hb, ByteArray.append_assoc]
    | true =>
      obtain ⟨hI2, hb⟩ := hhide o p ps hI
      obtain ⟨h1, h2, h3⟩ := hJ o (p :: ps) hI
      have e : prL J hid mk (p :: ps) o = J o ++ (esc p.2.1 ++ prL J hid mk ps []) := by rw [prL, hh]; simp
      rw [e] at hf ⊢
      simp only [List.length_append] at hf
      have hbl : (bl p.2.1).length = p.2.1.size := by simp [bl]
      have hel : ∀ l : List Int, (l.flatMap escI).length = 3 * l.length := by
        intro l
        induction l with
        | nil => rfl
        | cons x l ih => rw [List.flatMap_cons, List.length_append, ih]; simp [escI]; omega
      have hel2 : (esc p.2.1).length = 3 * (bl p.2.1).length := hel _
      obtain ⟨f', rfl⟩ : ∃ f', f = f' + (bl p.2.1).length + (J o).length := ⟨f - (bl p.2.1).length - (J o).length, by omega⟩
      rw [joinS_append, joinS_append]
      have r1 := rs_chars enc (J o) A (joinS (esc p.2.1) ++ joinS (prL J hid mk ps [])) (f' + (bl p.2.1).length) [] raw h1
      rw [List.nil_append] at r1
      rw [r1]
      have r2 := rs_escs enc (bl p.2.1) (A ++ joinS (J o)) (joinS (prL J hid mk ps [])) f' (J o) raw (fun c hc => by
        simp only [bl, List.mem_map] at hc
        obtain ⟨x, _, rfl⟩ := hc
        have := x.toNat_lt
        omega) h3 (by omega)
      have hcell : strOfNums (bl p.2.1) = p.2.1 := strOfNums_cells p.2.1
      rw [hcell, h2] at r2
      have r2' : rsS enc (A ++ (joinS (J o) ++ (joinS (esc p.2.1) ++ joinS (prL J hid mk ps [])))) (f' + (bl p.2.1).length) (A ++ joinS (J o)).size (J o) raw true = rsS enc (A ++ (joinS (J o) ++ (joinS (esc p.2.1) ++ joinS (prL J hid mk ps [])))) f' (A ++ joinS (J o) ++ joinS (esc p.2.1)).size [] (raw ++ encL enc o ++ p.2.1) true := by
        have := r2
        rw [ByteArray.append_assoc] at this
        simpa [esc] using this
      rw [r2']
      have ih := rs_main enc J hid mk I hshow hhide hJ ps [] (A ++ joinS (J o) ++ joinS (esc p.2.1)) f' (raw ++ encL enc o ++ p.2.1) hI2 (by omega)
      rw [ByteArray.append_assoc, ByteArray.append_assoc] at ih
      rw [ih]
      simp only [encL, catB, ByteArray.append_assoc, ByteArray.empty_append]
end Go.Proofs.YtpmlggjhfiljmaaGreatDoor
