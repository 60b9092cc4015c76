/- Plain words of layer 1: characters, their bytes, reading one; no program in sight. -/
import Derived.Laws.BytesArg
import Derived.Below
import Derived.Deep.Draws
import Derived.Lib.ConvBytes
import GoSem.Core.Utf8
namespace Go.Proofs.Ytmfmnlioojkjgaa
open Go.RowKit

def isC (r : Int) : Bool := (decide (0 ≤ r) && decide (r ≤ 1114111)) && (decide (r < 55296) || decide (57343 < r))
def szI (r : Int) : Int := if r < 128 then 1 else if r < 2048 then 2 else if r < 65536 then 3 else 4
def encI (r : Int) : List Int :=
  if r < 128 then [r] else if r < 2048 then [192 + r / 64, 128 + r % 64] else if r < 65536 then [224 + r / 4096, 128 + r / 64 % 64, 128 + r % 64]
  else [240 + r / 262144, 128 + r / 4096 % 64, 128 + r / 64 % 64, 128 + r % 64]
def encS (r : Int) : ByteArray := if isC r then strOfNums (encI r) else ByteArray.empty
def hup (n : Int) : Int := if n = 1 then 0 else if n = 2 then 192 else if n = 3 then 224 else 240
def hbits (n : Int) : Int := if n = 1 then 1 else if n = 2 then 3 else if n = 3 then 4 else 5
def bgI (c : Int) : Int := if c < 128 then 1 else if 192 ≤ c ∧ c < 224 then 2 else if 224 ≤ c ∧ c < 240 then 3 else if 240 ≤ c ∧ c < 248 then 4 else 0

theorem isC_true {r : Int} (h : isC r = true) : 0 ≤ r ∧ r ≤ 1114111 ∧ (r < 55296 ∨ 57343 < r) := by
  unfold isC at h; simp at h; omega
theorem isC_false {r : Int} (h : isC r = false) : ¬ (0 ≤ r ∧ r ≤ 1114111 ∧ (r < 55296 ∨ 57343 < r)) := by
  unfold isC at h; simp at h; omega

/-- only new memory has been made -/
def Fresh (w w' : World) : Prop := Below w.heap.size w w'
theorem Fresh.refl (w : World) : Fresh w w := Below.refl _ _
theorem Fresh.trans {a b c : World} (h : Fresh a b) (k : Fresh b c) : Fresh a c := Below.trans h (Below.mono k h.size)
theorem Fresh.alloc {a b : World} (h : Fresh a b) (o : Obj) : Fresh a (b.alloc o) := Below.alloc h h.size o
theorem Fresh.drew {a b : World} (h : Fresh a b) : Fresh a b.drew := Below.drew h
theorem Fresh.drewN {a b : World} (h : Fresh a b) (n : Nat) : Fresh a (b.drewN n) := ⟨h.os, h.tape, h.output, h.size, h.block⟩
theorem Fresh.size {a b : World} (h : Fresh a b) : a.heap.size ≤ b.heap.size := Below.size h
theorem Fresh.setCell {a b : World} (h : Fresh a b) {p : Addr} (hp : a.heap.size ≤ p.block) (v : Value) : Fresh a (b.setCell p v) := Below.setCell h hp v
theorem fresh_bytes (W : World) (e : TypeId) (t : ByteArray) : Fresh W (Lib.bytesWorld W e t) := ⟨rfl, rfl, rfl, by rw [Lib.bytesWorld_size]; omega, fun k hk => Lib.bytesWorld_at_old W e t k hk⟩
theorem Fresh.below {a b : World} (h : Fresh a b) : Below a.heap.size a b := h
end Go.Proofs.Ytmfmnlioojkjgaa
