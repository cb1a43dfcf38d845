/- Plain words of layer 18 (message): what bytes, names, values and lengths are, over lists of bytes. No program in sight. -/
import Derived.Below
namespace Go.Proofs.YtaaofanhjolikaaGreatDoor.Msg

/-- A fact that the walk does not look into. -/
structure Kp (p : Prop) : Prop where mk :: (out : p)

/-- rune classes, over Int -/
def loR (r : Int) : Bool := decide (97 ≤ r) && decide (r ≤ 122)
def upR (r : Int) : Bool := decide (65 ≤ r) && decide (r ≤ 90)
def dgR (r : Int) : Bool := decide (48 ≤ r) && decide (r ≤ 57)
def specR (r : Int) : Bool := ([33, 35, 36, 37, 38, 39, 42, 43, 45, 46, 94, 95, 124, 126, 96] : List Int).contains r
def tokR (r : Int) : Bool := loR r || upR r || dgR r || (decide (r < 128) && specR r)
def nameR (r : Int) : Bool := tokR r && !upR r
def pathR (r : Int) : Bool := decide (32 < r) && decide (r < 127) && (r != 35)
def aspR (r : Int) : Bool := ([45, 46, 95, 126, 58, 91, 93, 37] : List Int).contains r
def authR (r : Int) : Bool := loR r || upR r || dgR r || (decide (r < 128) && aspR r)

/-- there is a byte, and each is as the question has it -/
def allB (p : Int → Bool) (l : List UInt8) : Bool := l.all fun c => p c.toNat
def everyB (p : Int → Bool) (s : ByteArray) : Bool := allB p s.data.toList && !s.data.toList.isEmpty

theorem loR_high {r : Int} (h : 128 ≤ r) : loR r = false := by unfold loR; simp; omega
theorem upR_high {r : Int} (h : 128 ≤ r) : upR r = false := by unfold upR; simp; omega
theorem dgR_high {r : Int} (h : 128 ≤ r) : dgR r = false := by unfold dgR; simp; omega
theorem tokR_high {r : Int} (h : 128 ≤ r) : tokR r = false := by
  unfold tokR; rw [loR_high h, upR_high h, dgR_high h]; simp; omega
theorem nameR_high {r : Int} (h : 128 ≤ r) : nameR r = false := by unfold nameR; rw [tokR_high h]; rfl
theorem pathR_high {r : Int} (h : 128 ≤ r) : pathR r = false := by unfold pathR; simp; omega
theorem authR_high {r : Int} (h : 128 ≤ r) : authR r = false := by
  unfold authR; rw [loR_high h, upR_high h, dgR_high h]; simp; omega

theorem allB_take_succ (p : Int → Bool) (s : ByteArray) (k : Nat) (h : k < s.size) :
    allB p (s.data.toList.take (k + 1)) = (allB p (s.data.toList.take k) && p (s[k]'h).toNat) := by
  unfold allB
  rw [List.take_succ_eq_append_getElem (by simpa using h), List.all_append]
  simp
  rfl

theorem allB_of_false (p : Int → Bool) (s : ByteArray) (k : Nat) (h : k < s.size) (hp : p (s[k]'h).toNat = false) : allB p s.data.toList = false := by
  unfold allB
  rw [List.all_eq_false]
  refine ⟨s[k]'h, ?_, by simp [hp]⟩
  show s.data[k] ∈ _
  simp

theorem allB_all (p : Int → Bool) (s : ByteArray) : allB p (s.data.toList.take s.size) = allB p s.data.toList := by
  rw [List.take_of_length_le (by simp)]

end Go.Proofs.YtaaofanhjolikaaGreatDoor.Msg
