/- The plain law: short names of other hashes, or numbers, are others; none is longer than 18 bytes. -/
import Derived.Test.YtekepdcejoibpaaDoorName
namespace Go.Proofs.YtekepdcejoibpaaDoor
open Go.Lib

def dv (d : UInt8) : Nat := if d.toNat < 58 then d.toNat - 48 else d.toNat - 87
theorem dv_dig (n : Nat) (h : n < 16) : dv (dig n) = n := by
  have : ∀ n : Fin 16, dv (dig n.val) = n.val := by decide +kernel
  exact this ⟨n, h⟩
def val (s : Nat) (l : List UInt8) : Nat := l.foldl (fun s d => s * 16 + dv d) s
theorem val_hex (u : Nat) : val 0 (hex u) = u := by
  induction u using Nat.strongRecOn with
  | _ u ih =>
    by_cases h : u < 16
    · rw [hex_small u h]
      simp [val, dv_dig u h]
    · rw [hex_big u h]
      have := ih (u / 16) (by omega)
      unfold val at this ⊢
      rw [List.foldl_append, this]
      simp only [List.foldl_cons, List.foldl_nil]
      rw [dv_dig _ (by omega)]
      omega
theorem val_pad (k : Nat) (l : List UInt8) : val 0 (repeatL [48] k ++ l) = val 0 l := by
  induction k with
  | zero => rfl
  | succ k ih => exact ih
def val10 (l : List UInt8) : Nat := l.foldl (fun s d => s * 10 + (d.toNat - 48)) 0
theorem d10 (n : Nat) (h : n < 10) : (UInt8.ofNat (48 + n)).toNat - 48 = n := by
  have : ∀ n : Fin 10, (UInt8.ofNat (48 + n.val)).toNat - 48 = n.val := by decide +kernel
  exact this ⟨n, h⟩
theorem val10_dec (u : Nat) : val10 (decDigits u) = u := by
  induction u using Nat.strongRecOn with
  | _ u ih =>
    by_cases h : u < 10
    · rw [decDigits_one h]
      simp only [val10, List.foldl_cons, List.foldl_nil]
      rw [d10 u h]; omega
    · rw [decDigits, dif_neg h]
      have := ih (u / 10) (by omega)
      unfold val10 at this ⊢
      rw [List.foldl_append, this]
      simp only [List.foldl_cons, List.foldl_nil]
      rw [d10 _ (by omega)]
      omega
theorem nameOf_data (h : Nat) (n : Int) (h1 : 1 ≤ n) (h2 : n ≤ 1000000) : (nameOf h n).data.toList = [37, 126] ++ (repeatL [48] (8 - (hex h).length) ++ hex h) ++ [45] ++ decDigits n.toNat := by
  unfold nameOf itoa
  rw [if_neg (by omega), if_neg (by omega)]
  simp only [ByteArray.data_append, Array.toList_append, List.append_assoc]
theorem nameOf_range (h : Nat) (n : Int) (he : (nameOf h n).toList.isEmpty = false) : 1 ≤ n ∧ n ≤ 1000000 := by
  by_cases hr : n < 1 ∨ 1000000 < n
  · exfalso
    unfold nameOf at he
    rw [if_pos hr] at he
    exact absurd he (by decide +kernel)
  · omega
theorem pad_len (h : Nat) (hh : h < 4294967296) : (repeatL [48] (8 - (hex h).length) ++ hex h).length = 8 := by
  have := hex_len h 7 (by simpa using hh)
  rw [List.length_append, repeatL_length]
  simp
  omega
theorem nameOf_size (h : Nat) (hh : h < 4294967296) (n : Int) : (nameOf h n).size ≤ 18 := by
  by_cases hr : n < 1 ∨ 1000000 < n
  · unfold nameOf
    rw [if_pos hr]
    decide
  · rw [size_eq, nameOf_data h n (by omega) (by omega)]
    have h1 := pad_len h hh
    have h2 := itoa_len n (by omega) (by omega)
    unfold itoa at h2
    rw [if_neg (by omega)] at h2
    simp only [List.length_append] at h1 ⊢
    simp only [List.length_cons, List.length_nil]
    omega
theorem nameOf_inj (a b : Nat) (ha : a < 4294967296) (hb : b < 4294967296) (n0 n1 : Int) (he : (nameOf a n0).toList.isEmpty = false) (h : nameOf a n0 = nameOf b n1) : a = b ∧ n0 = n1 := by
  have r0 := nameOf_range a n0 he
  have r1 := nameOf_range b n1 (by rw [← h]; exact he)
  have e := congrArg (fun s : ByteArray => s.data.toList) h
  simp only [nameOf_data a n0 r0.1 r0.2, nameOf_data b n1 r1.1 r1.2, List.append_assoc] at e
  have e1 := List.append_cancel_left e
  rw [← List.append_assoc, ← List.append_assoc (repeatL [48] (8 - (hex b).length))] at e1
  obtain ⟨e2, e3⟩ := List.append_inj e1 (by rw [pad_len a ha, pad_len b hb])
  constructor
  · have := congrArg (val 0) e2
    rwa [val_pad, val_pad, val_hex, val_hex] at this
  · have := congrArg val10 (List.append_cancel_left e3)
    rw [val10_dec, val10_dec] at this
    omega
end Go.Proofs.YtekepdcejoibpaaDoor
