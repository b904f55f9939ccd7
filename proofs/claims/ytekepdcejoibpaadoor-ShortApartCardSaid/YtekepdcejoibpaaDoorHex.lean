/- strconv.FormatUint at base 16, of a number below 2^32: its digits. -/
import Derived.Test.YtekepdcejoibpaaDoorShelf
import Derived.WalkKit
import Derived.ProofKit
import Derived.Below
import Derived.BigRegion
import Derived.Lib.Hide
import Derived.Laws.BytesArg
namespace Go.Proofs.YtekepdcejoibpaaDoor
open Go.RowKit Go.Lib

theorem cell_lt0 {w : World} {b : Nat} {o : Nat} {v : Value} (h : w.cell? ⟨b, o, none⟩ = some v) : b < w.heap.size := by
  rcases Nat.lt_or_ge b w.heap.size with h1 | h1
  · exact h1
  · exfalso
    simp [World.cell?, Array.getElem?_eq_none h1] at h
def Tz (w : World) : Prop := w.cell? ⟨5, 15, none⟩ = some (.int .u8 4)
theorem tz_num : IntKind.u64.wrap (bits BinOp.and IntKind.u64 16 (IntKind.u64.wrap (-16)) * 285870213051353865) = 4573923408821661840 := by kernel_rfl
theorem tz64 (w : World) (h : Tz w) : Calls Tryd.prog 63 #[.int .u64 16] w fun e w' => e = .returned (.int .i64 4) ∧ w' = w := by
  unfold Tz at h
  have hn := tz_num
  go_enter Tryd.func63, Tryd.ntmps63
  go_wp2_with fail
  go_ret
  exact ⟨rfl, rfl⟩
theorem tz16 (w : World) (h : Tz w) : Calls Tryd.prog 54 #[.int .u64 16] w fun e w' => e = .returned (.int .i64 4) ∧ w' = w := by
  go_enter Tryd.func54, Tryd.ntmps54
  go_wp2_with fail
  refine (tz64 w h).mono ?_
  rintro e w1 ⟨rfl, rfl⟩
  go_wp2_with fail
  go_ret
  exact ⟨rfl, rfl⟩
theorem pow2 (w : World) : Calls Tryd.prog 53 #[.int .i64 16] w fun e w' => e = .returned (.bool true) ∧ w' = w := by
  have hn : bits BinOp.and IntKind.i64 16 15 = 0 := by kernel_rfl
  go_enter Tryd.func53, Tryd.ntmps53
  go_wp2_with fail
  go_ret
  exact ⟨rfl, rfl⟩

/-- The digits of u at base 16. -/
def dig (n : Nat) : UInt8 := if n < 10 then UInt8.ofNat (48 + n) else UInt8.ofNat (87 + n)
def hex (u : Nat) : List UInt8 := if h : u < 16 then [dig u] else hex (u / 16) ++ [dig (u % 16)]
termination_by u
decreasing_by omega

theorem dig_lit (n : Nat) (h : n < 16) (h' : n < ByteArray.size ⟨#[48, 49, 50, 51, 52, 53, 54, 55, 56, 57, 97, 98, 99, 100, 101, 102, 103, 104, 105, 106, 107, 108, 109, 110, 111, 112, 113, 114, 115, 116, 117, 118, 119, 120, 121, 122]⟩) : (⟨#[48, 49, 50, 51, 52, 53, 54, 55, 56, 57, 97, 98, 99, 100, 101, 102, 103, 104, 105, 106, 107, 108, 109, 110, 111, 112, 113, 114, 115, 116, 117, 118, 119, 120, 121, 122]⟩ : ByteArray)[n]'h' = dig n := by
  have : ∀ n : Fin 16, ∀ h' : n.val < ByteArray.size ⟨#[48, 49, 50, 51, 52, 53, 54, 55, 56, 57, 97, 98, 99, 100, 101, 102, 103, 104, 105, 106, 107, 108, 109, 110, 111, 112, 113, 114, 115, 116, 117, 118, 119, 120, 121, 122]⟩, (⟨#[48, 49, 50, 51, 52, 53, 54, 55, 56, 57, 97, 98, 99, 100, 101, 102, 103, 104, 105, 106, 107, 108, 109, 110, 111, 112, 113, 114, 115, 116, 117, 118, 119, 120, 121, 122]⟩ : ByteArray)[n.val]'h' = dig n.val := by decide +kernel
  exact this ⟨n, h⟩ h'
theorem and15 (u : Nat) (hu : u < 4294967296) : bits BinOp.and IntKind.u64 (u : Int) 15 = ((u % 16 : Nat) : Int) := by
  rw [show (15 : Int) = ((15 : Nat) : Int) from rfl, u64_and_nat u 15 (by omega) (by omega), Nat.and_two_pow_sub_one_eq_mod u 4]
def vals (l : List UInt8) : List Value := l.map fun b => .int .u8 (b.toNat : Int)
/-- The block that the call has made holds the bytes l; all older blocks are as they were. -/
structure Buf (w0 w : World) (l : List UInt8) : Prop where
  here : w.heap[w0.heap.size]? = some (.cells (vals l).toArray 89 (0, 0))
  below : Below w0.heap.size w0 w
theorem zeros : Tryd.zeroCells89 = (vals (List.replicate 65 0)).toArray := by kernel_rfl
theorem heap_alloc_here (w : World) (o : Obj) : (w.alloc o).heap[w.heap.size]? = some o := by
  show (w.heap.push o)[w.heap.size]? = some o
  simp
theorem Buf.start (w : World) : Buf w (w.alloc (.cells Tryd.zeroCells89 89)) (List.replicate 65 0) :=
  ⟨by rw [zeros]; exact heap_alloc_here _ _, (Below.refl _ _).alloc (Nat.le_refl _) _⟩
theorem Buf.cell {w0 w : World} {l : List UInt8} (h : Buf w0 w l) (j : Nat) (hj : j < l.length) : w.cell? ⟨w0.heap.size, j, none⟩ = some (.int .u8 ((l.getD j 0).toNat : Int)) := by
  simp [World.cell?, h.here, vals, List.getD_eq_getElem?_getD, hj]
theorem Buf.frozen {w0 w : World} {l : List UInt8} (h : Buf w0 w l) (j : Nat) : w.frozen? ⟨w0.heap.size, j, none⟩ = false := by
  simp [World.frozen?, h.here]
theorem Buf.set {w0 w : World} {l : List UInt8} (h : Buf w0 w l) (j : Nat) (b : UInt8) : Buf w0 (w.setCell ⟨w0.heap.size, j, none⟩ (.int .u8 (b.toNat : Int))) (l.set j b) := by
  refine ⟨?_, h.below.setCell (Nat.le_refl _) _⟩
  show (w.heap.modify w0.heap.size _)[w0.heap.size]? = _
  rw [Array.getElem?_modify, if_pos rfl, h.here]
  simp [vals, List.map_set]
theorem hex_big (u : Nat) (h : ¬u < 16) : hex u = hex (u / 16) ++ [dig (u % 16)] := by rw [hex, dif_neg h]
theorem hex_small (u : Nat) (h : u < 16) : hex u = [dig u] := by rw [hex, dif_pos h]

theorem strOfNums_bytes' (l : List UInt8) : strOfNums (l.map fun b => (b.toNat : Int)) = ⟨l.toArray⟩ := by
  unfold strOfNums
  rw [List.map_map]
  congr 2
  conv => rhs; rw [← List.map_id l]
  exact List.map_congr_left fun b _ => by simp
theorem Buf.sub {w0 W : World} {i n : Nat} (hi : i + n = 65) (hn : 0 < n) : (Instr.sliceAt 89 (.pointer (some ⟨w0.heap.size, 0, none⟩)) (some (.int .i64 (i : Int))) none none).run Tryd.prog W = .ok (.slice (some ⟨w0.heap.size, i, none⟩) n n) W := by
  have hal : Tryd.prog.arrayLen 89 = 65 := by kernel_rfl
  have hel : Tryd.prog.elem 89 = 5 := by kernel_rfl
  rw [run_sliceAt_array_l (P := Tryd.prog) W 89 ⟨w0.heap.size, 0, none⟩ (by rw [hal, hel]; exact Tryd.underlying89) .i64 (i : Int) (by omega) (by rw [hal]; omega), hal, hel]
  have hsz : ∀ W : World, (sizeOf 5).run Tryd.prog W = .ok 1 W := fun W => by kernel_rfl
  rw [hsz]
  simp only [Result.andThen, slicedAt, Int.toNat_natCast, Nat.mul_one, Addr.add]
  rw [show 65 - i = n by omega]
  by_cases h : 65 = i
  · omega
  · simp [h]
    omega
theorem Buf.str {w0 W : World} {l : List UInt8} (h : Buf w0 W l) (hl : l.length = 65) (i n : Nat) (hi : i + n = 65) :
    (convert 49 9 (.slice (some ⟨w0.heap.size, i, none⟩) n n)).run Tryd.prog W = .ok (.string ⟨(l.drop i).toArray⟩) W := by
  rw [run_convert_bytes_arg W 49 5 Tryd.underlying49 Tryd.underlying5 w0.heap.size i n n ((l.drop i).map fun b => (b.toNat : Int)) (by simp; omega) (fun j hj => ?_) 9 Tryd.underlying9]
  · rw [strOfNums_bytes' ]
  · rw [h.cell _ (by omega)]
    simp [List.getD_eq_getElem?_getD, hl, show i + j < 65 by omega, show j < 65 - i by omega]

set_option maxRecDepth 100000 in
theorem formatBits (u : Nat) (hu : u < 4294967296) (w : World) (h : Tz w) :
    Calls Tryd.prog 39 #[.slice none 0 0, .int .u64 u, .int .i64 16, .bool false, .bool false] w fun e w' => e = .returned (.tuple #[.slice none 0 0, .string ⟨(hex u).toArray⟩]) ∧ Below w.heap.size w w' := by
  have HT := hid h
  clear h
  go_enter Tryd.func39, Tryd.ntmps39
  go_wp2_with fail
  refine (pow2 _).mono ?_
  rintro e w1 ⟨rfl, hw1⟩
  subst hw1
  go_wp2_with fail
  refine (tz16 _ ?_).mono ?_
  · exact (World.cell?_alloc_lt _ _ _ (cell_lt0 (show w.cell? ⟨5, 15, none⟩ = _ from HT.out))).trans HT.out
  rintro e w1 ⟨rfl, hw1⟩
  subst hw1
  go_wp2_with fail
  go_loopw [1, 13] (fun x y wr => ∃ (v k : Nat) (l : List UInt8), x = .int .u64 v ∧ y = .int .i64 ((65 : Int) - (k : Int)) ∧ k ≤ 7 ∧ v < 16 ^ (8 - k) ∧ l.length = 65 ∧ Buf w wr l ∧ Hid (hex v ++ l.drop (65 - k) = hex u)) (fun x _ _ => (Lib.intOf x).toNat)
  case atStart => exact ⟨u, 0, _, rfl, rfl, by omega, by simpa using hu, by simp, Buf.start w, hid (by simp)⟩
  case round =>
    obtain ⟨v, k, l, rfl, rfl, hk, hv, hl, hB, hT⟩ := hrel
    have hv2 : v < 4294967296 := Nat.lt_of_lt_of_le hv (by
      calc 16 ^ (8 - k) ≤ 16 ^ 8 := Nat.pow_le_pow_right (by omega) (by omega)
        _ = 4294967296 := by decide)
    by_cases h16 : v < 16
    · have g1 : decide ((16 : Int) ≤ (v : Int)) = false := by rw [decide_eq_false_iff_not]; omega
      have hcl := hB.cell (65 - k - 1) (by omega)
      have hfr := hB.frozen (65 - k - 1)
      generalize l.getD (65 - k - 1) 0 = ob at hcl
      have hal : ((Tryd.prog.arrayLen 89 : Nat) : Int) = 65 := by kernel_rfl
      have q0 : (0 : Int) ≤ (65 : Int) - (k : Int) - 1 := by omega
      have q1 : (65 : Int) - (k : Int) - 1 ≤ ((Tryd.prog.arrayLen 89 : Nat) : Int) := by rw [hal]; omega
      go_wp2_with fail
      rw [show (65 : Int) - (k : Int) - 1 = ((65 - k - 1 : Nat) : Int) by omega, Buf.sub (n := k + 1) (by omega) (by omega), dig_lit v h16]
      have hB2 := hB.set (65 - k - 1) (dig v)
      generalize wr.setCell _ _ = W at hB2 ⊢
      have hst := hB2.str (by simpa using hl) (65 - k - 1) (k + 1) (by omega)
      have hfin : (l.set (65 - k - 1) (dig v)).drop (65 - k - 1) = hex u := by
        rw [← hT.out, hex_small v h16, List.drop_eq_getElem_cons (by simp; omega)]
        simp
        rw [List.drop_set_of_lt (by omega), show 65 - k - 1 + 1 = 65 - k by omega]
      rw [hfin] at hst
      go_wp2_with fail
      go_ret2
      exact ⟨rfl, hB2.below⟩
    · have g1 : decide ((16 : Int) ≤ (v : Int)) = true := by rw [decide_eq_true_eq]; omega
      have hk6 : k ≤ 6 := by
        rcases Nat.lt_or_ge k 7 with h | h
        · omega
        · obtain rfl : k = 7 := by omega
          simp at hv; omega
      have ha := and15 v hv2
      have hcl := hB.cell (65 - k - 1) (by omega)
      have hfr := hB.frozen (65 - k - 1)
      generalize l.getD (65 - k - 1) 0 = ob at hcl
      go_wp2_with fail
      refine ⟨⟨v / 16, k + 1, l.set (65 - k - 1) (dig (v % 16)), by simp, by go_num, by omega, ?_, by simpa using hl, ?_, ?_⟩, by simp [Lib.intOf]; omega⟩
      · rw [Nat.div_lt_iff_lt_mul (by omega), ← Nat.pow_succ]
        rwa [show (8 - (k + 1)).succ = 8 - k by omega]
      · rw [dig_lit _ (by omega)]
        exact hB.set _ _
      · refine hid ?_
        rw [← hT.out, hex_big v h16, List.append_assoc]
        congr 1
        rw [show 65 - (k + 1) = 65 - k - 1 by omega, List.drop_eq_getElem_cons (by simp; omega)]
        simp
        rw [List.drop_set_of_lt (by omega), show 65 - k - 1 + 1 = 65 - k by omega]

theorem formatUint21 (u : Nat) (hu : u < 4294967296) (w : World) (h : Tz w) :
    Calls Tryd.prog 21 #[.int .u64 u, .int .i64 16] w fun e w' => e = .returned (.string ⟨(hex u).toArray⟩) ∧ Below w.heap.size w w' := by
  have HC := hid (fun w h => formatBits u hu w h)
  go_enter Tryd.func21, Tryd.ntmps21
  go_wp2_with fail
  refine (HC.out _ h).mono ?_
  rintro e w1 ⟨rfl, hb⟩
  go_wp2_with fail
  go_ret
  exact ⟨rfl, hb⟩
theorem formatUint (u : Nat) (hu : u < 4294967296) (w : World) (h : Tz w) :
    Calls Tryd.prog 13 #[.int .u64 u, .int .i64 16] w fun e w' => e = .returned (.string ⟨(hex u).toArray⟩) ∧ Below w.heap.size w w' := by
  have HC := hid (fun w h => formatUint21 u hu w h)
  go_enter Tryd.func13, Tryd.ntmps13
  go_wp2_with fail
  refine (HC.out _ h).mono ?_
  rintro e w1 ⟨rfl, hb⟩
  go_wp2_with fail
  go_ret
  exact ⟨rfl, hb⟩
end Go.Proofs.YtekepdcejoibpaaDoor
