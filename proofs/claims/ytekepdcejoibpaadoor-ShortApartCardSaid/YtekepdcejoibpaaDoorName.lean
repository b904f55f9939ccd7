/- short.Name: the text that it returns. -/
import Derived.Test.YtekepdcejoibpaaDoorHex
import Derived.Lib.SmallJoins
namespace Go.Proofs.YtekepdcejoibpaaDoor
open Go.RowKit Go.Lib
open Go.Sort (grow)

theorem hex_len (u k : Nat) (h : u < 16 ^ (k + 1)) : (hex u).length ≤ k + 1 := by
  induction k generalizing u with
  | zero => rw [hex_small u (by simpa using h)]; simp
  | succ k ih =>
    by_cases h16 : u < 16
    · rw [hex_small u h16]; simp
    · rw [hex_big u h16]
      have := ih (u / 16) (by rw [Nat.div_lt_iff_lt_mul (by omega)]; rwa [← Nat.pow_succ])
      simp; omega
theorem hex_pos (u : Nat) : 0 < (hex u).length := by
  by_cases h16 : u < 16
  · rw [hex_small u h16]; simp
  · rw [hex_big u h16]; simp
theorem dec_len (u k : Nat) (h : u < 10 ^ (k + 1)) : (decDigits u).length ≤ k + 1 := by
  induction k generalizing u with
  | zero => rw [decDigits_one (by simpa using h)]; simp
  | succ k ih =>
    by_cases h10 : u < 10
    · rw [decDigits_one h10]; simp
    · rw [decDigits, dif_neg h10]
      have := ih (u / 10) (by rw [Nat.div_lt_iff_lt_mul (by omega)]; rwa [← Nat.pow_succ])
      simp; omega
theorem itoa_len (n : Int) (h0 : 1 ≤ n) (h1 : n ≤ 1000000) : (itoa n).length ≤ 7 := by
  unfold itoa
  rw [if_neg (by omega)]
  exact dec_len _ 6 (by omega)
def nameOf (h : Nat) (n : Int) : ByteArray :=
  if n < 1 ∨ 1000000 < n then ⟨#[]⟩ else ⟨#[37, 126]⟩ ++ ⟨(repeatL [48] (8 - (hex h).length)).toArray⟩ ++ ⟨(hex h).toArray⟩ ++ ⟨#[45]⟩ ++ ⟨(itoa n).toArray⟩

structure Tabs (w : World) : Prop where
  tz : Tz w
  pow : TabIs Tryd.prog w "internal/strconv.uint64pow10" .u64 pow10Tab
theorem Tabs.below {w w' : World} {B : Nat} (h : Tabs w) (hb : Below B w w') (hB : w.heap.size ≤ B) : Tabs w' := by
  refine ⟨?_, Joins.tab_stays (show Tryd.prog.globalNamed "internal/strconv.uint64pow10" = some 0 by kernel_rfl) h.pow hb hB⟩
  have h1 : w.cell? ⟨5, 15, none⟩ = _ := h.tz
  exact (hb.cell (Nat.lt_of_lt_of_le (cell_lt0 h1) hB)).trans h1
theorem below_grow (w : World) (k : Nat) (os : Array Obj) : Below w.heap.size w (grow (w.drewN k) os) :=
  ⟨rfl, rfl, rfl, by show _ ≤ (w.heap ++ os).size; simp, fun i hi => by show (w.heap ++ os)[i]? = _; rw [Array.getElem?_append_left hi]⟩

set_option maxRecDepth 100000 in
theorem name_any (h : Nat) (hh : h < 4294967296) (n : Int) (hn0 : -9223372036854775808 ≤ n) (hn1 : n ≤ 9223372036854775807) (w : World) (ht : Tabs w) :
    Calls Tryd.prog 8 #[.int .u32 h, .int .i64 n] w fun e w' => e = .returned (.string (nameOf h n)) ∧ Below w.heap.size w w' := by
  obtain ⟨r, hr⟩ : ∃ r, nameOf h n = r := ⟨_, rfl⟩
  rw [hr]
  have HR := hid hr
  clear hr
  go_enter Tryd.func8, Tryd.ntmps8
  by_cases h1 : n < 1
  · as_aux_lemma =>
    have hr := HR.out
    unfold nameOf at hr
    rw [if_pos (.inl h1)] at hr
    subst hr
    have g1 : decide (n < 1) = true := by simpa using h1
    go_wp2_with fail
    go_ret
    exact ⟨rfl, Below.refl _ _⟩
  · have g1 : decide (n < 1) = false := by simpa using h1
    by_cases h2 : 1000000 < n
    · as_aux_lemma =>
      have hr := HR.out
      unfold nameOf at hr
      rw [if_pos (.inr h2)] at hr
      subst hr
      have g2 : decide (1000000 < n) = true := by simpa using h2
      go_wp2_with fail
      go_ret
      exact ⟨rfl, Below.refl _ _⟩
    · have g2 : decide (1000000 < n) = false := by simpa using h2
      have hr := HR.out
      unfold nameOf at hr
      rw [if_neg (by omega)] at hr
      have HR2 := hid hr
      clear hr HR
      have HT := hid ht
      clear ht
      go_wp2_with fail
      refine (formatUint h hh _ HT.out.tz).mono ?_
      rintro e w1 ⟨rfl, hb1⟩
      have hl := hex_len h 7 (by simpa using hh)
      have HT1 := hid (HT.out.below hb1 (Nat.le_refl _))
      generalize hx : hex h = x at *
      clear hx
      have hsz : (⟨x.toArray⟩ : ByteArray).size = x.length := by simp [ByteArray.size]
      go_wp2_with fail
      have hrl := repeatL_length [48] (8 - x.length)
      rw [show (8 : Int) - (x.length : Int) = ((8 - x.length : Nat) : Int) by omega]
      refine (Tryd.strings_Repeat ⟨#[48]⟩ (8 - x.length) w1 (by omega) (by rw [show ByteArray.size ⟨#[48]⟩ = 1 from rfl]; omega)).mono ?_
      rintro e w2 ⟨rfl, hb2⟩
      have HT2 := hid (HT1.out.below hb2 (Nat.le_refl _))
      generalize hz : repeatL [48] (8 - x.length) = z at *
      have hzl : (⟨z.toArray⟩ : ByteArray).size = 8 - x.length := by simp [ByteArray.size, hrl]
      have hil := itoa_len n (by omega) (by omega)
      have hcz : ByteArray.size (⟨#[37, 126]⟩ ++ ⟨z.toArray⟩) ≤ 10 := by rw [ByteArray.size_append, hzl]; show 2 + _ ≤ _; omega
      have hcx : ByteArray.size (⟨#[37, 126]⟩ ++ ⟨z.toArray⟩ ++ ⟨x.toArray⟩) ≤ 18 := by rw [ByteArray.size_append, hsz]; omega
      have hcy : ByteArray.size (⟨#[37, 126]⟩ ++ ⟨z.toArray⟩ ++ ⟨x.toArray⟩ ++ ⟨#[45]⟩) ≤ 19 := by rw [ByteArray.size_append]; show _ + 1 ≤ _; omega
      generalize hy : itoa n = y at *
      have hyl : (⟨y.toArray⟩ : ByteArray).size = y.length := by simp [ByteArray.size]
      go_wp2_with fail
      refine (Tryd.strconv_Itoa n hn0 hn1 w2 HT2.out.pow).mono ?_
      rintro e w3 ⟨rfl, k, os, rfl⟩
      rw [hy]
      go_wp2_with fail
      go_ret
      have hr2 := HR2.out
      subst hr2
      refine ⟨rfl, ?_⟩
      exact hb1.trans ((hb2.mono hb1.size).trans ((below_grow _ _ _).mono (Nat.le_trans hb1.size hb2.size)))
end Go.Proofs.YtekepdcejoibpaaDoor
