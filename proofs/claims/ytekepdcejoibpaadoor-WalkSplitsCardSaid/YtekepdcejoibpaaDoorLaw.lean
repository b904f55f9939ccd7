/- The law WalkSplits, walked: true for every path. -/
import Derived.Test.YtekepdcejoibpaaDoorPlain
import Derived.BigRegion
namespace Go.Proofs.YtekepdcejoibpaaDoor
open Go.RowKit Go.Lib

theorem cell_lt {w : World} {b : Nat} {o : Nat} {v : Value} (h : w.cell? ⟨b, o, none⟩ = some v) : b < w.heap.size := by
  rcases Nat.lt_or_ge b w.heap.size with h1 | h1
  · exact h1
  · exfalso
    simp [World.cell?, Array.getElem?_eq_none h1] at h

theorem awake_split : split ⟨#[47, 97, 47, 98]⟩ = ([⟨#[97]⟩, ⟨#[98]⟩], 0) := by decide +kernel

set_option maxRecDepth 100000 in
theorem awake_any (m : Int) (w : World) (hm : w.cell? ⟨1, 0, none⟩ = some (.int .i64 m)) :
    Calls Tryd.prog 5 #[] w fun e w' => e = .returned (.bool true) ∧ Below w.heap.size w w' := by
  have C := split_any ⟨#[47, 97, 47, 98]⟩ (by decide) m w hm _ awake_split
  have HC := hid C
  clear C
  go_enter Tryd.func5, Tryd.ntmps5
  go_wp2_with fail
  refine HC.out.mono ?_
  rintro e w1 ⟨v, rfl, hv, hb⟩
  rcases hv with ⟨_, h⟩ | ⟨b, o, c, rfl, h2, h3, h4⟩
  · cases h
  have h5 : w1.cell? ⟨b, o + 1, none⟩ = some (.string ⟨#[98]⟩) := h4 1 (by decide)
  clear h4 HC
  go_wp2_with fail
  go_ret
  exact ⟨rfl, hb⟩
theorem Names.shape {w : World} {base : Nat} {v : Value} {l : List ByteArray} (h : Names w base v l) :
    ∃ A c, v = .slice A l.length c ∧ ∀ j (hj : j < l.length), ∃ b o, A = some ⟨b, o, none⟩ ∧ b < w.heap.size ∧ w.cell? ⟨b, o + j, none⟩ = some (.string l[j]) := by
  rcases h with ⟨rfl, rfl⟩ | ⟨b, o, c, rfl, h2, h3, h4⟩
  · exact ⟨none, 0, rfl, fun j hj => absurd hj (Nat.not_lt_zero _)⟩
  · refine ⟨_, c, rfl, fun j hj => ⟨b, o, rfl, h3, ?_⟩⟩
    rw [h4 j hj]
    simp [List.getD_eq_getElem?_getD, hj]
theorem joined_take (l : List ByteArray) (k : Nat) (h : k < l.length) : joined (l.take (k + 1)) = joined (l.take k) ++ (slash ++ l[k]) := by
  unfold joined
  rw [List.take_succ_eq_append_getElem h, List.foldl_append]
  rfl
theorem joined_foldl (l : List ByteArray) : ∀ s : ByteArray, s.size ≤ (l.foldl (fun s x => s ++ (slash ++ x)) s).size := by
  induction l with
  | nil => intro s; exact Nat.le_refl _
  | cons x l ih =>
    intro s
    refine Nat.le_trans ?_ (ih _)
    rw [ByteArray.size_append]
    omega
theorem joined_size (l : List ByteArray) (k : Nat) (h : k < l.length) : (joined (l.take k)).size + (1 + l[k].size) ≤ (joined l).size := by
  have e : joined l = (l.drop (k + 1)).foldl (fun s x => s ++ (slash ++ x)) (joined (l.take (k + 1))) := by
    unfold joined
    rw [← List.foldl_append, List.take_append_drop]
  have := joined_foldl (l.drop (k + 1)) (joined (l.take (k + 1)))
  rw [← e, joined_take l k h, ByteArray.size_append, ByteArray.size_append] at this
  exact this
theorem joined_len (l : List ByteArray) : l.length ≤ (joined l).size := by
  have : ∀ k, k ≤ l.length → k ≤ (joined (l.take k)).size := by
    intro k
    induction k with
    | zero => intro _; omega
    | succ k ih =>
      intro h
      have := ih (by omega)
      rw [joined_take l k (by omega), ByteArray.size_append, ByteArray.size_append]
      have : slash.size = 1 := rfl
      omega
  have := this l.length (Nat.le_refl _)
  rwa [List.take_length] at this
theorem split_nil (s : ByteArray) (l : List ByteArray) (r : Int) (h : split s = (l, r)) (hr : r ≠ 0) : l = [] := by
  unfold split at h
  simp only at h
  repeat' split at h
  all_goals first | (cases h; rfl) | (cases h; exact absurd rfl hr)

set_option maxRecDepth 100000 in
theorem walk (s : ByteArray) (hs : s.size ≤ 9223372036854775807) (m : Int) (w : World) (hm : w.cell? ⟨1, 0, none⟩ = some (.int .i64 m)) :
    Calls Tryd.prog 3 #[.string s] w fun e w' => e = .returned (.bool true) ∧ Below w.heap.size w w' := by
  have hlt := cell_lt hm
  have HA := hid (fun m w hm => awake_any m w hm)
  go_enter Tryd.func3, Tryd.ntmps3
  by_cases h1 : 1100 < s.size
  · have g1 : decide ((1100 : Int) < (s.size : Int)) = true := by rw [decide_eq_true_eq]; omega
    go_wp2_with fail
    refine (HA.out m _ hm).mono ?_
    rintro e w1 ⟨rfl, hb⟩
    have hm1 := (hb.cell hlt).trans hm
    have hlt1 := cell_lt hm1
    go_wp2_with fail
    refine (HA.out m _ hm1).mono ?_
    rintro e w2 ⟨rfl, hb2⟩
    go_wp2_with fail
    go_ret
    exact ⟨rfl, hb.trans (hb2.mono hb.size)⟩
  · have g1 : decide ((1100 : Int) < (s.size : Int)) = false := by rw [decide_eq_false_iff_not]; omega
    go_wp2_with fail
    refine (HA.out m _ hm).mono ?_
    rintro e w1 ⟨rfl, hb⟩
    have hm1 := (hb.cell hlt).trans hm
    obtain ⟨p, hp⟩ : ∃ p, split s = p := ⟨_, rfl⟩
    have HC := hid (split_any s (by omega) m w1 hm1 p hp)
    have HR := hid (fun w => refSplit_any s (by omega) w p (by rw [← split_eq_ref]; exact hp))
    go_wp2_with fail
    refine HC.out.mono ?_
    rintro e w2 ⟨v1, rfl, hv1, hb2⟩
    go_wp2_with fail
    refine (HR.out _).mono ?_
    rintro e w3 ⟨v2, rfl, hv2, hb3⟩
    have hv1 := hv1.below hb3
    obtain ⟨A1, c1, rfl, hc1⟩ := hv1.shape
    obtain ⟨A2, c2, rfl, hc2⟩ := hv2.shape
    have hB : Below w.heap.size w w3 := hb.trans ((hb2.mono hb.size).trans (hb3.mono (Nat.le_trans hb.size hb2.size)))
    clear hv1 hv2 HC HR HA
    obtain ⟨l, r⟩ := p
    simp only at hc1 hc2
    have hj : r = 0 → joined l = s ∨ (s = ⟨#[47]⟩ ∧ joined l = ⟨#[]⟩) := fun h => split_join s l (by rw [hp, h])
    have hsz : (joined l).size ≤ 1100 := by
      by_cases hr : r = 0
      · rcases hj hr with h | ⟨_, h⟩
        · rw [h]; omega
        · rw [h]; decide
      · rw [split_nil s l r hp hr]; decide
    have hll : l.length ≤ 1100 := Nat.le_trans (joined_len l) hsz
    have HJ := hid hj
    have HC1 := hid hc1
    have HC2 := hid hc2
    clear hj hc1 hc2 hp
    go_wp2_with fail
    go_loopw [7, 8] (fun sv x wr => ∃ k n : Nat, k ≤ l.length ∧ x = .int .i64 k ∧ sv = .string (joined (l.take k)) ∧ wr = w3.drewN n) (fun _ x _ => l.length - (Lib.intOf x).toNat)
    case atStart => exact ⟨0, 0, by omega, rfl, rfl, rfl⟩
    case round =>
      obtain ⟨k, n, hk, rfl, rfl, rfl⟩ := hrel
      by_cases hkl : k < l.length
      · obtain ⟨b1, o1, rfl, -, q1⟩ := HC1.out k hkl
        obtain ⟨b2, o2, rfl, -, q2⟩ := HC2.out k hkl
        have hz := joined_size l k hkl
        have hn := joined_take l k hkl
        have g2 : decide ((k : Int) < (l.length : Int)) = true := by rw [decide_eq_true_eq]; omega
        have g3 : (0 : Int) ≤ (k : Int) := by omega
        have g4 : (k : Int) < (l.length : Int) := by omega
        generalize l[k] = x at *
        generalize joined (l.take k) = y at *
        have hsz' : (joined l).size ≤ 1100 := hsz
        go_wp2_with fail
        go_region
        go_wp2_with fail
        exact ⟨⟨k + 1, n + 1, by omega, by go_num, by rw [hn]; rfl, rfl⟩, by simp [Lib.intOf]; omega⟩
      · obtain rfl : k = l.length := by omega
        rw [List.take_length]
        have hbd : Below w.heap.size w (w3.drewN n) := ⟨hB.os, hB.tape, hB.output, hB.size, hB.block⟩
        by_cases hr : r = 0
        · subst hr
          rcases HJ.out rfl with he | ⟨he1, he2⟩
          · as_aux_lemma =>
            rw [he]
            go_wp2_with fail
            go_ret
            exact ⟨rfl, hbd⟩
          · as_aux_lemma =>
            rw [he2, he1]
            go_wp2_with fail
            go_ret
            exact ⟨rfl, hbd⟩
        · as_aux_lemma =>
          have hr' : (r != 0) = true := by simpa using hr
          go_wp2_with fail
          go_ret
          exact ⟨rfl, hbd⟩
end Go.Proofs.YtekepdcejoibpaaDoor
