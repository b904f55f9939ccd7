/- walk.Split and the reference's Split: what each returns, for every path of at most 1100 bytes. -/
import Derived.Test.YtekepdcejoibpaaDoorShelf
import Derived.WalkKit
import Derived.ProofKit
import Derived.Below
import Derived.Lib.Hide
import Derived.Lib.SlicesS
namespace Go.Proofs.YtekepdcejoibpaaDoor
open Go.RowKit Go.Lib

/-- A slice of just these strings: nil for none. -/
def Names (w : World) (base : Nat) (v : Value) (l : List ByteArray) : Prop :=
  (v = .slice none 0 0 ∧ l = []) ∨ (∃ b o c, v = .slice (some ⟨b, o, none⟩) l.length c ∧ base ≤ b ∧ b < w.heap.size ∧ ∀ j, j < l.length → w.cell? ⟨b, o + j, none⟩ = some (.string (l.getD j ByteArray.empty)))
theorem Names.below {w w' : World} {base : Nat} {v : Value} {l : List ByteArray} (h : Names w base v l) (hb : Below w.heap.size w w') : Names w' base v l := by
  rcases h with h | ⟨b, o, c, h1, h2, h3, h4⟩
  · exact .inl h
  · exact .inr ⟨b, o, c, h1, h2, Nat.lt_of_lt_of_le h3 hb.size, fun j hj => (hb.cell h3).trans (h4 j hj)⟩

theorem empty_of_toList {r : ByteArray} (h : r.toList = []) : r = ByteArray.empty := (bytes_beq_iff _ _).1 (by rw [h]; decide +kernel)
def slash : ByteArray := ⟨#[47]⟩
def split (s : ByteArray) : List ByteArray × Int :=
  if 1024 < s.size then ([], 4) else if hasPrefix s.data.toList slash.data.toList = false then ([], 3) else
    let r : ByteArray := ⟨(trimPrefix s.data.toList slash.data.toList).toArray⟩
    if r = ByteArray.empty then ([], 0) else
      let l := splitB slash 0 (countB r slash) r
      if containsS l ByteArray.empty = true ∨ containsS l ⟨#[46]⟩ = true ∨ containsS l ⟨#[46, 46]⟩ = true then ([], 3) else if 16 < l.length then ([], 4) else (l, 0)

set_option maxRecDepth 100000 in
theorem split_any (s : ByteArray) (hs : s.size ≤ 1100) (m : Int) (w : World) (hm : w.cell? ⟨1, 0, none⟩ = some (.int .i64 m)) (p : List ByteArray × Int) (hp : split s = p) :
    Calls Tryd.prog 6 #[.string s] w fun e w' => ∃ v, e = .returned (.tuple #[v, .int .i64 p.2]) ∧ Names w' w.heap.size v p.1 ∧ Below w.heap.size w w' := by
  have HP := hid hp
  clear hp
  go_enter Tryd.func6, Tryd.ntmps6
  by_cases h1 : 1024 < s.size
  · as_aux_lemma =>
    have HP1 := HP.out
    unfold split at HP1
    rw [if_pos h1] at HP1
    subst HP1
    have g1 : decide ((1024 : Int) < (s.size : Int)) = true := by rw [decide_eq_true_eq]; omega
    go_wp2_with fail
    go_ret2
    exact ⟨_, rfl, .inl ⟨rfl, rfl⟩, Below.refl _ _⟩
  · have HP1 := HP.out
    unfold split at HP1
    rw [if_neg h1] at HP1
    have HP2 := hid HP1
    clear HP1 HP
    go_wp2_with fail
    refine (Tryd.strings_CutPrefix _ _ _).mono ?_
    rintro e w1 ⟨rfl, hw1⟩
    subst w1
    by_cases h2 : hasPrefix s.data.toList slash.data.toList = false
    · as_aux_lemma =>
      have HP1 := HP2.out
      rw [if_pos h2] at HP1
      subst HP1
      have h2' : hasPrefix s.data.toList [47] = false := h2
      go_wp2_with fail
      go_ret2
      exact ⟨_, rfl, .inl ⟨rfl, rfl⟩, Below.refl _ _⟩
    · have HP1 := HP2.out
      rw [if_neg h2] at HP1
      have h2' : hasPrefix s.data.toList [47] = true := by have h2 := h2; rw [show slash.data.toList = [47] from rfl] at h2; simpa using h2
      have htr : (trimPrefix s.data.toList [47]).length ≤ 1100 := by
        unfold trimPrefix
        rw [if_pos h2', List.length_drop]
        have := size_eq s
        omega
      have hsl : slash.data.toList = [47] := rfl
      rw [hsl] at HP1
      have htr2 : ByteArray.size ⟨(trimPrefix s.data.toList [47]).toArray⟩ ≤ 1100 := by rw [size_eq]; simpa using htr
      generalize hr : (⟨(trimPrefix s.data.toList [47]).toArray⟩ : ByteArray) = r at *
      have HP3 := hid HP1
      clear HP1 HP2 hsl htr h2
      by_cases h3 : r = ByteArray.empty
      · as_aux_lemma =>
        have HP1 := HP3.out
        rw [if_pos h3] at HP1
        subst HP1
        have h3' : r.toList.isEmpty = true := by subst h3; decide +kernel
        go_wp2_with fail
        go_ret2
        exact ⟨_, rfl, .inl ⟨rfl, rfl⟩, Below.refl _ _⟩
      · have HP1 := HP3.out
        rw [if_neg h3] at HP1
        have h3' : r.toList.isEmpty = false := by rw [List.isEmpty_eq_false_iff]; exact fun h => h3 (empty_of_toList h)
        have HP4 := hid HP1
        clear HP1 HP3
        go_wp2_with fail
        refine (Tryd.strings_Split r slash m _ (by omega) hm (by decide)).mono ?_
        rintro e w1 ⟨rfl, hw1⟩
        subst w1
        have hlen := splitB_all slash (by decide) 0 (countB r slash) r rfl
        have hlt := Go.Lib.countB_le slash (by decide) _ r (Nat.le_refl _)
        generalize hl : splitB slash 0 (countB r slash) r = l at *
        have HL := hid hl
        clear hl
        have hn : countB r slash + 1 = l.length := hlen.symm
        rw [hn]
        have hb0 : l.length ≤ 1101 := by omega
        clear hlen hlt hn h3 h3' h2'
        obtain ⟨w1, hw1⟩ : ∃ w1, w1 = w.alloc (.cells (l.map Value.string).toArray 9) := ⟨_, rfl⟩
        have hc : ∀ j, j < l.length → w1.cell? ⟨w.heap.size, 0 + j, none⟩ = some (.string (l.getD j ByteArray.empty)) := by
          intro j hj
          subst hw1
          rw [World.cell?_alloc_at _ _ _ _ rfl]
          simp [List.getD_eq_getElem?_getD, hj]
        have hbel : Below w.heap.size w w1 := by subst hw1; exact (Below.refl _ _).alloc (Nat.le_refl _) _
        have hsz : w.heap.size < w1.heap.size := by subst hw1; simp
        rw [← hw1]
        clear hw1
        have C := fun x w' (e : w' = w1) => by
          have := Tryd.slices_Contains_string w.heap.size 0 l.length l.length l x w1 (Nat.le_refl _) (by omega) hc
          rw [List.take_length] at this
          exact e ▸ this
        have HC := hid C
        clear C
        have HP5 := HP4.out
        by_cases c1 : containsS l ByteArray.empty = true
        · as_aux_lemma =>
          rw [if_pos (.inl c1)] at HP5
          subst HP5
          go_wp2_with fail
          refine (HC.out _ _ rfl).mono ?_
          rintro e w2 ⟨rfl, hw2⟩
          subst w2
          rw [show (⟨#[]⟩ : ByteArray) = ByteArray.empty from rfl, c1]
          go_wp2_with fail
          go_ret2
          exact ⟨_, rfl, .inl ⟨rfl, rfl⟩, hbel⟩
        · have c1' : containsS l ByteArray.empty = false := by simpa using c1
          by_cases c2 : containsS l ⟨#[46]⟩ = true
          · as_aux_lemma =>
            rw [if_pos (.inr (.inl c2))] at HP5
            subst HP5
            go_wp2_with fail
            refine (HC.out _ _ rfl).mono ?_
            rintro e w2 ⟨rfl, hw2⟩
            subst w2
            rw [show (⟨#[]⟩ : ByteArray) = ByteArray.empty from rfl, c1']
            go_wp2_with fail
            refine (HC.out _ _ rfl).mono ?_
            rintro e w2 ⟨rfl, hw2⟩
            subst w2
            rw [c2]
            go_wp2_with fail
            go_ret2
            exact ⟨_, rfl, .inl ⟨rfl, rfl⟩, hbel⟩
          · have c2' : containsS l ⟨#[46]⟩ = false := by simpa using c2
            go_wp2_with fail
            refine (HC.out _ _ rfl).mono ?_
            rintro e w2 ⟨rfl, hw2⟩
            subst w2
            rw [show (⟨#[]⟩ : ByteArray) = ByteArray.empty from rfl, c1']
            go_wp2_with fail
            refine (HC.out _ _ rfl).mono ?_
            rintro e w2 ⟨rfl, hw2⟩
            subst w2
            rw [c2']
            go_wp2_with fail
            refine (HC.out _ _ rfl).mono ?_
            rintro e w2 ⟨rfl, hw2⟩
            subst w2
            by_cases c3 : containsS l ⟨#[46, 46]⟩ = true
            · as_aux_lemma =>
              rw [if_pos (.inr (.inr c3))] at HP5
              subst HP5
              rw [c3]
              go_wp2_with fail
              go_ret2
              exact ⟨_, rfl, .inl ⟨rfl, rfl⟩, hbel⟩
            · have c3' : containsS l ⟨#[46, 46]⟩ = false := by simpa using c3
              rw [if_neg (by rw [c1', c2', c3']; simp)] at HP5
              rw [c3']
              by_cases c4 : 16 < l.length
              · as_aux_lemma =>
                rw [if_pos c4] at HP5
                subst HP5
                have c4' : decide ((16 : Int) < (l.length : Int)) = true := by rw [decide_eq_true_eq]; omega
                go_wp2_with fail
                go_ret2
                exact ⟨_, rfl, .inl ⟨rfl, rfl⟩, hbel⟩
              · rw [if_neg c4] at HP5
                subst HP5
                have c4' : decide ((16 : Int) < (l.length : Int)) = false := by rw [decide_eq_false_iff_not]; omega
                go_wp2_with fail
                go_ret2
                exact ⟨_, rfl, .inr ⟨w.heap.size, 0, l.length, rfl, Nat.le_refl _, hsz, hc⟩, hbel⟩
end Go.Proofs.YtekepdcejoibpaaDoor
