/- The reference's Split: what it returns, for every path of at most 1100 bytes. -/
import Derived.Test.YtekepdcejoibpaaDoorSplit
import Derived.OwnWalk
import Derived.Laws.Strings2
namespace Go.Proofs.YtekepdcejoibpaaDoor
open Go.RowKit Go.Lib

theorem own_shape {w : World} {base n : Nat} {e : TypeId} {v : Value} {xs : List Value} (h : w.ownsRow base e 1 v n xs) :
    ∃ A c, v = .slice A n c ∧ (0 < n → ∃ g, A = some ⟨g, 0, none⟩ ∧ base ≤ g ∧ n ≤ c) := by
  rcases h.2 with ⟨rfl, rfl⟩ | ⟨g, cap, cur, rfl, hb, _, hnc, _⟩
  · exact ⟨none, 0, rfl, fun h => by omega⟩
  · exact ⟨_, cap, rfl, fun _ => ⟨g, rfl, hb, hnc⟩⟩
theorem own_cells {w : World} {base n : Nat} {e : TypeId} {A : Option Addr} {c : Nat} {xs : List Value} (h : w.ownsRow base e 1 (.slice A n c) n xs) (j : Nat) (hj : j < n) :
    ∃ g, A = some ⟨g, 0, none⟩ ∧ base ≤ g ∧ g < w.heap.size ∧ w.cell? ⟨g, j, none⟩ = xs[j]? := by
  rcases h.2 with ⟨h1, h2⟩ | ⟨g, cap, cur, h1, hb, hg, hnc, hm, hs, hx⟩
  · omega
  · cases h1
    refine ⟨g, rfl, hb, (Array.getElem?_eq_some_iff.1 hg).1, ?_⟩
    rw [← hx, List.getElem?_take_of_lt (by omega)]
    simp [World.cell?, hg]
theorem names_of_own {w : World} {base : Nat} {A : Option Addr} {c : Nat} {xs : List ByteArray} (h : w.ownsRow base 9 1 (.slice A xs.length c) xs.length (xs.map Value.string)) :
    Names w base (.slice A xs.length c) xs := by
  rcases h.2 with ⟨h1, h2⟩ | ⟨g, cap, cur, h1, hb, hg, hnc, hm, hs, hx⟩
  · have := List.eq_nil_of_length_eq_zero h2
    subst this
    exact .inl ⟨by simpa using h1, rfl⟩
  · cases h1
    refine .inr ⟨g, 0, _, rfl, hb, (Array.getElem?_eq_some_iff.1 hg).1, fun j hj => ?_⟩
    obtain ⟨g', e, _, _, hc⟩ := own_cells h j hj
    cases e
    rw [Nat.zero_add, hc]
    simp [List.getD_eq_getElem?_getD, hj]
def refGo (s : ByteArray) : Nat → Nat → Nat → List ByteArray → List ByteArray
  | 0, _, _, out => out
  | n + 1, fr, i, out => if i = s.size ∨ s.data.toList.getD i 0 = 47 then refGo s n (i + 1) (i + 1) (out ++ [s.extract fr i]) else refGo s n fr (i + 1) out
def bad (x : ByteArray) : Bool := x.toList.isEmpty || x.toList == [46] || x.toList == [46, 46]
def refSplit (s : ByteArray) : List ByteArray × Int :=
  if 1024 < s.size then ([], 4) else if s.toList.isEmpty = true ∨ s.data.toList.getD 0 0 ≠ 47 then ([], 3) else if s.toList == [47] then ([], 0) else
    let l := refGo s s.size 1 1 []
    if l.any bad then ([], 3) else if 16 < l.length then ([], 4) else (l, 0)

theorem info9F : (Tryd.prog.info? 9).map (fun i => (i.zero, i.size, i.bytes)) = some (some (.string ⟨#[]⟩), 1, 16) := by kernel_rfl

set_option maxRecDepth 100000 in
theorem refSplit_any (s : ByteArray) (hs : s.size ≤ 1100) (w : World) (p : List ByteArray × Int) (hp : refSplit s = p) :
    Calls Tryd.prog 7 #[.string s] w fun e w' => ∃ v, e = .returned (.tuple #[v, .int .i64 p.2]) ∧ Names w' w.heap.size v p.1 ∧ Below w.heap.size w w' := by
  have HP := hid hp
  clear hp
  go_enter Tryd.func7, Tryd.ntmps7
  by_cases h1 : 1024 < s.size
  · as_aux_lemma =>
    have HP1 := HP.out
    unfold refSplit at HP1
    rw [if_pos h1] at HP1
    subst HP1
    have g1 : decide ((1024 : Int) < (s.size : Int)) = true := by rw [decide_eq_true_eq]; omega
    go_wp2_with fail
    go_ret2
    exact ⟨_, rfl, .inl ⟨rfl, rfl⟩, Below.refl _ _⟩
  · have HP1 := HP.out
    unfold refSplit at HP1
    rw [if_neg h1] at HP1
    have HP2 := hid HP1
    clear HP1 HP
    have g1 : decide ((1024 : Int) < (s.size : Int)) = false := by rw [decide_eq_false_iff_not]; omega
    by_cases h2 : s.toList.isEmpty = true
    · as_aux_lemma =>
      have HP1 := HP2.out
      rw [if_pos (.inl h2)] at HP1
      subst HP1
      go_wp2_with fail
      go_ret2
      exact ⟨_, rfl, .inl ⟨rfl, rfl⟩, Below.refl _ _⟩
    · have h2' : s.toList.isEmpty = false := by simpa using h2
      have h0 : 0 < s.size := by
        rcases Nat.eq_zero_or_pos s.size with h | h
        · exact absurd (show s.toList.isEmpty = true by
            have : s.data.toList = [] := List.eq_nil_of_length_eq_zero (by rw [← size_eq]; exact h)
            have : s = ByteArray.empty := by cases s with | mk d => simp at this; subst this; rfl
            subst this; decide +kernel) h2
        · exact h
      have hb : s.data.toList.getD 0 0 = s[0]'h0 := by
        rw [List.getD_eq_getElem?_getD, List.getElem?_eq_getElem (by rw [← size_eq]; exact h0)]
        rfl
      by_cases h3 : s[0]'h0 = 47
      · have h3' : (((s[0]'h0).toNat : Int) != 47) = false := by rw [h3]; decide
        have HP1 := HP2.out
        rw [if_neg (by rw [hb, h3]; simpa using h2')] at HP1
        have HP3 := hid HP1
        clear HP1 HP2 hb
        by_cases h4 : (s.toList == [47]) = true
        · as_aux_lemma =>
          have HP1 := HP3.out
          rw [if_pos h4] at HP1
          subst HP1
          go_wp2_with fail
          go_ret2
          exact ⟨_, rfl, .inl ⟨rfl, rfl⟩, Below.refl _ _⟩
        · have HP1 := HP3.out
          rw [if_neg h4] at HP1
          have h4' : (s.toList == [47]) = false := by simpa using h4
          generalize hN : refGo s s.size 1 1 [] = N at *
          have HP4 := hid HP1
          have HN := hid hN
          clear HP1 HP3 hN
          obtain ⟨i0, hi, hz0, hz1, hz2⟩ := info_parts info9F
          go_wp2_with fail
          go_loopw [4, 5, 6] (fun v f x wr => ∃ (n fr i : Nat) (out : List ByteArray), n + i = s.size + 1 ∧ fr ≤ i ∧ x = .int .i64 i ∧ f = .int .i64 fr ∧ out.length ≤ i ∧ wr.ownsRow w.heap.size 9 1 v out.length (out.map Value.string) ∧ Hid (refGo s n fr i out = N) ∧ Below w.heap.size w wr) (fun _ _ x _ => s.size + 1 - (Lib.intOf x).toNat)
          case atStart => exact ⟨s.size, 1, 1, [], by omega, by omega, rfl, rfl, by simp, World.ownsRow_nil _ _ _ _, HN, Below.refl _ _⟩
          case round =>
            obtain ⟨n, fr, i, out, hn, hfr, rfl, rfl, hlen, hown, hT, hbel⟩ := hrel
            obtain ⟨A, c, rfl, hA⟩ := own_shape hown
            by_cases hlt : i ≤ s.size
            · obtain ⟨n, rfl⟩ : ∃ m, n = m + 1 := ⟨n - 1, by omega⟩
              have hT1 := hT.out
              rw [refGo] at hT1
              have gi : decide ((i : Int) ≤ (s.size : Int)) = true := by rw [decide_eq_true_eq]; omega
              by_cases he : i = s.size
              · have gi2 : ((i : Int) == (s.size : Int)) = true := by rw [beq_iff_eq]; omega
                rw [if_pos (.inl he)] at hT1
                have hT2 := hid hT1
                clear hT1 hT
                have q0 : (0 : Int) ≤ (fr : Int) := by omega
                have q1 : (fr : Int) ≤ (i : Int) := by omega
                have q2 : (i : Int) ≤ (s.size : Int) := by omega
                have q1' : (fr : Int) ≤ (s.size : Int) := by omega
                have q2' : (s.size : Int) ≤ (s.size : Int) := by omega
                have hown2 : ∀ o, (wr.alloc o).ownsRow w.heap.size 9 1 (.slice A out.length c) out.length (out.map Value.string) := fun o => World.ownsRow.alloc hown o
                go_wp2_with (at_builtin; refine wpList_append_own _ rfl (.tmp 36) (.tmp 41) 23 rfl w.heap.size 9 i0 (.string ⟨#[]⟩) 1 16 Tryd.underlying23 hi hz0 hz1 hz2 rfl (by decide) _ _ _ rfl (hown2 _) ⟨wr.heap.size, 0, none⟩ 1 1 [.string (s.extract fr s.size)] rfl rfl ?c1 ?c2 ?c3 ?c4 ?c5 ?_)
                case c1 =>
                  intro j u hj
                  match j, hj with
                  | 0, hj => simp at hj; subst hj; simp only [Addr.add, if_true]; exact World.cell?_alloc_at _ _ _ _ rfl
                case c2 => intro u hu; simp at hu; subst hu; rfl
                case c3 => unfold maxLen; omega
                case c4 => omega
                case c5 => have := hbel.size; simp at this ⊢; omega
                intro v3 w3 hown3 hgrow3 _
                have BEL3 : Below w.heap.size w w3 := (hbel.alloc hbel.size _).grown hgrow3 (by have := hbel.size; simp at this ⊢; omega) (fun q hq => (hown.lt q (by simpa using hq)).1)
                clear hgrow3 hown2
                go_wp2_with fail
                go_roundw
                case rel => exact ⟨n, i + 1, i + 1, out ++ [s.extract fr i], by omega, by omega, by go_num, by go_num, by simp only [List.length_append, List.length_singleton]; omega, by rw [show s.extract fr i = s.extract fr s.size by rw [he]]; simpa using hown3, hT2, BEL3⟩
                case measure => simp [Lib.intOf]; omega
              · have gi2 : ((i : Int) == (s.size : Int)) = false := by rw [beq_eq_false_iff_ne]; omega
                have hi2 : i < s.size := by omega
                have q0 : (0 : Int) ≤ (fr : Int) := by omega
                have q1 : (fr : Int) ≤ (i : Int) := by omega
                have q2 : (i : Int) ≤ (s.size : Int) := by omega
                have q3 : (0 : Int) ≤ (i : Int) := by omega
                have q4 : (i : Int) < (s.size : Int) := by omega
                have hbi : s.data.toList.getD i 0 = s[i]'hi2 := by
                  rw [List.getD_eq_getElem?_getD, List.getElem?_eq_getElem (by rw [← size_eq]; exact hi2)]
                  rfl
                rw [hbi] at hT1
                by_cases hc : s[i]'hi2 = 47
                · rw [if_pos (.inr hc)] at hT1
                  have hc' : (((s[i]'hi2).toNat : Int) == 47) = true := by rw [hc]; decide
                  have hT2 := hid hT1
                  clear hT1 hT
                  have hown2 : ∀ o, (wr.alloc o).ownsRow w.heap.size 9 1 (.slice A out.length c) out.length (out.map Value.string) := fun o => World.ownsRow.alloc hown o
                  go_wp2_with (at_builtin; refine wpList_append_own _ rfl (.tmp 36) (.tmp 41) 23 rfl w.heap.size 9 i0 (.string ⟨#[]⟩) 1 16 Tryd.underlying23 hi hz0 hz1 hz2 rfl (by decide) _ _ _ rfl (hown2 _) ⟨wr.heap.size, 0, none⟩ 1 1 [.string (s.extract fr i)] rfl rfl ?c1 ?c2 ?c3 ?c4 ?c5 ?_)
                  case c1 =>
                    intro j u hj
                    match j, hj with
                    | 0, hj => simp at hj; subst hj; simp only [Addr.add, if_true]; exact World.cell?_alloc_at _ _ _ _ rfl
                  case c2 => intro u hu; simp at hu; subst hu; rfl
                  case c3 => unfold maxLen; omega
                  case c4 => omega
                  case c5 => have := hbel.size; simp at this ⊢; omega
                  intro v3 w3 hown3 hgrow3 _
                  have BEL3 : Below w.heap.size w w3 := (hbel.alloc hbel.size _).grown hgrow3 (by have := hbel.size; simp at this ⊢; omega) (fun q hq => (hown.lt q (by simpa using hq)).1)
                  clear hgrow3 hown2
                  go_wp2_with fail
                  go_roundw
                  case rel => exact ⟨n, i + 1, i + 1, out ++ [s.extract fr i], by omega, by omega, by go_num, by go_num, by simp only [List.length_append, List.length_singleton]; omega, by simpa using hown3, hT2, BEL3⟩
                  case measure => simp [Lib.intOf]; omega
                · rw [if_neg (by rintro (h | h); exact he h; exact hc h)] at hT1
                  have hc' : (((s[i]'hi2).toNat : Int) == 47) = false := by rw [beq_eq_false_iff_ne]; exact fun h => hc (UInt8.toNat_inj.1 (show (s[i]'hi2).toNat = 47 by omega))
                  have hT2 := hid hT1
                  clear hT1 hT
                  go_wp2_with fail
                  go_roundw
                  case rel => exact ⟨n, fr, i + 1, out, by omega, by omega, by go_num, rfl, by omega, hown, hT2, hbel⟩
                  case measure => simp [Lib.intOf]; omega
            · obtain rfl : n = 0 := by omega
              have hT1 := hT.out
              rw [refGo] at hT1
              subst hT1
              have gi : decide ((i : Int) ≤ (s.size : Int)) = false := by rw [decide_eq_false_iff_not]; omega
              have hcell := own_cells hown
              clear hT HN
              have hob : out.length ≤ 1101 := by omega
              obtain ⟨wo, hwo⟩ : ∃ wo : World, wo = wr := ⟨_, rfl⟩
              rw [← hwo] at hbel hown hcell
              go_wp2_with fail
              go_loopw [7] (fun x wr => ∃ k : Nat, k ≤ out.length ∧ x = .int .i64 k ∧ wr = wo ∧ (out.take k).any bad = false) (fun x _ => out.length - (Lib.intOf x).toNat)
              case atStart => exact ⟨0, by omega, rfl, hwo.symm, by simp⟩
              case round =>
                clear hwo
                obtain ⟨k, hk, rfl, hwo, hnb⟩ := hrel
                subst hwo
                by_cases hlt2 : k < out.length
                · obtain ⟨g, rfl, hg1, hg2, hck⟩ := hcell k hlt2
                  have hck' : wr.cell? ⟨g, k, none⟩ = some (.string (out[k])) := by rw [hck]; simp [hlt2]
                  clear hck hcell
                  have gk : decide ((k : Int) < (out.length : Int)) = true := by rw [decide_eq_true_eq]; omega
                  have q0 : (0 : Int) ≤ (k : Int) := by omega
                  have q1 : (k : Int) < (out.length : Int) := by omega
                  have hb : bad out[k] = (out[k].toList.isEmpty || out[k].toList == [46] || out[k].toList == [46, 46]) := rfl
                  have hN : bad out[k] = true → p = ([], 3) := by
                    intro h
                    rw [← HP4.out, if_pos]
                    exact List.any_eq_true.2 ⟨_, List.getElem_mem hlt2, h⟩
                  have hS : bad out[k] = false → (out.take (k + 1)).any bad = false := by
                    intro h
                    rw [List.take_succ_eq_append_getElem hlt2, List.any_append, hnb]
                    simpa using h
                  generalize out[k] = x at *
                  have HN := hid hN
                  have HS := hid hS
                  clear hN hS
                  by_cases c1 : x.toList.isEmpty = true
                  · as_aux_lemma =>
                    obtain rfl := HN.out (by rw [hb, c1]; rfl)
                    go_wp2_with fail
                    go_ret2
                    exact ⟨_, rfl, .inl ⟨rfl, rfl⟩, hbel⟩
                  · have c1' : x.toList.isEmpty = false := by simpa using c1
                    by_cases c2 : (x.toList == [46]) = true
                    · as_aux_lemma =>
                      obtain rfl := HN.out (by rw [hb, c1', c2]; rfl)
                      go_wp2_with fail
                      go_ret2
                      exact ⟨_, rfl, .inl ⟨rfl, rfl⟩, hbel⟩
                    · have c2' : (x.toList == [46]) = false := by simpa using c2
                      by_cases c3 : (x.toList == [46, 46]) = true
                      · as_aux_lemma =>
                        obtain rfl := HN.out (by rw [hb, c1', c2', c3]; rfl)
                        go_wp2_with fail
                        go_ret2
                        exact ⟨_, rfl, .inl ⟨rfl, rfl⟩, hbel⟩
                      · have c3' : (x.toList == [46, 46]) = false := by simpa using c3
                        have hS := HS.out (by rw [hb, c1', c2', c3']; rfl)
                        go_wp2_with fail
                        go_roundw
                        case rel => exact ⟨k + 1, by omega, by go_num, trivial, hS⟩
                        case measure => simp [Lib.intOf]; omega
                · obtain rfl : k = out.length := by omega
                  rw [List.take_length] at hnb
                  have HP1 := HP4.out
                  rw [if_neg (by rw [hnb]; simp)] at HP1
                  by_cases h16 : 16 < out.length
                  · as_aux_lemma =>
                    rw [if_pos h16] at HP1
                    subst HP1
                    have g16 : decide ((16 : Int) < (out.length : Int)) = true := by rw [decide_eq_true_eq]; omega
                    go_wp2_with fail
                    go_ret2
                    exact ⟨_, rfl, .inl ⟨rfl, rfl⟩, hbel⟩
                  · as_aux_lemma =>
                    rw [if_neg h16] at HP1
                    subst HP1
                    have g16 : decide ((16 : Int) < (out.length : Int)) = false := by rw [decide_eq_false_iff_not]; omega
                    go_wp2_with fail
                    go_ret2
                    exact ⟨_, rfl, names_of_own hown, hbel⟩
      · as_aux_lemma =>
        have HP1 := HP2.out
        rw [if_pos (.inr (by rw [hb]; exact h3))] at HP1
        subst HP1
        have h3' : (((s[0]'h0).toNat : Int) != 47) = true := by rw [bne_iff_ne]; exact fun h => h3 (UInt8.toNat_inj.1 (show (s[0]'h0).toNat = 47 by omega))
        go_wp2_with fail
        go_ret2
        exact ⟨_, rfl, .inl ⟨rfl, rfl⟩, Below.refl _ _⟩
end Go.Proofs.YtekepdcejoibpaaDoor
