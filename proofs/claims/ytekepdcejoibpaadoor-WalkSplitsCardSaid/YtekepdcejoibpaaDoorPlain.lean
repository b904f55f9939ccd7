/- The plain law: walk.Split's names are the reference's, and put together again they are the path. -/
import Derived.Test.YtekepdcejoibpaaDoorRef
import Derived.Lib.SmallJoins
namespace Go.Proofs.YtekepdcejoibpaaDoor
open Go.Lib

def cut (l : List UInt8) : List (List UInt8) := splitK [47] 0 (count l [47]) l
theorem cut_ne (l : List UInt8) : cut l ≠ [] := by
  unfold cut
  cases count l [47] with
  | zero => simp [splitK]
  | succ k => unfold splitK; split <;> simp
theorem cut_nil : cut [] = [[]] := by decide +kernel
theorem cut_slash (l : List UInt8) : cut (47 :: l) = [] :: cut l := by
  have hix : index (47 :: l) [47] = 0 := by rw [index]; simp [List.isPrefixOf]
  unfold cut
  rw [count_cons_eq, Nat.add_comm, splitK, hix]
  simp
theorem cut_other (c : UInt8) (h : c ≠ 47) (l : List UInt8) : ∃ x t, cut l = x :: t ∧ cut (c :: l) = (c :: x) :: t := by
  have hp : ([47] : List UInt8).isPrefixOf (c :: l) = false := by simp [List.isPrefixOf, Ne.symm h]
  have hix : index (c :: l) [47] = if index l [47] == -1 then -1 else index l [47] + 1 := by rw [index, hp]; simp
  unfold cut
  rw [count_cons_ne c 47 l h]
  by_cases hm : index l [47] = -1
  · rw [count_miss hm]
    exact ⟨l, [], rfl, rfl⟩
  · have hge := index_ge l [47]
    obtain ⟨j, hj⟩ : ∃ j : Nat, index l [47] = j := ⟨(index l [47]).toNat, by omega⟩
    have hix' : index (c :: l) [47] = ((j + 1 : Nat) : Int) := by rw [hix, if_neg (fun e => hm (beq_iff_eq.1 e)), hj]; omega
    obtain ⟨k, hk⟩ : ∃ k, count l [47] = k + 1 := ⟨_, by rw [count_hit (by simp) hj, Nat.add_comm]⟩
    rw [hk]
    refine ⟨l.take j, splitK [47] 0 k (l.drop (j + 1)), ?_, ?_⟩
    · rw [splitK, if_neg (by rw [beq_iff_eq]; omega), hj]
      simp
    · rw [splitK, if_neg (by rw [beq_iff_eq]; omega), hix']
      simp

def cutGo : List UInt8 → List UInt8 → List (List UInt8)
  | cur, [] => [cur]
  | cur, c :: r => if c = 47 then cur :: cutGo [] r else cutGo (cur ++ [c]) r
theorem cutGo_eq : ∀ (l cur : List UInt8), ∃ x t, cut l = x :: t ∧ cutGo cur l = (cur ++ x) :: t := by
  intro l
  induction l with
  | nil => intro cur; exact ⟨[], [], cut_nil, by simp [cutGo]⟩
  | cons c l ih =>
    intro cur
    rw [cutGo]
    by_cases h : c = 47
    · subst h
      rw [if_pos rfl, cut_slash]
      obtain ⟨x, t, h1, h2⟩ := ih []
      exact ⟨[], cut l, rfl, by rw [h2, h1]; simp⟩
    · rw [if_neg h]
      obtain ⟨x, t, h1, h2⟩ := cut_other c h l
      obtain ⟨x', t', h3, h4⟩ := ih (cur ++ [c])
      rw [h1] at h3
      cases h3
      exact ⟨c :: x, t, h2, by rw [h4]; simp⟩
theorem cutGo_nil (l : List UInt8) : cutGo [] l = cut l := by
  obtain ⟨x, t, h1, h2⟩ := cutGo_eq l []
  rw [h1, h2]; rfl
theorem refGo_eq (s : ByteArray) : ∀ (n fr i : Nat) (out : List ByteArray), n + i = s.size → fr ≤ i →
    (refGo s (n + 1) fr i out).map (·.data.toList) = out.map (·.data.toList) ++ cutGo ((s.data.toList.drop fr).take (i - fr)) (s.data.toList.drop i) := by
  intro n
  induction n with
  | zero =>
    intro fr i out hn hf
    have hd : s.data.toList.drop i = [] := List.drop_eq_nil_of_le (by rw [← size_eq]; omega)
    rw [refGo, if_pos (.inl (by omega)), refGo, hd, cutGo]
    simp [extract_data]
  | succ n ih =>
    intro fr i out hn hf
    have hi : i < s.data.toList.length := by rw [← size_eq]; omega
    have hg : s.data.toList.getD i 0 = s.data.toList[i] := by rw [List.getD_eq_getElem?_getD, List.getElem?_eq_getElem hi]; rfl
    rw [refGo, hg, List.drop_eq_getElem_cons hi, cutGo]
    by_cases hc : s.data.toList[i] = 47
    · rw [if_pos (.inr hc), if_pos hc, ih (i + 1) (i + 1) _ (by omega) (by omega)]
      simp [extract_data]
    · rw [if_neg (by rintro (h | h); omega; exact hc h), if_neg hc, ih fr (i + 1) _ (by omega) (by omega)]
      congr 2
      rw [show i + 1 - fr = (i - fr) + 1 by omega, List.take_succ_eq_append_getElem (by rw [List.length_drop]; omega)]
      congr 2
      rw [List.getElem_drop]
      congr 1
      omega

theorem map_data_inj {a b : List ByteArray} (h : a.map (·.data.toList) = b.map (·.data.toList)) : a = b :=
  (List.map_inj_right (fun x y e => ByteArray.ext (Array.toList_inj.mp e))).1 h

theorem refSplit_tail (s : ByteArray) (h1 : ¬1024 < s.size) (r : List UInt8) (hl : s.data.toList = 47 :: r) (hr : r ≠ []) :
    refSplit s = if (refGo s s.size 1 1 []).any bad = true then ([], 3) else if 16 < (refGo s s.size 1 1 []).length then ([], 4) else (refGo s s.size 1 1 [], 0) := by
  unfold refSplit
  rw [if_neg h1, if_neg (by rw [toList_data, hl]; simp), if_neg (by rw [toList_data, hl]; simpa using hr)]
theorem refSplit_root (s : ByteArray) (h1 : ¬1024 < s.size) (hl : s.data.toList = [47]) : refSplit s = ([], 0) := by
  unfold refSplit
  rw [if_neg h1, if_neg (by rw [toList_data, hl]; simp), if_pos (by rw [toList_data, hl]; rfl)]
theorem split_eq_ref (s : ByteArray) : split s = refSplit s := by
  have hsl : slash.data.toList = [47] := rfl
  by_cases h1 : 1024 < s.size
  · unfold split refSplit
    rw [if_pos h1, if_pos h1]
  · rcases hl : s.data.toList with _ | ⟨c, r⟩
    · unfold split refSplit
      rw [if_neg h1, if_neg h1, hsl, hl]
      rw [if_pos (by rfl), if_pos (.inl (by rw [toList_data, hl]; rfl))]
    · by_cases hc : c = 47
      · subst hc
        have hp : hasPrefix (47 :: r) [47] = true := by simp [hasPrefix, List.isPrefixOf]
        have ht : trimPrefix (47 :: r) [47] = r := by unfold trimPrefix; rw [if_pos hp]; rfl
        have hsz : s.size = r.length + 1 := by rw [size_eq, hl]; rfl
        by_cases he : r = []
        · subst he
          rw [refSplit_root s h1 hl]
          unfold split
          rw [if_neg h1, hsl, hl, if_neg (by rw [hp]; simp), ht]
          exact if_pos rfl
        · rw [refSplit_tail s h1 r hl he]
          unfold split
          rw [if_neg h1, hsl, hl, if_neg (by rw [hp]; simp), ht]
          refine (if_neg (by intro h; apply he; have := congrArg (fun b : ByteArray => b.data.toList) h; simpa using this)).trans ?_
          have e : splitB slash 0 (countB ⟨r.toArray⟩ slash) ⟨r.toArray⟩ = refGo s s.size 1 1 [] := by
            apply map_data_inj
            rw [splitB_data, hsz, refGo_eq s r.length 1 1 [] (by omega) (by omega), hl]
            simp only [List.map_nil, List.nil_append, Nat.sub_self, List.take_zero, List.drop_one, List.tail_cons]
            rw [cutGo_nil]
            rfl
          simp only [e]
          generalize refGo s s.size 1 1 [] = l
          by_cases hb : l.any bad = true
          · rw [if_pos hb]
            refine if_pos ?_
            obtain ⟨x, hx, hbx⟩ := List.any_eq_true.1 hb
            unfold bad at hbx
            rcases Bool.or_eq_true_iff.1 hbx with hbx | hbx
            · rcases Bool.or_eq_true_iff.1 hbx with hbx | hbx
              · refine .inl ((containsS_iff _ _).2 ?_)
                rw [← empty_of_toList (List.isEmpty_iff.1 hbx)]
                exact hx
              · refine .inr (.inl ((containsS_iff _ _).2 ?_))
                rw [← (bytes_beq_iff x ⟨#[46]⟩).1 (by rw [show ByteArray.toList ⟨#[46]⟩ = [46] by decide +kernel]; exact hbx)]
                exact hx
            · refine .inr (.inr ((containsS_iff _ _).2 ?_))
              rw [← (bytes_beq_iff x ⟨#[46, 46]⟩).1 (by rw [show ByteArray.toList ⟨#[46, 46]⟩ = [46, 46] by decide +kernel]; exact hbx)]
              exact hx
          · rw [if_neg hb]
            refine if_neg ?_
            intro h
            apply hb
            rw [List.any_eq_true]
            rcases h with h | h | h
            · exact ⟨_, (containsS_iff _ _).1 h, by decide +kernel⟩
            · exact ⟨_, (containsS_iff _ _).1 h, by decide +kernel⟩
            · exact ⟨_, (containsS_iff _ _).1 h, by decide +kernel⟩
      · unfold split refSplit
        rw [if_neg h1, if_neg h1, hsl, hl]
        rw [if_pos (by simp [hasPrefix, List.isPrefixOf, Ne.symm hc]), if_pos (.inr (by simpa using hc))]

theorem bytes_append (a b : ByteArray) : (a ++ b).data.toList = a.data.toList ++ b.data.toList := by rw [ByteArray.data_append, Array.toList_append]
/-- What the law puts together. -/
def joined (l : List ByteArray) : ByteArray := l.foldl (fun s x => s ++ (slash ++ x)) ⟨#[]⟩
theorem joined_data (l : List ByteArray) : (joined l).data.toList = (l.map (·.data.toList)).flatMap (47 :: ·) := by
  have : ∀ (l : List ByteArray) (s : ByteArray), (l.foldl (fun s x => s ++ (slash ++ x)) s).data.toList = s.data.toList ++ (l.map (·.data.toList)).flatMap (47 :: ·) := by
    intro l
    induction l with
    | nil => intro s; simp
    | cons x l ih =>
      intro s
      rw [List.foldl_cons, ih, bytes_append, bytes_append]
      simp [slash]
  have := this l ⟨#[]⟩
  exact this
theorem cut_join (l : List UInt8) : (cut l).flatMap (47 :: ·) = 47 :: l := by
  induction l with
  | nil => rw [cut_nil]; rfl
  | cons c l ih =>
    by_cases h : c = 47
    · subst h
      rw [cut_slash, List.flatMap_cons, ih]
      rfl
    · obtain ⟨x, t, h1, h2⟩ := cut_other c h l
      rw [h1] at ih
      rw [h2]
      simp only [List.flatMap_cons, List.cons_append, List.cons.injEq, true_and] at ih ⊢
      rw [ih]
/-- Put together again the names are the path. -/
theorem split_join (s : ByteArray) (l : List ByteArray) (h : split s = (l, 0)) : joined l = s ∨ (s = ⟨#[47]⟩ ∧ joined l = ⟨#[]⟩) := by
  have hsl : slash.data.toList = [47] := rfl
  unfold split at h
  split at h
  · cases h
  · rw [hsl] at h
    split at h
    · cases h
    · rename_i hp
      have hp' : hasPrefix s.data.toList [47] = true := by simpa using hp
      have hs : s.data.toList = 47 :: s.data.toList.drop 1 := by
        revert hp'
        cases s.data.toList with
        | nil => intro h; simp [hasPrefix, List.isPrefixOf] at h
        | cons c r =>
          intro h
          simp [hasPrefix, List.isPrefixOf] at h
          subst h
          rfl
      have ht : trimPrefix s.data.toList [47] = s.data.toList.drop 1 := by unfold trimPrefix; rw [if_pos hp']; rfl
      rw [ht] at h
      simp only at h
      split at h
      · rename_i he
        cases h
        refine .inr ⟨?_, rfl⟩
        have he' : s.data.toList.drop 1 = [] := by have := congrArg (fun b : ByteArray => b.data.toList) he; simpa using this
        rw [he'] at hs
        exact ByteArray.ext (Array.toList_inj.mp hs)
      · split at h
        · cases h
        · split at h
          · cases h
          · cases h
            left
            apply ByteArray.ext
            apply Array.toList_inj.mp
            rw [joined_data, splitB_data]
            show (cut (s.data.toList.drop 1)).flatMap (47 :: ·) = s.data.toList
            rw [cut_join, ← hs]
end Go.Proofs.YtekepdcejoibpaaDoor
