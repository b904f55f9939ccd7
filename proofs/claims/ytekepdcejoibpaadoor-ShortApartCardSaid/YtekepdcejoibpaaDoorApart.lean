/- The law ShortApart, walked and proved: true for every pair of hashes and numbers. -/
import Derived.Test.YtekepdcejoibpaaDoorAwake
import Derived.Lib.QuietBelow
import Derived.Test.YtekepdcejoibpaaDoorShort
namespace Go.Proofs.YtekepdcejoibpaaDoor
open Go.RowKit Go.Lib

set_option maxRecDepth 100000 in
theorem awake05 (w : World) : Calls Tryd.prog 9 #[] w fun e w' => e = .returned (.bool true) ∧ Below w.heap.size w w' := by
  have HH := hid (fun w => short_Hash.calls ⟨#[97]⟩ 3826002220 w (by unfold short_Hash.f; rw [if_pos rfl]))
  go_enter Tryd.func9, Tryd.ntmps9
  go_wp2_with fail
  refine (HH.out _).mono ?_
  rintro e w1 ⟨rfl, hb1⟩
  go_wp2_with fail
  refine (free13 _ _ _ ?_ ?_).mono ?_
  · exact World.cell?_alloc_at _ _ _ _ rfl
  · exact World.cell?_alloc_at _ _ _ _ rfl
  rintro e w2 ⟨rfl, hb2⟩
  go_wp2_with fail
  go_ret
  exact ⟨rfl, hb1.trans (((Below.refl _ _).alloc (Nat.le_refl _) _ |>.mono hb1.size).trans (hb2.mono (by have := hb1.size; simp; omega)))⟩

/-- What stays while the law runs: the tables, the two numbers, all that was there. -/
structure St (w : World) (B : Nat) (n0 n1 : Int) (w' : World) : Prop where
  tabs : Tabs w'
  c0 : w'.cell? ⟨B, 0, none⟩ = some (.int .i64 n0)
  c1 : w'.cell? ⟨B, 1, none⟩ = some (.int .i64 n1)
  bel : Below w.heap.size w w'
theorem St.drew {w w' : World} {B : Nat} {n0 n1 : Int} (h : St w B n0 n1 w') : St w B n0 n1 w'.drew := ⟨h.tabs.below (Below.refl _ _).drew (Nat.le_refl _), h.c0, h.c1, h.bel.drew⟩
theorem St.below {w w1 w2 : World} {B : Nat} {n0 n1 : Int} (h : St w B n0 n1 w1) (hb : Below w1.heap.size w1 w2) : St w B n0 n1 w2 :=
  ⟨h.tabs.below hb (Nat.le_refl _), (hb.cell (cell_lt0 h.c0)).trans h.c0, (hb.cell (cell_lt0 h.c1)).trans h.c1, h.bel.trans (hb.mono h.bel.size)⟩
theorem name_st (w : World) (B : Nat) (n0 n1 : Int) (h : Nat) (n : Int) (hh : h < 4294967296) (hn : -9223372036854775808 ≤ n ∧ n ≤ 9223372036854775807) (w1 : World) (hs : St w B n0 n1 w1) :
    Calls Tryd.prog 8 #[.int .u32 h, .int .i64 n] w1 fun e w' => e = .returned (.string (nameOf h n)) ∧ St w B n0 n1 w' :=
  (name_any h hh n hn.1 hn.2 w1 hs.tabs).mono fun _ _ ⟨he, hb⟩ => ⟨he, hs.below hb⟩
theorem awake_st (w : World) (B : Nat) (n0 n1 : Int) (w1 : World) (hs : St w B n0 n1 w1) :
    Calls Tryd.prog 9 #[] w1 fun e w' => e = .returned (.bool true) ∧ St w B n0 n1 w' :=
  (awake05 w1).mono fun _ _ ⟨he, hb⟩ => ⟨he, hs.below hb⟩

set_option maxRecDepth 100000 in
set_option maxHeartbeats 400000 in
theorem apart_walk (a b : Nat) (ha : a < 4294967296) (hb : b < 4294967296) (n0 n1 : Int) (h0 : -9223372036854775808 ≤ n0 ∧ n0 ≤ 9223372036854775807) (h1 : -9223372036854775808 ≤ n1 ∧ n1 ≤ 9223372036854775807) (w : World) (ht : Tabs w) :
    Calls Tryd.prog 4 #[.int .u32 a, .int .u32 b, .agg #[.int .i64 n0, .int .i64 n1]] w fun e w' => e = .returned (.bool true) ∧ Below w.heap.size w w' := by
  have S1 : St w w.heap.size n0 n1 (w.alloc (.cells #[.int .i64 n0, .int .i64 n1] 29)) :=
    ⟨ht.below ((Below.refl _ _).alloc (Nat.le_refl _) _) (Nat.le_refl _), World.cell?_alloc_at _ _ _ _ rfl, World.cell?_alloc_at _ _ _ _ rfl, (Below.refl _ _).alloc (Nat.le_refl _) _⟩
  have HS := hid S1
  clear S1
  obtain ⟨x, hx⟩ : ∃ x, nameOf a n0 = x := ⟨_, rfl⟩
  obtain ⟨y, hy⟩ : ∃ y, nameOf b n1 = y := ⟨_, rfl⟩
  have HX := hid (fun w1 (hs : St w w.heap.size n0 n1 w1) => name_any a ha n0 h0.1 h0.2 w1 hs.tabs)
  have HY := hid (fun w1 (hs : St w w.heap.size n0 n1 w1) => name_any b hb n1 h1.1 h1.2 w1 hs.tabs)
  have HA := hid (fun w1 hs => awake_st w w.heap.size n0 n1 w1 hs)
  rw [hx] at HX
  rw [hy] at HY
  go_enter Tryd.func4, Tryd.ntmps4
  go_wp2_with fail
  obtain ⟨w1, hw1⟩ : ∃ w1, w1 = w.alloc (.cells #[.int .i64 n0, .int .i64 n1] 29) := ⟨_, rfl⟩
  rw [← hw1] at HS ⊢
  clear hw1
  have c0 := cell_regrown HS.out.c0
  have c1 := cell_regrown HS.out.c1
  generalize w.heap.size = B at *
  have KX := fun d os => Calls.regrown_of (HX.out _ (HS.out.below (below_regrown w1 d os)))
  have KY := fun d os => Calls.regrown_of (HY.out _ (HS.out.below (below_regrown w1 d os)))
  refine wp_region_quiet_below (by kernel_rfl) (by kernel_rfl) ?_
  repeat (quiet_step (first | with_reducible exact KX _ _ | with_reducible exact KY _ _))
  refine wpQuiet_nil ?_
  intro _ hw'
  obtain ⟨⟨dq, osq⟩, hw''⟩ := hw'
  subst hw''
  clear KX KY HX HY
  have S2 := HS.out.below (below_regrown w1 dq osq)
  generalize Go.Sort.grow (redrawn w1 dq) osq = w2 at *
  clear c0 c1 HS
  go_wp2_with fail
  refine (HA.out _ S2).mono ?_
  rintro e w3 ⟨rfl, S3⟩
  have c0 := S3.c0
  have c1 := S3.c1
  have hsz : x.size ≤ 18 := by rw [← hx]; exact nameOf_size a ha n0
  have g1 : decide ((x.size : Int) ≤ 18) = true := by rw [decide_eq_true_eq]; omega
  have hinj : x.toList.isEmpty = false → x = y → a = b ∧ n0 = n1 := fun h1 h2 => nameOf_inj a b ha hb n0 n1 (by rw [hx]; exact h1) (by rw [hx, hy]; exact h2)
  by_cases he : x.toList.isEmpty = true
  · as_aux_lemma =>
    go_wp2_with fail
    go_ret
    exact ⟨rfl, S3.bel⟩
  · have he' : x.toList.isEmpty = false := by simpa using he
    by_cases hab : a = b
    · subst hab
      by_cases hn : n0 = n1
      · subst hn
        have hxy : x = y := by rw [← hx, ← hy]
        subst hxy
        as_aux_lemma =>
        go_wp2_with fail
        go_ret
        exact ⟨rfl, S3.bel⟩
      · have hxy : (x.toList == y.toList) = false := (bytes_beq_false_iff _ _).2 fun h => hn (hinj he' h).2
        have gn : (n0 == n1) = false := by simpa using hn
        as_aux_lemma =>
        go_wp2_with fail
        go_ret
        exact ⟨rfl, S3.bel⟩
    · have hxy : (x.toList == y.toList) = false := (bytes_beq_false_iff _ _).2 fun h => hab (hinj he' h).1
      have ga : ((a : Int) == (b : Int)) = false := by rw [beq_eq_false_iff_ne]; omega
      as_aux_lemma =>
      go_wp2_with fail
      go_ret
      exact ⟨rfl, S3.bel⟩
end Go.Proofs.YtekepdcejoibpaaDoor
