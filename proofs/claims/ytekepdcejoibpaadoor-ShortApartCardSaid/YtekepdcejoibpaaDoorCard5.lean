/- ShortApart: the tied card. For all hashes and pairs of numbers the law returns true; its arguments read as before. Conditions: none but those that the row prints (the listed tables read as the program's text lays them). -/
import Derived.Test.YtekepdcejoibpaaDoorApart
import Derived.Test.YtekepdcejoibpaaDoorCards
import Derived.Test.YtekepdcejoibpaaDoorTie
import Derived.ProofKit
import Derived.OpenShut
import Derived.LaidMore
import Derived.Lay
import Derived.Carry
import Derived.Lib.LaidTab
import Derived.SevenTiedAt
import Derived.Stop.Joined
import Derived.Stop.LaidErr
namespace Go.Proofs.YtekepdcejoibpaaDoor
open Go.ChangeShapes Go.WideShapes Go.ChangeAt Go.RowKit

theorem laidOut5 : laidOutB Tryd.prog = true := by kernel_rfl
theorem own5 : ownKnob Tryd.prog.godebug = none := by kernel_rfl
theorem tabs_of_laid {W : World} (h : laidMetH Tryd.prog Rows.shortApartRow.laid W) : Tabs W := by
  rw [MakeChecks.laidMetH_plain _ _ _ (by kernel_rfl)] at h
  have e64 : Rows.shortApartRow.laid = ("math/bits.deBruijn32tab", Rows.laid_math_bits_deBruijn32tab) :: ("math/bits.deBruijn64tab", Lib.tabData .u8 [0, 1, 56, 2, 57, 49, 28, 3, 61, 58, 42, 50, 38, 29, 17, 4, 62, 47, 59, 36, 45, 43, 51, 22, 53, 39, 33, 30, 24, 18, 12, 5, 63, 55, 48, 27, 60, 41, 37, 16, 46, 35, 44, 21, 52, 32, 23, 11, 54, 26, 40, 15, 34, 20, 31, 10, 25, 14, 19, 9, 13, 8, 7, 6]) :: ("internal/strconv.uint64pow10", Lib.tabData .u64 Lib.pow10Tab) :: [] := by kernel_rfl
  rw [e64] at h
  have h2 := laidMet.tail h
  have h3 := laidMet.tail h2
  have T := Lib.tabIs_of_head (g := 5) (t := 103) (e := 5) (n := 64) (by kernel_rfl) (by kernel_rfl) Tryd.underlying103 Tryd.underlying5 (by kernel_rfl) (by kernel_rfl) h2
  refine ⟨?_, Lib.tabIs_of_head (g := 0) (t := 88) (e := 37) (n := 20) (by kernel_rfl) (by kernel_rfl) Tryd.underlying88 Tryd.underlying37 (by kernel_rfl) (by kernel_rfl) h3⟩
  exact T.cell (g := 5) (by kernel_rfl) 15 (by decide)

theorem wf_i64 {x : Int} (h : (Lit.int .i64 x).wf = true) : -9223372036854775808 ≤ x ∧ x ≤ 9223372036854775807 := bounds_i64 h
theorem wf_u32 {x : Int} (h : (Lit.int .u32 x).wf = true) : 0 ≤ x ∧ x ≤ 4294967295 := bounds_u32 h
theorem open_two {H : Type} {enc : TypeId × Value → H} {W : World} {r : Reach} {b base : Nat} {sp : Nat → Bool} {held : Bool} {v : Value} {d : DataW H} {p : List MemPlace}
    (hv : Value.okWide Tryd.prog W r b 29 v) (h : DataW.Trod enc Tryd.prog W base sp held 29 v d p) :
    ∃ x y : Int, v = .agg #[.int .i64 x, .int .i64 y] ∧ p = [] ∧ (Lit.int .i64 x).wf = true ∧ (Lit.int .i64 y).wf = true := by
  simp only [Value.okWide, Tryd.underlying29] at hv
  obtain ⟨cs, rfl, hsz, _⟩ := hv
  obtain ⟨fuel, hf⟩ := h
  obtain ⟨xs, m, _, ex, hl, hn, hel⟩ := DataW.trod_array Tryd.underlying29 hf
  have c3 : Tryd.prog.cellsOf 3 = 1 := by kernel_rfl
  have c29 : Tryd.prog.cellsOf 29 = 2 := by kernel_rfl
  rw [c29] at hsz
  have e0 := hel 0 (by omega)
  have e1 := hel 1 (by omega)
  rw [c3] at e0 e1
  obtain ⟨x0, x1, rfl⟩ := Joins.array2 hsz
  match xs, hn with
  | [y0, y1], _ =>
    have f0 : DataW.trod enc Tryd.prog W base sp held m 3 [x0] = some y0 := e0
    have f1 : DataW.trod enc Tryd.prog W base sp held m 3 [x1] = some y1 := e1
    obtain ⟨k0, g0, i0, j0⟩ := DataW.trod_int Tryd.underlying3 f0
    obtain ⟨k1, g1, i1, j1⟩ := DataW.trod_int Tryd.underlying3 f1
    simp at g0 g1
    subst g0 g1
    refine ⟨k0, k1, rfl, ?_, j0, j1⟩
    have := (Prod.mk.inj ex).2
    rw [this, i0, i1]
    rfl

set_option maxRecDepth 100000 in
theorem shortApart_lifted (os : Os) (started : os.Started) (H : Type) (enc : TypeId × Value → H) :
    ReturnsInHanded {} Tryd.checked os 4 .any (fun w args => (Rows.shortApartSpec.pre enc Tryd.prog Tryd.f4 [] false w args ∧ laidMetH Tryd.prog Rows.shortApartRow.laid w) ∧ sizedMet enc Tryd.prog Tryd.f4 (OpenSpec.ofChange Rows.shortApartSpec) false w args)
      (Rows.shortApartSpec.post enc Tryd.prog Tryd.f4 false true false false) := by
  refine returnsInHanded_of_change_and (C := Tryd.checked) (X := fun w _ => laidMetH Tryd.prog Rows.shortApartRow.laid w) (fun _ _ _ hh h => h.of_heap hh) own5 started (by kernel_rfl) Tryd.func4
    (ChangeSpec.witness_shaped (enc := enc) (C := Tryd.checked) (os := os) (X := fun w _ => laidMetH Tryd.prog Rows.shortApartRow.laid w) false (World.laidAll Tryd.prog os Rows.shortApartRow.laid) #[.int .u32 0, .int .u32 0, .agg #[.int .i64 0, .int .i64 0]] 8 (World.laidAll_os _ _ _)
      (World.shaped_of_ZipB (by kernel_rfl) (by kernel_rfl)) (by kernel_rfl) (by kernel_rfl) (by kernel_rfl)
      (by rw [MakeChecks.laidMetH_plain _ _ _ (by kernel_rfl)]; exact laidMet_laidAll _ (by kernel_rfl) (by kernel_rfl))) ?_
  intro W base args ds gs before hval0 hW _ _ hL _
  have hval : ∀ (j : Nat) t v, Tryd.f4.params[j]? = some t → args[j]? = some v → Value.okWide Tryd.prog W .any base t v := hval0
  have hW' := hW
  obtain ⟨p, q, hA0, hV, rfl, hfz, hnd⟩ := hW
  have hA : DataW.TrodAll enc Tryd.prog W 0 (fun _ => true) true Tryd.f4.params.toList args.toList ds p := hA0
  rw [Tryd.params4] at hA hval
  obtain ⟨v0, vs0, d0, ds0, p0, q0, hargs, rfl, rfl, h0, r0⟩ := trodAll_cons hA
  obtain ⟨v1, vs1, d1, ds1, p1, q1, rfl, rfl, rfl, h1, r1⟩ := trodAll_cons r0
  obtain ⟨v2, vs2, d2, ds2, p2, q2, rfl, rfl, rfl, h2, r2⟩ := trodAll_cons r1
  obtain ⟨rfl, rfl, rfl⟩ := trodAll_nil r2
  obtain rfl : args = #[v0, v1, v2] := by cases args; simp_all
  obtain ⟨rfl, rfl⟩ := trodVars_none hV
  obtain ⟨a0, rfl, rfl, rfl, w0⟩ := open_int Tryd.underlying28 (hval 0 28 v0 rfl rfl) h0
  obtain ⟨a1, rfl, rfl, rfl, w1⟩ := open_int Tryd.underlying28 (hval 1 28 v1 rfl rfl) h1
  have hT := tabs_of_laid hL
  have hv2 := hval 2 29 v2 rfl rfl
  have h2k := h2
  obtain ⟨x, y, rfl, rfl, wx, wy⟩ := open_two hv2 h2
  have bx := wf_i64 wx
  have by' := wf_i64 wy
  have ba := wf_u32 w0
  have bb := wf_u32 w1
  clear hA0 hval0
  obtain ⟨a, rfl⟩ : ∃ a : Nat, a0 = a := ⟨a0.toNat, by omega⟩
  obtain ⟨b, rfl⟩ : ∃ b : Nat, a1 = b := ⟨a1.toNat, by omega⟩
  refine (apart_walk a b (by omega) (by omega) x y bx by' W hT).mono fun e W' ⟨he, bel⟩ => ?_
  subst he
  exact ⟨_, rfl, _, _, _, [], _, [], hW', trodAll_mk1 (shut_bool Tryd.underlying4 _),
    (trodAll_cons_mk (shut_int Tryd.underlying28 w0) (trodAll_cons_mk (shut_int Tryd.underlying28 w1) (trodAll_cons_mk (Below.trod laidOut5 (by kernel_rfl) (of_decide_eq_true (by kernel_rfl)) h2k bel (fun _ h => by cases h)) trodAll_mk0))), rfl, bel.frame _, fun h => by cases h⟩
theorem shortApart_holds : Rows.ShortApartSaid :=
  OpenClaim.holds_of_wide 4 Tryd.f4 rfl rfl rfl rfl rfl rfl rfl ⟨rfl, rfl, rfl, rfl, rfl⟩ rfl rfl rfl rfl rfl (by kernel_rfl) Tryd.func4 (by kernel_rfl)
    (of_decide_eq_true (by kernel_rfl)) (by unfold Func.isWrapper; first | (rw [if_pos (by decide +kernel)]; kernel_rfl) | (rw [if_neg (by decide +kernel)]; exact ⟨rfl, rfl⟩))
    (fun os started H enc _ => shortApart_lifted os started H enc)
theorem shortApart_card : Rows.ShortApartCardSaid :=
  Claim7.holds_tied_plain_at .later [] [.data, .data, .data] true (true, "2eb168e0eaad9e817242f12175b3e21e9f1c6dbc86bf83070b4a84833be4d8e3") true
    shortApart_holds (fun _ h => by cases h) (by kernel_rfl) (fun _ h => by cases h) shortApart_row_tie rfl ⟨rfl, rfl⟩ (by kernel_rfl) rfl
    (fun f fn hf hfn => by
      obtain rfl : f = 4 := Option.some.inj ((show Tryd.prog.funcNamed "toponym/toponymlaw05.ShortApart" = some 4 by kernel_rfl).symm.trans hf) |>.symm
      obtain rfl : fn = Tryd.f4 := (Option.some.inj (Tryd.func4.symm.trans hfn)).symm
      exact ⟨by kernel_rfl, fun j t ht => by
        rw [Tryd.params4] at ht
        have hm : t ∈ [28, 28, 29] := by simpa using Array.mem_of_getElem? ht
        have hall : ([28, 28, 29].all fun u => !Tryd.prog.wantsStandIn u) = true := by kernel_rfl
        exact (show Tryd.prog.wantsStandIn t = false by simpa using List.all_eq_true.1 hall t hm)⟩)
    (by kernel_rfl)
#print axioms shortApart_card
end Go.Proofs.YtekepdcejoibpaaDoor
