/- toponym/short.Hash of the text a; toponym/short.Free of 1 and 3: the heap, walked at these two. -/
import Derived.Test.YtekepdcejoibpaaDoorName
import Derived.Lib.ConvBytes
import Derived.LoopN
import Derived.ChangeAlike
import Derived.Deep.QuietTactic
import Derived.Deep.RegionHeld
import Derived.BigRegion
namespace Go.Proofs.YtekepdcejoibpaaDoor
open Go.RowKit
theorem wrapchk (a : Addr) (s1 s2 : String) (w : World) : Sem.run Tryd.prog (Builtin.ssaWrapNilChk_ #[62] 62 #[.pointer (some a), strVal s1, strVal s2]) w = .ok (.pointer (some a)) w := by rfl
theorem m_via (f : FuncId) (nm : String) (hf : (Array.find? (fun x => x.name == nm) Tryd.t62.methods).map (fun m => (m.path, m.func)) = some (#[], some (f, false)))
   (a : Addr) (w : World) (v : Value) (h : w.cell? a = some v) : (method 217 62 (.pointer (some a)) nm).run Tryd.prog w = .ok (f, v) w := by
  obtain ⟨m, hm, he⟩ := Option.map_eq_some_iff.1 hf
  simp only [Prod.mk.injEq] at he
  obtain ⟨h1, h2⟩ := he
  unfold method
  simp [Sem.run_bind, go_sem, hm, h1, h2, follow, receiverAt, Place.get, Tryd.underlying62, wrapchk, h]
theorem m_pop (a : Addr) (w : World) : (method 217 62 (.pointer (some a)) "Pop").run Tryd.prog w = .ok (85, .pointer (some a)) w := by kernel_rfl

structure Hp (w0 w : World) (bp g n c : Nat) (x y : Int) : Prop where
  hb : w.cell? ⟨bp, 0, none⟩ = some (.slice (some ⟨g, 0, none⟩) n c)
  hbf : w.frozen? ⟨bp, 0, none⟩ = false
  hx : w.cell? ⟨g, 0, none⟩ = some (.int .i64 x)
  hy : w.cell? ⟨g, 1, none⟩ = some (.int .i64 y)
  hxf : w.frozen? ⟨g, 0, none⟩ = false
  hyf : w.frozen? ⟨g, 1, none⟩ = false
  ne : bp ≠ g
  lbp : w0.heap.size ≤ bp
  lg : w0.heap.size ≤ g
  bel : Below w0.heap.size w0 w
theorem Hp.drew {w0 w : World} {bp g n c : Nat} {x y : Int} (h : Hp w0 w bp g n c x y) : Hp w0 w.drew bp g n c x y :=
  ⟨h.hb, h.hbf, h.hx, h.hy, h.hxf, h.hyf, h.ne, h.lbp, h.lg, h.bel.drew⟩
theorem Hp.drewN {w0 w : World} {bp g n c : Nat} {x y : Int} (h : Hp w0 w bp g n c x y) (k : Nat) : Hp w0 (w.drewN k) bp g n c x y :=
  ⟨h.hb, h.hbf, h.hx, h.hy, h.hxf, h.hyf, h.ne, h.lbp, h.lg, ⟨h.bel.os, h.bel.tape, h.bel.output, h.bel.size, h.bel.block⟩⟩
theorem sc_off (w : World) (g i j : Nat) (v : Value) (h : i ≠ j) : (w.setCell ⟨g, i, none⟩ v).cell? ⟨g, j, none⟩ = w.cell? ⟨g, j, none⟩ :=
  World.cell?_setCell_other _ _ _ _ (by intro e; injection e; omega)
theorem sc_far (w : World) (g b i j : Nat) (v : Value) (h : g ≠ b) : (w.setCell ⟨g, i, none⟩ v).cell? ⟨b, j, none⟩ = w.cell? ⟨b, j, none⟩ :=
  World.cell?_setCell_far _ _ _ _ h
theorem Hp.alike {w0 w w' : World} {bp g n c : Nat} {x y : Int} (h : Hp w0 w bp g n c x y) (ha : w'.Alike w) (ht : w'.tape = w0.tape) : Hp w0 w' bp g n c x y := by
  obtain ⟨h1, h2, h3⟩ := ha
  have e1 : ∀ a, w'.cell? a = w.cell? a := fun a => World.cell?_of_block (by rw [h1])
  have e2 : ∀ a, w'.frozen? a = w.frozen? a := fun a => World.frozen?_of_block (by rw [h1])
  exact ⟨by rw [e1]; exact h.hb, by rw [e2]; exact h.hbf, by rw [e1]; exact h.hx, by rw [e1]; exact h.hy, by rw [e2]; exact h.hxf, by rw [e2]; exact h.hyf, h.ne, h.lbp, h.lg, ⟨h2.trans h.bel.os, ht, h3.trans h.bel.output, by rw [h1]; exact h.bel.size, fun k hk => by rw [h1]; exact h.bel.block k hk⟩⟩
theorem Hp.swap {w0 w : World} {bp g n c : Nat} {x y : Int} (h : Hp w0 w bp g n c x y) : Hp w0 ((w.setCell ⟨g, 0, none⟩ (.int .i64 y)).setCell ⟨g, 1, none⟩ (.int .i64 x)) bp g n c y x := by
  have hne := h.ne
  refine ⟨?_, by simpa using h.hbf, ?_, ?_, by simpa using h.hxf, by simpa using h.hyf, h.ne, h.lbp, h.lg, (h.bel.setCell h.lg _).setCell h.lg _⟩
  · rw [sc_far _ _ _ _ _ _ (Ne.symm hne), sc_far _ _ _ _ _ _ (Ne.symm hne)]; exact h.hb
  · rw [sc_off _ _ _ _ _ (by omega)]; exact World.cell?_setCell_same _ _ _ h.hx
  · exact World.cell?_setCell_same _ _ _ (u := .int .i64 y) (by rw [sc_off _ _ _ _ _ (by omega)]; exact h.hy)
theorem Hp.swap0 {w0 w : World} {bp g n c : Nat} {x y : Int} (h : Hp w0 w bp g n c x y) : Hp w0 ((w.setCell ⟨g, 0, none⟩ (.int .i64 x)).setCell ⟨g, 0, none⟩ (.int .i64 x)) bp g n c x y := by
  have hne := h.ne
  refine ⟨?_, by simpa using h.hbf, ?_, ?_, by simpa using h.hxf, by simpa using h.hyf, h.ne, h.lbp, h.lg, (h.bel.setCell h.lg _).setCell h.lg _⟩
  · rw [sc_far _ _ _ _ _ _ (Ne.symm hne), sc_far _ _ _ _ _ _ (Ne.symm hne)]; exact h.hb
  · exact World.cell?_setCell_same _ _ _ (u := .int .i64 x) (World.cell?_setCell_same _ _ _ h.hx)
  · rw [sc_off _ _ _ _ _ (by omega), sc_off _ _ _ _ _ (by omega)]; exact h.hy
theorem less10 (w : World) (bp g n c : Nat) (x y : Int) (w0 : World) (h : Hp w0 w bp g n c x y) (hn : n = 2) :
    Calls Tryd.prog 83 #[.slice (some ⟨g, 0, none⟩) n c, .int .i64 1, .int .i64 0] w fun e w' => e = .returned (.bool (decide (y < x))) ∧ Hp w0 w' bp g n c x y := by
  subst hn
  have hx := h.hx; have hy := h.hy
  go_enter Tryd.func83, Tryd.ntmps83
  go_wp2
  go_quiet (fail)
  go_wp2
  go_ret
  exact ⟨rfl, h.drewN _⟩
theorem swap01 (w : World) (bp g n c : Nat) (x y : Int) (w0 : World) (h : Hp w0 w bp g n c x y) (hn : n = 2) :
    Calls Tryd.prog 84 #[.slice (some ⟨g, 0, none⟩) n c, .int .i64 0, .int .i64 1] w fun e w' => e = .returned (.tuple #[]) ∧ Hp w0 w' bp g n c y x := by
  subst hn
  have hx := h.hx; have hy := h.hy; have hxf := h.hxf; have hyf := h.hyf
  go_enter Tryd.func84, Tryd.ntmps84
  go_wp2
  go_region
  all_goals (go_end0; exact ⟨rfl, h.swap.drew⟩)
theorem swap00 (w : World) (bp g n c : Nat) (x y : Int) (w0 : World) (h : Hp w0 w bp g n c x y) (hn : n = 1) :
    Calls Tryd.prog 84 #[.slice (some ⟨g, 0, none⟩) n c, .int .i64 0, .int .i64 0] w fun e w' => e = .returned (.tuple #[]) ∧ Hp w0 w' bp g n c x y := by
  subst hn
  have hx := h.hx; have hxf := h.hxf
  go_enter Tryd.func84, Tryd.ntmps84
  go_wp2
  go_region
  all_goals (go_end0; exact ⟨rfl, h.swap0.drew⟩)
theorem len_any (w : World) (A : Option Addr) (n c : Nat) : Calls Tryd.prog 30 #[.slice A n c] w fun e w' => e = .returned (.int .i64 n) ∧ w = w' := by
  go_enter Tryd.func30, Tryd.ntmps30
  go_wp2
  go_ret
  exact ⟨rfl, rfl⟩
theorem down_stop (w : World) (v : Value) (n : Int) (h0 : 0 ≤ n) (h1 : n ≤ 1) :
    Calls Tryd.prog 45 #[v, .int .i64 0, .int .i64 n] w fun e w' => e = .returned (.bool false) ∧ w = w' := by
  go_enter Tryd.func45, Tryd.ntmps45
  go_wp2
  refine wp_loop_rounds 1 ?_
  rw [rounds_succ]
  go_wp2
  go_ret
  exact ⟨rfl, rfl⟩
theorem down_two (w : World) (bp g c : Nat) (x y : Int) (w0 : World) (h : Hp w0 w bp g 2 c x y) (hxy : x ≤ y) :
    Calls Tryd.prog 45 #[.iface 62 (.pointer (some ⟨bp, 0, none⟩)), .int .i64 0, .int .i64 2] w fun e w' => e = .returned (.bool false) ∧ Hp w0 w' bp g 2 c x y := by
  have hm := m_via 83 "Less" (by kernel_rfl) ⟨bp, 0, none⟩ w _ h.hb
  have hd : decide (y < x) = false := by simp; omega
  have hL := less10 w bp g 2 c x y w0 h rfl
  rw [hd] at hL
  have HL := Lib.hid hL
  clear hL
  go_enter Tryd.func45, Tryd.ntmps45
  go_wp2
  refine wp_loop_rounds 1 ?_
  rw [rounds_succ]
  go_wp2_with (go_at_call 83; refine HL.out.mono ?_; rintro e w1 ⟨rfl, hh⟩)
  go_ret
  exact ⟨rfl, hh⟩
theorem init_two (w : World) (bp g c : Nat) (x y : Int) (w0 : World) (h : Hp w0 w bp g 2 c x y) (hxy : x ≤ y) :
    Calls Tryd.prog 29 #[.iface 62 (.pointer (some ⟨bp, 0, none⟩))] w fun e w' => e = .returned (.tuple #[]) ∧ Hp w0 w' bp g 2 c x y := by
  have hm := m_via 30 "Len" (by kernel_rfl) ⟨bp, 0, none⟩ w _ h.hb
  go_enter Tryd.func29, Tryd.ntmps29
  go_wp2_with (go_at_call 30; refine (len_any _ _ _ _).mono ?_; rintro e w1 ⟨rfl, rfl⟩)
  refine wp_loop_rounds 2 ?_
  rw [rounds_succ]
  go_wp2_with (go_at_call 45; refine (down_two _ _ _ _ _ _ _ h hxy).mono ?_; rintro e w1 ⟨rfl, hh⟩)
  rw [rounds_succ]
  go_wp2
  go_end0
  exact ⟨rfl, hh⟩
theorem Hp.cut {w0 w : World} {bp g n c m : Nat} {x y : Int} (h : Hp w0 w bp g n c x y) : Hp w0 (w.setCell ⟨bp, 0, none⟩ (.slice (some ⟨g, 0, none⟩) m c)) bp g m c x y := by
  have hne := h.ne
  exact ⟨World.cell?_setCell_same _ _ _ h.hb, by simpa using h.hbf, by rw [sc_far _ _ _ _ _ _ hne]; exact h.hx, by rw [sc_far _ _ _ _ _ _ hne]; exact h.hy, by simpa using h.hxf, by simpa using h.hyf, h.ne, h.lbp, h.lg, h.bel.setCell h.lbp _⟩
theorem pop2 (w : World) (bp g c : Nat) (x y : Int) (w0 : World) (h : Hp w0 w bp g 2 c x y) (hc : 2 ≤ c) :
    Calls Tryd.prog 85 #[.pointer (some ⟨bp, 0, none⟩)] w fun e w' => e = .returned (.iface 3 (.int .i64 y)) ∧ Hp w0 w' bp g 1 c x y := by
  have hb := h.hb; have hbf := h.hbf; have hy := h.hy
  go_enter Tryd.func85, Tryd.ntmps85
  go_wp2
  go_ret
  exact ⟨rfl, h.cut⟩
theorem pop1 (w : World) (bp g c : Nat) (x y : Int) (w0 : World) (h : Hp w0 w bp g 1 c x y) (hc : 2 ≤ c) :
    Calls Tryd.prog 85 #[.pointer (some ⟨bp, 0, none⟩)] w fun e w' => e = .returned (.iface 3 (.int .i64 x)) ∧ Hp w0 w' bp g 0 c x y := by
  have hb := h.hb; have hbf := h.hbf; have hx := h.hx
  go_enter Tryd.func85, Tryd.ntmps85
  go_wp2
  go_ret
  exact ⟨rfl, h.cut⟩
theorem heappop2 (w : World) (bp g c : Nat) (x y : Int) (w0 : World) (h : Hp w0 w bp g 2 c x y) (hc : 2 ≤ c) :
    Calls Tryd.prog 31 #[.iface 62 (.pointer (some ⟨bp, 0, none⟩))] w fun e w' => e = .returned (.iface 3 (.int .i64 x)) ∧ Hp w0 w' bp g 1 c y x := by
  have hm := m_via 30 "Len" (by kernel_rfl) ⟨bp, 0, none⟩ w _ h.hb
  have hm2 := m_via 84 "Swap" (by kernel_rfl) ⟨bp, 0, none⟩ w _ h.hb
  have hm3 : ∀ w, (method 217 62 (.pointer (some ⟨bp, 0, none⟩)) "Pop").run Tryd.prog w = .ok (85, .pointer (some ⟨bp, 0, none⟩)) w := fun w => m_pop _ w
  go_enter Tryd.func31, Tryd.ntmps31
  go_wp2_with fail
  refine (len_any _ _ _ _).mono ?_
  rintro e w1 ⟨rfl, rfl⟩
  go_wp2_with fail
  refine (swap01 _ _ _ _ _ _ _ _ h rfl).mono ?_
  rintro e w1 ⟨rfl, h1⟩
  go_wp2_with fail
  refine (down_stop _ _ _ (by omega) (by omega)).mono ?_
  rintro e w2 ⟨rfl, rfl⟩
  go_wp2_with fail
  refine (pop2 _ _ _ _ _ _ _ h1 hc).mono ?_
  rintro e w2 ⟨rfl, h2⟩
  go_wp2_with fail
  go_ret
  exact ⟨rfl, h2⟩
theorem heappop1 (w : World) (bp g c : Nat) (x y : Int) (w0 : World) (h : Hp w0 w bp g 1 c x y) (hc : 2 ≤ c) :
    Calls Tryd.prog 31 #[.iface 62 (.pointer (some ⟨bp, 0, none⟩))] w fun e w' => e = .returned (.iface 3 (.int .i64 x)) ∧ Hp w0 w' bp g 0 c x y := by
  have hm := m_via 30 "Len" (by kernel_rfl) ⟨bp, 0, none⟩ w _ h.hb
  have hm2 := m_via 84 "Swap" (by kernel_rfl) ⟨bp, 0, none⟩ w _ h.hb
  have hm3 : ∀ w, (method 217 62 (.pointer (some ⟨bp, 0, none⟩)) "Pop").run Tryd.prog w = .ok (85, .pointer (some ⟨bp, 0, none⟩)) w := fun w => m_pop _ w
  go_enter Tryd.func31, Tryd.ntmps31
  go_wp2_with fail
  refine (len_any _ _ _ _).mono ?_
  rintro e w1 ⟨rfl, rfl⟩
  go_wp2_with fail
  refine (swap00 _ _ _ _ _ _ _ _ h rfl).mono ?_
  rintro e w1 ⟨rfl, h1⟩
  go_wp2_with fail
  refine (down_stop _ _ _ (by omega) (by omega)).mono ?_
  rintro e w2 ⟨rfl, rfl⟩
  go_wp2_with fail
  refine (pop1 _ _ _ _ _ _ _ h1 hc).mono ?_
  rintro e w2 ⟨rfl, h2⟩
  go_wp2_with fail
  go_ret
  exact ⟨rfl, h2⟩

theorem below_bytesWorld (w : World) (e : TypeId) (s : ByteArray) : Below w.heap.size w (Lib.bytesWorld w e s) :=
  ⟨rfl, rfl, rfl, by rw [Lib.bytesWorld_size]; omega, fun i hi => Lib.bytesWorld_at_old w e s i hi⟩

def short_Hash.f (a0 : ByteArray) : Option Int := if a0 = ⟨#[97]⟩ then some 3826002220 else none
set_option maxRecDepth 100000 in
set_option maxHeartbeats 1000000 in
theorem short_Hash.calls (a0 : ByteArray) (r : Int) (w : World) (h : short_Hash.f a0 = some r) :
    Calls Tryd.prog 16 #[.string a0] w fun e w' => e = .returned (.int .u32 r) ∧ Below w.heap.size w w' := by
  unfold short_Hash.f at h
  split at h
  · rename_i h0
    subst h0
    obtain rfl : (3826002220 : Int) = r := by simpa using h
    clear h
    have kc := fun (w : World) (s : ByteArray) => Lib.run_convert_string_bytes (P := Tryd.prog) w 9 49 5 s Tryd.underlying9 Tryd.underlying49 Tryd.underlying5
    go_enter Tryd.func16, Tryd.ntmps16
    go_wp2_with fail
    have hcell : (Lib.bytesWorld w 5 ⟨#[97]⟩).cell? ⟨w.heap.size, 0, none⟩ = some (.int .u8 97) := Lib.bytesWorld_cell w 5 ⟨#[97]⟩ 0 (by decide)
    have hb := below_bytesWorld w 5 ⟨#[97]⟩
    generalize Lib.bytesWorld w 5 ⟨#[97]⟩ = w1 at *
    refine wp_loop_rounds 2 ?_
    rw [rounds_succ]
    go_wp2
    rw [rounds_succ]
    go_wp2
    go_ret
    exact ⟨by rfl, hb⟩
  · cases h
set_option maxRecDepth 100000 in
set_option maxHeartbeats 1000000 in
theorem free13 (ad : Addr) (c0 : Nat) (w : World) (hk0 : w.cell? ad = some (.int .i64 1)) (hk1 : w.cell? ⟨ad.block, ad.off + 1, none⟩ = some (.int .i64 3)) :
    Calls Tryd.prog 17 #[.slice (some ad) 2 c0] w fun e w' => e = .returned (.int .i64 2) ∧ Below w.heap.size w w' := by
  have hA0 : (w.alloc (.cells #[] 3)).cell? ad = some (.int .i64 1) := by
    rw [World.cell?_alloc_some _ _ _ (by rw [hk0]; rfl), hk0]
  have hA1 : (w.alloc (.cells #[] 3)).cell? ⟨ad.block, ad.off + 1, none⟩ = some (.int .i64 3) := by
    rw [World.cell?_alloc_some _ _ _ (by rw [hk1]; rfl), hk1]
  clear hk0 hk1
  go_enter Tryd.func17, Tryd.ntmps17
  go_wp2_with fail
  have hcp : 2 ≤ (Question.appendCap 2 0 3).cut (w.tape w.drawn (Question.appendCap 2 0 3)) := by
    simp [Question.cut]
  generalize (Question.appendCap 2 0 3).cut (w.tape w.drawn (Question.appendCap 2 0 3)) = cp at *
  have H : Hp w (((w.alloc (Obj.cells #[] 3)).alloc (Obj.cells (#[Value.int IntKind.i64 1, Value.int IntKind.i64 3] ++ Builtin.zeroCells #[Value.int IntKind.i64 0] (cp - 2)) 3)).alloc (Obj.cells #[Value.slice (some ⟨w.heap.size + 1, 0, none⟩) 2 cp] 60)).drew (w.heap.size + 1 + 1) (w.heap.size + 1) 2 cp 1 3 := by
    refine Hp.drew ⟨?_, ?_, ?_, ?_, ?_, ?_, by omega, by omega, by omega, ((((Below.refl _ _).alloc (Nat.le_refl _) _).alloc (by simp) _).alloc (by simp; omega) _)⟩
    all_goals simp [go_sem, Array.getElem?_append]
  generalize (((w.alloc (Obj.cells #[] 3)).alloc (Obj.cells (#[Value.int IntKind.i64 1, Value.int IntKind.i64 3] ++ Builtin.zeroCells #[Value.int IntKind.i64 0] (cp - 2)) 3)).alloc (Obj.cells #[Value.slice (some ⟨w.heap.size + 1, 0, none⟩) 2 cp] 60)).drew = W at *
  generalize w.heap.size + 1 + 1 = bp at *
  generalize w.heap.size + 1 = g at *
  refine (init_two _ _ _ _ _ _ _ H (by omega)).mono ?_
  rintro e w1 ⟨rfl, h1⟩
  go_wp2_with fail
  refine wp_loop_rounds 3 ?_
  rw [rounds_succ]
  have hb1 := h1.hb
  have hta : ∀ (x : Int) (w : World), (Instr.typeAssert (.iface 3 (.int .i64 x)) 20 3 false).run Tryd.prog w = .ok (.int .i64 x) w := fun x w => by rfl
  go_wp2_with fail
  refine (len_any _ _ _ _).mono ?_
  rintro e w2 ⟨rfl, rfl⟩
  go_wp2_with fail
  refine (heappop2 _ _ _ _ _ _ _ h1 hcp).mono ?_
  rintro e w2 ⟨rfl, h2⟩
  clear hb1
  have hb2 := h2.hb
  go_wp2_with fail
  rw [rounds_succ]
  go_wp2_with fail
  refine (len_any _ _ _ _).mono ?_
  rintro e w3 ⟨rfl, rfl⟩
  go_wp2_with fail
  refine (heappop1 _ _ _ _ _ _ _ h2 hcp).mono ?_
  rintro e w3 ⟨rfl, h3⟩
  clear hb2
  have hb3 := h3.hb
  go_wp2_with fail
  rw [rounds_succ]
  go_wp2_with fail
  refine (len_any _ _ _ _).mono ?_
  rintro e w4 ⟨rfl, rfl⟩
  go_wp2_with fail
  go_ret
  exact ⟨rfl, h3.bel⟩
end Go.Proofs.YtekepdcejoibpaaDoor
