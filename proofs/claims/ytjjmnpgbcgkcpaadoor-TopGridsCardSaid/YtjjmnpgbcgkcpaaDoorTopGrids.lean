/-
  The statement TopGrids: the write system of a grid of up to three rows and three columns is the dual of its read system, they cross, the least read set and the least write set are as told; for every two numbers; conditions: none beyond the row's own (one table of the library is laid as the program's text lays it).
-/
import Derived.Test.YtjjmnpgbcgkcpaaDoorRows
import Derived.Test.YtjjmnpgbcgkcpaaDoorCards
import Derived.Test.YtjjmnpgbcgkcpaaDoorTie
import Derived.Test.YtjjmnpgbcgkcpaaDoorGridWalk
import Derived.OpenShut
import Derived.ProofKit
import Derived.Below
import Derived.ShutString
import Derived.ChangeOld
import Derived.LaidLaws
import Derived.LaidHandle
import Derived.Lay
import Derived.Handed
import Derived.JoinedOf
import Derived.RowKitTokens
import Derived.SevenTiedAt
import Derived.MakeChecks
import Derived.LaidMore
import Derived.Stop.Joined
set_option linter.unusedVariables false
namespace Go.Proofs.YtjjmnpgbcgkcpaaDoor.topGrids
open Go.ChangeShapes Go.WideShapes Go.ChangeAt Go.RowKit
open Go.ChangeMaps (open_string shut_string)

theorem tab_of {W : World} (h : laidMetH Tryd.prog Rows.topGridsRow.laid W) : Tab W := by
  intro r hr
  rw [MakeChecks.laidMetH_plain _ _ _ (by kernel_rfl)] at h
  obtain ⟨ps, ⟨g, t, cs, fuel, p, q, hg, ht, hv, hd, _, _⟩, _, _⟩ := h
  obtain rfl := Option.some.inj ((show Tryd.prog.globalNamed "math/bits.deBruijn32tab" = some 0 by kernel_rfl).symm.trans hg)
  obtain rfl := Option.some.inj ((show (Tryd.prog.globals[0]?).map (·.type) = some 77 by kernel_rfl).symm.trans ht)
  obtain ⟨xs, m, _, ex, _, hl, hel⟩ := DataW.trod_array Tryd.underlying77 hd
  have c5 : Tryd.prog.cellsOf 5 = 1 := by kernel_rfl
  have hE := hel r hr
  rw [c5, Nat.mul_one, List.getElem?_eq_getElem (by omega)] at hE
  obtain ⟨z, e1, e2, _⟩ := DataW.trod_int Tryd.underlying5 hE
  have hlen : T.tab.length = 32 := by kernel_rfl
  have e3 : (xs.map (·.1)) = T.tab.map fun n => .lit (.int .u8 n) := (DataW.agg.inj (Prod.mk.inj ex).1).symm
  have e4 : (xs.map (·.1))[r]? = (T.tab.map fun n => (DataW.lit (.int .u8 n) : DataW Unit))[r]? := by rw [e3]
  rw [List.getElem?_map, List.getElem?_map, List.getElem?_eq_getElem (by omega : r < xs.length), List.getElem?_eq_getElem (by omega : r < T.tab.length), e2] at e4
  have hz : z = T.tab.getD r 0 := by
    simp only [Option.map_some, Option.some.injEq, DataW.lit.injEq, Lit.int.injEq, true_and] at e4
    rw [e4, List.getD, List.getElem?_eq_getElem (by omega : r < T.tab.length)]; rfl
  rw [World.var?_cell hg hv r, ← hz]
  have : cs.toList[r]? = some (.int .u8 z) := by
    have h0 : ((cs.toList.drop r).take 1)[0]? = some (.int .u8 z) := by rw [e1]; rfl
    simpa using h0
  simpa using this

theorem walk (x y : Int) (w : World) (hx : (Lit.int .u8 x).wf = true) (hy : (Lit.int .u8 y).wf = true) (hT : Tab w) :
    Calls Tryd.prog 3 #[.int .u8 x, .int .u8 y] w fun e w' => e = .returned (.bool true) ∧ Below w.heap.size w w' := by
  have fi : ∀ z : Int, (Lit.int .u8 z).wf = true → 0 ≤ z := fun z hz => by
    have h : (0 ≤ z ∧ z ≤ 255) := by simpa [Lit.wf, IntKind.min, IntKind.max, IntKind.signed, IntKind.bits] using hz
    exact h.1
  exact topGrids_any x y w (fi x hx) (fi y hy) hT


theorem own : ownKnob Tryd.prog.godebug = none := by kernel_rfl
theorem laidOut : laidOutB Tryd.prog = true := by kernel_rfl

set_option maxRecDepth 100000 in
theorem lifted (os : Os) (started : os.Started) (H : Type) (enc : TypeId × Value → H) :
    ReturnsInHanded {} Tryd.checked os 3 .any (fun w args => (Rows.topGridsSpec.pre enc Tryd.prog Tryd.f3 Rows.topGridsRow.domain false w args ∧ laidMetH Tryd.prog Rows.topGridsRow.laid w) ∧ sizedMet enc Tryd.prog Tryd.f3 (OpenSpec.ofChange Rows.topGridsSpec) false w args) (Rows.topGridsSpec.post enc Tryd.prog Tryd.f3 false true false false) := by
  refine returnsInHanded_of_change_and (C := Tryd.checked) (X := fun w _ => laidMetH Tryd.prog Rows.topGridsRow.laid w) (fun _ _ _ hh h => h.of_heap hh) own started (by kernel_rfl) Tryd.func3
    (ChangeSpec.witness_shaped (enc := enc) (C := Tryd.checked) (os := os) (X := fun w _ => laidMetH Tryd.prog Rows.topGridsRow.laid w) false (World.laidAll Tryd.prog os Rows.topGridsRow.laid) #[.int .u8 0, .int .u8 0] 8 (World.laidAll_os _ _ _)
      (World.shaped_of_ZipB (by kernel_rfl) (by kernel_rfl)) (by kernel_rfl) (by kernel_rfl) (by kernel_rfl)
      (by rw [MakeChecks.laidMetH_plain _ _ _ (by kernel_rfl)]; exact laidMet_laidAll _ (by kernel_rfl) (by kernel_rfl))) ?_
  intro W base args ds gs before hval0 hW hcnd _ hL _
  have hval : ∀ (j : Nat) t v, Tryd.f3.params[j]? = some t → args[j]? = some v → Value.okWide Tryd.prog W .any base t v := hval0
  have hW' := hW
  obtain ⟨p, q, hA0, hV, rfl, hfz, hnd⟩ := hW
  have hA : DataW.TrodAll enc Tryd.prog W 0 (fun _ => true) true Tryd.f3.params.toList args.toList ds p := hA0
  rw [Tryd.params3] at hA hval
  obtain ⟨v0, vs0, d0, ds0, p0, q0, hargs, rfl, rfl, h0, r0⟩ := trodAll_cons hA
  obtain ⟨v1, vs1, d1, ds1, p1, q1, rfl, rfl, rfl, h1, r1⟩ := trodAll_cons r0
  obtain ⟨rfl, rfl, rfl⟩ := trodAll_nil r1
  obtain rfl : args = #[v0, v1] := by cases args; simp_all
  obtain ⟨rfl, rfl⟩ := trodVars_none hV
  obtain ⟨a0, rfl, rfl, rfl, w0⟩ := open_int Tryd.underlying5 (hval 0 5 v0 rfl rfl) h0
  obtain ⟨a1, rfl, rfl, rfl, w1⟩ := open_int Tryd.underlying5 (hval 1 5 v1 rfl rfl) h1
  clear hA0 hval0
  refine (walk a0 a1 W w0 w1 (tab_of hL)).mono fun e W' ⟨he, bel⟩ => ?_
  subst he
  exact ⟨_, rfl, _, _, _, [], _, [], hW', trodAll_mk1 (shut_bool Tryd.underlying4 _), (trodAll_cons_mk (shut_int Tryd.underlying5 w0) (trodAll_cons_mk (shut_int Tryd.underlying5 w1) trodAll_mk0)), rfl, bel.frame _, fun h => by cases h⟩

theorem over : Rows.topGridsRow.holds Tryd.pinned (OpenSpec.ofChange Rows.topGridsSpec) :=
  OpenClaim.holds_of_wide 3 Tryd.f3 rfl rfl rfl rfl rfl rfl rfl ⟨rfl, rfl, rfl, rfl, rfl⟩ rfl rfl rfl rfl rfl (by kernel_rfl) Tryd.func3 (by kernel_rfl)
    (of_decide_eq_true (by kernel_rfl)) (by unfold Func.isWrapper; first | (rw [if_pos (by decide +kernel)]; kernel_rfl) | (rw [if_neg (by decide +kernel)]; exact ⟨rfl, rfl⟩))
    (fun os started H enc _ => lifted os started H enc)

/-- the statement: the card -/
theorem proved : Rows.TopGridsCardSaid :=
  Claim7.holds_tied_plain_at .later [] [.data] true (true, "d981a60d7baf6a90e66935ad44786ab51cd59e9a6f74fb02523dfef8f6e9cda2") false over (fun _ h => by cases h) (by kernel_rfl) (fun _ h => by cases h) topGrids_row_tie rfl ⟨rfl, rfl⟩ (by kernel_rfl) rfl
    (fun f fn hf hfn => by
      obtain rfl : f = 3 := Option.some.inj ((show Tryd.prog.funcNamed "sederunt/sederunttop.TopGrids" = some 3 by kernel_rfl).symm.trans hf) |>.symm
      obtain rfl : fn = Tryd.f3 := (Option.some.inj (Tryd.func3.symm.trans hfn)).symm
      refine ⟨by kernel_rfl, fun j t ht => ?_⟩
      rw [Tryd.params3] at ht
      rcases j with _ | j
      · obtain rfl : t = 5 := by simpa using ht.symm
        exact (show Tryd.prog.wantsStandIn 5 = false by kernel_rfl)
      rcases j with _ | j
      · obtain rfl : t = 5 := by simpa using ht.symm
        exact (show Tryd.prog.wantsStandIn 5 = false by kernel_rfl)
      simp at ht
      )
    (by kernel_rfl)
#print axioms proved
end Go.Proofs.YtjjmnpgbcgkcpaaDoor.topGrids
