/-
  The statement WireGetInts: for every text, GetInts returns what the reference returns, or the same error; conditions: none beyond the row's own.
-/
import Derived.Test.YtapembonmcolhaaRows
import Derived.Test.YtapembonmcolhaaAwake
import Derived.ProofKit
import Derived.OpenShut
import Derived.ShutString
import Derived.ChangeOld
import Derived.Below
set_option linter.unusedVariables false
namespace Go.Proofs.Ytapembonmcolhaa.wireGetInts
open Go.ChangeShapes Go.WideShapes Go.ChangeAt Go.RowKit
open Go.ChangeMaps (open_string shut_string)

set_option maxRecDepth 100000 in
set_option maxHeartbeats 2000000 in
theorem walk (a0 : ByteArray) (w : World) (w0 : a0.size ≤ maxLen) :
    Calls Try.prog 8 #[.string a0] w fun e w' => e = .returned (.bool true) ∧ Below w.heap.size w w' := by
  unfold maxLen at w0
  by_cases hs : a0.size ≤ 1000
  · have G := fun w => getInts_any a0 w (by omega)
    have R := fun w => refGetInts_any a0 w (by omega)
    have hlen : (V.getInts (L a0)).1.length ≤ 1000 := by
      have h := V.getListOf_bound V.getInt V.getInt_part (L a0)
      have h2 : (V.getInts (L a0)).1.length ≤ (L a0).length := by
        by_cases h0 : (V.getInts (L a0)).2.2 = 0
        · exact (h.2.1 h0).2.2
        · have := h.2.2 h0
          show (V.getListOf V.getInt (L a0)).1.length ≤ _
          rw [this]; exact Nat.zero_le _
      rw [L_length] at h2
      omega
    obtain ⟨r, hr⟩ : ∃ r, V.getInts (L a0) = r := ⟨_, rfl⟩
    rw [hr] at G R hlen
    obtain ⟨xs, k, e⟩ := r
    have HG := Lib.hid G; clear G
    have HR := Lib.hid R; clear R hr
    simp only at hlen
    go_enter Try.func8, Try.ntmps8
    go_wp2_with (go_at_call 12; refine (awake_any _).mono ?_; rintro e w1 ⟨rfl, hB⟩)
    refine (HG.out _).mono ?_
    rintro e w2 ⟨va, rfl, hoa, hB2⟩
    obtain ⟨ao, ca, rfl, hca⟩ := ownsI_cells hoa
    have hB3 := hB.trans (hB2.mono hB.size)
    have Hca := Lib.hid hca
    clear hB hB2 hca hoa
    go_wp2_with fail
    refine (HR.out _).mono ?_
    rintro e w3 ⟨vb, rfl, hob, hB4⟩
    obtain ⟨bo, cb, rfl, hcb⟩ := ownsI_cells hob
    have hB5 := hB3.trans (hB4.mono hB3.size)
    have Hca3 := Lib.hid (Hca.out.keep hB4)
    have Hcb := Lib.hid hcb
    clear hB3 hB4 hcb hob Hca
    go_wp2_with fail
    have hs := ints_any (xs) (xs) ao bo ca cb w3 (by exact Hca3.out) (by exact Hcb.out) (by omega)
    simp only [decide_true] at hs
    refine hs.mono ?_
    rintro e w4 ⟨rfl, hD⟩
    have hB6 := hB5.trans (hD.below _)
    clear hD hs
    go_wp2_with fail
    go_ret
    exact ⟨rfl, hB6⟩
  · go_enter Try.func8, Try.ntmps8
    go_wp2_with fail
    refine (awake_any _).mono ?_
    rintro e w1 ⟨rfl, hB⟩
    go_wp2_with fail
    refine (awake_any _).mono ?_
    rintro e w2 ⟨rfl, hB2⟩
    go_wp2_with fail
    go_ret
    exact ⟨rfl, hB.trans (hB2.mono hB.size)⟩

theorem own : ownKnob Try.prog.godebug = none := by kernel_rfl
theorem laidOut : laidOutB Try.prog = true := by kernel_rfl

set_option maxRecDepth 100000 in
theorem lifted (os : Os) (started : os.Started) (H : Type) (enc : TypeId × Value → H) :
    ReturnsInHanded {} Try.checked os 8 .any (Rows.wireGetIntsSpec.pre6 enc Try.prog Try.f8 Rows.wireGetIntsRow.domain false) (Rows.wireGetIntsSpec.post enc Try.prog Try.f8 false true false false) := by
  refine returnsInHanded_of_change (C := Try.checked) own started (by kernel_rfl) Try.func8
    (ChangeSpec.witness6 (enc := enc) (C := Try.checked) false ⟨#[], #[.string ByteArray.empty], []⟩ 8 (by kernel_rfl) (by kernel_rfl) (by kernel_rfl) (by kernel_rfl)) ?_
  intro W base args ds gs before hval0 hW hcnd _
  have hval : ∀ (j : Nat) t v, Try.f8.params[j]? = some t → args[j]? = some v → Value.okWide Try.prog W .any base t v := hval0
  have hW' := hW
  obtain ⟨p, q, hA0, hV, rfl, hfz, hnd⟩ := hW
  have hA : DataW.TrodAll enc Try.prog W 0 (fun _ => true) true Try.f8.params.toList args.toList ds p := hA0
  rw [Try.params8] at hA hval
  obtain ⟨v0, vs0, d0, ds0, p0, q0, hargs, rfl, rfl, h0, r0⟩ := trodAll_cons hA
  obtain ⟨rfl, rfl, rfl⟩ := trodAll_nil r0
  obtain rfl : args = #[v0] := by cases args; simp_all
  obtain ⟨rfl, rfl⟩ := trodVars_none hV
  obtain ⟨a0, rfl, rfl, rfl, w0⟩ := open_string Try.underlying9 (hval 0 9 v0 rfl rfl) h0
  clear hA0 hval0
  refine (walk a0 W w0).mono fun e W' ⟨he, bel⟩ => ?_
  subst he
  exact ⟨_, rfl, _, _, _, [], _, [], hW', trodAll_mk1 (shut_bool Try.underlying4 _), (trodAll_cons_mk (shut_string Try.underlying9 w0) trodAll_mk0), rfl, bel.frame _, fun h => by cases h⟩

theorem over : Rows.wireGetIntsRow.holds Try.pinned (OpenSpec.ofChange Rows.wireGetIntsSpec) :=
  OpenClaim.holds_of_wide 8 Try.f8 rfl rfl rfl rfl rfl rfl rfl ⟨rfl, rfl, rfl, rfl, rfl⟩ rfl rfl rfl rfl rfl (by kernel_rfl) Try.func8 (by kernel_rfl)
    (of_decide_eq_true (by kernel_rfl)) (by unfold Func.isWrapper; first | (rw [if_pos (by decide +kernel)]; kernel_rfl) | (rw [if_neg (by decide +kernel)]; exact ⟨rfl, rfl⟩))
    (fun os started H enc _ => lifted os started H enc)

/-- the statement -/
theorem proved : Rows.WireGetIntsSaid := over
#print axioms proved
end Go.Proofs.Ytapembonmcolhaa.wireGetInts
