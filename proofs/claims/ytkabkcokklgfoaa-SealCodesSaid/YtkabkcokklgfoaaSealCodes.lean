/-
  The statement SealCodes: Encode returns the reference's encoding of every signed statement with texts of at most 100 bytes, and Decode restores it; conditions: none beyond the row's own.
-/
import Derived.Test.YtkabkcokklgfoaaRows
import Derived.Test.YtkabkcokklgfoaaSealLive
import Derived.Test.YtkabkcokklgfoaaRefDecode
import Derived.Test.YtkabkcokklgfoaaEncode
import Derived.OpenShut
import Derived.ProofKit
import Derived.Below
import Derived.ShutString
import Derived.ChangeOld
set_option linter.unusedVariables false
namespace Go.Proofs.Ytkabkcokklgfoaa.sealCodes
open Go.ChangeShapes Go.WideShapes Go.ChangeAt Go.RowKit
open Go.ChangeMaps (open_string shut_string)

/-- a signed statement that came in -/
def IsSigned (w : World) (v : Value) (x : (Int × Int × Int × Int) × ByteArray × ByteArray) : Prop :=
  v = .agg (sg x.1.1 x.1.2.1 x.1.2.2.1 x.1.2.2.2 x.2.1 x.2.2).toArray ∧ Fits [x.1.1, x.1.2.1, x.1.2.2.1, x.1.2.2.2] ∧ x.2.1.size ≤ maxLen ∧ x.2.2.size ≤ maxLen

theorem fits_int {z : Int} (h : (Lit.int .i64 z).wf = true) : -9223372036854775808 ≤ z ∧ z ≤ 9223372036854775807 := by
  simpa [Lit.wf, IntKind.min, IntKind.max, IntKind.signed, IntKind.bits] using h

theorem openSigned {H : Type} {enc : TypeId × Value → H} {W : World} {base : Nat} {v : Value} {d : DataW H} {p : List MemPlace} (hv : Value.okWide Try.prog W .any base 24 v)
    (h : DataW.Trod enc Try.prog W 0 (fun _ => true) true 24 v d p) : ∃ x : (Int × Int × Int × Int) × ByteArray × ByteArray, IsSigned W v x := by
  obtain ⟨fuel, hf⟩ := h
  obtain ⟨xs, n, _, _, hl, hxl, hx⟩ := DataW.trod_struct Try.underlying24 hf
  rw [show Try.prog.cellsOf 24 = 6 by kernel_rfl] at hl
  have c1 : Try.prog.cellsOf 3 = 1 := by kernel_rfl
  have c2 : Try.prog.cellsOf 9 = 1 := by kernel_rfl
  have x0 : DataW.trod enc Try.prog W 0 (fun _ => true) true n 3 ((v.cells.toList.drop 0).take (Try.prog.cellsOf 3)) = xs[0]? := hx 0 _ rfl
  have x1 : DataW.trod enc Try.prog W 0 (fun _ => true) true n 3 ((v.cells.toList.drop 1).take (Try.prog.cellsOf 3)) = xs[1]? := hx 1 _ rfl
  have x2 : DataW.trod enc Try.prog W 0 (fun _ => true) true n 3 ((v.cells.toList.drop 2).take (Try.prog.cellsOf 3)) = xs[2]? := hx 2 _ rfl
  have x3 : DataW.trod enc Try.prog W 0 (fun _ => true) true n 3 ((v.cells.toList.drop 3).take (Try.prog.cellsOf 3)) = xs[3]? := hx 3 _ rfl
  have x4 : DataW.trod enc Try.prog W 0 (fun _ => true) true n 9 ((v.cells.toList.drop 4).take (Try.prog.cellsOf 9)) = xs[4]? := hx 4 _ rfl
  have x5 : DataW.trod enc Try.prog W 0 (fun _ => true) true n 9 ((v.cells.toList.drop 5).take (Try.prog.cellsOf 9)) = xs[5]? := hx 5 _ rfl
  have hxl6 : xs.length = 6 := hxl
  rw [c1] at x0 x1 x2 x3
  rw [c2] at x4 x5
  rw [List.getElem?_eq_getElem (by omega)] at x0 x1 x2 x3 x4 x5
  have ag : ∃ cs, v = .agg cs := by
    cases v with
    | agg cs => exact ⟨cs, rfl⟩
    | _ => simp [Value.cells] at hl
  obtain ⟨cs, rfl⟩ := ag
  have hcs : (Value.agg cs).cells.toList = cs.toList := rfl
  rw [hcs] at hl x0 x1 x2 x3 x4 x5
  obtain ⟨l, hlc⟩ : ∃ l, cs.toList = l := ⟨_, rfl⟩
  rw [hlc] at hl x0 x1 x2 x3 x4 x5
  match l, hl with
  | [v0, v1, v2, v3, v4, v5], _ =>
    obtain ⟨z0, e0, _, w0⟩ := DataW.trod_int Try.underlying3 x0
    obtain ⟨z1, e1, _, w1⟩ := DataW.trod_int Try.underlying3 x1
    obtain ⟨z2, e2, _, w2⟩ := DataW.trod_int Try.underlying3 x2
    obtain ⟨z3, e3, _, w3⟩ := DataW.trod_int Try.underlying3 x3
    obtain ⟨s4, e4, _, w4⟩ := DataW.trod_string Try.underlying9 x4
    obtain ⟨s5, e5, _, w5⟩ := DataW.trod_string Try.underlying9 x5
    simp at e0 e1 e2 e3 e4 e5
    subst e0 e1 e2 e3 e4 e5
    refine ⟨((z0, z1, z2, z3), s4, s5), ?_, ?_, w4, w5⟩
    · have : cs = (sg z0 z1 z2 z3 s4 s5).toArray := by
        apply Array.ext'
        rw [hlc]
      rw [this]
    · intro y hy
      simp at hy
      rcases hy with rfl | rfl | rfl | rfl
      · exact fits_int w0
      · exact fits_int w1
      · exact fits_int w2
      · exact fits_int w3

theorem dec_code (a k v n : Int) (d s : ByteArray) (hf : Fits [a, k, v, n]) (hd : d.size ≤ 1000000) (hs : s.size ≤ 1000000) : dec (code a k v n d s) = some (a, k, v, n, L d, L s) := by
  have e : code a k v n d s = V.putInts [a, k, v, n] ++ (V.putStr (L d) ++ V.putStr (L s)) := by unfold code cont; rw [List.append_assoc]
  have hld : (L d).length = d.size := Array.length_toList
  have hls : (L s).length = s.size := Array.length_toList
  have h1 := V.getInts_putInts [a, k, v, n] (V.putStr (L d) ++ V.putStr (L s)) (by simp) hf
  have g1 := V.getStr_putStr (L d) (V.putStr (L s)) (by omega)
  have g2 := V.getStr_putStr (L s) [] (by omega)
  rw [List.append_nil] at g2
  rw [e, dec_four _ a k v n _ h1, List.drop_left]
  have ht := V.two_end (V.putStr (L d) ++ V.putStr (L s)) (L d) (L s) (V.putStr (L d)).length (V.putStr (L s)).length g1 (by rw [List.drop_left]; exact g2)
  rw [List.drop_left, List.drop_length, if_pos rfl] at ht
  rw [ht]
  rfl

set_option maxRecDepth 100000 in
set_option maxHeartbeats 1000000 in
theorem walk (val : Value) (x : (Int × Int × Int × Int) × ByteArray × ByteArray) (w : World) (hx : IsSigned w val x) :
    Calls Try.prog 4 #[val] w fun e w' => e = .returned (.bool true) ∧ Below w.heap.size w w' := by
  obtain ⟨⟨a, k, v, n⟩, d, s⟩ := x
  obtain ⟨rfl, hf, w0, w1⟩ := hx
  simp only at hf w0 w1 ⊢
  unfold maxLen at w0 w1
  by_cases hsz : d.size ≤ 100 ∧ s.size ≤ 100
  · obtain ⟨hd, hs⟩ := hsz
    have hd1 : (d.size : Int) ≤ 100 := by omega
    have hs1 : (s.size : Int) ≤ 100 := by omega
    have hcl : (S (code a k v n d s)).size ≤ 1000 := by
      rw [S_size]; unfold code; rw [List.length_append]
      have := cont_length a k v n d
      have := putStr_length s
      omega
    have P := fun u => encode_any a k v n d s u hf (by omega) (by omega)
    have R := fun u => refEncode_any a k v n d s u hf (by omega) (by omega)
    have Q0 := fun u => decode_any (S (code a k v n d s)) u (by omega)
    rw [L_S, dec_code a k v n d s hf (by omega) (by omega)] at Q0
    have Q : ∀ u, Calls Try.prog 6 #[.string (S (code a k v n d s))] u fun e w' => e = .returned (.tuple #[.agg (sg a k v n d s).toArray, .int .i64 0]) ∧ Below u.heap.size u w' := Q0
    generalize S (code a k v n d s) = c at P Q R
    clear Q0 hcl hf w0 w1
    go_enter Try.func4, Try.ntmps4
    go_upto_region 1 with fail
    generalize hw1 : w.alloc _ = w1
    have hX : Blk w.heap.size (sg a k v n d s) 24 w1 := by rw [← hw1]; exact Blk.new _ _ w
    have hB : Below w.heap.size w w1 := by rw [← hw1]; exact (Below.refl _ w).alloc (Nat.le_refl _) _
    clear hw1
    obtain ⟨g, hg⟩ : ∃ g, w.heap.size = g := ⟨_, rfl⟩
    rw [hg] at hX ⊢
    go_wp2_with fail
    refine (sealAwake_any w1).mono ?_
    rintro e w2 ⟨rfl, k2⟩
    have hX2 := hX.keep k2
    have hB2 := hB.trans (k2.mono hB.size)
    clear hX hB k2
    obtain ⟨c0, c1, c2, c3, c4, c5⟩ := sg_at hX2
    go_wp2_with fail
    refine (P _).mono ?_
    rintro e w3 ⟨rfl, k3⟩
    have hX3 := hX2.keep k3
    have hB3 := hB2.trans (k3.mono hB2.size)
    clear hX2 hB2 k3 c0 c1 c2 c3 c4 c5
    go_wp2_with fail
    refine (Q _).mono ?_
    rintro e w4 ⟨rfl, k4⟩
    have hX4 := hX3.keep k4
    have hB4 := hB3.trans (k4.mono hB3.size)
    clear hX3 hB3 k4
    go_upto_region 5 with fail
    generalize hw5 : w4.alloc _ = w5
    have hY5 : Blk w4.heap.size (sg a k v n d s) 24 w5 := by rw [← hw5]; exact Blk.new _ _ w4
    have hX5 : Blk g (sg a k v n d s) 24 w5 := by rw [← hw5]; exact hX4.alloc _
    have hB5 : Below w.heap.size w w5 := by rw [← hw5]; exact hB4.alloc hB4.size _
    clear hw5 hX4 hB4
    generalize w4.heap.size = g2 at hY5 ⊢
    obtain ⟨c0, c1, c2, c3, c4, c5⟩ := sg_at hX5
    go_wp2_with fail
    refine (R _).mono ?_
    rintro e w6 ⟨rfl, k6⟩
    have hX6 := hX5.keep k6
    have hY6 := hY5.keep k6
    have hB6 := hB5.trans (k6.mono hB5.size)
    clear hX5 hY5 hB5 k6 c0 c1 c2 c3 c4 c5
    obtain ⟨c0, c1, c2, c3, c4, c5⟩ := sg_at hX6
    obtain ⟨e0, e1, e2, e3, e4, e5⟩ := sg_at hY6
    go_wp2_with fail
    go_ret
    exact ⟨rfl, hB6⟩
  · have ht : (decide ((100 : Int) < d.size) || decide ((100 : Int) < s.size)) = true := by
      rw [Bool.or_eq_true, decide_eq_true_eq, decide_eq_true_eq]; omega
    go_enter Try.func4, Try.ntmps4
    go_upto_region 1 with fail
    generalize hw1 : w.alloc _ = w1
    have hX : Blk w.heap.size (sg a k v n d s) 24 w1 := by rw [← hw1]; exact Blk.new _ _ w
    have hB : Below w.heap.size w w1 := by rw [← hw1]; exact (Below.refl _ w).alloc (Nat.le_refl _) _
    clear hw1
    obtain ⟨g, hg⟩ : ∃ g, w.heap.size = g := ⟨_, rfl⟩
    rw [hg] at hX ⊢
    go_wp2_with fail
    refine (sealAwake_any w1).mono ?_
    rintro e w2 ⟨rfl, k2⟩
    have hX2 := hX.keep k2
    have hB2 := hB.trans (k2.mono hB.size)
    clear hX hB k2
    obtain ⟨c0, c1, c2, c3, c4, c5⟩ := sg_at hX2
    by_cases h1 : (100 : Int) < d.size
    · go_wp2_with fail
      refine (sealAwake_any w2).mono ?_
      rintro e w3 ⟨rfl, k3⟩
      go_wp2_with fail
      go_ret
      exact ⟨rfl, hB2.trans (k3.mono hB2.size)⟩
    · have h2 : (100 : Int) < s.size := by omega
      go_wp2_with fail
      refine (sealAwake_any w2).mono ?_
      rintro e w3 ⟨rfl, k3⟩
      go_wp2_with fail
      go_ret
      exact ⟨rfl, hB2.trans (k3.mono hB2.size)⟩


theorem own : ownKnob Try.prog.godebug = none := by kernel_rfl
theorem laidOut : laidOutB Try.prog = true := by kernel_rfl

set_option maxRecDepth 100000 in
theorem lifted (os : Os) (started : os.Started) (H : Type) (enc : TypeId × Value → H) :
    ReturnsInHanded {} Try.checked os 4 .any (Rows.sealCodesSpec.pre6 enc Try.prog Try.f4 Rows.sealCodesRow.domain false) (Rows.sealCodesSpec.post enc Try.prog Try.f4 false true false false) := by
  refine returnsInHanded_of_change (C := Try.checked) own started (by kernel_rfl) Try.func4
    (ChangeSpec.witness6 (enc := enc) (C := Try.checked) false ⟨#[], #[.agg #[.int .i64 0, .int .i64 0, .int .i64 0, .int .i64 0, .string ByteArray.empty, .string ByteArray.empty]], []⟩ 8 (by kernel_rfl) (by kernel_rfl) (by kernel_rfl) (by kernel_rfl)) ?_
  intro W base args ds gs before hval0 hW hcnd _
  have hval : ∀ (j : Nat) t v, Try.f4.params[j]? = some t → args[j]? = some v → Value.okWide Try.prog W .any base t v := hval0
  have hW' := hW
  obtain ⟨p, q, hA0, hV, rfl, hfz, hnd⟩ := hW
  have hA : DataW.TrodAll enc Try.prog W 0 (fun _ => true) true Try.f4.params.toList args.toList ds p := hA0
  rw [Try.params4] at hA hval
  obtain ⟨v0, vs0, d0, ds0, p0, q0, hargs, rfl, rfl, h0, r0⟩ := trodAll_cons hA
  obtain ⟨rfl, rfl, rfl⟩ := trodAll_nil r0
  obtain rfl : args = #[v0] := by cases args; simp_all
  obtain ⟨rfl, rfl⟩ := trodVars_none hV
  have k0 := h0
  have lt0 : ∀ x ∈ p0, x.block < W.heap.size := by obtain ⟨m, hm⟩ := k0; exact DataW.trod_lt m _ _ _ hm
  obtain ⟨x0, w0⟩ := openSigned (hval 0 24 v0 rfl rfl) h0
  clear hA0 hval0
  refine (walk v0 x0 W w0).mono fun e W' ⟨he, bel⟩ => ?_
  subst he
  exact ⟨_, rfl, _, _, _, [], _, [], hW', trodAll_mk1 (shut_bool Try.underlying4 _), (trodAll_cons_mk (Below.trod laidOut (by kernel_rfl) (of_decide_eq_true (by kernel_rfl)) k0 bel lt0) trodAll_mk0), rfl, bel.frame _, fun h => by cases h⟩

theorem over : Rows.sealCodesRow.holds Try.pinned (OpenSpec.ofChange Rows.sealCodesSpec) :=
  OpenClaim.holds_of_wide 4 Try.f4 rfl rfl rfl rfl rfl rfl rfl ⟨rfl, rfl, rfl, rfl, rfl⟩ rfl rfl rfl rfl rfl (by kernel_rfl) Try.func4 (by kernel_rfl)
    (of_decide_eq_true (by kernel_rfl)) (by unfold Func.isWrapper; first | (rw [if_pos (by decide +kernel)]; kernel_rfl) | (rw [if_neg (by decide +kernel)]; exact ⟨rfl, rfl⟩))
    (fun os started H enc _ => lifted os started H enc)

/-- the statement -/
theorem proved : Rows.SealCodesSaid := over
#print axioms proved
end Go.Proofs.Ytkabkcokklgfoaa.sealCodes
