/-
  The statement DigestApart: two hashes that are written in turn do not influence one another; conditions: none beyond the row's own.
-/
import Derived.Test.YtkhofblbifbidaaRows
import Derived.Test.YtkhofblbifbidaaDigAwake
import Derived.Test.YtkhofblbifbidaaPairs
import Derived.OpenShut
import Derived.ProofKit
import Derived.Below
import Derived.ShutString
import Derived.ChangeOld
import Derived.BigQuiet
import Derived.Deep.MidRow
set_option linter.unusedVariables false
namespace Go.Proofs.Ytkhofblbifbidaa.digestApart
open Go.ChangeShapes Go.WideShapes Go.ChangeAt Go.RowKit
open Go.ChangeMaps (open_string shut_string)

/-- the hash in block b has been given the text a -/
def HashOf (b : Nat) (a : ByteArray) (w : World) : Prop := IsHash b (D.absorb D.H0 a.data.toList).1 (D.absorb D.H0 a.data.toList).2 a.size w

theorem HashOf.lt {b : Nat} {a : ByteArray} {w : World} (h : HashOf b a w) : b < w.heap.size := h.2.lt
theorem HashOf.keep {b : Nat} {a : ByteArray} {w w' : World} (h : HashOf b a w) (hB : Below w.heap.size w w') : HashOf b a w' := IsHash.keep h hB
theorem HashOf.keeps {b c : Nat} {a : ByteArray} {w w' : World} (h : HashOf b a w) (hB : Keeps c w w') (hne : b ≠ c) : HashOf b a w' := IsHash.keeps h hB hne
theorem rest_le (a : ByteArray) : (D.absorb D.H0 a.data.toList).2.length ≤ a.size := by
  have hl : a.data.toList.length = a.size := Array.length_toList
  unfold D.absorb
  rw [D.feed_rest, List.length_drop, hl]
  omega
theorem app_list (a s : ByteArray) : (a ++ s).data.toList = a.data.toList ++ s.data.toList := by simp
theorem new_of (w : World) : Calls Try.prog 11 #[] w fun e w' => ∃ b, e = .returned (.pointer (some ⟨b, 0, none⟩)) ∧ w.heap.size ≤ b ∧ HashOf b ⟨#[]⟩ w' ∧ Below w.heap.size w w' := by
  refine (new_any w).mono ?_
  rintro e w' ⟨b, h1, h2, h3, h4⟩
  exact ⟨b, h1, h2, h3, h4⟩
theorem write_of (b : Nat) (a s : ByteArray) (w : World) (h : HashOf b a w) (hn : a.size + s.size ≤ 1000000000) :
    Calls Try.prog 12 #[.pointer (some ⟨b, 0, none⟩), .string s] w fun e w' => e = .returned (.tuple #[]) ∧ HashOf b (a ++ s) w' ∧ Keeps b w w' := by
  have hr := rest_le a
  refine (write_any b _ _ _ s w h hn (by omega)).mono ?_
  rintro e w' ⟨h1, h2, h3⟩
  rw [D.absorb_append] at h2
  refine ⟨h1, ?_, h3⟩
  unfold HashOf
  rw [app_list, ByteArray.size_append]
  exact h2
theorem sum_of (b : Nat) (a : ByteArray) (w : World) (h : HashOf b a w) (hn : a.size ≤ 100000000) :
    Calls Try.prog 13 #[.pointer (some ⟨b, 0, none⟩)] w fun e w' => e = .returned (.string (S (D.hx (D.sumAll a.data.toList) 32))) ∧ Below w.heap.size w w' := by
  have hr := rest_le a
  have hl : a.data.toList.length = a.size := Array.length_toList
  have h1 := hashSum_any b _ _ _ w h (by omega) (by omega)
  unfold D.sumAll
  rw [hl]
  exact h1

set_option maxRecDepth 100000 in
set_option maxHeartbeats 1000000 in
theorem walk (v : Value) (x : Option Addr × Nat × List (ByteArray × ByteArray)) (w : World) (hx : IsPairs w v x) :
    Calls Try.prog 6 #[v] w fun e w' => e = .returned (.bool true) ∧ Below w.heap.size w w' := by
  obtain ⟨ao, cap, xs⟩ := x
  obtain ⟨hv, hlm, hx⟩ := hx
  simp only at hv hlm hx
  subst hv
  unfold maxLen at hlm hx
  by_cases hs : xs.length ≤ 10
  · have hs1 : (xs.length : Int) ≤ 10 := by omega
    go_enter Try.func6, Try.ntmps6
    go_wp2_with fail
    refine (digAwake_any w).mono ?_
    rintro e w1 ⟨rfl, hB⟩
    go_wp2_with fail
    refine (new_of w1).mono ?_
    rintro e w2 ⟨g, rfl, hg, hG, hB2⟩
    have hB3 := hB.trans (hB2.mono hB.size)
    go_wp2_with fail
    refine (new_of w2).mono ?_
    rintro e w3 ⟨h, rfl, hh, hH, hB4⟩
    have hgh : g < h := Nat.lt_of_lt_of_le hG.lt hh
    have hwg : w.heap.size ≤ g := Nat.le_trans hB.size hg
    have hG3 := hG.keep hB4
    have hB5 := hB3.trans (hB4.mono hB3.size)
    clear hG hB2 hB3 hB4 hB hg hh
    go_wp2_with fail
    go_loopw [5, 6, 8, 27] (fun a b _ i wr => ∃ (k : Nat) (A B : ByteArray), i = .int .i64 (k : Int) ∧ k ≤ xs.length ∧ a = .string A ∧ b = .string B ∧ A.size ≤ 100 * k ∧ B.size ≤ 100 * k ∧ HashOf g A wr ∧ HashOf h B wr ∧ Below w.heap.size w wr) (fun _ _ _ i _ => xs.length - (intOf i).toNat)
    case atStart => exact ⟨0, ⟨#[]⟩, ⟨#[]⟩, rfl, by omega, rfl, rfl, Nat.zero_le _, Nat.zero_le _, hG3, hH, hB5⟩
    case round =>
      clear hG3 hH hB5
      obtain ⟨k, A, B, rfl, hk, rfl, rfl, hA, hBs, hG, hH, hB⟩ := hrel
      by_cases hlt : k < xs.length
      · obtain ⟨q1, q2, b, off, hao, hb, hr⟩ := hx k _ (List.getElem?_eq_getElem hlt)
        subst hao
        have hr2 := range_keep hr hB hb
        generalize xs[k] = q at q1 q2 hr hr2
        obtain ⟨s0, s1⟩ := q
        simp only at q1 q2 hr hr2
        clear hr
        clear hx
        go_upto_region 9 with (first
          | refine wpList_load_mid rfl 35 (.tmp 29) rfl b (off + k * 2) rfl _ _ hr2 Try.underlying35 rfl (by kernel_rfl) ?_
          | refine wpList_store_row rfl 35 (.tmp 8) (.tmp 30) rfl wr.heap.size #[.string s0, .string s1] rfl rfl 35 _ (heap_alloc_new _ _) (by kernel_rfl) (by kernel_rfl) (by simp [Value.oneCell']) ?_)
        generalize hwv : World.setRow _ _ _ = wv
        have hV : Blk wr.heap.size [.string s0, .string s1] 35 wv := by rw [← hwv]; exact setRow_heap _ _ _ _ _ _ (heap_alloc_new _ _)
        have hBv : Below wr.heap.size wr wv := by rw [← hwv]; exact Below.setRow _ ((Below.refl _ wr).alloc (Nat.le_refl _) _) (Nat.le_refl _)
        have hGv := hG.keep hBv
        have hHv := hH.keep hBv
        have hBw := hB.trans (hBv.mono hB.size)
        have hph := hH.lt
        clear hwv hG hH hB hBv hr2
        generalize wr.heap.size = p at hV hph ⊢
        have c0 : wv.cell? ⟨p, 0, none⟩ = some (.string s0) := hV.cell 0
        have c1 : wv.cell? ⟨p, 1, none⟩ = some (.string s1) := hV.cell 1
        by_cases z0 : (100 : Int) < s0.size
        · go_wp2_with fail
          go_ret
          exact ⟨rfl, hBw⟩
        by_cases z1 : (100 : Int) < s1.size
        · go_wp2_with fail
          go_ret
          exact ⟨rfl, hBw⟩
        have z0' : (s0.size : Int) ≤ 100 := by omega
        have z1' : (s1.size : Int) ≤ 100 := by omega
        clear z0 z1
        go_upto_region 11 with fail
        clear c1
        go_wp2_with fail
        refine (write_of g A s0 wv hGv (by omega)).mono ?_
        rintro e wa ⟨rfl, hGa, hKa⟩
        have hVa := hV.keeps hKa (by omega)
        have hHa := hHv.keeps hKa (by omega)
        have c1 : wa.cell? ⟨p, 1, none⟩ = some (.string s1) := hVa.cell 1
        have hBa := hBw.trans (hKa.below (B := w.heap.size) hwg hGv.lt)
        clear c0 hV hGv hHv hBw hKa
        go_wp2_with fail
        refine (write_of h B s1 wa hHa (by omega)).mono ?_
        rintro e wb ⟨rfl, hHb, hKb⟩
        have hVb := hVa.keeps hKb (by omega)
        have hGb := hGa.keeps hKb (by omega)
        have c0 : wb.cell? ⟨p, 0, none⟩ = some (.string s0) := hVb.cell 0
        have c1 : wb.cell? ⟨p, 1, none⟩ = some (.string s1) := hVb.cell 1
        have hBb := hBa.trans (hKb.below (B := w.heap.size) (by omega) hHa.lt)
        clear hVa hHa hBa hKb hGa
        go_upto_region 13 with fail
        go_quiet (fail)
        clear c0 c1
        go_wp2_with fail
        go_roundw
        case rel => exact ⟨k + 1, A ++ s0, B ++ s1, by go_num, by omega, rfl, rfl, by rw [ByteArray.size_append]; omega, by rw [ByteArray.size_append]; omega, hGb, hHb, ⟨hBb.os, hBb.tape, hBb.output, hBb.size, hBb.block⟩⟩
        case measure => simp [intOf]; omega
      · obtain rfl : k = xs.length := by omega
        have P1 := fun w h => sum_of g A w h (by omega)
        have P2 := fun w => hex_any A w (by omega)
        have Q1 := fun w h' => sum_of h B w h' (by omega)
        have Q2 := fun w => hex_any B w (by omega)
        generalize S (D.hx (D.sumAll A.data.toList) 32) = ra at P1 P2
        generalize S (D.hx (D.sumAll B.data.toList) 32) = rb at Q1 Q2
        clear hx
        go_wp2_with fail
        refine (P1 _ hG).mono ?_
        rintro e w4 ⟨rfl, k4⟩
        have hH4 := hH.keep k4
        have hB4 := hB.trans (k4.mono hB.size)
        go_wp2_with fail
        refine (P2 _).mono ?_
        rintro e w5 ⟨rfl, k5⟩
        have hH5 := hH4.keep k5
        have hB5 := hB4.trans (k5.mono hB4.size)
        go_wp2_with fail
        refine (Q1 _ hH5).mono ?_
        rintro e w6 ⟨rfl, k6⟩
        have hB6 := hB5.trans (k6.mono hB5.size)
        go_wp2_with fail
        refine (Q2 _).mono ?_
        rintro e w7 ⟨rfl, k7⟩
        have hB7 := hB6.trans (k7.mono hB6.size)
        go_wp2_with fail
        go_ret
        exact ⟨rfl, hB7⟩
  · have hs1 : (10 : Int) < xs.length := by omega
    go_enter Try.func6, Try.ntmps6
    go_wp2_with fail
    refine (digAwake_any w).mono ?_
    rintro e w1 ⟨rfl, hB⟩
    go_wp2_with fail
    refine (digAwake_any w1).mono ?_
    rintro e w2 ⟨rfl, hB2⟩
    go_wp2_with fail
    go_ret
    exact ⟨rfl, hB.trans (hB2.mono hB.size)⟩


theorem own : ownKnob Try.prog.godebug = none := by kernel_rfl
theorem laidOut : laidOutB Try.prog = true := by kernel_rfl

set_option maxRecDepth 100000 in
theorem lifted (os : Os) (started : os.Started) (H : Type) (enc : TypeId × Value → H) :
    ReturnsInHanded {} Try.checked os 6 .any (Rows.digestApartSpec.pre6 enc Try.prog Try.f6 Rows.digestApartRow.domain false) (Rows.digestApartSpec.post enc Try.prog Try.f6 false true false false) := by
  refine returnsInHanded_of_change (C := Try.checked) own started (by kernel_rfl) Try.func6
    (ChangeSpec.witness6 (enc := enc) (C := Try.checked) false ⟨#[], #[.slice none 0 0], []⟩ 8 (by kernel_rfl) (by kernel_rfl) (by kernel_rfl) (by kernel_rfl)) ?_
  intro W base args ds gs before hval0 hW hcnd _
  have hval : ∀ (j : Nat) t v, Try.f6.params[j]? = some t → args[j]? = some v → Value.okWide Try.prog W .any base t v := hval0
  have hW' := hW
  obtain ⟨p, q, hA0, hV, rfl, hfz, hnd⟩ := hW
  have hA : DataW.TrodAll enc Try.prog W 0 (fun _ => true) true Try.f6.params.toList args.toList ds p := hA0
  rw [Try.params6] at hA hval
  obtain ⟨v0, vs0, d0, ds0, p0, q0, hargs, rfl, rfl, h0, r0⟩ := trodAll_cons hA
  obtain ⟨rfl, rfl, rfl⟩ := trodAll_nil r0
  obtain rfl : args = #[v0] := by cases args; simp_all
  obtain ⟨rfl, rfl⟩ := trodVars_none hV
  have k0 := h0
  have lt0 : ∀ x ∈ p0, x.block < W.heap.size := by obtain ⟨m, hm⟩ := k0; exact DataW.trod_lt m _ _ _ hm
  obtain ⟨x0, w0⟩ := openPairs (hval 0 32 v0 rfl rfl) h0
  clear hA0 hval0
  refine (walk v0 x0 W w0).mono fun e W' ⟨he, bel⟩ => ?_
  subst he
  exact ⟨_, rfl, _, _, _, [], _, [], hW', trodAll_mk1 (shut_bool Try.underlying4 _), (trodAll_cons_mk (Below.trod laidOut (by kernel_rfl) (of_decide_eq_true (by kernel_rfl)) k0 bel lt0) trodAll_mk0), rfl, bel.frame _, fun h => by cases h⟩

theorem over : Rows.digestApartRow.holds Try.pinned (OpenSpec.ofChange Rows.digestApartSpec) :=
  OpenClaim.holds_of_wide 6 Try.f6 rfl rfl rfl rfl rfl rfl rfl ⟨rfl, rfl, rfl, rfl, rfl⟩ rfl rfl rfl rfl rfl (by kernel_rfl) Try.func6 (by kernel_rfl)
    (of_decide_eq_true (by kernel_rfl)) (by unfold Func.isWrapper; first | (rw [if_pos (by decide +kernel)]; kernel_rfl) | (rw [if_neg (by decide +kernel)]; exact ⟨rfl, rfl⟩))
    (fun os started H enc _ => lifted os started H enc)

/-- the statement -/
theorem proved : Rows.DigestApartSaid := over
#print axioms proved
end Go.Proofs.Ytkhofblbifbidaa.digestApart
