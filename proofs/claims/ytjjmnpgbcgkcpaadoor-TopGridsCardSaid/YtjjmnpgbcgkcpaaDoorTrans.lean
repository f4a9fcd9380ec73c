/-
  Families of sets: what is valid, their union, their comparison; the reference's count.
-/
import Derived.Test.YtjjmnpgbcgkcpaaDoorFamily
import Derived.BigQuiet
set_option linter.unusedVariables false
namespace Go.Proofs.YtjjmnpgbcgkcpaaDoor
open Go.RowKit

namespace T
def goodAt (f : List V) (i : Nat) : Bool := (f.getD i 0#16 &&& 61440#16 == 0#16) && (i == 0 || decide (compare (f.getD (i - 1) 0#16) (f.getD i 0#16) < 0)) && !(accepts (f.take i) (f.getD i 0#16))
def goodF (f : List V) : Bool := decide (f.length ≤ 400) && (List.range f.length).all (goodAt f)
theorem goodF_len {f : List V} (h : goodF f = true) : f.length ≤ 400 := by
  unfold goodF at h
  rw [Bool.and_eq_true] at h
  exact of_decide_eq_true h.1
theorem goodF_at {f : List V} (h : goodF f = true) (i : Nat) (hi : i < f.length) : (f.getD i 0#16 &&& 61440#16) = 0#16 ∧ (i = 0 ∨ compare (f.getD (i - 1) 0#16) (f.getD i 0#16) < 0) ∧ accepts (f.take i) (f.getD i 0#16) = false := by
  unfold goodF at h
  rw [Bool.and_eq_true, List.all_eq_true] at h
  have h1 := h.2 i (List.mem_range.2 hi)
  unfold goodAt at h1
  simp only [Bool.and_eq_true, Bool.or_eq_true, beq_iff_eq, decide_eq_true_eq, Bool.not_eq_true'] at h1
  exact ⟨h1.1.1, h1.1.2, h1.2⟩
def support (f : List V) : V := f.foldl (fun (a s : V) => a ||| s) 0#16
theorem support_snoc (f : List V) (s : V) : support (f ++ [s]) = support f ||| s := by unfold support; rw [List.foldl_append]; rfl
def refMem (s : V) (n : Nat) : List Int := ((List.range n).filter fun (i : Nat) => bit s i).map fun (i : Nat) => (i : Int)
theorem refMem_succ (s : V) (n : Nat) : refMem s (n + 1) = if bit s n then refMem s n ++ [(n : Int)] else refMem s n := by
  unfold refMem
  rw [List.range_succ, List.filter_append, List.map_append]
  by_cases h : bit s n = true
  · rw [if_pos h]; simp [h]
  · rw [if_neg h]; simp [h]
def refCount (s : V) : Int := ((refMem s 16).length : Int)
end T

theorem Sets.take {w : World} {ao : Option Addr} {n cap : Nat} {f : List V} (h : Sets w (.slice ao n cap) f) (i : Nat) (hi : i ≤ f.length) : Sets w (.slice ao i cap) (f.take i) := by
  obtain ⟨a0, c0, e0, h1, h2, h3, h4⟩ := h
  injection e0 with q1 q2 q3
  subst q1 q3
  have hl : (f.take i).length = i := by rw [List.length_take]; omega
  refine ⟨ao, cap, by rw [hl], fun j hj => ?_, by omega, by omega, h4⟩
  rw [hl] at hj
  obtain ⟨b, off, e, hc⟩ := h1 j (by omega)
  refine ⟨b, off, e, ?_⟩
  rw [hc]
  unfold setAt
  rw [List.getD_eq_getElem?_getD, List.getD_eq_getElem?_getD, List.getElem?_take, if_pos hj]

set_option maxRecDepth 100000 in
set_option maxHeartbeats 400000 in
theorem famValid_any (v : Value) (f : List V) (w : World) (hv : Sets w v f) (hg : T.goodF f = true) :
    Calls Tryd.prog 24 #[v] w fun e w' => e = .returned (.int .i64 0) ∧ Below w.heap.size w w' := by
  obtain ⟨ao, cap, rfl, hc, hcap, hn, hm⟩ := id hv
  have h400 := T.goodF_len hg
  have hat := T.goodF_at hg
  have hml : (maxLen : Nat) = 9223372036854775807 := rfl
  clear hg
  have h40 : decide (400 < (f.length : Int)) = false := decide_eq_false (by omega)
  go_enter Tryd.func24, Tryd.ntmps24
  go_wp2_with fail
  go_loopw [12] (fun y wr => ∃ i : Nat, y = .int .i64 (i : Int) ∧ i ≤ f.length ∧ Below w.heap.size w wr) (fun y _ => f.length - (intOf y).toNat)
  case atStart => exact ⟨0, rfl, by omega, Below.refl _ _⟩
  case round =>
    obtain ⟨i, rfl, hi, hB⟩ := hrel
    by_cases hlt : i < f.length
    · obtain ⟨b, off, rfl, hcell⟩ := (hc.keep hB) i hlt
      obtain ⟨q1, q2, _⟩ := hat i hlt
      have hb : bits .and .u16 (M (f.getD i 0#16)) 61440 = 0 := by
        have h := mand (f.getD i 0#16) 61440#16
        rw [q1] at h
        exact h
      unfold setAt at hcell
      rcases i with _ | k
      · rw [Nat.add_zero] at hcell
        generalize f.getD 0 0#16 = s at hcell hb
        clear q1 q2 hat hc hv
        go_wp2_with fail
        go_roundw
        case rel => exact ⟨1, by go_num, by omega, hB⟩
        case measure => simp [intOf]; omega
      · obtain ⟨b', off', hbe, hcell2⟩ := (hc.keep hB) k (by omega)
        injection hbe with hbe
        injection hbe with e1 e2
        subst e1 e2
        unfold setAt at hcell2
        have q3 := q2.resolve_left (by omega)
        rw [Nat.add_sub_cancel] at q3
        generalize f.getD (k + 1) 0#16 = s at hcell hb q3
        generalize f.getD k 0#16 = s' at hcell2 q3
        have hC := compare_any s' s wr
        have q4 : decide (0 ≤ T.compare s' s) = false := decide_eq_false (by omega)
        generalize T.compare s' s = cv at hC q4
        clear q1 q2 hat hc hv q3
        go_wp2_with (go_at_call 38; refine hC.mono ?_; clear hC; rintro e w2 ⟨rfl, hB2⟩; have hB3 := hB.trans (hB2.mono hB.size); clear hB hB2)
        go_roundw
        case rel => exact ⟨k + 2, by go_num, by omega, hB3⟩
        case measure => simp [intOf]; omega
    · obtain rfl : i = f.length := by omega
      go_wp2_with fail
      go_loopw [37] (fun y w0 => ∃ j : Nat, y = .int .i64 (j : Int) ∧ j ≤ f.length ∧ Below w.heap.size w w0) (fun y _ => f.length - (intOf y).toNat)
      case atStart => exact ⟨0, rfl, by omega, hB⟩
      case round =>
        clear hB
        obtain ⟨j, rfl, hj, hB⟩ := hrel
        by_cases hjl : j < f.length
        · obtain ⟨b, off, rfl, hcell⟩ := (hc.keep hB) j hjl
          obtain ⟨_, _, q3⟩ := hat j hjl
          have hA := accepts_any _ (f.take j) (f.getD j 0#16) wr ((hv.take j (by omega)).keep hB)
          rw [q3] at hA
          unfold setAt at hcell
          generalize f.getD j 0#16 = s at hcell hA
          have hjc : (j : Int) ≤ cap := by omega
          clear hat hc hv q3
          go_wp2_with (go_at_call 18; refine hA.mono ?_; clear hA; rintro e w2 ⟨rfl, hB2⟩; have hB3 := hB.trans (hB2.mono hB.size); clear hB hB2)
          go_roundw
          case rel => exact ⟨j + 1, by go_num, by omega, hB3⟩
          case measure => simp [intOf]; omega
        · obtain rfl : j = f.length := by omega
          go_wp2_with fail
          go_ret
          exact ⟨rfl, hB⟩

set_option maxRecDepth 100000 in
set_option maxHeartbeats 200000 in
theorem support_any (v : Value) (f : List V) (w : World) (hv : Sets w v f) :
    Calls Tryd.prog 25 #[v] w fun e w' => e = .returned (.int .u16 (M (T.support f))) ∧ w' = w := by
  obtain ⟨ao, cap, rfl, hc, hcap, hn, hm⟩ := id hv
  go_enter Tryd.func25, Tryd.ntmps25
  go_wp2_with fail
  go_loopw [3, 8] (fun o y wr => ∃ i : Nat, y = .int .i64 (i : Int) ∧ i ≤ f.length ∧ o = .int .u16 (M (T.support (f.take i))) ∧ wr = w) (fun _ y _ => f.length - (intOf y).toNat)
  case atStart => exact ⟨0, rfl, by omega, rfl, rfl⟩
  case round =>
    obtain ⟨i, rfl, hi, rfl, rfl⟩ := hrel
    by_cases hlt : i < f.length
    · obtain ⟨b, off, rfl, hcell⟩ := hc i hlt
      have hsn := T.support_snoc (f.take i) f[i]
      rw [List.take_append_getElem hlt] at hsn
      unfold setAt at hcell
      rw [List.getD_eq_getElem?_getD, List.getElem?_eq_getElem hlt, Option.getD_some] at hcell
      generalize f[i] = s at hsn hcell
      have ho := mor (T.support (f.take i)) s
      rw [← hsn] at ho
      generalize T.support (f.take i) = acc at ho ⊢
      clear hc hv hsn
      obtain ⟨nx, hnx⟩ : ∃ nx, ∀ _ : Unit, T.support (f.take (i + 1)) = nx := ⟨_, fun _ => rfl⟩
      rw [hnx ()] at ho
      go_wp2_with fail
      go_roundw
      case rel => exact ⟨i + 1, by go_num, by omega, by rw [hnx ()], by first | rfl | trivial⟩
      case measure => simp [intOf]; omega
    · obtain rfl : i = f.length := by omega
      rw [List.take_length]
      go_wp2_with fail
      go_ret
      exact ⟨rfl, rfl⟩

set_option maxHeartbeats 200000 in
theorem has_any (s : V) (i : Nat) (hi : i < 16) (w : World) : Calls Tryd.prog 39 #[.int .u16 (M s), .int .i64 (i : Int)] w fun e w' => e = .returned (.bool (T.bit s i)) ∧ w' = w := by
  have hm : min i 16 = i := by omega
  have hb := mbit s i
  obtain ⟨b, hbb⟩ : ∃ b, ∀ _ : Unit, T.bit s i = b := ⟨_, fun _ => rfl⟩
  rw [hbb ()] at hb
  go_enter Tryd.func39, Tryd.ntmps39
  go_wp2_with fail
  go_ret
  rw [hbb ()]
  exact ⟨rfl, rfl⟩

set_option maxRecDepth 100000 in
set_option maxHeartbeats 200000 in
theorem refMembers_any (s : V) (w : World) : Calls Tryd.prog 26 #[.int .u16 (M s)] w fun e w' => ∃ ao cap, e = .returned (.slice ao (T.refMem s 16).length cap) ∧ Below w.heap.size w w' := by
  have hsucc := T.refMem_succ s
  have h00 : T.refMem s 0 = [] := rfl
  have hle : ∀ n, (T.refMem s n).length ≤ n := fun n => by
    unfold T.refMem
    rw [List.length_map]
    exact Nat.le_trans (List.length_filter_le _ _) (by simp)
  have hH := has_any s
  obtain ⟨g, hg⟩ : ∃ g, ∀ _ : Unit, T.refMem s = g := ⟨_, fun _ => rfl⟩
  rw [hg ()] at hsucc h00 hle
  generalize T.bit s = bt at hsucc hH
  go_enter Tryd.func26, Tryd.ntmps26
  go_wp2_with fail
  go_loopw [3, 4] (fun o y wr => ∃ i : Nat, y = .int .i64 (i : Int) ∧ i ≤ 16 ∧ OwnsI w.heap.size o (g i) wr ∧ Below w.heap.size w wr) (fun _ y _ => 16 - (intOf y).toNat)
  case atStart => exact ⟨0, rfl, by omega, by rw [h00]; exact World.ownsRow_nil _ _ _ _, Below.refl _ _⟩
  case round =>
    obtain ⟨i, rfl, hi, hown, hB⟩ := hrel
    by_cases hlt : i < 16
    · have hHi := hH i hlt wr
      have hs := hsucc i
      have hle2 := hle i
      clear hsucc hH hle h00
      cases hb : bt i with
      | true =>
        rw [hb] at hHi hs
        rw [if_pos rfl] at hs
        have hsz := hB.size
        have hS : ∀ _ : Unit, _ := fun _ => hs
        clear hs
        unfold OwnsI at hown
        go_wp2_with (first
          | (go_at_call 39; refine hHi.mono ?_; clear hHi; rintro e w2 ⟨rfl, hw⟩; rw [hw]; clear hw w2)
          | (at_builtin; refine wpList_app1 rfl _ _ 40 rfl w.heap.size 3 1 elemInt _ _ _ rfl (hown.alloc _) ⟨wr.heap.size, 0, none⟩ 1 [.int .i64 (i : Int)] rfl rfl (one_at _ _ _) (one_cell _ rfl) (by omega) (by simp; omega) ?_))
        rintro g2 cap w1 hown' hgrow hg2
        have hB1 := app_below hown hB hgrow
        clear hown hgrow hg2 hB
        go_wp2_with fail
        go_roundw
        case rel => exact ⟨i + 1, by go_num, by omega, by rw [hS ()]; exact app_ints hown', hB1⟩
        case measure => simp [intOf]; omega
      | false =>
        rw [hb] at hHi hs
        have hS : ∀ _ : Unit, g (i + 1) = g i := fun _ => by rw [hs]; rfl
        clear hs
        go_wp2_with (go_at_call 39; refine hHi.mono ?_; clear hHi; rintro e w2 ⟨rfl, hw⟩; rw [hw]; clear hw w2)
        go_roundw
        case rel => exact ⟨i + 1, by go_num, by omega, by rw [hS ()]; exact hown, hB⟩
        case measure => simp [intOf]; omega
    · obtain rfl : i = 16 := by omega
      obtain ⟨ao, cap, rfl⟩ := owns_slice hown
      have hG : ∀ _ : Unit, T.refMem s 16 = g 16 := fun _ => by rw [hg ()]
      clear hsucc hH hle h00 hg
      go_wp2_with fail
      go_ret
      rw [hG ()]
      exact ⟨ao, cap, rfl, hB⟩

set_option maxHeartbeats 200000 in
theorem refCount_any (s : V) (w : World) : Calls Tryd.prog 9 #[.int .u16 (M s)] w fun e w' => e = .returned (.int .i64 (T.refCount s)) ∧ Below w.heap.size w w' := by
  have hM := refMembers_any s w
  obtain ⟨n, hn⟩ : ∃ n, ∀ _ : Unit, (T.refMem s 16).length = n := ⟨_, fun _ => rfl⟩
  rw [hn ()] at hM
  go_enter Tryd.func9, Tryd.ntmps9
  go_wp2_with (go_at_call 26; refine hM.mono ?_; rintro e w2 ⟨ao, cap, rfl, hB⟩)
  go_ret
  unfold T.refCount
  rw [hn ()]
  exact ⟨rfl, hB⟩

theorem M_ne (a b : V) : (M a != M b) = (a != b) := by
  rw [Bool.eq_iff_iff, bne_iff_ne, bne_iff_ne]
  exact ⟨fun h e => h (by rw [e]), fun h e => h (M_inj e)⟩
theorem take_eq_succ (f g : List V) (i : Nat) (hf : i < f.length) (hg : i < g.length) (h : f.take i = g.take i) : (f.take (i + 1) = g.take (i + 1)) ↔ f.getD i 0#16 = g.getD i 0#16 := by
  rw [List.getD_eq_getElem?_getD, List.getElem?_eq_getElem hf, List.getD_eq_getElem?_getD, List.getElem?_eq_getElem hg, Option.getD_some, Option.getD_some, ← List.take_append_getElem hf, ← List.take_append_getElem hg, h]
  exact ⟨fun e => by
    have h1 := List.append_cancel_left e
    injection h1, fun e => by rw [e]⟩

set_option maxRecDepth 100000 in
set_option maxHeartbeats 400000 in
theorem equal_any (v v2 : Value) (f g : List V) (w : World) (hv : Sets w v f) (hv2 : Sets w v2 g) :
    Calls Tryd.prog 20 #[v, v2] w fun e w' => e = .returned (.bool (f == g)) ∧ Below w.heap.size w w' := by
  obtain ⟨ao, cap, rfl, hc, hcap, hn, hm⟩ := id hv
  obtain ⟨ao2, cap2, rfl, hc2, hcap2, hn2, hm2⟩ := id hv2
  by_cases hl : f.length = g.length
  · have hne : ((f.length : Int) != (g.length : Int)) = false := by rw [hl]; simp
    have hE0 : ∀ _ : Unit, (f == g) = decide (f.take f.length = g.take f.length) := fun _ => by
      rw [List.take_length, hl, List.take_length]
      rw [Bool.eq_iff_iff, beq_iff_eq, decide_eq_true_iff]
    have hge : ∀ i, i < f.length → i < g.length := fun i hi => by omega
    clear hl
    go_enter Tryd.func20, Tryd.ntmps20
    go_wp2_with fail
    go_loopw [13] (fun y wr => ∃ i : Nat, y = .int .i64 (i : Int) ∧ i ≤ f.length ∧ f.take i = g.take i ∧ Below w.heap.size w wr) (fun y _ => f.length - (intOf y).toNat)
    case atStart => exact ⟨0, rfl, by omega, rfl, Below.refl _ _⟩
    case round =>
      obtain ⟨i, rfl, hi, ht, hB⟩ := hrel
      by_cases hlt : i < f.length
      · have hlg := hge i hlt
        obtain ⟨b, off, rfl, hcell⟩ := (hc.keep hB) i hlt
        obtain ⟨b2, off2, rfl, hcell2⟩ := (hc2.keep hB) i hlg
        have hte := take_eq_succ f g i hlt hlg ht
        unfold setAt at hcell hcell2
        generalize f.getD i 0#16 = s at hcell hte
        generalize g.getD i 0#16 = s2 at hcell2 hte
        have hmn := M_ne s s2
        clear hc hc2 hv hv2
        have hT : ∀ _ : Unit, _ := fun _ => hte
        have hT0 : ∀ _ : Unit, f.take i = g.take i := fun _ => ht
        clear hte ht
        by_cases hss : s = s2
        · have hbb : (M s != M s2) = false := by rw [hmn, hss]; simp
          clear hmn
          go_upto_region 6 with fail
          go_quiet (fail)
          go_wp2_with fail
          go_roundw
          case rel => exact ⟨i + 1, by go_num, by omega, (hT ()).2 hss, ⟨hB.os, hB.tape, hB.output, hB.size, hB.block⟩⟩
          case measure => simp [intOf]; omega
        · have hbb : (M s != M s2) = true := by rw [hmn]; simpa using hss
          have hE1 : ∀ _ : Unit, (f == g) = false := fun _ => by
            rw [beq_eq_false_iff_ne]
            intro e
            exact hss ((hT ()).1 (by rw [e]))
          clear hmn hT
          go_upto_region 6 with fail
          go_quiet (fail)
          go_wp2_with fail
          go_ret
          rw [hE1 ()]
          exact ⟨rfl, ⟨hB.os, hB.tape, hB.output, hB.size, hB.block⟩⟩
      · obtain rfl : i = f.length := by omega
        have hE1 : ∀ _ : Unit, (f == g) = true := fun _ => by rw [hE0 ()]; exact decide_eq_true ht
        clear ht hE0
        go_wp2_with fail
        go_ret
        rw [hE1 ()]
        exact ⟨rfl, hB⟩
  · have hne : ((f.length : Int) != (g.length : Int)) = true := by rw [bne_iff_ne]; omega
    have hE1 : ∀ _ : Unit, (f == g) = false := fun _ => by
      rw [beq_eq_false_iff_ne]
      intro e
      exact hl (by rw [e])
    go_enter Tryd.func20, Tryd.ntmps20
    go_wp2_with fail
    go_ret
    rw [hE1 ()]
    exact ⟨rfl, Below.refl _ _⟩
end Go.Proofs.YtjjmnpgbcgkcpaaDoor
