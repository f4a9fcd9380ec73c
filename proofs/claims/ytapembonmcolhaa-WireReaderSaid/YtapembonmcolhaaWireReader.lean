/-
  The statement WireReader: for every text of at most 1000 bytes and every list of at most 30 operations, a reader hands back what the reference's readers hand back, and End the same error; conditions: none beyond the row's own.
-/
import Derived.Test.YtapembonmcolhaaRows
import Derived.Test.YtapembonmcolhaaAwake
import Derived.Test.YtapembonmcolhaaReaderRef
import Derived.Test.YtapembonmcolhaaOpen
import Derived.OpenShut
import Derived.ShutString
import Derived.ChangeOld
import Derived.Below
set_option linter.unusedVariables false
namespace Go.Proofs.Ytapembonmcolhaa.wireReader
open Go.ChangeShapes Go.WideShapes Go.ChangeAt Go.RowKit
open Go.ChangeMaps (open_string shut_string)

/-- the operations: bytes -/
def byteAt (xs : List Int) (i : Nat) : Value := .int .u8 (xs.getD i 0)
def IsBytes (w : World) (v : Value) (x : Option Addr × Nat × List Int) : Prop := v = .slice x.1 x.2.2.length x.2.1 ∧ Cells w x.1 x.2.2.length (byteAt x.2.2) ∧ (∀ y ∈ x.2.2, 0 ≤ y ∧ y ≤ 255) ∧ x.2.2.length ≤ maxLen

theorem openBytes {H : Type} {enc : TypeId × Value → H} {W : World} {base : Nat} {v : Value} {d : DataW H} {p : List MemPlace} (hv : Value.okWide Try.prog W .any base 43 v)
    (h : DataW.Trod enc Try.prog W 0 (fun _ => true) true 43 v d p) : ∃ x : Option Addr × Nat × List Int, IsBytes W v x := by
  obtain ⟨a0, len0, cap0, rfl⟩ := okWide_slice Try.underlying43 hv
  obtain ⟨fuel, hf⟩ := h
  rcases open_ints Try.underlying43 Try.underlying5 (by kernel_rfl) hf with ⟨hcs, _⟩ | ⟨x, l, c, zs, hcs, _, hl, hm, hz, _, hcell, hwz⟩
  · simp [Value.cells] at hcs
    obtain ⟨rfl, rfl, rfl⟩ := hcs
    exact ⟨(none, 0, []), rfl, fun i hi => absurd hi (by simp), fun x hx => by simp at hx, by simp⟩
  · simp [Value.cells] at hcs
    obtain ⟨rfl, rfl, rfl⟩ := hcs
    have hz' : zs.length = cap0 := by simpa using hz
    have htl : (zs.take len0).length = len0 := by rw [List.length_take]; omega
    refine ⟨(some x, cap0, zs.take len0), by simp [htl], ?_, ?_, by rw [htl]; omega⟩
    · refine cells_row (fun i hi => ?_)
      simp only [htl] at hi
      rw [hcell i (by omega)]
      simp [byteAt, hi]
    · intro y hy
      have := hwz y (List.mem_of_mem_take hy)
      simpa [Lit.wf, IntKind.min, IntKind.max, IntKind.signed, IntKind.bits] using this

/-- the reference's rest, in a variable -/
def IsRest (b : Nat) (l : List UInt8) (e : Nat) (w : World) : Prop := w.heap[b]? = some (.cells #[.string (S l), .int .i64 e] 47 (0, 0))

theorem IsRest.lt {b : Nat} {l : List UInt8} {e : Nat} {w : World} (h : IsRest b l e w) : b < w.heap.size := (Array.getElem?_eq_some_iff.1 h).1
theorem IsRest.keep {b : Nat} {l : List UInt8} {e : Nat} {w w' : World} (h : IsRest b l e w) (hB : Below w.heap.size w w') : IsRest b l e w' := (hB.block b h.lt).trans h
theorem IsRest.keeps {b rb : Nat} {l : List UInt8} {e : Nat} {w w' : World} (h : IsRest b l e w) (hK : Keeps rb w w') (hb : b ≠ rb) : IsRest b l e w' := (hK.block b h.lt hb).trans h
theorem IsRest.cell0 {b : Nat} {l : List UInt8} {e : Nat} {w : World} (h : IsRest b l e w) : w.cell? ⟨b, 0, none⟩ = some (.string (S l)) := by rw [Lib.cell_of_heap h]; rfl
theorem IsRest.cell1 {b : Nat} {l : List UInt8} {e : Nat} {w : World} (h : IsRest b l e w) : w.cell? ⟨b, 1, none⟩ = some (.int .i64 e) := by rw [Lib.cell_of_heap h]; rfl
theorem IsRest.free {b : Nat} {l : List UInt8} {e : Nat} {w : World} (h : IsRest b l e w) (j : Nat) : w.frozen? ⟨b, j, none⟩ = false := Lib.frozen_of_heap h j
theorem IsRest.set {b : Nat} {l : List UInt8} {e : Nat} {w : World} (h : IsRest b l e w) (l' : List UInt8) (e' : Nat) : IsRest b l' e' ((w.setCell ⟨b, 0, none⟩ (.string (S l'))).setCell ⟨b, 1, none⟩ (.int .i64 e')) := by
  unfold IsRest at *
  simp [World.setCell, Array.getElem?_modify, h]
theorem IsReader.other {b c : Nat} {l : List UInt8} {e : Nat} {w : World} (h : IsReader b l e w) (hb : b ≠ c) (j j' : Nat) (x y : Value) : IsReader b l e ((w.setCell ⟨c, j, none⟩ x).setCell ⟨c, j', none⟩ y) := by
  unfold IsReader at *
  rw [Below.heap_setCell _ _ _ _ hb, Below.heap_setCell _ _ _ _ hb]
  exact h
theorem IsRest.new (w : World) (l : List UInt8) (e : Nat) : IsRest w.heap.size l e (w.alloc (.cells #[.string (S l), .int .i64 e] 47)) := heap_alloc_new w _
theorem IsRest.alloc {b : Nat} {l : List UInt8} {e : Nat} {w : World} (h : IsRest b l e w) (o : Obj) : IsRest b l e (w.alloc o) := (Lib.alloc_old w o b h.lt).trans h
theorem IsReader.alloc {b : Nat} {l : List UInt8} {e : Nat} {w : World} (h : IsReader b l e w) (o : Obj) : IsReader b l e (w.alloc o) := (Lib.alloc_old w o b h.lt).trans h

/-- what the loop carries: the reader and the reference's rest agree -/
def Both (rb cb B : Nat) (w wr : World) : Prop :=
  ∃ (l : List UInt8) (e : Nat), l.length ≤ 1000 ∧ e ≤ 9 ∧ IsReader rb l e wr ∧ IsRest cb l e wr ∧ Below B w wr ∧ B ≤ rb ∧ rb < cb

theorem Both.next {rb cb B : Nat} {w W w5 : World} {l l' : List UInt8} {e e' : Nat} (hl : l'.length ≤ 1000) (he : e' ≤ 9) (hR : IsReader rb l' e' w5) (hC : IsRest cb l e w5) (hB : Below B w W) (hK : Keeps rb W w5)
    (hb : B ≤ rb) (hr : rb < cb) (hW : rb < W.heap.size) (q : Nat) :
    Both rb cb B w (((w5.setCell ⟨cb, 0, none⟩ (.string (S l'))).setCell ⟨cb, 1, none⟩ (.int .i64 e')).drewN q) := by
  refine ⟨l', e', hl, he, ?_, ?_, ?_, hb, hr⟩
  · exact IsReader.other hR (by omega) _ _ _ _
  · exact hC.set l' e'
  · exact below_drewN (((hB.trans (hK.below hb hW)).setCell (p := ⟨cb, 0, none⟩) (by show B ≤ cb; omega) _).setCell (p := ⟨cb, 1, none⟩) (by show B ≤ cb; omega) _) q

theorem rd_bound {T : Type} (d : T) (p : List UInt8 → T × Nat × Nat) (hp : V.Part p) (l : List UInt8) (e : Nat) (he : e ≤ 9) : (V.rd d p l e).2.1.length ≤ l.length ∧ (V.rd d p l e).2.2 ≤ 9 := by
  have h := hp l
  unfold V.rd
  split
  · exact ⟨Nat.le_refl _, he⟩
  · split
    · exact ⟨Nat.le_refl _, h.1⟩
    · simp

theorem Both.drewN {rb cb B : Nat} {w wr : World} (h : Both rb cb B w wr) (q : Nat) : Both rb cb B w (wr.drewN q) := by
  obtain ⟨l, e, h1, h2, h3, h4, h5, h6, h7⟩ := h
  exact ⟨l, e, h1, h2, h3, h4, below_drewN h5 q, h6, h7⟩

theorem same_eq (xs : List (List UInt8)) (ao bo : Option Addr) (ca cb : Nat) (W : World) (ha : Cells W ao xs.length (strAt (xs.map S))) (hb : Cells W bo xs.length (strAt (xs.map S))) (hn : xs.length ≤ 1000000000) :
    Calls Try.prog 22 #[.slice ao xs.length ca, .slice bo xs.length cb] W (RetB true W) := by
  have h := same_any (xs.map S) (xs.map S) ao bo ca cb W (by simpa using ha) (by simpa using hb) (by simp; omega)
  simpa using h

theorem ownsS_keeps {B rb : Nat} {v : Value} {xs : List (List UInt8)} {W w5 : World} (h : OwnsS B v xs W) (hK : Keeps rb W w5) (hr : rb < B) : OwnsS B v xs w5 := by
  obtain ⟨h1, h2⟩ := h
  refine ⟨h1, ?_⟩
  rcases h2 with h2 | ⟨g, cap, cur, hv, hg, hh, r⟩
  · exact Or.inl h2
  · have hlt : g < W.heap.size := (Array.getElem?_eq_some_iff.1 hh).1
    exact Or.inr ⟨g, cap, cur, hv, hg, (hK.block g hlt (by omega)).trans hh, r⟩
theorem ownsS_alloc {B : Nat} {v : Value} {xs : List (List UInt8)} {W : World} (h : OwnsS B v xs W) (o : Obj) : OwnsS B v xs (W.alloc o) := World.ownsRow.alloc h o

theorem strs_length (l : List UInt8) (e : Nat) (h : l.length ≤ 1000) : (V.rd [] V.getStrs l e).1.length ≤ 1000000000 := by
  have hb := V.getListOf_bound V.getStr V.getStr_part l
  unfold V.rd
  split
  · simp
  · split
    · simp
    · rename_i h1 h2
      have h3 := (hb.2.1 (by simpa [V.getStrs] using h2)).2.2
      have h4 : (V.getStrs l).1.length ≤ l.length := h3
      show (V.getStrs l).1.length ≤ _
      omega

theorem mod_cases (c : Int) (h0 : 0 ≤ c) : (c % 4 = 0 ∧ (c % 4 == 0) = true ∧ (c % 4 == 1) = false ∧ (c % 4 == 2) = false) ∨ (c % 4 = 1 ∧ (c % 4 == 0) = false ∧ (c % 4 == 1) = true ∧ (c % 4 == 2) = false) ∨
    (c % 4 = 2 ∧ (c % 4 == 0) = false ∧ (c % 4 == 1) = false ∧ (c % 4 == 2) = true) ∨ (c % 4 = 3 ∧ (c % 4 == 0) = false ∧ (c % 4 == 1) = false ∧ (c % 4 == 2) = false) := by
  have h : c % 4 = 0 ∨ c % 4 = 1 ∨ c % 4 = 2 ∨ c % 4 = 3 := by omega
  rcases h with h | h | h | h <;> rw [h] <;> simp

set_option maxRecDepth 100000 in
set_option maxHeartbeats 8000000 in
theorem walk (a0 : ByteArray) (v : Value) (x : Option Addr × Nat × List Int) (w : World) (w0 : a0.size ≤ maxLen) (w1 : IsBytes w v x) :
    Calls Try.prog 9 #[.string a0, v] w fun e w' => e = .returned (.bool true) ∧ Below w.heap.size w w' := by
  obtain ⟨rfl, hc, hf, hm⟩ := w1
  obtain ⟨ao, cap, xs⟩ := x
  simp only at hc hf hm ⊢
  unfold maxLen at w0 hm
  have Hc := Lib.hid hc; clear hc
  have Hf := Lib.hid hf; clear hf
  by_cases hs : a0.size ≤ 1000
  · by_cases hn : xs.length ≤ 30
    · go_enter Try.func9, Try.ntmps9
      go_wp2_with (go_at_call 12; refine (awake_any _).mono ?_; rintro e w1 ⟨rfl, hB⟩)
      refine (newReader_any _ _).mono ?_
      rintro e w2 ⟨rfl, rfl⟩
      go_wp2_with fail
      have hsz := hB.size
      go_loopw [8, 9, 10, 11, 12, 13, 14, 15, 37] (fun _ _ _ _ _ _ _ _ i wr => ∃ k : Nat, i = .int .i64 k ∧ k ≤ xs.length ∧ Both w1.heap.size (w1.heap.size + 1) w.heap.size w wr) (fun _ _ _ _ _ _ _ _ i _ => xs.length - (RowKit.intOf i).toNat)
      case atStart =>
        refine ⟨0, rfl, by omega, L a0, 0, by rw [L_length]; exact hs, by omega, ?_, ?_, ?_, hsz, by omega⟩
        · exact IsReader.alloc (show IsReader w1.heap.size (L a0) 0 _ from heap_alloc_new w1 _) _
        · have h := IsRest.new (w1.alloc (.cells #[.string a0, .int .i64 0] 79)) (L a0) 0
          simpa using h
        · exact (hB.alloc hsz _).alloc (by simp; omega) _
      case round =>
        rename_i wr
        obtain ⟨k, rfl, hk, l, e, hl, he, hR, hC, hBr, hB1, hB2⟩ := hrel
        have q0 := hC.cell0
        have q1 := hC.cell1
        by_cases hlt : k < xs.length
        · obtain ⟨b, off, hao, hcell⟩ := (Hc.out.keep (hBr.mono (Nat.le_refl _))) k hlt
          subst hao
          have hcell' : wr.cell? ⟨b, off + k, none⟩ = some (.int .u8 (xs.getD k 0)) := hcell
          have hx : 0 ≤ xs.getD k 0 ∧ xs.getD k 0 ≤ 255 := Hf.out _ (by rw [List.getD_eq_getElem?_getD, List.getElem?_eq_getElem hlt]; exact List.getElem_mem hlt)
          generalize xs.getD k 0 = c at hcell' hx
          obtain ⟨hx1, hx2⟩ := hx
          clear hcell
          have hcs := mod_cases c hx1
          rcases hcs with ⟨_, e0, e1, e2⟩ | ⟨_, e0, e1, e2⟩ | ⟨_, e0, e1, e2⟩ | ⟨_, e0, e1, e2⟩
          · go_wp2_with fail
            refine (refInt_any l e wr he (by omega)).mono ?_
            rintro x w3 ⟨rfl, hB3⟩
            have hb := rd_bound 0 V.getInt V.getInt_part l e he
            obtain ⟨r, hr⟩ : ∃ r, V.rd 0 V.getInt l e = r := ⟨_, rfl⟩
            have hI := fun w h => int_any w1.heap.size l e w h he (by omega)
            rw [hr]
            rw [hr] at hI hb
            obtain ⟨y, l', e'⟩ := r
            simp only at hb
            obtain ⟨hb1, hb2⟩ := hb
            have HI := Lib.hid hI
            have hR3 := IsReader.alloc (hR.keep hB3) (.cells #[.string (S l'), .int .i64 e'] 47)
            have hC3 := IsRest.alloc (hC.keep hB3) (.cells #[.string (S l'), .int .i64 e'] 47)
            have hN3 := IsRest.new w3 l' e'
            have hB4 := (hBr.trans (hB3.mono hBr.size)).alloc (by have := hB3.size; have := hBr.size; omega) (.cells #[.string (S l'), .int .i64 e'] 47)
            have hs3 := hB3.size
            have hs4 := hC.lt
            have hne : w3.heap.size ≠ w1.heap.size := by omega
            have hsW : w1.heap.size < (w3.alloc (.cells #[.string (S l'), .int .i64 e'] 47)).heap.size := by simp; omega
            clear hB3 hBr hR hC q0 q1 hI hr
            unfold restV
            go_wp2_with fail
            go_region_with (go_at_call 30; refine (HI.out _ (by exact hR3)).mono ?_; rintro x w5 ⟨rfl, hR5, hK0⟩; have hK := Keeps.drew hK0; have hC5 := hC3.keeps hK (by omega); have hN5 := hN3.keeps hK hne; have c0 := hN5.cell0; have c1 := hN5.cell1; have d0 := hC5.cell0; have d1 := hC5.cell1; have f0 := hC5.free 0; have f1 := hC5.free 1)
            all_goals go_wp2_with fail
            all_goals go_roundw
            all_goals first
              | (case rel => exact ⟨k + 1, by go_num, by omega, Both.next (by omega) hb2 hR5 hC5 hB4 hK hB1 hB2 hsW 0⟩)
              | (case measure => simp [RowKit.intOf]; omega)
          · go_wp2_with fail
            refine (refString_any l e wr he (by omega)).mono ?_
            rintro x w3 ⟨rfl, hB3⟩
            have hb := rd_bound [] V.getStr V.getStr_part l e he
            obtain ⟨r, hr⟩ : ∃ r, V.rd [] V.getStr l e = r := ⟨_, rfl⟩
            have hI := fun w h => string_any w1.heap.size l e w h he (by omega)
            rw [hr]
            rw [hr] at hI hb
            obtain ⟨y, l', e'⟩ := r
            simp only at hb
            obtain ⟨hb1, hb2⟩ := hb
            have HI := Lib.hid hI
            have hR3 := IsReader.alloc (hR.keep hB3) (.cells #[.string (S l'), .int .i64 e'] 47)
            have hC3 := IsRest.alloc (hC.keep hB3) (.cells #[.string (S l'), .int .i64 e'] 47)
            have hN3 := IsRest.new w3 l' e'
            have hB4 := (hBr.trans (hB3.mono hBr.size)).alloc (by have := hB3.size; have := hBr.size; omega) (.cells #[.string (S l'), .int .i64 e'] 47)
            have hs3 := hB3.size
            have hs4 := hC.lt
            have hne : w3.heap.size ≠ w1.heap.size := by omega
            have hsW : w1.heap.size < (w3.alloc (.cells #[.string (S l'), .int .i64 e'] 47)).heap.size := by simp; omega
            clear hB3 hBr hR hC q0 q1 hI hr
            unfold restV
            go_wp2_with fail
            go_region_with (go_at_call 32; refine (HI.out _ (by exact hR3)).mono ?_; rintro x w5 ⟨rfl, hR5, hK0⟩; have hK := Keeps.drew hK0; have hC5 := hC3.keeps hK (by omega); have hN5 := hN3.keeps hK hne; have c0 := hN5.cell0; have c1 := hN5.cell1; have d0 := hC5.cell0; have d1 := hC5.cell1; have f0 := hC5.free 0; have f1 := hC5.free 1)
            all_goals go_wp2_with fail
            all_goals go_roundw
            all_goals first
              | (case rel => exact ⟨k + 1, by go_num, by omega, Both.next (by omega) hb2 hR5 hC5 hB4 hK hB1 hB2 hsW 0⟩)
              | (case measure => simp [RowKit.intOf]; omega)
          · go_wp2_with fail
            refine (refList_any l e wr he (by omega)).mono ?_
            rintro x w3 ⟨va, rfl, hOa, hB3⟩
            have hxl := strs_length l e hl
            have hb := rd_bound [] V.getStrs getStrs_part l e he
            obtain ⟨r, hr⟩ : ∃ r, V.rd [] V.getStrs l e = r := ⟨_, rfl⟩
            have hI := fun w h => list_any w1.heap.size l e w h he (by omega)
            rw [hr]
            rw [hr] at hI hb hOa hxl
            obtain ⟨y, l', e'⟩ := r
            simp only at hb
            obtain ⟨hb1, hb2⟩ := hb
            have HI := Lib.hid hI
            have hR3 := IsReader.alloc (hR.keep hB3) (.cells #[.string (S l'), .int .i64 e'] 47)
            have hC3 := IsRest.alloc (hC.keep hB3) (.cells #[.string (S l'), .int .i64 e'] 47)
            have hN3 := IsRest.new w3 l' e'
            have hB4 := (hBr.trans (hB3.mono hBr.size)).alloc (by have := hB3.size; have := hBr.size; omega) (.cells #[.string (S l'), .int .i64 e'] 47)
            have hs3 := hB3.size
            have hs4 := hC.lt
            have hne : w3.heap.size ≠ w1.heap.size := by omega
            have hsW : w1.heap.size < (w3.alloc (.cells #[.string (S l'), .int .i64 e'] 47)).heap.size := by simp; omega
            simp only at hOa hxl
            have hOa3 := ownsS_alloc hOa (.cells #[.string (S l'), .int .i64 e'] 47)
            obtain ⟨ao0, ca0, hva⟩ := owns_slice hOa
            rw [hva] at hOa3
            rw [hva]
            have HOa := Lib.hid hOa3
            clear hOa hOa3 hva
            clear hB3 hBr hR hC q0 q1 hI hr
            unfold restV
            go_wp2_with fail
            go_region_with (first | (go_at_call 34; refine (HI.out _ (by exact hR3)).mono ?_; rintro x w5 ⟨vb, rfl, hOb, hR5, hK0⟩; have hK := Keeps.drew hK0; have hC5 := hC3.keeps hK (by omega); have hN5 := hN3.keeps hK hne; have c0 := hN5.cell0; have c1 := hN5.cell1; have d0 := hC5.cell0; have d1 := hC5.cell1; have f0 := hC5.free 0; have f1 := hC5.free 1; obtain ⟨bo5, cb5, rfl, hCb⟩ := ownsS_cells hOb; have HCb := Lib.hid hCb; have HOa5 := Lib.hid (ownsS_keeps HOa.out hK (by omega)); clear hOb hCb) | (go_at_call 22; refine (same_eq y _ _ _ _ _ (by exact HCb.out) (by obtain ⟨ao9, cp9, hv9, hc9⟩ := ownsS_cells HOa5.out; injection hv9 with h1 h2 h3; subst h1; exact hc9) hxl).mono ?_; rintro x w6 ⟨rfl, qq, rfl⟩))
            all_goals go_wp2_with fail
            all_goals go_roundw
            all_goals first
              | (case rel => exact ⟨k + 1, by go_num, by omega, Both.next (by omega) hb2 hR5 hC5 hB4 hK hB1 hB2 hsW _⟩)
              | (case measure => simp [RowKit.intOf]; omega)
          · go_wp2_with fail
            go_region_with (first | (go_at_call 35; refine (end_any w1.heap.size l e _ (by first | exact hR | exact IsReader.alloc hR _) he).mono ?_; rintro x w5 ⟨rfl, rfl⟩) | (go_at_call 36; refine (refEnd_any l e _ he).mono ?_; rintro x w6 ⟨rfl, rfl⟩))
            all_goals go_wp2_with fail
            all_goals go_roundw
            all_goals first
              | (case rel => exact ⟨k + 1, by go_num, by omega, l, e, hl, he, IsReader.alloc hR _, IsRest.alloc hC _, (hBr.alloc hBr.size _).drew, hB1, hB2⟩)
              | (case measure => simp [RowKit.intOf]; omega)
        · go_wp2_with fail
          go_region_with (first | (go_at_call 35; refine (end_any w1.heap.size l e _ (by first | exact hR | exact IsReader.alloc hR _) he).mono ?_; rintro x w5 ⟨rfl, rfl⟩) | (go_at_call 36; refine (refEnd_any l e _ he).mono ?_; rintro x w6 ⟨rfl, rfl⟩))
          all_goals go_wp2_with fail
          all_goals go_ret
          all_goals exact ⟨retB (by simp), (hBr.alloc hBr.size _).drew⟩
    · go_enter Try.func9, Try.ntmps9
      go_wp2_with fail
      refine (awake_any _).mono ?_
      rintro e w1 ⟨rfl, hB⟩
      go_wp2_with fail
      refine (awake_any _).mono ?_
      rintro e w2 ⟨rfl, hB2⟩
      go_wp2_with fail
      go_ret
      exact ⟨rfl, hB.trans (hB2.mono hB.size)⟩
  · go_enter Try.func9, Try.ntmps9
    go_wp2_with fail
    refine (awake_any _).mono ?_
    rintro e w1 ⟨rfl, hB⟩
    go_wp2_with fail
    refine (awake_any _).mono ?_
    rintro e w2 ⟨rfl, hB2⟩
    go_wp2_with fail
    go_ret
    exact ⟨rfl, hB.trans (hB2.mono hB.size)⟩

theorem own : ownKnob Try.prog.godebug = none := by kernel_rfl
theorem laidOut : laidOutB Try.prog = true := by kernel_rfl

set_option maxRecDepth 100000 in
theorem lifted (os : Os) (started : os.Started) (H : Type) (enc : TypeId × Value → H) :
    ReturnsInHanded {} Try.checked os 9 .any (Rows.wireReaderSpec.pre6 enc Try.prog Try.f9 Rows.wireReaderRow.domain false) (Rows.wireReaderSpec.post enc Try.prog Try.f9 false true false false) := by
  refine returnsInHanded_of_change (C := Try.checked) own started (by kernel_rfl) Try.func9
    (ChangeSpec.witness6 (enc := enc) (C := Try.checked) false ⟨#[], #[.string ByteArray.empty, .slice none 0 0], []⟩ 8 (by kernel_rfl) (by kernel_rfl) (by kernel_rfl) (by kernel_rfl)) ?_
  intro W base args ds gs before hval0 hW hcnd _
  have hval : ∀ (j : Nat) t v, Try.f9.params[j]? = some t → args[j]? = some v → Value.okWide Try.prog W .any base t v := hval0
  have hW' := hW
  obtain ⟨p, q, hA0, hV, rfl, hfz, hnd⟩ := hW
  have hA : DataW.TrodAll enc Try.prog W 0 (fun _ => true) true Try.f9.params.toList args.toList ds p := hA0
  rw [Try.params9] at hA hval
  obtain ⟨v0, vs0, d0, ds0, p0, q0, hargs, rfl, rfl, h0, r0⟩ := trodAll_cons hA
  obtain ⟨v1, vs1, d1, ds1, p1, q1, rfl, rfl, rfl, h1, r1⟩ := trodAll_cons r0
  obtain ⟨rfl, rfl, rfl⟩ := trodAll_nil r1
  obtain rfl : args = #[v0, v1] := by cases args; simp_all
  obtain ⟨rfl, rfl⟩ := trodVars_none hV
  obtain ⟨a0, rfl, rfl, rfl, w0⟩ := open_string Try.underlying9 (hval 0 9 v0 rfl rfl) h0
  have k1 := h1
  have lt1 : ∀ x ∈ p1, x.block < W.heap.size := by obtain ⟨m, hm⟩ := k1; exact DataW.trod_lt m _ _ _ hm
  obtain ⟨x1, w1⟩ := openBytes (hval 1 43 v1 rfl rfl) h1
  clear hA0 hval0
  refine (walk a0 v1 x1 W w0 w1).mono fun e W' ⟨he, bel⟩ => ?_
  subst he
  exact ⟨_, rfl, _, _, _, [], _, [], hW', trodAll_mk1 (shut_bool Try.underlying4 _), (trodAll_cons_mk (shut_string Try.underlying9 w0) (trodAll_cons_mk (Below.trod laidOut (by kernel_rfl) (of_decide_eq_true (by kernel_rfl)) k1 bel lt1) trodAll_mk0)), rfl, bel.frame _, fun h => by cases h⟩

theorem over : Rows.wireReaderRow.holds Try.pinned (OpenSpec.ofChange Rows.wireReaderSpec) :=
  OpenClaim.holds_of_wide 9 Try.f9 rfl rfl rfl rfl rfl rfl rfl ⟨rfl, rfl, rfl, rfl, rfl⟩ rfl rfl rfl rfl rfl (by kernel_rfl) Try.func9 (by kernel_rfl)
    (of_decide_eq_true (by kernel_rfl)) (by unfold Func.isWrapper; first | (rw [if_pos (by decide +kernel)]; kernel_rfl) | (rw [if_neg (by decide +kernel)]; exact ⟨rfl, rfl⟩))
    (fun os started H enc _ => lifted os started H enc)

/-- the statement -/
theorem proved : Rows.WireReaderSaid := over
#print axioms proved
end Go.Proofs.Ytapembonmcolhaa.wireReader
