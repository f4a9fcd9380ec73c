/-
  A slice of statuses that came in, with the certificates in it.
-/
import Derived.Test.YtnhbgjgfneoajaaDoorRowsIn
import Derived.Test.YtnhbgjgfneoajaaDoorSign
import Derived.SizedLaws
set_option linter.unusedVariables false
namespace Go.Proofs.YtnhbgjgfneoajaaDoor
open Go.ChangeShapes Go.WideShapes Go.ChangeAt Go.RowKit

/-- a status; c: the value of its certificate -/
structure St where
  a : Int
  v : Int
  n : Int
  l : Int
  d : ByteArray
  c : Value
  a2 : Int
  k2 : Int
  v2 : Int
  n2 : Int
  d2 : ByteArray
  s2 : ByteArray
def St.row (s : St) : List Value :=
  [.int .i64 s.a, .int .i64 s.v, .int .i64 s.n, .int .i64 s.l, .string s.d, s.c, .int .i64 s.a2, .int .i64 s.k2, .int .i64 s.v2, .int .i64 s.n2, .string s.d2, .string s.s2]
def St.zero : St := ⟨0, 0, 0, 0, ⟨#[]⟩, .slice none 0 0, 0, 0, 0, 0, ⟨#[]⟩, ⟨#[]⟩⟩

/-- a certificate that came in: a slice of signed statements -/
def CertOk (w : World) (c : Value) : Prop :=
  ∃ ao len cap, c = .slice ao len cap ∧ (ao = none → len = 0 ∧ cap = 0) ∧ len * 64 ≤ 140737488355328 ∧
    ∀ i, i < len → ∃ b off r, ao = some ⟨b, off, none⟩ ∧ b < w.heap.size ∧ r.length = 6 ∧ w.rangeAt b (off + i * 6) r ∧ ∃ a k v n d s, r = sg a k v n d s
theorem CertOk.zero (w : World) : CertOk w (.slice none 0 0) := ⟨none, 0, 0, rfl, fun _ => ⟨rfl, rfl⟩, by simp, fun i hi => by omega⟩
theorem CertOk.keep {B : Nat} {w w' : World} {c : Value} (h : CertOk w c) (hB : Below w.heap.size w w') : CertOk w' c := by
  obtain ⟨ao, len, cap, h1, h2, h3, h4⟩ := h
  refine ⟨ao, len, cap, h1, h2, h3, fun i hi => ?_⟩
  obtain ⟨b, off, r, e1, e2, e3, e4, e5⟩ := h4 i hi
  exact ⟨b, off, r, e1, Nat.lt_of_lt_of_le e2 hB.size, e3, range_keep e4 hB e2, e5⟩

section
variable {H : Type} {enc : TypeId × Value → H} {P : Program} {w : World} {base : Nat} {spare : Nat → Bool} {held : Bool}
/-- the rows of a slice that came in, with what each reads as -/
theorem rows_in2 {t e : TypeId} {fuel k : Nat} {cs : List Value} {x : DataW H × List MemPlace} (ht : P.underlying t = some (.slice e)) (hk : P.cellsOf e = k) (h0 : 0 < k)
    (h : DataW.trod enc P w base spare held fuel t cs = some x) :
    (cs = [.slice none 0 0]) ∨ ∃ a len cap n els rest, cs = [.slice (some a) len cap] ∧ len ≤ cap ∧ cap ≤ maxLen ∧ x.1 = .slice els rest ∧ els.length = len ∧
      ∀ i, i < len → ∃ r y, els[i]? = some y.1 ∧ a = ⟨a.block, a.off, none⟩ ∧ a.block < w.heap.size ∧ r.length = k ∧ w.rangeAt a.block (a.off + i * k) r ∧ DataW.trod enc P w base spare held n e r = some y := by
  rcases DataW.trod_slice ht h with ⟨h1, _⟩ | ⟨a, len, cap, elems, rest, n, _, rfl, hx, hb, hl, hm, hlen, hel, hsp, hns⟩
  · exact Or.inl h1
  · refine Or.inr ⟨a, len, cap, n, elems.map (·.1), rest.map (·.1), rfl, hl, hm, by rw [hx], by simpa using hlen, fun i hi => ?_⟩
    have each : ∀ j, j < len → ∃ r, w.cells? base (a.add (j * k)) k = some r ∧ ∃ y, elems[j]? = some y ∧ DataW.trod enc P w base spare held n e r = some y := fun j hj => by
      have h1 := hel j hj
      rw [List.getElem?_eq_getElem (by omega), Option.bind_eq_some_iff, hk] at h1
      obtain ⟨r, h2, h3⟩ := h1
      exact ⟨r, h2, _, List.getElem?_eq_getElem (by omega), h3⟩
    obtain ⟨r0, hr0, _⟩ := each 0 (by omega)
    have hs : a.spot = none := by
      obtain ⟨_, hl0, hc0⟩ := World.cells?_some hr0
      have h2 := hc0 0 h0
      rw [List.getElem?_eq_getElem (by omega)] at h2
      have h3 := World.cell?_spot h2
      simpa [Addr.add] using h3
    obtain ⟨r, hr, y, hy1, hy⟩ := each i hi
    obtain ⟨q1, q2⟩ := cells_range hr h0 hs
    refine ⟨r, y, by rw [List.getElem?_map, hy1]; rfl, by obtain ⟨b, off, sp⟩ := a; subst hs; rfl, ?_, q1, q2, hy⟩
    have h2 := World.cells?_block hr h0
    obtain ⟨b, off, sp⟩ := a
    subst hs
    rwa [Addr.add_mid] at h2

set_option maxRecDepth 100000 in
/-- six cells that read as a signed statement -/
theorem signed_of {n : Nat} {r : List Value} {y : DataW H × List MemPlace} (h : DataW.trod enc Tryd.prog w base spare held n 34 r = some y) (hl : r.length = 6) : ∃ a k v m d s, r = sg a k v m d s := by
  obtain ⟨xs, n, _, _, _, hxl, hx⟩ := DataW.trod_struct Tryd.underlying34 h
  have c1 : Tryd.prog.cellsOf 3 = 1 := by kernel_rfl
  have c2 : Tryd.prog.cellsOf 9 = 1 := by kernel_rfl
  have hxl6 : xs.length = 6 := hxl
  have x0 : DataW.trod enc Tryd.prog w base spare held n 3 ((r.drop 0).take (Tryd.prog.cellsOf 3)) = xs[0]? := hx 0 _ rfl
  have x1 : DataW.trod enc Tryd.prog w base spare held n 3 ((r.drop 1).take (Tryd.prog.cellsOf 3)) = xs[1]? := hx 1 _ rfl
  have x2 : DataW.trod enc Tryd.prog w base spare held n 3 ((r.drop 2).take (Tryd.prog.cellsOf 3)) = xs[2]? := hx 2 _ rfl
  have x3 : DataW.trod enc Tryd.prog w base spare held n 3 ((r.drop 3).take (Tryd.prog.cellsOf 3)) = xs[3]? := hx 3 _ rfl
  have x4 : DataW.trod enc Tryd.prog w base spare held n 9 ((r.drop 4).take (Tryd.prog.cellsOf 9)) = xs[4]? := hx 4 _ rfl
  have x5 : DataW.trod enc Tryd.prog w base spare held n 9 ((r.drop 5).take (Tryd.prog.cellsOf 9)) = xs[5]? := hx 5 _ rfl
  rw [c1, List.getElem?_eq_getElem (by omega)] at x0 x1 x2 x3
  rw [c2, List.getElem?_eq_getElem (by omega)] at x4 x5
  match r, hl with
  | [v0, v1, v2, v3, v4, v5], _ =>
    obtain ⟨z0, e0, _, _⟩ := DataW.trod_int Tryd.underlying3 x0
    obtain ⟨z1, e1, _, _⟩ := DataW.trod_int Tryd.underlying3 x1
    obtain ⟨z2, e2, _, _⟩ := DataW.trod_int Tryd.underlying3 x2
    obtain ⟨z3, e3, _, _⟩ := DataW.trod_int Tryd.underlying3 x3
    obtain ⟨s4, e4, _, _⟩ := DataW.trod_string Tryd.underlying9 x4
    obtain ⟨s5, e5, _, _⟩ := DataW.trod_string Tryd.underlying9 x5
    simp at e0 e1 e2 e3 e4 e5
    subst e0 e1 e2 e3 e4 e5
    exact ⟨_, _, _, _, _, _, rfl⟩

/-- a slice of signed statements that came in -/
theorem cert_of {n : Nat} {c : Value} {y : DataW H × List MemPlace} (h : DataW.trod enc Tryd.prog w base spare held n 32 [c] = some y)
    (hw : ∀ els rest, y.1 = .slice els rest → els.length * 64 ≤ 140737488355328) : CertOk w c := by
  rcases rows_in2 Tryd.underlying32 (show Tryd.prog.cellsOf 34 = 6 by kernel_rfl) (by omega) h with hcs | ⟨a, len, cap, m, els, rest, hcs, _, _, hy, hel, hr⟩
  · simp at hcs
    subst hcs
    exact CertOk.zero w
  · simp at hcs
    subst hcs
    refine ⟨some a, len, cap, rfl, (fun h => by cases h), (by have := hw els rest hy; rw [hel] at this; exact this), fun i hi => ?_⟩
    obtain ⟨r, z, _, e1, e2, e3, e4, e5⟩ := hr i hi
    exact ⟨a.block, a.off, r, by rw [← e1], e2, e3, e4, signed_of e5 e3⟩

set_option maxRecDepth 100000 in
/-- twelve cells that read as a status -/
theorem status_of {n : Nat} {r : List Value} {y : DataW H × List MemPlace} (h : DataW.trod enc Tryd.prog w base spare held n 36 r = some y) (hl : r.length = 12)
    (hw : ∀ parts els rest, y.1 = .agg parts → parts[5]? = some (.slice els rest) → els.length * 64 ≤ 140737488355328) :
    ∃ s : St, r = s.row ∧ CertOk w s.c ∧ (-9223372036854775808 ≤ s.a ∧ s.a ≤ 9223372036854775807) ∧ (-9223372036854775808 ≤ s.n ∧ s.n ≤ 9223372036854775807) ∧ (-9223372036854775808 ≤ s.l ∧ s.l ≤ 9223372036854775807) := by
  obtain ⟨xs, n, _, hy, _, hxl, hx⟩ := DataW.trod_struct Tryd.underlying36 h
  have c1 : Tryd.prog.cellsOf 3 = 1 := by kernel_rfl
  have c2 : Tryd.prog.cellsOf 9 = 1 := by kernel_rfl
  have c3 : Tryd.prog.cellsOf 32 = 1 := by kernel_rfl
  have c4 : Tryd.prog.cellsOf 34 = 6 := by kernel_rfl
  have hxl7 : xs.length = 7 := hxl
  have x0 : DataW.trod enc Tryd.prog w base spare held n 3 ((r.drop 0).take (Tryd.prog.cellsOf 3)) = xs[0]? := hx 0 _ rfl
  have x1 : DataW.trod enc Tryd.prog w base spare held n 3 ((r.drop 1).take (Tryd.prog.cellsOf 3)) = xs[1]? := hx 1 _ rfl
  have x2 : DataW.trod enc Tryd.prog w base spare held n 3 ((r.drop 2).take (Tryd.prog.cellsOf 3)) = xs[2]? := hx 2 _ rfl
  have x3 : DataW.trod enc Tryd.prog w base spare held n 3 ((r.drop 3).take (Tryd.prog.cellsOf 3)) = xs[3]? := hx 3 _ rfl
  have x4 : DataW.trod enc Tryd.prog w base spare held n 9 ((r.drop 4).take (Tryd.prog.cellsOf 9)) = xs[4]? := hx 4 _ rfl
  have x5 : DataW.trod enc Tryd.prog w base spare held n 32 ((r.drop 5).take (Tryd.prog.cellsOf 32)) = xs[5]? := hx 5 _ rfl
  have x6 : DataW.trod enc Tryd.prog w base spare held n 34 ((r.drop 6).take (Tryd.prog.cellsOf 34)) = xs[6]? := hx 6 _ rfl
  rw [c1, List.getElem?_eq_getElem (by omega)] at x0 x1 x2 x3
  rw [c2, List.getElem?_eq_getElem (by omega)] at x4
  rw [c3, List.getElem?_eq_getElem (by omega)] at x5
  rw [c4, List.getElem?_eq_getElem (by omega)] at x6
  match r, hl with
  | [v0, v1, v2, v3, v4, v5, v6, v7, v8, v9, v10, v11], _ =>
    obtain ⟨z0, e0, _, b0⟩ := DataW.trod_int Tryd.underlying3 x0
    obtain ⟨z1, e1, _, _⟩ := DataW.trod_int Tryd.underlying3 x1
    obtain ⟨z2, e2, _, b2⟩ := DataW.trod_int Tryd.underlying3 x2
    obtain ⟨z3, e3, _, b3⟩ := DataW.trod_int Tryd.underlying3 x3
    obtain ⟨s4, e4, _, _⟩ := DataW.trod_string Tryd.underlying9 x4
    have x5' : DataW.trod enc Tryd.prog w base spare held n 32 [v5] = some xs[5] := x5
    have hc : CertOk w v5 := cert_of x5' (fun els rest he => by
      refine hw _ els rest (by rw [hy]) ?_
      rw [List.getElem?_map, List.getElem?_eq_getElem (by omega), Option.map_some, he])
    obtain ⟨a, k, v, m, d, s, e6⟩ := signed_of x6 rfl
    simp at e0 e1 e2 e3 e4
    subst e0 e1 e2 e3 e4
    have e6' : [v6, v7, v8, v9, v10, v11] = sg a k v m d s := e6
    injection e6' with q0 e6'
    injection e6' with q1 e6'
    injection e6' with q2 e6'
    injection e6' with q3 e6'
    injection e6' with q4 e6'
    injection e6' with q5 e6'
    subst q0 q1 q2 q3 q4 q5
    have fi : ∀ z : Int, (Lit.int .i64 z).wf = true → -9223372036854775808 ≤ z ∧ z ≤ 9223372036854775807 := fun z hz => by
      simpa [Lit.wf, IntKind.min, IntKind.max, IntKind.signed, IntKind.bits] using hz
    exact ⟨⟨z0, z1, z2, z3, s4, v5, a, k, v, m, d, s⟩, rfl, hc, fi _ b0, fi _ b2, fi _ b3⟩
end
end Go.Proofs.YtnhbgjgfneoajaaDoor
