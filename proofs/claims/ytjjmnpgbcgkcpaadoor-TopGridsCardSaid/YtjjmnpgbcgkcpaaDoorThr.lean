/-
  The threshold of some expressions: their nodes, one behind the other, and a node on top.
-/
import Derived.Test.YtjjmnpgbcgkcpaaDoorServers
import Derived.Deep.MidRow
set_option linter.unusedVariables false
namespace Go.Proofs.YtjjmnpgbcgkcpaaDoor
open Go.RowKit

namespace T
def shift (base : Nat) (d : Nd) : Nd := ⟨d.kind, d.server, d.need, d.kids.map fun k => k + (base : Int)⟩
def step (st : List Nd × List Int) (x : Ex) : List Nd × List Int := (st.1 ++ x.1.map (shift st.1.length), st.2 ++ [(st.1.length : Int) + x.2])
def fold (l : List Ex) : List Nd × List Int := l.foldl step ([], [])
def thr (need : Int) (l : List Ex) : Ex := ((fold l).1 ++ [⟨2, 0, need, (fold l).2⟩], ((fold l).1.length : Int))
theorem fold_snoc (l : List Ex) (x : Ex) : fold (l ++ [x]) = step (fold l) x := by unfold fold; rw [List.foldl_append]; rfl
def Small (l : List Ex) : Prop := l.length ≤ 100 ∧ ∀ x, x ∈ l → x.1.length ≤ 100 ∧ (0 ≤ x.2 ∧ x.2 ≤ 1000) ∧ ∀ d, d ∈ x.1 → d.kids.length ≤ 100 ∧ ∀ k, k ∈ d.kids → 0 ≤ k ∧ k ≤ 1000
theorem fold_len : ∀ (n : Nat) (l : List Ex), l.length = n → (∀ x, x ∈ l → x.1.length ≤ 100) → (fold l).1.length ≤ 100 * n ∧ (fold l).2.length = n
  | 0, l, h, _ => by
    have e := List.length_eq_zero_iff.1 h
    subst e
    exact ⟨Nat.le_refl _, rfl⟩
  | n + 1, l, h, hx => by
    obtain ⟨l', x, rfl⟩ : ∃ l' x, l = l' ++ [x] := ⟨l.dropLast, l.getLast (by intro e; subst e; simp at h), (List.dropLast_concat_getLast _).symm⟩
    have h1 := fold_len n l' (by simpa using h) (fun y hy => hx y (List.mem_append_left _ hy))
    have h2 := hx x (by simp)
    rw [fold_snoc]
    unfold step
    simp only [List.length_append, List.length_map, List.length_cons, List.length_nil]
    omega
def adds (base : Nat) (ks : List Int) (m : Nat) : List Int := (ks.take m).map (fun k => k + (base : Int)) ++ ks.drop m
theorem adds_zero (base : Nat) (ks : List Int) : adds base ks 0 = ks := by simp [adds]
theorem adds_len (base : Nat) (ks : List Int) (m : Nat) : (adds base ks m).length = ks.length := by simp [adds]; omega
theorem adds_all (base : Nat) (ks : List Int) : adds base ks ks.length = ks.map (fun k => k + (base : Int)) := by simp [adds]
theorem adds_get (base : Nat) (ks : List Int) (m : Nat) (hm : m < ks.length) : (adds base ks m)[m]? = some ks[m] := by
  unfold adds
  rw [List.getElem?_append_right (by simp; omega)]
  have e : m - (List.map (fun k => k + (base : Int)) (ks.take m)).length = 0 := by simp; omega
  rw [e, List.drop_eq_getElem_cons hm]
  rfl
theorem adds_set (base : Nat) (ks : List Int) (m : Nat) (hm : m < ks.length) : (adds base ks m).set m (ks[m] + (base : Int)) = adds base ks (m + 1) := by
  unfold adds
  rw [List.set_append_right _ _ (by simp; omega), ← List.take_append_getElem hm, List.drop_eq_getElem_cons hm, List.map_append, List.append_assoc]
  have e : m - (List.map (fun k => k + (base : Int)) (ks.take m)).length = 0 := by simp; omega
  rw [e]
  rfl
end T

theorem OwnNodes.push {B : Nat} {nv nv' kv : Value} {P : List (Nd × Value)} {d : Nd} {u w1 : World} (h : OwnNodes B nv P u) (hk : OwnsI B kv d.kids u) (hg : u.grownBy w1 nv.ownBlock)
    (ho : w1.ownsRow B 59 5 nv' (P.length + 1) ((P.flatMap fun p => ndRow p.1 p.2) ++ ndRow d kv)) : OwnNodes B nv' (P ++ [(d, kv)]) w1 := by
  refine ⟨?_, fun p hp => ?_⟩
  · rw [List.length_append, List.flatMap_append]
    simpa using ho
  · have hk2 : ∀ q : Nd × Value, OwnsI B q.2 q.1.kids u → OwnsI B q.2 q.1.kids w1 := fun q hq => World.ownsRow.kept hq hg (rows_apart hq h.1 (by decide))
    rcases List.mem_append.1 hp with h1 | h1
    · exact hk2 p (h.2 p h1)
    · obtain rfl : p = (d, kv) := by simpa using h1
      exact hk2 (d, kv) hk

/-- where a threshold is being built -/
structure TI (w : World) (need : Int) (P : List (Nd × Value)) (ks : List Int) (nv kv : Value) (u : World) : Prop where
  res : Blk w.heap.size [.slice none 0 0, .int .i64 0] 24 u
  out : Blk (w.heap.size + 1) [nv, .int .i64 0] 24 u
  top : Blk (w.heap.size + 2) (ndRow ⟨2, 0, need, ks⟩ kv) 59 u
  nodes : OwnNodes w.heap.size nv P u
  kids : OwnsI w.heap.size kv ks u
  apart : ∀ p, p ∈ P → p.2.ownBlock = none ∨ p.2.ownBlock ≠ kv.ownBlock
  apart2 : nv.ownBlock ≠ some (w.heap.size + 2)
  below : Below w.heap.size w u
theorem TI.keep {w : World} {need : Int} {P : List (Nd × Value)} {ks : List Int} {nv kv : Value} {u u' : World} (h : TI w need P ks nv kv u) (hB : Below u.heap.size u u') : TI w need P ks nv kv u' :=
  ⟨h.res.keep hB, h.out.keep hB, h.top.keep hB, h.nodes.keep hB, own_keep h.kids hB, h.apart, h.apart2, h.below.trans (hB.mono h.below.size)⟩
theorem Blk.grown {b : Nat} {l : List Value} {T : TypeId} {w w' : World} {row : Option Nat} (h : Blk b l T w) (hg : w.grownBy w' row) (hne : some b ≠ row) : Blk b l T w' := (hg.block b h.lt hne).trans h
theorem ne_row {w : World} {b : Nat} {l : List Value} {t e : TypeId} {B k n : Nat} {v : Value} {xs : List Value} (h : Blk b l t w) (hr : w.ownsRow B e k v n xs) (hne : t ≠ e) : some b ≠ v.ownBlock := by
  rcases not_row h hr hne with h1 | h1
  · rw [h1]; intro e; cases e
  · exact fun e => h1 e.symm
/-- a node more -/
theorem TI.node {w : World} {need : Int} {P : List (Nd × Value)} {ks : List Int} {nv kv kv' : Value} {u w1 : World} {d : Nd} {g cap n : Nat} (h : TI w need P ks nv kv u) (hk : OwnsI w.heap.size kv' d.kids u)
    (hap : kv'.ownBlock = none ∨ kv'.ownBlock ≠ kv.ownBlock) (hg : u.grownBy w1 nv.ownBlock)
    (ho : w1.ownsRow w.heap.size 59 5 (.slice (some ⟨g, 0, none⟩) n cap) (P.length + 1) ((P.flatMap fun p => ndRow p.1 p.2) ++ ndRow d kv')) (hb : nv.ownBlock = some g ∨ g = u.heap.size) :
    TI w need (P ++ [(d, kv')]) ks (.slice (some ⟨g, 0, none⟩) n cap) kv (w1.setCell ⟨w.heap.size + 1, 0, none⟩ (.slice (some ⟨g, 0, none⟩) n cap)) := by
  have r1 := h.res.grown hg (ne_row h.res h.nodes.1 (by decide))
  have r2 := h.out.grown hg (ne_row h.out h.nodes.1 (by decide))
  have r3 := h.top.grown hg (fun e => h.apart2 e.symm)
  have r4 := h.nodes.push hk hg ho
  have r5 : OwnsI w.heap.size kv ks w1 := World.ownsRow.kept h.kids hg (rows_apart h.kids h.nodes.1 (by decide))
  have hg2 := grown_set w1 (w.heap.size + 1) 0 (.slice (some ⟨g, 0, none⟩) n cap)
  refine ⟨r1.other _ _ (by omega), ?_, r3.other _ _ (by omega), r4.kept hg2 (not_row r2 r4.1 (by decide)) (fun p hp => not_row r2 (r4.2 p hp) (by decide)), World.ownsRow.kept r5 hg2 (not_row r2 r5 (by decide)), fun p hp => ?_, ?_, ?_⟩
  · exact r2.set 0 _
  · rcases List.mem_append.1 hp with h1 | h1
    · exact h.apart p h1
    · obtain rfl : p = (d, kv') := by simpa using h1
      exact hap
  · rcases hb with hb | hb
    · intro e
      exact h.apart2 (hb.trans e)
    · intro e
      have e2 : g = w.heap.size + 2 := Option.some.inj e
      have := h.top.lt
      omega
  · refine (h.below.grown hg h.below.size (fun k hk => (h.nodes.1.lt k hk).1)).setCell (p := ⟨w.heap.size + 1, 0, none⟩) (Nat.le_succ _) _
/-- a kid more -/
theorem TI.kid {w : World} {need : Int} {P : List (Nd × Value)} {ks : List Int} {nv kv : Value} {u w1 : World} {k : Int} {g cap n : Nat} (h : TI w need P ks nv kv u) (hg : u.grownBy w1 kv.ownBlock)
    (ho : w1.ownsRow w.heap.size 3 1 (.slice (some ⟨g, 0, none⟩) n cap) (ks.length + 1) (ks.map (Value.int .i64) ++ [.int .i64 k])) (hb : kv.ownBlock = some g ∨ g = u.heap.size) :
    TI w need P (ks ++ [k]) nv (.slice (some ⟨g, 0, none⟩) n cap) (w1.setCell ⟨w.heap.size + 2, 4, none⟩ (.slice (some ⟨g, 0, none⟩) n cap)) := by
  have r1 := h.res.grown hg (ne_row h.res h.kids (by decide))
  have r2 := h.out.grown hg (ne_row h.out h.kids (by decide))
  have r3 := h.top.grown hg (ne_row h.top h.kids (by decide))
  have r4 : OwnNodes w.heap.size nv P w1 := h.nodes.kept hg (rows_apart h.nodes.1 h.kids (by decide)) h.apart
  have r5 : OwnsI w.heap.size (.slice (some ⟨g, 0, none⟩) n cap) (ks ++ [k]) w1 := app_ints ho
  have hg2 := grown_set w1 (w.heap.size + 2) 4 (.slice (some ⟨g, 0, none⟩) n cap)
  refine ⟨r1.other _ _ (by omega), r2.other _ _ (by omega), ?_, r4.kept hg2 (Or.inr h.apart2) (fun p hp => not_row r3 (r4.2 p hp) (by decide)), World.ownsRow.kept r5 hg2 (not_row r3 r5 (by decide)), fun p hp => ?_, h.apart2, ?_⟩
  · exact r3.set 4 _
  · rcases hb with hb | hb
    · rcases h.apart p hp with h1 | h1
      · exact .inl h1
      · exact .inr (by rw [hb] at h1; exact h1)
    · rw [hb]
      exact own_lt (h.nodes.2 p hp) _ (Nat.le_refl _)
  · exact (h.below.grown hg h.below.size (fun k hk => (h.kids.lt k hk).1)).setCell (p := ⟨w.heap.size + 2, 4, none⟩) (by show w.heap.size ≤ w.heap.size + 2; omega) _

end Go.Proofs.YtjjmnpgbcgkcpaaDoor
