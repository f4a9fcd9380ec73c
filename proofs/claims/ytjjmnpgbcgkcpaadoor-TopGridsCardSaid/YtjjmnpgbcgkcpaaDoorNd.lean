/-
  Expressions in memory: nodes without weights; appending one element.
-/
import Derived.Test.YtjjmnpgbcgkcpaaDoorVec
import Derived.Test.YtjjmnpgbcgkcpaaDoorBlk
import Derived.Test.YtjjmnpgbcgkcpaaDoorShelf
import Derived.Laws.OwnMore
import Derived.Laws.Tables
import Derived.Laws.ResultCell
set_option linter.unusedVariables false
namespace Go.Proofs.YtjjmnpgbcgkcpaaDoor
open Go.RowKit

/-- a node of an expression, without weights -/
structure Nd where
  kind : Int
  server : Int
  need : Int
  kids : List Int
abbrev Ex := List Nd × Int

def ndRow (d : Nd) (kv : Value) : List Value := [.int .i64 d.kind, .int .i64 d.server, .int .i64 d.need, .slice none 0 0, kv]
def exRow (x : Ex) (nv : Value) : List Value := [nv, .int .i64 x.2]

theorem range_keep {w w' : World} {b o : Nat} {cs : List Value} (h : w.rangeAt b o cs) (hB : Below w.heap.size w w') : w'.rangeAt b o cs := fun j v hj => by
  have h1 := h j v hj
  exact (hB.cell (cell_lt h1)).trans h1

/-- v is a slice that reads as these nodes -/
def NodesRd (w : World) (v : Value) (ns : List Nd) : Prop := ∃ b cap, v = .slice (some ⟨b, 0, none⟩) ns.length cap ∧ ∀ i d, ns[i]? = some d → ∃ kv, w.rangeAt b (i * 5) (ndRow d kv) ∧ Ints w kv d.kids
theorem NodesRd.keep {w w' : World} {v : Value} {ns : List Nd} (h : NodesRd w v ns) (hB : Below w.heap.size w w') : NodesRd w' v ns := by
  obtain ⟨b, cap, e, h1⟩ := h
  refine ⟨b, cap, e, fun i d hi => ?_⟩
  obtain ⟨kv, h2, h3⟩ := h1 i d hi
  exact ⟨kv, range_keep h2 hB, h3.keep hB⟩

/-! ### rows of memory that the call itself has made -/

theorem not_row {w : World} {b : Nat} {l : List Value} {t e : TypeId} {B k n : Nat} {v : Value} {xs : List Value} (h : Blk b l t w) (hr : w.ownsRow B e k v n xs) (hne : t ≠ e) : v.ownBlock = none ∨ v.ownBlock ≠ some b := by
  rcases hr.2 with ⟨rfl, _⟩ | ⟨g, cap, cur, rfl, _, hg, _⟩
  · exact .inl rfl
  · refine .inr fun e1 => ?_
    have e2 : g = b := Option.some.inj e1
    subst e2
    unfold Blk at h
    rw [h] at hg
    injection hg with hg
    injection hg with _ hg _
    exact hne hg
theorem rows_apart {w : World} {e e2 : TypeId} {B k n B2 k2 n2 : Nat} {v v2 : Value} {xs xs2 : List Value} (h : w.ownsRow B e k v n xs) (h2 : w.ownsRow B2 e2 k2 v2 n2 xs2) (hne : e ≠ e2) : v.ownBlock = none ∨ v.ownBlock ≠ v2.ownBlock := by
  rcases h.2 with ⟨rfl, _⟩ | ⟨g, cap, cur, rfl, _, hg, _⟩
  · exact .inl rfl
  · refine .inr fun e1 => ?_
    rcases h2.2 with ⟨rfl, _⟩ | ⟨g2, cap2, cur2, rfl, _, hg2, _⟩
    · cases e1
    · have e3 : g = g2 := Option.some.inj e1
      subst e3
      rw [hg] at hg2
      injection hg2 with hg2
      injection hg2 with _ hg2 _
      exact hne hg2
theorem own_low {w : World} {e : TypeId} {B B' k n : Nat} {v : Value} {xs : List Value} (h : w.ownsRow B e k v n xs) (hB : B' ≤ B) : w.ownsRow B' e k v n xs := by
  refine ⟨h.1, ?_⟩
  rcases h.2 with h1 | ⟨g, cap, cur, hv, h2, h3⟩
  · exact .inl h1
  · exact .inr ⟨g, cap, cur, hv, Nat.le_trans hB h2, h3⟩
theorem own_keep {w w' : World} {e : TypeId} {B k n : Nat} {v : Value} {xs : List Value} (h : w.ownsRow B e k v n xs) (hB : Below w.heap.size w w') : w'.ownsRow B e k v n xs :=
  h.kept ⟨hB.os, hB.tape, hB.output, hB.size, fun i hi _ => hB.block i hi⟩ (Or.elim h.2 (fun h1 => .inl (by rw [h1.1]; rfl)) (fun ⟨g, cap, cur, hv, _⟩ => .inr (by rw [hv]; exact fun h => by cases h)) : v.ownBlock = none ∨ v.ownBlock ≠ none)
theorem own_lt {w : World} {e : TypeId} {B k n : Nat} {v : Value} {xs : List Value} (h : w.ownsRow B e k v n xs) (b : Nat) (hb : w.heap.size ≤ b) : v.ownBlock = none ∨ v.ownBlock ≠ some b := by
  cases hv : v.ownBlock with
  | none => exact .inl rfl
  | some g => exact .inr (fun e => by have := (h.lt g hv).2; injection e with e; omega)
theorem grown_set (w : World) (b j : Nat) (v : Value) : w.grownBy (w.setCell ⟨b, j, none⟩ v) (some b) :=
  ⟨rfl, rfl, rfl, by simp [World.setCell], fun k _ hk => Below.heap_setCell _ _ _ k (fun e => hk (by rw [e]))⟩
theorem grown_alloc (w : World) (o : Obj) (row : Option Nat) : w.grownBy (w.alloc o) row := World.grownBy_alloc w o row

/-- what is told of an element's type -/
def ElemOk (P : Program) (t e : TypeId) (size : Nat) : Prop := P.underlying t = some (.slice e) ∧ ∃ i z, P.info? e = some i ∧ i.zero = some z ∧ i.size = size ∧ z.cells.size = size ∧ 0 < size ∧ i.bytes ≤ 1000
theorem elem_of {P : Program} {t e : TypeId} {size bytes : Nat} {z : Value} (ht : P.underlying t = some (.slice e)) (h : (P.info? e).map (fun i => (i.zero, i.size, i.bytes)) = some (some z, size, bytes)) (hz : z.cells.size = size) (h0 : 0 < size) (hb : bytes ≤ 1000) : ElemOk P t e size := by
  obtain ⟨i0, hi, hz0, hz1, hz2⟩ := info_parts h
  exact ⟨ht, i0, z, hi, hz0, hz1, hz, h0, by omega⟩

theorem run_app1 {P : Program} (w : World) (base : Nat) (t ty e : TypeId) (size : Nat) (he : ElemOk P t e size)
    (v : Value) (n : Nat) (xs : List Value) (hown : w.ownsRow base e size v n xs)
    (a : Addr) (c : Nat) (news : List Value) (hl : news.length = size) (hnews : ∀ j u, news[j]? = some u → w.cell? (a.add j) = some u) (h1 : ∀ u ∈ news, u.oneCell' = true)
    (hn : n < 100000) (hbase : base ≤ w.heap.size) :
    ∃ g cap w', (Builtin.append_ #[t, t] ty #[v, .slice (some a) 1 c]).run P w = .ok (.slice (some ⟨g, 0, none⟩) (n + 1) cap) w' ∧ w'.ownsRow base e size (.slice (some ⟨g, 0, none⟩) (n + 1) cap) (n + 1) (xs ++ news) ∧ w.grownBy w' v.ownBlock ∧
      (v.ownBlock = some g ∨ g = w.heap.size) := by
  obtain ⟨ht, i, z, hi, hz, hsz, hzs, hpos, hby⟩ := he
  subst hsz
  have hm : n + 1 ≤ maxLen := by unfold maxLen; omega
  have hbb : (n + 1) * i.bytes ≤ 140737488355328 := Nat.le_trans (Nat.mul_le_mul (show n + 1 ≤ 100000 by omega) hby) (by decide)
  obtain ⟨v', w', hr, ho, hg, hnil⟩ := run_append_own (P := P) w base t ty e i z i.size i.bytes ht hi hz rfl rfl hzs hpos v n xs hown a 1 c news (by rw [hl, Nat.one_mul]) hnews h1 hm hbb hbase
  have hx : ∃ g cap, v' = .slice (some ⟨g, 0, none⟩) (n + 1) cap ∧ (v.ownBlock = some g ∨ g = w.heap.size) := by
    rcases hown.2 with ⟨rfl, rfl⟩ | ⟨g, cap, cur, rfl, hbg, hgc, hnc, hcm, hcs, htake⟩
    · have hr2 := run_append_nil (P := P) w t ty e i z ht hi hz a 1 c news (by rw [hl, Nat.one_mul]) hnews (by omega) (by omega) (by omega)
      rw [hr] at hr2
      injection hr2 with hv _
      exact ⟨_, _, hv, .inr rfl⟩
    · by_cases hroom : n + 1 ≤ cap
      · have hfit : n * i.size + news.length ≤ cur.size := by
          rw [hl, hcs]
          have := Nat.mul_le_mul_right i.size hroom
          rw [Nat.succ_mul] at this
          exact this
        have hr2 := run_append_room (P := P) w t ty e i ht hi g n cap cur hgc a 1 c news (by rw [hl, Nat.one_mul]) hnews h1 hroom hfit
        rw [hr] at hr2
        injection hr2 with hv _
        exact ⟨g, _, hv, .inl rfl⟩
      · have holds : ∀ j u, xs[j]? = some u → w.cell? ((⟨g, 0, none⟩ : Addr).add j) = some u := hown.cells (g := g) rfl
        have hr2 := run_append_grow (P := P) w t ty e i z ht hi hz ⟨g, 0, none⟩ n cap xs hown.1 holds a 1 c news (by rw [hl, Nat.one_mul]) hnews (by omega) (by unfold maxLen at hm; omega) (growslice_fits (by omega) hbb)
        rw [hr] at hr2
        injection hr2 with hv _
        exact ⟨_, _, hv, .inr rfl⟩
  obtain ⟨g, cap, rfl, hb⟩ := hx
  exact ⟨g, cap, w', hr, ho, hg, hb⟩

/-- appending one element to a slice of the call's own -/
theorem wpList_app1 {P : Program} {w : World} {ops : Array Oper} {rest : List Oper} {o : Oper} {a : Act} {Q : Exit → Act → World → Prop} (hgd : o.guard = none) (s x : Operand) (t : TypeId)
    (ho : o.op = .call { callee := .builtin .append, args := #[s, x], argTypes := #[t, t] })
    (base : Nat) (e : TypeId) (size : Nat) (he : ElemOk P t e size)
    (v : Value) (n : Nat) (xs : List Value) (hs : a.eval s = v) (hown : w.ownsRow base e size v n xs)
    (ad : Addr) (c : Nat) (news : List Value) (hx : a.eval x = .slice (some ad) 1 c) (hl : news.length = size) (hnews : ∀ j u, news[j]? = some u → w.cell? (ad.add j) = some u) (h1 : ∀ u ∈ news, u.oneCell' = true)
    (hn : n < 100000) (hbase : base ≤ w.heap.size)
    (h : ∀ g cap w', w'.ownsRow base e size (.slice (some ⟨g, 0, none⟩) (n + 1) cap) (n + 1) (xs ++ news) → w.grownBy w' v.ownBlock → (v.ownBlock = some g ∨ g = w.heap.size) → wpList P ops Q rest (a.put o.dst (.slice (some ⟨g, 0, none⟩) (n + 1) cap)) w') :
    wpList P ops Q (o :: rest) a w := by
  obtain ⟨g, cap, w', hr, h2, h3, h4⟩ := run_app1 (P := P) w base t o.type e size he v n xs hown ad c news hl hnews h1 hn hbase
  refine wpList_plain hgd fun K hK => ?_
  unfold Oper.wp
  simp [execOp, ho, resolve, invoke, builtin, hs, hx, hr, Result.andThen]
  exact hK _ _ (h g cap w' h2 h3 h4)

theorem elemInt : ElemOk Tryd.prog 40 3 1 := elem_of Tryd.underlying40 infoInt rfl (by decide) (by decide)
theorem infoNode : (Tryd.prog.info? 59).map (fun i => (i.zero, i.size, i.bytes)) = some (some (.agg #[.int .i64 0, .int .i64 0, .int .i64 0, .slice none 0 0, .slice none 0 0]), 5, 72) := by kernel_rfl
theorem elemNode : ElemOk Tryd.prog 22 59 5 := elem_of Tryd.underlying22 infoNode rfl (by decide) (by decide)
theorem infoExpr : (Tryd.prog.info? 24).map (fun i => (i.zero, i.size, i.bytes)) = some (some (.agg #[.slice none 0 0, .int .i64 0]), 2, 32) := by kernel_rfl
theorem elemExpr : ElemOk Tryd.prog 38 24 2 := elem_of Tryd.underlying38 infoExpr rfl (by decide) (by decide)

/-- the cells of a new block -/
theorem blk_new_cells (w : World) (l : List Value) (T : TypeId) : ∀ j u, l[j]? = some u → (w.alloc (.cells l.toArray T)).cell? ((⟨w.heap.size, 0, none⟩ : Addr).add j) = some u := by
  intro j u hj
  rw [Addr.add_mid, Nat.zero_add]
  exact ((Blk.new l T w).cell j).trans hj

/-! ### lists of nodes and of expressions that the call itself has made -/

theorem flat_get {α : Type} (f : α → List Value) (k : Nat) (hk : ∀ x, (f x).length = k) (j : Nat) (hj : j < k) : ∀ (l : List α) (i : Nat), (l.flatMap f)[i * k + j]? = (l[i]?).bind fun x => (f x)[j]?
  | [], i => by simp
  | x :: l, 0 => by
    rw [List.flatMap_cons, Nat.zero_mul, Nat.zero_add, List.getElem?_append_left (by rw [hk]; exact hj)]
    rfl
  | x :: l, i + 1 => by
    rw [List.flatMap_cons, List.getElem?_append_right (by rw [hk, Nat.succ_mul]; omega), hk]
    have e : (i + 1) * k + j - k = i * k + j := by rw [Nat.succ_mul]; omega
    rw [e, flat_get f k hk j hj l i]
    rfl
theorem own_range {w : World} {B : Nat} {e : TypeId} {α : Type} (f : α → List Value) (k : Nat) (hk : ∀ x, (f x).length = k) {v : Value} {l : List α} (h : w.ownsRow B e k v l.length (l.flatMap f)) {g cap : Nat} (hv : v = .slice (some ⟨g, 0, none⟩) l.length cap) (i : Nat) (x : α) (hi : l[i]? = some x) : w.rangeAt g (i * k) (f x) := by
  intro j u hj
  have hjk : j < k := by rw [← hk x]; exact (List.getElem?_eq_some_iff.1 hj).1
  have h1 := flat_get f k hk j hjk l i
  rw [hi] at h1
  have h2 := h.cells (g := g) (by rw [hv]; rfl) (i * k + j) u (by rw [h1]; exact hj)
  rw [Addr.add_mid, Nat.zero_add] at h2
  exact h2

def OwnNodes (B : Nat) (v : Value) (l : List (Nd × Value)) (w : World) : Prop := w.ownsRow B 59 5 v l.length (l.flatMap fun p => ndRow p.1 p.2) ∧ ∀ p, p ∈ l → OwnsI B p.2 p.1.kids w
theorem OwnNodes.rd {B : Nat} {v : Value} {l : List (Nd × Value)} {w : World} (h : OwnNodes B v l w) (h0 : 0 < l.length) : NodesRd w v (l.map (·.1)) := by
  have hb : ∃ g cap, v = .slice (some ⟨g, 0, none⟩) l.length cap := by
    rcases h.1.2 with ⟨_, h1⟩ | ⟨g, cap, cur, hv, _⟩
    · omega
    · exact ⟨g, cap, hv⟩
  obtain ⟨g, cap, hv⟩ := hb
  refine ⟨g, cap, by rw [hv, List.length_map], fun i d hd => ?_⟩
  rw [List.getElem?_map] at hd
  obtain ⟨p, hp, rfl⟩ := Option.map_eq_some_iff.1 hd
  exact ⟨p.2, own_range (fun p : Nd × Value => ndRow p.1 p.2) 5 (fun _ => rfl) h.1 hv i p hp, ownsI_ints (h.2 p (List.mem_of_getElem? hp))⟩
theorem OwnNodes.kept {B : Nat} {v : Value} {l : List (Nd × Value)} {w w' : World} {row : Option Nat} (h : OwnNodes B v l w) (hg : w.grownBy w' row) (hv : v.ownBlock = none ∨ v.ownBlock ≠ row) (hk : ∀ p, p ∈ l → p.2.ownBlock = none ∨ p.2.ownBlock ≠ row) : OwnNodes B v l w' :=
  ⟨h.1.kept hg hv, fun p hp => World.ownsRow.kept (h.2 p hp) hg (hk p hp)⟩
theorem OwnNodes.keep {B : Nat} {v : Value} {l : List (Nd × Value)} {w w' : World} (h : OwnNodes B v l w) (hB : Below w.heap.size w w') : OwnNodes B v l w' :=
  ⟨own_keep h.1 hB, fun p hp => own_keep (h.2 p hp) hB⟩
theorem OwnNodes.nil (B : Nat) (w : World) : OwnNodes B (.slice none 0 0) [] w := ⟨World.ownsRow_nil _ _ _ _, fun p hp => by cases hp⟩

/-- v is a slice of memory that the program has made, of these nodes -/
def NodesAt (w : World) (v : Value) (ns : List Nd) : Prop := ∃ l : List (Nd × Value), OwnNodes 0 v l w ∧ l.map (·.1) = ns ∧ 0 < l.length
theorem NodesAt.rd {w : World} {v : Value} {ns : List Nd} (h : NodesAt w v ns) : NodesRd w v ns := by
  obtain ⟨l, h1, rfl, h0⟩ := h
  exact h1.rd h0
theorem NodesAt.keep {w w' : World} {v : Value} {ns : List Nd} (h : NodesAt w v ns) (hB : Below w.heap.size w w') : NodesAt w' v ns := by
  obtain ⟨l, h1, h2, h0⟩ := h
  exact ⟨l, h1.keep hB, h2, h0⟩
theorem own_other {w : World} {B k n : Nat} {e : TypeId} {v : Value} {xs : List Value} (h : w.ownsRow B e k v n xs) {row : Option Nat} (hrow : ∀ g, row = some g → ∃ C fr T, w.heap[g]? = some (.cells C T fr) ∧ T ≠ e) : v.ownBlock = none ∨ v.ownBlock ≠ row := by
  rcases h.2 with ⟨rfl, _⟩ | ⟨g, cap, cur, rfl, _, hg, _⟩
  · exact .inl rfl
  · refine .inr fun e1 => ?_
    obtain ⟨C, fr, T, h1, h2⟩ := hrow g e1.symm
    have h3 : w.heap[g]? = _ := hg
    rw [h1] at h3
    injection h3 with h3
    injection h3 with _ h3 _
    exact h2 h3
theorem NodesAt.kept {w w' : World} {v : Value} {ns : List Nd} {row : Option Nat} (h : NodesAt w v ns) (hg : w.grownBy w' row) (hrow : ∀ g, row = some g → ∃ C fr T, w.heap[g]? = some (.cells C T fr) ∧ T ≠ 59 ∧ T ≠ 3) : NodesAt w' v ns := by
  obtain ⟨l, h1, h2, h0⟩ := h
  refine ⟨l, h1.kept hg (own_other h1.1 fun g hg => ?_) (fun p hp => own_other (h1.2 p hp) fun g hg => ?_), h2, h0⟩
  · obtain ⟨C, fr, T, q1, q2, q3⟩ := hrow g hg
    exact ⟨C, fr, T, q1, q2⟩
  · obtain ⟨C, fr, T, q1, q2, q3⟩ := hrow g hg
    exact ⟨C, fr, T, q1, q3⟩
theorem own_typed {w : World} {B k n : Nat} {e : TypeId} {v : Value} {xs : List Value} (h : w.ownsRow B e k v n xs) : ∀ g, v.ownBlock = some g → ∃ C fr T, w.heap[g]? = some (.cells C T fr) ∧ T = e := by
  intro g hg
  rcases h.2 with ⟨rfl, _⟩ | ⟨g', cap, cur, rfl, _, hg', _⟩
  · cases hg
  · have e1 : g' = g := Option.some.inj hg
    subst e1
    exact ⟨_, _, _, hg', rfl⟩

/-- v is a slice that reads as these expressions -/
def ExsAt (w : World) (v : Value) (l : List Ex) : Prop := ∃ ao cap, v = .slice ao l.length cap ∧ ∀ i x, l[i]? = some x → ∃ b nv, ao = some ⟨b, 0, none⟩ ∧ w.rangeAt b (i * 2) (exRow x nv) ∧ NodesAt w nv x.1
theorem ExsAt.keep {w w' : World} {v : Value} {l : List Ex} (h : ExsAt w v l) (hB : Below w.heap.size w w') : ExsAt w' v l := by
  obtain ⟨ao, cap, e, h1⟩ := h
  refine ⟨ao, cap, e, fun i d hi => ?_⟩
  obtain ⟨b, nv, e1, h2, h3⟩ := h1 i d hi
  exact ⟨b, nv, e1, range_keep h2 hB, h3.keep hB⟩

def OwnExs (B : Nat) (v : Value) (l : List (Ex × Value)) (w : World) : Prop := w.ownsRow B 24 2 v l.length (l.flatMap fun p => exRow p.1 p.2) ∧ ∀ p, p ∈ l → NodesAt w p.2 p.1.1
theorem OwnExs.at {B : Nat} {v : Value} {l : List (Ex × Value)} {w : World} (h : OwnExs B v l w) : ExsAt w v (l.map (·.1)) := by
  rcases h.1.2 with ⟨hv, h1⟩ | ⟨g, cap, cur, hv, _⟩
  · have e : l = [] := List.length_eq_zero_iff.1 h1
    subst e
    exact ⟨none, 0, hv, fun i x hx => by simp at hx⟩
  · refine ⟨some ⟨g, 0, none⟩, cap, by rw [hv, List.length_map], fun i x hx => ?_⟩
    rw [List.getElem?_map] at hx
    obtain ⟨p, hp, rfl⟩ := Option.map_eq_some_iff.1 hx
    exact ⟨g, p.2, rfl, own_range (fun p : Ex × Value => exRow p.1 p.2) 2 (fun _ => rfl) h.1 hv i p hp, h.2 p (List.mem_of_getElem? hp)⟩
theorem OwnExs.nil (B : Nat) (w : World) : OwnExs B (.slice none 0 0) [] w := ⟨World.ownsRow_nil _ _ _ _, fun p hp => by cases hp⟩

theorem OwnExs.keep {B : Nat} {v : Value} {l : List (Ex × Value)} {w w' : World} (h : OwnExs B v l w) (hB : Below w.heap.size w w') : OwnExs B v l w' :=
  ⟨own_keep h.1 hB, fun p hp => (h.2 p hp).keep hB⟩
/-- one expression more -/
theorem OwnExs.snoc {B : Nat} {v v' : Value} {l : List (Ex × Value)} {x : Ex} {nv : Value} {w w' : World} (h : OwnExs B v l w) (hn : NodesAt w nv x.1) (hg : w.grownBy w' v.ownBlock) (ho : w'.ownsRow B 24 2 v' (l.length + 1) ((l.flatMap fun p => exRow p.1 p.2) ++ exRow x nv)) : OwnExs B v' (l ++ [(x, nv)]) w' := by
  have hrow : ∀ g, v.ownBlock = some g → ∃ C fr T, w.heap[g]? = some (.cells C T fr) ∧ T ≠ 59 ∧ T ≠ 3 := fun g hg => by
    obtain ⟨C, fr, T, q1, rfl⟩ := own_typed h.1 g hg
    exact ⟨C, fr, _, q1, by decide, by decide⟩
  refine ⟨?_, fun p hp => ?_⟩
  · rw [List.length_append, List.flatMap_append]
    simpa using ho
  · rcases List.mem_append.1 hp with h1 | h1
    · exact (h.2 p h1).kept hg hrow
    · obtain rfl : p = (x, nv) := by simpa using h1
      exact hn.kept hg hrow

/-- a copy of a list of integers -/
theorem clone_any (kv : Value) (ks : List Int) (w : World) (h : Ints w kv ks) (hn : ks.length ≤ 100000) : Calls Tryd.prog 40 #[kv] w fun e w' => ∃ v', e = .returned v' ∧ OwnsI w.heap.size v' ks w' ∧ Below w.heap.size w w' := by
  obtain ⟨ao, cap, rfl, hc, hnil⟩ := h
  rcases ao with _ | a
  · have h0 : ks.length = 0 := by
      rcases Nat.eq_zero_or_pos ks.length with h | h
      · exact h
      · obtain ⟨b, off, e, _⟩ := hc 0 h; cases e
    have hx : ks = [] := List.length_eq_zero_iff.1 h0
    subst hx
    refine (Tryd.slices_Clone_int_nil _ cap w).mono ?_
    rintro e w' ⟨rfl, rfl⟩
    exact ⟨_, rfl, World.ownsRow_nil _ _ _ _, Below.refl _ _⟩
  · rcases Nat.eq_zero_or_pos ks.length with h0 | h0
    · have hx : ks = [] := List.length_eq_zero_iff.1 h0
      subst hx
      refine (Tryd.slices_Clone_int_zero a cap w).mono ?_
      rintro e w' ⟨v', rfl, ho, _, hB⟩
      exact ⟨v', rfl, ho, hB⟩
    · obtain ⟨b, off, e, _⟩ := hc 0 h0
      injection e with e
      subst e
      refine (Tryd.slices_Clone_int b off ks.length cap ks w (Nat.le_refl _) (by omega) (fun j hj => by
        obtain ⟨b', off', e', h'⟩ := hc j hj
        injection e' with e'
        injection e' with e1 e2
        subst e1 e2
        exact h')).mono ?_
      rintro e w' ⟨v', rfl, ho, _, hB⟩
      rw [List.take_of_length_le (Nat.le_refl _)] at ho
      exact ⟨v', rfl, ho, hB⟩
theorem clone_nil (w : World) : Calls Tryd.prog 40 #[.slice none 0 0] w fun e w' => e = .returned (.slice none 0 0) ∧ w' = w := Tryd.slices_Clone_int_nil 0 0 w

end Go.Proofs.YtjjmnpgbcgkcpaaDoor
