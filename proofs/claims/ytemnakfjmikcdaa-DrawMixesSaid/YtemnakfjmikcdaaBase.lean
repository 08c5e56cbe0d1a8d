/- Words and laws on memory that the walks of this seat use: rows that are read, rows that are owned, maps by their entries. No program is named here. -/
import Derived.WalkKit
import Derived.Handy
import Derived.WalkSpells
import Derived.WalkLawsBesides
import Derived.Deep.LoopGhost
import Derived.Deep.DeepCutAuto
import Derived.Deep.QuietTactic
import Derived.Deep.RegionHeld3
import Derived.Deep.RegionLaw
import Derived.BigQuiet
import Derived.KernelRfl
import Derived.Lib.Hide
import Derived.Maps.Own
import Derived.Laws.AppendOwnNone
import Derived.Maps.OwnOps
import Derived.Maps.OwnSet
import Derived.Maps.RangeRun
set_option linter.unusedVariables false
set_option linter.unusedSimpArgs false
set_option linter.unusedSectionVars false
namespace Go.Proofs.Ytemnakfjmikcdaa
open Go.RowKit
open Go.ChangeMaps (setBlock)

/-! ### what a call comes to -/
/-- It returns v, in a world of which R holds. A plain definition: the walk's simp doesn't open it. -/
def Ret (v : Value) (R : World → Prop) (e : Ending) (w' : World) : Prop := e = .returned v ∧ R w'
/-- .. and nothing that lay there has changed. -/
def RetB (w : World) (v : Value) (e : Ending) (w' : World) : Prop := e = .returned v ∧ Below w.heap.size w w'
theorem ret_val {a b : Value} (h : a = b) : Ending.returned a = .returned b := by rw [h]
theorem ret_bool {a b : Bool} (h : a = b) : Ending.returned (.bool a) = .returned (.bool b) := by rw [h]
theorem ret_num {k : IntKind} {a b : Int} (h : a = b) : Ending.returned (.int k a) = .returned (.int k b) := by rw [h]

theorem below_drewN {B : Nat} {w w' : World} (h : Below B w w') (n : Nat) : Below B w (w'.drewN n) := ⟨h.os, h.tape, h.output, h.size, h.block⟩
theorem drewN_below (w : World) (n : Nat) : Below w.heap.size w (w.drewN n) := below_drewN (Below.refl _ _) n
theorem drewN_below2 (w : World) (n m : Nat) : Below w.heap.size w ((w.drewN n).drewN m) := below_drewN (drewN_below w n) m

/-- A cell that lay in the elder world w0, still there. -/
theorem cell_later_upto {B : Nat} {w0 w2 : World} {o : Obj} {a : Addr} {v : Value} (h : Below B (w0.alloc o) w2) (hB : a.block < B) (hc : w0.cell? a = some v) : w2.cell? a = some v := by
  rw [h.cell hB, World.cell?_of_block (Below.heap_alloc w0 o a.block (World.block_lt_of_cell? w0 a hc))]; exact hc
theorem free_later_upto {B : Nat} {w0 w2 : World} {o : Obj} {a : Addr} (h : Below B (w0.alloc o) w2) (hB : a.block < B) (hc : w0.frozen? a = false) (hl : a.block < w0.heap.size := by simp; omega) : w2.frozen? a = false := by
  rw [h.frozen hB, World.frozen?_of_block (Below.heap_alloc w0 o a.block hl)]; exact hc

/-- A cell that may be written, behind a new block and an append elsewhere. -/
theorem free_through {w0 w2 : World} {o : Obj} {a : Addr} {row : Option Nat} (h : (w0.alloc o).drew.grownBy w2 row) (hne : some a.block ≠ row) (hc : w0.frozen? a = false) (hl : a.block < w0.heap.size) : w2.frozen? a = false := by
  rw [World.frozen?_of_block (w := w0)]
  · exact hc
  · rw [h.block a.block (by show _ < (w0.alloc o).heap.size; rw [World.size_alloc]; omega) hne]
    exact Below.heap_alloc w0 o a.block hl

theorem cell_through {w0 w2 : World} {o : Obj} {a : Addr} {v : Value} {row : Option Nat} (h : (w0.alloc o).drew.grownBy w2 row) (hne : some a.block ≠ row) (hc : w0.cell? a = some v) : w2.cell? a = some v := by
  have hl := World.block_lt_of_cell? w0 a hc
  rw [World.cell?_of_block (w := w0)]
  · exact hc
  · rw [h.block a.block (by show _ < (w0.alloc o).heap.size; rw [World.size_alloc]; omega) hne]
    exact Below.heap_alloc w0 o a.block hl

/-- A cell, behind a draw and a call that changes nothing that lay there. -/
theorem cell_drew_later {w w2 : World} {a : Addr} {v : Value} (h : Below w.drew.heap.size w.drew w2) (hc : w.cell? a = some v) : w2.cell? a = some v := cell_later h (show w.drew.cell? a = some v from hc)

/-! ### kinds of elements -/
/-- How an element of a row is written in cells; 'ok': what is known of each. -/
structure EK (α : Type) where
  ty : TypeId
  sz : Nat
  bytes : Nat
  enc : α → List Value
  ok : α → Prop
  len : ∀ x, (enc x).length = sz
  one : ∀ x, ∀ u ∈ enc x, u.oneCell' = true

/-- A row that is read. -/
structure Rd {α : Type} (K : EK α) (w : World) (A : Option Addr) (c : Nat) (l : List α) : Prop where
  le : l.length ≤ c
  room : l.length * K.bytes ≤ 140737488351232
  ok : ∀ x ∈ l, K.ok x
  cell : ∀ i (h : i < l.length), ∃ a, A = some a ∧ ∀ j u, (K.enc l[i])[j]? = some u → w.cell? (a.add (i * K.sz + j)) = some u

/-- What a row is read from stays: so it reads the same. -/
theorem Rd.same {α : Type} {K : EK α} {w w' : World} {A : Option Addr} {c : Nat} {l : List α} (h : Rd K w A c l) (hb : ∀ a, A = some a → w'.heap[a.block]? = w.heap[a.block]?) : Rd K w' A c l :=
  ⟨h.le, h.room, h.ok, fun i hi => by
    obtain ⟨a, e, hc⟩ := h.cell i hi
    refine ⟨a, e, fun j u hj => ?_⟩
    rw [← hc j u hj]
    refine World.cell?_of_block ?_
    have : (a.add (i * K.sz + j)).block = a.block := by unfold Addr.add; split <;> rfl
    rw [this]; exact hb a e⟩
theorem Rd.later {α : Type} {K : EK α} {w w' : World} {A : Option Addr} {c : Nat} {l : List α} (h : Rd K w A c l) (hb : Below w.heap.size w w') : Rd K w' A c l :=
  ⟨h.le, h.room, h.ok, fun i hi => by
    obtain ⟨a, e, hc⟩ := h.cell i hi
    exact ⟨a, e, fun j u hj => cell_later hb (hc j u hj)⟩⟩
/-- Of a row with room in its elements the block lies in the heap. -/
theorem Rd.lt {α : Type} {K : EK α} {w : World} {a : Addr} {c : Nat} {l : List α} (h : Rd K w (some a) c l) (h0 : 0 < l.length) (hs : 0 < K.sz) : a.block < w.heap.size := by
  obtain ⟨a', e, hc⟩ := h.cell 0 h0
  cases e
  have := hc 0 ((K.enc l[0])[0]'(by rw [K.len]; exact hs)) (List.getElem?_eq_getElem _)
  have := World.block_lt_of_cell? w _ this
  have e2 : (a.add (0 * K.sz + 0)).block = a.block := by unfold Addr.add; split <;> rfl
  rwa [e2] at this
theorem Rd.nil {α : Type} (K : EK α) (w : World) (A : Option Addr) (c : Nat) (hc : c ≤ maxLen) : Rd K w A c [] :=
  ⟨Nat.zero_le _, by simp, by simp, fun i hi => absurd hi (by simp)⟩

/-- A row of the call's own. -/
structure Own {α : Type} (K : EK α) (w : World) (base : Nat) (v : Value) (l : List α) : Prop where
  row : w.ownsRow base K.ty K.sz v l.length (l.flatMap K.enc)
  ok : ∀ x ∈ l, K.ok x

theorem flatMap_get {α : Type} (K : EK α) : ∀ (l : List α) (i : Nat) (h : i < l.length) (j : Nat) (u : Value), (K.enc l[i])[j]? = some u → (l.flatMap K.enc)[i * K.sz + j]? = some u
  | [], i, h, _, _, _ => absurd h (by simp)
  | x :: l, 0, h, j, u, hu => by
    have hu' : (K.enc x)[j]? = some u := hu
    have := (List.getElem?_eq_some_iff.1 hu').1
    rw [List.flatMap_cons, Nat.zero_mul, Nat.zero_add, List.getElem?_append_left this, hu']
  | x :: l, i + 1, h, j, u, hu => by
    have h' : i < l.length := by simpa using h
    have := flatMap_get K l i h' j u (by simpa using hu)
    have e : (i + 1) * K.sz + j = (K.enc x).length + (i * K.sz + j) := by rw [K.len, Nat.add_mul]; omega
    rw [List.flatMap_cons, e, List.getElem?_append_right (by omega), Nat.add_sub_cancel_left, this]

theorem flatMap_len {α : Type} (K : EK α) : ∀ l : List α, (l.flatMap K.enc).length = l.length * K.sz
  | [] => by simp
  | x :: l => by rw [List.flatMap_cons, List.length_append, flatMap_len K l, K.len, List.length_cons, Nat.add_mul]; omega

/-- What is owned is read: its value is a slice. -/
theorem Own.reads {α : Type} {K : EK α} {w : World} {base : Nat} {v : Value} {l : List α} (h : Own K w base v l) (hr : l.length * K.bytes ≤ 140737488351232) :
    ∃ A c, v = .slice A l.length c ∧ Rd K w A c l := by
  rcases h.row.2 with ⟨e1, e2⟩ | ⟨g, cap, cur, e1, hb, hh, hn, hm, hs, ht⟩
  · have : l = [] := List.eq_nil_of_length_eq_zero e2
    subst this
    exact ⟨none, 0, e1, Rd.nil K w _ _ (Nat.zero_le _)⟩
  · refine ⟨some ⟨g, 0, none⟩, cap, e1, hn, hr, h.ok, fun i hi => ⟨_, rfl, fun j u hj => ?_⟩⟩
    exact h.row.cells (g := g) (by rw [e1]; rfl) _ _ (flatMap_get K l i hi j u hj)
/-- Of a row that isn't empty the value is written out. -/
theorem Own.form {α : Type} {K : EK α} {w : World} {base : Nat} {v : Value} {l : List α} (h : Own K w base v l) (h0 : 0 < l.length) : ∃ g cap, v = .slice (some ⟨g, 0, none⟩) l.length cap := by
  rcases h.row.2 with ⟨e1, e2⟩ | ⟨g, cap, cur, e1, _⟩
  · omega
  · exact ⟨g, cap, e1⟩
theorem Own.form_snoc {α : Type} {K : EK α} {w : World} {base : Nat} {v : Value} {l : List α} {x : α} (h : Own K w base v (l ++ [x])) : ∃ g cap, v = .slice (some ⟨g, 0, none⟩) (l.length + 1) cap := by
  obtain ⟨g, cap, e⟩ := h.form (by simp)
  exact ⟨g, cap, by rw [e, List.length_append]; rfl⟩
theorem Own.lt {α : Type} {K : EK α} {w : World} {base : Nat} {v : Value} {l : List α} (h : Own K w base v l) : ∀ k, v.ownBlock = some k → base ≤ k ∧ k < w.heap.size := h.row.lt
theorem Own.kept {α : Type} {K : EK α} {w w' : World} {base : Nat} {v : Value} {l : List α} {row : Option Nat} (h : Own K w base v l) (hg : w.grownBy w' row) (hne : v.ownBlock = none ∨ v.ownBlock ≠ row) : Own K w' base v l := ⟨h.row.kept hg hne, h.ok⟩
theorem Own.alloc {α : Type} {K : EK α} {w : World} {base : Nat} {v : Value} {l : List α} (h : Own K w base v l) (o : Obj) : Own K (w.alloc o) base v l := ⟨h.row.alloc o, h.ok⟩
theorem Own.drew {α : Type} {K : EK α} {w : World} {base : Nat} {v : Value} {l : List α} (h : Own K w base v l) : Own K w.drew base v l := ⟨h.row, h.ok⟩
theorem Own.drewN {α : Type} {K : EK α} {w : World} {base : Nat} {v : Value} {l : List α} (h : Own K w base v l) (n : Nat) : Own K (w.drewN n) base v l := ⟨h.row, h.ok⟩
theorem Own.nil {α : Type} (K : EK α) (w : World) (base : Nat) : Own K w base (.slice none 0 0) [] := ⟨World.ownsRow_nil w base K.ty K.sz, by simp⟩
/-- All that lay below stays. -/
theorem Own.later {α : Type} {K : EK α} {w w' : World} {base : Nat} {v : Value} {l : List α} (h : Own K w base v l) (hb : Below w.heap.size w w') : Own K w' base v l :=
  h.kept (row := none) ⟨hb.os, hb.tape, hb.output, hb.size, fun k hk _ => hb.block k hk⟩ (by cases v.ownBlock <;> simp)
theorem Own.upto {α : Type} {K : EK α} {w w' : World} {base B : Nat} {v : Value} {l : List α} (h : Own K w base v l) (hb : Below B w w') (hB : w.heap.size ≤ B) : Own K w' base v l := h.later (hb.mono hB)
theorem Rd.drew {α : Type} {K : EK α} {w : World} {A : Option Addr} {c : Nat} {l : List α} (h : Rd K w A c l) : Rd K w.drew A c l := ⟨h.le, h.room, h.ok, h.cell⟩
theorem Rd.drewN {α : Type} {K : EK α} {w : World} {A : Option Addr} {c : Nat} {l : List α} (h : Rd K w A c l) (n : Nat) : Rd K (w.drewN n) A c l := ⟨h.le, h.room, h.ok, h.cell⟩
theorem Rd.upto {α : Type} {K : EK α} {w w' : World} {A : Option Addr} {c B : Nat} {l : List α} (h : Rd K w A c l) (hb : Below B w w') (hB : w.heap.size ≤ B) : Rd K w' A c l := h.later (hb.mono hB)
theorem Own.mono {α : Type} {K : EK α} {w : World} {base base' : Nat} {v : Value} {l : List α} (h : Own K w base v l) (hb : base' ≤ base) : Own K w base' v l := by
  refine ⟨⟨h.row.1, ?_⟩, h.ok⟩
  rcases h.row.2 with hn | ⟨g, cap, cur, e1, hg, r⟩
  · exact .inl hn
  · exact .inr ⟨g, cap, cur, e1, Nat.le_trans hb hg, r⟩
theorem below_then {B : Nat} {w w1 w2 : World} (h : Below B w w1) (k : Below w1.heap.size w1 w2) (hB : B ≤ w1.heap.size) : Below B w w2 :=
  h.trans (k.mono hB)
/-- A new block, its bound given. -/
theorem below_alloc {B : Nat} {w w1 : World} (h : Below B w w1) (o : Obj) (hB : B ≤ w1.heap.size) : Below B w (w1.alloc o) := h.alloc hB o
/-- What an append or a store into a row of one's own leaves. -/
theorem Own.below {α : Type} {K : EK α} {w w1 w2 : World} {B base : Nat} {v : Value} {l : List α} (h : Below B w w1) (ho : Own K w1 base v l) (hg : w1.grownBy w2 v.ownBlock) (hB : B ≤ w1.heap.size) (hb : B ≤ base) : Below B w w2 :=
  h.grown hg hB fun k hk => Nat.le_trans hb (ho.lt k hk).1

/-! ### append -/
/-- What is known of an element type's row of the table. -/
structure ElemOk {α : Type} (P : Program) (K : EK α) (t : TypeId) (z : Value) : Prop where
  slice : P.underlying t = some (.slice K.ty)
  info : (P.info? K.ty).map (fun i => (i.zero, i.size, i.bytes)) = some (some z, K.sz, K.bytes)
  zs : z.cells.size = K.sz
  pos : 0 < K.sz
  bpos : 0 < K.bytes

section
variable {α : Type} {P : Program} {K : EK α} {t : TypeId} {z : Value} {ops : Array Oper} {rest : List Oper} {o : Oper} {a : Act} {Q : Exit → Act → World → Prop}

/-- 'append(v, ys...)': v is owned, ys is read. -/
theorem wp_append (E : ElemOk P K t z) {w : World} (base : Nat) (v : Value) (l : List α) (hown : Own K w base v l) (A : Option Addr) (c : Nat) (ys : List α) (hys : Rd K w A c ys)
    (hroom : (l.length + ys.length) * K.bytes ≤ 140737488355328) (hbase : base ≤ w.heap.size) (hg : o.guard = none) (s x : Operand)
    (ho : o.op = .call { callee := .builtin .append, args := #[s, x], argTypes := #[t, t] }) (hs : a.eval s = v) (hx : a.eval x = .slice A ys.length c) (hA : A = none → c = 0)
    (h : ∀ v' w', Own K w' base v' (l ++ ys) → w.grownBy w' v.ownBlock → (v'.ownBlock = v.ownBlock ∨ v'.ownBlock = some w.heap.size) → wpList P ops Q rest (a.put o.dst v') w') :
    wpList P ops Q (o :: rest) a w := by
  obtain ⟨i, hi, hz0, hz1, hz2⟩ := info_parts E.info
  have hok : ∀ y ∈ l ++ ys, K.ok y := fun y hy => by rcases List.mem_append.1 hy with hy | hy; exact hown.ok y hy; exact hys.ok y hy
  have h63 : l.length + ys.length ≤ maxLen := by
    have : l.length + ys.length ≤ (l.length + ys.length) * K.bytes := Nat.le_mul_of_pos_right _ E.bpos
    unfold maxLen; omega
  cases A with
  | none =>
    have hc := hA rfl
    subst hc
    have : ys = [] := by
      cases ys with
      | nil => rfl
      | cons y ys => obtain ⟨a, e, _⟩ := hys.cell 0 (by simp); cases e
    subst this
    refine wpList_append_own_none hg s x t ho base K.ty i K.sz E.slice hi v _ _ hs hown.row hx ?_
    exact h v w (by simpa using hown) (World.grownBy.refl _ _) (.inl rfl)
  | some ad =>
    refine wpList_append_own_at w hg s x t ho base K.ty i z K.sz K.bytes E.slice hi hz0 hz1 hz2 E.zs E.pos v l.length _ hs hown.row ad ys.length c (ys.flatMap K.enc) hx (flatMap_len K ys) ?_ ?_ h63 hroom hbase ?_
    · intro j u hj
      have hlen := (List.getElem?_eq_some_iff.1 hj).1
      rw [flatMap_len] at hlen
      have hd : j / K.sz < ys.length := by rw [Nat.div_lt_iff_lt_mul E.pos]; exact hlen
      obtain ⟨a', e, hc⟩ := hys.cell (j / K.sz) hd
      cases e
      have hm : j % K.sz < (K.enc ys[j / K.sz]).length := by rw [K.len]; exact Nat.mod_lt _ E.pos
      have h2 := flatMap_get K ys (j / K.sz) hd (j % K.sz) _ (List.getElem?_eq_getElem hm)
      have e2 : j / K.sz * K.sz + j % K.sz = j := by rw [Nat.mul_comm]; exact Nat.div_add_mod j K.sz
      rw [e2] at h2
      rw [h2] at hj
      have h3 := hc (j % K.sz) _ (List.getElem?_eq_getElem hm)
      rw [e2] at h3
      rw [h3]
      exact hj
    · intro u hu
      obtain ⟨y, _, hu⟩ := List.mem_flatMap.1 hu
      exact K.one y u hu
    · intro v' w' h1 h2 _ h4
      refine h v' w' ⟨?_, hok⟩ h2 h4
      rw [List.length_append, List.flatMap_append]
      exact h1

/-- A block that is known whole reads as a row. -/
theorem Rd.block {w : World} {g c : Nat} {cs : Array Value} {t : TypeId} {fr : Nat × Nat} {l : List α} (hb : w.heap[g]? = some (.cells cs t fr)) (hcs : cs.toList = l.flatMap K.enc) (hok : ∀ x ∈ l, K.ok x) (hroom : l.length * K.bytes ≤ 140737488351232) (hc : l.length ≤ c) (hm : c ≤ maxLen) : Rd K w (some ⟨g, 0, none⟩) c l :=
  ⟨hc, hroom, hok, fun i hi => ⟨_, rfl, fun j u hj => by
    have e : ((⟨g, 0, none⟩ : Addr).add (i * K.sz + j)) = ⟨g, i * K.sz + j, none⟩ := by unfold Addr.add; split <;> simp_all
    rw [e, cell_of_row _ g _ cs t fr hb, ← Array.getElem?_toList, hcs]
    exact flatMap_get K l i hi j u hj⟩⟩
/-- The one element of 'append(v, x)' lies in a new block. -/
theorem Rd.one {w : World} (E : ElemOk P K t z) (x : α) (hx : K.ok x) (hr : K.bytes ≤ 140737488351232) (cs : Array Value) (hcs : cs.toList = K.enc x) : Rd K (w.alloc (.cells cs K.ty)) (some ⟨w.heap.size, 0, none⟩) 1 [x] := by
  refine ⟨Nat.le_refl _, by simpa using hr, by simpa using hx, fun i hi => ⟨_, rfl, fun j u hj => ?_⟩⟩
  have hi0 : i = 0 := by simpa using hi
  subst hi0
  have hj' : cs[j]? = some u := by rw [← Array.getElem?_toList, hcs]; simpa using hj
  have e : ((⟨w.heap.size, 0, none⟩ : Addr).add (0 * K.sz + j)) = ⟨w.heap.size, j, none⟩ := by unfold Addr.add; split <;> simp_all
  rw [e, cell_of_row _ w.heap.size j cs K.ty (0, 0) (heap_alloc_new w _)]
  exact hj'

/-- 'append(v, x)'. -/
theorem wp_append1 (E : ElemOk P K t z) {w : World} (base : Nat) (v : Value) (l : List α) (hown : Own K w base v l) (x : α) (hx : K.ok x) {cs : Array Value} (hcs : cs.toList = K.enc x)
    (hroom : (l.length + 1) * K.bytes ≤ 140737488351232) (hg : o.guard = none) (s y : Operand)
    (ho : o.op = .call { callee := .builtin .append, args := #[s, y], argTypes := #[t, t] }) (hs : a.eval s = v) {g : Nat} (hy : a.eval y = .slice (some ⟨g, 0, none⟩) 1 1) (hgs : w.heap.size = g) (hbase : base ≤ g)
    (h : ∀ v' w', Own K w' base v' (l ++ [x]) → w.grownBy w' v.ownBlock → (v'.ownBlock = v.ownBlock ∨ v'.ownBlock = some (g + 1)) → g < w'.heap.size → wpList P ops Q rest (a.put o.dst v') w') :
    wpList P ops Q (o :: rest) a (w.alloc (.cells cs K.ty)) := by
  subst hgs
  have hb : K.bytes ≤ 140737488351232 := by
    have : K.bytes ≤ (l.length + 1) * K.bytes := Nat.le_mul_of_pos_left _ (by omega)
    omega
  refine wp_append E base v l (hown.alloc _) _ 1 [x] (Rd.one E x hx hb cs hcs) (by simp only [List.length_singleton]; omega) (by rw [World.size_alloc]; omega) hg s y ho hs hy (fun e => by cases e) ?_
  intro v' w' h1 h2 h3
  refine h v' w' h1 ?_ (by rw [World.size_alloc] at h3; exact h3) (by have := h2.size; rw [World.size_alloc] at this; omega)
  exact ⟨h2.os, h2.tape, h2.output, by have := h2.size; rw [World.size_alloc] at this; omega, fun k hk hne => by
    rw [h2.block k (by rw [World.size_alloc]; omega) hne]; exact Below.heap_alloc w _ _ hk⟩
end

section
variable {α : Type} {P : Program} {K : EK α} {t : TypeId} {z : Value} {ops : Array Oper} {o : Oper} {a : Act} {Q : Exit → Act → World → Prop} {C : Act → World → Prop} {F : Prop}
/-- 'append(v, x)' as a step of a region that draws its order. -/
theorem step_append1 (E : ElemOk P K t z) {w : World} (base : Nat) (v : Value) (l : List α) (hown : Own K w base v l) (x : α) (hx : K.ok x) {g : Nat} {cs : Array Value} {fr : Nat × Nat} (hsrc : w.heap[g]? = some (.cells cs K.ty fr)) (hcs : cs.toList = K.enc x)
    (hroom : (l.length + 1) * K.bytes ≤ 140737488351232) (hg : o.guard = none) (s y : Operand)
    (ho : o.op = .call { callee := .builtin .append, args := #[s, y], argTypes := #[t, t] }) (hs : a.eval s = v) (hy : a.eval y = .slice (some ⟨g, 0, none⟩) 1 1) (hbase : base ≤ w.heap.size) {H : Nat} (hH : w.heap.size = H)
    (h : ∀ v' w', Own K w' base v' (l ++ [x]) → w.grownBy w' v.ownBlock → (v'.ownBlock = v.ownBlock ∨ v'.ownBlock = some H) → C (a.put o.dst v') w') :
    if Region.wanted o (yielded ops a.tmps) = true then Oper.wp P o a w C Q else F := by
  subst hH
  rw [if_pos (by simp [Region.wanted, hg])]
  obtain ⟨i, hi, hz0, hz1, hz2⟩ := info_parts E.info
  have h63 : l.length + 1 ≤ maxLen := by
    have : l.length + 1 ≤ (l.length + 1) * K.bytes := Nat.le_mul_of_pos_right _ E.bpos
    unfold maxLen; omega
  obtain ⟨v', w', hr, h2, h3, h4, h5⟩ := run_append_own_at (P := P) w base t o.type K.ty i z K.sz K.bytes E.slice hi hz0 hz1 hz2 E.zs E.pos v l.length _ hown.row ⟨g, 0, none⟩ 1 1 (K.enc x) (by rw [K.len]; omega)
    (fun j u hj => by
      have e : ((⟨g, 0, none⟩ : Addr).add j) = ⟨g, j, none⟩ := by unfold Addr.add; split <;> simp_all
      rw [e, cell_of_row _ g j cs K.ty fr hsrc, ← Array.getElem?_toList, hcs]; exact hj)
    (K.one x) h63 (by omega) hbase
  have hO : Own K w' base v' (l ++ [x]) := ⟨by rw [List.length_append, List.flatMap_append, List.length_singleton, List.flatMap_singleton]; exact h2, fun y hy => by
    rcases List.mem_append.1 hy with hy | hy
    · exact hown.ok y hy
    · rw [List.mem_singleton.1 hy]; exact hx⟩
  unfold Oper.wp execOp
  simp only [ho, resolve, invoke, builtin, Sem.run_bind, Sem.run_pure, Result.andThen_ok, List.map_toArray, List.map_cons, List.map_nil, hs, hy, hr]
  exact h v' w' hO h3 h5
end

/-! ### maps, by their entries as they were laid -/
/-- A key's kind. -/
structure KK (P : Program) (κ : Type) where
  k : TypeId
  enc : κ → Value
  ok : κ → Prop
  inj : ∀ x y, enc x = enc y → x = y
  keyed : Go.Maps.Keyed P k
  lit : ∀ x, ok x → ∃ l, keyOf P k (enc x) = some l

section
variable {κ ν : Type} [DecidableEq κ]
def mget (m : List (κ × ν)) (x : κ) : Option ν := (m.find? (fun p => decide (p.1 = x))).map (·.2)
def mput (m : List (κ × ν)) (x : κ) (v : ν) : List (κ × ν) :=
  if m.any (fun p => decide (p.1 = x)) then m.map (fun p => if p.1 = x then (x, v) else p) else m ++ [(x, v)]
def mdel (m : List (κ × ν)) (x : κ) : List (κ × ν) := m.filter (fun p => !decide (p.1 = x))

theorem mget_nil (x : κ) : mget ([] : List (κ × ν)) x = none := rfl
theorem mget_cons (p : κ × ν) (m : List (κ × ν)) (x : κ) : mget (p :: m) x = if p.1 = x then some p.2 else mget m x := by
  unfold mget
  by_cases h : p.1 = x
  · rw [List.find?_cons_of_pos (by simpa using h), if_pos h]; rfl
  · rw [List.find?_cons_of_neg (by simpa using h), if_neg h]
theorem mget_none {m : List (κ × ν)} {x : κ} (h : ∀ p ∈ m, p.1 ≠ x) : mget m x = none := by
  induction m with
  | nil => rfl
  | cons p m ih => rw [mget_cons, if_neg (h p (by simp)), ih (fun q hq => h q (by simp [hq]))]
theorem mget_some_mem {m : List (κ × ν)} {x : κ} {v : ν} (h : mget m x = some v) : (x, v) ∈ m := by
  induction m with
  | nil => cases h
  | cons p m ih =>
    rw [mget_cons] at h
    split at h
    · rename_i e; cases h; subst e; simp
    · exact List.mem_cons_of_mem _ (ih h)
theorem mget_none_iff {m : List (κ × ν)} {x : κ} : mget m x = none ↔ ∀ p ∈ m, p.1 ≠ x := by
  refine ⟨fun h => ?_, mget_none⟩
  induction m with
  | nil => simp
  | cons p m ih =>
    rw [mget_cons] at h
    split at h
    · cases h
    · rename_i e
      intro q hq
      rcases List.mem_cons.1 hq with rfl | hq
      · exact e
      · exact ih h q hq
theorem mget_mem {m : List (κ × ν)} (hn : (m.map (·.1)).Nodup) {x : κ} {v : ν} (h : (x, v) ∈ m) : mget m x = some v := by
  induction m with
  | nil => cases h
  | cons p m ih =>
    rw [List.map_cons, List.nodup_cons] at hn
    rw [mget_cons]
    rcases List.mem_cons.1 h with rfl | h
    · simp
    · rw [if_neg, ih hn.2 h]
      intro e
      exact hn.1 (e ▸ List.mem_map.2 ⟨(x, v), h, rfl⟩)
theorem mget_append (m n : List (κ × ν)) (x : κ) : mget (m ++ n) x = (mget m x).or (mget n x) := by
  induction m with
  | nil => simp [mget_nil]
  | cons p m ih => rw [List.cons_append, mget_cons, mget_cons, ih]; split <;> rfl
theorem any_key {m : List (κ × ν)} {x : κ} : m.any (fun p => decide (p.1 = x)) = (mget m x).isSome := by
  induction m with
  | nil => rfl
  | cons p m ih => rw [List.any_cons, ih, mget_cons]; split <;> simp_all
theorem mget_map_put (m : List (κ × ν)) (x y : κ) (v : ν) : mget (m.map (fun p => if p.1 = x then (x, v) else p)) y = if y = x then (mget m x).map (fun _ => v) else mget m y := by
  induction m with
  | nil => simp [mget_nil]
  | cons p m ih =>
    rw [List.map_cons, mget_cons, ih, mget_cons, mget_cons]
    by_cases h : p.1 = x
    · rw [if_pos h]
      by_cases hy : y = x
      · subst hy; simp [h]
      · rw [if_neg (show ¬ (x, v).1 = y from fun e => hy e.symm), if_neg hy, if_neg hy, if_neg (fun e => hy (e.symm.trans h))]
    · rw [if_neg h]
      by_cases hy : y = x
      · subst hy; rw [if_neg h, if_pos rfl, if_neg h, if_pos rfl]
      · simp [hy]
/-- What a map tells behind a store. -/
theorem mget_mput (m : List (κ × ν)) (x y : κ) (v : ν) : mget (mput m x v) y = if y = x then some v else mget m y := by
  unfold mput
  rw [any_key]
  cases h : mget m x with
  | some u => rw [if_pos (by simp), mget_map_put, h]; rfl
  | none =>
    rw [if_neg (by simp), mget_append]
    by_cases hy : y = x
    · subst hy; rw [h, if_pos rfl, mget_cons, if_pos rfl]; rfl
    · rw [if_neg hy, mget_cons, if_neg (fun e => hy e.symm), mget_nil, Option.or_none]
theorem mget_mdel (m : List (κ × ν)) (x y : κ) : mget (mdel m x) y = if y = x then none else mget m y := by
  induction m with
  | nil => simp [mget, mdel]
  | cons p m ih =>
    unfold mdel at *
    rw [List.filter_cons]
    by_cases h : p.1 = x
    · rw [if_neg (by simp [h]), ih, mget_cons]
      by_cases hy : y = x
      · simp [hy]
      · rw [if_neg hy, if_neg hy, if_neg (fun e => hy (e.symm.trans h))]
    · rw [if_pos (by simp [h]), mget_cons, ih, mget_cons]
      by_cases hy : y = x
      · subst hy; simp [h]
      · simp [hy]
theorem mput_keys (m : List (κ × ν)) (x : κ) (v : ν) : (mput m x v).map (·.1) = if (mget m x).isSome then m.map (·.1) else m.map (·.1) ++ [x] := by
  unfold mput
  rw [any_key]
  split
  · rw [List.map_map]
    refine List.map_congr_left fun p _ => ?_
    show (if p.1 = x then (x, v) else p).1 = p.1
    split
    · rename_i h; exact h.symm
    · rfl
  · simp
theorem mput_nodup {m : List (κ × ν)} (h : (m.map (·.1)).Nodup) (x : κ) (v : ν) : ((mput m x v).map (·.1)).Nodup := by
  rw [mput_keys]
  cases hm : mget m x with
  | some u => simpa using h
  | none =>
    rw [if_neg (by simp), List.nodup_append]
    refine ⟨h, by simp, fun a ha b hb => ?_⟩
    simp at hb
    subst hb
    obtain ⟨p, hp, rfl⟩ := List.mem_map.1 ha
    exact mget_none_iff.1 hm p hp
theorem mdel_nodup {m : List (κ × ν)} (h : (m.map (·.1)).Nodup) (x : κ) : ((mdel m x).map (·.1)).Nodup :=
  h.sublist ((List.filter_sublist).map _)
theorem mem_mput {m : List (κ × ν)} {x : κ} {v : ν} {p : κ × ν} (h : p ∈ mput m x v) : p = (x, v) ∨ p ∈ m := by
  unfold mput at h
  split at h
  · obtain ⟨q, hq, rfl⟩ := List.mem_map.1 h
    split
    · exact .inl rfl
    · exact .inr hq
  · rcases List.mem_append.1 h with h | h
    · exact .inr h
    · exact .inl (by simpa using h)
theorem mput_at {m : List (κ × ν)} (hn : (m.map (·.1)).Nodup) {i : Nat} {x : κ} {u : ν} (h : m[i]? = some (x, u)) (v : ν) : m.set i (x, v) = mput m x v := by
  have hm : (x, u) ∈ m := List.mem_of_getElem? h
  have h1 : mget m x = some u := mget_mem hn hm
  unfold mput
  rw [any_key, h1, if_pos (by simp)]
  apply List.ext_getElem?
  intro j
  rw [List.getElem?_set, List.getElem?_map]
  by_cases hij : i = j
  · subst hij
    rw [if_pos rfl, h, if_pos (List.getElem?_eq_some_iff.1 h).1]
    simp
  · rw [if_neg hij]
    cases hj : m[j]? with
    | none => rfl
    | some q =>
      simp only [Option.map_some]
      rw [if_neg]
      intro e
      have h2 : (m.map (·.1))[i]? = some x := by rw [List.getElem?_map, h]; rfl
      have h3 : (m.map (·.1))[j]? = some x := by rw [List.getElem?_map, hj]; simp [e]
      have l2 := (List.getElem?_eq_some_iff.1 h2).1
      have l3 := (List.getElem?_eq_some_iff.1 h3).1
      have e2 : (m.map (·.1))[i] = (m.map (·.1))[j] := by rw [(List.getElem?_eq_some_iff.1 h2).2, (List.getElem?_eq_some_iff.1 h3).2]
      rcases Nat.lt_or_gt_of_ne hij with hlt | hlt
      · exact List.pairwise_iff_getElem.1 hn i j l2 l3 hlt e2
      · exact List.pairwise_iff_getElem.1 hn j i l3 l2 hlt e2.symm
theorem mdel_at {m : List (κ × ν)} (hn : (m.map (·.1)).Nodup) {i : Nat} {x : κ} {u : ν} (h : m[i]? = some (x, u)) : m.eraseIdx i = mdel m x := by
  unfold mdel
  induction m generalizing i with
  | nil => rfl
  | cons p m ih =>
    rw [List.map_cons, List.nodup_cons] at hn
    cases i with
    | zero =>
      have hp : p = (x, u) := by simpa using h
      subst hp
      rw [List.eraseIdx_cons_zero, List.filter_cons_of_neg (by simp)]
      refine (List.filter_eq_self.2 fun q hq => ?_).symm
      simp only [Bool.not_eq_true', decide_eq_false_iff_not]
      intro e
      exact hn.1 (List.mem_map.2 ⟨q, hq, e⟩)
    | succ i =>
      have h' : m[i]? = some (x, u) := by simpa using h
      rw [List.eraseIdx_cons_succ, ih hn.2 h', List.filter_cons_of_pos]
      simp only [Bool.not_eq_true', decide_eq_false_iff_not]
      intro e
      exact hn.1 (List.mem_map.2 ⟨(x, u), List.mem_of_getElem? h', e.symm⟩)
theorem mdel_none {m : List (κ × ν)} {x : κ} (h : ∀ p ∈ m, p.1 ≠ x) : mdel m x = m :=
  List.filter_eq_self.2 fun q hq => by simpa using h q hq
end

section
variable {P : Program} {κ ν : Type} [DecidableEq κ]
/-- Block r is a map of these entries. -/
structure MapAt (K : KK P κ) (ve : ν → Value) (w : World) (r : Nat) (m : List (κ × ν)) : Prop where
  ex : ∃ es clock, w.heap[r]? = some (.map es clock) ∧ Go.MapKept.Stamped es clock ∧ es.toList.map (fun e => (e.key, e.val)) = m.map (fun p => (K.enc p.1, ve p.2))
  room : m.length ≤ 140737488351232
  ok : ∀ p ∈ m, K.ok p.1

variable {K : KK P κ} {ve : ν → Value} {w w' : World} {r : Nat} {m : List (κ × ν)}
theorem MapAt.lt (h : MapAt K ve w r m) : r < w.heap.size := by
  obtain ⟨es, clock, hb, _⟩ := h.ex
  exact (Array.getElem?_eq_some_iff.1 hb).1
theorem MapAt.same (h : MapAt K ve w r m) (hs : w'.heap[r]? = w.heap[r]?) : MapAt K ve w' r m := by
  obtain ⟨es, clock, hb, r1⟩ := h.ex
  exact ⟨⟨es, clock, hs.trans hb, r1⟩, h.room, h.ok⟩
theorem MapAt.later (h : MapAt K ve w r m) (hb : Below w.heap.size w w') : MapAt K ve w' r m := h.same (hb.block r h.lt)
theorem MapAt.upto {B : Nat} (h : MapAt K ve w r m) (hb : Below B w w') (hB : w.heap.size ≤ B) : MapAt K ve w' r m := h.later (hb.mono hB)
theorem MapAt.kept {row : Option Nat} (h : MapAt K ve w r m) (hg : w.grownBy w' row) (hne : some r ≠ row) : MapAt K ve w' r m := h.same (hg.block r h.lt hne)
theorem MapAt.alloc (h : MapAt K ve w r m) (o : Obj) : MapAt K ve (w.alloc o) r m := h.same (Below.heap_alloc w o r h.lt)
theorem MapAt.made (K : KK P κ) (ve : ν → Value) (w : World) : MapAt K ve (w.alloc (.map #[] 0)) w.heap.size [] :=
  ⟨⟨#[], 0, heap_alloc_new w _, Go.MapKept.stamped_empty 0, rfl⟩, by simp, by simp⟩
omit [DecidableEq κ] in
theorem keys_of {es : Array MapEntry} {m : List (κ × ν)} (h : es.toList.map (fun e => (e.key, e.val)) = m.map (fun p => (K.enc p.1, ve p.2))) : es.toList.map (·.key) = m.map (fun p => K.enc p.1) := by
  have := congrArg (List.map Prod.fst) h
  simpa [List.map_map, Function.comp_def] using this
theorem MapAt.nodup (h : MapAt K ve w r m) : (m.map (·.1)).Nodup := by
  obtain ⟨es, clock, hb, hs, hm⟩ := h.ex
  have h1 := hs.2.2
  rw [keys_of hm] at h1
  have h2 : m.map (fun p => K.enc p.1) = (m.map (·.1)).map K.enc := by simp [List.map_map, Function.comp_def]
  rw [h2] at h1
  exact List.Pairwise.of_map K.enc (fun a b hne e => hne (congrArg _ e)) h1
/-- What the look for a key finds. -/
theorem MapAt.find (h : MapAt K ve w r m) {x : κ} (hx : K.ok x) : ∃ es clock, w.heap[r]? = some (.map es clock) ∧ Go.MapKept.Stamped es clock ∧ es.toList.map (fun e => (e.key, e.val)) = m.map (fun p => (K.enc p.1, ve p.2)) ∧
    (((Instr.findKey K.k (K.enc x) es.toList).run P w = .ok none w ∧ mget m x = none ∧ ∀ p ∈ m, p.1 ≠ x) ∨
     ∃ j v, (Instr.findKey K.k (K.enc x) es.toList).run P w = .ok (some (j, ve v)) w ∧ m[j]? = some (x, v) ∧ mget m x = some v ∧ (es[j]?).map (·.key) = some (K.enc x) ∧ (es[j]?).map (·.val) = some (ve v)) := by
  have hn := h.nodup
  obtain ⟨es, clock, hb, hs, hm⟩ := h.ex
  refine ⟨es, clock, hb, hs, hm, ?_⟩
  obtain ⟨lx, hl⟩ := K.lit x hx
  have hk : ∀ e ∈ es.toList, ∃ l, keyOf P K.k e.key = some l := by
    intro e he
    have : e.key ∈ es.toList.map (·.key) := List.mem_map.2 ⟨e, he, rfl⟩
    rw [keys_of hm] at this
    obtain ⟨p, hp, e2⟩ := List.mem_map.1 this
    rw [← e2]
    exact K.lit p.1 (h.ok p hp)
  rcases K.keyed.find w hl es.toList hk with ⟨h1, h2⟩ | ⟨j, e, h1, h2, h3⟩
  · have h4 : ∀ p ∈ m, p.1 ≠ x := by
      intro p hp e
      have : K.enc p.1 ∈ es.toList.map (·.key) := by rw [keys_of hm]; exact List.mem_map.2 ⟨p, hp, rfl⟩
      obtain ⟨y, hy, e2⟩ := List.mem_map.1 this
      exact h2 y hy (by rw [e2, e])
    exact .inl ⟨h1, mget_none h4, h4⟩
  · have h5 : (es.toList.map (fun e => (e.key, e.val)))[j]? = some (e.key, e.val) := by rw [List.getElem?_map, h2]; rfl
    rw [hm, List.getElem?_map] at h5
    obtain ⟨p, hp, e3⟩ := Option.map_eq_some_iff.1 h5
    simp only [Prod.mk.injEq] at e3
    obtain ⟨q1, q2⟩ := p
    have : q1 = x := K.inj _ _ (e3.1.trans h3)
    subst this
    have h6 : es[j]? = some e := by rw [← Array.getElem?_toList]; exact h2
    refine .inr ⟨j, q2, by rw [h1, ← e3.2], hp, mget_mem hn (List.mem_of_getElem? hp), by rw [h6]; exact congrArg some h3, by rw [h6]; exact congrArg some e3.2.symm⟩
/-- 'm[x]', 'v, ok := m[x]'. -/
theorem MapAt.lookup {t e : TypeId} (h : MapAt K ve w r m) (ht : P.underlying t = some (.map K.k e)) {z : ν} (hz : (zeroValue e).run P w = .ok (ve z) w) {x : κ} (hx : K.ok x) (c : Bool) :
    (Instr.lookup t (.map (some r)) (K.enc x) c).run P w = .ok (if c then .tuple #[ve ((mget m x).getD z), .bool (mget m x).isSome] else ve ((mget m x).getD z)) w := by
  obtain ⟨lx, hl⟩ := K.lit x hx
  obtain ⟨es, clock, hb, hs, hm, ⟨h1, h2, _⟩ | ⟨j, v, h1, _, h3, _⟩⟩ := h.find hx
  · simp [Instr.lookup, run_underlying ht, Go.MapKept.run_getObj_map hb, K.keyed.check w _ hl, h1, h2, hz, Result.andThen]
  · simp [Instr.lookup, run_underlying ht, Go.MapKept.run_getObj_map hb, K.keyed.check w _ hl, h1, h3, Result.andThen]
theorem heap_setBlock_at {w : World} {b : Nat} {o o' : Obj} (h : w.heap[b]? = some o) : (setBlock w b o').heap[b]? = some o' := by
  have := (Array.getElem?_eq_some_iff.1 h).1
  simp [setBlock, this]
theorem heap_setBlock_ne {w : World} {b k : Nat} (o' : Obj) (h : k ≠ b) : (setBlock w b o').heap[k]? = w.heap[k]? := by
  simp [setBlock, Array.getElem?_setIfInBounds, Ne.symm h]
theorem grown_setBlock (w : World) (b : Nat) (o : Obj) : w.grownBy (setBlock w b o) (some b) :=
  ⟨rfl, rfl, rfl, by simp [setBlock], fun k _ hk => heap_setBlock_ne o (fun e => hk (by rw [e]))⟩
/-- 'm[x] = v'. -/
theorem MapAt.update {t e : TypeId} (h : MapAt K ve w r m) (ht : P.underlying t = some (.map K.k e)) {x : κ} (hx : K.ok x) (v : ν) (hroom : m.length + 1 ≤ 140737488351232) :
    ∃ w', (Instr.mapUpdate t (.map (some r)) (K.enc x) (ve v)).run P w = .ok () w' ∧ MapAt K ve w' r (mput m x v) ∧ w.grownBy w' (some r) ∧ w'.heap.size = w.heap.size := by
  have hn := h.nodup
  obtain ⟨lx, hl⟩ := K.lit x hx
  obtain ⟨es, clock, hb, hs, hm, ⟨h1, h2, h3⟩ | ⟨j, u, h1, h2, h3, h4, h5⟩⟩ := h.find hx
  · have hne : ∀ y ∈ es.toList, y.key ≠ K.enc x := by
      intro y hy e2
      have : y.key ∈ es.toList.map (·.key) := List.mem_map.2 ⟨y, hy, rfl⟩
      rw [keys_of hm] at this
      obtain ⟨p, hp, e3⟩ := List.mem_map.1 this
      exact h3 p hp (K.inj _ _ (e3.trans e2))
    refine ⟨setBlock w r (.map (es.push { key := K.enc x, val := ve v, born := clock }) (clock + 1)), ?_, ⟨⟨_, _, heap_setBlock_at hb, Go.MapKept.stamped_push hs hne, ?_⟩, ?_, ?_⟩, grown_setBlock w r _, by simp [setBlock]⟩
    · simp [Instr.mapUpdate, run_underlying ht, Go.MapKept.run_getObj_map hb, K.keyed.check w _ hl, h1, Go.MapKept.run_setObj_map _ hb, Result.andThen, setBlock]
    · unfold mput
      rw [any_key, h2, if_neg (by simp), Array.toList_push, List.map_append, List.map_append, hm]
      rfl
    · unfold mput
      rw [any_key, h2, if_neg (by simp), List.length_append]
      simpa using hroom
    · intro p hp
      rcases mem_mput hp with rfl | hp
      · exact hx
      · exact h.ok p hp
  · have hj : ∃ e0, es[j]? = some e0 ∧ e0.key = K.enc x := by
      obtain ⟨e0, h6, h7⟩ := Option.map_eq_some_iff.1 h4
      exact ⟨e0, h6, h7⟩
    obtain ⟨e0, hj0, hj1⟩ := hj
    refine ⟨setBlock w r (.map (es.modify j fun e => { e with key := K.enc x, val := ve v }) clock), ?_, ⟨⟨_, _, heap_setBlock_at hb, Go.MapKept.stamped_modify hs j _ (fun _ _ => rfl) (fun e1 _ he => ?_), ?_⟩, ?_, ?_⟩, grown_setBlock w r _, by simp [setBlock]⟩
    · simp [Instr.mapUpdate, run_underlying ht, Go.MapKept.run_getObj_map hb, K.keyed.check w _ hl, h1, h4, K.keyed.stays w hl, Go.MapKept.run_setObj_map _ hb, Result.andThen, setBlock]
    · rw [hj0] at he; cases he; exact hj1.symm
    · rw [← mput_at hn h2, Array.toList_modify]
      apply List.ext_getElem?
      intro i
      have hi : (es.toList.map (fun e => (e.key, e.val)))[i]? = (m.map (fun p => (K.enc p.1, ve p.2)))[i]? := by rw [hm]
      rw [List.getElem?_map, List.getElem?_map] at hi
      rw [List.getElem?_map, List.getElem?_map, List.getElem?_modify, List.getElem?_set]
      by_cases hij : j = i
      · subst hij
        rw [if_pos rfl, if_pos (List.getElem?_eq_some_iff.1 h2).1]
        have : es.toList[j]? = some e0 := by rw [Array.getElem?_toList]; exact hj0
        rw [this]
        simp
      · rw [if_neg hij, ← hi]
        cases es.toList[i]? <;> simp [hij]
    · rw [← mput_at hn h2, List.length_set]; exact h.room
    · intro p hp
      rcases mem_mput hp with rfl | hp
      · exact hx
      · exact h.ok p hp
/-- 'delete(m, x)'. -/
theorem MapAt.delete {t e : TypeId} (h : MapAt K ve w r m) (ht : P.underlying t = some (.map K.k e)) {x : κ} (hx : K.ok x) (ty : TypeId) :
    ∃ w', (Builtin.delete_ #[t, K.k] ty #[.map (some r), K.enc x]).run P w = .ok (.tuple #[]) w' ∧ MapAt K ve w' r (mdel m x) ∧ w.grownBy w' (some r) ∧ w'.heap.size = w.heap.size := by
  have hn := h.nodup
  obtain ⟨lx, hl⟩ := K.lit x hx
  obtain ⟨es, clock, hb, hs, hm, ⟨h1, h2, h3⟩ | ⟨j, u, h1, h2, h3, h4, h5⟩⟩ := h.find hx
  · refine ⟨setBlock w r (.map es clock), ?_, ⟨⟨_, _, heap_setBlock_at hb, hs, ?_⟩, ?_, ?_⟩, grown_setBlock w r _, by simp [setBlock]⟩
    · simp [Builtin.delete_, run_underlying ht, Go.MapKept.run_getObj_map hb, K.keyed.check w _ hl, h1, Go.MapKept.run_setObj_map _ hb, Result.andThen, setBlock]
    · rw [mdel_none h3, hm]
    · rw [mdel_none h3]; exact h.room
    · rw [mdel_none h3]; exact h.ok
  · refine ⟨setBlock w r (.map (es.eraseIdxIfInBounds j) clock), ?_, ⟨⟨_, _, heap_setBlock_at hb, Go.MapKept.stamped_erase hs j, ?_⟩, ?_, ?_⟩, grown_setBlock w r _, by simp [setBlock]⟩
    · simp [Builtin.delete_, run_underlying ht, Go.MapKept.run_getObj_map hb, K.keyed.check w _ hl, h1, Go.MapKept.run_setObj_map _ hb, Result.andThen, setBlock]
    · rw [← mdel_at hn h2]
      have e1 : (es.eraseIdxIfInBounds j).toList = es.toList.eraseIdx j := by simp
      rw [e1, Go.ChangeMaps.map_eraseIdx, hm, ← Go.ChangeMaps.map_eraseIdx]
    · exact Nat.le_trans (List.length_filter_le _ _) h.room
    · intro p hp; exact h.ok p (List.mem_filter.1 hp).1
/-- 'len(m)'. -/
theorem MapAt.len {t e : TypeId} (h : MapAt K ve w r m) (ht : P.underlying t = some (.map K.k e)) (ty : TypeId) : (Builtin.len_ #[t] ty #[.map (some r)]).run P w = .ok (.int .i64 m.length) w := by
  obtain ⟨es, clock, hb, hs, hm⟩ := h.ex
  have hz : es.size = m.length := by have := congrArg List.length hm; simpa using this
  simp [Builtin.len_, run_underlying ht, Go.MapKept.run_getObj_map hb, goInt, hz]
end

/-! ### maps, at the operations -/
section
variable {P : Program} {κ ν : Type} [DecidableEq κ] {K : KK P κ} {ve : ν → Value} {w : World} {r : Nat} {m : List (κ × ν)} {ops : Array Oper} {rest : List Oper} {o : Oper} {a : Act} {Q : Exit → Act → World → Prop}
theorem wp_lookup {t e : TypeId} (h : MapAt K ve w r m) (ht : P.underlying t = some (.map K.k e)) {z : ν} (hz : ∀ w, (zeroValue e).run P w = .ok (ve z) w) (x : κ) (hx : K.ok x) (hg : o.guard = none) (mo xo : Operand) (hop : o.op = Op.lookup t mo xo false)
    (hm : a.eval mo = .map (some r)) (he : a.eval xo = K.enc x) (hK : wpList P ops Q rest (a.put o.dst (ve ((mget m x).getD z))) w) : wpList P ops Q (o :: rest) a w := by
  refine wpList_plain hg fun K' hK' => ?_
  have hrun := h.lookup ht (hz w) hx false
  unfold Oper.wp
  simp [execOp, hop, hm, he, hrun, Result.andThen]
  exact hK' _ _ hK
theorem wp_lookup_ok {t e : TypeId} (h : MapAt K ve w r m) (ht : P.underlying t = some (.map K.k e)) {z : ν} (hz : ∀ w, (zeroValue e).run P w = .ok (ve z) w) (x : κ) (hx : K.ok x) (hg : o.guard = none) (mo xo : Operand) (hop : o.op = Op.lookup t mo xo true)
    (hm : a.eval mo = .map (some r)) (he : a.eval xo = K.enc x) (hK : wpList P ops Q rest (a.put o.dst (.tuple #[ve ((mget m x).getD z), .bool (mget m x).isSome])) w) : wpList P ops Q (o :: rest) a w := by
  refine wpList_plain hg fun K' hK' => ?_
  have hrun := h.lookup ht (hz w) hx true
  unfold Oper.wp
  simp [execOp, hop, hm, he, hrun, Result.andThen]
  exact hK' _ _ hK
theorem wp_update {t e : TypeId} (h : MapAt K ve w r m) (ht : P.underlying t = some (.map K.k e)) (x : κ) (hx : K.ok x) (v : ν) (hroom : m.length + 1 ≤ 140737488351232) (hg : o.guard = none) (mo xo vo : Operand) (hop : o.op = Op.mapUpdate t mo xo vo)
    (hm : a.eval mo = .map (some r)) (he : a.eval xo = K.enc x) (hv : a.eval vo = ve v) (hK : ∀ w', MapAt K ve w' r (mput m x v) → w.grownBy w' (some r) → w'.heap.size = w.heap.size → wpList P ops Q rest (a.put o.dst undef) w') : wpList P ops Q (o :: rest) a w := by
  refine wpList_plain hg fun K' hK' => ?_
  obtain ⟨w', hrun, h1, h2, h3⟩ := h.update ht hx v hroom
  unfold Oper.wp
  simp [execOp, hop, hm, he, hv, hrun, Result.andThen]
  exact hK' _ _ (hK w' h1 h2 h3)
end

end Go.Proofs.Ytemnakfjmikcdaa
