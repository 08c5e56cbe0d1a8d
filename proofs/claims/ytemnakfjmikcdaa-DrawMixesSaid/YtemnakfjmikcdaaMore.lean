/- More words and laws on memory: parts of rows, and appends of whole rows as steps of a region that draws its order. No program is named here. -/
import Derived.Test.YtemnakfjmikcdaaKinds
set_option linter.unusedVariables false
set_option linter.unusedSimpArgs false
namespace Go.Proofs.Ytemnakfjmikcdaa
open Go.RowKit

theorem add_add (a : Addr) (n k : Nat) : (a.add n).add k = a.add (n + k) := by
  unfold Addr.add
  by_cases hn : n = 0 <;> by_cases hk : k = 0 <;> simp [hn, hk]
  omega
section
variable {α : Type} {K : EK α} {w : World} {c : Nat} {l : List α}
theorem Rd.take {A : Option Addr} (h : Rd K w A c l) (m : Nat) (c' : Nat) (hm : m ≤ l.length) (hc : m ≤ c') (hc2 : c' ≤ maxLen) : Rd K w A c' (l.take m) := by
  have hlen : (l.take m).length = m := by rw [List.length_take]; omega
  refine ⟨by rw [hlen]; exact hc, ?_, fun x hx => h.ok x (List.mem_of_mem_take hx), fun i hi => ?_⟩
  · rw [hlen]; exact Nat.le_trans (Nat.mul_le_mul_right _ hm) h.room
  · rw [hlen] at hi
    obtain ⟨a, e, hcell⟩ := h.cell i (by omega)
    exact ⟨a, e, fun j u hj => hcell j u (by rw [List.getElem_take] at hj; exact hj)⟩
theorem Rd.drop {a : Addr} (h : Rd K w (some a) c l) (hs : K.sz = 1) (m : Nat) (c' : Nat) (hm : m ≤ l.length) (hc : l.length - m ≤ c') (hc2 : c' ≤ maxLen) : Rd K w (some (a.add m)) c' (l.drop m) := by
  have hlen : (l.drop m).length = l.length - m := List.length_drop
  refine ⟨by rw [hlen]; exact hc, ?_, fun x hx => h.ok x (List.mem_of_mem_drop hx), fun i hi => ⟨_, rfl, fun j u hj => ?_⟩⟩
  · rw [hlen]; exact Nat.le_trans (Nat.mul_le_mul_right _ (Nat.sub_le _ _)) h.room
  · rw [hlen] at hi
    obtain ⟨a', e, hcell⟩ := h.cell (m + i) (by omega)
    cases e
    have := hcell j u (by rw [List.getElem_drop] at hj; exact hj)
    rw [add_add]
    rw [hs] at this ⊢
    have e2 : (m + i) * 1 + j = m + (i * 1 + j) := by omega
    rw [e2] at this
    exact this
end

theorem grown_cell {w w' : World} {row : Option Nat} {a : Addr} {v : Value} (h : w.grownBy w' row) (hne : some a.block ≠ row) (hc : w.cell? a = some v) : w'.cell? a = some v := by
  rw [World.cell?_of_block (h.block a.block (World.block_lt_of_cell? w a hc) hne)]; exact hc
theorem Rd.grown {α : Type} {K : EK α} {w w' : World} {row : Option Nat} {a : Addr} {c : Nat} {l : List α} (h : Rd K w (some a) c l) (hg : w.grownBy w' row) (hlt : a.block < w.heap.size) (hne : some a.block ≠ row) : Rd K w' (some a) c l :=
  h.same fun a' e => by cases e; exact hg.block _ hlt hne
section
variable {α : Type} {P : Program} {K : EK α} {t : TypeId} {z : Value} {ops : Array Oper} {o : Oper} {a : Act} {Q : Exit → Act → World → Prop} {C : Act → World → Prop} {F : Prop}
/-- 'append(v, ys...)' as a step of a region that draws its order. -/
theorem step_append (E : ElemOk P K t z) {w : World} (base : Nat) (v : Value) (l : List α) (hown : Own K w base v l) (ad : Addr) (c : Nat) (ys : List α) (hys : Rd K w (some ad) c ys) {n : Nat} (hn : ys.length = n)
    (hroom : (l.length + ys.length) * K.bytes ≤ 140737488355328) (hbase : base ≤ w.heap.size) (hg : o.guard = none) (s y : Operand)
    (ho : o.op = .call { callee := .builtin .append, args := #[s, y], argTypes := #[t, t] }) (hs : a.eval s = v) (hy : a.eval y = .slice (some ad) n c)
    (h : ∀ v' w', Own K w' base v' (l ++ ys) → w.grownBy w' v.ownBlock → (v'.ownBlock = v.ownBlock ∨ v'.ownBlock = some w.heap.size) → C (a.put o.dst v') w') :
    if Region.wanted o (yielded ops a.tmps) = true then Oper.wp P o a w C Q else F := by
  subst hn
  rw [if_pos (by simp [Region.wanted, hg])]
  obtain ⟨i, hi, hz0, hz1, hz2⟩ := info_parts E.info
  have h63 : l.length + ys.length ≤ maxLen := by
    have : l.length + ys.length ≤ (l.length + ys.length) * K.bytes := Nat.le_mul_of_pos_right _ E.bpos
    unfold maxLen; omega
  obtain ⟨v', w', hr, h2, h3, h4, h5⟩ := run_append_own_at (P := P) w base t o.type K.ty i z K.sz K.bytes E.slice hi hz0 hz1 hz2 E.zs E.pos v l.length _ hown.row ad ys.length c (ys.flatMap K.enc) (flatMap_len K ys)
    (fun j u hj => by
      have hlen := (List.getElem?_eq_some_iff.1 hj).1
      rw [flatMap_len] at hlen
      have hd : j / K.sz < ys.length := by rw [Nat.div_lt_iff_lt_mul E.pos]; exact hlen
      obtain ⟨a', e, hc⟩ := hys.cell (j / K.sz) hd
      cases e
      have hm : j % K.sz < (K.enc ys[j / K.sz]).length := by rw [K.len]; exact Nat.mod_lt _ E.pos
      have h2 := flatMap_get K ys (j / K.sz) hd (j % K.sz) _ (List.getElem?_eq_getElem hm)
      have e2 : j / K.sz * K.sz + j % K.sz = j := by rw [Nat.mul_comm]; exact Nat.div_add_mod j K.sz
      rw [e2] at h2
      rw [h2] at hj
      have h3 := hc (j % K.sz) _ (List.getElem?_eq_getElem hm)
      rw [e2] at h3
      rw [h3]
      exact hj)
    (fun u hu => by
      obtain ⟨y, _, hu⟩ := List.mem_flatMap.1 hu
      exact K.one y u hu) h63 (by omega) hbase
  have hO : Own K w' base v' (l ++ ys) := ⟨by rw [List.length_append, List.flatMap_append]; exact h2, fun y hy => by
    rcases List.mem_append.1 hy with hy | hy
    · exact hown.ok y hy
    · exact hys.ok y hy⟩
  unfold Oper.wp execOp
  simp only [ho, resolve, invoke, builtin, Sem.run_bind, Sem.run_pure, Result.andThen_ok, List.map_toArray, List.map_cons, List.map_nil, hs, hy, hr]
  exact h v' w' hO h3 h5
theorem wp_append_n {rest : List Oper} (E : ElemOk P K t z) {w : World} (base : Nat) (v : Value) (l : List α) (hown : Own K w base v l) (A : Option Addr) (c : Nat) (ys : List α) (hys : Rd K w A c ys) {n : Nat} (hn : ys.length = n)
    (hroom : (l.length + ys.length) * K.bytes ≤ 140737488355328) (hbase : base ≤ w.heap.size) (hg : o.guard = none) (s x : Operand)
    (ho : o.op = .call { callee := .builtin .append, args := #[s, x], argTypes := #[t, t] }) (hs : a.eval s = v) (hx : a.eval x = .slice A n c) (hA : A = none → c = 0)
    (h : ∀ v' w', Own K w' base v' (l ++ ys) → w.grownBy w' v.ownBlock → (v'.ownBlock = v.ownBlock ∨ v'.ownBlock = some w.heap.size) → wpList P ops Q rest (a.put o.dst v') w') :
    wpList P ops Q (o :: rest) a w := wp_append E base v l hown A c ys hys hroom hbase hg s x ho hs (by rw [hx, hn]) hA h
end
end Go.Proofs.Ytemnakfjmikcdaa
