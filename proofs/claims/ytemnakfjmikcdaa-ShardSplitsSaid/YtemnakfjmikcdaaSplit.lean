/- Layer 32 (shard): what Split comes to: for each shard the events that the reference's Part tells. -/
import Derived.Test.YtemnakfjmikcdaaShard
set_option linter.unusedVariables false
set_option linter.unusedSimpArgs false
namespace Go.Proofs.Ytemnakfjmikcdaa
open Go.RowKit

/-! ### rows of rows -/
/-- Block g holds slices, each a row of the call's own, no two of them in one block. -/
structure ORows (w : World) (g : Nat) (vs : List Value) (ls : List (List Ev)) : Prop where
  len : vs.length = ls.length
  blk : w.heap[g]? = some (.cells vs.toArray 22 (0, 0))
  own : ∀ k (h : k < vs.length) (h' : k < ls.length), Own kE w (g + 1) vs[k] ls[k]
  apart : ∀ i j (hi : i < vs.length) (hj : j < vs.length), i ≠ j → vs[i].ownBlock = none ∨ vs[i].ownBlock ≠ vs[j].ownBlock

theorem ORows.lt {w : World} {g : Nat} {vs : List Value} {ls : List (List Ev)} (h : ORows w g vs ls) : g < w.heap.size := (Array.getElem?_eq_some_iff.1 h.blk).1
theorem ORows.later {w w' : World} {g B : Nat} {vs : List Value} {ls : List (List Ev)} (h : ORows w g vs ls) (hb : Below B w w') (hB : w.heap.size ≤ B) : ORows w' g vs ls :=
  ⟨h.len, (hb.block g (Nat.lt_of_lt_of_le h.lt hB)).trans h.blk, fun k h1 h2 => (h.own k h1 h2).upto hb hB, h.apart⟩
theorem ORows.cell {w : World} {g : Nat} {vs : List Value} {ls : List (List Ev)} (h : ORows w g vs ls) (k : Nat) (hk : k < vs.length) : w.cell? ⟨g, k, none⟩ = some vs[k] ∧ w.frozen? ⟨g, k, none⟩ = false := by
  refine ⟨?_, ?_⟩
  · rw [cell_of_row _ g k _ _ _ h.blk]; simp [hk]
  · simp [World.frozen?, h.blk]
theorem heap_setCell_row {w : World} {g k : Nat} {vs : List Value} {t : TypeId} {fr : Nat × Nat} (h : w.heap[g]? = some (.cells vs.toArray t fr)) (v : Value) : (w.setCell ⟨g, k, none⟩ v).heap[g]? = some (.cells (vs.set k v).toArray t fr) := by
  simp [World.setCell, h, Array.getElem?_modify]
theorem ORows.step {w w1 : World} {g : Nat} {vs : List Value} {ls : List (List Ev)} (h : ORows w g vs ls) (k : Nat) (hk : k < vs.length) (hk' : k < ls.length) {v' : Value} {x : Ev} {H : Nat}
    (ho : Own kE w1 (g + 1) v' (ls[k] ++ [x])) (hg : w.grownBy w1 vs[k].ownBlock) (hat : v'.ownBlock = vs[k].ownBlock ∨ v'.ownBlock = some H) (hH : w.heap.size ≤ H) :
    ORows (w1.setCell ⟨g, k, none⟩ v') g (vs.set k v') (ls.set k (ls[k] ++ [x])) := by
  have hne : ∀ i (hi : i < vs.length), some g ≠ vs[i].ownBlock := fun i hi e => by
    have := (h.own i hi (by rw [← h.len]; exact hi)).lt g e.symm
    omega
  have hb1 : w1.heap[g]? = some (.cells vs.toArray 22 (0, 0)) := (hg.block g h.lt (hne k hk)).trans h.blk
  have hset : w1.grownBy (w1.setCell ⟨g, k, none⟩ v') (some g) := ⟨rfl, rfl, rfl, by simp [World.setCell], fun i _ hi => Below.heap_setCell _ _ _ _ (fun e => hi (by rw [e]))⟩
  have hoNew : v'.ownBlock = none ∨ v'.ownBlock ≠ some g := by
    cases hv : v'.ownBlock with
    | none => exact .inl rfl
    | some j => exact .inr (fun e => by have := (ho.lt j hv).1; cases e; omega)
  refine ⟨by simp [h.len], heap_setCell_row hb1 v', ?_, ?_⟩
  · intro i hi hi'
    have hi2 : i < vs.length := by simpa using hi
    by_cases e : k = i
    · subst e
      simp only [List.getElem_set_self]
      exact ho.kept hset hoNew
    · simp only [List.getElem_set_ne e]
      have h1 := (h.own i hi2 (by rw [← h.len]; exact hi2)).kept hg (h.apart i k hi2 hk (fun e2 => e e2.symm))
      refine h1.kept hset ?_
      rcases h.own i hi2 (by rw [← h.len]; exact hi2) with ⟨_, _⟩
      cases hv : vs[i].ownBlock with
      | none => exact .inl rfl
      | some j => exact .inr (fun e2 => hne i hi2 (by rw [hv]; exact e2.symm))
  · intro i j hi hj hij
    have hi2 : i < vs.length := by simpa using hi
    have hj2 : j < vs.length := by simpa using hj
    have hfar : ∀ i (hi : i < vs.length), vs[i].ownBlock ≠ some H := fun i hi e => by
      have := (h.own i hi (by rw [← h.len]; exact hi)).lt H e
      omega
    by_cases e : k = i
    · subst e
      simp only [List.getElem_set_self, List.getElem_set_ne hij]
      rcases hat with e2 | e2
      · rw [e2]; exact h.apart k j hk hj2 hij
      · exact .inr (by rw [e2]; exact fun e3 => hfar j hj2 e3.symm)
    · by_cases e' : k = j
      · subst e'
        simp only [List.getElem_set_self, List.getElem_set_ne e]
        rcases hat with e2 | e2
        · rw [e2]; exact h.apart i k hi2 hk hij
        · exact .inr (by rw [e2]; exact hfar i hi2)
      · simp only [List.getElem_set_ne e, List.getElem_set_ne e']
        exact h.apart i j hi2 hj2 hij
theorem ORows.made {w : World} {g n : Nat} (hw : w.ownsRow g 22 1 (.slice (some ⟨g, 0, none⟩) n n) n (madeCells (Value.slice none 0 0).cells (n * 1)).toList) : ORows w g (List.replicate n (.slice none 0 0)) (List.replicate n []) := by
  rcases hw.2 with ⟨e1, _⟩ | ⟨g', cap, cur, e1, hb, hh, hn, hm, hs, ht⟩
  · cases e1
  · cases e1
    have hc : cur.toList = List.replicate n (.slice none 0 0) := by
      have h1 : cur.toList.take (n * 1) = cur.toList := List.take_of_length_le (by simp [hs])
      rw [← h1, ht]
      exact List.ext_getElem (by simp [madeCells]) (fun i h1 h2 => by simp [madeCells, Value.cells, Nat.mod_one])
    have hc' : cur = (List.replicate n (.slice none 0 0)).toArray := by rw [← hc]
    subst hc'
    refine ⟨by simp, hh, fun k h1 h2 => ?_, fun i j hi hj _ => ?_⟩
    · simp only [List.getElem_replicate]; exact Own.nil kE w (g + 1)
    · simp only [List.getElem_replicate]; exact .inl rfl

/-! ### Split -/
def parts (n : Nat) (l : List Ev) : List (List Ev) := (List.range n).map (fun k : Nat => part n k l)
/-- .. of which the first m have an event more. -/
def partsTo (n m : Nat) (l : List Ev) (x : Ev) : List (List Ev) := (List.range n).map (fun k : Nat => if k < m then part n k l ++ [x] else part n k l)
theorem parts_nil (n : Nat) : parts n [] = List.replicate n [] := by
  exact List.ext_getElem (by simp [parts]) (fun i h1 h2 => by simp [parts, part])
theorem partsTo_zero (n : Nat) (l : List Ev) (x : Ev) : partsTo n 0 l x = parts n l := by simp [partsTo, parts]
theorem partsTo_get (n m : Nat) (l : List Ev) (x : Ev) (k : Nat) (h : k < (partsTo n m l x).length) : (partsTo n m l x)[k] = if k < m then part n k l ++ [x] else part n k l := by simp [partsTo]
theorem partsTo_succ (n m : Nat) (l : List Ev) (x : Ev) (hm : m < n) (h : m < (partsTo n m l x).length) : (partsTo n m l x).set m ((partsTo n m l x)[m] ++ [x]) = partsTo n (m + 1) l x := by
  refine List.ext_getElem (by simp [partsTo]) (fun i h1 h2 => ?_)
  rw [List.getElem_set]
  by_cases e : m = i
  · subst e
    rw [if_pos rfl, partsTo_get, partsTo_get, if_neg (by omega), if_pos (by omega)]
  · rw [if_neg e, partsTo_get, partsTo_get]
    by_cases h3 : i < m
    · rw [if_pos h3, if_pos (by omega)]
    · rw [if_neg h3, if_neg (by omega)]
theorem part_succ (n k : Int) {l : List Ev} {j : Nat} (h : j < l.length) : part n k (l.take (j + 1)) = part n k (l.take j) ++ (if thing l[j] || decide (shardOf l[j].person n = k) then [l[j]] else []) := take_filter_succ _ h
theorem partsTo_all {n : Nat} {l : List Ev} {j : Nat} (h : j < l.length) (ht : thing l[j] = true) : partsTo n n (l.take j) l[j] = parts n (l.take (j + 1)) := by
  refine List.ext_getElem (by simp [partsTo, parts]) (fun i h1 h2 => ?_)
  have hi : i < n := by simpa [parts] using h2
  rw [partsTo_get, if_pos hi]
  simp only [parts, List.getElem_map, List.getElem_range]
  rw [part_succ n i h, ht]
  simp
theorem parts_own {n : Nat} {l : List Ev} {j : Nat} (h : j < l.length) (ht : thing l[j] = false) {k : Nat} (hk : shardOf l[j].person n = k) (hn : k < (parts n (l.take j)).length) : (parts n (l.take j)).set k ((parts n (l.take j))[k] ++ [l[j]]) = parts n (l.take (j + 1)) := by
  refine List.ext_getElem (by simp [parts]) (fun i h1 h2 => ?_)
  rw [List.getElem_set]
  simp only [parts, List.getElem_map, List.getElem_range]
  rw [part_succ n i h, ht, hk]
  by_cases e : k = i
  · subst e; rw [if_pos rfl]; simp
  · rw [if_neg e]
    have : ¬ ((k : Int) = (i : Int)) := by omega
    simp [this]
theorem parts_len (n : Nat) (l : List Ev) : (parts n l).length = n := by simp [parts]
theorem partsTo_len (n m : Nat) (l : List Ev) (x : Ev) : (partsTo n m l x).length = n := by simp [partsTo]
theorem partsTo_room (n m : Nat) (l : List Ev) (x : Ev) (j k : Nat) (hk : k < (partsTo n m (l.take j) x).length) (hkm : ¬ k < m) (h : j < l.length) (hr : l.length * 96 ≤ 140737488351232) : ((partsTo n m (l.take j) x)[k].length + 1) * 96 ≤ 140737488351232 := by
  rw [partsTo_get, if_neg hkm]
  exact part_le n k l j h hr

theorem split_below {w wr wb w3 : World} {o : Obj} {k : Nat} {u v : Value} {ls : List Ev} (hb : Below w.heap.size w wr) (hw : Below wr.heap.size wr (wb.alloc o).drew) (hg : (wb.alloc o).drew.grownBy w3 u.ownBlock) (ho : Own kE wr (w.heap.size + 1) u ls) (hgl : w.heap.size < wr.heap.size) :
    Below w.heap.size w (w3.setCell ⟨w.heap.size, k, none⟩ v) := by
  have h1 : Below w.heap.size w (wb.alloc o).drew := below_then hb hw hb.size
  have h2 : Below w.heap.size w w3 := h1.grown hg (Nat.le_trans hb.size hw.size) (fun j hj => by have := (ho.lt j hj).1; omega)
  exact h2.setCell (Nat.le_refl _) v
theorem split_box {wb w3 : World} {o : Obj} {b k g : Nat} {u v : Value} {cs : Array Value} {t : TypeId} {fr : Nat × Nat} (hx : wb.heap[b]? = some (.cells cs t fr)) (hg : (wb.alloc o).drew.grownBy w3 u.ownBlock) (hne : some b ≠ u.ownBlock) (hgb : b ≠ g) :
    (w3.setCell ⟨g, k, none⟩ v).heap[b]? = some (.cells cs t fr) := by
  have hl := (Array.getElem?_eq_some_iff.1 hx).1
  rw [Below.heap_setCell _ _ _ _ hgb, hg.block b (by show _ < (wb.alloc o).heap.size; rw [World.size_alloc]; omega) hne]
  exact (Below.heap_alloc wb o b hl).trans hx
theorem split_far {us : List Value} {b m H : Nat} {v : Value} (h : ∀ i (h : i < us.length), some b ≠ us[i].ownBlock) (hm : m < us.length) (hat : v.ownBlock = us[m].ownBlock ∨ v.ownBlock = some H) (hH : b < H) :
    Hid (∀ i (h : i < (us.set m v).length), some b ≠ (us.set m v)[i].ownBlock) := by
  intro i hi
  have hi2 : i < us.length := by simpa using hi
  by_cases e : m = i
  · subst e
    simp only [List.getElem_set_self]
    rcases hat with e2 | e2
    · rw [e2]; exact h m hm
    · rw [e2]; intro e3; cases e3; omega
  · simp only [List.getElem_set_ne e]; exact h i hi2

set_option maxHeartbeats 3200000 in
set_option maxRecDepth 100000 in
theorem split_calls (A : Option Addr) (c : Nat) (l : List Ev) (n : Nat) (w : World) (hl : Rd kE w A c l) (h0 : 1 ≤ n) (h2 : n ≤ 1024) :
    Calls Try.prog 13 #[.int .i64 n, .slice A l.length c] w fun e w' => ∃ vs, e = .returned (.slice (some ⟨w.heap.size, 0, none⟩) n n) ∧ ORows w' w.heap.size vs (parts n l) ∧ Below w.heap.size w w' := by
  have h1 := hl.len (by decide)
  have hroom : l.length * 96 ≤ 140737488351232 := hl.room
  have HL := Lib.hid hl
  clear hl
  obtain ⟨i0, hi, hz0, hz1, hz2⟩ := info_parts (show (Try.prog.info? 22).map (fun i => (i.zero, i.size, i.bytes)) = some (some (.slice none 0 0), 1, 24) by kernel_rfl)
  go_enter Try.func13, Try.ntmps13
  go_wp2_with (at_make; refine wpList_make_full _ rfl _ _ 25 rfl w.heap.size 22 i0 _ 1 Try.underlying25 hi hz0 hz1 .i64 .i64 _ _ n rfl rfl rfl rfl (by rw [hz2]; omega) (by unfold maxLen; omega) (Nat.le_refl _) ?_; intro w1 ho1 hg1)
  clear hi hz0 hz1 hz2
  go_loopw [20] (fun i wr => ∃ (j : Nat) (vs : List Value), j ≤ l.length ∧ i = .int .i64 j ∧ Below w.heap.size w wr ∧ ORows wr w.heap.size vs (parts n (l.take j))) (fun i _ => l.length - (intOf i).toNat)
  case atStart => exact ⟨0, _, Nat.zero_le _, rfl, ⟨hg1.os, hg1.tape, hg1.output, hg1.size, fun k hk => hg1.block k hk (by simp)⟩, by rw [List.take_zero, parts_nil]; exact ORows.made ho1⟩
  case round =>
    obtain ⟨j, vs, hj, rfl, hb, ho⟩ := hrel
    have HO := Lib.hid ho
    have HB := Lib.hid hb
    have hlen : vs.length = n := by have := ho.len; rw [parts_len] at this; exact this
    have hgl := ho.lt
    clear hb ho ho1 hg1
    by_cases hlt : j < l.length
    · obtain ⟨a, rfl, a0, a1, a2, a3, a4, a5, a6, a7⟩ := (HL.out.later HB.out).ev j hlt
      have hok : Hid (l[j].ok) := HL.out.ok l[j] (List.getElem_mem hlt)
      have HT1 : Hid (thing l[j] = true → partsTo n n (l.take j) l[j] = parts n (l.take (j + 1))) := fun h => partsTo_all hlt h
      have HT2 : Hid (∀ k : Nat, thing l[j] = false → shardOf l[j].person n = k → ∀ hn : k < (parts n (l.take j)).length, (parts n (l.take j)).set k ((parts n (l.take j))[k] ++ [l[j]]) = parts n (l.take (j + 1))) := fun k h1 h2 h3 => parts_own hlt h1 h2 h3
      generalize l[j] = x at *
      have hsz := HB.out.size
      have hF : Hid (thing x = (x.kind == 11 || x.kind == 12 || x.kind == 13)) := rfl
      have HLen := Lib.hid hlen
      clear hlen
      rcases (by cases (x.kind == 11) <;> cases (x.kind == 12) <;> cases (x.kind == 13) <;> simp : (x.kind == 11) = true ∨ ((x.kind == 11) = false ∧ (x.kind == 12) = true) ∨ ((x.kind == 11) = false ∧ (x.kind == 12) = false ∧ (x.kind == 13) = true) ∨
        ((x.kind == 11) = false ∧ (x.kind == 12) = false ∧ (x.kind == 13) = false)) with h | ⟨h, h3⟩ | ⟨h, h3, h4⟩ | ⟨h, h3, h4⟩
      case' inr.inr.inr =>
        have hT : Hid (thing x = false) := by show _ = _; rw [hF.out]; simp [*]
        have hsr := shardOf_range x.person (n := n) (by omega)
        obtain ⟨k, hk⟩ := Int.eq_ofNat_of_zero_le hsr.1
        have hk0 : (0 : Int) ≤ (k : Int) := by omega
        have hk1 : (k : Int) < (n : Int) := by omega
        have hkv : k < vs.length := by have := HLen.out; omega
        have hkp : k < (parts n (l.take j)).length := by rw [parts_len]; omega
        have HT3 := Lib.hid (HT2.out k hT.out hk hkp)
        have HO3 := Lib.hid (HO.out.own k hkv hkp)
        have HRoom : Hid (((parts n (l.take j))[k].length + 1) * 96 ≤ 140737488351232) := by
          have := part_le n k l j hlt hroom
          show _ ≤ _
          simpa [parts] using this
        have hcell := HO.out.cell k hkv
        obtain ⟨hcell1, hcell2⟩ := hcell
        have hne1 : some w.heap.size ≠ vs[k].ownBlock := fun e => by have := (HO3.out.lt _ e.symm).1; omega
        have hne2 : some wr.heap.size ≠ vs[k].ownBlock := fun e => by have := (HO3.out.lt _ e.symm).2; omega
        clear hsr HT2
        go_wp2_with (go_at_call 14; refine (of_calls _ _ _ hok.out.person (by unfold isI64; omega)).mono ?_; rintro e w' ⟨rfl, hb'⟩; obtain ⟨c0, c1, c2, c3, c4, c5, c6, c7⟩ := evBox hb'; have hsz2 := hb'.size; simp at hsz2; have HB2 := Lib.hid hb'; have hd1 := (cell_later_upto hb' (by simp; omega) hcell1); have hd2 := (free_later_upto hb' (by simp; omega) hcell2); clear hb')
        have HOk := Lib.hid ((HO3.out.alloc _).upto HB2.out (Nat.le_refl _))
        have hl3 : w.heap.size < w'.heap.size := by omega
        have hl4 : w.heap.size + 1 ≤ (w'.alloc (.cells #[.string x.source, .int .i64 x.number, .int .i64 x.at', .int .i64 x.kind, .string x.person, .string x.item, .int .i64 x.value, .string x.text] 33)).drew.heap.size := by show _ ≤ (w'.alloc _).heap.size; rw [World.size_alloc]; omega
        have hbw : Below wr.heap.size wr (w'.alloc (.cells #[.string x.source, .int .i64 x.number, .int .i64 x.at', .int .i64 x.kind, .string x.person, .string x.item, .int .i64 x.value, .string x.text] 33)).drew := ((((Below.refl _ wr).alloc (Nat.le_refl _) _).trans (HB2.out.mono (by simp))).alloc (by omega) _).drew
        have HOW := Lib.hid (HO.out.later hbw (Nat.le_refl _))
        have HBW := Lib.hid hbw
        clear hbw
        generalize hu : vs[k] = u at *
        have HU := Lib.hid hu
        clear hu
        go_region_law
          ((refine step_append1 kE_elem (w.heap.size + 1) u _ ((HOk.out.alloc _).drew) x hok.out (heap_alloc_new _ _) (by rfl) HRoom.out (by rfl) _ _ (by rfl) (by rfl) (by rfl) hl4 rfl ?_; intro v3 w3 ho3 hg3 hat3; obtain ⟨g3, cap3, rfl⟩ := ho3.form_snoc; have hfz : w3.frozen? ⟨w.heap.size, k, none⟩ = false := free_through hg3 hne1 hd2 hl3; have e0 := cell_through hg3 hne1 hd1; have e1 := cell_through hg3 hne2 c0; have e2 := cell_through hg3 hne2 c1; have e3 := cell_through hg3 hne2 c2; have e4 := cell_through hg3 hne2 c3; have e5 := cell_through hg3 hne2 c4; have e6 := cell_through hg3 hne2 c5; have e7 := cell_through hg3 hne2 c6; have e8 := cell_through hg3 hne2 c7))
        all_goals
          go_wp2
          go_roundw
          case rel => exact ⟨j + 1, vs.set k (.slice (some ⟨g3, 0, none⟩) _ cap3), by omega, by go_num, split_below HB.out HBW.out hg3 HO3.out hgl, by rw [← HT3.out]; exact HOW.out.step k hkv hkp ho3 (by rw [HU.out]; exact hg3) (by rw [HU.out]; exact hat3) (Nat.le_refl _)⟩
          case measure => simp [intOf]; omega
      all_goals
        have hT : Hid (thing x = true) := by show _ = _; rw [hF.out]; simp [*]
        obtain ⟨wo, rfl⟩ : ∃ wo : World, wo = wr := ⟨_, rfl⟩
        have HB1 := Lib.hid ((Below.refl wo.heap.size wo).alloc (Nat.le_refl _) (.cells #[.string x.source, .int .i64 x.number, .int .i64 x.at', .int .i64 x.kind, .string x.person, .string x.item, .int .i64 x.value, .string x.text] 33))
        have HN : Hid (∀ i (h : i < vs.length), some wo.heap.size ≠ vs[i].ownBlock) := fun i h e => by
          have := ((HO.out.own i h (by rw [← HO.out.len]; exact h)).lt _ e.symm).2
          omega
        have HO2 := Lib.hid (HO.out.later HB1.out (Nat.le_refl _))
        go_wp2
        go_loopw [46] (fun i wq => ∃ (m : Nat) (us : List Value), m ≤ n ∧ i = .int .i64 m ∧ Below w.heap.size w wq ∧ ORows wq w.heap.size us (partsTo n m (l.take j) x) ∧ wq.heap[wo.heap.size]? = some (.cells #[.string x.source, .int .i64 x.number, .int .i64 x.at', .int .i64 x.kind, .string x.person, .string x.item, .int .i64 x.value, .string x.text] 33 (0, 0)) ∧ Hid (∀ i (h : i < us.length), some wo.heap.size ≠ us[i].ownBlock)) (fun i _ => n - (intOf i).toNat)
        case atStart => exact ⟨0, vs, Nat.zero_le _, rfl, HB.out.alloc HB.out.size _, by rw [partsTo_zero]; exact HO2.out, heap_alloc_new _ _, HN⟩
        case round =>
          obtain ⟨m, us, hm, rfl, hb, ho, hbox, hn⟩ := hrel
          obtain ⟨wq, rfl⟩ : ∃ wq : World, wq = wr := ⟨_, rfl⟩
          have HP := Lib.hid ho
          have HQ := Lib.hid hb
          have HX := Lib.hid hbox
          have hul : us.length = n := by have := ho.len; rw [partsTo_len] at this; exact this
          have HUL := Lib.hid hul
          have hlq := (Array.getElem?_eq_some_iff.1 hbox).1
          clear hb ho hbox hul
          by_cases hmn : m < n
          · have hk0 : (0 : Int) ≤ (m : Int) := by omega
            have hk1 : (m : Int) < (n : Int) := by omega
            have hkv : m < us.length := by have := HUL.out; omega
            have hkp : m < (partsTo n m (l.take j) x).length := by rw [partsTo_len]; omega
            have HT3 := Lib.hid (partsTo_succ n m (l.take j) x hmn hkp)
            have HO3 := Lib.hid (HP.out.own m hkv hkp)
            have HRoom := Lib.hid (partsTo_room n m l x j m hkp (by omega) hlt hroom)
            obtain ⟨hd1, hd2⟩ := HP.out.cell m hkv
            have hne1 : some w.heap.size ≠ us[m].ownBlock := fun e => by have := (HO3.out.lt _ e.symm).1; omega
            have hne2 := hn.out m hkv
            obtain ⟨c0, c1, c2, c3, c4, c5, c6, c7⟩ := evBlock HX.out
            have hgl2 := HP.out.lt
            have hl4 : w.heap.size + 1 ≤ (wq.alloc (.cells #[.string x.source, .int .i64 x.number, .int .i64 x.at', .int .i64 x.kind, .string x.person, .string x.item, .int .i64 x.value, .string x.text] 33)).drew.heap.size := by show _ ≤ (wq.alloc _).heap.size; rw [World.size_alloc]; omega
            have hbw : Below wq.heap.size wq (wq.alloc (.cells #[.string x.source, .int .i64 x.number, .int .i64 x.at', .int .i64 x.kind, .string x.person, .string x.item, .int .i64 x.value, .string x.text] 33)).drew := ((Below.refl _ wq).alloc (Nat.le_refl _) _).drew
            have HOW := Lib.hid (HP.out.later hbw (Nat.le_refl _))
            have HBW := Lib.hid hbw
            clear hbw
            generalize hu : us[m] = u at *
            have HU := Lib.hid hu
            clear hu
            go_wp2
            go_region_law
              ((refine step_append1 kE_elem (w.heap.size + 1) u _ ((HO3.out.alloc _).drew) x hok.out (heap_alloc_new _ _) (by rfl) HRoom.out (by rfl) _ _ (by rfl) (by rfl) (by rfl) hl4 rfl ?_; intro v3 w3 ho3 hg3 hat3; obtain ⟨g3, cap3, rfl⟩ := ho3.form_snoc; have hfz : w3.frozen? ⟨w.heap.size, m, none⟩ = false := free_through hg3 hne1 hd2 hgl2; have e0 := cell_through hg3 hne1 hd1; have e1 := cell_through hg3 hne2 c0; have e2 := cell_through hg3 hne2 c1; have e3 := cell_through hg3 hne2 c2; have e4 := cell_through hg3 hne2 c3; have e5 := cell_through hg3 hne2 c4; have e6 := cell_through hg3 hne2 c5; have e7 := cell_through hg3 hne2 c6; have e8 := cell_through hg3 hne2 c7))
            all_goals
              go_wp2
              go_roundw
              case rel => exact ⟨m + 1, us.set m (.slice (some ⟨g3, 0, none⟩) _ cap3), by omega, by go_num, split_below HQ.out HBW.out hg3 HO3.out hgl2, by rw [← HT3.out]; exact HOW.out.step m hkv hkp ho3 (by rw [HU.out]; exact hg3) (by rw [HU.out]; exact hat3) (Nat.le_refl _), split_box HX.out hg3 hne2 (by omega), split_far hn.out hkv (by rw [HU.out]; exact hat3) (by show _ < (wq.alloc _).heap.size; rw [World.size_alloc]; omega)⟩
              case measure => simp [intOf]; omega
          · obtain rfl : m = n := by omega
            have HT3 := Lib.hid (HT1.out hT.out)
            go_wp2
            go_roundw
            case rel => exact ⟨j + 1, us, by omega, by go_num, HQ.out, by rw [← HT3.out]; exact HP.out⟩
            case measure => simp [intOf]; omega
    · have HJ := Lib.hid (take_all (l := l) (k := j) (by omega))
      rw [HJ.out] at HO
      go_wp2
      go_returns
      exact ⟨_, rfl, HO.out, HB.out⟩
/-- The same, its block a letter. -/
theorem split_any (A : Option Addr) (c : Nat) (l : List Ev) (n : Nat) (w : World) (hl : Rd kE w A c l) (h0 : 1 ≤ n) (h2 : n ≤ 1024) :
    Calls Try.prog 13 #[.int .i64 n, .slice A l.length c] w fun e w' => ∃ g vs, e = .returned (.slice (some ⟨g, 0, none⟩) n n) ∧ ORows w' g vs (parts n l) ∧ Below w.heap.size w w' :=
  (split_calls A c l n w hl h0 h2).mono fun _ _ ⟨vs, h⟩ => ⟨_, vs, h⟩
set_option maxHeartbeats 400000 in
/-- Of no shards, or too many, there are no lists. -/
theorem split_none (A : Option Addr) (c : Nat) (l : List Ev) (n : Int) (w : World) (h0 : n < 1 ∨ 1024 < n) :
    Calls Try.prog 13 #[.int .i64 n, .slice A l.length c] w fun e w' => e = .returned (.slice none 0 0) ∧ w = w' := by
  rcases h0 with h0 | h0
  all_goals
    go_enter Try.func13, Try.ntmps13
    go_wp2
    go_returns
    exact ⟨rfl, rfl⟩
end Go.Proofs.Ytemnakfjmikcdaa
