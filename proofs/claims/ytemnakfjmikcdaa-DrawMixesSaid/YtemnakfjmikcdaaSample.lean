/- Layer 26 (draw): what is sampled: draw.Sample, and the reference's Sample. -/
import Derived.Test.YtemnakfjmikcdaaOrder
import Derived.Test.YtemnakfjmikcdaaOnce
import Derived.Test.YtemnakfjmikcdaaMore
import Derived.Deep.CutBlock
import Derived.Shelf.SlSortCmp.NoneTotal
set_option linter.unusedVariables false
set_option linter.unusedSimpArgs false
namespace Go.Proofs.Ytemnakfjmikcdaa
open Go.RowKit

/-! ### sorted by insertion, and by merging -/
def insT (f : ByteArray → Int) (x : ByteArray) (l : List ByteArray) : List ByteArray := l.takeWhile (fun y => !ahead f x y) ++ x :: l.dropWhile (fun y => !ahead f x y)
def srt (f : ByteArray → Int) (l : List ByteArray) : List ByteArray := l.mergeSort (fun x y => !ahead f y x)
theorem insT_perm (f : ByteArray → Int) (x : ByteArray) (l : List ByteArray) : (insT f x l).Perm (x :: l) := by
  unfold insT
  refine List.perm_middle.trans ?_
  rw [List.takeWhile_append_dropWhile]
theorem ahead_asym {f : ByteArray → Int} {x y : ByteArray} (h : ahead f x y = true) : ahead f y x = false := by
  cases h2 : ahead f y x with
  | false => rfl
  | true => have := ahead_trans h h2; rw [ahead_irrefl] at this; cases this
theorem dropWhile_ahead {f : ByteArray → Int} {x : ByteArray} : ∀ {l : List ByteArray}, l.Pairwise (fun a b => ahead f b a = false) → ∀ z ∈ l.dropWhile (fun y => !ahead f x y), ahead f z x = false
  | [], _, z, hz => by simp at hz
  | y :: l, hp, z, hz => by
    rw [List.pairwise_cons] at hp
    rw [List.dropWhile_cons] at hz
    split at hz
    · exact dropWhile_ahead hp.2 z hz
    · rename_i h
      have h1 : ahead f x y = true := by simpa using h
      rcases List.mem_cons.1 hz with rfl | hz
      · exact ahead_asym h1
      · have h2 := hp.1 z hz
        cases h3 : ahead f z x with
        | false => rfl
        | true => have := ahead_trans h3 h1; rw [h2] at this; cases this
theorem takeWhile_ahead {f : ByteArray → Int} {x : ByteArray} : ∀ {l : List ByteArray}, ∀ z ∈ l.takeWhile (fun y => !ahead f x y), ahead f x z = false
  | [], z, hz => by simp at hz
  | y :: l, z, hz => by
    rw [List.takeWhile_cons] at hz
    split at hz
    · rename_i h
      rcases List.mem_cons.1 hz with rfl | hz
      · simpa using h
      · exact takeWhile_ahead z hz
    · simp at hz
theorem insT_sorted {f : ByteArray → Int} {x : ByteArray} {l : List ByteArray} (h : l.Pairwise (fun a b => ahead f b a = false)) : (insT f x l).Pairwise (fun a b => ahead f b a = false) := by
  unfold insT
  have hs := h
  rw [← List.takeWhile_append_dropWhile (p := fun y => !ahead f x y) (l := l), List.pairwise_append] at h
  rw [List.pairwise_append, List.pairwise_cons]
  refine ⟨h.1, ⟨fun z hz => dropWhile_ahead hs z hz, h.2.1⟩, fun a ha b hb => ?_⟩
  rcases List.mem_cons.1 hb with rfl | hb
  · exact takeWhile_ahead a ha
  · exact h.2.2 a ha b hb
def insAll (f : ByteArray → Int) (l : List ByteArray) : List ByteArray := l.foldl (fun acc x => insT f x acc) []
theorem insAll_succ (f : ByteArray → Int) {l : List ByteArray} {k : Nat} (h : k < l.length) : insAll f (l.take (k + 1)) = insT f l[k] (insAll f (l.take k)) := by
  unfold insAll
  rw [List.take_succ_eq_append_getElem h, List.foldl_append]; rfl
theorem insAll_both (f : ByteArray → Int) : ∀ (l acc : List ByteArray), acc.Pairwise (fun a b => ahead f b a = false) → (l.foldl (fun acc x => insT f x acc) acc).Perm (l ++ acc) ∧ (l.foldl (fun acc x => insT f x acc) acc).Pairwise (fun a b => ahead f b a = false)
  | [], acc, h => ⟨List.Perm.refl _, h⟩
  | x :: l, acc, h => by
    have := insAll_both f l (insT f x acc) (insT_sorted h)
    refine ⟨this.1.trans ?_, this.2⟩
    refine ((insT_perm f x acc).append_left l).trans ?_
    rw [List.cons_append]
    exact List.perm_middle
theorem insAll_perm (f : ByteArray → Int) (l : List ByteArray) : (insAll f l).Perm l := by
  have := (insAll_both f l [] List.Pairwise.nil).1
  rwa [List.append_nil] at this
theorem insT_parts {f : ByteArray → Int} {x : ByteArray} {l : List ByteArray} {m : Nat} (hm : m ≤ l.length) (h1 : ∀ y ∈ l.take m, ahead f x y = false) (h2 : ∀ h : m < l.length, ahead f x l[m] = true) : insT f x l = l.take m ++ x :: l.drop m := by
  unfold insT
  have e : l = l.take m ++ l.drop m := (List.take_append_drop m l).symm
  have h3 : l.takeWhile (fun y => !ahead f x y) = l.take m := by
    conv => lhs; rw [e]
    rw [List.takeWhile_append_of_pos (fun y hy => by rw [h1 y hy]; rfl)]
    by_cases hlt : m < l.length
    · rw [List.drop_eq_getElem_cons hlt, List.takeWhile_cons, h2 hlt]; simp
    · rw [List.drop_of_length_le (by omega)]; simp
  have h4 : l.dropWhile (fun y => !ahead f x y) = l.drop m := by
    have h5 := List.takeWhile_append_dropWhile (p := fun y => !ahead f x y) (l := l)
    rw [h3] at h5
    conv at h5 => rhs; rw [e]
    exact List.append_cancel_left h5
  rw [h3, h4]
theorem take_ahead_succ {f : ByteArray → Int} {x : ByteArray} {l : List ByteArray} {m : Nat} (h : m < l.length) (h1 : ∀ y ∈ l.take m, ahead f x y = false) (h2 : ahead f x l[m] = false) : ∀ y ∈ l.take (m + 1), ahead f x y = false := by
  intro y hy
  rw [List.take_succ_eq_append_getElem h] at hy
  rcases List.mem_append.1 hy with hy | hy
  · exact h1 y hy
  · rw [List.mem_singleton.1 hy]; exact h2
theorem ahead_cases (seed : Int) (x y : ByteArray) :
    (decide (hash seed [x] < hash seed [y]) = true ∧ ahead (hashOf seed) x y = true) ∨
    (decide (hash seed [x] < hash seed [y]) = false ∧ (hash seed [y] == hash seed [x]) = false ∧ ahead (hashOf seed) x y = false) ∨
    (decide (hash seed [x] < hash seed [y]) = false ∧ (hash seed [y] == hash seed [x]) = true ∧ Op.bytesLess y.toList x.toList = false ∧ (y.toList == x.toList) = false ∧ ahead (hashOf seed) x y = true) ∨
    (decide (hash seed [x] < hash seed [y]) = false ∧ (hash seed [y] == hash seed [x]) = true ∧ Op.bytesLess y.toList x.toList = false ∧ (y.toList == x.toList) = true ∧ ahead (hashOf seed) x y = false) ∨
    (decide (hash seed [x] < hash seed [y]) = false ∧ (hash seed [y] == hash seed [x]) = true ∧ Op.bytesLess y.toList x.toList = true ∧ ahead (hashOf seed) x y = false) := by
  have e : ahead (hashOf seed) x y = (decide (hash seed [x] < hash seed [y]) || (hash seed [x] == hash seed [y] && lessT x y)) := rfl
  rw [e]
  have e2 : (hash seed [x] == hash seed [y]) = (hash seed [y] == hash seed [x]) := by rw [Bool.eq_iff_iff, beq_iff_eq, beq_iff_eq]; exact eq_comm
  rw [e2]
  cases decide (hash seed [x] < hash seed [y]) with
  | true => simp
  | false =>
    cases (hash seed [y] == hash seed [x]) with
    | false => simp
    | true =>
      cases h1 : Op.bytesLess y.toList x.toList with
      | true =>
        have h2 : lessT x y = false := by
          cases h3 : lessT x y with
          | false => rfl
          | true => have := lessB_trans _ _ _ h3 h1; rw [lessB_irrefl] at this; cases this
        simp [h2]
      | false =>
        cases h2 : lessT x y with
        | true =>
          have h3 : (y.toList == x.toList) = false := by
            rw [beq_eq_false_iff_ne]; intro e3
            have : Op.bytesLess x.toList y.toList = true := h2
            rw [e3, lessB_irrefl] at this; cases this
          simp [h3]
        | false =>
          have h3 : (y.toList == x.toList) = true := by rw [beq_iff_eq]; exact lessB_tri _ _ h1 h2
          simp [h3]
theorem srt_perm (f : ByteArray → Int) (l : List ByteArray) : (srt f l).Perm l := List.mergeSort_perm _ _
theorem srt_sorted (f : ByteArray → Int) (l : List ByteArray) : (srt f l).Pairwise (fun a b => ahead f b a = false) := by
  have := List.pairwise_mergeSort (le := fun x y => !ahead f y x) (fun a b c h1 h2 => by
    simp only [Bool.not_eq_true'] at *
    cases h3 : ahead f c a with
    | false => rfl
    | true =>
      have hO := ahead_swo f (ahead f) (fun _ _ => rfl)
      have := hO.ntrans c b a h2 h1
      rw [h3] at this; cases this) (fun a b => by
    cases h1 : ahead f b a with
    | false => rfl
    | true => rw [ahead_asym h1]; rfl) l
  exact this.imp fun h => by simpa using h
theorem insAll_srt (f : ByteArray → Int) (l : List ByteArray) : insAll f l = srt f l := by
  refine List.Perm.eq_of_pairwise (le := fun a b => ahead f b a = false) ?_ (insAll_both f l [] List.Pairwise.nil).2 (srt_sorted f l) ((insAll_perm f l).trans (srt_perm f l).symm)
  intro a b _ _ h1 h2
  exact ahead_tri h2 h1
theorem srt_len (f : ByteArray → Int) (l : List ByteArray) : (srt f l).length = l.length := (srt_perm f l).length_eq
def sample (seed n : Int) (l : List ByteArray) : List ByteArray := (srt (hashOf seed) (once l)).take n.toNat

theorem own_empty_on {w : World} {base g : Nat} (hb : base ≤ w.heap.size) (hg : w.heap.size = g) : Own kS (w.alloc (.cells #[] 9)) base (.slice (some ⟨g, 0, none⟩) 0 0) [] := by
  subst hg; exact Own.empty kS w hb
/-! ### what a sort leaves -/
section
variable {α : Type} [Inhabited α]
theorem sort_heap (enc : α → Value) (w : World) (blk off m : Nat) (d : Array α) (os : Array Obj) {k : Nat} (hk : k < w.heap.size) (hne : k ≠ blk) : (sortWorld enc w blk off m d os).heap[k]? = w.heap[k]? := by
  unfold sortWorld
  have h1 : (Sort.putRow enc (Sort.ahead w m) blk off d).heap[k]? = w.heap[k]? := by
    simp [Sort.putRow, Sort.mapBlock, Array.getElem?_modify, Ne.symm hne, Sort.ahead]
  rw [Sort.heap_grow_old _ _ (by simpa [Sort.putRow, Sort.mapBlock, Sort.ahead] using hk), h1]
theorem sort_size (enc : α → Value) (w : World) (blk off m : Nat) (d : Array α) (os : Array Obj) : w.heap.size ≤ (sortWorld enc w blk off m d os).heap.size := by
  unfold sortWorld
  rw [Sort.size_grow]
  simp [Sort.putRow, Sort.mapBlock, Sort.ahead]
theorem sort_below {B : Nat} (enc : α → Value) (w : World) (blk off m : Nat) (d : Array α) (os : Array Obj) (hB : B ≤ blk) (hw : B ≤ w.heap.size) : Below B w (sortWorld enc w blk off m d os) :=
  ⟨rfl, rfl, rfl, sort_size enc w blk off m d os, fun k hk => sort_heap enc w blk off m d os (by omega) (by omega)⟩
end

/-! ### texts as a sort's elements -/
abbrev Txt := { s : ByteArray // isStr s }
instance : Inhabited Txt := ⟨⟨⟨#[]⟩, by unfold isStr; decide⟩⟩
def encT (x : Txt) : Value := .string x.1
theorem encT_one : OneCell encT := fun _ => rfl
/-- A row of one's own whose texts were laid anew. -/
theorem Own.put {w : World} {base g cap : Nat} {l : List ByteArray} (h : Own kS w base (.slice (some ⟨g, 0, none⟩) l.length cap) l) (d : Array Txt) (hd : d.size = l.length) (m : Nat) (os : Array Obj) :
    Own kS (sortWorld encT w g 0 m d os) base (.slice (some ⟨g, 0, none⟩) l.length cap) (d.toList.map (·.1)) := by
  rcases h.row.2 with ⟨e1, _⟩ | ⟨g', cap', cur, e1, hb, hh, hn, hm, hs, ht⟩
  · cases e1
  · injection e1 with e2 e3 e4
    injection e2 with e5
    injection e5 with e6
    subst e6 e4
    have hlt : g < w.heap.size := (Array.getElem?_eq_some_iff.1 hh).1
    have hblk : (sortWorld encT w g 0 m d os).heap[g]? = some (.cells (Sort.putCells encT 0 d cur) kS.ty (0, 0)) := by
      unfold sortWorld
      rw [Sort.heap_grow_old _ _ (by simpa [Sort.putRow, Sort.mapBlock, Sort.ahead] using hlt)]
      show (w.heap.modify g (Sort.onCells (Sort.putCells encT 0 d)))[g]? = _
      rw [Array.getElem?_modify, if_pos rfl, hh]
      rfl
    have hlen : (d.toList.map (·.1)).length = l.length := by simp [hd]
    refine ⟨⟨by rw [flatMap_len], .inr ⟨g, cap, Sort.putCells encT 0 d cur, by rw [hlen], hb, hblk, by rw [hlen]; exact hn, hm, by simp [Sort.putCells, hs], ?_⟩⟩, fun x hx => ?_⟩
    · refine List.ext_getElem? fun i => ?_
      have hsz : kS.sz = 1 := rfl
      rw [hsz, Nat.mul_one, hlen, List.getElem?_take]
      have e9 : (d.toList.map (·.1)).flatMap kS.enc = d.toList.map encT := by
        induction d.toList with
        | nil => rfl
        | cons x xs ih => rw [List.map_cons, List.flatMap_cons, ih]; rfl
      rw [e9, List.getElem?_map]
      by_cases hi : i < l.length
      · rw [if_pos hi, Array.getElem?_toList]
        have hic : i < cur.size := by rw [hs, hsz]; omega
        have hid : i < d.size := by omega
        simp only [Sort.putCells, Array.getElem?_mapIdx, Array.getElem?_eq_getElem hic, Option.map_some]
        rw [if_pos (by omega), Array.getElem?_toList, Array.getElem?_eq_getElem hid]
        simp [hid]
      · rw [if_neg hi]
        have : d.toList[i]? = none := by simp; omega
        rw [this]; rfl
    · obtain ⟨y, _, rfl⟩ := List.mem_map.1 hx
      exact y.2
theorem Own.take {α : Type} {K : EK α} {w : World} {base g cap : Nat} {l : List α} (h : Own K w base (.slice (some ⟨g, 0, none⟩) l.length cap) l) (k : Nat) (hk : k ≤ l.length) : Own K w base (.slice (some ⟨g, 0, none⟩) k cap) (l.take k) := by
  rcases h.row.2 with ⟨e1, _⟩ | ⟨g', cap', cur, e1, hb, hh, hn, hm, hs, ht⟩
  · cases e1
  · have hlen : (l.take k).length = k := by rw [List.length_take]; omega
    injection e1 with e2 e3 e4
    injection e2 with e5
    injection e5 with e6
    subst e6 e4
    refine ⟨⟨by rw [flatMap_len], .inr ⟨g, cap, cur, by rw [hlen], hb, hh, by rw [hlen]; omega, hm, hs, ?_⟩⟩, fun x hx => h.ok x (List.mem_of_mem_take hx)⟩
    rw [hlen]
    have e : cur.toList.take (k * K.sz) = (cur.toList.take (l.length * K.sz)).take (k * K.sz) := by
      rw [List.take_take, Nat.min_eq_left (Nat.mul_le_mul_right _ hk)]
    rw [e, ht]
    refine List.ext_getElem? fun i => ?_
    have e2 : l = l.take k ++ l.drop k := (List.take_append_drop k l).symm
    have e3 : (l.flatMap K.enc).take (k * K.sz) = (l.take k).flatMap K.enc := by
      conv => lhs; rw [e2, List.flatMap_append]
      rw [List.take_append_of_le_length (by rw [flatMap_len, hlen]; exact Nat.le_refl _), List.take_of_length_le (by rw [flatMap_len, hlen]; exact Nat.le_refl _)]
    rw [e3]
theorem Own.held {w : World} {base g cap : Nat} {l : List ByteArray} (h : Own kS w base (.slice (some ⟨g, 0, none⟩) l.length cap) l) (d : Array Txt) (hd : d.toList.map (·.1) = l) : Sort.Holds encT w g 0 d := by
  intro j hj
  have hjl : j < l.length := by rw [← hd]; simpa using hj
  refine ⟨?_, ?_⟩
  · have := h.row.cells (g := g) rfl j (.string l[j]) (by
      have := flatMap_get kS l j hjl 0 (.string l[j]) rfl
      simpa [kS] using this)
    rw [add_off] at this
    rw [this]
    subst hd
    simp [encT, hj]
  · rcases h.row.2 with ⟨e1, _⟩ | ⟨g', cap', cur, e1, hb, hh, _⟩
    · cases e1
    · injection e1 with e2 e3 e4
      injection e2 with e5
      injection e5 with e6
      subst e6
      simp [World.frozen?, hh]
theorem txts_of : ∀ {l : List ByteArray}, (∀ x ∈ l, isStr x) → ∃ d : Array Txt, d.toList.map (·.1) = l ∧ d.size = l.length
  | [], _ => ⟨#[], rfl, rfl⟩
  | x :: l, h => by
    obtain ⟨d, hd, hs⟩ := txts_of (fun y hy => h y (List.mem_cons_of_mem _ hy))
    exact ⟨((⟨x, h x (by simp)⟩ : Txt) :: d.toList).toArray, by rw [List.toList_toArray, List.map_cons, hd], by rw [List.size_toArray, List.length_cons, List.length_cons, Array.length_toList, hs]⟩
theorem Own.forms {α : Type} {K : EK α} {w : World} {base : Nat} {v : Value} {l : List α} (h : Own K w base v l) : (v = .slice none 0 0 ∧ l = []) ∨ ∃ g cap, v = .slice (some ⟨g, 0, none⟩) l.length cap ∧ l.length ≤ cap ∧ cap ≤ maxLen := by
  rcases h.row.2 with ⟨e1, e2⟩ | ⟨g, cap, cur, e1, hb, hh, hn, hm, _⟩
  · exact .inl ⟨e1, List.eq_nil_of_length_eq_zero e2⟩
  · exact .inr ⟨g, cap, e1, hn, hm⟩

/-! ### Sample -/
theorem srt_map (f : ByteArray → Int) (d : List Txt) : (d.mergeSort fun x y => !(ltOf (fun (a b : Txt) => cmpBy f a.1 b.1) y x)).map (·.1) = srt f (d.map (·.1)) := by
  unfold srt
  refine List.map_mergeSort (fun a _ b _ => ?_)
  show (!decide (cmpBy f b.1 a.1 < 0)) = _
  rw [cmpBy_neg]
theorem sampleSort_calls (seed : Int) (b : Nat) (v : Value) (l : List ByteArray) (base : Nat) (w : World) (hown : Own kS w base v l) (hb : w.cell? ⟨b, 0, none⟩ = some (.int .u64 seed)) (hbb : b < base) (hroom : l.length ≤ 140737488351232) (hbase : base ≤ w.heap.size) :
    Calls Try.prog 38 #[v, .func (.func 39) #[] #[.pointer (some ⟨b, 0, none⟩)]] w fun e w' => e = .returned (.tuple #[]) ∧ Own kS w' base v (srt (hashOf seed) l) ∧ Below base w w' := by
  rcases hown.row.2 with ⟨rfl, e2⟩ | ⟨g, cap, cur, rfl, hg, hh, _⟩
  · have : l = [] := List.eq_nil_of_length_eq_zero e2
    subst this
    have h := AnyF.slices_SortFunc_none (P := Try.prog) { Try.laysSlF6_f38 with } none 0 (.func (.func 39) #[] #[.pointer (some ⟨b, 0, none⟩)]) w
    refine h.mono ?_
    rintro e w' ⟨rfl, rfl⟩
    refine ⟨rfl, ?_, Below.refl _ _⟩
    have : srt (hashOf seed) [] = [] := by unfold srt; simp
    rw [this]; exact hown
  · obtain ⟨d, hd, hds⟩ := txts_of hown.ok
    have hgl : g < w.heap.size := (Array.getElem?_eq_some_iff.1 hh).1
    have hcmp : CmpLays1 Try.prog 39 #[.pointer (some ⟨b, 0, none⟩)] encT (fun (x y : Txt) => cmpBy (hashOf seed) x.1 y.1) g 0 d.size w := by
      intro m os dk hk x y
      have hbl := World.block_lt_of_cell? w _ hb
      refine sampleCmp_calls seed b x.1 y.1 _ x.2 y.2 ?_
      rw [World.cell?_of_block (sort_heap encT w g 0 m dk os hbl (by omega : b ≠ g))]
      exact hb
    have h := Any.slices_SortFunc_total Try.laysSlF6_f38 encT encT_one (fun (x y : Txt) => cmpBy (hashOf seed) x.1 y.1) ?_ 39 #[.pointer (some ⟨b, 0, none⟩)] g 0 cap d w (enters_of Try.func39 (by kernel_rfl) rfl) hcmp (hown.held d hd) hgl (by omega) ?_
    · rw [hds] at h
      refine h.mono ?_
      rintro e w' ⟨rfl, n, os, rfl⟩
      refine ⟨rfl, ?_, sort_below encT w g 0 n _ os hg hbase⟩
      have := hown.put (d.toList.mergeSort fun x y => !(ltOf (fun (a b : Txt) => cmpBy (hashOf seed) a.1 b.1) y x)).toArray (by simp [hds]) n os
      rw [List.toList_toArray, srt_map, hd] at this
      exact this
    · refine ⟨fun x => ?_, fun x y z => ?_, fun x y z => ?_⟩
      all_goals
        have hO := ahead_swo (hashOf seed) (ahead (hashOf seed)) (fun _ _ => rfl)
        unfold ltOf
        simp only [cmpBy_neg]
        first | exact hO.irrefl _ | exact hO.trans _ _ _ | exact hO.ntrans _ _ _
    · intro x y h1 h2
      unfold ltOf at h1 h2
      simp only [cmpBy_neg] at h1 h2
      exact Subtype.ext (ahead_tri h1 h2)

set_option maxHeartbeats 800000 in
theorem sample_calls (seed n : Int) (A : Option Addr) (c : Nat) (l : List ByteArray) (w : World) (hn : isI64 n) (hl : Rd kS w A c l) :
    Calls Try.prog 25 #[.int .u64 seed, .int .i64 n, .slice A l.length c] w fun e w' => ∃ v, e = .returned v ∧ Own kS w' w.heap.size v (sample seed n l) ∧ Below w.heap.size w w' := by
  have hroom : l.length * 16 ≤ 140737488351232 := hl.room
  have hol := once_le l
  have HL := Lib.hid hl
  unfold isI64 at hn
  have HA := Lib.hid ((Below.refl w.heap.size w).alloc (Nat.le_refl _) (.cells #[.int .u64 seed] 36))
  clear hl
  go_enter Try.func25, Try.ntmps25
  have hk : Hid (∃ k : Nat, k ≤ (once l).length ∧ (srt (hashOf seed) (once l)).take n.toNat = (srt (hashOf seed) (once l)).take k ∧ ((k : Int) = 0 ∧ n ≤ 0 ∨ (k : Int) = n ∧ 0 < n ∧ n < (once l).length ∨ k = (once l).length ∧ ((once l).length : Int) ≤ n)) := by
    have hls := srt_len (hashOf seed) (once l)
    by_cases h1 : n ≤ 0
    · exact ⟨0, Nat.zero_le _, by rw [show n.toNat = 0 by omega], .inl ⟨rfl, h1⟩⟩
    · by_cases h2 : n < (once l).length
      · exact ⟨n.toNat, by omega, rfl, .inr (.inl ⟨by omega, by omega, h2⟩)⟩
      · exact ⟨(once l).length, Nat.le_refl _, by rw [List.take_of_length_le (by omega), List.take_of_length_le (by omega)], .inr (.inr ⟨rfl, by omega⟩)⟩
  obtain ⟨k, hk1, hk2, hk3⟩ := hk
  have HK := Lib.hid hk2
  clear hk2
  have HS : Hid (sample seed n l = (srt (hashOf seed) (once l)).take n.toNat) := rfl
  have hls := srt_len (hashOf seed) (once l)
  go_wp2_with (first
    | (go_at_call 37; refine (once_calls _ _ _ _ (HL.out.later HA.out)).mono ?_; rintro e w1 ⟨v, rfl, ho1, hb1⟩; have HO1 := Lib.hid ho1; have HB1 := Lib.hid hb1; have hc1 : Hid (w1.cell? ⟨w.heap.size, 0, none⟩ = some (.int .u64 seed)) := cell_later hb1 (cell_new #[.int .u64 seed] 36 (k := 0) (w := w) rfl rfl); clear ho1 hb1)
    | (go_at_call 38; refine (sampleSort_calls seed _ _ _ _ _ HO1.out hc1.out (by rw [World.size_alloc]; omega) (by omega) HB1.out.size).mono ?_; rintro e w2 ⟨rfl, ho2, hb2⟩; have HO2 := Lib.hid ho2; have HB2 := Lib.hid hb2; rcases ho2.forms with ⟨rfl, e2⟩ | ⟨g, cap, rfl, hcap, hcm⟩; clear hb2))
  · have hz : (min (max n 0) 0).toNat = 0 := by omega
    go_returns
    refine ⟨.slice none 0 0, by rw [← hz]; rfl, ?_, below_then HA.out (HB1.out.trans HB2.out) HA.out.size⟩
    rw [HS.out, e2, List.take_nil]
    exact Own.nil kS _ _
  · have hz : (min (max n 0) (once l).length).toNat = k := by omega
    go_returns
    refine ⟨.slice (some ⟨g, 0, none⟩) k cap, by rw [← hz]; rfl, ?_, below_then HA.out (HB1.out.trans hb2) HA.out.size⟩
    rw [HS.out, HK.out]
    exact (HO2.out.mono HA.out.size).take k (by omega)

/-! ### the reference's Sample -/
set_option maxHeartbeats 1600000 in
set_option maxRecDepth 100000 in
theorem refSample_calls (seed n : Int) (A : Option Addr) (c : Nat) (l : List ByteArray) (w : World) (hn : isI64 n) (hl : Rd kS w A c l) :
    Calls Try.prog 27 #[.int .u64 seed, .int .i64 n, .slice A l.length c] w fun e w' => ∃ v, e = .returned v ∧ Own kS w' w.heap.size v (sample seed n l) ∧ Below w.heap.size w w' := by
  have hroom : l.length * 16 ≤ 140737488351232 := hl.room
  have hol := once_le l
  have HL := Lib.hid hl
  unfold isI64 at hn
  clear hl
  go_enter Try.func27, Try.ntmps27
  go_wp2_with (first
    | (go_at_call 30; refine (refOnce_calls _ _ _ _ (HL.out.later ((Below.refl w.heap.size w).alloc (Nat.le_refl _) (.cells #[] 9)))).mono ?_; rintro e w1 ⟨v, rfl, ho1, hb1⟩; have HO1 := Lib.hid ho1; have HB1 := Lib.hid hb1; obtain ⟨A1, c1, rfl, hr1⟩ := ho1.reads (by show (once l).length * 16 ≤ _; omega); have HR1 := Lib.hid hr1; clear ho1 hb1 hr1))
  have HB0 : Hid (Below w.heap.size w w1) := below_then ((Below.refl w.heap.size w).alloc (Nat.le_refl _) _) HB1.out (by simp)
  have HO0 : Hid (Own kS w1 w.heap.size (.slice (some ⟨w.heap.size, 0, none⟩) 0 0) []) := (Own.empty kS w (Nat.le_refl _)).later HB1.out
  have HOK := Lib.hid HO1.out.ok
  generalize hall : once l = all at *
  have HALL : Hid (sample seed n l = (srt (hashOf seed) all).take n.toNat) := by show _ = _; unfold sample; rw [hall]
  have hlr : all.length * 16 ≤ 140737488351232 := by omega
  clear hall HB1 HO1
  go_loopw [7, 9] (fun v i wr => ∃ (j g cap : Nat), j ≤ all.length ∧ i = .int .i64 j ∧ Below w.heap.size w wr ∧ Rd kS wr A1 c1 all ∧ v = .slice (some ⟨g, 0, none⟩) (insAll (hashOf seed) (all.take j)).length cap ∧ Own kS wr w.heap.size (.slice (some ⟨g, 0, none⟩) (insAll (hashOf seed) (all.take j)).length cap) (insAll (hashOf seed) (all.take j))) (fun _ i _ => all.length - (intOf i).toNat)
  case atStart => exact ⟨0, _, 0, Nat.zero_le _, rfl, HB0.out, HR1.out, rfl, HO0.out⟩
  case round =>
    obtain ⟨j, g, cap, hj, rfl, hb, hr, rfl, ho⟩ := hrel
    obtain ⟨wi, rfl⟩ : ∃ wi : World, wi = wr := ⟨_, rfl⟩
    have HB := Lib.hid hb
    have HR := Lib.hid hr
    have hlen : (insAll (hashOf seed) (all.take j)).length ≤ j := by
      have := (insAll_perm (hashOf seed) (all.take j)).length_eq
      rw [List.length_take] at this
      omega
    obtain ⟨_, _, e9, hr2⟩ := ho.reads (show _ * 16 ≤ _ by omega)
    injection e9 with e9 _ e10
    subst e9 e10
    have HO := Lib.hid ho
    have HR2 := Lib.hid hr2
    have hcap := hr2.le
    have hcm : cap ≤ maxLen := by rcases ho.forms with ⟨e, _⟩ | ⟨_, _, e, _, h9⟩; cases e; injection e with _ _ e; subst e; exact h9
    unfold maxLen at hcm
    have hsz := hb.size
    clear hb hr ho hr2
    by_cases hlt : j < all.length
    · obtain ⟨a, rfl, a0⟩ := HR.out.str j hlt
      have hok : Hid (isStr all[j]) := HR.out.ok all[j] (List.getElem_mem hlt)
      have HE := Lib.hid (insAll_succ (hashOf seed) hlt)
      generalize all[j] = x at *
      generalize insAll (hashOf seed) (all.take j) = out at *
      have hhx := hash_range seed [x]
      go_upto_block 2 with (go_at_call 23; refine (refHash_calls seed _ _ [x] _ (rd_one x hok.out)).mono ?_; rintro e w3 ⟨rfl, rfl⟩)
      have HBx := Lib.hid ((Below.refl wi.heap.size wi).alloc (Nat.le_refl _) (.cells #[.string x] 9))
      go_cut [11] (fun s11 wx => ∃ m : Nat, m ≤ out.length ∧ s11 = .int .i64 m ∧ Below wi.heap.size wi wx ∧ Hid (insT (hashOf seed) x out = out.take m ++ x :: out.drop m))
      case first =>
        go_wp2_with fail
        go_loopw [11] (fun s11 wx => ∃ m : Nat, m ≤ out.length ∧ s11 = .int .i64 m ∧ Below wi.heap.size wi wx ∧ Hid (∀ y ∈ out.take m, ahead (hashOf seed) x y = false)) (fun i _ => out.length - (intOf i).toNat)
        case atStart => exact ⟨0, Nat.zero_le _, rfl, HBx.out, by intro y hy; simp at hy⟩
        case round =>
          obtain ⟨m, hm, rfl, hb, ha⟩ := hrel
          have HB3 := Lib.hid hb
          by_cases hml : m < out.length
          · obtain ⟨_, ⟨⟩, b0⟩ := (HR2.out.later HB3.out).str m hml
            rw [add_off, Nat.zero_add] at b0
            have hoky : Hid (isStr out[m]) := HR2.out.ok out[m] (List.getElem_mem hml)
            have a1 := cell_later HB3.out a0
            have HT1 : Hid (ahead (hashOf seed) x out[m] = true → insT (hashOf seed) x out = out.take m ++ x :: out.drop m) := fun h => insT_parts hm ha.out (fun _ => h)
            have HT2 : Hid (ahead (hashOf seed) x out[m] = false → ∀ y ∈ out.take (m + 1), ahead (hashOf seed) x y = false) := fun h => take_ahead_succ hml ha.out h
            generalize out[m] = y at *
            have hhy := hash_range seed [y]
            have HBy := Lib.hid ((Below.refl wr.heap.size wr).alloc (Nat.le_refl _) (.cells #[.string y] 9))
            have HBz := Lib.hid (below_then HB3.out HBy.out HB3.out.size)
            have a2 := cell_later HBy.out a1
            have b1 := cell_later HBy.out b0
            rcases ahead_cases seed x y with ⟨q1, q2⟩ | ⟨q1, q2, q3⟩ | ⟨q1, q2, q3, q4, q5⟩ | ⟨q1, q2, q3, q4, q5⟩ | ⟨q1, q2, q3, q4⟩
            all_goals
              first
                | have HT := Lib.hid (HT1.out (by assumption))
                | have HT := Lib.hid (HT2.out (by assumption))
              clear HT1 HT2
              go_wp2_with (go_at_call 23; refine (refHash_calls seed _ _ [y] _ (rd_one y hoky.out)).mono ?_; rintro e w3 ⟨rfl, rfl⟩)
              go_quiet (fail)
              go_wp2
              first
                | (go_meet
                   case rel => exact ⟨m, hm, rfl, below_drewN HBz.out _, HT.out⟩)
                | (go_roundw
                   case rel => exact ⟨m + 1, by omega, by go_num, below_drewN HBz.out _, HT.out⟩
                   case measure => simp [intOf]; omega)
          · have HT : Hid (insT (hashOf seed) x out = out.take m ++ x :: out.drop m) := insT_parts hm ha.out (fun h => absurd h hml)
            go_wp2
            go_meet
            case rel => exact ⟨m, hm, rfl, HB3.out, HT.out⟩
      case rest =>
        obtain ⟨m, hm, rfl, hb, ht⟩ := hcut
        have HBc := Lib.hid hb
        have a1 := cell_later hb a0
        have hszc := hb.size
        clear hb
        have hm0 : (0 : Int) ≤ (m : Int) := by omega
        have hm1 : (m : Int) ≤ (out.length : Int) := by omega
        have hm2 : (m : Int) ≤ (cap : Int) := by omega
        have hm3 : m ≤ cap := by omega
        have hj0 : (0 : Int) ≤ (j : Int) := by omega
        have hj1 : (j : Int) < (all.length : Int) := by omega
        go_upto_region 12 with fail
        go_cut [13] (fun s13 wx => ∃ g6 cap6 : Nat, s13 = .slice (some ⟨g6, 0, none⟩) (m + 1) cap6 ∧ Own kS wx wi.heap.size s13 (out.take m ++ [x]) ∧ Below wi.heap.size wi wx)
        case first =>
          have hbE := Lib.hid ((Below.refl wc.heap.size wc).alloc (Nat.le_refl _) (.cells #[] 9))
          have HO1 : Hid (Own kS (wc.alloc (.cells #[] 9)).drew wi.heap.size (.slice (some ⟨wc.heap.size, 0, none⟩) 0 0) []) := (own_empty_on hszc rfl).drew
          have HRt := Lib.hid ((((HR2.out.take m cap hm (by omega) (by unfold maxLen; omega)).later HBc.out).later hbE.out).drew)
          have hlt0 : Hid ((out.take m).length = m) := by show _ = _; rw [List.length_take]; omega
          have hroomt : Hid ((([] : List ByteArray).length + (out.take m).length) * 16 ≤ 140737488355328) := by show _ ≤ _; rw [hlt0.out, List.length_nil]; omega
          have hroom2 : Hid (((([] : List ByteArray) ++ out.take m).length + 1) * 16 ≤ 140737488351232) := by show _ ≤ _; rw [List.nil_append, hlt0.out]; omega
          have hbase1 : Hid (wi.heap.size ≤ (wc.alloc (.cells #[] 9)).drew.heap.size) := by show _ ≤ (wc.alloc _).heap.size; rw [World.size_alloc]; omega
          have hal : Hid ((a.add j).block < wi.heap.size) := World.block_lt_of_cell? wi _ a0
          have hne1 : Hid (some (a.add j).block ≠ some wc.heap.size) := fun e => by injection e with e; have := hal.out; omega
          have hx0 : (wc.alloc (.cells #[] 9)).cell? (a.add j) = some (.string x) := cell_alloc_on _ a1
          have hx1 : Hid ((wc.alloc (.cells #[] 9)).drew.cell? (a.add j) = some (.string x)) := cell_alloc_on _ a1
          have HO12 : Hid (Own kS ((wc.alloc (.cells #[] 9)).alloc (.cells #[.string x] 9)).drew wi.heap.size (.slice (some ⟨wc.heap.size, 0, none⟩) 0 0) []) := ((own_empty_on hszc rfl).alloc _).drew
          have hbX := Lib.hid ((Below.refl (wc.alloc (.cells #[] 9)).heap.size (wc.alloc (.cells #[] 9))).alloc (Nat.le_refl _) (.cells #[.string x] 9))
          have HRt2 := Lib.hid (((((HR2.out.take m cap hm (by omega) (by unfold maxLen; omega)).later HBc.out).later hbE.out).later hbX.out).drew)
          have hbase2 : Hid (wi.heap.size ≤ ((wc.alloc (.cells #[] 9)).alloc (.cells #[.string x] 9)).drew.heap.size) := by show _ ≤ ((wc.alloc _).alloc _).heap.size; rw [World.size_alloc, World.size_alloc]; omega
          have hX2 : Hid (((wc.alloc (.cells #[] 9)).alloc (.cells #[.string x] 9)).drew.heap[(wc.alloc (.cells #[] 9)).heap.size]? = some (.cells #[.string x] 9 (0, 0))) := heap_alloc_new _ _
          have hX3 : Hid (((wc.alloc (.cells #[] 9)).alloc (.cells #[.string x] 9)).drew.heap[wc.heap.size + 1]? = some (.cells #[.string x] 9 (0, 0))) := by have := hX2.out; rw [World.size_alloc] at this; exact this
          have hne2 : Hid (some (wc.heap.size + 1) ≠ some wc.heap.size) := fun e => by injection e with e; omega
          have HO13 : Hid (Own kS ((wc.alloc (.cells #[.string x] 9)).alloc (.cells #[] 9)).drew wi.heap.size (.slice (some ⟨wc.heap.size + 1, 0, none⟩) 0 0) []) := (own_empty_on (by rw [World.size_alloc]; omega) (by rw [World.size_alloc])).drew
          have hbX3 := Lib.hid ((Below.refl wc.heap.size wc).alloc (Nat.le_refl _) (.cells #[.string x] 9))
          have hbE3 := Lib.hid ((Below.refl (wc.alloc (.cells #[.string x] 9)).heap.size (wc.alloc (.cells #[.string x] 9))).alloc (Nat.le_refl _) (.cells #[] 9))
          have HRt3 := Lib.hid (((((HR2.out.take m cap hm (by omega) (by unfold maxLen; omega)).later HBc.out).later hbX3.out).later hbE3.out).drew)
          have hbase3 : Hid (wi.heap.size ≤ ((wc.alloc (.cells #[.string x] 9)).alloc (.cells #[] 9)).drew.heap.size) := by show _ ≤ ((wc.alloc _).alloc _).heap.size; rw [World.size_alloc, World.size_alloc]; omega
          have hX33 : Hid (((wc.alloc (.cells #[.string x] 9)).alloc (.cells #[] 9)).drew.heap[wc.heap.size]? = some (.cells #[.string x] 9 (0, 0))) := (Below.heap_alloc _ _ _ (by rw [World.size_alloc]; omega)).trans (heap_alloc_new wc _)
          have hne3 : Hid (some wc.heap.size ≠ some (wc.heap.size + 1)) := fun e => by injection e with e; omega
          have hBW1 := Lib.hid ((HBc.out.alloc HBc.out.size (.cells #[] 9)).drew)
          have hBW2 := Lib.hid (((HBc.out.alloc HBc.out.size (.cells #[] 9)).alloc (by rw [World.size_alloc]; omega) (.cells #[.string x] 9)).drew)
          have hBW3 := Lib.hid (((HBc.out.alloc HBc.out.size (.cells #[.string x] 9)).alloc (by rw [World.size_alloc]; omega) (.cells #[] 9)).drew)
          go_region_law
            (first
              | (refine step_append kS_elem wi.heap.size _ [] HO13.out ⟨g, 0, none⟩ cap (out.take m) HRt3.out hlt0.out hroomt.out hbase3.out rfl _ _ rfl rfl rfl ?_; intro v5 w5 ho5 hg5 hat5; have hX5 := (hg5.block wc.heap.size (Array.getElem?_eq_some_iff.1 hX33.out).1 hne3.out).trans hX33.out; have hB5 := Lib.hid (Own.below hBW3.out HO13.out hg5 hbase3.out (Nat.le_refl _)))
              | (refine step_append kS_elem wi.heap.size _ [] HO12.out ⟨g, 0, none⟩ cap (out.take m) HRt2.out hlt0.out hroomt.out hbase2.out rfl _ _ rfl rfl rfl ?_; intro v5 w5 ho5 hg5 hat5; have hX5 := (hg5.block (wc.heap.size + 1) (Array.getElem?_eq_some_iff.1 hX3.out).1 hne2.out).trans hX3.out; have hB5 := Lib.hid (Own.below hBW2.out HO12.out hg5 hbase2.out (Nat.le_refl _)))
              | (refine step_append1 kS_elem wi.heap.size v5 _ ho5 x hok.out hX5 (by rfl) hroom2.out (by rfl) _ _ (by rfl) (by rfl) (by rfl) (Nat.le_trans hbase2.out hg5.size) rfl ?_; intro v6 w6 ho6 hg6 hat6; obtain ⟨g6, cap6, rfl⟩ := ho6.form_snoc)
              | (refine step_append1 kS_elem wi.heap.size v5 _ ho5 x hok.out hX5 (by rfl) hroom2.out (by rfl) _ _ (by rfl) (by rfl) (by rfl) (Nat.le_trans hbase3.out hg5.size) rfl ?_; intro v6 w6 ho6 hg6 hat6; obtain ⟨g6, cap6, rfl⟩ := ho6.form_snoc)
              | (refine step_append kS_elem wi.heap.size _ [] HO1.out ⟨g, 0, none⟩ cap (out.take m) HRt.out hlt0.out hroomt.out hbase1.out rfl _ _ rfl rfl rfl ?_; intro v5 w5 ho5 hg5 hat5; have hc5 := grown_cell hg5 hne1.out hx1.out; have hB5 := Lib.hid (Own.below hBW1.out HO1.out hg5 hbase1.out (Nat.le_refl _)))
              | (refine step_append1 kS_elem wi.heap.size v5 _ (ho5.alloc _) x hok.out (heap_alloc_new _ _) (by rfl) hroom2.out (by rfl) _ _ (by rfl) (by rfl) (by rfl) (Nat.le_trans hbase1.out (Nat.le_trans hg5.size (by rw [World.size_alloc]; omega))) rfl ?_; intro v6 w6 ho6 hg6 hat6; obtain ⟨g6, cap6, rfl⟩ := ho6.form_snoc))
          all_goals
            have hlen6 : ([] ++ out.take m).length = m := by rw [List.nil_append]; exact hlt0.out
            rw [hlen6] at ho6
            rw [List.nil_append] at ho6
            go_wp2
            go_meet
            case rel => exact ⟨g6, cap6, rfl, by first | exact ho6, by first | exact Own.below hB5.out ho5 hg6 hB5.out.size (Nat.le_refl _) | exact Own.below (hB5.out.alloc hB5.out.size _) (ho5.alloc _) hg6 (by rw [World.size_alloc]; exact Nat.le_succ_of_le hB5.out.size) (Nat.le_refl _)⟩
        case rest =>
          obtain ⟨g6, cap6, rfl, ho6, hb6⟩ := hcut
          have HO6 := Lib.hid ho6
          have HB6 := Lib.hid hb6
          have HRw := Lib.hid (HR2.out.later hb6)
          have hsz6 := hb6.size
          have hm0 : (0 : Int) ≤ (m : Int) := by omega
          have hm1 : (m : Int) ≤ (out.length : Int) := by omega
          have hm2 : (out.length : Int) ≤ (cap : Int) := by omega
          have hlt7 : Hid ((out.drop m).length = out.length - m) := List.length_drop
          have hroom7 : Hid (((out.take m ++ [x]).length + (out.drop m).length) * 16 ≤ 140737488355328) := by show _ ≤ _; rw [hlt7.out, List.length_append, List.length_take, List.length_singleton]; omega
          have HEQ : Hid ((out.take m ++ [x]) ++ out.drop m = insAll (hashOf seed) (all.take (j + 1))) := by show _ = _; rw [HE.out, ht.out, List.append_assoc]; rfl
          have hlenq : Hid (0 < ((out.take m ++ [x]) ++ out.drop m).length) := by show 0 < _; simp; omega
          have hl9 : Hid (m + (out.length - m + 1) = (insAll (hashOf seed) (all.take (j + 1))).length) := by show _ = _; rw [← HEQ.out, List.length_append, List.length_append, hlt7.out, List.length_take, List.length_singleton]; omega
          clear ho6 hb6
          by_cases hmc : cap = m
          · have HR7 : Hid (Rd kS wc (some ⟨g, 0, none⟩) 0 (out.drop m)) := by
              show Rd _ _ _ _ _
              rw [List.drop_of_length_le (by omega)]
              exact Rd.nil kS _ _ _ (by unfold maxLen; omega)
            go_wp2_with (at_builtin; refine wp_append_n kS_elem wi.heap.size _ _ HO6.out _ _ (out.drop m) HR7.out hlt7.out hroom7.out hsz6 rfl _ _ rfl rfl rfl (fun e => by cases e) ?_; intro v9 w9 ho9 hg9 hat9; obtain ⟨g9, cap9, rfl⟩ := ho9.form hlenq.out; rw [HEQ.out] at ho9)
            have HB9 := Lib.hid (Own.below HB6.out HO6.out hg9 HB6.out.size (Nat.le_refl _))
            go_roundw
            case rel => exact ⟨j + 1, g9, cap9, by omega, by go_num, below_then HB.out HB9.out HB.out.size, HR.out.later HB9.out, by rw [hl9.out], ho9.mono hsz⟩
            case measure => simp [intOf]; omega
          · have HR7 : Hid (Rd kS wc (some ⟨g, m, none⟩) (cap - m) (out.drop m)) := by
              have := HRw.out.drop rfl m (cap - m) hm (by omega) (by unfold maxLen; omega)
              rw [add_off, Nat.zero_add] at this
              exact this
            go_wp2_with (at_builtin; refine wp_append_n kS_elem wi.heap.size _ _ HO6.out _ _ (out.drop m) HR7.out hlt7.out hroom7.out hsz6 rfl _ _ rfl rfl rfl (fun e => by cases e) ?_; intro v9 w9 ho9 hg9 hat9; obtain ⟨g9, cap9, rfl⟩ := ho9.form hlenq.out; rw [HEQ.out] at ho9)
            have HB9 := Lib.hid (Own.below HB6.out HO6.out hg9 HB6.out.size (Nat.le_refl _))
            go_roundw
            case rel => exact ⟨j + 1, g9, cap9, by omega, by go_num, below_then HB.out HB9.out HB.out.size, HR.out.later HB9.out, by rw [hl9.out], ho9.mono hsz⟩
            case measure => simp [intOf]; omega
    · have HJ := Lib.hid (take_all (l := all) (k := j) (by omega))
      have HX : Hid (sample seed n l = (insAll (hashOf seed) all).take n.toNat) := by show _ = _; rw [HALL.out, insAll_srt]
      rw [HJ.out] at HO HR2 hlen hcap
      rw [HJ.out]
      generalize insAll (hashOf seed) all = out at *
      by_cases h1 : n < 0
      · have HX1 : Hid (sample seed n l = out.take 0) := by show _ = _; rw [HX.out, show n.toNat = 0 by omega]
        by_cases h2 : (0 : Int) < (out.length : Int)
        · have h3 : (0 : Int) ≤ (cap : Int) := by omega
          go_wp2
          go_returns
          exact ⟨_, rfl, by rw [HX1.out]; exact HO.out.take 0 (Nat.zero_le _), HB.out⟩
        · have HX2 : Hid (sample seed n l = out) := by show _ = _; rw [HX1.out, List.take_of_length_le (by omega)]
          go_wp2
          go_returns
          exact ⟨_, rfl, by rw [HX2.out]; exact HO.out, HB.out⟩
      · by_cases h2 : n < (out.length : Int)
        · have h3 : n ≤ (cap : Int) := by omega
          obtain ⟨k, rfl⟩ := Int.eq_ofNat_of_zero_le (show 0 ≤ n by omega)
          have HX1 : Hid (sample seed k l = out.take k) := by show _ = _; rw [HX.out]; rfl
          have h4 : k ≤ cap := by omega
          go_wp2
          go_returns
          exact ⟨_, rfl, by rw [HX1.out]; exact HO.out.take k (by omega), HB.out⟩
        · have HX2 : Hid (sample seed n l = out) := by show _ = _; rw [HX.out, List.take_of_length_le (by omega)]
          go_wp2
          go_returns
          exact ⟨_, rfl, by rw [HX2.out]; exact HO.out, HB.out⟩
end Go.Proofs.Ytemnakfjmikcdaa
