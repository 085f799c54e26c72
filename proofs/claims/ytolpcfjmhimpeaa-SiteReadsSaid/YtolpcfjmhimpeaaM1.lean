/- Several texts in one: RowK LkA LkB LkC LkD LkE LkF LkG LkH LkI LkJ LkK LkL LkM LockHand. -/
import Derived.Test.YtolpcfjmhimpeaaWWords
import Derived.Laws.CopyRow
import Derived.Laws.CopyOwn
import Derived.Laws.IdiomCopy
import Derived.Laws.Append
import Derived.Lib.Overlaps
import Derived.Lib.AppendZeros
import Derived.Test.YtolpcfjmhimpeaaP0
import Derived.Shelf.Abstract
import Derived.WalkSpells
import Derived.Lib.SliceRun
import Derived.Test.YtolpcfjmhimpeaaP2
import Derived.Deep.RegionHeld3
import Derived.Deep.QuietTactic
import Derived.BigQuiet
import Derived.Deep.RegionLaw
import Derived.Laws.Externs
/- Rows of structs, cell by cell: what a store, copy, clear, an append of zeros do to them. -/
namespace Go.Proofs.Ytolpcfjmhimpeaa.H
open Go.RowKit Go.Proofs.YtolpcfjmhimpeaaW.PrintWords
set_option linter.unusedVariables false
set_option linter.unusedSimpArgs false

/-- A block of cells as a function of the place. -/
def Row (W : World) (g : Nat) (t : TypeId) (n : Nat) (f : Nat → Value) : Prop :=
  ∃ cur : Array Value, W.heap[g]? = some (.cells cur t (0, 0)) ∧ cur.size = n ∧ ∀ j, j < n → cur[j]? = some (f j)
def upd (f : Nat → Value) (k : Nat) (v : Value) : Nat → Value := fun j => if j = k then v else f j
def updL (f : Nat → Value) (o : Nat) (vs : List Value) : Nat → Value := fun j => if o ≤ j ∧ j < o + vs.length then vs.getD (j - o) undef else f j

theorem Row.cell {W : World} {g : Nat} {t : TypeId} {n : Nat} {f : Nat → Value} (h : Row W g t n f) {j : Nat} (hj : j < n) : W.cell? ⟨g, j, none⟩ = some (f j) := by
  obtain ⟨cur, hg, hs, hc⟩ := h
  simp [World.cell?, hg, hc j hj]
theorem Row.free {W : World} {g : Nat} {t : TypeId} {n : Nat} {f : Nat → Value} (h : Row W g t n f) (j : Nat) : W.frozen? ⟨g, j, none⟩ = false := by
  obtain ⟨cur, hg, _⟩ := h
  simp [World.frozen?, hg]
theorem Row.lt {W : World} {g : Nat} {t : TypeId} {n : Nat} {f : Nat → Value} (h : Row W g t n f) : g < W.heap.size := by
  obtain ⟨cur, hg, _⟩ := h
  exact (Array.getElem?_eq_some_iff.1 hg).1
theorem Row.congr {W : World} {g : Nat} {t : TypeId} {n : Nat} {f f' : Nat → Value} (h : Row W g t n f) (he : ∀ j, j < n → f j = f' j) : Row W g t n f' := by
  obtain ⟨cur, hg, hs, hc⟩ := h
  exact ⟨cur, hg, hs, fun j hj => by rw [hc j hj, he j hj]⟩
theorem Row.same {W W' : World} {g : Nat} {t : TypeId} {n : Nat} {f : Nat → Value} (h : Row W g t n f) (he : W'.heap[g]? = W.heap[g]?) : Row W' g t n f := by
  obtain ⟨cur, hg, hs, hc⟩ := h
  exact ⟨cur, he.trans hg, hs, hc⟩
theorem Row.below {W W' : World} {g : Nat} {t : TypeId} {n : Nat} {f : Nat → Value} (h : Row W g t n f) (hb : Below W.heap.size W W') : Row W' g t n f := h.same (hb.block g h.lt)
theorem Row.alloc {W : World} {g : Nat} {t : TypeId} {n : Nat} {f : Nat → Value} (h : Row W g t n f) (o : Obj) : Row (W.alloc o) g t n f := h.below (below_alloc (Below.refl _ _) o)
theorem Row.drew {W : World} {g : Nat} {t : TypeId} {n : Nat} {f : Nat → Value} (h : Row W g t n f) : Row W.drew g t n f := h.same rfl
theorem Row.set {W : World} {g : Nat} {t : TypeId} {n : Nat} {f : Nat → Value} (h : Row W g t n f) {k : Nat} (hk : k < n) (v : Value) : Row (W.setCell ⟨g, k, none⟩ v) g t n (upd f k v) := by
  obtain ⟨cur, hg, hs, hc⟩ := h
  refine ⟨cur.setIfInBounds k v, heap_setCell_same W g k cur t v hg, by simpa using hs, fun j hj => ?_⟩
  unfold upd
  rw [Array.getElem?_setIfInBounds]
  by_cases e : j = k
  · subst e; simp [hs, hk]
  · rw [if_neg (fun h => e h.symm), if_neg e, hc j hj]
theorem Row.far {W : World} {g : Nat} {t : TypeId} {n : Nat} {f : Nat → Value} (h : Row W g t n f) {p : Addr} (hp : g ≠ p.block) (v : Value) : Row (W.setCell p v) g t n f := h.same (Below.heap_setCell W p v g hp)

/-- storeCells into a row. -/
theorem Row.store {P : Program} {W : World} {g : Nat} {t : TypeId} {n : Nat} {f : Nat → Value} (h : Row W g t n f) (o : Nat) (vs : List Value) (ho : o + vs.length ≤ n) (h1 : ∀ v ∈ vs, v.oneCell' = true) :
    ∃ cur : Array Value, (storeCells ⟨g, o, none⟩ vs).run P W = .ok () (W.setRow g cur) ∧ Row (W.setRow g cur) g t n (updL f o vs) := by
  obtain ⟨cur, hg, hs, hc⟩ := h
  refine ⟨_, run_storeCells_at P g o t vs 0 cur W hg (by omega) h1, _, setRow_heap W g cur _ t _ hg, ?_, fun j hj => ?_⟩
  · simp; omega
  · unfold updL
    simp only [Nat.add_zero, List.getElem?_toArray]
    by_cases h1 : j < o
    · rw [if_neg (by omega), List.append_assoc, List.getElem?_append_left (by simp; omega), List.getElem?_take, if_pos h1]
      simpa using hc j hj
    · by_cases h2 : j < o + vs.length
      · rw [if_pos ⟨by omega, h2⟩, List.append_assoc, List.getElem?_append_right (by simp; omega), List.length_take, List.getElem?_append_left (by simp; omega)]
        rw [show min o cur.toList.length = o from by simp; omega, List.getD_eq_getElem?_getD, List.getElem?_eq_getElem (by omega)]
        simp
      · rw [if_neg (by omega), List.getElem?_append_right (by simp; omega), List.getElem?_drop]
        rw [show o + vs.length + (j - (List.take o cur.toList ++ vs).length) = j from by simp; omega]
        simpa using hc j hj

theorem below_set_row {B g : Nat} {w0 w : World} (hb : Below B w0 w) (hBg : B ≤ g) (cs : Array Value) : Below B w0 (w.setRow g cs) := Go.below_setRow hb hBg cs

/-- What the row's own value says of the row, and back. -/
structure Flat {α : Type} (d : Kd α) (k : Nat) (enc : α → List Value) : Prop where
  sz : d.sz = k
  len : ∀ x, (enc x).length = k
  M : ∀ {W base ok x cs}, d.M W base ok x cs ↔ cs = enc x
  K : ∀ {W x cs}, d.K W x cs ↔ cs = enc x

section
variable {α : Type} {d : Kd α} {k : Nat} {enc : α → List Value} {e : Nat}
theorem flat_inner (F : Flat d k enc) {W : World} {base : Nat} {ok : Nat → Prop} {l : List α} {inner : List Value} (hr : Reps (d.M W base ok) d.sz l inner) (i j : Nat) (hi : i < l.length) (hj : j < k) : inner[i * k + j]? = (enc l[i])[j]? := by
  have h := F.M.1 (hr.2 i _ (List.getElem?_eq_getElem hi))
  rw [F.sz] at h
  rw [← h, List.getElem?_take, if_pos hj, List.getElem?_drop]

theorem idx_lt {i j k n c : Nat} (hi : i < n) (hj : j < k) (hc : n ≤ c) : i * k + j < c * k := by
  have : (i + 1) * k ≤ c * k := Nat.mul_le_mul_right _ (by omega)
  rw [Nat.add_mul, Nat.one_mul] at this
  omega

/-- A row that is owned, seen cell by cell. -/
theorem own_row (F : Flat d k enc) {W : World} {base : Nat} {ok : Nat → Prop} {v : Value} {l : List α} (h : d.R e W base ok v l) :
    (v = .slice none 0 0 ∧ l = []) ∨ ∃ g cap f, v = .slice (some ⟨g, 0, none⟩) l.length cap ∧ base ≤ g ∧ l.length ≤ cap ∧ cap ≤ maxLen ∧ Row W g e (cap * k) f ∧ ∀ i j, ∀ hi : i < l.length, j < k → some (f (i * k + j)) = (enc l[i])[j]? := by
  obtain ⟨_, inner, ⟨hl, ho⟩, hr⟩ := h
  rcases ho with ⟨rfl, h0⟩ | ⟨g, cap, cur, rfl, hb, hg, hnc, hcm, hcs, ht⟩
  · exact .inl ⟨rfl, List.eq_nil_of_length_eq_zero h0⟩
  · refine .inr ⟨g, cap, fun j => cur.toList.getD j undef, rfl, hb, hnc, hcm, ⟨cur, hg, by rw [hcs, F.sz], fun j hj => ?_⟩, fun i j hi hj => ?_⟩
    · have : j < cur.size := by rw [hcs, F.sz]; exact hj
      simp [List.getD_eq_getElem?_getD, this]
    · have hlt := idx_lt hi hj hnc
      have hlt2 := idx_lt hi hj (Nat.le_refl _)
      have hsz : i * k + j < cur.toList.length := by simp [hcs, F.sz]; exact hlt
      rw [← flat_inner F hr i j hi hj, ← ht, List.getElem?_take, if_pos (by rw [F.sz]; exact hlt2)]
      show some (cur.toList.getD (i * k + j) undef) = _
      rw [List.getD_eq_getElem?_getD, List.getElem?_eq_getElem hsz]
      rfl

theorem row_own (F : Flat d k enc) {W : World} {base : Nat} {ok : Nat → Prop} (hok : ∀ j, ok j) {g cap : Nat} {f : Nat → Value} {l : List α} (hb : base ≤ g) (hl : l.length ≤ cap) (hc : cap ≤ maxLen) (h : Row W g e (cap * k) f)
    (hf : ∀ i j, ∀ hi : i < l.length, j < k → some (f (i * k + j)) = (enc l[i])[j]?) : d.R e W base ok (.slice (some ⟨g, 0, none⟩) l.length cap) l := by
  obtain ⟨cur, hg, hs, hcur⟩ := h
  have hlen : (cur.toList.take (l.length * k)).length = l.length * k := by
    have h1 : cur.toList.length = cap * k := by simp [hs]
    rw [List.length_take, h1]
    exact Nat.min_eq_left (Nat.mul_le_mul_right _ hl)
  refine ⟨fun _ _ => hok _, cur.toList.take (l.length * k), ⟨by rw [hlen, F.sz], .inr ⟨g, cap, cur, rfl, hb, hg, hl, hc, by rw [hs, F.sz], by rw [F.sz]⟩⟩, ⟨by rw [hlen, F.sz], fun i p hp => F.M.2 ?_⟩⟩
  obtain ⟨hi, rfl⟩ := List.getElem?_eq_some_iff.1 hp
  rw [F.sz]
  apply List.ext_getElem?
  intro j
  by_cases hj : j < k
  · rw [List.getElem?_take, if_pos hj, List.getElem?_drop, List.getElem?_take, if_pos (idx_lt hi hj (Nat.le_refl _)), ← hf i j hi hj]
    have := hcur (i * k + j) (idx_lt hi hj hl)
    simpa using this
  · rw [List.getElem?_take, if_neg hj, List.getElem?_eq_none (by rw [F.len]; omega)]
end

/-- clear(s), s a part of a row. -/
theorem Row.clear {P : Program} {W : World} {g : Nat} {t e : TypeId} {N k : Nat} {f : Nat → Value} (h : Row W g e N f) (ty : TypeId) (z : Value) (ht : P.underlying t = some (.slice e)) (hv : ∀ w, (zeroValue e).run P w = .ok z w) (hz : z.cells.size = k)
    (h1 : ∀ u ∈ z.cells, u.oneCell' = true) (o n c : Nat) (ho : o + n * k ≤ N) :
    ∃ cur : Array Value, (Builtin.clear_ #[t] ty #[.slice (some ⟨g, o, none⟩) n c]).run P W = .ok (.tuple #[]) (W.setRow g cur) ∧ ∃ vs : List Value, vs.length = n * k ∧ Row (W.setRow g cur) g e N (updL f o vs) := by
  have hl : (Builtin.zeroCells z.cells n).toList.length = n * k := by simp [Builtin.zeroCells, hz]
  have hone : ∀ v ∈ (Builtin.zeroCells z.cells n).toList, v.oneCell' = true := by
    intro v hv
    simp only [Builtin.zeroCells, Array.toList_map, List.mem_map] at hv
    obtain ⟨i, hi, rfl⟩ := hv
    have hi' : i < n * z.cells.size := by simpa using hi
    have hpos : 0 < z.cells.size := by
      rcases Nat.eq_zero_or_pos z.cells.size with h0 | h0
      · rw [h0] at hi'; omega
      · exact h0
    have : z.cells[i % z.cells.size]! = z.cells[i % z.cells.size]'(Nat.mod_lt _ hpos) := by simp [Nat.mod_lt _ hpos]
    rw [this]
    exact h1 _ (Array.getElem_mem _)
  obtain ⟨cur, hrun, hrow⟩ := h.store (P := P) o _ (by rw [hl]; exact ho) hone
  rcases Nat.eq_zero_or_pos n with h0 | h0
  · subst h0
    obtain ⟨c0, hg, hs, hc⟩ := h
    refine ⟨c0, ?_, [], by simp, ?_⟩
    · rw [setRow_self W g c0 e _ hg]
      simp [Builtin.clear_, run_underlying ht]
    · rw [setRow_self W g c0 e _ hg]
      exact Row.congr ⟨c0, hg, hs, hc⟩ (fun j hj => by unfold updL; rw [if_neg (by simp)])
  · obtain ⟨m, rfl⟩ : ∃ m, n = m + 1 := ⟨n - 1, by omega⟩
    refine ⟨cur, ?_, _, hl, hrow⟩
    simp [Builtin.clear_, run_underlying ht, hv, hrun]

/-- copy into a row, of cells that are read. -/
theorem Row.copy {P : Program} {W : World} {g : Nat} {e : TypeId} {N k : Nat} {f : Nat → Value} (h : Row W g e N f) (dT sT ty : TypeId) (o dLen dCap : Nat) (a : Addr) (sLen sCap : Nat) (cs : List Value)
    (hu : P.underlying dT = some (.slice e)) (hs : (P.info? e).map (·.size) = some k) (hn : cs.length = Nat.min sLen dLen * k)
    (hsrc : ∀ j v, cs[j]? = some v → W.cell? (a.add j) = some v) (hfit : o + cs.length ≤ N) (h1 : ∀ v ∈ cs, v.oneCell' = true) :
    ∃ cur : Array Value, (Builtin.copy_ #[dT, sT] ty #[.slice (some ⟨g, o, none⟩) dLen dCap, .slice (some a) sLen sCap]).run P W = .ok (goInt (Nat.min sLen dLen)) (W.setRow g cur) ∧ Row (W.setRow g cur) g e N (updL f o cs) := by
  obtain ⟨cur, hrun, hrow⟩ := h.store (P := P) o cs hfit h1
  have hl := run_loadCells_list (P := P) W a cs hsrc
  rw [hn] at hl
  refine ⟨cur, ?_, hrow⟩
  cases hq : P.info? e with
  | none => simp [hq] at hs
  | some i =>
    have hi : i.size = k := by simpa [hq] using hs
    simp [Builtin.copy_, run_underlying hu, Builtin.lenOf, Builtin.firstCells, sizeOf, typeInfo, hq, hi, hl, hrun]

/-- append's second argument of another slice type. -/
theorem append_tu {P : Program} {W : World} {t u e e' : TypeId} {i : TypeInfo} (ht : P.underlying t = some (.slice e)) (hu : P.underlying u = some (.slice e')) (hi : P.info? e = some i) (ty : TypeId) (B : Option Addr) (n c : Nat) (x : Value) :
    (Builtin.append_ #[t, u] ty #[.slice B n c, x]).run P W = (Builtin.append_ #[t, t] ty #[.slice B n c, x]).run P W := by
  simp [Builtin.append_, run_underlying ht, run_underlying hu, sizeOf, typeInfo, hi]

/-- append(s[:i], make(S, m)...), beyond the capacity: a new row, whose first i elements are the old ones. -/
theorem append_zeros_grow {P : Program} {W : World} {g : Nat} {e t tn : TypeId} {cap k bytes : Nat} {f : Nat → Value} {z : Value} (h : Row W g e (cap * k) f) (ty : TypeId) (kn : IntKind) (ht : P.underlying t = some (.slice e)) (htn : P.underlying tn = some (.int kn))
    (hinfo : (P.info? e).map (fun i => (i.zero, i.size, i.bytes)) = some (some z, k, bytes)) (hz : z.cells.size = k) (hk : 0 < k) (hb0 : 0 < bytes) (i m : Nat) (hi : i ≤ cap) (hm : cap < i + m) (hl : (i + m) * bytes ≤ 140737488355328) :
    ∃ C W' f', (Builtin.append_ #[t, tn] ty #[.slice (some ⟨g, 0, none⟩) i cap, .int .i64 (m : Int)]).run P W = .ok (.slice (some ⟨W.heap.size, 0, none⟩) (i + m) C) W' ∧ i + m ≤ C ∧ C ≤ maxLen ∧ Below W.heap.size W W' ∧ Row W' W.heap.size e (C * k) f' ∧ (∀ j, j < i * k → f' j = f j) := by
  obtain ⟨i0, hi0, hzz⟩ := Option.map_eq_some_iff.1 hinfo
  simp only [Prod.mk.injEq] at hzz
  obtain ⟨hz0, hz1, hz2⟩ := hzz
  subst hz1 hz2
  obtain ⟨cur, hg, hs, hc⟩ := h
  have hlen : i + m ≤ 140737488355328 := Nat.le_trans (Nat.le_mul_of_pos_right _ hb0) hl
  have hge := grownCap_ge W (i + m) cap e
  have hcm : grownCap W (i + m) cap e ≤ maxLen := grownCap_le_maxLen W (i + m) cap e (by simp only [maxLen]; omega)
  have hik : i * i0.size ≤ cap * i0.size := Nat.mul_le_mul_right _ hi
  let olds := cur.toList.take (i * i0.size)
  have hol : olds.length = i * i0.size := by
    have : cur.toList.length = cap * i0.size := by simp [hs]
    simp only [olds, List.length_take, this]
    exact Nat.min_eq_left hik
  have hold : ∀ j v, olds[j]? = some v → W.drew.cell? ((⟨g, 0, none⟩ : Addr).add j) = some v := by
    intro j v hj
    rw [add_plain]
    simp only [olds, List.getElem?_take] at hj
    split at hj
    · show W.cell? ⟨g, j, none⟩ = some v
      simp only [World.cell?, hg]
      simpa using hj
    · cases hj
  have hfo := run_firstCells_some (P := P) W.drew i0.size i ⟨g, 0, none⟩ i cap olds hol hold
  have hn : ¬ (i + m ≤ cap) := by omega
  have h63 : ¬ (9223372036854775807 < ((i : Int) + (m : Int))) := by omega
  have h48 : ¬ (281474976710656 < Builtin.nextslicecap (i + m) cap * i0.bytes) := by have := growslice_fits (need := i + m) (old := cap) (bytes := i0.bytes) (by omega) hl; omega
  have h48i : ¬ (281474976710656 < (m : Int) * (i0.bytes : Int)) := by
    rw [← Int.natCast_mul]
    have : m * i0.bytes ≤ (i + m) * i0.bytes := Nat.mul_le_mul_right _ (by omega)
    omega
  have hw : IntKind.i64.wrap (m : Int) = m := by rw [IntKind.wrap_i64]; omega
  have hneg : ¬ ((m : Int) < 0) := by omega
  have hm0 : m ≠ 0 := by omega
  have hns : ¬ (m * i0.size = 0) := Nat.mul_ne_zero hm0 (by omega)
  have hk0 : ¬ (i0.size = 0) := by omega
  refine ⟨grownCap W (i + m) cap e, W.drew.alloc (.cells (olds.toArray ++ Builtin.zeroCells z.cells m ++ Builtin.zeroCells z.cells (grownCap W (i + m) cap e - (i + m))) e), fun j => (olds.toArray ++ Builtin.zeroCells z.cells m ++ Builtin.zeroCells z.cells (grownCap W (i + m) cap e - (i + m))).getD j undef, ?_, hge, hcm, ?_, ?_, ?_⟩
  · simp [Builtin.append_, run_underlying ht, run_underlying htn, sizeOf, typeInfo, zeroValue, hi0, hz0, asInt, asIntOf, hw, hn, hneg, hm0, hk0, h63, h48, h48i, Question.forced, hfo, newRow, grownCap]
    exact fun h0 => absurd h0 hns
  · exact below_alloc (below_drew (Below.refl _ _)) _
  · have hsize : (olds.toArray ++ Builtin.zeroCells z.cells m ++ Builtin.zeroCells z.cells (grownCap W (i + m) cap e - (i + m))).size = grownCap W (i + m) cap e * i0.size := by
      simp only [Array.size_append, List.size_toArray, size_zeroCells, hz, hol, ← Nat.add_mul]
      congr 1
      omega
    refine ⟨_, heap_alloc_new W.drew _, hsize, fun j hj => ?_⟩
    have hj' := hj
    rw [← hsize] at hj'
    rw [Array.getElem?_eq_getElem hj']
    show some _ = some (Array.getD _ j undef)
    rw [Array.getD_eq_getD_getElem?, Array.getElem?_eq_getElem hj']
    rfl
  · intro j hj
    have hj2 : j < cap * i0.size := by omega
    have hcj := hc j hj2
    have hjo : j < olds.length := by omega
    have hjo' : j < olds.toArray.size := by simpa using hjo
    have h1 : (olds.toArray ++ Builtin.zeroCells z.cells m ++ Builtin.zeroCells z.cells (grownCap W (i + m) cap e - (i + m)))[j]? = some (f j) := by
      rw [Array.append_assoc, Array.getElem?_append_left hjo']
      simp only [List.getElem?_toArray, olds, List.getElem?_take, if_pos hj]
      simpa using hcj
    show (olds.toArray ++ _ ++ _).getD j undef = f j
    rw [Array.getD_eq_getD_getElem?, h1]
    rfl

/-- The cells from o on. -/
def seg (f : Nat → Value) (o n : Nat) : List Value := (List.range n).map fun j => f (o + j)
theorem seg_len (f : Nat → Value) (o n : Nat) : (seg f o n).length = n := by simp [seg]
theorem seg_get (f : Nat → Value) (o n j : Nat) (v : Value) (h : (seg f o n)[j]? = some v) : j < n ∧ v = f (o + j) := by
  simp only [seg, List.getElem?_map, Option.map_eq_some_iff] at h
  obtain ⟨a, ha, rfl⟩ := h
  rw [List.getElem?_eq_some_iff] at ha
  obtain ⟨h1, h2⟩ := ha
  simp at h1 h2
  exact ⟨h1, by rw [h2]⟩
theorem seg_getD (f : Nat → Value) (o n j : Nat) (h : j < n) : (seg f o n).getD j undef = f (o + j) := by
  simp [seg, List.getD_eq_getElem?_getD, h]
theorem updL_in (f : Nat → Value) (o : Nat) (vs : List Value) (j : Nat) (h1 : o ≤ j) (h2 : j < o + vs.length) : updL f o vs j = vs.getD (j - o) undef := by unfold updL; rw [if_pos ⟨h1, h2⟩]
theorem updL_out (f : Nat → Value) (o : Nat) (vs : List Value) (j : Nat) (h : j < o ∨ o + vs.length ≤ j) : updL f o vs j = f j := by unfold updL; rw [if_neg (by omega)]

/-- 'copy' for the walk, where its run is known. -/
theorem wp_copy_is {P : Program} (w : World) {o : Oper} {a : Act} {K : Act → World → Prop} {Q : Exit → Act → World → Prop} (d s : Operand) (t t' : TypeId)
    (ho : o.op = .call { callee := .builtin .copy, args := #[d, s], argTypes := #[t, t'] }) (v u : Value) (hd : a.eval d = v) (hs : a.eval s = u) {v' : Value} {w' : World}
    (hr : (Builtin.copy_ #[t, t'] o.type #[v, u]).run P w = .ok v' w') (h : K (a.put o.dst v') w') : o.wp P a w K Q := by
  unfold Oper.wp execOp
  simp only [ho, resolve, invoke, builtin, Sem.run_bind, Sem.run_pure, Result.andThen_ok, List.map_toArray, List.map_cons, List.map_nil, hd, hs, hr]
  exact h
theorem wpList_copy_is {P : Program} (w : World) {ops : Array Oper} {rest : List Oper} {o : Oper} {a : Act} {Q : Exit → Act → World → Prop} (hgd : o.guard = none) (d s : Operand) (t t' : TypeId)
    (ho : o.op = .call { callee := .builtin .copy, args := #[d, s], argTypes := #[t, t'] }) (v u : Value) (hd : a.eval d = v) (hs : a.eval s = u) {v' : Value} {w' : World}
    (hr : (Builtin.copy_ #[t, t'] o.type #[v, u]).run P w = .ok v' w') (h : wpList P ops Q rest (a.put o.dst v') w') : wpList P ops Q (o :: rest) a w :=
  wpList_plain hgd fun _ hK => wp_copy_is w d s t t' ho v u hd hs hr (hK _ _ h)
theorem step_copy_is {P : Program} {ops : Array Oper} {o : Oper} {a : Act} {w : World} {K : Act → World → Prop} {Q : Exit → Act → World → Prop} {E : Prop}
    (hg : o.guard = none) (d x : Operand) (dT sT : TypeId) (hop : o.op = Op.call { callee := Callee.builtin Builtin.copy, args := #[d, x], argTypes := #[dT, sT] })
    (v u : Value) (hd : a.eval d = v) (hx : a.eval x = u) {v' : Value} {w' : World} (hr : (Builtin.copy_ #[dT, sT] o.type #[v, u]).run P w = .ok v' w') (hK : K (a.put o.dst v') w') :
    if Region.wanted o (yielded ops a.tmps) = true then Oper.wp P o a w K Q else E := by
  have hw : Region.wanted o (yielded ops a.tmps) = true := by simp [Region.wanted, hg]
  rw [if_pos hw]
  unfold Oper.wp
  simp [execOp, hop, resolve, invoke, builtin, hd, hx, hr, Result.andThen]
  exact hK
end Go.Proofs.Ytolpcfjmhimpeaa.H

namespace Go.Proofs.Ytolpcfjmhimpeaa.H
open Go.RowKit Go.Proofs.YtolpcfjmhimpeaaW.PrintWords Go.Proofs.YtolpcfjmhimpeaaW.PrintLast Go.Proofs.Ytolpcfjmhimpeaa.P
set_option linter.unusedVariables false
set_option linter.unusedSimpArgs false

/-- A hold as a value. -/
abbrev encH (x : S119) : Value := .agg #[.int .u8 x.f0, .int .i64 x.f1, .bool x.f2]

/-- What is asked of a predicate's function. -/
def PredH (g : Nat) (lb : Array Value) (p : S119 → Bool) (w : World) : Prop :=
  ∀ (W : World) (x : S119), Below w.heap.size w W → Calls Try.prog g (#[encH x] ++ lb) W fun e w' => e = .returned (.bool (p x)) ∧ Below W.heap.size W w'

/-- The first place from i on. -/
def idx (p : S119 → Bool) : List S119 → Int → Int
  | [], _ => -1
  | x :: l, i => if p x then i else idx p l (i + 1)

theorem idx_none (p : S119 → Bool) (l : List S119) (i : Int) (h : ∀ x ∈ l, p x = false) : idx p l i = -1 := by
  induction l generalizing i with
  | nil => rfl
  | cons x l ih => simp [idx, h x (by simp), ih (i + 1) (fun y hy => h y (by simp [hy]))]

theorem idx_hit (p : S119 → Bool) (l : List S119) (k : Nat) (i : Int) (hk : k < l.length) (hp : p (l.getD k z119) = true) (h : ∀ j, j < k → p (l.getD j z119) = false) : idx p l i = i + k := by
  induction l generalizing i k with
  | nil => simp at hk
  | cons x l ih =>
    cases k with
    | zero => simp [idx] at *; intro h; rw [h] at hp; simp at hp
    | succ k =>
      have h0 := h 0 (by omega)
      simp at h0 hp hk
      rw [idx, h0, if_neg (by simp), ih k (i + 1) hk (by simpa using hp) (fun j hj => by simpa using h (j + 1) (by omega))]
      push_cast
      omega

set_option maxRecDepth 100000 in
set_option maxHeartbeats 2000000 in
theorem indexFunc (p : S119 → Bool) (g : Nat) (lb : Array Value) (eg : ∀ args w, (callFunc g args).run Try.prog w = .ok (.enter g args) w) (A : Option Addr) (c : Nat) (l : List S119) (w : World)
    (hr : Kd.C k119 w A l.length l) (hp : PredH g lb p w) :
    Calls Try.prog 93 #[.slice A l.length c, .func (.func g) #[] lb] w fun e w' => e = .returned (.int .i64 (idx p l 0)) ∧ Below w.heap.size w w' := by
  have hu := Try.underlying119
  have hbig := hr.2.1
  have HR := Aside0.mk hr
  have HP := Aside0.mk hp
  clear hr hp
  go_enter Try.func93, Try.ntmps93
  go_wp2
  go_loopg [5, 8] l.length (fun gg _ s8 wr => ∃ kk : Int, s8 = .int .i64 kk ∧ Aside0 (0 ≤ kk ∧ kk ≤ l.length ∧ l.length - kk.toNat ≤ gg) ∧ Aside0 (Below w.heap.size w wr) ∧ Aside0 (∀ j, j < kk.toNat → p (l.getD j z119) = false))
  case atStart => exact ⟨0, rfl, ⟨by omega, by omega, by omega⟩, ⟨Below.refl _ w⟩, ⟨fun j hj => absurd hj (Nat.not_lt_zero _)⟩⟩
  case round =>
    obtain ⟨kk, rfl, HK, BW, AF⟩ := hrel
    have p0 : 0 ≤ kk := HK.out.1
    by_cases hlt : kk < (l.length : Int)
    · obtain ⟨ad, e0, h0, h1, h2⟩ := at_T119 HR.out kk p0 hlt
      cases e0
      replace h0 := (BW.out.cell (World.block_lt_of_cell? w _ h0)).trans h0
      replace h1 := (BW.out.cell (World.block_lt_of_cell? w _ h1)).trans h1
      replace h2 := (BW.out.cell (World.block_lt_of_cell? w _ h2)).trans h2
      generalize hy : rd_T119 l kk = y at h0 h1 h2
      have B := Aside0.mk hy
      clear hy
      have HC := Aside0.mk (HP.out wr y BW.out)
      have HL := Aside0.mk hlt
      have cb : decide (kk < (l.length : Int)) = true := decide_eq_true hlt
      have q0 : (0 ≤ kk) = True := eq_true p0
      have q1 : (kk < (l.length : Int)) = True := eq_true hlt
      clear hlt p0
      cases hq : p y with
      | true =>
        have HQ := Aside0.mk hq
        rw [hq] at HC
        clear hq
        go_wp2_with (go_at_fn g; refine HC.out.mono ?_; rintro e w' ⟨rfl, hb0⟩; have hb' := below_then BW.out BW.out.size hb0; clear hb0)
        go_ret
        refine ⟨?_, hb'⟩
        have h := idx_hit p l kk.toNat 0 (by have := HL.out; have := of_eq_true q0; omega) (by have := B.out; unfold rd_T119 at this; rw [this]; exact HQ.out) AF.out
        rw [h, Int.zero_add, Int.toNat_of_nonneg (of_eq_true q0)]
        rfl
      | false =>
        have HQ := Aside0.mk hq
        rw [hq] at HC
        clear hq
        have hw1 : wrap64 (kk + 1) = kk + 1 := by have := HL.out; have := of_eq_true q0; unfold wrap64; omega
        go_wp2_with (go_at_fn g; refine HC.out.mono ?_; rintro e w' ⟨rfl, hb0⟩; have hb' := below_then BW.out BW.out.size hb0; clear hb0)
        go_roundg (l.length - (kk.toNat + 1))
        case measure => have := HK.out; have := HL.out; omega
        case rel =>
          refine ⟨kk + 1, by first | rfl | (simp [hw1]; done), ⟨by have := HK.out; omega, by have := HL.out; omega, by have := HK.out; omega⟩, ⟨hb'⟩, ⟨fun j hj => ?_⟩⟩
          by_cases e : j = kk.toNat
          · subst e
            have := B.out; unfold rd_T119 at this; rw [this]; exact HQ.out
          · exact AF.out j (by omega)
    · have cb : decide (kk < (l.length : Int)) = false := decide_eq_false hlt
      have HL := Aside0.mk hlt
      clear hlt p0
      go_wp2
      go_ret
      refine ⟨?_, BW.out⟩
      rw [idx_none p l 0 (fun x hx => by
        obtain ⟨j, hj, rfl⟩ := List.mem_iff_getElem.1 hx
        have := AF.out j (by have := HL.out; have := HK.out; omega)
        rwa [List.getD_eq_getElem?_getD, List.getElem?_eq_getElem hj] at this)]
      rfl
end Go.Proofs.Ytolpcfjmhimpeaa.H

namespace Go.Proofs.Ytolpcfjmhimpeaa.H
open Go.RowKit Go.Proofs.YtolpcfjmhimpeaaW.PrintWords Go.Proofs.YtolpcfjmhimpeaaW.PrintLast Go.Proofs.Ytolpcfjmhimpeaa.P
set_option linter.unusedVariables false
set_option linter.unusedSimpArgs false

theorem idx_find (p : S119 → Bool) (l : List S119) (i : Int) : (l.find? p = none ∧ idx p l i = -1) ∨ ∃ k : Nat, k < l.length ∧ idx p l i = i + k ∧ l.find? p = some (l.getD k z119) := by
  induction l generalizing i with
  | nil => exact .inl ⟨rfl, rfl⟩
  | cons x l ih =>
    by_cases h : p x = true
    · exact .inr ⟨0, by simp, by simp [idx, h], by simp [List.find?, h]⟩
    · have h' : p x = false := by simpa using h
      rcases ih (i + 1) with ⟨a, b⟩ | ⟨k, a, b, c⟩
      · exact .inl ⟨by simp [List.find?, h', a], by simp [idx, h', b]⟩
      · exact .inr ⟨k + 1, by simp; omega, by simp [idx, h', b]; omega, by simp [List.find?, h', c]⟩
end Go.Proofs.Ytolpcfjmhimpeaa.H

namespace Go.Proofs.Ytolpcfjmhimpeaa.H
open Go.RowKit Go.Proofs.YtolpcfjmhimpeaaW.PrintWords Go.Proofs.YtolpcfjmhimpeaaW.PrintLast Go.Proofs.Ytolpcfjmhimpeaa.P
set_option linter.unusedVariables false
set_option linter.unusedSimpArgs false

theorem infoH : (Try.prog.info? 119).map (fun i => (i.zero, i.size, i.bytes)) = some (some (.agg #[(.int .u8 0), (.int .i64 0), (.bool false)]), 3, 24) := by kernel_rfl

theorem flatH {w : World} {A : Option Addr} {n : Nat} {l : List S119} (h : Kd.C k119 w A n l) : ReadsRow (fun (x : S119) cs => cs = [.int .u8 x.f0, .int .i64 x.f1, .bool x.f2]) 3 w A n l :=
  ReadsRow.imp_ h (Below.refl _ _) (fun _ _ hp => k119_open hp)

set_option maxRecDepth 100000 in
set_option maxHeartbeats 1000000 in
theorem clone_calls (A : Option Addr) (c : Nat) (l : List S119) (w : World) (hr : Kd.C k119 w A l.length l) (hl : l.length ≤ 5864062014805) :
    Calls Try.prog 62 #[.slice A l.length c] w fun e w' => ∃ v, e = .returned v ∧ Kd.R k119 119 w' w.heap.size (fun _ => True) v l ∧ Below w.heap.size w w' := by
  have HR := Aside0.mk (flatH hr)
  have HL := Aside0.mk hl
  have hne := fun (w : World) (a : Option Addr) (n c : Nat) => Lib.run_eql_slice_nil (P := Try.prog) w 51 119 a n c 0 0 Try.underlying51
  cases A with
  | none =>
    have h0 : l = [] := by
      cases l with
      | nil => rfl
      | cons x l => obtain ⟨ad, h, _⟩ := hr.2.2 (by simp); cases h
    subst h0
    clear hr hl HR HL
    go_enter Try.func62, Try.ntmps62
    go_wp2
    go_ret
    exact ⟨_, rfl, Kd.R_nil _ _ _ _ _, Below.refl _ _⟩
  | some ad =>
    clear hr hl
    go_enter Try.func62, Try.ntmps62
    have HO : Aside0 (Kd.R k119 119 (w.alloc (.cells #[] 119)) w.heap.size (fun _ => True) (.slice (some ⟨w.heap.size, 0, none⟩) 0 0) []) :=
      ⟨fun _ _ => trivial, [], ⟨by simp, .inr ⟨w.heap.size, 0, #[], rfl, Nat.le_refl _, heap_alloc_new _ _, Nat.le_refl _, by simp, by simp, by simp⟩⟩, Reps.none _ _⟩
    have HRB := Aside0.mk (ReadsRow.imp_ HR.out ((Below.refl w.heap.size w).alloc (Nat.le_refl _) (.cells #[] 119)) (fun _ _ hp => hp))
    go_wp2_with ((with_reducible refine gate_builtin (b := .append) (xs := #[.tmp 5, .tmp 6]) rfl ?_); at_builtin; refine Kd.R_append_rows k119 (w0 := w) w.heap.size rfl (.tmp 5) (.tmp 6) 51 119 (.agg #[(.int .u8 0), (.int .i64 0), (.bool false)]) 24 rfl Try.underlying51 infoH rfl (by decide) (by omega) (.slice (some ⟨w.heap.size, 0, none⟩) 0 0) [] l (some ad) l.length c (fun _ => True) (fun _ => False) rfl rfl HO.out HRB.out (fun x cs hx => by subst hx; exact k119_mkM _ _ _ x) (fun _ h => h.elim) (fun _ _ => trivial) (below_alloc (Below.refl _ _) _) (by simp) (by have := HL.out; simp; omega) ?_; rintro v1 w1 hR hB hg hat; have HR1 := Aside0.mk hR; have HB1 := Aside0.mk hB; clear hR hB hg hat)
    go_ret
    exact ⟨_, rfl, HR1.out, HB1.out⟩
end Go.Proofs.Ytolpcfjmhimpeaa.H

namespace Go.Proofs.Ytolpcfjmhimpeaa.H
open Go.RowKit Go.Proofs.YtolpcfjmhimpeaaW.PrintWords Go.Proofs.YtolpcfjmhimpeaaW.PrintLast Go.Proofs.Ytolpcfjmhimpeaa.P
set_option linter.unusedVariables false
set_option linter.unusedSimpArgs false

def cmpI (a b : Int) : Int := if a < b then -1 else if a > b then 1 else 0
def orI (a b : Int) : Int := if a = 0 then b else a
def ordI (a b : S119) : Int := orI (cmpI a.f0 b.f0) (cmpI a.f1 b.f1)

theorem compare_u8 (a b : Int) : cmp_Compare_uint8.f a b = some (cmpI a b) := by
  simp only [cmp_Compare_uint8.f, cmp_isNaN_uint8.f, Option.bind_some, cmpI, bne_self_eq_false]
  split <;> (try split) <;> simp_all <;> (try (split <;> rfl))
theorem compare_int (a b : Int) : cmp_Compare_int.f a b = some (cmpI a b) := by
  simp only [cmp_Compare_int.f, cmp_isNaN_int.f, Option.bind_some, cmpI, bne_self_eq_false]
  split <;> (try split) <;> simp_all <;> (try (split <;> rfl))
theorem or_two (a b : Int) (k : Nat) : cmp_Or_int.f (k + 3) [a, b] = some (orI a b) := by
  by_cases ha : a = 0 <;> by_cases hb : b = 0 <;> simp [cmp_Or_int.f, cmp_Or_int.l0, orI, rd, wrap64, ha, hb]
theorem order_is (a b : S119) (k : Nat) : lock_order.f (k + 3) a.f0 a.f1 a.f2 b.f0 b.f1 b.f2 = some (ordI a b) := by
  simp only [lock_order.f, compare_u8, compare_int, Option.bind_some, or_two, ordI]
theorem order_calls (a b : S119) (w : World) : Calls Try.prog 66 #[encH a, encH b] w fun e w' => e = .returned (.int .i64 (ordI a b)) ∧ Below w.heap.size w w' :=
  lock_order.calls 3 _ _ _ _ _ _ _ w (order_is a b 0)

/-- The search for the first place at which q does not hold. -/
def bs (q : Int → Bool) : Nat → Int → Int → Int
  | 0, i, _ => i
  | f + 1, i, j => if i < j then (if q ((i + j) / 2) then bs q f ((i + j) / 2 + 1) j else bs q f i ((i + j) / 2)) else i

def lessH (l : List S119) (x : S119) (i : Int) : Bool := decide (ordI (rd_T119 l i) x < 0)

theorem bs_range (q : Int → Bool) (f : Nat) : ∀ i j, i ≤ j → i ≤ bs q f i j ∧ bs q f i j ≤ j := by
  induction f with
  | zero => intro i j h; exact ⟨Int.le_refl _, h⟩
  | succ f ih =>
    intro i j h
    unfold bs
    split
    · split
      · have := ih ((i + j) / 2 + 1) j (by omega); omega
      · have := ih i ((i + j) / 2) (by omega); omega
    · omega

theorem below_box {w W W' : World} {o : Obj} (h : Below (w.heap.size + 1) (w.alloc o) W) (hb : Below W.heap.size W W') : Below (w.heap.size + 1) (w.alloc o) W' :=
  below_then h (by have := h.size; simpa using this) hb

theorem below_unbox {w W : World} {o : Obj} (h : Below (w.heap.size + 1) (w.alloc o) W) : Below w.heap.size w W :=
  below_then (below_alloc (Below.refl _ _) o) (by simp) (show Below (w.alloc o).heap.size (w.alloc o) W from by rw [show (w.alloc o).heap.size = w.heap.size + 1 from by simp]; exact h)

set_option maxRecDepth 100000 in
set_option maxHeartbeats 2000000 in
theorem bsearch_calls (A : Option Addr) (c : Nat) (l : List S119) (x : S119) (w : World) (hr : Kd.C k119 w A l.length l) (hl : l.length ≤ 5864062014805) :
    Calls Try.prog 65 #[.slice A l.length c, encH x, .func (.func 66) #[] #[]] w fun e w' =>
      e = .returned (.tuple #[.int .i64 (bs (lessH l x) l.length 0 l.length), .bool (decide (bs (lessH l x) l.length 0 l.length < (l.length : Int)) && ordI (rd_T119 l (bs (lessH l x) l.length 0 l.length)) x == 0)]) ∧ Below w.heap.size w w' := by
  have hu := Try.underlying119
  have HR := Aside0.mk hr
  have HL := Aside0.mk hl
  clear hr
  obtain ⟨r, hrr⟩ : ∃ r, bs (lessH l x) l.length 0 l.length = r := ⟨_, rfl⟩
  have HRG := Aside0.mk (bs_range (lessH l x) l.length 0 l.length (by omega))
  rw [hrr] at HRG ⊢
  have H := Aside0.mk hrr
  clear hrr
  have HX : ∀ o, Aside0 (Below w.heap.size w (w.alloc o)) := fun o => ⟨below_alloc (Below.refl _ _) o⟩
  go_enter Try.func65, Try.ntmps65
  go_wp2
  go_loopg [9, 10, 11] l.length (fun gg s9 s10 _ wr => ∃ i j : Int, s9 = .int .i64 i ∧ s10 = .int .i64 j ∧ Aside0 (0 ≤ i ∧ i ≤ j ∧ j ≤ l.length ∧ j - i ≤ gg) ∧ Aside0 (Below (w.heap.size + 1) (w.alloc (.cells #[.int .u8 x.f0, .int .i64 x.f1, .bool x.f2] 119)) wr) ∧ Aside0 (bs (lessH l x) gg i j = r))
  case atStart => exact ⟨0, l.length, rfl, rfl, ⟨by omega, by omega, by omega, by omega⟩, ⟨by simpa using Below.refl _ _⟩, H⟩
  case round =>
    obtain ⟨i, j, rfl, rfl, HK, BW, HB⟩ := hrel
    have hh := HK.out
    by_cases hlt : i < j
    · obtain ⟨g', rfl⟩ : ∃ g', gk = g' + 1 := ⟨gk - 1, by omega⟩
      obtain ⟨h, hh2⟩ : ∃ h, h = (i + j) / 2 := ⟨_, rfl⟩
      have p0 : 0 ≤ h := by omega
      have p1 : h < (l.length : Int) := by omega
      have HH := Aside0.mk hh2
      have HLT := Aside0.mk hlt
      obtain ⟨ad, e0, h0, h1, h2⟩ := at_T119 HR.out h p0 p1
      cases e0
      have k0 := World.block_lt_of_cell? w _ h0
      have k1 := World.block_lt_of_cell? w _ h1
      have k2 := World.block_lt_of_cell? w _ h2
      have CW := Aside0.mk (fun W (hb : Below (w.heap.size + 1) (w.alloc (.cells #[.int .u8 x.f0, .int .i64 x.f1, .bool x.f2] 119)) W) =>
        (show W.cell? (ad.add (h.toNat * 3)) = some (.int .u8 (rd_T119 l h).f0) ∧ W.cell? ⟨(ad.add (h.toNat * 3)).block, (ad.add (h.toNat * 3)).off + 1, none⟩ = some (.int .i64 (rd_T119 l h).f1) ∧ W.cell? ⟨(ad.add (h.toNat * 3)).block, (ad.add (h.toNat * 3)).off + 2, none⟩ = some (.bool (rd_T119 l h).f2) ∧
          W.cell? ⟨w.heap.size, 0, none⟩ = some (.int .u8 x.f0) ∧ W.cell? ⟨w.heap.size, 1, none⟩ = some (.int .i64 x.f1) ∧ W.cell? ⟨w.heap.size, 2, none⟩ = some (.bool x.f2) from by
          have hw := (HX (.cells #[.int .u8 x.f0, .int .i64 x.f1, .bool x.f2] 119)).out
          refine ⟨(hb.cell (Nat.lt_succ_of_lt k0)).trans ((hw.cell k0).trans h0), (hb.cell (Nat.lt_succ_of_lt k1)).trans ((hw.cell k1).trans h1), (hb.cell (Nat.lt_succ_of_lt k2)).trans ((hw.cell k2).trans h2), (hb.cell (p := ⟨w.heap.size, 0, none⟩) (Nat.lt_succ_self _)).trans ?_, (hb.cell (p := ⟨w.heap.size, 1, none⟩) (Nat.lt_succ_self _)).trans ?_, (hb.cell (p := ⟨w.heap.size, 2, none⟩) (Nat.lt_succ_self _)).trans ?_⟩ <;> go_simp))
      obtain ⟨g0, g1, g2, g3, g4, g5⟩ := CW.out _ BW.out
      clear h0 h1 h2 k0 k1 k2 hh
      have hlt' : decide (i < j) = true := decide_eq_true hlt
      go_wp2
      rw [← hh2]
      clear hh2
      have q0 : (0 ≤ h) = True := eq_true p0
      have q1 : (h < (l.length : Int)) = True := eq_true p1
      cases hc : lessH l x h with
      | true =>
        have hcc : decide (ordI (rd_T119 l h) x < 0) = true := hc
        have HCC := Aside0.mk hc
        clear hc
        go_region_held3 (fun w' => (w'.cell? (ad.add (h.toNat * 3)) = some (.int .u8 (rd_T119 l h).f0) ∧ w'.cell? ⟨(ad.add (h.toNat * 3)).block, (ad.add (h.toNat * 3)).off + 1, none⟩ = some (.int .i64 (rd_T119 l h).f1) ∧ w'.cell? ⟨(ad.add (h.toNat * 3)).block, (ad.add (h.toNat * 3)).off + 2, none⟩ = some (.bool (rd_T119 l h).f2) ∧
            w'.cell? ⟨w.heap.size, 0, none⟩ = some (.int .u8 x.f0) ∧ w'.cell? ⟨w.heap.size, 1, none⟩ = some (.int .i64 x.f1) ∧ w'.cell? ⟨w.heap.size, 2, none⟩ = some (.bool x.f2)) ∧ Below (w.heap.size + 1) (w.alloc (.cells #[.int .u8 x.f0, .int .i64 x.f1, .bool x.f2] 119)) w')
          (first | exact ⟨CW.out _ (below_drew BW.out), below_drew BW.out⟩ | exact ⟨CW.out _ (below_box (below_drew BW.out) hb), below_box (below_drew BW.out) hb⟩)
          (first | (go_at_call 66; refine (order_calls _ _ _).mono ?_; rintro e w'' ⟨rfl, hb⟩))
        go_wp2
        go_roundg g'
        case measure => omega
        case rel => exact ⟨h + 1, j, rfl, rfl, ⟨by have := HH.out; have := HLT.out; have := HK.out; omega⟩, ⟨below_box (below_drew BW.out) hb⟩, ⟨by have h2 := HB.out; unfold bs at h2; rw [if_pos HLT.out, ← HH.out, if_pos HCC.out] at h2; exact h2⟩⟩
      | false =>
        have hcc : decide (ordI (rd_T119 l h) x < 0) = false := hc
        have HCC := Aside0.mk hc
        clear hc
        go_region_held3 (fun w' => (w'.cell? (ad.add (h.toNat * 3)) = some (.int .u8 (rd_T119 l h).f0) ∧ w'.cell? ⟨(ad.add (h.toNat * 3)).block, (ad.add (h.toNat * 3)).off + 1, none⟩ = some (.int .i64 (rd_T119 l h).f1) ∧ w'.cell? ⟨(ad.add (h.toNat * 3)).block, (ad.add (h.toNat * 3)).off + 2, none⟩ = some (.bool (rd_T119 l h).f2) ∧
            w'.cell? ⟨w.heap.size, 0, none⟩ = some (.int .u8 x.f0) ∧ w'.cell? ⟨w.heap.size, 1, none⟩ = some (.int .i64 x.f1) ∧ w'.cell? ⟨w.heap.size, 2, none⟩ = some (.bool x.f2)) ∧ Below (w.heap.size + 1) (w.alloc (.cells #[.int .u8 x.f0, .int .i64 x.f1, .bool x.f2] 119)) w')
          (first | exact ⟨CW.out _ (below_drew BW.out), below_drew BW.out⟩ | exact ⟨CW.out _ (below_box (below_drew BW.out) hb), below_box (below_drew BW.out) hb⟩)
          (first | (go_at_call 66; refine (order_calls _ _ _).mono ?_; rintro e w'' ⟨rfl, hb⟩))
        go_wp2
        go_roundg g'
        case measure => omega
        case rel => exact ⟨i, h, rfl, rfl, ⟨by have := HH.out; have := HLT.out; have := HK.out; omega⟩, ⟨below_box (below_drew BW.out) hb⟩, ⟨by have h2 := HB.out; unfold bs at h2; rw [if_pos HLT.out, ← HH.out, if_neg (by rw [HCC.out]; simp)] at h2; exact h2⟩⟩
    · have hij : i = r := by
        have h2 := HB.out
        cases gk with
        | zero => exact h2
        | succ g' => unfold bs at h2; rw [if_neg hlt] at h2; exact h2
      have HLT := Aside0.mk hlt
      subst hij
      have hlt' : decide (i < j) = false := decide_eq_false hlt
      clear hlt hh
      go_wp2
      by_cases hin : i < (l.length : Int)
      · have p0 : 0 ≤ i := HRG.out.1
        have p1 := hin
        obtain ⟨ad, e0, h0, h1, h2⟩ := at_T119 HR.out i p0 p1
        cases e0
        have k0 := World.block_lt_of_cell? w _ h0
        have k1 := World.block_lt_of_cell? w _ h1
        have k2 := World.block_lt_of_cell? w _ h2
        have CW := Aside0.mk (fun W (hb : Below (w.heap.size + 1) (w.alloc (.cells #[.int .u8 x.f0, .int .i64 x.f1, .bool x.f2] 119)) W) =>
          (show W.cell? (ad.add (i.toNat * 3)) = some (.int .u8 (rd_T119 l i).f0) ∧ W.cell? ⟨(ad.add (i.toNat * 3)).block, (ad.add (i.toNat * 3)).off + 1, none⟩ = some (.int .i64 (rd_T119 l i).f1) ∧ W.cell? ⟨(ad.add (i.toNat * 3)).block, (ad.add (i.toNat * 3)).off + 2, none⟩ = some (.bool (rd_T119 l i).f2) ∧
            W.cell? ⟨w.heap.size, 0, none⟩ = some (.int .u8 x.f0) ∧ W.cell? ⟨w.heap.size, 1, none⟩ = some (.int .i64 x.f1) ∧ W.cell? ⟨w.heap.size, 2, none⟩ = some (.bool x.f2) from by
            have hw := (HX (.cells #[.int .u8 x.f0, .int .i64 x.f1, .bool x.f2] 119)).out
            refine ⟨(hb.cell (Nat.lt_succ_of_lt k0)).trans ((hw.cell k0).trans h0), (hb.cell (Nat.lt_succ_of_lt k1)).trans ((hw.cell k1).trans h1), (hb.cell (Nat.lt_succ_of_lt k2)).trans ((hw.cell k2).trans h2), (hb.cell (p := ⟨w.heap.size, 0, none⟩) (Nat.lt_succ_self _)).trans ?_, (hb.cell (p := ⟨w.heap.size, 1, none⟩) (Nat.lt_succ_self _)).trans ?_, (hb.cell (p := ⟨w.heap.size, 2, none⟩) (Nat.lt_succ_self _)).trans ?_⟩ <;> go_simp))
        obtain ⟨g0, g1, g2, g3, g4, g5⟩ := CW.out _ BW.out
        clear h0 h1 h2 k0 k1 k2
        have q0 : (0 ≤ i) = True := eq_true p0
        have q1 : (i < (l.length : Int)) = True := eq_true p1
        have q2 : decide (i < (l.length : Int)) = true := decide_eq_true hin
        go_region_held3 (fun w' => (w'.cell? (ad.add (i.toNat * 3)) = some (.int .u8 (rd_T119 l i).f0) ∧ w'.cell? ⟨(ad.add (i.toNat * 3)).block, (ad.add (i.toNat * 3)).off + 1, none⟩ = some (.int .i64 (rd_T119 l i).f1) ∧ w'.cell? ⟨(ad.add (i.toNat * 3)).block, (ad.add (i.toNat * 3)).off + 2, none⟩ = some (.bool (rd_T119 l i).f2) ∧
            w'.cell? ⟨w.heap.size, 0, none⟩ = some (.int .u8 x.f0) ∧ w'.cell? ⟨w.heap.size, 1, none⟩ = some (.int .i64 x.f1) ∧ w'.cell? ⟨w.heap.size, 2, none⟩ = some (.bool x.f2)) ∧ Below (w.heap.size + 1) (w.alloc (.cells #[.int .u8 x.f0, .int .i64 x.f1, .bool x.f2] 119)) w')
          (first | exact ⟨CW.out _ (below_drew BW.out), below_drew BW.out⟩ | exact ⟨CW.out _ (below_box (below_drew BW.out) hb), below_box (below_drew BW.out) hb⟩)
          (first | (go_at_call 66; refine (order_calls _ _ _).mono ?_; rintro e w'' ⟨rfl, hb⟩))
        go_wp2
        go_ret2
        exact ⟨by simp [q2], below_unbox (below_box (below_drew BW.out) hb)⟩
      · have q2 : decide (i < (l.length : Int)) = false := decide_eq_false hin
        go_quiet (fail)
        go_wp2
        go_ret2
        exact ⟨by simp [q2], below_unbox (pw_below_drewN BW.out _)⟩
end Go.Proofs.Ytolpcfjmhimpeaa.H

namespace Go.Proofs.Ytolpcfjmhimpeaa.H
open Go.RowKit Go.Proofs.YtolpcfjmhimpeaaW.PrintWords Go.Proofs.YtolpcfjmhimpeaaW.PrintLast Go.Proofs.Ytolpcfjmhimpeaa.P
set_option linter.unusedVariables false
set_option linter.unusedSimpArgs false

theorem bt {w W W' : World} (h : Below w.heap.size w W) (k : Below W.heap.size W W') : Below w.heap.size w W' := below_then h h.size k

def mayB (tx key : Int) : Bool := decide (key < 64) && decide (0 ≤ tx) && decide (tx < 1000)
theorem may_is (tx key : Int) : lock_may.f tx key = some (mayB tx key) := by
  unfold lock_may.f mayB
  by_cases h1 : key < 64 <;> by_cases h2 : 0 ≤ tx <;> simp [h1, h2]
theorem may_calls (tx key : Int) (w : World) : Calls Try.prog 64 #[.int .i64 tx, .int .u8 key] w fun e w' => e = .returned (.bool (mayB tx key)) ∧ Below w.heap.size w w' :=
  (lock_may.calls tx key _ w (may_is tx key)).mono fun e w' ⟨he, hd⟩ => ⟨he, hd.below⟩

def pairB (p y : S119) : Bool := !(decide (ordI p y ≥ 0) || p.f0 == y.f0 && (p.f2 || y.f2))
def okAt (l : List S119) (i : Nat) : Bool := mayB (l.getD i z119).f1 (l.getD i z119).f0 && (decide (i = 0) || pairB (l.getD (i - 1) z119) (l.getD i z119))
def right (l : List S119) : Bool := (List.range l.length).all (okAt l)
def rightF (l : List S119) : Option Bool := some (right l)

theorem right_no {l : List S119} {i : Nat} (hi : i < l.length) (h : okAt l i = false) : right l = false := by
  unfold right
  rw [List.all_eq_false]
  exact ⟨i, List.mem_range.2 hi, by rw [h]; simp⟩
theorem right_yes {l : List S119} (h : ∀ i, i < l.length → okAt l i = true) : right l = true := by
  unfold right
  rw [List.all_eq_true]
  exact fun i hi => h i (List.mem_range.1 hi)

set_option maxRecDepth 100000 in
set_option maxHeartbeats 4000000 in
theorem right_calls (A0 : Option Addr) (c0 : Nat) (l0 : List (S119)) (r : Bool) (w : World) (hr0 : Kd.C k119 w A0 l0.length l0) (hc0 : l0.length ≤ c0) (h : rightF l0 = some r) :
    Calls Try.prog 63 #[.slice A0 l0.length c0] w fun e w' => e = .returned (.bool r) ∧ Below w.heap.size w w' := by
  have hu := Try.underlying119
  have hbig := hr0.2.1
  have HR := Aside0.mk hr0
  have H := Aside0.mk (show right l0 = r from by unfold rightF at h; injection h)
  clear hr0 hc0 h
  go_enter Try.func63, Try.ntmps63
  go_wp2
  go_loopg [3, 4, 5, 8] l0.length (fun gg _ _ _ s8 wr => ∃ kk : Int, s8 = .int .i64 kk ∧ Aside0 (0 ≤ kk ∧ kk ≤ l0.length ∧ l0.length - kk.toNat ≤ gg) ∧ Aside0 (Below w.heap.size w wr) ∧ Aside0 (∀ j, j < kk.toNat → okAt l0 j = true))
  case atStart => exact ⟨0, rfl, ⟨by omega, by omega, by omega⟩, ⟨Below.refl _ w⟩, ⟨fun j hj => absurd hj (Nat.not_lt_zero _)⟩⟩
  case round =>
    obtain ⟨kk, rfl, HK, BW, AF⟩ := hrel
    have p0 : 0 ≤ kk := HK.out.1
    by_cases hlt : kk < (l0.length : Int)
    · obtain ⟨ad, e0, h0, h1, h2⟩ := at_T119 HR.out kk p0 hlt
      cases e0
      replace h0 := (BW.out.cell (World.block_lt_of_cell? w _ h0)).trans h0
      replace h1 := (BW.out.cell (World.block_lt_of_cell? w _ h1)).trans h1
      replace h2 := (BW.out.cell (World.block_lt_of_cell? w _ h2)).trans h2
      have HO : Aside0 (okAt l0 kk.toNat = (mayB (rd_T119 l0 kk).f1 (rd_T119 l0 kk).f0 && (decide (kk.toNat = 0) || pairB (l0.getD (kk.toNat - 1) z119) (rd_T119 l0 kk)))) := ⟨rfl⟩
      generalize rd_T119 l0 kk = y at h0 h1 h2 HO
      have HL := Aside0.mk hlt
      have cb : decide (kk < (l0.length : Int)) = true := decide_eq_true hlt
      have q0 : (0 ≤ kk) = True := eq_true p0
      have q1 : (kk < (l0.length : Int)) = True := eq_true hlt
      clear hlt p0
      obtain ⟨y0, y1, y2⟩ := y
      have HM := fun W => Aside0.mk (may_calls y1 y0 W)
      cases hm : mayB y1 y0 with
      | false =>
        rw [hm] at HM
        have HN : Aside0 (r = false) := ⟨by rw [← H.out]; exact right_no (i := kk.toNat) (by have := HL.out; have := of_eq_true q0; omega) (by rw [HO.out, hm]; rfl)⟩
        clear hm
        go_wp2_with (go_at_call 64; refine (HM _).out.mono ?_; rintro e w' ⟨rfl, hb'⟩)
        go_ret
        exact ⟨by rw [HN.out]; rfl, bt (by repeat (first | exact BW.out | apply below_alloc)) hb'⟩
      | true =>
        rw [hm] at HM HO
        clear hm
        have hw1 : wrap64 (kk + 1) = kk + 1 := by have := HL.out; have := of_eq_true q0; unfold wrap64; omega
        by_cases hk0 : kk = 0
        · have q3 : (kk == 0) = true := by simpa using hk0
          have HK0 := Aside0.mk hk0
          clear hk0
          go_wp2_with (go_at_call 64; refine (HM _).out.mono ?_; rintro e w' ⟨rfl, hb'⟩; have BW' := Aside0.mk (bt (by repeat (first | exact BW.out | apply below_alloc)) hb'); clear hb')
          go_roundg (l0.length - 1)
          case measure => have := HK.out; have := HK0.out; have := HL.out; omega
          case rel =>
            refine ⟨kk + 1, by first | rfl | (simp [hw1]; done), ⟨by have := HK0.out; omega, by have := HL.out; omega, by have := HK.out; have := HK0.out; omega⟩, BW', ⟨fun j hj => ?_⟩⟩
            obtain rfl : j = 0 := by have := HK0.out; omega
            have := HO.out; rw [show kk.toNat = 0 from by rw [HK0.out]; rfl] at this; simpa using this
        · have hk1 : 0 < kk := by have := of_eq_true q0; omega
          have q3 : (kk == 0) = false := by simpa using hk0
          have hw2 : wrap64 (kk - 1) = kk - 1 := by have := HL.out; unfold wrap64; omega
          have q4 : (0 ≤ kk - 1) = True := eq_true (by omega)
          have q6 : (1 ≤ kk) = True := eq_true (by omega)
          have q7 : (kk < 1) = False := eq_false (by omega)
          have q5 : (kk - 1 < (l0.length : Int)) = True := eq_true (by have := HL.out; omega)
          obtain ⟨ad', e0, g0, g1, g2⟩ := at_T119 HR.out (kk - 1) (by omega) (by have := HL.out; omega)
          cases e0
          have hp : l0.getD (kk.toNat - 1) z119 = rd_T119 l0 (kk - 1) := by unfold rd_T119; congr 1; omega
          rw [hp, show decide (kk.toNat = 0) = false from decide_eq_false (by omega)] at HO
          clear hp
          generalize rd_T119 l0 (kk - 1) = p at g0 g1 g2 HO
          rw [show (kk - 1).toNat = kk.toNat - 1 from by omega] at g0 g1 g2
          have b0 := World.block_lt_of_cell? w _ g0
          have b1 := World.block_lt_of_cell? w _ g1
          have b2 := World.block_lt_of_cell? w _ g2
          have HF := Aside0.mk (fun W (hb : Below w.heap.size w W) => (⟨(hb.cell b0).trans g0, (hb.cell b1).trans g1, (hb.cell b2).trans g2⟩ : _ ∧ _ ∧ _))
          clear g0 g1 g2 b0 b1 b2
          have HK1 := Aside0.mk hk1
          clear hk0 hk1
          obtain ⟨p0, p1, p2⟩ := p
          have HQ := fun W => Aside0.mk (order_calls ⟨p0, p1, p2⟩ ⟨y0, y1, y2⟩ W)
          cases hc : decide (ordI ⟨p0, p1, p2⟩ ⟨y0, y1, y2⟩ ≥ 0) with
          | true =>
            have HN : Aside0 (r = false) := ⟨by rw [← H.out]; exact right_no (i := kk.toNat) (by have := HL.out; have := HK1.out; omega) (by rw [HO.out]; simp [pairB, hc])⟩
            clear HO
            have hcc : decide (0 ≤ ordI ⟨p0, p1, p2⟩ ⟨y0, y1, y2⟩) = true := hc
            go_wp2_with (first
              | (go_at_call 64; refine (HM _).out.mono ?_; rintro e w1 ⟨rfl, hb1⟩; have BW1 := Aside0.mk (bt (by repeat (first | exact BW.out | apply below_alloc)) hb1); have ⟨f0, f1, f2⟩ := HF.out _ BW1.out; have hs1 := hb1.size; have c0' : ∀ o, (w1.alloc o).cell? ⟨wr.heap.size, 0, none⟩ = some (.int .u8 y0) := fun o => ((below_alloc (Below.refl w1.heap.size w1) o).cell (p := ⟨wr.heap.size, 0, none⟩) (by simp at hs1 ⊢; omega)).trans ((hb1.cell (p := ⟨wr.heap.size, 0, none⟩) (by simp)).trans (by go_simp)); have c1' : ∀ o, (w1.alloc o).cell? ⟨wr.heap.size, 1, none⟩ = some (.int .i64 y1) := fun o => ((below_alloc (Below.refl w1.heap.size w1) o).cell (p := ⟨wr.heap.size, 1, none⟩) (by simp at hs1 ⊢; omega)).trans ((hb1.cell (p := ⟨wr.heap.size, 1, none⟩) (by simp)).trans (by go_simp)); have c2' : ∀ o, (w1.alloc o).cell? ⟨wr.heap.size, 2, none⟩ = some (.bool y2) := fun o => ((below_alloc (Below.refl w1.heap.size w1) o).cell (p := ⟨wr.heap.size, 2, none⟩) (by simp at hs1 ⊢; omega)).trans ((hb1.cell (p := ⟨wr.heap.size, 2, none⟩) (by simp)).trans (by go_simp)); clear hb1)
              | (go_at_call 66; refine (HQ _).out.mono ?_; rintro e w2 ⟨rfl, hb2⟩; have BW2 := Aside0.mk (bt (by repeat (first | exact BW1.out | apply below_alloc)) hb2); have d0 : w2.cell? ⟨w1.heap.size, 0, none⟩ = some (.int .u8 p0) := (hb2.cell (p := ⟨w1.heap.size, 0, none⟩) (by simp)).trans (by go_simp); have d2 : w2.cell? ⟨w1.heap.size, 2, none⟩ = some (.bool p2) := (hb2.cell (p := ⟨w1.heap.size, 2, none⟩) (by simp)).trans (by go_simp); have e0 : w2.cell? ⟨wr.heap.size, 0, none⟩ = some (.int .u8 y0) := (hb2.cell (p := ⟨wr.heap.size, 0, none⟩) (by simp at hs1 ⊢; omega)).trans (by go_simp); have e2 : w2.cell? ⟨wr.heap.size, 2, none⟩ = some (.bool y2) := (hb2.cell (p := ⟨wr.heap.size, 2, none⟩) (by simp at hs1 ⊢; omega)).trans (by go_simp); clear hb2))
            go_ret
            exact ⟨by rw [HN.out]; rfl, BW2.out⟩
          | false =>
            have hcc : decide (0 ≤ ordI ⟨p0, p1, p2⟩ ⟨y0, y1, y2⟩) = false := hc
            cases he : (p0 == y0) with
            | false =>
              have HP : Aside0 (okAt l0 kk.toNat = true) := ⟨by rw [HO.out]; simp [pairB, hc, he]⟩
              clear HO
              go_wp2_with (first
                | (go_at_call 64; refine (HM _).out.mono ?_; rintro e w1 ⟨rfl, hb1⟩; have BW1 := Aside0.mk (bt (by repeat (first | exact BW.out | apply below_alloc)) hb1); have ⟨f0, f1, f2⟩ := HF.out _ BW1.out; have hs1 := hb1.size; have c0' : ∀ o, (w1.alloc o).cell? ⟨wr.heap.size, 0, none⟩ = some (.int .u8 y0) := fun o => ((below_alloc (Below.refl w1.heap.size w1) o).cell (p := ⟨wr.heap.size, 0, none⟩) (by simp at hs1 ⊢; omega)).trans ((hb1.cell (p := ⟨wr.heap.size, 0, none⟩) (by simp)).trans (by go_simp)); have c1' : ∀ o, (w1.alloc o).cell? ⟨wr.heap.size, 1, none⟩ = some (.int .i64 y1) := fun o => ((below_alloc (Below.refl w1.heap.size w1) o).cell (p := ⟨wr.heap.size, 1, none⟩) (by simp at hs1 ⊢; omega)).trans ((hb1.cell (p := ⟨wr.heap.size, 1, none⟩) (by simp)).trans (by go_simp)); have c2' : ∀ o, (w1.alloc o).cell? ⟨wr.heap.size, 2, none⟩ = some (.bool y2) := fun o => ((below_alloc (Below.refl w1.heap.size w1) o).cell (p := ⟨wr.heap.size, 2, none⟩) (by simp at hs1 ⊢; omega)).trans ((hb1.cell (p := ⟨wr.heap.size, 2, none⟩) (by simp)).trans (by go_simp)); clear hb1)
                | (go_at_call 66; refine (HQ _).out.mono ?_; rintro e w2 ⟨rfl, hb2⟩; have BW2 := Aside0.mk (bt (by repeat (first | exact BW1.out | apply below_alloc)) hb2); have d0 : w2.cell? ⟨w1.heap.size, 0, none⟩ = some (.int .u8 p0) := (hb2.cell (p := ⟨w1.heap.size, 0, none⟩) (by simp)).trans (by go_simp); have d2 : w2.cell? ⟨w1.heap.size, 2, none⟩ = some (.bool p2) := (hb2.cell (p := ⟨w1.heap.size, 2, none⟩) (by simp)).trans (by go_simp); have e0 : w2.cell? ⟨wr.heap.size, 0, none⟩ = some (.int .u8 y0) := (hb2.cell (p := ⟨wr.heap.size, 0, none⟩) (by simp at hs1 ⊢; omega)).trans (by go_simp); have e2 : w2.cell? ⟨wr.heap.size, 2, none⟩ = some (.bool y2) := (hb2.cell (p := ⟨wr.heap.size, 2, none⟩) (by simp at hs1 ⊢; omega)).trans (by go_simp); clear hb2))
              go_roundg (l0.length - (kk.toNat + 1))
              case measure => have := HK.out; have := HL.out; omega
              case rel =>
                refine ⟨kk + 1, by first | rfl | (simp [hw1]; done), ⟨by have := HK.out; omega, by have := HL.out; omega, by have := HK.out; omega⟩, BW2, ⟨fun j hj => ?_⟩⟩
                by_cases e : j = kk.toNat
                · subst e; exact HP.out
                · exact AF.out j (by omega)
            | true =>
              cases p2 with
              | true =>
                have HN : Aside0 (r = false) := ⟨by rw [← H.out]; exact right_no (i := kk.toNat) (by have := HL.out; have := HK1.out; omega) (by rw [HO.out]; simp [pairB, hc, he])⟩
                clear HO
                go_wp2_with (first
                  | (go_at_call 64; refine (HM _).out.mono ?_; rintro e w1 ⟨rfl, hb1⟩; have BW1 := Aside0.mk (bt (by repeat (first | exact BW.out | apply below_alloc)) hb1); have ⟨f0, f1, f2⟩ := HF.out _ BW1.out; have hs1 := hb1.size; have c0' : ∀ o, (w1.alloc o).cell? ⟨wr.heap.size, 0, none⟩ = some (.int .u8 y0) := fun o => ((below_alloc (Below.refl w1.heap.size w1) o).cell (p := ⟨wr.heap.size, 0, none⟩) (by simp at hs1 ⊢; omega)).trans ((hb1.cell (p := ⟨wr.heap.size, 0, none⟩) (by simp)).trans (by go_simp)); have c1' : ∀ o, (w1.alloc o).cell? ⟨wr.heap.size, 1, none⟩ = some (.int .i64 y1) := fun o => ((below_alloc (Below.refl w1.heap.size w1) o).cell (p := ⟨wr.heap.size, 1, none⟩) (by simp at hs1 ⊢; omega)).trans ((hb1.cell (p := ⟨wr.heap.size, 1, none⟩) (by simp)).trans (by go_simp)); have c2' : ∀ o, (w1.alloc o).cell? ⟨wr.heap.size, 2, none⟩ = some (.bool y2) := fun o => ((below_alloc (Below.refl w1.heap.size w1) o).cell (p := ⟨wr.heap.size, 2, none⟩) (by simp at hs1 ⊢; omega)).trans ((hb1.cell (p := ⟨wr.heap.size, 2, none⟩) (by simp)).trans (by go_simp)); clear hb1)
                  | (go_at_call 66; refine (HQ _).out.mono ?_; rintro e w2 ⟨rfl, hb2⟩; have BW2 := Aside0.mk (bt (by repeat (first | exact BW1.out | apply below_alloc)) hb2); have d0 : w2.cell? ⟨w1.heap.size, 0, none⟩ = some (.int .u8 p0) := (hb2.cell (p := ⟨w1.heap.size, 0, none⟩) (by simp)).trans (by go_simp); have d2 : w2.cell? ⟨w1.heap.size, 2, none⟩ = some (.bool true) := (hb2.cell (p := ⟨w1.heap.size, 2, none⟩) (by simp)).trans (by go_simp); have e0 : w2.cell? ⟨wr.heap.size, 0, none⟩ = some (.int .u8 y0) := (hb2.cell (p := ⟨wr.heap.size, 0, none⟩) (by simp at hs1 ⊢; omega)).trans (by go_simp); have e2 : w2.cell? ⟨wr.heap.size, 2, none⟩ = some (.bool y2) := (hb2.cell (p := ⟨wr.heap.size, 2, none⟩) (by simp at hs1 ⊢; omega)).trans (by go_simp); clear hb2))
                go_ret
                exact ⟨by rw [HN.out]; rfl, BW2.out⟩
              | false =>
                cases y2 with
                | true =>
                  have HN : Aside0 (r = false) := ⟨by rw [← H.out]; exact right_no (i := kk.toNat) (by have := HL.out; have := HK1.out; omega) (by rw [HO.out]; simp [pairB, hc, he])⟩
                  clear HO
                  go_wp2_with (first
                    | (go_at_call 64; refine (HM _).out.mono ?_; rintro e w1 ⟨rfl, hb1⟩; have BW1 := Aside0.mk (bt (by repeat (first | exact BW.out | apply below_alloc)) hb1); have ⟨f0, f1, f2⟩ := HF.out _ BW1.out; have hs1 := hb1.size; have c0' : ∀ o, (w1.alloc o).cell? ⟨wr.heap.size, 0, none⟩ = some (.int .u8 y0) := fun o => ((below_alloc (Below.refl w1.heap.size w1) o).cell (p := ⟨wr.heap.size, 0, none⟩) (by simp at hs1 ⊢; omega)).trans ((hb1.cell (p := ⟨wr.heap.size, 0, none⟩) (by simp)).trans (by go_simp)); have c1' : ∀ o, (w1.alloc o).cell? ⟨wr.heap.size, 1, none⟩ = some (.int .i64 y1) := fun o => ((below_alloc (Below.refl w1.heap.size w1) o).cell (p := ⟨wr.heap.size, 1, none⟩) (by simp at hs1 ⊢; omega)).trans ((hb1.cell (p := ⟨wr.heap.size, 1, none⟩) (by simp)).trans (by go_simp)); have c2' : ∀ o, (w1.alloc o).cell? ⟨wr.heap.size, 2, none⟩ = some (.bool true) := fun o => ((below_alloc (Below.refl w1.heap.size w1) o).cell (p := ⟨wr.heap.size, 2, none⟩) (by simp at hs1 ⊢; omega)).trans ((hb1.cell (p := ⟨wr.heap.size, 2, none⟩) (by simp)).trans (by go_simp)); clear hb1)
                    | (go_at_call 66; refine (HQ _).out.mono ?_; rintro e w2 ⟨rfl, hb2⟩; have BW2 := Aside0.mk (bt (by repeat (first | exact BW1.out | apply below_alloc)) hb2); have d0 : w2.cell? ⟨w1.heap.size, 0, none⟩ = some (.int .u8 p0) := (hb2.cell (p := ⟨w1.heap.size, 0, none⟩) (by simp)).trans (by go_simp); have d2 : w2.cell? ⟨w1.heap.size, 2, none⟩ = some (.bool false) := (hb2.cell (p := ⟨w1.heap.size, 2, none⟩) (by simp)).trans (by go_simp); have e0 : w2.cell? ⟨wr.heap.size, 0, none⟩ = some (.int .u8 y0) := (hb2.cell (p := ⟨wr.heap.size, 0, none⟩) (by simp at hs1 ⊢; omega)).trans (by go_simp); have e2 : w2.cell? ⟨wr.heap.size, 2, none⟩ = some (.bool true) := (hb2.cell (p := ⟨wr.heap.size, 2, none⟩) (by simp at hs1 ⊢; omega)).trans (by go_simp); clear hb2))
                  go_ret
                  exact ⟨by rw [HN.out]; rfl, BW2.out⟩
                | false =>
                  have HP : Aside0 (okAt l0 kk.toNat = true) := ⟨by rw [HO.out]; simp [pairB, hc, he]⟩
                  clear HO
                  go_wp2_with (first
                    | (go_at_call 64; refine (HM _).out.mono ?_; rintro e w1 ⟨rfl, hb1⟩; have BW1 := Aside0.mk (bt (by repeat (first | exact BW.out | apply below_alloc)) hb1); have ⟨f0, f1, f2⟩ := HF.out _ BW1.out; have hs1 := hb1.size; have c0' : ∀ o, (w1.alloc o).cell? ⟨wr.heap.size, 0, none⟩ = some (.int .u8 y0) := fun o => ((below_alloc (Below.refl w1.heap.size w1) o).cell (p := ⟨wr.heap.size, 0, none⟩) (by simp at hs1 ⊢; omega)).trans ((hb1.cell (p := ⟨wr.heap.size, 0, none⟩) (by simp)).trans (by go_simp)); have c1' : ∀ o, (w1.alloc o).cell? ⟨wr.heap.size, 1, none⟩ = some (.int .i64 y1) := fun o => ((below_alloc (Below.refl w1.heap.size w1) o).cell (p := ⟨wr.heap.size, 1, none⟩) (by simp at hs1 ⊢; omega)).trans ((hb1.cell (p := ⟨wr.heap.size, 1, none⟩) (by simp)).trans (by go_simp)); have c2' : ∀ o, (w1.alloc o).cell? ⟨wr.heap.size, 2, none⟩ = some (.bool false) := fun o => ((below_alloc (Below.refl w1.heap.size w1) o).cell (p := ⟨wr.heap.size, 2, none⟩) (by simp at hs1 ⊢; omega)).trans ((hb1.cell (p := ⟨wr.heap.size, 2, none⟩) (by simp)).trans (by go_simp)); clear hb1)
                    | (go_at_call 66; refine (HQ _).out.mono ?_; rintro e w2 ⟨rfl, hb2⟩; have BW2 := Aside0.mk (bt (by repeat (first | exact BW1.out | apply below_alloc)) hb2); have d0 : w2.cell? ⟨w1.heap.size, 0, none⟩ = some (.int .u8 p0) := (hb2.cell (p := ⟨w1.heap.size, 0, none⟩) (by simp)).trans (by go_simp); have d2 : w2.cell? ⟨w1.heap.size, 2, none⟩ = some (.bool false) := (hb2.cell (p := ⟨w1.heap.size, 2, none⟩) (by simp)).trans (by go_simp); have e0 : w2.cell? ⟨wr.heap.size, 0, none⟩ = some (.int .u8 y0) := (hb2.cell (p := ⟨wr.heap.size, 0, none⟩) (by simp at hs1 ⊢; omega)).trans (by go_simp); have e2 : w2.cell? ⟨wr.heap.size, 2, none⟩ = some (.bool false) := (hb2.cell (p := ⟨wr.heap.size, 2, none⟩) (by simp at hs1 ⊢; omega)).trans (by go_simp); clear hb2))
                  go_roundg (l0.length - (kk.toNat + 1))
                  case measure => have := HK.out; have := HL.out; omega
                  case rel =>
                    refine ⟨kk + 1, by first | rfl | (simp [hw1]; done), ⟨by have := HK.out; omega, by have := HL.out; omega, by have := HK.out; omega⟩, BW2, ⟨fun j hj => ?_⟩⟩
                    by_cases e : j = kk.toNat
                    · subst e; exact HP.out
                    · exact AF.out j (by omega)
    · have cb : decide (kk < (l0.length : Int)) = false := decide_eq_false hlt
      have HL := Aside0.mk hlt
      clear hlt p0
      go_wp2
      go_ret
      refine ⟨?_, BW.out⟩
      rw [← H.out, right_yes (fun i hi => AF.out i (by have := HL.out; have := HK.out; omega))]
      rfl
end Go.Proofs.Ytolpcfjmhimpeaa.H

namespace Go.Proofs.Ytolpcfjmhimpeaa.H
open Go.RowKit Go.Proofs.YtolpcfjmhimpeaaW.PrintWords Go.Proofs.YtolpcfjmhimpeaaW.PrintLast Go.Proofs.Ytolpcfjmhimpeaa.P
set_option linter.unusedVariables false
set_option linter.unusedSimpArgs false

def cellsH (x : S119) : List Value := [.int .u8 x.f0, .int .i64 x.f1, .bool x.f2]
theorem flatK : Flat k119 3 cellsH := ⟨rfl, fun _ => rfl, ⟨fun h => k119_openM h, fun h => by subst h; exact k119_mkM _ _ _ _⟩, ⟨fun h => k119_open h, fun h => by subst h; exact k119_mk _ _⟩⟩

/-- Element a of a row is x. -/
structure AtH (f : Nat → Value) (a : Nat) (x : S119) : Prop where
  c0 : f (a * 3) = .int .u8 x.f0
  c1 : f (a * 3 + 1) = .int .i64 x.f1
  c2 : f (a * 3 + 2) = .bool x.f2
theorem atH_of {f : Nat → Value} {l : List S119} (h : ∀ i j, ∀ hi : i < l.length, j < 3 → some (f (i * 3 + j)) = (cellsH l[i])[j]?) (i : Nat) (hi : i < l.length) : AtH f i (l.getD i z119) := by
  have e : l.getD i z119 = l[i] := by rw [List.getD_eq_getElem?_getD, List.getElem?_eq_getElem hi]; rfl
  rw [e]
  exact ⟨by simpa [cellsH] using h i 0 hi (by omega), by simpa [cellsH] using h i 1 hi (by omega), by simpa [cellsH] using h i 2 hi (by omega)⟩
theorem atH_to {f : Nat → Value} {l : List S119} (h : ∀ i, i < l.length → AtH f i (l.getD i z119)) (i j : Nat) (hi : i < l.length) (hj : j < 3) : some (f (i * 3 + j)) = (cellsH l[i])[j]? := by
  have := h i hi
  rw [show l.getD i z119 = l[i] from by rw [List.getD_eq_getElem?_getD, List.getElem?_eq_getElem hi]; rfl] at this
  match j, hj with
  | 0, _ => simpa [cellsH] using this.c0
  | 1, _ => simpa [cellsH] using this.c1
  | 2, _ => simpa [cellsH] using this.c2
/-- Three stores: element i is x. -/
def put3 (f : Nat → Value) (i : Nat) (x : S119) : Nat → Value := upd (upd (upd f (i * 3) (.int .u8 x.f0)) (i * 3 + 1) (.int .i64 x.f1)) (i * 3 + 2) (.bool x.f2)
theorem row_put3 {W : World} {g N : Nat} {f : Nat → Value} (h : Row W g 119 N f) (i : Nat) (hi : i * 3 + 2 < N) (x : S119) :
    Row (((W.setCell ⟨g, i * 3, none⟩ (.int .u8 x.f0)).setCell ⟨g, i * 3 + 1, none⟩ (.int .i64 x.f1)).setCell ⟨g, i * 3 + 2, none⟩ (.bool x.f2)) g 119 N (put3 f i x) :=
  ((h.set (by omega) _).set (by omega) _).set (by omega) _
theorem at_put_same (f : Nat → Value) (i : Nat) (x : S119) : AtH (put3 f i x) i x := by
  constructor <;> simp [put3, upd]
theorem at_put_other {f : Nat → Value} {i a : Nat} {x y : S119} (h : AtH f a y) (ha : a ≠ i) : AtH (put3 f i x) a y := by
  have e0 : ∀ r s, r < 3 → s < 3 → a * 3 + r ≠ i * 3 + s := by intro r s _ _ h; omega
  constructor
  · simp only [put3, upd]; rw [if_neg (by have := e0 0 2; omega), if_neg (by have := e0 0 1; omega), if_neg (by have := e0 0 0; omega)]; exact h.c0
  · simp only [put3, upd]; rw [if_neg (by have := e0 1 2; omega), if_neg (by have := e0 1 1; omega), if_neg (by have := e0 1 0; omega)]; exact h.c1
  · simp only [put3, upd]; rw [if_neg (by have := e0 2 2; omega), if_neg (by have := e0 2 1; omega), if_neg (by have := e0 2 0; omega)]; exact h.c2
theorem at_updL {f : Nat → Value} {o a : Nat} {vs : List Value} {y : S119} (h : AtH f a y) (ha : a * 3 + 3 ≤ o ∨ o + vs.length ≤ a * 3) : AtH (updL f o vs) a y := by
  constructor <;> (simp only [updL]; rw [if_neg (by omega)])
  · exact h.c0
  · exact h.c1
  · exact h.c2
theorem below_put {w W : World} {B g : Nat} (h : Below B w W) (hg : B ≤ g) (a b c : Nat) (x y z : Value) : Below B w (((W.setCell ⟨g, a, none⟩ x).setCell ⟨g, b, none⟩ y).setCell ⟨g, c, none⟩ z) :=
  ((h.setCell (p := ⟨g, a, none⟩) hg x).setCell (p := ⟨g, b, none⟩) hg y).setCell (p := ⟨g, c, none⟩) hg z

theorem idx_facts (p : S119 → Bool) (l : List S119) : (idx p l 0 = -1 ∧ l.filter (fun x => !p x) = l) ∨ ∃ k : Nat, k < l.length ∧ idx p l 0 = k ∧ (l.take (k + 1)).filter (fun x => !p x) = l.take k := by
  have key : ∀ (l : List S119) (i : Int), (idx p l i = -1 ∧ l.filter (fun x => !p x) = l) ∨ ∃ k : Nat, k < l.length ∧ idx p l i = i + k ∧ (l.take (k + 1)).filter (fun x => !p x) = l.take k := by
    intro l
    induction l with
    | nil => intro i; exact .inl ⟨rfl, rfl⟩
    | cons x l ih =>
      intro i
      by_cases h : p x = true
      · exact .inr ⟨0, by simp, by simp [idx, h], by simp [h]⟩
      · have h' : p x = false := by simpa using h
        rcases ih (i + 1) with ⟨a, b⟩ | ⟨k, a, b, c⟩
        · exact .inl ⟨by simp [idx, h', a], by simp [h', b]⟩
        · exact .inr ⟨k + 1, by simp; omega, by simp [idx, h', b]; omega, by simp [h']; exact c⟩
  rcases key l 0 with h | ⟨k, a, b, c⟩
  · exact .inl h
  · exact .inr ⟨k, a, by rw [b]; omega, c⟩
end Go.Proofs.Ytolpcfjmhimpeaa.H

namespace Go.Proofs.Ytolpcfjmhimpeaa.H
open Go.RowKit Go.Proofs.YtolpcfjmhimpeaaW.PrintWords Go.Proofs.YtolpcfjmhimpeaaW.PrintLast Go.Proofs.Ytolpcfjmhimpeaa.P
set_option linter.unusedVariables false
set_option linter.unusedSimpArgs false

def keep (p : S119 → Bool) (l : List S119) : List S119 := l.filter (fun x => !p x)
theorem keep_snoc (p : S119 → Bool) (l : List S119) (j : Nat) (hj : j < l.length) : keep p (l.take (j + 1)) = if p (l.getD j z119) then keep p (l.take j) else keep p (l.take j) ++ [l.getD j z119] := by
  unfold keep
  rw [List.take_add_one, List.filter_append, List.getElem?_eq_getElem hj, show l.getD j z119 = l[j] from by rw [List.getD_eq_getElem?_getD, List.getElem?_eq_getElem hj]; rfl]
  cases h : p l[j] <;> simp [h]
theorem keep_len (p : S119 → Bool) (l : List S119) : (keep p l).length ≤ l.length := List.length_filter_le _ _

/-- What stands in the row after j elements. -/
structure Mid (p : S119 → Bool) (l : List S119) (G cap : Nat) (i j : Nat) (f : Nat → Value) (W : World) : Prop where
  row : Row W G 119 (cap * 3) f
  len : (keep p (l.take j)).length = i
  old : ∀ a, j ≤ a → a < l.length → AtH f a (l.getD a z119)
  new : ∀ a, a < i → AtH f a ((keep p (l.take j)).getD a z119)
theorem Mid.move {p : S119 → Bool} {l : List S119} {G cap i j : Nat} {f : Nat → Value} {W W' : World} (h : Mid p l G cap i j f W) (hb : Below W.heap.size W W') : Mid p l G cap i j f W' := ⟨h.row.below hb, h.len, h.old, h.new⟩
theorem Mid.drop {p : S119 → Bool} {l : List S119} {G cap i j : Nat} {f : Nat → Value} {W : World} (h : Mid p l G cap i j f W) (hj : j < l.length) (hp : p (l.getD j z119) = true) : Mid p l G cap i (j + 1) f W := by
  have e : keep p (l.take (j + 1)) = keep p (l.take j) := by rw [keep_snoc p l j hj, if_pos hp]
  exact ⟨h.row, by rw [e]; exact h.len, fun a h1 h2 => h.old a (by omega) h2, fun a ha => by rw [e]; exact h.new a ha⟩
theorem Mid.keep {p : S119 → Bool} {l : List S119} {G cap i j : Nat} {f : Nat → Value} {W : World} (h : Mid p l G cap i j f W) (hij : i < j) (hj : j < l.length) (hc : l.length ≤ cap) (hp : p (l.getD j z119) = false) :
    Mid p l G cap (i + 1) (j + 1) (put3 f i (l.getD j z119)) (((W.setCell ⟨G, i * 3, none⟩ (.int .u8 (l.getD j z119).f0)).setCell ⟨G, i * 3 + 1, none⟩ (.int .i64 (l.getD j z119).f1)).setCell ⟨G, i * 3 + 2, none⟩ (.bool (l.getD j z119).f2)) := by
  have e : H.keep p (l.take (j + 1)) = H.keep p (l.take j) ++ [l.getD j z119] := by rw [keep_snoc p l j hj, if_neg (by rw [hp]; simp)]
  refine ⟨row_put3 h.row i (by omega) _, by rw [e, List.length_append, h.len]; rfl, fun a h1 h2 => at_put_other (h.old a (by omega) h2) (by omega), fun a ha => ?_⟩
  rw [e]
  by_cases hai : a = i
  · subst hai
    rw [show (H.keep p (l.take j) ++ [l.getD j z119]).getD a z119 = l.getD j z119 from by rw [List.getD_eq_getElem?_getD, List.getElem?_append_right (by rw [h.len]; omega), h.len]; simp]
    exact at_put_same _ _ _
  · rw [show (H.keep p (l.take j) ++ [l.getD j z119]).getD a z119 = (H.keep p (l.take j)).getD a z119 from by rw [List.getD_eq_getElem?_getD, List.getElem?_append_left (by rw [h.len]; omega), ← List.getD_eq_getElem?_getD]]
    exact at_put_other (h.new a (by omega)) hai

theorem zeroH : ∀ w, (zeroValue 119).run Try.prog w = .ok (.agg #[.int .u8 0, .int .i64 0, .bool false]) w := fun w => by kernel_rfl
theorem oneH : ∀ u ∈ (Value.agg #[.int .u8 0, .int .i64 0, .bool false]).cells, u.oneCell' = true := by
  intro u hu
  simp [Value.cells] at hu
  rcases hu with rfl | rfl | rfl <;> rfl

set_option maxRecDepth 100000 in
set_option maxHeartbeats 4000000 in
theorem deleteFunc (p : S119 → Bool) (g : Nat) (lb : Array Value) (eg : ∀ args w, (callFunc g args).run Try.prog w = .ok (.enter g args) w) (l : List S119) (v : Value) (w0 w : World)
    (hB : Below w0.heap.size w0 w) (hp : PredH g lb p w0) (HO : Kd.R k119 119 w w0.heap.size (fun _ => True) v l) (hl : l.length ≤ 5864062014805) :
    Calls Try.prog 75 #[v, .func (.func g) #[] lb] w fun e w' => ∃ v', e = .returned v' ∧ Kd.R k119 119 w' w0.heap.size (fun _ => True) v' (keep p l) ∧ Below w0.heap.size w0 w' := by
  have hu := Try.underlying119
  have HP := Aside0.mk hp
  have HB := Aside0.mk hB
  have HL := Aside0.mk hl
  obtain ⟨A, c, hv, hlc, hC⟩ := Kd.R_reads HO
  have HI := Aside0.mk (indexFunc p g lb eg A c l w hC (fun W x hb => hp W x (below_then hB hB.size hb)))
  have HR := Aside0.mk HO
  rcases idx_facts p l with ⟨hi, hk⟩ | ⟨k, hk, hi, hkk⟩
  · subst hv
    rw [hi] at HI
    have HK : Aside0 (keep p l = l) := ⟨hk⟩
    clear hp hB hl HO hlc hC hi hk
    go_enter Try.func75, Try.ntmps75
    go_wp2_with (go_at_call 93; refine HI.out.mono ?_; rintro e w1 ⟨rfl, hb1⟩; have HB1 := Aside0.mk hb1; clear hb1)
    go_ret
    exact ⟨_, rfl, by rw [HK.out]; exact Kd.R_below HR.out HB1.out, below_then HB.out HB.out.size HB1.out⟩
  · rcases own_row flatK HO with ⟨_, rfl⟩ | ⟨G, cap, f, hv2, hG, hcap, hmax, hrow, hf⟩
    · simp at hk
    · rw [hv2] at hv
      injection hv with h1 h2 h3
      subst h1 h3 hv2
      rw [hi] at HI
      have HM : Aside0 (Mid p l G cap k (k + 1) f w) := ⟨⟨hrow, by show (List.filter _ _).length = k; rw [hkk, List.length_take]; omega, fun a _ ha => atH_of hf a ha, fun a ha => by
        show AtH f a ((List.filter _ _).getD a _)
        rw [hkk, show (l.take k).getD a z119 = l.getD a z119 from by rw [List.getD_eq_getElem?_getD, List.getElem?_take, if_pos ha, ← List.getD_eq_getElem?_getD]]
        exact atH_of hf a (by omega)⟩⟩
      have HG := Aside0.mk hG
      have HC := Aside0.mk (show l.length ≤ cap ∧ cap ≤ maxLen ∧ k < l.length from ⟨hcap, hmax, hk⟩)
      clear hp hB hl HO hlc hC hi hkk hrow hf hG hcap hmax hk
      obtain ⟨kk, hkk⟩ : ∃ kk : Int, kk = (k : Int) := ⟨_, rfl⟩
      rw [← hkk] at HI
      have q0 : (kk == -1) = false := by rw [beq_eq_false_iff_ne]; omega
      have b0 : 0 ≤ kk := by omega
      have b1 : kk ≤ 5864062014805 := by have := HC.out; have := HL.out; omega
      have HKK := Aside0.mk hkk
      clear hkk
      go_enter Try.func75, Try.ntmps75
      go_wp2_with (go_at_call 93; refine HI.out.mono ?_; rintro e w1 ⟨rfl, hb1⟩; have HM1 := Aside0.mk (HM.out.move hb1); have HB1 := Aside0.mk (below_then HB.out HB.out.size hb1); clear hb1)
      go_loopg [5, 6, 7] l.length (fun gg s5 s6 _ wr => ∃ (i j : Int) (f : Nat → Value), s5 = .int .i64 i ∧ s6 = .int .i64 j ∧ Aside0 (0 ≤ i ∧ i < j ∧ j ≤ l.length ∧ l.length - j.toNat ≤ gg) ∧ Aside0 (Below w0.heap.size w0 wr) ∧ Aside0 (Mid p l G cap i.toNat j.toNat f wr))
      case atStart => exact ⟨kk, kk + 1, f, rfl, rfl, ⟨by have := HKK.out; have := HC.out; omega⟩, HB1, ⟨by have e := HKK.out; rw [show kk.toNat = k from by omega, show (kk + 1).toNat = k + 1 from by omega]; exact HM1.out⟩⟩
      case round =>
        clear HM HM1 HI HB1
        obtain ⟨i, j, f, rfl, rfl, HK, BW, HM⟩ := hrel
        have i0 : 0 ≤ i := HK.out.1
        have j0 : 0 ≤ j := by have := HK.out; omega
        have i1 : i ≤ 5864062014805 := by have := HK.out; have := HL.out; omega
        have j1 : j ≤ 5864062014805 := by have := HK.out; have := HL.out; omega
        by_cases hlt : j < (l.length : Int)
        · have hj : j.toNat < l.length := by omega
          have hA := HM.out.old j.toNat (Nat.le_refl _) hj
          have hb := (Nat.lt_of_lt_of_le (show j.toNat * 3 + 2 < l.length * 3 by omega) (Nat.mul_le_mul_right 3 HC.out.1))
          have h0 : wr.cell? ⟨G, j.toNat * 3, none⟩ = some (.int .u8 (l.getD j.toNat z119).f0) := by rw [HM.out.row.cell (by omega), hA.c0]
          have h1 : wr.cell? ⟨G, j.toNat * 3 + 1, none⟩ = some (.int .i64 (l.getD j.toNat z119).f1) := by rw [HM.out.row.cell (by omega), hA.c1]
          have h2 : wr.cell? ⟨G, j.toNat * 3 + 2, none⟩ = some (.bool (l.getD j.toNat z119).f2) := by rw [HM.out.row.cell (by omega), hA.c2]
          have HLT := Aside0.mk hlt
          have HKP := Aside0.mk (fun W (h : Mid p l G cap i.toNat j.toNat f W) hp => h.keep (by have := HK.out; omega) hj HC.out.1 hp)
          have HDR := Aside0.mk (fun W (h : Mid p l G cap i.toNat j.toNat f W) hp => h.drop hj hp)
          have HBI := Aside0.mk (show i.toNat * 3 + 2 < cap * 3 from by have := HK.out; omega)
          have i2 : i < (l.length : Int) := by have := HK.out; omega
          have cb : decide (j < (l.length : Int)) = true := decide_eq_true hlt
          have q1 : (j < (l.length : Int)) = True := eq_true hlt
          clear hA hb hj
          have HQ : ∀ W, Below w0.heap.size w0 W → Aside0 (Calls Try.prog g (#[encH (l.getD j.toNat z119)] ++ lb) W fun e w' => e = .returned (.bool (p (l.getD j.toNat z119))) ∧ Below W.heap.size W w') := fun W hb => ⟨HP.out W _ hb⟩
          have HQ' := Aside0.mk HQ
          clear HQ
          generalize hy : l.getD j.toNat z119 = y at h0 h1 h2 HKP HDR HQ'
          have HY := Aside0.mk hy
          clear hy hlt
          cases hp : p y with
          | true =>
            have HPY := Aside0.mk hp
            rw [hp] at HQ'
            clear hp
            go_wp2_with (go_at_fn g; refine (HQ'.out _ (below_then BW.out BW.out.size (by repeat (first | exact Below.refl _ _ | apply below_alloc)))).out.mono ?_; rintro e w2 ⟨rfl, hb2⟩; have HB2 := Aside0.mk hb2; clear hb2)
            go_roundg (l.length - (j.toNat + 1))
            case measure => have := HK.out; have := HLT.out; omega
            case rel =>
              have hbw : Below wr.heap.size wr w2 := bt (by repeat (first | exact Below.refl _ _ | apply below_alloc)) HB2.out
              exact ⟨i, j + 1, f, rfl, rfl, ⟨by have := HK.out; have := HLT.out; omega⟩, ⟨below_then BW.out BW.out.size hbw⟩, ⟨by rw [show (j + 1).toNat = j.toNat + 1 from by omega]; exact HDR.out w2 (HM.out.move hbw) HPY.out⟩⟩
          | false =>
            have HPY := Aside0.mk hp
            rw [hp] at HQ'
            clear hp
            go_wp2_with (go_at_fn g; refine (HQ'.out _ (below_then BW.out BW.out.size (by repeat (first | exact Below.refl _ _ | apply below_alloc)))).out.mono ?_; rintro e w2 ⟨rfl, hb2⟩; have hbw : Below wr.heap.size wr w2 := bt (by repeat (first | exact Below.refl _ _ | apply below_alloc)) hb2; have HM2 := Aside0.mk (HM.out.move hbw); have BW2 := Aside0.mk (below_then BW.out BW.out.size hbw); have r0 : w2.cell? ⟨G, i.toNat * 3, none⟩ = some (f (i.toNat * 3)) := HM2.out.row.cell (by have := HBI.out; omega); have r1 : w2.cell? ⟨G, i.toNat * 3 + 1, none⟩ = some (f (i.toNat * 3 + 1)) := HM2.out.row.cell (by have := HBI.out; omega); have r2 : w2.cell? ⟨G, i.toNat * 3 + 2, none⟩ = some (f (i.toNat * 3 + 2)) := HM2.out.row.cell (by have := HBI.out; omega); have z0 := HM2.out.row.free (i.toNat * 3); have z1 := HM2.out.row.free (i.toNat * 3 + 1); have z2 := HM2.out.row.free (i.toNat * 3 + 2); have d0 : w2.cell? ⟨wr.heap.size, 0, none⟩ = some (.int .u8 y.f0) := (hb2.cell (p := ⟨wr.heap.size, 0, none⟩) (by simp)).trans (by go_simp); have d1 : w2.cell? ⟨wr.heap.size, 1, none⟩ = some (.int .i64 y.f1) := (hb2.cell (p := ⟨wr.heap.size, 1, none⟩) (by simp)).trans (by go_simp); have d2 : w2.cell? ⟨wr.heap.size, 2, none⟩ = some (.bool y.f2) := (hb2.cell (p := ⟨wr.heap.size, 2, none⟩) (by simp)).trans (by go_simp); clear hb2 hbw)
            go_roundg (l.length - (j.toNat + 1))
            case measure => have := HK.out; have := HLT.out; omega
            case rel =>
              exact ⟨i + 1, j + 1, _, rfl, rfl, ⟨by have := HK.out; have := HLT.out; omega⟩, ⟨below_put BW2.out HG.out _ _ _ _ _ _⟩, ⟨by rw [show (i + 1).toNat = i.toNat + 1 from by omega, show (j + 1).toNat = j.toNat + 1 from by omega]; exact HKP.out w2 HM2.out HPY.out⟩⟩
        · have cb : decide (j < (l.length : Int)) = false := decide_eq_false hlt
          have hjl : j.toNat = l.length := by have := HK.out; omega
          have i2 : i < (l.length : Int) := by have := HK.out; omega
          have hne : ¬ cap = i.toNat := by have := HC.out.1; omega
          have i3 : i.toNat ≤ cap := by have := HC.out.1; omega
          obtain ⟨cur, hrun, vs, hvs, hrow⟩ := HM.out.row.clear (P := Try.prog) (k := 3) (t := 51) 0 (.agg #[.int .u8 0, .int .i64 0, .bool false]) Try.underlying51 zeroH rfl oneH (i.toNat * 3) (l.length - i.toNat) (cap - i.toNat) (by have := HC.out.1; omega)
          have HFIN : Aside0 (Kd.R k119 119 (wr.setRow G cur) w0.heap.size (fun _ => True) (.slice (some ⟨G, 0, none⟩) (keep p l).length cap) (keep p l) ∧ (keep p l).length = i.toNat) := by
            have e : l.take j.toNat = l := by rw [hjl, List.take_length]
            have hlen := HM.out.len
            rw [e] at hlen
            refine ⟨⟨row_own flatK (fun _ => trivial) HG.out (by rw [hlen]; exact i3) HC.out.2.1 hrow (atH_to fun a ha => ?_), hlen⟩⟩
            have hn := HM.out.new a (by omega)
            rw [e] at hn
            exact at_updL hn (.inl (by omega))
          have HBF := Aside0.mk (below_set_row BW.out HG.out cur)
          have HIT := Aside0.mk (show i = ((keep p l).length : Int) from by rw [HFIN.out.2]; omega)
          clear hrow hvs hlt hjl HM
          go_wp2
          go_ret
          exact ⟨.slice (some ⟨G, 0, none⟩) (keep p l).length cap, by rw [HFIN.out.2]; rfl, HFIN.out.1, HBF.out⟩
end Go.Proofs.Ytolpcfjmhimpeaa.H

namespace Go.Proofs.Ytolpcfjmhimpeaa.H
open Go.RowKit Go.Proofs.YtolpcfjmhimpeaaW.PrintWords Go.Proofs.YtolpcfjmhimpeaaW.PrintLast Go.Proofs.Ytolpcfjmhimpeaa.P
set_option linter.unusedVariables false
set_option linter.unusedSimpArgs false

def ofTx (tx : Int) (h : S119) : Bool := h.f1 == tx
def freeF (l : List S119) (tx : Int) : Option (List S119) := if l.length ≤ 5864062014805 then some (keep (ofTx tx) l) else none

set_option maxRecDepth 100000 in
set_option maxHeartbeats 1000000 in
theorem freeC (x : S119) (tx : Int) (b1 : Nat) (W : World) (h1 : W.cell? ⟨b1, 0, none⟩ = some (.int .i64 tx)) :
    Calls Try.prog 76 #[encH x, .pointer (some ⟨b1, 0, none⟩)] W fun e w' => e = .returned (.bool (ofTx tx x)) ∧ Below W.heap.size W w' := by
  have hb1 := World.block_lt_of_cell? W _ h1
  have g1 : ∀ o, (W.alloc o).cell? ⟨b1, 0, none⟩ = some (.int .i64 tx) := fun o => by rw [← h1]; exact ((Below.refl W.heap.size W).alloc (Nat.le_refl _) o).cell hb1
  clear h1 hb1
  obtain ⟨x0, x1, x2⟩ := x
  unfold encH ofTx
  have HB := fun o => Aside0.mk ((Below.refl W.heap.size W).alloc (Nat.le_refl _) o)
  go_enter Try.func76, Try.ntmps76
  go_wp2
  go_ret
  exact ⟨by first | rfl | (simp; done), (HB _).out⟩

set_option maxRecDepth 100000 in
set_option maxHeartbeats 1000000 in
theorem free_calls (A0 : Option Addr) (c0 : Nat) (l0 : List (S119)) (a1 : Int) (r : List (S119)) (w : World) (hr0 : Kd.C k119 w A0 l0.length l0) (hc0 : l0.length ≤ c0) (h : freeF l0 a1 = some r) :
    Calls Try.prog 52 #[.slice A0 l0.length c0, .int .i64 a1] w fun e w' => ∃ v0_ : Value, e = .returned (v0_) ∧ Kd.R k119 119 w' w.heap.size (fun _ => True) v0_ r ∧ Below w.heap.size w w' := by
  have hl : l0.length ≤ 5864062014805 := by
    unfold freeF at h
    split at h
    · assumption
    · cases h
  have hr : r = keep (ofTx a1) l0 := by
    unfold freeF at h
    rw [if_pos hl] at h
    injection h with h
    exact h.symm
  have H := Aside0.mk hr
  have HR := Aside0.mk hr0
  have HL := Aside0.mk hl
  have hbig := hr0.2.1
  clear h hl hr hr0 hc0
  have eg := enters_of Try.func76 (by kernel_rfl) rfl
  have HA : Aside0 (Below w.heap.size w (w.alloc (.cells #[.int .i64 a1] 3))) := ⟨below_alloc (Below.refl _ _) _⟩
  have HC := Aside0.mk (clone_calls A0 c0 l0 (w.alloc (.cells #[.int .i64 a1] 3)) (Kd.C_below HR.out HA.out) HL.out)
  have HD := Aside0.mk (fun v W (hb : Below (w.alloc (.cells #[.int .i64 a1] 3)).heap.size (w.alloc (.cells #[.int .i64 a1] 3)) W) (ho : Kd.R k119 119 W (w.alloc (.cells #[.int .i64 a1] 3)).heap.size (fun _ => True) v l0) =>
    deleteFunc (ofTx a1) 76 #[.pointer (some ⟨w.heap.size, 0, none⟩)] eg l0 v _ W hb (fun W' x hb' => freeC x a1 w.heap.size W' ((hb'.cell (p := ⟨w.heap.size, 0, none⟩) (by simp)).trans (by go_simp))) ho HL.out)
  go_enter Try.func52, Try.ntmps52
  go_wp2_with (first | (go_at_call 62; refine HC.out.mono ?_; rintro e w1 ⟨v1, rfl, hR1, hb1⟩; have HR1 := Aside0.mk hR1; have HB1 := Aside0.mk hb1; clear hR1 hb1) | (go_at_call 75; refine (HD.out _ _ HB1.out HR1.out).mono ?_; rintro e w2 ⟨v2, rfl, hR2, hb2⟩; have HR2 := Aside0.mk hR2; have HB2 := Aside0.mk hb2; clear hR2 hb2))
  go_ret
  exact ⟨v2, rfl, by rw [H.out]; exact Kd.R_lower HR2.out (by simp), below_then HA.out (by simp) HB2.out⟩
end Go.Proofs.Ytolpcfjmhimpeaa.H

namespace Go.Proofs.Ytolpcfjmhimpeaa.H
open Go.RowKit Go.Proofs.YtolpcfjmhimpeaaW.PrintWords Go.Proofs.YtolpcfjmhimpeaaW.PrintLast Go.Proofs.Ytolpcfjmhimpeaa.P
set_option linter.unusedVariables false
set_option linter.unusedSimpArgs false

def insH (l : List S119) (i : Nat) (x : S119) : List S119 := l.take i ++ x :: l.drop i
theorem insH_len (l : List S119) (i : Nat) (x : S119) (hi : i ≤ l.length) : (insH l i x).length = l.length + 1 := by simp [insH]; omega
theorem insH_lt (l : List S119) (i : Nat) (x : S119) (hi : i ≤ l.length) (a : Nat) (ha : a < i) : (insH l i x).getD a z119 = l.getD a z119 := by
  simp only [insH, List.getD_eq_getElem?_getD]
  rw [List.getElem?_append_left (by simp; omega), List.getElem?_take, if_pos ha]
theorem insH_eq (l : List S119) (i : Nat) (x : S119) (hi : i ≤ l.length) : (insH l i x).getD i z119 = x := by
  simp only [insH, List.getD_eq_getElem?_getD]
  rw [List.getElem?_append_right (by simp; omega), List.length_take, show i - min i l.length = 0 from by omega]
  rfl
theorem insH_gt (l : List S119) (i : Nat) (x : S119) (hi : i ≤ l.length) (a : Nat) (ha : i < a) : (insH l i x).getD a z119 = l.getD (a - 1) z119 := by
  simp only [insH, List.getD_eq_getElem?_getD]
  rw [List.getElem?_append_right (by simp; omega), List.length_take, show a - min i l.length = (a - 1 - i) + 1 from by omega, List.getElem?_cons_succ, List.getElem?_drop, show i + (a - 1 - i) = a - 1 from by omega]

theorem at_seg {f f' : Nat → Value} {s m o a : Nat} {y : S119} (h : AtH f (s + (a - o)) y) (h1 : o ≤ a) (h2 : a < o + m) : AtH (updL f' (o * 3) (seg f (s * 3) (m * 3))) a y := by
  constructor
  · rw [updL_in _ _ _ _ (by omega) (by rw [seg_len]; omega), seg_getD _ _ _ _ (by omega), show s * 3 + (a * 3 - o * 3) = (s + (a - o)) * 3 from by omega]; exact h.c0
  · rw [updL_in _ _ _ _ (by omega) (by rw [seg_len]; omega), seg_getD _ _ _ _ (by omega), show s * 3 + (a * 3 + 1 - o * 3) = (s + (a - o)) * 3 + 1 from by omega]; exact h.c1
  · rw [updL_in _ _ _ _ (by omega) (by rw [seg_len]; omega), seg_getD _ _ _ _ (by omega), show s * 3 + (a * 3 + 2 - o * 3) = (s + (a - o)) * 3 + 2 from by omega]; exact h.c2
theorem at_cells (f : Nat → Value) (i : Nat) (x : S119) : AtH (updL f (i * 3) (cellsH x)) i x := by
  constructor
  · rw [updL_in _ _ _ _ (by omega) (by simp [cellsH])]; simp [cellsH]
  · rw [updL_in _ _ _ _ (by omega) (by simp [cellsH])]; simp [cellsH]
  · rw [updL_in _ _ _ _ (by omega) (by simp [cellsH])]; simp [cellsH]

/-- In place: the elements from i on go up by one, then x is laid at i. -/
theorem ins_place {W : World} {base G cap : Nat} {f : Nat → Value} {l : List S119} {i : Nat} {x : S119} (hb : base ≤ G) (hi : i < l.length) (hc : l.length + 1 ≤ cap) (hm : cap ≤ maxLen)
    (h : Row W G 119 (cap * 3) (updL (updL f ((i + 1) * 3) (seg f (i * 3) ((l.length - i) * 3))) (i * 3) (cellsH x))) (hf : ∀ a, a < l.length → AtH f a (l.getD a z119)) :
    Kd.R k119 119 W base (fun _ => True) (.slice (some ⟨G, 0, none⟩) (l.length + 1) cap) (insH l i x) := by
  rw [← insH_len l i x (by omega)]
  refine row_own flatK (fun _ => trivial) hb (by rw [insH_len l i x (by omega)]; exact hc) hm h (atH_to fun a ha => ?_)
  rw [insH_len l i x (by omega)] at ha
  by_cases h1 : a < i
  · rw [insH_lt l i x (by omega) a h1]
    exact at_updL (at_updL (hf a (by omega)) (.inl (by omega))) (.inl (by omega))
  · by_cases h2 : a = i
    · subst h2
      rw [insH_eq l a x (by omega)]
      exact at_cells _ _ _
    · rw [insH_gt l i x (by omega) a (by omega)]
      refine at_updL (at_seg ?_ (by omega) (by omega)) (.inr (by simp [cellsH]; omega))
      rw [show i + (a - (i + 1)) = a - 1 from by omega]
      exact hf (a - 1) (by omega)
/-- In a new row. -/
theorem ins_new {W : World} {base G cap : Nat} {f f' : Nat → Value} {l : List S119} {i : Nat} {x : S119} (hb : base ≤ G) (hi : i < l.length) (hc : l.length + 1 ≤ cap) (hm : cap ≤ maxLen)
    (h : Row W G 119 (cap * 3) (updL (updL f' (i * 3) (cellsH x)) ((i + 1) * 3) (seg f (i * 3) ((l.length - i) * 3)))) (hf : ∀ a, a < l.length → AtH f a (l.getD a z119)) (hf' : ∀ j, j < i * 3 → f' j = f j) :
    Kd.R k119 119 W base (fun _ => True) (.slice (some ⟨G, 0, none⟩) (l.length + 1) cap) (insH l i x) := by
  rw [← insH_len l i x (by omega)]
  refine row_own flatK (fun _ => trivial) hb (by rw [insH_len l i x (by omega)]; exact hc) hm h (atH_to fun a ha => ?_)
  rw [insH_len l i x (by omega)] at ha
  by_cases h1 : a < i
  · rw [insH_lt l i x (by omega) a h1]
    refine at_updL (at_updL ?_ (.inl (by omega))) (.inl (by omega))
    have := hf a (by omega)
    exact ⟨by rw [hf' _ (by omega)]; exact this.c0, by rw [hf' _ (by omega)]; exact this.c1, by rw [hf' _ (by omega)]; exact this.c2⟩
  · by_cases h2 : a = i
    · subst h2
      rw [insH_eq l a x (by omega)]
      exact at_updL (at_cells _ _ _) (.inl (by omega))
    · rw [insH_gt l i x (by omega) a (by omega)]
      refine at_seg ?_ (by omega) (by omega)
      rw [show i + (a - (i + 1)) = a - 1 from by omega]
      exact hf (a - 1) (by omega)

theorem cellsH_one (x : S119) : ∀ v ∈ cellsH x, v.oneCell' = true := by
  intro u hu
  simp [cellsH] at hu
  rcases hu with rfl | rfl | rfl <;> rfl

set_option maxRecDepth 100000 in
set_option maxHeartbeats 2000000 in
/-- Behind the last one. -/
theorem insert_end (l : List S119) (v : Value) (x : S119) (vb : Nat) (w0 w : World) (hB : Below w0.heap.size w0 w) (HO : Kd.R k119 119 w w0.heap.size (fun _ => True) v l) (hx : w.heap[vb]? = some (.cells (cellsH x).toArray 119 (0, 0))) (hl : l.length + 1 ≤ 5864062014805) :
    Calls Try.prog 67 #[v, .int .i64 (l.length : Int), .slice (some ⟨vb, 0, none⟩) 1 1] w fun e w' => ∃ v1, e = .returned v1 ∧ Kd.R k119 119 w' w0.heap.size (fun _ => True) v1 (insH l l.length x) ∧ Below w0.heap.size w0 w' := by
  obtain ⟨A, c, hv, hlc, hC⟩ := Kd.R_reads HO
  have HH : Aside0 (∃ v1 w1, (Builtin.append_ #[51, 50] 51 #[v, .slice (some ⟨vb, 0, none⟩) 1 1]).run Try.prog w = .ok v1 w1 ∧ Kd.R k119 119 w1 w0.heap.size (fun _ => True) v1 (insH l l.length x) ∧ Below w0.heap.size w0 w1) := by
    refine ⟨?_⟩
    obtain ⟨i0, hi, hzz⟩ := Option.map_eq_some_iff.1 infoH
    simp only [Prod.mk.injEq] at hzz
    obtain ⟨hz0, hz1, hz2⟩ := hzz
    obtain ⟨hok, inner, hown, hr⟩ := HO
    obtain ⟨v1, w1, hrun, h2, hg, _, hat⟩ := run_append_own_at (P := Try.prog) w w0.heap.size 51 51 119 i0 _ 3 24 Try.underlying51 hi hz0 hz1 hz2 rfl (by omega) v l.length inner hown ⟨vb, 0, none⟩ 1 1 (cellsH x) rfl (fun j u hj => by rw [add_plain]; simp only [World.cell?, hx]; simpa using hj) (cellsH_one x) (by simp only [maxLen]; omega) (by omega) hB.size
    refine ⟨v1, w1, ?_, ⟨fun _ _ => trivial, inner ++ cellsH x, by rw [insH_len l l.length x (Nat.le_refl _)]; exact h2, ?_⟩, hB.grown hg hB.size (own_base hown)⟩
    · rw [hv]
      rw [append_tu Try.underlying51 Try.underlying50 hi, ← hv]
      exact hrun
    · have hins : insH l l.length x = l ++ [x] := by simp [insH]
      rw [hins]
      have h1 : Reps (k119.M w1 w0.heap.size (fun k => True ∧ some k ≠ v1.ownBlock)) 3 l inner := hr.imp_ (fun p c hp => by rw [k119_openM hp]; exact k119_mkM _ _ _ _)
      exact Reps.snoc h1 (k119_mkM _ _ _ x) rfl
  clear hC HO hB hx
  have HV := Aside0.mk hv
  subst hv
  have b0 : (l.length : Int) ≤ 5864062014805 := by omega
  have q0 : ((1 : Int) == 0) = false := rfl
  have q1 : ((l.length : Int) == (l.length : Int)) = true := by simp
  go_enter Try.func67, Try.ntmps67
  obtain ⟨v1, w1, hrun, hR, hBw⟩ := HH.out
  have HR1 := Aside0.mk hR
  have HB1 := Aside0.mk hBw
  clear hR hBw HH
  go_wp2_with (at_builtin; refine Lib.wpList_append_run _ rfl _ _ _ _ rfl _ _ rfl rfl _ _ hrun ?_)
  all_goals (go_ret; exact ⟨v1, rfl, HR1.out, HB1.out⟩)
end Go.Proofs.Ytolpcfjmhimpeaa.H

namespace Go.Proofs.Ytolpcfjmhimpeaa.H
open Go.RowKit Go.Proofs.YtolpcfjmhimpeaaW.PrintWords Go.Proofs.YtolpcfjmhimpeaaW.PrintLast Go.Proofs.Ytolpcfjmhimpeaa.P
set_option linter.unusedVariables false
set_option linter.unusedSimpArgs false

theorem sizeH : (Try.prog.info? 119).map (·.size) = some 3 := by kernel_rfl
theorem sizeOfH : ∀ w, (Go.sizeOf 119).run Try.prog w = .ok 3 w := fun w => by kernel_rfl

theorem overlaps_no (w : World) (G vb o m vc lb cb N : Nat) (f : Nat → Value) (x : S119) (hne : vb ≠ G) (h : Row w G 119 N f) (hN : 0 < N) (hx : w.heap[vb]? = some (.cells (cellsH x).toArray 119 (0, 0))) :
    (callFunc 87 #[.slice (some ⟨vb, 0, none⟩) m vc, .slice (some ⟨G, o, none⟩) lb cb]).run Try.prog w = .ok (.value (.bool false)) w := by
  obtain ⟨cur, hg, hs, hc⟩ := h
  have h1 : w.shape? vb = some (119, 3) := by simp [World.shape?, hx, cellsH]
  have h2 : w.shape? G = some (119, N) := by simp [World.shape?, hg, hs]
  rw [run_callFunc_extern Try.func87 (by kernel_rfl) (by kernel_rfl) (by kernel_rfl) (e := Extern.SlicesOverlaps.overlaps #[50, 50] #[4]) (by kernel_rfl),
    Lib.run_overlaps_apart w 50 4 119 Try.underlying50 3 sizeOfH ⟨vb, 0, none⟩ ⟨G, o, none⟩ m vc lb cb hne 119 119 3 N h1 h2 (by omega) (by simp [World.frozen?, hx]) (by simp [World.frozen?, hx])]
  rfl

set_option maxRecDepth 100000 in
set_option maxHeartbeats 4000000 in
/-- In the row, there being room. -/
theorem insert_place (l : List S119) (G cap i vb : Nat) (f : Nat → Value) (x : S119) (w0 w : World) (hB : Below w0.heap.size w0 w) (hG : w0.heap.size ≤ G) (hi : i < l.length) (hc : l.length + 1 ≤ cap) (hm : cap ≤ maxLen) (hne : vb ≠ G)
    (hrow : Row w G 119 (cap * 3) f) (hf : ∀ a, a < l.length → AtH f a (l.getD a z119)) (hx : w.heap[vb]? = some (.cells (cellsH x).toArray 119 (0, 0))) (hl : l.length + 1 ≤ 5864062014805) :
    Calls Try.prog 67 #[.slice (some ⟨G, 0, none⟩) l.length cap, .int .i64 (i : Int), .slice (some ⟨vb, 0, none⟩) 1 1] w fun e w' => ∃ v1, e = .returned v1 ∧ Kd.R k119 119 w' w0.heap.size (fun _ => True) v1 (insH l i x) ∧ Below w0.heap.size w0 w' := by
  have hov := fun lb cb => overlaps_no w G vb ((i + 1) * 3) 1 1 lb cb (cap * 3) f x hne hrow (by omega) hx
  have hseg1 : ∀ v ∈ seg f (i * 3) ((l.length - i) * 3), v.oneCell' = true := by
    intro v hv
    obtain ⟨j, hj, rfl⟩ := List.mem_iff_getElem.1 hv
    rw [seg_len] at hj
    obtain ⟨_, h2⟩ := seg_get f (i * 3) ((l.length - i) * 3) j _ (List.getElem?_eq_getElem (by rw [seg_len]; exact hj))
    rw [h2]
    have ha := hf (i + j / 3) (by omega)
    have e : i * 3 + j = (i + j / 3) * 3 + j % 3 := by omega
    rw [e]
    rcases (show j % 3 = 0 ∨ j % 3 = 1 ∨ j % 3 = 2 by omega) with h | h | h <;> rw [h]
    · show (f ((i + j / 3) * 3)).oneCell' = true; rw [ha.c0]; rfl
    · rw [ha.c1]; rfl
    · rw [ha.c2]; rfl
  obtain ⟨cur1, hrun1, hrow1⟩ := (hrow.drew).copy (P := Try.prog) (k := 3) 51 51 3 ((i + 1) * 3) (l.length - i) (cap - (i + 1)) ⟨G, i * 3, none⟩ (l.length + 1 - i) (cap - i) (seg f (i * 3) ((l.length - i) * 3)) Try.underlying51 sizeH
    (by rw [seg_len]; congr 1; simp only [Nat.min_def]; split <;> omega)
    (fun j v hj => by obtain ⟨h1, h2⟩ := seg_get _ _ _ _ _ hj; rw [h2, show (⟨G, i * 3, none⟩ : Addr).add j = ⟨G, i * 3 + j, none⟩ from by unfold Addr.add; split <;> simp_all]; exact hrow.drew.cell (by omega))
    (by rw [seg_len]; omega) hseg1
  have hvx : (w.drew.setRow G cur1).heap[vb]? = some (.cells (cellsH x).toArray 119 (0, 0)) := by rw [setRow_other _ _ _ _ hne]; exact hx
  obtain ⟨cur2, hrun2, hrow2⟩ := hrow1.copy (P := Try.prog) (k := 3) 51 50 3 (i * 3) (l.length + 1 - i) (cap - i) ⟨vb, 0, none⟩ 1 1 (cellsH x) Try.underlying51 sizeH
    (by rw [show Nat.min 1 (l.length + 1 - i) = 1 from by simp only [Nat.min_def]; rw [if_pos (by omega)]]; rfl)
    (fun j v hj => by rw [add_plain]; simp only [World.cell?, hvx]; simpa using hj) (by simp [cellsH]; omega) (cellsH_one x)
  have HR := Aside0.mk (ins_place hG hi hc hm hrow2 hf)
  have HB := Aside0.mk (below_set_row (below_set_row (below_drew hB) hG cur1) hG cur2)
  have H1 := Aside0.mk hrun1
  have H2 := Aside0.mk hrun2
  have b1 : (i : Int) < (l.length : Int) := by omega
  have b2 : (l.length : Int) < (cap : Int) := by omega
  have b3 : (l.length : Int) ≤ 5864062014804 := by omega
  have q0 : ((1 : Int) == 0) = false := rfl
  have d1 : decide ((cap : Int) < (l.length : Int) + 1) = false := decide_eq_false (by omega)
  have q1 : ((i : Int) == (l.length : Int)) = false := by rw [beq_eq_false_iff_ne]; omega
  have t1 : ((i : Int) + 1).toNat = i + 1 := by omega
  have t2 : ((l.length : Int) + 1).toNat = l.length + 1 := by omega
  have n1 : ¬ cap = i := by omega
  have n2 : ¬ cap = i + 1 := by omega
  have n3 : i ≤ l.length := by omega
  have n4 : l.length < cap := hc
  clear hB hrow hf hx hrun1 hrun2 hrow1 hrow2 hseg1 hvx hm hl hG hc hi
  go_enter Try.func67, Try.ntmps67
  go_wp2_with (simp only [hov])
  have w1 : IntKind.i64.wrap ((i : Int) + 1) = (i : Int) + 1 := by rw [IntKind.wrap_i64]; omega
  have w2 : (0 : Int) ≤ (i : Int) + 1 := by omega
  have w3 : (i : Int) ≤ (l.length : Int) := by omega
  have w4 : (i : Int) ≤ (l.length : Int) + 1 := by omega
  have w5 : (i : Int) + 1 ≤ (l.length : Int) + 1 := by omega
  go_region_law (refine step_copy_is rfl _ _ 51 51 rfl _ _ (by simp [Act.eval, Act.put]) (by simp [Act.eval, Act.put]) H1.out ?_)
  go_wp2_with ((with_reducible refine gate_builtin (b := .copy) (xs := #[.tmp 80, .tmp 81]) rfl ?_); refine wpList_copy_is _ rfl _ _ 51 50 rfl _ _ rfl rfl H2.out ?_)
  go_ret
  exact ⟨_, rfl, HR.out, HB.out⟩
end Go.Proofs.Ytolpcfjmhimpeaa.H

namespace Go.Proofs.Ytolpcfjmhimpeaa.H
open Go.RowKit Go.Proofs.YtolpcfjmhimpeaaW.PrintWords Go.Proofs.YtolpcfjmhimpeaaW.PrintLast Go.Proofs.Ytolpcfjmhimpeaa.P
set_option linter.unusedVariables false
set_option linter.unusedSimpArgs false

theorem seg_one {f : Nat → Value} {l : List S119} (hf : ∀ a, a < l.length → AtH f a (l.getD a z119)) (i : Nat) (hi : i < l.length) : ∀ v ∈ seg f (i * 3) ((l.length - i) * 3), v.oneCell' = true := by
  intro v hv
  obtain ⟨j, hj, rfl⟩ := List.mem_iff_getElem.1 hv
  rw [seg_len] at hj
  obtain ⟨_, h2⟩ := seg_get f (i * 3) ((l.length - i) * 3) j _ (List.getElem?_eq_getElem (by rw [seg_len]; exact hj))
  rw [h2]
  have ha := hf (i + j / 3) (by omega)
  have e : i * 3 + j = (i + j / 3) * 3 + j % 3 := by omega
  rw [e]
  rcases (show j % 3 = 0 ∨ j % 3 = 1 ∨ j % 3 = 2 by omega) with h | h | h <;> rw [h]
  · show (f ((i + j / 3) * 3)).oneCell' = true; rw [ha.c0]; rfl
  · rw [ha.c1]; rfl
  · rw [ha.c2]; rfl

set_option maxRecDepth 100000 in
set_option maxHeartbeats 4000000 in
/-- In a new row, there being no room. -/
theorem insert_grow (l : List S119) (G cap i vb : Nat) (f : Nat → Value) (x : S119) (w0 w : World) (hB : Below w0.heap.size w0 w) (hG : w0.heap.size ≤ G) (hi : i < l.length) (hc0 : l.length ≤ cap) (hc : cap < l.length + 1)
    (hrow : Row w G 119 (cap * 3) f) (hf : ∀ a, a < l.length → AtH f a (l.getD a z119)) (hx : w.heap[vb]? = some (.cells (cellsH x).toArray 119 (0, 0))) (hl : l.length + 1 ≤ 5864062014805) :
    Calls Try.prog 67 #[.slice (some ⟨G, 0, none⟩) l.length cap, .int .i64 (i : Int), .slice (some ⟨vb, 0, none⟩) 1 1] w fun e w' => ∃ v1, e = .returned v1 ∧ Kd.R k119 119 w' w0.heap.size (fun _ => True) v1 (insH l i x) ∧ Below w0.heap.size w0 w' := by
  obtain rfl : cap = l.length := by omega
  have hvb : vb < w.heap.size := (Array.getElem?_eq_some_iff.1 hx).1
  obtain ⟨C, W', f', hrunA, hC1, hC2, hBA, hrowA, hold⟩ := append_zeros_grow (P := Try.prog) (t := 51) (tn := 3) hrow 51 .i64 Try.underlying51 Try.underlying3 infoH rfl (by omega) (by omega) i (l.length + 1 - i) (by omega) (by omega) (by omega)
  rw [show i + (l.length + 1 - i) = l.length + 1 from by omega] at hrunA hC1
  rw [show ((l.length + 1 - i : Nat) : Int) = (l.length : Int) + 1 - (i : Int) from by omega] at hrunA
  have hxA : W'.heap[vb]? = some (.cells (cellsH x).toArray 119 (0, 0)) := (hBA.block vb hvb).trans hx
  obtain ⟨cur1, hrun1, hrow1⟩ := hrowA.copy (P := Try.prog) (k := 3) 51 50 3 (i * 3) (l.length + 1 - i) (C - i) ⟨vb, 0, none⟩ 1 1 (cellsH x) Try.underlying51 sizeH
    (by rw [show Nat.min 1 (l.length + 1 - i) = 1 from by simp only [Nat.min_def]; rw [if_pos (by omega)]]; rfl)
    (fun j v hj => by rw [add_plain]; simp only [World.cell?, hxA]; simpa using hj) (by simp [cellsH]; omega) (cellsH_one x)
  have hGne : G ≠ w.heap.size := Nat.ne_of_lt hrow.lt
  have hrowG : Row ((W'.setRow w.heap.size cur1).drew) G 119 (l.length * 3) f := (Row.same (hrow.below hBA) (setRow_other _ _ _ _ hGne)).drew
  obtain ⟨cur2, hrun2, hrow2⟩ := (hrow1.drew).copy (P := Try.prog) (k := 3) 51 51 3 ((i + 1) * 3) (l.length - i) (C - (i + 1)) ⟨G, i * 3, none⟩ (l.length - i) (l.length - i) (seg f (i * 3) ((l.length - i) * 3)) Try.underlying51 sizeH
    (by rw [seg_len, show Nat.min (l.length - i) (l.length - i) = l.length - i from by simp only [Nat.min_def]; split <;> rfl])
    (fun j v hj => by obtain ⟨h1, h2⟩ := seg_get _ _ _ _ _ hj; rw [h2, show (⟨G, i * 3, none⟩ : Addr).add j = ⟨G, i * 3 + j, none⟩ from by unfold Addr.add; split <;> simp_all]; exact hrowG.cell (by omega))
    (by rw [seg_len]; omega) (seg_one hf i hi)
  have HR := Aside0.mk (ins_new hB.size hi hC1 hC2 hrow2 hf hold)
  have HB := Aside0.mk (below_set_row (below_drew (below_set_row (below_then hB hB.size hBA) hB.size cur1)) hB.size cur2)
  have H1 := Aside0.mk hrun1
  have H2 := Aside0.mk hrun2
  have HA := Aside0.mk hrunA
  have b1 : (i : Int) < (l.length : Int) := by omega
  have b3 : (l.length : Int) ≤ 5864062014804 := by omega
  have q0 : ((1 : Int) == 0) = false := rfl
  have q1 : ((i : Int) == (l.length : Int)) = false := by rw [beq_eq_false_iff_ne]; omega
  have d1 : decide ((l.length : Int) < (l.length : Int) + 1) = true := decide_eq_true (by omega)
  have t1 : ((i : Int) + 1).toNat = i + 1 := by omega
  have t2 : ((l.length : Int) + 1).toNat = l.length + 1 := by omega
  have n1 : ¬ l.length = i := by omega
  have n2 : ¬ C = i := by omega
  have n6 : ¬ C = i + 1 := by omega
  have n3 : i ≤ l.length := by omega
  have n4 : l.length < C := hC1
  have n7 : i ≤ C := by omega
  clear hB hrow hf hx hrun1 hrun2 hrow1 hrow2 hxA hl hG hi hc hc0 hrunA hC1 hC2 hBA hrowA hold hrowG hGne hvb
  go_enter Try.func67, Try.ntmps67
  go_wp2_with (first | ((with_reducible refine gate_builtin (b := .append) (xs := #[.tmp 34, .tmp 39]) rfl ?_); refine Lib.wpList_append_run _ rfl _ _ _ _ rfl _ _ rfl rfl _ _ HA.out ?_) | ((with_reducible refine gate_builtin (b := .copy) (xs := #[.tmp 43, .tmp 44]) rfl ?_); refine wpList_copy_is _ rfl _ _ 51 50 rfl _ _ rfl rfl H1.out ?_))
  have w1 : IntKind.i64.wrap ((i : Int) + 1) = (i : Int) + 1 := by rw [IntKind.wrap_i64]; omega
  have w2 : (0 : Int) ≤ (i : Int) + 1 := by omega
  have w3 : (i : Int) ≤ (l.length : Int) := by omega
  have w4 : (i : Int) ≤ (l.length : Int) + 1 := by omega
  go_region_law (refine step_copy_is rfl _ _ 51 51 rfl _ _ (by simp [Act.eval, Act.put]) (by simp [Act.eval, Act.put]) H2.out ?_)
  go_wp2
  go_ret
  exact ⟨_, rfl, HR.out, HB.out⟩
end Go.Proofs.Ytolpcfjmhimpeaa.H

namespace Go.Proofs.Ytolpcfjmhimpeaa.H
open Go.RowKit Go.Proofs.YtolpcfjmhimpeaaW.PrintWords Go.Proofs.YtolpcfjmhimpeaaW.PrintLast Go.Proofs.Ytolpcfjmhimpeaa.P
set_option linter.unusedVariables false
set_option linter.unusedSimpArgs false

theorem insert_calls (l : List S119) (v : Value) (i vb : Nat) (x : S119) (w0 w : World) (hB : Below w0.heap.size w0 w) (HO : Kd.R k119 119 w w0.heap.size (fun _ => True) v l) (hi : i ≤ l.length) (hne : v.ownBlock ≠ some vb)
    (hx : w.heap[vb]? = some (.cells (cellsH x).toArray 119 (0, 0))) (hl : l.length + 1 ≤ 5864062014805) :
    Calls Try.prog 67 #[v, .int .i64 (i : Int), .slice (some ⟨vb, 0, none⟩) 1 1] w fun e w' => ∃ v1, e = .returned v1 ∧ Kd.R k119 119 w' w0.heap.size (fun _ => True) v1 (insH l i x) ∧ Below w0.heap.size w0 w' := by
  by_cases he : i = l.length
  · subst he
    exact insert_end l v x vb w0 w hB HO hx hl
  · rcases own_row flatK HO with ⟨rfl, rfl⟩ | ⟨G, cap, f, rfl, hG, hc, hm, hrow, hf⟩
    · simp at hi he; omega
    · have hne' : vb ≠ G := fun e => hne (by simp [Value.ownBlock, e])
      by_cases hcc : l.length + 1 ≤ cap
      · exact insert_place l G cap i vb f x w0 w hB hG (by omega) hcc hm hne' hrow (atH_of hf) hx hl
      · exact insert_grow l G cap i vb f x w0 w hB hG (by omega) hc (by omega) hrow (atH_of hf) hx hl

def confl (tx key : Int) (wr : Bool) (h : S119) : Bool := h.f0 == key && h.f1 != tx && (wr || h.f2)
def spot (l : List S119) (x : S119) : Int := bs (lessH l x) l.length 0 l.length
def found (l : List S119) (x : S119) : Bool := decide (spot l x < (l.length : Int)) && ordI (rd_T119 l (spot l x)) x == 0
def takeP (l : List S119) (tx key : Int) (wr : Bool) : List S119 × Int :=
  if right l = false then (l, 2) else if mayB tx key = false then (l, 2) else if l.any (confl tx key wr) = true then (l, 9) else
  if found l ⟨key, tx, wr⟩ = true then (l.set (spot l ⟨key, tx, wr⟩).toNat ⟨(rd_T119 l (spot l ⟨key, tx, wr⟩)).f0, (rd_T119 l (spot l ⟨key, tx, wr⟩)).f1, (rd_T119 l (spot l ⟨key, tx, wr⟩)).f2 || wr⟩, 0)
  else (insH l (spot l ⟨key, tx, wr⟩).toNat ⟨key, tx, wr⟩, 0)
def takeF (l : List S119) (tx key : Int) (wr : Bool) : Option (List S119 × Int) := if l.length + 1 ≤ 5864062014805 then some (takeP l tx key wr) else none

set_option maxRecDepth 100000 in
set_option maxHeartbeats 4000000 in
theorem take_bad (A : Option Addr) (c : Nat) (l : List S119) (tx key : Int) (wr : Bool) (w : World) (hr : Kd.C k119 w A l.length l) (hc : l.length ≤ c) (hl : l.length + 1 ≤ 5864062014805) (h : right l = false ∨ right l = true ∧ mayB tx key = false) :
    Calls Try.prog 46 #[.slice A l.length c, .int .i64 tx, .int .u8 key, .bool wr] w fun e w' => ∃ v0_ : Value, e = .returned (.tuple #[v0_, .int .i64 2]) ∧ Kd.R k119 119 w' w.heap.size (fun _ => True) v0_ l ∧ Below w.heap.size w w' := by
  have HC := Aside0.mk (clone_calls A c l w hr (by omega))
  have HRt := Aside0.mk (fun A c W (hr : Kd.C k119 W A l.length l) (hc : l.length ≤ c) => right_calls A c l (right l) W hr hc rfl)
  have HM := Aside0.mk (fun W => may_calls tx key W)
  clear hr hc hl
  rcases h with h | ⟨h, h2⟩
  · rw [h] at HRt
    clear h
    go_enter Try.func46, Try.ntmps46
    go_wp2_with (first | (go_at_call 62; refine HC.out.mono ?_; rintro e w1 ⟨v1, rfl, hR1, hb1⟩; obtain ⟨A1, c1, hv, hlc, hC1⟩ := Kd.R_reads hR1; subst hv; have HR1 := Aside0.mk hR1; have HB1 := Aside0.mk hb1; have HL1 := Aside0.mk hlc; have HC1 := Aside0.mk hC1; clear hR1 hb1 hlc hC1) | (go_at_call 63; refine (HRt.out _ _ _ HC1.out HL1.out).mono ?_; rintro e w2 ⟨rfl, hb2⟩; have HB2 := Aside0.mk hb2; clear hb2))
    go_ret2
    exact ⟨_, rfl, Kd.R_below HR1.out HB2.out, below_then HB1.out HB1.out.size HB2.out⟩
  · rw [h] at HRt
    rw [h2] at HM
    clear h h2
    go_enter Try.func46, Try.ntmps46
    go_wp2_with (first | (go_at_call 62; refine HC.out.mono ?_; rintro e w1 ⟨v1, rfl, hR1, hb1⟩; obtain ⟨A1, c1, hv, hlc, hC1⟩ := Kd.R_reads hR1; subst hv; have HR1 := Aside0.mk hR1; have HB1 := Aside0.mk hb1; have HL1 := Aside0.mk hlc; have HC1 := Aside0.mk hC1; clear hR1 hb1 hlc hC1) | (go_at_call 63; refine (HRt.out _ _ _ HC1.out HL1.out).mono ?_; rintro e w2 ⟨rfl, hb2⟩; have HB2 := Aside0.mk hb2; clear hb2) | (go_at_call 64; refine (HM.out _).mono ?_; rintro e w3 ⟨rfl, hb3⟩; have HB3 := Aside0.mk hb3; clear hb3))
    go_ret2
    exact ⟨_, rfl, Kd.R_below (Kd.R_below HR1.out HB2.out) HB3.out, below_then (below_then HB1.out HB1.out.size HB2.out) (by have := HB1.out.size; have := HB2.out.size; omega) HB3.out⟩
end Go.Proofs.Ytolpcfjmhimpeaa.H

namespace Go.Proofs.Ytolpcfjmhimpeaa.H
open Go.RowKit Go.Proofs.YtolpcfjmhimpeaaW.PrintWords Go.Proofs.YtolpcfjmhimpeaaW.PrintLast Go.Proofs.Ytolpcfjmhimpeaa.P
set_option linter.unusedVariables false
set_option linter.unusedSimpArgs false

theorem any_at {p : S119 → Bool} {l : List S119} {i : Nat} (hi : i < l.length) (h : p (l.getD i z119) = true) : l.any p = true := by
  rw [List.any_eq_true]
  exact ⟨l[i], List.getElem_mem hi, by rwa [List.getD_eq_getElem?_getD, List.getElem?_eq_getElem hi] at h⟩
theorem any_none {p : S119 → Bool} {l : List S119} (h : ∀ i, i < l.length → p (l.getD i z119) = false) : l.any p = false := by
  rw [List.any_eq_false]
  intro x hx
  obtain ⟨i, hi, rfl⟩ := List.mem_iff_getElem.1 hx
  have := h i hi
  rw [List.getD_eq_getElem?_getD, List.getElem?_eq_getElem hi] at this
  simpa using this

/-- The state behind the loop that looks for another's lock. -/
structure Scan (l : List S119) (A1 : Option Addr) (c1 : Nat) (w W : World) : Prop where
  own : Kd.R k119 119 W w.heap.size (fun _ => True) (.slice A1 l.length c1) l
  le : l.length ≤ c1
  bel : Below w.heap.size w W
theorem Scan.read {l : List S119} {A1 : Option Addr} {c1 : Nat} {w W : World} (h : Scan l A1 c1 w W) : Kd.C k119 W A1 l.length l := by
  obtain ⟨A, c, he, hl, hC⟩ := Kd.R_reads h.own
  injection he with h1 h2 h3
  subst h1
  exact hC
theorem Scan.move {l : List S119} {A1 : Option Addr} {c1 : Nat} {w W W' : World} (h : Scan l A1 c1 w W) (hb : Below W.heap.size W W') : Scan l A1 c1 w W' := ⟨Kd.R_below h.own hb, h.le, below_then h.bel h.bel.size hb⟩

/-- One lock is to write from now on. -/
theorem set_row {W : World} {base G cap n : Nat} {f : Nat → Value} {l : List S119} (hG : base ≤ G) (hn : n < l.length) (hc : l.length ≤ cap) (hm : cap ≤ maxLen) (h : Row W G 119 (cap * 3) f)
    (hf : ∀ i j, ∀ hi : i < l.length, j < 3 → some (f (i * 3 + j)) = (cellsH l[i])[j]?) (b : Bool) :
    Kd.R k119 119 (W.setCell ⟨G, n * 3 + 2, none⟩ (.bool b)) base (fun _ => True) (.slice (some ⟨G, 0, none⟩) l.length cap) (l.set n ⟨(l.getD n z119).f0, (l.getD n z119).f1, b⟩) := by
  have e : l.length = (l.set n ⟨(l.getD n z119).f0, (l.getD n z119).f1, b⟩).length := by simp
  rw [e]
  refine row_own flatK (fun _ => trivial) hG (by rw [← e]; exact hc) hm (h.set (by omega) _) (atH_to fun a ha => ?_)
  rw [← e] at ha
  have ha2 := atH_of hf a ha
  by_cases h1 : a = n
  · subst h1
    rw [show (l.set a ⟨(l.getD a z119).f0, (l.getD a z119).f1, b⟩).getD a z119 = ⟨(l.getD a z119).f0, (l.getD a z119).f1, b⟩ from by simp [List.getD_eq_getElem?_getD, ha]]
    exact ⟨by unfold upd; rw [if_neg (by omega)]; exact ha2.c0, by unfold upd; rw [if_neg (by omega)]; exact ha2.c1, by unfold upd; rw [if_pos rfl]⟩
  · rw [show (l.set n ⟨(l.getD n z119).f0, (l.getD n z119).f1, b⟩).getD a z119 = l.getD a z119 from by rw [List.getD_eq_getElem?_getD, List.getElem?_set_ne (fun h => h1 h.symm), ← List.getD_eq_getElem?_getD]]
    exact ⟨by unfold upd; rw [if_neg (by omega)]; exact ha2.c0, by unfold upd; rw [if_neg (by omega)]; exact ha2.c1, by unfold upd; rw [if_neg (by omega)]; exact ha2.c2⟩
set_option maxRecDepth 100000 in
set_option maxHeartbeats 8000000 in
theorem take_good (A : Option Addr) (c : Nat) (l : List S119) (tx key : Int) (wt : Bool) (w : World) (hr : Kd.C k119 w A l.length l) (hc : l.length ≤ c) (hl : l.length + 1 ≤ 5864062014805) (h1 : right l = true) (h2 : mayB tx key = true) (r1 : List S119) (r2 : Int) (h : takeP l tx key wt = (r1, r2)) :
    Calls Try.prog 46 #[.slice A l.length c, .int .i64 tx, .int .u8 key, .bool wt] w fun e w' => ∃ v0_ : Value, e = .returned (.tuple #[v0_, .int .i64 r2]) ∧ Kd.R k119 119 w' w.heap.size (fun _ => True) v0_ r1 ∧ Below w.heap.size w w' := by
  have hu := Try.underlying119
  have hbig := hr.2.1
  have HL := Aside0.mk hl
  have HC := Aside0.mk (clone_calls A c l w hr (by omega))
  have HRt := Aside0.mk (fun A c W (hr : Kd.C k119 W A l.length l) (hc : l.length ≤ c) => right_calls A c l (right l) W hr hc rfl)
  have HM := Aside0.mk (fun W => may_calls tx key W)
  rw [h1] at HRt
  rw [h2] at HM
  have HT : Aside0 ((if l.any (confl tx key wt) = true then (l, (9 : Int)) else
    if found l ⟨key, tx, wt⟩ = true then (l.set (spot l ⟨key, tx, wt⟩).toNat ⟨(rd_T119 l (spot l ⟨key, tx, wt⟩)).f0, (rd_T119 l (spot l ⟨key, tx, wt⟩)).f1, (rd_T119 l (spot l ⟨key, tx, wt⟩)).f2 || wt⟩, 0)
    else (insH l (spot l ⟨key, tx, wt⟩).toNat ⟨key, tx, wt⟩, 0)) = (r1, r2)) := ⟨by unfold takeP at h; rw [if_neg (by rw [h1]; simp), if_neg (by rw [h2]; simp)] at h; exact h⟩
  clear hr hc hl h1 h2 h
  go_enter Try.func46, Try.ntmps46
  go_wp2_with (first | (go_at_call 62; refine HC.out.mono ?_; rintro e w1 ⟨v1, rfl, hR1, hb1⟩; obtain ⟨A1, c1, hv, hlc, hC1⟩ := Kd.R_reads hR1; subst hv; have HS1 : Aside0 (Scan l A1 c1 w w1) := ⟨⟨hR1, hlc, hb1⟩⟩; clear hR1 hb1 hlc hC1) | (go_at_call 63; refine (HRt.out _ _ _ HS1.out.read HS1.out.le).mono ?_; rintro e w2 ⟨rfl, hb2⟩; have HS2 := Aside0.mk (HS1.out.move hb2); clear hb2) | (go_at_call 64; refine (HM.out _).mono ?_; rintro e w3 ⟨rfl, hb3⟩; have HS3 := Aside0.mk (HS2.out.move hb3); clear hb3))
  clear HC HRt HM HS1 HS2
  go_loopg [11, 29] l.length (fun gg _ s8 wrl => ∃ kk : Int, s8 = .int .i64 kk ∧ Aside0 (0 ≤ kk ∧ kk ≤ l.length ∧ l.length - kk.toNat ≤ gg) ∧ Aside0 (Scan l A1 c1 w wrl) ∧ Aside0 (∀ j, j < kk.toNat → confl tx key wt (l.getD j z119) = false))
  case atStart => exact ⟨0, rfl, ⟨by omega, by omega, by omega⟩, HS3, ⟨fun j hj => absurd hj (Nat.not_lt_zero _)⟩⟩
  case round =>
    clear HS3
    obtain ⟨kk, rfl, HK, HS, AF⟩ := hrel
    have p0 : 0 ≤ kk := HK.out.1
    by_cases hlt : kk < (l.length : Int)
    · obtain ⟨ad, e0, g0, g1, g2⟩ := at_T119 HS.out.read kk p0 hlt
      cases e0
      have HO : Aside0 (rd_T119 l kk = l.getD kk.toNat z119) := ⟨rfl⟩
      generalize rd_T119 l kk = y at g0 g1 g2 HO
      have HLT := Aside0.mk hlt
      have cb : decide (kk < (l.length : Int)) = true := decide_eq_true hlt
      have q0 : (0 ≤ kk) = True := eq_true p0
      have q1 : (kk < (l.length : Int)) = True := eq_true hlt
      clear hlt p0
      obtain ⟨y0, y1, y2⟩ := y
      have hw1 : wrap64 (kk + 1) = kk + 1 := by have := HLT.out; have := of_eq_true q0; unfold wrap64; omega
      cases hc1 : (y0 == key) with
      | false =>
        have HNC : Aside0 (confl tx key wt ⟨y0, y1, y2⟩ = false) := ⟨by simp [confl, hc1]⟩
        go_wp2
        go_roundg (l.length - (kk.toNat + 1))
        case measure => have := HK.out; have := HLT.out; omega
        case rel =>
          refine ⟨kk + 1, by first | rfl | (simp [hw1]; done), ⟨by have := HK.out; omega, by have := HLT.out; omega, by have := HK.out; omega⟩, ⟨HS.out.move (by repeat (first | exact Below.refl _ _ | apply below_alloc))⟩, ⟨fun j hj => ?_⟩⟩
          by_cases e : j = kk.toNat
          · subst e; rw [← HO.out]; exact HNC.out
          · exact AF.out j (by omega)
      | true =>
        cases hc2 : (y1 != tx) with
        | false =>
          have HNC : Aside0 (confl tx key wt ⟨y0, y1, y2⟩ = false) := ⟨by simp [confl, hc1, hc2]⟩
          go_wp2
          go_roundg (l.length - (kk.toNat + 1))
          case measure => have := HK.out; have := HLT.out; omega
          case rel =>
            refine ⟨kk + 1, by first | rfl | (simp [hw1]; done), ⟨by have := HK.out; omega, by have := HLT.out; omega, by have := HK.out; omega⟩, ⟨HS.out.move (by repeat (first | exact Below.refl _ _ | apply below_alloc))⟩, ⟨fun j hj => ?_⟩⟩
            by_cases e : j = kk.toNat
            · subst e; rw [← HO.out]; exact HNC.out
            · exact AF.out j (by omega)
        | true =>
          cases wt with
          | true =>
            have HNC : Aside0 (confl tx key true ⟨y0, y1, y2⟩ = true) := ⟨by simp [confl, hc1, hc2]⟩
            go_wp2
            go_ret2
            have hT := HT.out
            rw [if_pos (any_at (i := kk.toNat) (by have := HLT.out; have := of_eq_true q0; omega) (by rw [← HO.out]; exact HNC.out))] at hT
            injection hT with e1 e2
            subst e1 e2
            have hz := fun o => HS.out.move (below_alloc (Below.refl _ _) o)
            exact ⟨.slice (some ad) l.length c1, rfl, (hz _).own, (hz _).bel⟩
          | false =>
            cases y2 with
            | true =>
              have HNC : Aside0 (confl tx key false ⟨y0, y1, true⟩ = true) := ⟨by simp [confl, hc1, hc2]⟩
              go_wp2
              go_ret2
              have hT := HT.out
              rw [if_pos (any_at (i := kk.toNat) (by have := HLT.out; have := of_eq_true q0; omega) (by rw [← HO.out]; exact HNC.out))] at hT
              injection hT with e1 e2
              subst e1 e2
              have hz := fun o => HS.out.move (below_alloc (Below.refl _ _) o)
              exact ⟨.slice (some ad) l.length c1, rfl, (hz _).own, (hz _).bel⟩
            | false =>
              have HNC : Aside0 (confl tx key false ⟨y0, y1, false⟩ = false) := ⟨by simp [confl, hc1, hc2]⟩
              go_wp2
              go_roundg (l.length - (kk.toNat + 1))
              case measure => have := HK.out; have := HLT.out; omega
              case rel =>
                refine ⟨kk + 1, by first | rfl | (simp [hw1]; done), ⟨by have := HK.out; omega, by have := HLT.out; omega, by have := HK.out; omega⟩, ⟨HS.out.move (by repeat (first | exact Below.refl _ _ | apply below_alloc))⟩, ⟨fun j hj => ?_⟩⟩
                by_cases e : j = kk.toNat
                · subst e; rw [← HO.out]; exact HNC.out
                · exact AF.out j (by omega)
    · have cb : decide (kk < (l.length : Int)) = false := decide_eq_false hlt
      have HNO : Aside0 (l.any (confl tx key wt) = false) := ⟨any_none fun i hi => AF.out i (by have := HK.out; omega)⟩
      clear hlt p0 AF HK
      have HT2 := HT.out
      rw [if_neg (by rw [HNO.out]; simp)] at HT2
      have HT3 := Aside0.mk HT2
      clear HT2 HT HNO
      have HBS := Aside0.mk (fun W (h : Scan l A1 c1 w W) => bsearch_calls A1 c1 l ⟨key, tx, wt⟩ W h.read (by have := HL.out; omega))
      have HRG := Aside0.mk (bs_range (lessH l ⟨key, tx, wt⟩) l.length 0 l.length (by omega))
      have HFD : Aside0 (found l ⟨key, tx, wt⟩ = (decide (bs (lessH l ⟨key, tx, wt⟩) l.length 0 l.length < (l.length : Int)) && ordI (rd_T119 l (bs (lessH l ⟨key, tx, wt⟩) l.length 0 l.length)) ⟨key, tx, wt⟩ == 0)) := ⟨rfl⟩
      have HSP : Aside0 (spot l ⟨key, tx, wt⟩ = bs (lessH l ⟨key, tx, wt⟩) l.length 0 l.length) := ⟨rfl⟩
      rw [← HFD.out, ← HSP.out] at HBS
      rw [← HSP.out] at HRG
      clear HFD HSP
      have HF1 : Aside0 (found l ⟨key, tx, wt⟩ = true → spot l ⟨key, tx, wt⟩ < (l.length : Int)) := ⟨fun h => by unfold found at h; rw [Bool.and_eq_true] at h; exact of_decide_eq_true h.1⟩
      generalize spot l ⟨key, tx, wt⟩ = sp at HT3 HBS HRG HF1
      cases hfd : found l ⟨key, tx, wt⟩ with
      | false =>
        rw [hfd] at HBS HT3
        clear hfd
        have e1 : insH l sp.toNat ⟨key, tx, wt⟩ = r1 ∧ r2 = 0 := by
          have := HT3.out
          rw [if_neg (by simp)] at this
          injection this with a b
          exact ⟨a, b.symm⟩
        obtain ⟨e1, rfl⟩ := e1
        subst e1
        clear HT3
        obtain ⟨n, rfl⟩ : ∃ n : Nat, sp = n := ⟨sp.toNat, by have := HRG.out; omega⟩
        have HIN := Aside0.mk (fun W vb (h : Scan l A1 c1 w W) (hx : W.heap[vb]? = some (.cells (cellsH ⟨key, tx, wt⟩).toArray 119 (0, 0))) (hne : (Value.slice A1 l.length c1).ownBlock ≠ some vb) =>
          insert_calls l (.slice A1 l.length c1) n vb ⟨key, tx, wt⟩ w W h.bel h.own (by have := HRG.out; omega) hne hx HL.out)
        have b1 : (n : Int) ≤ (l.length : Int) := HRG.out.2
        have HNE := Aside0.mk (fun W (h : Scan l A1 c1 w W) (e : (Value.slice A1 l.length c1).ownBlock = some W.heap.size) => by
          obtain ⟨inner, ho⟩ := Kd.R_own h.own
          exact Nat.lt_irrefl _ (own_lt ho _ e))
        go_wp2_with (first | (go_at_call 65; refine (HBS.out _ (HS.out.move (below_alloc (Below.refl _ _) _))).mono ?_; rintro e w4 ⟨rfl, hb4⟩; have HS4 := Aside0.mk (HS.out.move (bt (below_alloc (Below.refl _ _) _) hb4)); have c0' : w4.cell? ⟨wr.heap.size, 0, none⟩ = some (.int .u8 key) := (hb4.cell (p := ⟨wr.heap.size, 0, none⟩) (by simp)).trans (by go_simp); have c1' : w4.cell? ⟨wr.heap.size, 1, none⟩ = some (.int .i64 tx) := (hb4.cell (p := ⟨wr.heap.size, 1, none⟩) (by simp)).trans (by go_simp); have c2' : w4.cell? ⟨wr.heap.size, 2, none⟩ = some (.bool wt) := (hb4.cell (p := ⟨wr.heap.size, 2, none⟩) (by simp)).trans (by go_simp); clear hb4) | (go_at_call 67; refine (HIN.out _ w4.heap.size (HS4.out.move (below_alloc (Below.refl _ _) _)) (heap_alloc_new _ _) (HNE.out _ HS4.out)).mono ?_; rintro e w5 ⟨v5, rfl, hR5, hb5⟩; have HR5 := Aside0.mk hR5; have HB5 := Aside0.mk hb5; clear hR5 hb5))
        go_ret2
        exact ⟨v5, rfl, HR5.out, HB5.out⟩
      | true =>
        rw [hfd] at HBS HT3
        have hin : sp < (l.length : Int) := HF1.out hfd
        clear hfd
        have e1 : l.set sp.toNat ⟨(rd_T119 l sp).f0, (rd_T119 l sp).f1, (rd_T119 l sp).f2 || wt⟩ = r1 ∧ r2 = 0 := by
          have := HT3.out
          rw [if_pos rfl] at this
          injection this with a b
          exact ⟨a, b.symm⟩
        obtain ⟨e1, rfl⟩ := e1
        clear HT3
        obtain ⟨n, rfl⟩ : ∃ n : Nat, sp = n := ⟨sp.toNat, by have := HRG.out; omega⟩
        rcases own_row flatK HS.out.own with ⟨_, hnil⟩ | ⟨G, cap, f, hv, hG, hcap, hmax, hrow, hf⟩
        · subst hnil
          exact absurd hin (by simp)
        · injection hv with hv1 hv2 hv3
          subst hv1 hv3
          have hn : n < l.length := by omega
          have hA := atH_of hf n hn
          have HSET := Aside0.mk (fun (W : World) (h : Row W G 119 (c1 * 3) f) (b : Bool) => set_row (base := w.heap.size) hG hn hcap hmax h hf b)
          have HG := Aside0.mk hG
          have HROW := Aside0.mk hrow
          have HBN := Aside0.mk (show n * 3 + 2 < c1 * 3 by omega)
          have HE1 : Aside0 (l.set n ⟨(l.getD n z119).f0, (l.getD n z119).f1, (l.getD n z119).f2 || wt⟩ = r1) := ⟨e1⟩
          have b1 : (n : Int) < (l.length : Int) := hin
          have n1 : n < l.length := hn
          have hA2 := Aside0.mk hA.c2
          clear hin hn hf hrow hG hcap hmax hA e1
          generalize l.getD n z119 = y at hA2 HSET HE1
          obtain ⟨y0, y1, y2⟩ := y
          cases y2 with
          | true =>
            go_wp2_with (go_at_call 65; refine (HBS.out _ (HS.out.move (below_alloc (Below.refl _ _) _))).mono ?_; rintro e w4 ⟨rfl, hb4⟩; have hbw := bt (below_alloc (Below.refl wr.heap.size wr) _) hb4; have HS4 := Aside0.mk (HS.out.move hbw); have HR4 := Aside0.mk (HROW.out.below hbw); have r2 : w4.cell? ⟨G, n * 3 + 2, none⟩ = some (.bool true) := (HR4.out.cell HBN.out).trans (congrArg some hA2.out); have z2 := HR4.out.free (n * 3 + 2); clear hb4 hbw)
            go_ret2
            exact ⟨_, rfl, by rw [← HE1.out]; exact HSET.out w4 HR4.out true, (HS4.out.bel).setCell (p := ⟨G, n * 3 + 2, none⟩) HG.out _⟩
          | false =>
            go_wp2_with (go_at_call 65; refine (HBS.out _ (HS.out.move (below_alloc (Below.refl _ _) _))).mono ?_; rintro e w4 ⟨rfl, hb4⟩; have hbw := bt (below_alloc (Below.refl wr.heap.size wr) _) hb4; have HS4 := Aside0.mk (HS.out.move hbw); have HR4 := Aside0.mk (HROW.out.below hbw); have r2 : w4.cell? ⟨G, n * 3 + 2, none⟩ = some (.bool false) := (HR4.out.cell HBN.out).trans (congrArg some hA2.out); have z2 := HR4.out.free (n * 3 + 2); clear hb4 hbw)
            go_ret2
            exact ⟨_, rfl, by rw [← HE1.out]; exact HSET.out w4 HR4.out wt, (HS4.out.bel).setCell (p := ⟨G, n * 3 + 2, none⟩) HG.out _⟩
end Go.Proofs.Ytolpcfjmhimpeaa.H

namespace Go.Proofs.Ytolpcfjmhimpeaa.H
open Go.RowKit Go.Proofs.YtolpcfjmhimpeaaW.PrintWords Go.Proofs.YtolpcfjmhimpeaaW.PrintLast Go.Proofs.Ytolpcfjmhimpeaa.P
set_option linter.unusedVariables false

theorem take_calls (A0 : Option Addr) (c0 : Nat) (l0 : List (S119)) (a1 : Int) (a2 : Int) (a3 : Bool) (r1 : List (S119)) (r2 : Int) (w : World) (hr0 : Kd.C k119 w A0 l0.length l0) (hc0 : l0.length ≤ c0) (h : takeF l0 a1 a2 a3 = some (r1, r2)) :
    Calls Try.prog 46 #[.slice A0 l0.length c0, .int .i64 a1, .int .u8 a2, .bool a3] w fun e w' => ∃ v0_ : Value, e = .returned (.tuple #[v0_, .int .i64 r2]) ∧ Kd.R k119 119 w' w.heap.size (fun _ => True) v0_ r1 ∧ Below w.heap.size w w' := by
  have hl : l0.length + 1 ≤ 5864062014805 := by
    unfold takeF at h
    split at h
    · assumption
    · cases h
  have ht : takeP l0 a1 a2 a3 = (r1, r2) := by
    unfold takeF at h
    rw [if_pos hl] at h
    exact Option.some.inj h
  cases h1 : right l0 with
  | false =>
    have e := ht
    unfold takeP at e
    rw [if_pos h1] at e
    injection e with e1 e2
    subst e1 e2
    exact take_bad A0 c0 l0 a1 a2 a3 w hr0 hc0 hl (.inl h1)
  | true =>
    cases h2 : mayB a1 a2 with
    | false =>
      have e := ht
      unfold takeP at e
      rw [if_neg (by rw [h1]; simp), if_pos h2] at e
      injection e with e1 e2
      subst e1 e2
      exact take_bad A0 c0 l0 a1 a2 a3 w hr0 hc0 hl (.inr ⟨h1, h2⟩)
    | true => exact take_good A0 c0 l0 a1 a2 a3 w hr0 hc0 hl h1 h2 r1 r2 ht
end Go.Proofs.Ytolpcfjmhimpeaa.H
