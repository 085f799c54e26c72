/- Rows of structs, cell by cell: what a store, copy, clear, an append of zeros do to them. -/
import Derived.Test.YtngjohckkgmggaaWWords
import Derived.Laws.CopyRow
import Derived.Laws.CopyOwn
import Derived.Laws.IdiomCopy
import Derived.Laws.Append
import Derived.Lib.Overlaps
import Derived.Lib.AppendZeros
namespace Go.Proofs.Ytngjohckkgmggaa.H
open Go.RowKit Go.Proofs.YtngjohckkgmggaaW.PrintWords
set_option linter.unusedVariables false
set_option linter.unusedSimpArgs false

/-- A block of cells as a function of the place. -/
def Row (W : World) (g : Nat) (t : TypeId) (n : Nat) (f : Nat → Value) : Prop :=
  ∃ cur : Array Value, W.heap[g]? = some (.cells cur t (0, 0)) ∧ cur.size = n ∧ ∀ j, j < n → cur[j]? = some (f j)
def upd (f : Nat → Value) (k : Nat) (v : Value) : Nat → Value := fun j => if j = k then v else f j
def updL (f : Nat → Value) (o : Nat) (vs : List Value) : Nat → Value := fun j => if o ≤ j ∧ j < o + vs.length then vs.getD (j - o) undef else f j

theorem Row.cell {W : World} {g : Nat} {t : TypeId} {n : Nat} {f : Nat → Value} (h : Row W g t n f) {j : Nat} (hj : j < n) : W.cell? ⟨g, j, none⟩ = some (f j) := by
  obtain ⟨cur, hg, hs, hc⟩ := h
  simp [World.cell?, hg, hc j hj]
theorem Row.free {W : World} {g : Nat} {t : TypeId} {n : Nat} {f : Nat → Value} (h : Row W g t n f) (j : Nat) : W.frozen? ⟨g, j, none⟩ = false := by
  obtain ⟨cur, hg, _⟩ := h
  simp [World.frozen?, hg]
theorem Row.lt {W : World} {g : Nat} {t : TypeId} {n : Nat} {f : Nat → Value} (h : Row W g t n f) : g < W.heap.size := by
  obtain ⟨cur, hg, _⟩ := h
  exact (Array.getElem?_eq_some_iff.1 hg).1
theorem Row.congr {W : World} {g : Nat} {t : TypeId} {n : Nat} {f f' : Nat → Value} (h : Row W g t n f) (he : ∀ j, j < n → f j = f' j) : Row W g t n f' := by
  obtain ⟨cur, hg, hs, hc⟩ := h
  exact ⟨cur, hg, hs, fun j hj => by rw [hc j hj, he j hj]⟩
theorem Row.same {W W' : World} {g : Nat} {t : TypeId} {n : Nat} {f : Nat → Value} (h : Row W g t n f) (he : W'.heap[g]? = W.heap[g]?) : Row W' g t n f := by
  obtain ⟨cur, hg, hs, hc⟩ := h
  exact ⟨cur, he.trans hg, hs, hc⟩
theorem Row.below {W W' : World} {g : Nat} {t : TypeId} {n : Nat} {f : Nat → Value} (h : Row W g t n f) (hb : Below W.heap.size W W') : Row W' g t n f := h.same (hb.block g h.lt)
theorem Row.alloc {W : World} {g : Nat} {t : TypeId} {n : Nat} {f : Nat → Value} (h : Row W g t n f) (o : Obj) : Row (W.alloc o) g t n f := h.below (below_alloc (Below.refl _ _) o)
theorem Row.drew {W : World} {g : Nat} {t : TypeId} {n : Nat} {f : Nat → Value} (h : Row W g t n f) : Row W.drew g t n f := h.same rfl
theorem Row.set {W : World} {g : Nat} {t : TypeId} {n : Nat} {f : Nat → Value} (h : Row W g t n f) {k : Nat} (hk : k < n) (v : Value) : Row (W.setCell ⟨g, k, none⟩ v) g t n (upd f k v) := by
  obtain ⟨cur, hg, hs, hc⟩ := h
  refine ⟨cur.setIfInBounds k v, heap_setCell_same W g k cur t v hg, by simpa using hs, fun j hj => ?_⟩
  unfold upd
  rw [Array.getElem?_setIfInBounds]
  by_cases e : j = k
  · subst e; simp [hs, hk]
  · rw [if_neg (fun h => e h.symm), if_neg e, hc j hj]
theorem Row.far {W : World} {g : Nat} {t : TypeId} {n : Nat} {f : Nat → Value} (h : Row W g t n f) {p : Addr} (hp : g ≠ p.block) (v : Value) : Row (W.setCell p v) g t n f := h.same (Below.heap_setCell W p v g hp)

/-- storeCells into a row. -/
theorem Row.store {P : Program} {W : World} {g : Nat} {t : TypeId} {n : Nat} {f : Nat → Value} (h : Row W g t n f) (o : Nat) (vs : List Value) (ho : o + vs.length ≤ n) (h1 : ∀ v ∈ vs, v.oneCell' = true) :
    ∃ cur : Array Value, (storeCells ⟨g, o, none⟩ vs).run P W = .ok () (W.setRow g cur) ∧ Row (W.setRow g cur) g t n (updL f o vs) := by
  obtain ⟨cur, hg, hs, hc⟩ := h
  refine ⟨_, run_storeCells_at P g o t vs 0 cur W hg (by omega) h1, _, setRow_heap W g cur _ t _ hg, ?_, fun j hj => ?_⟩
  · simp; omega
  · unfold updL
    simp only [Nat.add_zero, List.getElem?_toArray]
    by_cases h1 : j < o
    · rw [if_neg (by omega), List.append_assoc, List.getElem?_append_left (by simp; omega), List.getElem?_take, if_pos h1]
      simpa using hc j hj
    · by_cases h2 : j < o + vs.length
      · rw [if_pos ⟨by omega, h2⟩, List.append_assoc, List.getElem?_append_right (by simp; omega), List.length_take, List.getElem?_append_left (by simp; omega)]
        rw [show min o cur.toList.length = o from by simp; omega, List.getD_eq_getElem?_getD, List.getElem?_eq_getElem (by omega)]
        simp
      · rw [if_neg (by omega), List.getElem?_append_right (by simp; omega), List.getElem?_drop]
        rw [show o + vs.length + (j - (List.take o cur.toList ++ vs).length) = j from by simp; omega]
        simpa using hc j hj

theorem below_set_row {B g : Nat} {w0 w : World} (hb : Below B w0 w) (hBg : B ≤ g) (cs : Array Value) : Below B w0 (w.setRow g cs) := Go.below_setRow hb hBg cs

/-- What the row's own value says of the row, and back. -/
structure Flat {α : Type} (d : Kd α) (k : Nat) (enc : α → List Value) : Prop where
  sz : d.sz = k
  len : ∀ x, (enc x).length = k
  M : ∀ {W base ok x cs}, d.M W base ok x cs ↔ cs = enc x
  K : ∀ {W x cs}, d.K W x cs ↔ cs = enc x

section
variable {α : Type} {d : Kd α} {k : Nat} {enc : α → List Value} {e : Nat}
theorem flat_inner (F : Flat d k enc) {W : World} {base : Nat} {ok : Nat → Prop} {l : List α} {inner : List Value} (hr : Reps (d.M W base ok) d.sz l inner) (i j : Nat) (hi : i < l.length) (hj : j < k) : inner[i * k + j]? = (enc l[i])[j]? := by
  have h := F.M.1 (hr.2 i _ (List.getElem?_eq_getElem hi))
  rw [F.sz] at h
  rw [← h, List.getElem?_take, if_pos hj, List.getElem?_drop]

theorem idx_lt {i j k n c : Nat} (hi : i < n) (hj : j < k) (hc : n ≤ c) : i * k + j < c * k := by
  have : (i + 1) * k ≤ c * k := Nat.mul_le_mul_right _ (by omega)
  rw [Nat.add_mul, Nat.one_mul] at this
  omega

/-- A row that is owned, seen cell by cell. -/
theorem own_row (F : Flat d k enc) {W : World} {base : Nat} {ok : Nat → Prop} {v : Value} {l : List α} (h : d.R e W base ok v l) :
    (v = .slice none 0 0 ∧ l = []) ∨ ∃ g cap f, v = .slice (some ⟨g, 0, none⟩) l.length cap ∧ base ≤ g ∧ l.length ≤ cap ∧ cap ≤ maxLen ∧ Row W g e (cap * k) f ∧ ∀ i j, ∀ hi : i < l.length, j < k → some (f (i * k + j)) = (enc l[i])[j]? := by
  obtain ⟨_, inner, ⟨hl, ho⟩, hr⟩ := h
  rcases ho with ⟨rfl, h0⟩ | ⟨g, cap, cur, rfl, hb, hg, hnc, hcm, hcs, ht⟩
  · exact .inl ⟨rfl, List.eq_nil_of_length_eq_zero h0⟩
  · refine .inr ⟨g, cap, fun j => cur.toList.getD j undef, rfl, hb, hnc, hcm, ⟨cur, hg, by rw [hcs, F.sz], fun j hj => ?_⟩, fun i j hi hj => ?_⟩
    · have : j < cur.size := by rw [hcs, F.sz]; exact hj
      simp [List.getD_eq_getElem?_getD, this]
    · have hlt := idx_lt hi hj hnc
      have hlt2 := idx_lt hi hj (Nat.le_refl _)
      have hsz : i * k + j < cur.toList.length := by simp [hcs, F.sz]; exact hlt
      rw [← flat_inner F hr i j hi hj, ← ht, List.getElem?_take, if_pos (by rw [F.sz]; exact hlt2)]
      show some (cur.toList.getD (i * k + j) undef) = _
      rw [List.getD_eq_getElem?_getD, List.getElem?_eq_getElem hsz]
      rfl

theorem row_own (F : Flat d k enc) {W : World} {base : Nat} {ok : Nat → Prop} (hok : ∀ j, ok j) {g cap : Nat} {f : Nat → Value} {l : List α} (hb : base ≤ g) (hl : l.length ≤ cap) (hc : cap ≤ maxLen) (h : Row W g e (cap * k) f)
    (hf : ∀ i j, ∀ hi : i < l.length, j < k → some (f (i * k + j)) = (enc l[i])[j]?) : d.R e W base ok (.slice (some ⟨g, 0, none⟩) l.length cap) l := by
  obtain ⟨cur, hg, hs, hcur⟩ := h
  have hlen : (cur.toList.take (l.length * k)).length = l.length * k := by
    have h1 : cur.toList.length = cap * k := by simp [hs]
    rw [List.length_take, h1]
    exact Nat.min_eq_left (Nat.mul_le_mul_right _ hl)
  refine ⟨fun _ _ => hok _, cur.toList.take (l.length * k), ⟨by rw [hlen, F.sz], .inr ⟨g, cap, cur, rfl, hb, hg, hl, hc, by rw [hs, F.sz], by rw [F.sz]⟩⟩, ⟨by rw [hlen, F.sz], fun i p hp => F.M.2 ?_⟩⟩
  obtain ⟨hi, rfl⟩ := List.getElem?_eq_some_iff.1 hp
  rw [F.sz]
  apply List.ext_getElem?
  intro j
  by_cases hj : j < k
  · rw [List.getElem?_take, if_pos hj, List.getElem?_drop, List.getElem?_take, if_pos (idx_lt hi hj (Nat.le_refl _)), ← hf i j hi hj]
    have := hcur (i * k + j) (idx_lt hi hj hl)
    simpa using this
  · rw [List.getElem?_take, if_neg hj, List.getElem?_eq_none (by rw [F.len]; omega)]
end

/-- clear(s), s a part of a row. -/
theorem Row.clear {P : Program} {W : World} {g : Nat} {t e : TypeId} {N k : Nat} {f : Nat → Value} (h : Row W g e N f) (ty : TypeId) (z : Value) (ht : P.underlying t = some (.slice e)) (hv : ∀ w, (zeroValue e).run P w = .ok z w) (hz : z.cells.size = k)
    (h1 : ∀ u ∈ z.cells, u.oneCell' = true) (o n c : Nat) (ho : o + n * k ≤ N) :
    ∃ cur : Array Value, (Builtin.clear_ #[t] ty #[.slice (some ⟨g, o, none⟩) n c]).run P W = .ok (.tuple #[]) (W.setRow g cur) ∧ ∃ vs : List Value, vs.length = n * k ∧ Row (W.setRow g cur) g e N (updL f o vs) := by
  have hl : (Builtin.zeroCells z.cells n).toList.length = n * k := by simp [Builtin.zeroCells, hz]
  have hone : ∀ v ∈ (Builtin.zeroCells z.cells n).toList, v.oneCell' = true := by
    intro v hv
    simp only [Builtin.zeroCells, Array.toList_map, List.mem_map] at hv
    obtain ⟨i, hi, rfl⟩ := hv
    have hi' : i < n * z.cells.size := by simpa using hi
    have hpos : 0 < z.cells.size := by
      rcases Nat.eq_zero_or_pos z.cells.size with h0 | h0
      · rw [h0] at hi'; omega
      · exact h0
    have : z.cells[i % z.cells.size]! = z.cells[i % z.cells.size]'(Nat.mod_lt _ hpos) := by simp [Nat.mod_lt _ hpos]
    rw [this]
    exact h1 _ (Array.getElem_mem _)
  obtain ⟨cur, hrun, hrow⟩ := h.store (P := P) o _ (by rw [hl]; exact ho) hone
  rcases Nat.eq_zero_or_pos n with h0 | h0
  · subst h0
    obtain ⟨c0, hg, hs, hc⟩ := h
    refine ⟨c0, ?_, [], by simp, ?_⟩
    · rw [setRow_self W g c0 e _ hg]
      simp [Builtin.clear_, run_underlying ht]
    · rw [setRow_self W g c0 e _ hg]
      exact Row.congr ⟨c0, hg, hs, hc⟩ (fun j hj => by unfold updL; rw [if_neg (by simp)])
  · obtain ⟨m, rfl⟩ : ∃ m, n = m + 1 := ⟨n - 1, by omega⟩
    refine ⟨cur, ?_, _, hl, hrow⟩
    simp [Builtin.clear_, run_underlying ht, hv, hrun]

/-- copy into a row, of cells that are read. -/
theorem Row.copy {P : Program} {W : World} {g : Nat} {e : TypeId} {N k : Nat} {f : Nat → Value} (h : Row W g e N f) (dT sT ty : TypeId) (o dLen dCap : Nat) (a : Addr) (sLen sCap : Nat) (cs : List Value)
    (hu : P.underlying dT = some (.slice e)) (hs : (P.info? e).map (·.size) = some k) (hn : cs.length = Nat.min sLen dLen * k)
    (hsrc : ∀ j v, cs[j]? = some v → W.cell? (a.add j) = some v) (hfit : o + cs.length ≤ N) (h1 : ∀ v ∈ cs, v.oneCell' = true) :
    ∃ cur : Array Value, (Builtin.copy_ #[dT, sT] ty #[.slice (some ⟨g, o, none⟩) dLen dCap, .slice (some a) sLen sCap]).run P W = .ok (goInt (Nat.min sLen dLen)) (W.setRow g cur) ∧ Row (W.setRow g cur) g e N (updL f o cs) := by
  obtain ⟨cur, hrun, hrow⟩ := h.store (P := P) o cs hfit h1
  have hl := run_loadCells_list (P := P) W a cs hsrc
  rw [hn] at hl
  refine ⟨cur, ?_, hrow⟩
  cases hq : P.info? e with
  | none => simp [hq] at hs
  | some i =>
    have hi : i.size = k := by simpa [hq] using hs
    simp [Builtin.copy_, run_underlying hu, Builtin.lenOf, Builtin.firstCells, sizeOf, typeInfo, hq, hi, hl, hrun]

/-- append's second argument of another slice type. -/
theorem append_tu {P : Program} {W : World} {t u e e' : TypeId} {i : TypeInfo} (ht : P.underlying t = some (.slice e)) (hu : P.underlying u = some (.slice e')) (hi : P.info? e = some i) (ty : TypeId) (B : Option Addr) (n c : Nat) (x : Value) :
    (Builtin.append_ #[t, u] ty #[.slice B n c, x]).run P W = (Builtin.append_ #[t, t] ty #[.slice B n c, x]).run P W := by
  simp [Builtin.append_, run_underlying ht, run_underlying hu, sizeOf, typeInfo, hi]

/-- append(s[:i], make(S, m)...), beyond the capacity: a new row, whose first i elements are the old ones. -/
theorem append_zeros_grow {P : Program} {W : World} {g : Nat} {e t tn : TypeId} {cap k bytes : Nat} {f : Nat → Value} {z : Value} (h : Row W g e (cap * k) f) (ty : TypeId) (kn : IntKind) (ht : P.underlying t = some (.slice e)) (htn : P.underlying tn = some (.int kn))
    (hinfo : (P.info? e).map (fun i => (i.zero, i.size, i.bytes)) = some (some z, k, bytes)) (hz : z.cells.size = k) (hk : 0 < k) (hb0 : 0 < bytes) (i m : Nat) (hi : i ≤ cap) (hm : cap < i + m) (hl : (i + m) * bytes ≤ 140737488355328) :
    ∃ C W' f', (Builtin.append_ #[t, tn] ty #[.slice (some ⟨g, 0, none⟩) i cap, .int .i64 (m : Int)]).run P W = .ok (.slice (some ⟨W.heap.size, 0, none⟩) (i + m) C) W' ∧ i + m ≤ C ∧ C ≤ maxLen ∧ Below W.heap.size W W' ∧ Row W' W.heap.size e (C * k) f' ∧ (∀ j, j < i * k → f' j = f j) := by
  obtain ⟨i0, hi0, hzz⟩ := Option.map_eq_some_iff.1 hinfo
  simp only [Prod.mk.injEq] at hzz
  obtain ⟨hz0, hz1, hz2⟩ := hzz
  subst hz1 hz2
  obtain ⟨cur, hg, hs, hc⟩ := h
  have hlen : i + m ≤ 140737488355328 := Nat.le_trans (Nat.le_mul_of_pos_right _ hb0) hl
  have hge := grownCap_ge W (i + m) cap e
  have hcm : grownCap W (i + m) cap e ≤ maxLen := grownCap_le_maxLen W (i + m) cap e (by simp only [maxLen]; omega)
  have hik : i * i0.size ≤ cap * i0.size := Nat.mul_le_mul_right _ hi
  let olds := cur.toList.take (i * i0.size)
  have hol : olds.length = i * i0.size := by
    have : cur.toList.length = cap * i0.size := by simp [hs]
    simp only [olds, List.length_take, this]
    exact Nat.min_eq_left hik
  have hold : ∀ j v, olds[j]? = some v → W.drew.cell? ((⟨g, 0, none⟩ : Addr).add j) = some v := by
    intro j v hj
    rw [add_plain]
    simp only [olds, List.getElem?_take] at hj
    split at hj
    · show W.cell? ⟨g, j, none⟩ = some v
      simp only [World.cell?, hg]
      simpa using hj
    · cases hj
  have hfo := run_firstCells_some (P := P) W.drew i0.size i ⟨g, 0, none⟩ i cap olds hol hold
  have hn : ¬ (i + m ≤ cap) := by omega
  have h63 : ¬ (9223372036854775807 < ((i : Int) + (m : Int))) := by omega
  have h48 : ¬ (281474976710656 < Builtin.nextslicecap (i + m) cap * i0.bytes) := by have := growslice_fits (need := i + m) (old := cap) (bytes := i0.bytes) (by omega) hl; omega
  have h48i : ¬ (281474976710656 < (m : Int) * (i0.bytes : Int)) := by
    rw [← Int.natCast_mul]
    have : m * i0.bytes ≤ (i + m) * i0.bytes := Nat.mul_le_mul_right _ (by omega)
    omega
  have hw : IntKind.i64.wrap (m : Int) = m := by rw [IntKind.wrap_i64]; omega
  have hneg : ¬ ((m : Int) < 0) := by omega
  have hm0 : m ≠ 0 := by omega
  have hns : ¬ (m * i0.size = 0) := Nat.mul_ne_zero hm0 (by omega)
  have hk0 : ¬ (i0.size = 0) := by omega
  refine ⟨grownCap W (i + m) cap e, W.drew.alloc (.cells (olds.toArray ++ Builtin.zeroCells z.cells m ++ Builtin.zeroCells z.cells (grownCap W (i + m) cap e - (i + m))) e), fun j => (olds.toArray ++ Builtin.zeroCells z.cells m ++ Builtin.zeroCells z.cells (grownCap W (i + m) cap e - (i + m))).getD j undef, ?_, hge, hcm, ?_, ?_, ?_⟩
  · simp [Builtin.append_, run_underlying ht, run_underlying htn, sizeOf, typeInfo, zeroValue, hi0, hz0, asInt, asIntOf, hw, hn, hneg, hm0, hk0, h63, h48, h48i, Question.forced, hfo, newRow, grownCap]
    exact fun h0 => absurd h0 hns
  · exact below_alloc (below_drew (Below.refl _ _)) _
  · have hsize : (olds.toArray ++ Builtin.zeroCells z.cells m ++ Builtin.zeroCells z.cells (grownCap W (i + m) cap e - (i + m))).size = grownCap W (i + m) cap e * i0.size := by
      simp only [Array.size_append, List.size_toArray, size_zeroCells, hz, hol, ← Nat.add_mul]
      congr 1
      omega
    refine ⟨_, heap_alloc_new W.drew _, hsize, fun j hj => ?_⟩
    have hj' := hj
    rw [← hsize] at hj'
    rw [Array.getElem?_eq_getElem hj']
    show some _ = some (Array.getD _ j undef)
    rw [Array.getD_eq_getD_getElem?, Array.getElem?_eq_getElem hj']
    rfl
  · intro j hj
    have hj2 : j < cap * i0.size := by omega
    have hcj := hc j hj2
    have hjo : j < olds.length := by omega
    have hjo' : j < olds.toArray.size := by simpa using hjo
    have h1 : (olds.toArray ++ Builtin.zeroCells z.cells m ++ Builtin.zeroCells z.cells (grownCap W (i + m) cap e - (i + m)))[j]? = some (f j) := by
      rw [Array.append_assoc, Array.getElem?_append_left hjo']
      simp only [List.getElem?_toArray, olds, List.getElem?_take, if_pos hj]
      simpa using hcj
    show (olds.toArray ++ _ ++ _).getD j undef = f j
    rw [Array.getD_eq_getD_getElem?, h1]
    rfl

/-- The cells from o on. -/
def seg (f : Nat → Value) (o n : Nat) : List Value := (List.range n).map fun j => f (o + j)
theorem seg_len (f : Nat → Value) (o n : Nat) : (seg f o n).length = n := by simp [seg]
theorem seg_get (f : Nat → Value) (o n j : Nat) (v : Value) (h : (seg f o n)[j]? = some v) : j < n ∧ v = f (o + j) := by
  simp only [seg, List.getElem?_map, Option.map_eq_some_iff] at h
  obtain ⟨a, ha, rfl⟩ := h
  rw [List.getElem?_eq_some_iff] at ha
  obtain ⟨h1, h2⟩ := ha
  simp at h1 h2
  exact ⟨h1, by rw [h2]⟩
theorem seg_getD (f : Nat → Value) (o n j : Nat) (h : j < n) : (seg f o n).getD j undef = f (o + j) := by
  simp [seg, List.getD_eq_getElem?_getD, h]
theorem updL_in (f : Nat → Value) (o : Nat) (vs : List Value) (j : Nat) (h1 : o ≤ j) (h2 : j < o + vs.length) : updL f o vs j = vs.getD (j - o) undef := by unfold updL; rw [if_pos ⟨h1, h2⟩]
theorem updL_out (f : Nat → Value) (o : Nat) (vs : List Value) (j : Nat) (h : j < o ∨ o + vs.length ≤ j) : updL f o vs j = f j := by unfold updL; rw [if_neg (by omega)]

/-- 'copy' for the walk, where its run is known. -/
theorem wp_copy_is {P : Program} (w : World) {o : Oper} {a : Act} {K : Act → World → Prop} {Q : Exit → Act → World → Prop} (d s : Operand) (t t' : TypeId)
    (ho : o.op = .call { callee := .builtin .copy, args := #[d, s], argTypes := #[t, t'] }) (v u : Value) (hd : a.eval d = v) (hs : a.eval s = u) {v' : Value} {w' : World}
    (hr : (Builtin.copy_ #[t, t'] o.type #[v, u]).run P w = .ok v' w') (h : K (a.put o.dst v') w') : o.wp P a w K Q := by
  unfold Oper.wp execOp
  simp only [ho, resolve, invoke, builtin, Sem.run_bind, Sem.run_pure, Result.andThen_ok, List.map_toArray, List.map_cons, List.map_nil, hd, hs, hr]
  exact h
theorem wpList_copy_is {P : Program} (w : World) {ops : Array Oper} {rest : List Oper} {o : Oper} {a : Act} {Q : Exit → Act → World → Prop} (hgd : o.guard = none) (d s : Operand) (t t' : TypeId)
    (ho : o.op = .call { callee := .builtin .copy, args := #[d, s], argTypes := #[t, t'] }) (v u : Value) (hd : a.eval d = v) (hs : a.eval s = u) {v' : Value} {w' : World}
    (hr : (Builtin.copy_ #[t, t'] o.type #[v, u]).run P w = .ok v' w') (h : wpList P ops Q rest (a.put o.dst v') w') : wpList P ops Q (o :: rest) a w :=
  wpList_plain hgd fun _ hK => wp_copy_is w d s t t' ho v u hd hs hr (hK _ _ h)
theorem step_copy_is {P : Program} {ops : Array Oper} {o : Oper} {a : Act} {w : World} {K : Act → World → Prop} {Q : Exit → Act → World → Prop} {E : Prop}
    (hg : o.guard = none) (d x : Operand) (dT sT : TypeId) (hop : o.op = Op.call { callee := Callee.builtin Builtin.copy, args := #[d, x], argTypes := #[dT, sT] })
    (v u : Value) (hd : a.eval d = v) (hx : a.eval x = u) {v' : Value} {w' : World} (hr : (Builtin.copy_ #[dT, sT] o.type #[v, u]).run P w = .ok v' w') (hK : K (a.put o.dst v') w') :
    if Region.wanted o (yielded ops a.tmps) = true then Oper.wp P o a w K Q else E := by
  have hw : Region.wanted o (yielded ops a.tmps) = true := by simp [Region.wanted, hg]
  rw [if_pos hw]
  unfold Oper.wp
  simp [execOp, hop, resolve, invoke, builtin, hd, hx, hr, Result.andThen]
  exact hK
end Go.Proofs.Ytngjohckkgmggaa.H
