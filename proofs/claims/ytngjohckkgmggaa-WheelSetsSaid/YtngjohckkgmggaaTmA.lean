
import Derived.Test.YtngjohckkgmggaaP0
import Derived.Test.YtngjohckkgmggaaRowK
import Derived.Shelf.Abstract
import Derived.WalkSpells
import Derived.Lib.SliceRun
import Derived.Deep.RegionHeld3
import Derived.Deep.QuietTactic
import Derived.BigQuiet
import Derived.Deep.RegionLaw
import Derived.Laws.Externs
namespace Go.Proofs.Ytngjohckkgmggaa.H
open Go.RowKit Go.Proofs.YtngjohckkgmggaaW.PrintWords Go.Proofs.YtngjohckkgmggaaW.PrintLast Go.Proofs.Ytngjohckkgmggaa.P
set_option linter.unusedVariables false
set_option linter.unusedSimpArgs false
/-- A hold as a value. -/
abbrev encH (x : S64) : Value := .agg #[.int .i64 x.f0, .int .i64 x.f1]

/-- What is asked of a predicate's function. -/
def PredH (g : Nat) (lb : Array Value) (p : S64 → Bool) (w : World) : Prop :=
  ∀ (W : World) (x : S64), Below w.heap.size w W → Calls Try.prog g (#[encH x] ++ lb) W fun e w' => e = .returned (.bool (p x)) ∧ Below W.heap.size W w'

/-- The first place from i on. -/
def idx (p : S64 → Bool) : List S64 → Int → Int
  | [], _ => -1
  | x :: l, i => if p x then i else idx p l (i + 1)

theorem idx_none (p : S64 → Bool) (l : List S64) (i : Int) (h : ∀ x ∈ l, p x = false) : idx p l i = -1 := by
  induction l generalizing i with
  | nil => rfl
  | cons x l ih => simp [idx, h x (by simp), ih (i + 1) (fun y hy => h y (by simp [hy]))]

theorem idx_hit (p : S64 → Bool) (l : List S64) (k : Nat) (i : Int) (hk : k < l.length) (hp : p (l.getD k z64) = true) (h : ∀ j, j < k → p (l.getD j z64) = false) : idx p l i = i + k := by
  induction l generalizing i k with
  | nil => simp at hk
  | cons x l ih =>
    cases k with
    | zero => simp [idx] at *; intro h; rw [h] at hp; simp at hp
    | succ k =>
      have h0 := h 0 (by omega)
      simp at h0 hp hk
      rw [idx, h0, if_neg (by simp), ih k (i + 1) hk (by simpa using hp) (fun j hj => by simpa using h (j + 1) (by omega))]
      push_cast
      omega

set_option maxHeartbeats 2000000 in
theorem indexFunc (p : S64 → Bool) (g : Nat) (lb : Array Value) (eg : ∀ args w, (callFunc g args).run Try.prog w = .ok (.enter g args) w) (A : Option Addr) (c : Nat) (l : List S64) (w : World)
    (hr : Kd.C k64 w A l.length l) (hp : PredH g lb p w) :
    Calls Try.prog 32 #[.slice A l.length c, .func (.func g) #[] lb] w fun e w' => e = .returned (.int .i64 (idx p l 0)) ∧ Below w.heap.size w w' := by
  have hu := Try.underlying64
  have hbig := hr.2.1
  have HR := Aside0.mk hr
  have HP := Aside0.mk hp
  clear hr hp
  go_enter Try.func32, Try.ntmps32
  go_wp2
  go_loopg [5, 8] l.length (fun gg _ s8 wr => ∃ kk : Int, s8 = .int .i64 kk ∧ Aside0 (0 ≤ kk ∧ kk ≤ l.length ∧ l.length - kk.toNat ≤ gg) ∧ Aside0 (Below w.heap.size w wr) ∧ Aside0 (∀ j, j < kk.toNat → p (l.getD j z64) = false))
  case atStart => exact ⟨0, rfl, ⟨by omega, by omega, by omega⟩, ⟨Below.refl _ w⟩, ⟨fun j hj => absurd hj (Nat.not_lt_zero _)⟩⟩
  case round =>
    obtain ⟨kk, rfl, HK, BW, AF⟩ := hrel
    have p0 : 0 ≤ kk := HK.out.1
    by_cases hlt : kk < (l.length : Int)
    · obtain ⟨ad, e0, h0, h1⟩ := at_T64 HR.out kk p0 hlt
      cases e0
      replace h0 := (BW.out.cell (World.block_lt_of_cell? w _ h0)).trans h0
      replace h1 := (BW.out.cell (World.block_lt_of_cell? w _ h1)).trans h1
      generalize hy : rd_T64 l kk = y at h0 h1
      have B := Aside0.mk hy
      clear hy
      have HC := Aside0.mk (HP.out wr y BW.out)
      have HL := Aside0.mk hlt
      have cb : decide (kk < (l.length : Int)) = true := decide_eq_true hlt
      have q0 : (0 ≤ kk) = True := eq_true p0
      have q1 : (kk < (l.length : Int)) = True := eq_true hlt
      clear hlt p0
      cases hq : p y with
      | true =>
        have HQ := Aside0.mk hq
        rw [hq] at HC
        clear hq
        go_wp2_with (go_at_fn g; refine HC.out.mono ?_; rintro e w' ⟨rfl, hb0⟩; have hb' := below_then BW.out BW.out.size hb0; clear hb0)
        go_ret
        refine ⟨?_, hb'⟩
        have h := idx_hit p l kk.toNat 0 (by have := HL.out; have := of_eq_true q0; omega) (by have := B.out; unfold rd_T64 at this; rw [this]; exact HQ.out) AF.out
        rw [h, Int.zero_add, Int.toNat_of_nonneg (of_eq_true q0)]
        rfl
      | false =>
        have HQ := Aside0.mk hq
        rw [hq] at HC
        clear hq
        have hw1 : wrap64 (kk + 1) = kk + 1 := by have := HL.out; have := of_eq_true q0; unfold wrap64; omega
        go_wp2_with (go_at_fn g; refine HC.out.mono ?_; rintro e w' ⟨rfl, hb0⟩; have hb' := below_then BW.out BW.out.size hb0; clear hb0)
        go_roundg (l.length - (kk.toNat + 1))
        case measure => have := HK.out; have := HL.out; omega
        case rel =>
          refine ⟨kk + 1, by first | rfl | (simp [hw1]; done), ⟨by have := HK.out; omega, by have := HL.out; omega, by have := HK.out; omega⟩, ⟨hb'⟩, ⟨fun j hj => ?_⟩⟩
          by_cases e : j = kk.toNat
          · subst e
            have := B.out; unfold rd_T64 at this; rw [this]; exact HQ.out
          · exact AF.out j (by omega)
    · have cb : decide (kk < (l.length : Int)) = false := decide_eq_false hlt
      have HL := Aside0.mk hlt
      clear hlt p0
      go_wp2
      go_ret
      refine ⟨?_, BW.out⟩
      rw [idx_none p l 0 (fun x hx => by
        obtain ⟨j, hj, rfl⟩ := List.mem_iff_getElem.1 hx
        have := AF.out j (by have := HL.out; have := HK.out; omega)
        rwa [List.getD_eq_getElem?_getD, List.getElem?_eq_getElem hj] at this)]
      rfl

theorem infoH : (Try.prog.info? 64).map (fun i => (i.zero, i.size, i.bytes)) = some (some (.agg #[(.int .i64 0), (.int .i64 0)]), 2, 16) := by kernel_rfl

theorem flatH {w : World} {A : Option Addr} {n : Nat} {l : List S64} (h : Kd.C k64 w A n l) : ReadsRow (fun (x : S64) cs => cs = [.int .i64 x.f0, .int .i64 x.f1]) 2 w A n l :=
  ReadsRow.imp_ h (Below.refl _ _) (fun _ _ hp => k64_open hp)

set_option maxHeartbeats 1000000 in
theorem clone_calls (A : Option Addr) (c : Nat) (l : List S64) (w : World) (hr : Kd.C k64 w A l.length l) (hl : l.length ≤ 8796093022208) :
    Calls Try.prog 24 #[.slice A l.length c] w fun e w' => ∃ v, e = .returned v ∧ Kd.R k64 64 w' w.heap.size (fun _ => True) v l ∧ Below w.heap.size w w' := by
  have HR := Aside0.mk (flatH hr)
  have HL := Aside0.mk hl
  have hne := fun (w : World) (a : Option Addr) (n c : Nat) => Lib.run_eql_slice_nil (P := Try.prog) w 26 64 a n c 0 0 Try.underlying26
  cases A with
  | none =>
    have h0 : l = [] := by
      cases l with
      | nil => rfl
      | cons x l => obtain ⟨ad, h, _⟩ := hr.2.2 (by simp); cases h
    subst h0
    clear hr hl HR HL
    go_enter Try.func24, Try.ntmps24
    go_wp2
    go_ret
    exact ⟨_, rfl, Kd.R_nil _ _ _ _ _, Below.refl _ _⟩
  | some ad =>
    clear hr hl
    go_enter Try.func24, Try.ntmps24
    have HO : Aside0 (Kd.R k64 64 (w.alloc (.cells #[] 64)) w.heap.size (fun _ => True) (.slice (some ⟨w.heap.size, 0, none⟩) 0 0) []) :=
      ⟨fun _ _ => trivial, [], ⟨by simp, .inr ⟨w.heap.size, 0, #[], rfl, Nat.le_refl _, heap_alloc_new _ _, Nat.le_refl _, by simp, by simp, by simp⟩⟩, Reps.none _ _⟩
    have HRB := Aside0.mk (ReadsRow.imp_ HR.out ((Below.refl w.heap.size w).alloc (Nat.le_refl _) (.cells #[] 64)) (fun _ _ hp => hp))
    go_wp2_with ((with_reducible refine gate_builtin (b := .append) (xs := #[.tmp 5, .tmp 6]) rfl ?_); at_builtin; refine Kd.R_append_rows k64 (w0 := w) w.heap.size rfl (.tmp 5) (.tmp 6) 26 64 (.agg #[(.int .i64 0), (.int .i64 0)]) 16 rfl Try.underlying26 infoH rfl (by decide) (by omega) (.slice (some ⟨w.heap.size, 0, none⟩) 0 0) [] l (some ad) l.length c (fun _ => True) (fun _ => False) rfl rfl HO.out HRB.out (fun x cs hx => by subst hx; exact k64_mkM _ _ _ x) (fun _ h => h.elim) (fun _ _ => trivial) (below_alloc (Below.refl _ _) _) (by simp) (by have := HL.out; simp; omega) ?_; rintro v1 w1 hR hB hg hat; have HR1 := Aside0.mk hR; have HB1 := Aside0.mk hB; clear hR hB hg hat)
    go_ret
    exact ⟨_, rfl, HR1.out, HB1.out⟩

theorem below_box {w W W' : World} {o : Obj} (h : Below (w.heap.size + 1) (w.alloc o) W) (hb : Below W.heap.size W W') : Below (w.heap.size + 1) (w.alloc o) W' :=
  below_then h (by have := h.size; simpa using this) hb

theorem below_unbox {w W : World} {o : Obj} (h : Below (w.heap.size + 1) (w.alloc o) W) : Below w.heap.size w W :=
  below_then (below_alloc (Below.refl _ _) o) (by simp) (show Below (w.alloc o).heap.size (w.alloc o) W from by rw [show (w.alloc o).heap.size = w.heap.size + 1 from by simp]; exact h)


theorem bt {w W W' : World} (h : Below w.heap.size w W) (k : Below W.heap.size W W') : Below w.heap.size w W' := below_then h h.size k


def cellsH (x : S64) : List Value := [.int .i64 x.f0, .int .i64 x.f1]
theorem flatK : Flat k64 2 cellsH := ⟨rfl, fun _ => rfl, ⟨fun h => k64_openM h, fun h => by subst h; exact k64_mkM _ _ _ _⟩, ⟨fun h => k64_open h, fun h => by subst h; exact k64_mk _ _⟩⟩

/-- Element a of a row is x. -/
structure AtH (f : Nat → Value) (a : Nat) (x : S64) : Prop where
  c0 : f (a * 2) = .int .i64 x.f0
  c1 : f (a * 2 + 1) = .int .i64 x.f1
theorem atH_of {f : Nat → Value} {l : List S64} (h : ∀ i j, ∀ hi : i < l.length, j < 2 → some (f (i * 2 + j)) = (cellsH l[i])[j]?) (i : Nat) (hi : i < l.length) : AtH f i (l.getD i z64) := by
  have e : l.getD i z64 = l[i] := by rw [List.getD_eq_getElem?_getD, List.getElem?_eq_getElem hi]; rfl
  rw [e]
  exact ⟨by simpa [cellsH] using h i 0 hi (by omega), by simpa [cellsH] using h i 1 hi (by omega)⟩
theorem atH_to {f : Nat → Value} {l : List S64} (h : ∀ i, i < l.length → AtH f i (l.getD i z64)) (i j : Nat) (hi : i < l.length) (hj : j < 2) : some (f (i * 2 + j)) = (cellsH l[i])[j]? := by
  have := h i hi
  rw [show l.getD i z64 = l[i] from by rw [List.getD_eq_getElem?_getD, List.getElem?_eq_getElem hi]; rfl] at this
  match j, hj with
  | 0, _ => simpa [cellsH] using this.c0
  | 1, _ => simpa [cellsH] using this.c1
theorem at_updL {f : Nat → Value} {o a : Nat} {vs : List Value} {y : S64} (h : AtH f a y) (ha : a * 2 + 2 ≤ o ∨ o + vs.length ≤ a * 2) : AtH (updL f o vs) a y := by
  constructor <;> (simp only [updL]; rw [if_neg (by omega)])
  · exact h.c0
  · exact h.c1

def insH (l : List S64) (i : Nat) (x : S64) : List S64 := l.take i ++ x :: l.drop i
theorem insH_len (l : List S64) (i : Nat) (x : S64) (hi : i ≤ l.length) : (insH l i x).length = l.length + 1 := by simp [insH]; omega
theorem insH_lt (l : List S64) (i : Nat) (x : S64) (hi : i ≤ l.length) (a : Nat) (ha : a < i) : (insH l i x).getD a z64 = l.getD a z64 := by
  simp only [insH, List.getD_eq_getElem?_getD]
  rw [List.getElem?_append_left (by simp; omega), List.getElem?_take, if_pos ha]
theorem insH_eq (l : List S64) (i : Nat) (x : S64) (hi : i ≤ l.length) : (insH l i x).getD i z64 = x := by
  simp only [insH, List.getD_eq_getElem?_getD]
  rw [List.getElem?_append_right (by simp; omega), List.length_take, show i - min i l.length = 0 from by omega]
  rfl
theorem insH_gt (l : List S64) (i : Nat) (x : S64) (hi : i ≤ l.length) (a : Nat) (ha : i < a) : (insH l i x).getD a z64 = l.getD (a - 1) z64 := by
  simp only [insH, List.getD_eq_getElem?_getD]
  rw [List.getElem?_append_right (by simp; omega), List.length_take, show a - min i l.length = (a - 1 - i) + 1 from by omega, List.getElem?_cons_succ, List.getElem?_drop, show i + (a - 1 - i) = a - 1 from by omega]

theorem at_seg {f f' : Nat → Value} {s m o a : Nat} {y : S64} (h : AtH f (s + (a - o)) y) (h1 : o ≤ a) (h2 : a < o + m) : AtH (updL f' (o * 2) (seg f (s * 2) (m * 2))) a y := by
  constructor
  · rw [updL_in _ _ _ _ (by omega) (by rw [seg_len]; omega), seg_getD _ _ _ _ (by omega), show s * 2 + (a * 2 - o * 2) = (s + (a - o)) * 2 from by omega]; exact h.c0
  · rw [updL_in _ _ _ _ (by omega) (by rw [seg_len]; omega), seg_getD _ _ _ _ (by omega), show s * 2 + (a * 2 + 1 - o * 2) = (s + (a - o)) * 2 + 1 from by omega]; exact h.c1
theorem at_cells (f : Nat → Value) (i : Nat) (x : S64) : AtH (updL f (i * 2) (cellsH x)) i x := by
  constructor
  · rw [updL_in _ _ _ _ (by omega) (by simp [cellsH])]; simp [cellsH]
  · rw [updL_in _ _ _ _ (by omega) (by simp [cellsH])]; simp [cellsH]

/-- In place: the elements from i on go up by one, then x is laid at i. -/
theorem ins_place {W : World} {base G cap : Nat} {f : Nat → Value} {l : List S64} {i : Nat} {x : S64} (hb : base ≤ G) (hi : i < l.length) (hc : l.length + 1 ≤ cap) (hm : cap ≤ maxLen)
    (h : Row W G 64 (cap * 2) (updL (updL f ((i + 1) * 2) (seg f (i * 2) ((l.length - i) * 2))) (i * 2) (cellsH x))) (hf : ∀ a, a < l.length → AtH f a (l.getD a z64)) :
    Kd.R k64 64 W base (fun _ => True) (.slice (some ⟨G, 0, none⟩) (l.length + 1) cap) (insH l i x) := by
  rw [← insH_len l i x (by omega)]
  refine row_own flatK (fun _ => trivial) hb (by rw [insH_len l i x (by omega)]; exact hc) hm h (atH_to fun a ha => ?_)
  rw [insH_len l i x (by omega)] at ha
  by_cases h1 : a < i
  · rw [insH_lt l i x (by omega) a h1]
    exact at_updL (at_updL (hf a (by omega)) (.inl (by omega))) (.inl (by omega))
  · by_cases h2 : a = i
    · subst h2
      rw [insH_eq l a x (by omega)]
      exact at_cells _ _ _
    · rw [insH_gt l i x (by omega) a (by omega)]
      refine at_updL (at_seg ?_ (by omega) (by omega)) (.inr (by simp [cellsH]; omega))
      rw [show i + (a - (i + 1)) = a - 1 from by omega]
      exact hf (a - 1) (by omega)
/-- In a new row. -/
theorem ins_new {W : World} {base G cap : Nat} {f f' : Nat → Value} {l : List S64} {i : Nat} {x : S64} (hb : base ≤ G) (hi : i < l.length) (hc : l.length + 1 ≤ cap) (hm : cap ≤ maxLen)
    (h : Row W G 64 (cap * 2) (updL (updL f' (i * 2) (cellsH x)) ((i + 1) * 2) (seg f (i * 2) ((l.length - i) * 2)))) (hf : ∀ a, a < l.length → AtH f a (l.getD a z64)) (hf' : ∀ j, j < i * 2 → f' j = f j) :
    Kd.R k64 64 W base (fun _ => True) (.slice (some ⟨G, 0, none⟩) (l.length + 1) cap) (insH l i x) := by
  rw [← insH_len l i x (by omega)]
  refine row_own flatK (fun _ => trivial) hb (by rw [insH_len l i x (by omega)]; exact hc) hm h (atH_to fun a ha => ?_)
  rw [insH_len l i x (by omega)] at ha
  by_cases h1 : a < i
  · rw [insH_lt l i x (by omega) a h1]
    refine at_updL (at_updL ?_ (.inl (by omega))) (.inl (by omega))
    have := hf a (by omega)
    exact ⟨by rw [hf' _ (by omega)]; exact this.c0, by rw [hf' _ (by omega)]; exact this.c1⟩
  · by_cases h2 : a = i
    · subst h2
      rw [insH_eq l a x (by omega)]
      exact at_updL (at_cells _ _ _) (.inl (by omega))
    · rw [insH_gt l i x (by omega) a (by omega)]
      refine at_seg ?_ (by omega) (by omega)
      rw [show i + (a - (i + 1)) = a - 1 from by omega]
      exact hf (a - 1) (by omega)

theorem cellsH_one (x : S64) : ∀ v ∈ cellsH x, v.oneCell' = true := by
  intro u hu
  simp [cellsH] at hu
  rcases hu with rfl | rfl <;> rfl

set_option maxHeartbeats 2000000 in
/-- Behind the last one. -/
theorem insert_end (l : List S64) (v : Value) (x : S64) (vb : Nat) (w0 w : World) (hB : Below w0.heap.size w0 w) (HO : Kd.R k64 64 w w0.heap.size (fun _ => True) v l) (hx : w.heap[vb]? = some (.cells (cellsH x).toArray 64 (0, 0))) (hl : l.length + 1 ≤ 8796093022208) :
    Calls Try.prog 28 #[v, .int .i64 (l.length : Int), .slice (some ⟨vb, 0, none⟩) 1 1] w fun e w' => ∃ v1, e = .returned v1 ∧ Kd.R k64 64 w' w0.heap.size (fun _ => True) v1 (insH l l.length x) ∧ Below w0.heap.size w0 w' := by
  obtain ⟨A, c, hv, hlc, hC⟩ := Kd.R_reads HO
  have HH : Aside0 (∃ v1 w1, (Builtin.append_ #[26, 26] 26 #[v, .slice (some ⟨vb, 0, none⟩) 1 1]).run Try.prog w = .ok v1 w1 ∧ Kd.R k64 64 w1 w0.heap.size (fun _ => True) v1 (insH l l.length x) ∧ Below w0.heap.size w0 w1) := by
    refine ⟨?_⟩
    obtain ⟨i0, hi, hzz⟩ := Option.map_eq_some_iff.1 infoH
    simp only [Prod.mk.injEq] at hzz
    obtain ⟨hz0, hz1, hz2⟩ := hzz
    obtain ⟨hok, inner, hown, hr⟩ := HO
    obtain ⟨v1, w1, hrun, h2, hg, _, hat⟩ := run_append_own_at (P := Try.prog) w w0.heap.size 26 26 64 i0 _ 2 16 Try.underlying26 hi hz0 hz1 hz2 rfl (by omega) v l.length inner hown ⟨vb, 0, none⟩ 1 1 (cellsH x) rfl (fun j u hj => by rw [add_plain]; simp only [World.cell?, hx]; simpa using hj) (cellsH_one x) (by simp only [maxLen]; omega) (by omega) hB.size
    refine ⟨v1, w1, ?_, ⟨fun _ _ => trivial, inner ++ cellsH x, by rw [insH_len l l.length x (Nat.le_refl _)]; exact h2, ?_⟩, hB.grown hg hB.size (own_base hown)⟩
    · rw [hv]
      rw [append_tu Try.underlying26 Try.underlying26 hi, ← hv]
      exact hrun
    · have hins : insH l l.length x = l ++ [x] := by simp [insH]
      rw [hins]
      have h1 : Reps (k64.M w1 w0.heap.size (fun k => True ∧ some k ≠ v1.ownBlock)) 2 l inner := hr.imp_ (fun p c hp => by rw [k64_openM hp]; exact k64_mkM _ _ _ _)
      exact Reps.snoc h1 (k64_mkM _ _ _ x) rfl
  clear hC HO hB hx
  have HV := Aside0.mk hv
  subst hv
  have b0 : (l.length : Int) ≤ 8796093022208 := by omega
  have q0 : ((1 : Int) == 0) = false := rfl
  have q1 : ((l.length : Int) == (l.length : Int)) = true := by simp
  go_enter Try.func28, Try.ntmps28
  obtain ⟨v1, w1, hrun, hR, hBw⟩ := HH.out
  have HR1 := Aside0.mk hR
  have HB1 := Aside0.mk hBw
  clear hR hBw HH
  go_wp2_with (at_builtin; refine Lib.wpList_append_run _ rfl _ _ _ _ rfl _ _ rfl rfl _ _ hrun ?_)
  all_goals (go_ret; exact ⟨v1, rfl, HR1.out, HB1.out⟩)

theorem seg_one {f : Nat → Value} {l : List S64} (hf : ∀ a, a < l.length → AtH f a (l.getD a z64)) (i : Nat) (hi : i < l.length) : ∀ v ∈ seg f (i * 2) ((l.length - i) * 2), v.oneCell' = true := by
  intro v hv
  obtain ⟨j, hj, rfl⟩ := List.mem_iff_getElem.1 hv
  rw [seg_len] at hj
  obtain ⟨_, h2⟩ := seg_get f (i * 2) ((l.length - i) * 2) j _ (List.getElem?_eq_getElem (by rw [seg_len]; exact hj))
  rw [h2]
  have ha := hf (i + j / 2) (by omega)
  have e : i * 2 + j = (i + j / 2) * 2 + j % 2 := by omega
  rw [e]
  rcases (show j % 2 = 0 ∨ j % 2 = 1 by omega) with h | h <;> rw [h]
  · show (f ((i + j / 2) * 2)).oneCell' = true; rw [ha.c0]; rfl
  · rw [ha.c1]; rfl


theorem sizeH : (Try.prog.info? 64).map (·.size) = some 2 := by kernel_rfl
theorem sizeOfH : ∀ w, (Go.sizeOf 64).run Try.prog w = .ok 2 w := fun w => by kernel_rfl

theorem overlaps_no (w : World) (G vb o m vc lb cb N : Nat) (f : Nat → Value) (x : S64) (hne : vb ≠ G) (h : Row w G 64 N f) (hN : 0 < N) (hx : w.heap[vb]? = some (.cells (cellsH x).toArray 64 (0, 0))) :
    (callFunc 37 #[.slice (some ⟨vb, 0, none⟩) m vc, .slice (some ⟨G, o, none⟩) lb cb]).run Try.prog w = .ok (.value (.bool false)) w := by
  obtain ⟨cur, hg, hs, hc⟩ := h
  have h1 : w.shape? vb = some (64, 2) := by simp [World.shape?, hx, cellsH]
  have h2 : w.shape? G = some (64, N) := by simp [World.shape?, hg, hs]
  rw [run_callFunc_extern Try.func37 (by kernel_rfl) (by kernel_rfl) (by kernel_rfl) (e := Extern.SlicesOverlaps.overlaps #[26, 26] #[4]) (by kernel_rfl),
    Lib.run_overlaps_apart w 26 4 64 Try.underlying26 2 sizeOfH ⟨vb, 0, none⟩ ⟨G, o, none⟩ m vc lb cb hne 64 64 2 N h1 h2 (by omega) (by simp [World.frozen?, hx]) (by simp [World.frozen?, hx])]
  rfl

set_option maxRecDepth 100000 in
set_option maxHeartbeats 4000000 in
/-- In the row, there being room. -/
theorem insert_place (l : List S64) (G cap i vb : Nat) (f : Nat → Value) (x : S64) (w0 w : World) (hB : Below w0.heap.size w0 w) (hG : w0.heap.size ≤ G) (hi : i < l.length) (hc : l.length + 1 ≤ cap) (hm : cap ≤ maxLen) (hne : vb ≠ G)
    (hrow : Row w G 64 (cap * 2) f) (hf : ∀ a, a < l.length → AtH f a (l.getD a z64)) (hx : w.heap[vb]? = some (.cells (cellsH x).toArray 64 (0, 0))) (hl : l.length + 1 ≤ 8796093022208) :
    Calls Try.prog 28 #[.slice (some ⟨G, 0, none⟩) l.length cap, .int .i64 (i : Int), .slice (some ⟨vb, 0, none⟩) 1 1] w fun e w' => ∃ v1, e = .returned v1 ∧ Kd.R k64 64 w' w0.heap.size (fun _ => True) v1 (insH l i x) ∧ Below w0.heap.size w0 w' := by
  have hov := fun lb cb => overlaps_no w G vb ((i + 1) * 2) 1 1 lb cb (cap * 2) f x hne hrow (by omega) hx
  have hseg1 := seg_one hf i hi
  obtain ⟨cur1, hrun1, hrow1⟩ := (hrow.drew).copy (P := Try.prog) (k := 2) 26 26 3 ((i + 1) * 2) (l.length - i) (cap - (i + 1)) ⟨G, i * 2, none⟩ (l.length + 1 - i) (cap - i) (seg f (i * 2) ((l.length - i) * 2)) Try.underlying26 sizeH
    (by rw [seg_len]; congr 1; simp only [Nat.min_def]; split <;> omega)
    (fun j v hj => by obtain ⟨h1, h2⟩ := seg_get _ _ _ _ _ hj; rw [h2, show (⟨G, i * 2, none⟩ : Addr).add j = ⟨G, i * 2 + j, none⟩ from by unfold Addr.add; split <;> simp_all]; exact hrow.drew.cell (by omega))
    (by rw [seg_len]; omega) hseg1
  have hvx : (w.drew.setRow G cur1).heap[vb]? = some (.cells (cellsH x).toArray 64 (0, 0)) := by rw [setRow_other _ _ _ _ hne]; exact hx
  obtain ⟨cur2, hrun2, hrow2⟩ := hrow1.copy (P := Try.prog) (k := 2) 26 26 3 (i * 2) (l.length + 1 - i) (cap - i) ⟨vb, 0, none⟩ 1 1 (cellsH x) Try.underlying26 sizeH
    (by rw [show Nat.min 1 (l.length + 1 - i) = 1 from by simp only [Nat.min_def]; rw [if_pos (by omega)]]; rfl)
    (fun j v hj => by rw [add_plain]; simp only [World.cell?, hvx]; simpa using hj) (by simp [cellsH]; omega) (cellsH_one x)
  have HR := Aside0.mk (ins_place hG hi hc hm hrow2 hf)
  have HB := Aside0.mk (below_set_row (below_set_row (below_drew hB) hG cur1) hG cur2)
  have H1 := Aside0.mk hrun1
  have H2 := Aside0.mk hrun2
  have b1 : (i : Int) < (l.length : Int) := by omega
  have b2 : (l.length : Int) < (cap : Int) := by omega
  have b3 : (l.length : Int) ≤ 8796093022207 := by omega
  have q0 : ((1 : Int) == 0) = false := rfl
  have d1 : decide ((cap : Int) < (l.length : Int) + 1) = false := decide_eq_false (by omega)
  have q1 : ((i : Int) == (l.length : Int)) = false := by rw [beq_eq_false_iff_ne]; omega
  have t1 : ((i : Int) + 1).toNat = i + 1 := by omega
  have t2 : ((l.length : Int) + 1).toNat = l.length + 1 := by omega
  have n1 : ¬ cap = i := by omega
  have n2 : ¬ cap = i + 1 := by omega
  have n3 : i ≤ l.length := by omega
  have n4 : l.length < cap := hc
  clear hB hrow hf hx hrun1 hrun2 hrow1 hrow2 hseg1 hvx hm hl hG hc hi
  go_enter Try.func28, Try.ntmps28
  go_wp2_with (simp only [hov])
  have w1 : IntKind.i64.wrap ((i : Int) + 1) = (i : Int) + 1 := by rw [IntKind.wrap_i64]; omega
  have w2 : (0 : Int) ≤ (i : Int) + 1 := by omega
  have w3 : (i : Int) ≤ (l.length : Int) := by omega
  have w4 : (i : Int) ≤ (l.length : Int) + 1 := by omega
  have w5 : (i : Int) + 1 ≤ (l.length : Int) + 1 := by omega
  go_region_law (refine step_copy_is rfl _ _ 26 26 rfl _ _ (by simp [Act.eval, Act.put]) (by simp [Act.eval, Act.put]) H1.out ?_)
  go_wp2_with ((with_reducible refine gate_builtin (b := .copy) (xs := #[.tmp 80, .tmp 81]) rfl ?_); refine wpList_copy_is _ rfl _ _ 26 26 rfl _ _ rfl rfl H2.out ?_)
  go_ret
  exact ⟨_, rfl, HR.out, HB.out⟩

set_option maxRecDepth 100000 in
set_option maxHeartbeats 4000000 in
/-- In a new row, there being no room. -/
theorem insert_grow (l : List S64) (G cap i vb : Nat) (f : Nat → Value) (x : S64) (w0 w : World) (hB : Below w0.heap.size w0 w) (hG : w0.heap.size ≤ G) (hi : i < l.length) (hc0 : l.length ≤ cap) (hc : cap < l.length + 1)
    (hrow : Row w G 64 (cap * 2) f) (hf : ∀ a, a < l.length → AtH f a (l.getD a z64)) (hx : w.heap[vb]? = some (.cells (cellsH x).toArray 64 (0, 0))) (hl : l.length + 1 ≤ 8796093022208) :
    Calls Try.prog 28 #[.slice (some ⟨G, 0, none⟩) l.length cap, .int .i64 (i : Int), .slice (some ⟨vb, 0, none⟩) 1 1] w fun e w' => ∃ v1, e = .returned v1 ∧ Kd.R k64 64 w' w0.heap.size (fun _ => True) v1 (insH l i x) ∧ Below w0.heap.size w0 w' := by
  obtain rfl : cap = l.length := by omega
  have hvb : vb < w.heap.size := (Array.getElem?_eq_some_iff.1 hx).1
  obtain ⟨C, W', f', hrunA, hC1, hC2, hBA, hrowA, hold⟩ := append_zeros_grow (P := Try.prog) (t := 26) (tn := 3) hrow 26 .i64 Try.underlying26 Try.underlying3 infoH rfl (by omega) (by omega) i (l.length + 1 - i) (by omega) (by omega) (by omega)
  rw [show i + (l.length + 1 - i) = l.length + 1 from by omega] at hrunA hC1
  rw [show ((l.length + 1 - i : Nat) : Int) = (l.length : Int) + 1 - (i : Int) from by omega] at hrunA
  have hxA : W'.heap[vb]? = some (.cells (cellsH x).toArray 64 (0, 0)) := (hBA.block vb hvb).trans hx
  obtain ⟨cur1, hrun1, hrow1⟩ := hrowA.copy (P := Try.prog) (k := 2) 26 26 3 (i * 2) (l.length + 1 - i) (C - i) ⟨vb, 0, none⟩ 1 1 (cellsH x) Try.underlying26 sizeH
    (by rw [show Nat.min 1 (l.length + 1 - i) = 1 from by simp only [Nat.min_def]; rw [if_pos (by omega)]]; rfl)
    (fun j v hj => by rw [add_plain]; simp only [World.cell?, hxA]; simpa using hj) (by simp [cellsH]; omega) (cellsH_one x)
  have hGne : G ≠ w.heap.size := Nat.ne_of_lt hrow.lt
  have hrowG : Row ((W'.setRow w.heap.size cur1).drew) G 64 (l.length * 2) f := (Row.same (hrow.below hBA) (setRow_other _ _ _ _ hGne)).drew
  obtain ⟨cur2, hrun2, hrow2⟩ := (hrow1.drew).copy (P := Try.prog) (k := 2) 26 26 3 ((i + 1) * 2) (l.length - i) (C - (i + 1)) ⟨G, i * 2, none⟩ (l.length - i) (l.length - i) (seg f (i * 2) ((l.length - i) * 2)) Try.underlying26 sizeH
    (by rw [seg_len, show Nat.min (l.length - i) (l.length - i) = l.length - i from by simp only [Nat.min_def]; split <;> rfl])
    (fun j v hj => by obtain ⟨h1, h2⟩ := seg_get _ _ _ _ _ hj; rw [h2, show (⟨G, i * 2, none⟩ : Addr).add j = ⟨G, i * 2 + j, none⟩ from by unfold Addr.add; split <;> simp_all]; exact hrowG.cell (by omega))
    (by rw [seg_len]; omega) (seg_one hf i hi)
  have HR := Aside0.mk (ins_new hB.size hi hC1 hC2 hrow2 hf hold)
  have HB := Aside0.mk (below_set_row (below_drew (below_set_row (below_then hB hB.size hBA) hB.size cur1)) hB.size cur2)
  have H1 := Aside0.mk hrun1
  have H2 := Aside0.mk hrun2
  have HA := Aside0.mk hrunA
  have b1 : (i : Int) < (l.length : Int) := by omega
  have b3 : (l.length : Int) ≤ 8796093022207 := by omega
  have q0 : ((1 : Int) == 0) = false := rfl
  have q1 : ((i : Int) == (l.length : Int)) = false := by rw [beq_eq_false_iff_ne]; omega
  have d1 : decide ((l.length : Int) < (l.length : Int) + 1) = true := decide_eq_true (by omega)
  have t1 : ((i : Int) + 1).toNat = i + 1 := by omega
  have t2 : ((l.length : Int) + 1).toNat = l.length + 1 := by omega
  have n1 : ¬ l.length = i := by omega
  have n2 : ¬ C = i := by omega
  have n6 : ¬ C = i + 1 := by omega
  have n3 : i ≤ l.length := by omega
  have n4 : l.length < C := hC1
  have n7 : i ≤ C := by omega
  clear hB hrow hf hx hrun1 hrun2 hrow1 hrow2 hxA hl hG hi hc hc0 hrunA hC1 hC2 hBA hrowA hold hrowG hGne hvb
  go_enter Try.func28, Try.ntmps28
  go_wp2_with (first | ((with_reducible refine gate_builtin (b := .append) (xs := #[.tmp 34, .tmp 39]) rfl ?_); refine Lib.wpList_append_run _ rfl _ _ _ _ rfl _ _ rfl rfl _ _ HA.out ?_) | ((with_reducible refine gate_builtin (b := .copy) (xs := #[.tmp 43, .tmp 44]) rfl ?_); refine wpList_copy_is _ rfl _ _ 26 26 rfl _ _ rfl rfl H1.out ?_))
  have w1 : IntKind.i64.wrap ((i : Int) + 1) = (i : Int) + 1 := by rw [IntKind.wrap_i64]; omega
  have w2 : (0 : Int) ≤ (i : Int) + 1 := by omega
  have w3 : (i : Int) ≤ (l.length : Int) := by omega
  have w4 : (i : Int) ≤ (l.length : Int) + 1 := by omega
  go_region_law (refine step_copy_is rfl _ _ 26 26 rfl _ _ (by simp [Act.eval, Act.put]) (by simp [Act.eval, Act.put]) H2.out ?_)
  go_wp2
  go_ret
  exact ⟨_, rfl, HR.out, HB.out⟩

theorem insert_calls (l : List S64) (v : Value) (i vb : Nat) (x : S64) (w0 w : World) (hB : Below w0.heap.size w0 w) (HO : Kd.R k64 64 w w0.heap.size (fun _ => True) v l) (hi : i ≤ l.length) (hne : v.ownBlock ≠ some vb)
    (hx : w.heap[vb]? = some (.cells (cellsH x).toArray 64 (0, 0))) (hl : l.length + 1 ≤ 8796093022208) :
    Calls Try.prog 28 #[v, .int .i64 (i : Int), .slice (some ⟨vb, 0, none⟩) 1 1] w fun e w' => ∃ v1, e = .returned v1 ∧ Kd.R k64 64 w' w0.heap.size (fun _ => True) v1 (insH l i x) ∧ Below w0.heap.size w0 w' := by
  by_cases he : i = l.length
  · subst he
    exact insert_end l v x vb w0 w hB HO hx hl
  · rcases own_row flatK HO with ⟨rfl, rfl⟩ | ⟨G, cap, f, rfl, hG, hc, hm, hrow, hf⟩
    · simp at hi he; omega
    · have hne' : vb ≠ G := fun e => hne (by simp [Value.ownBlock, e])
      by_cases hcc : l.length + 1 ≤ cap
      · exact insert_place l G cap i vb f x w0 w hB hG (by omega) hcc hm hne' hrow (atH_of hf) hx hl
      · exact insert_grow l G cap i vb f x w0 w hB hG (by omega) hc (by omega) hrow (atH_of hf) hx hl


end Go.Proofs.Ytngjohckkgmggaa.H
