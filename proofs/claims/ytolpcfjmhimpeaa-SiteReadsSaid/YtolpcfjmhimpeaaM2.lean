/- Several texts in one: DlA DlB DlC DlD DlE DlF DlG DlH RecA SiteHand. -/
import Derived.Test.YtolpcfjmhimpeaaP0
import Derived.Test.YtolpcfjmhimpeaaM1
import Derived.Shelf.Abstract
import Derived.WalkSpells
import Derived.Lib.SliceRun
import Derived.Deep.RegionHeld3
import Derived.Deep.QuietTactic
import Derived.BigQuiet
import Derived.Deep.RegionLaw
import Derived.Laws.Externs
import Derived.Test.YtolpcfjmhimpeaaP2
import Derived.Test.YtolpcfjmhimpeaaP3
import Derived.RegionTactic
import Derived.ChangeAlike
import Derived.RangeFuncNested
import Derived.RangeFuncBox
import Derived.RangeFuncLeaves
import Derived.RangeFuncBound
import Derived.RangeFuncCalls
import Derived.OwnWalkIn
import Derived.TacticsInMore
import Derived.LoopNIn
import Derived.LoopIn
import Derived.Maps.AppendAt
namespace Go.Proofs.Ytolpcfjmhimpeaa.HD
open Go.RowKit Go.Proofs.YtolpcfjmhimpeaaW.PrintWords Go.Proofs.YtolpcfjmhimpeaaW.PrintLast Go.Proofs.Ytolpcfjmhimpeaa.P Go.Proofs.Ytolpcfjmhimpeaa.H
set_option linter.unusedVariables false
set_option linter.unusedSimpArgs false
/-- A hold as a value. -/
abbrev encH (x : S73) : Value := .agg #[.int .u8 x.f0, .int .i64 x.f1]

/-- What is asked of a predicate's function. -/
def PredH (g : Nat) (lb : Array Value) (p : S73 → Bool) (w : World) : Prop :=
  ∀ (W : World) (x : S73), Below w.heap.size w W → Calls Try.prog g (#[encH x] ++ lb) W fun e w' => e = .returned (.bool (p x)) ∧ Below W.heap.size W w'

/-- The first place from i on. -/
def idx (p : S73 → Bool) : List S73 → Int → Int
  | [], _ => -1
  | x :: l, i => if p x then i else idx p l (i + 1)

theorem idx_none (p : S73 → Bool) (l : List S73) (i : Int) (h : ∀ x ∈ l, p x = false) : idx p l i = -1 := by
  induction l generalizing i with
  | nil => rfl
  | cons x l ih => simp [idx, h x (by simp), ih (i + 1) (fun y hy => h y (by simp [hy]))]

theorem idx_hit (p : S73 → Bool) (l : List S73) (k : Nat) (i : Int) (hk : k < l.length) (hp : p (l.getD k z73) = true) (h : ∀ j, j < k → p (l.getD j z73) = false) : idx p l i = i + k := by
  induction l generalizing i k with
  | nil => simp at hk
  | cons x l ih =>
    cases k with
    | zero => simp [idx] at *; intro h; rw [h] at hp; simp at hp
    | succ k =>
      have h0 := h 0 (by omega)
      simp at h0 hp hk
      rw [idx, h0, if_neg (by simp), ih k (i + 1) hk (by simpa using hp) (fun j hj => by simpa using h (j + 1) (by omega))]
      push_cast
      omega

set_option maxRecDepth 100000 in
set_option maxHeartbeats 2000000 in
theorem indexFunc (p : S73 → Bool) (g : Nat) (lb : Array Value) (eg : ∀ args w, (callFunc g args).run Try.prog w = .ok (.enter g args) w) (A : Option Addr) (c : Nat) (l : List S73) (w : World)
    (hr : Kd.C k73 w A l.length l) (hp : PredH g lb p w) :
    Calls Try.prog 60 #[.slice A l.length c, .func (.func g) #[] lb] w fun e w' => e = .returned (.int .i64 (idx p l 0)) ∧ Below w.heap.size w w' := by
  have hu := Try.underlying73
  have hbig := hr.2.1
  have HR := Aside0.mk hr
  have HP := Aside0.mk hp
  clear hr hp
  go_enter Try.func60, Try.ntmps60
  go_wp2
  go_loopg [5, 8] l.length (fun gg _ s8 wr => ∃ kk : Int, s8 = .int .i64 kk ∧ Aside0 (0 ≤ kk ∧ kk ≤ l.length ∧ l.length - kk.toNat ≤ gg) ∧ Aside0 (Below w.heap.size w wr) ∧ Aside0 (∀ j, j < kk.toNat → p (l.getD j z73) = false))
  case atStart => exact ⟨0, rfl, ⟨by omega, by omega, by omega⟩, ⟨Below.refl _ w⟩, ⟨fun j hj => absurd hj (Nat.not_lt_zero _)⟩⟩
  case round =>
    obtain ⟨kk, rfl, HK, BW, AF⟩ := hrel
    have p0 : 0 ≤ kk := HK.out.1
    by_cases hlt : kk < (l.length : Int)
    · obtain ⟨ad, e0, h0, h1⟩ := at_T73 HR.out kk p0 hlt
      cases e0
      replace h0 := (BW.out.cell (World.block_lt_of_cell? w _ h0)).trans h0
      replace h1 := (BW.out.cell (World.block_lt_of_cell? w _ h1)).trans h1
      generalize hy : rd_T73 l kk = y at h0 h1
      have B := Aside0.mk hy
      clear hy
      have HC := Aside0.mk (HP.out wr y BW.out)
      have HL := Aside0.mk hlt
      have cb : decide (kk < (l.length : Int)) = true := decide_eq_true hlt
      have q0 : (0 ≤ kk) = True := eq_true p0
      have q1 : (kk < (l.length : Int)) = True := eq_true hlt
      clear hlt p0
      cases hq : p y with
      | true =>
        have HQ := Aside0.mk hq
        rw [hq] at HC
        clear hq
        go_wp2_with (go_at_fn g; refine HC.out.mono ?_; rintro e w' ⟨rfl, hb0⟩; have hb' := below_then BW.out BW.out.size hb0; clear hb0)
        go_ret
        refine ⟨?_, hb'⟩
        have h := idx_hit p l kk.toNat 0 (by have := HL.out; have := of_eq_true q0; omega) (by have := B.out; unfold rd_T73 at this; rw [this]; exact HQ.out) AF.out
        rw [h, Int.zero_add, Int.toNat_of_nonneg (of_eq_true q0)]
        rfl
      | false =>
        have HQ := Aside0.mk hq
        rw [hq] at HC
        clear hq
        have hw1 : wrap64 (kk + 1) = kk + 1 := by have := HL.out; have := of_eq_true q0; unfold wrap64; omega
        go_wp2_with (go_at_fn g; refine HC.out.mono ?_; rintro e w' ⟨rfl, hb0⟩; have hb' := below_then BW.out BW.out.size hb0; clear hb0)
        go_roundg (l.length - (kk.toNat + 1))
        case measure => have := HK.out; have := HL.out; omega
        case rel =>
          refine ⟨kk + 1, by first | rfl | (simp [hw1]; done), ⟨by have := HK.out; omega, by have := HL.out; omega, by have := HK.out; omega⟩, ⟨hb'⟩, ⟨fun j hj => ?_⟩⟩
          by_cases e : j = kk.toNat
          · subst e
            have := B.out; unfold rd_T73 at this; rw [this]; exact HQ.out
          · exact AF.out j (by omega)
    · have cb : decide (kk < (l.length : Int)) = false := decide_eq_false hlt
      have HL := Aside0.mk hlt
      clear hlt p0
      go_wp2
      go_ret
      refine ⟨?_, BW.out⟩
      rw [idx_none p l 0 (fun x hx => by
        obtain ⟨j, hj, rfl⟩ := List.mem_iff_getElem.1 hx
        have := AF.out j (by have := HL.out; have := HK.out; omega)
        rwa [List.getD_eq_getElem?_getD, List.getElem?_eq_getElem hj] at this)]
      rfl

theorem infoH : (Try.prog.info? 73).map (fun i => (i.zero, i.size, i.bytes)) = some (some (.agg #[(.int .u8 0), (.int .i64 0)]), 2, 16) := by kernel_rfl

theorem flatH {w : World} {A : Option Addr} {n : Nat} {l : List S73} (h : Kd.C k73 w A n l) : ReadsRow (fun (x : S73) cs => cs = [.int .u8 x.f0, .int .i64 x.f1]) 2 w A n l :=
  ReadsRow.imp_ h (Below.refl _ _) (fun _ _ hp => k73_open hp)

set_option maxRecDepth 100000 in
set_option maxHeartbeats 1000000 in
theorem clone_calls (A : Option Addr) (c : Nat) (l : List S73) (w : World) (hr : Kd.C k73 w A l.length l) (hl : l.length ≤ 8796093022208) :
    Calls Try.prog 70 #[.slice A l.length c] w fun e w' => ∃ v, e = .returned v ∧ Kd.R k73 73 w' w.heap.size (fun _ => True) v l ∧ Below w.heap.size w w' := by
  have HR := Aside0.mk (flatH hr)
  have HL := Aside0.mk hl
  have hne := fun (w : World) (a : Option Addr) (n c : Nat) => Lib.run_eql_slice_nil (P := Try.prog) w 49 73 a n c 0 0 Try.underlying49
  cases A with
  | none =>
    have h0 : l = [] := by
      cases l with
      | nil => rfl
      | cons x l => obtain ⟨ad, h, _⟩ := hr.2.2 (by simp); cases h
    subst h0
    clear hr hl HR HL
    go_enter Try.func70, Try.ntmps70
    go_wp2
    go_ret
    exact ⟨_, rfl, Kd.R_nil _ _ _ _ _, Below.refl _ _⟩
  | some ad =>
    clear hr hl
    go_enter Try.func70, Try.ntmps70
    have HO : Aside0 (Kd.R k73 73 (w.alloc (.cells #[] 73)) w.heap.size (fun _ => True) (.slice (some ⟨w.heap.size, 0, none⟩) 0 0) []) :=
      ⟨fun _ _ => trivial, [], ⟨by simp, .inr ⟨w.heap.size, 0, #[], rfl, Nat.le_refl _, heap_alloc_new _ _, Nat.le_refl _, by simp, by simp, by simp⟩⟩, Reps.none _ _⟩
    have HRB := Aside0.mk (ReadsRow.imp_ HR.out ((Below.refl w.heap.size w).alloc (Nat.le_refl _) (.cells #[] 73)) (fun _ _ hp => hp))
    go_wp2_with ((with_reducible refine gate_builtin (b := .append) (xs := #[.tmp 5, .tmp 6]) rfl ?_); at_builtin; refine Kd.R_append_rows k73 (w0 := w) w.heap.size rfl (.tmp 5) (.tmp 6) 49 73 (.agg #[(.int .u8 0), (.int .i64 0)]) 16 rfl Try.underlying49 infoH rfl (by decide) (by omega) (.slice (some ⟨w.heap.size, 0, none⟩) 0 0) [] l (some ad) l.length c (fun _ => True) (fun _ => False) rfl rfl HO.out HRB.out (fun x cs hx => by subst hx; exact k73_mkM _ _ _ x) (fun _ h => h.elim) (fun _ _ => trivial) (below_alloc (Below.refl _ _) _) (by simp) (by have := HL.out; simp; omega) ?_; rintro v1 w1 hR hB hg hat; have HR1 := Aside0.mk hR; have HB1 := Aside0.mk hB; clear hR hB hg hat)
    go_ret
    exact ⟨_, rfl, HR1.out, HB1.out⟩

theorem below_box {w W W' : World} {o : Obj} (h : Below (w.heap.size + 1) (w.alloc o) W) (hb : Below W.heap.size W W') : Below (w.heap.size + 1) (w.alloc o) W' :=
  below_then h (by have := h.size; simpa using this) hb

theorem below_unbox {w W : World} {o : Obj} (h : Below (w.heap.size + 1) (w.alloc o) W) : Below w.heap.size w W :=
  below_then (below_alloc (Below.refl _ _) o) (by simp) (show Below (w.alloc o).heap.size (w.alloc o) W from by rw [show (w.alloc o).heap.size = w.heap.size + 1 from by simp]; exact h)


theorem bt {w W W' : World} (h : Below w.heap.size w W) (k : Below W.heap.size W W') : Below w.heap.size w W' := below_then h h.size k


def cellsH (x : S73) : List Value := [.int .u8 x.f0, .int .i64 x.f1]
theorem flatK : Flat k73 2 cellsH := ⟨rfl, fun _ => rfl, ⟨fun h => k73_openM h, fun h => by subst h; exact k73_mkM _ _ _ _⟩, ⟨fun h => k73_open h, fun h => by subst h; exact k73_mk _ _⟩⟩

/-- Element a of a row is x. -/
structure AtH (f : Nat → Value) (a : Nat) (x : S73) : Prop where
  c0 : f (a * 2) = .int .u8 x.f0
  c1 : f (a * 2 + 1) = .int .i64 x.f1
theorem atH_of {f : Nat → Value} {l : List S73} (h : ∀ i j, ∀ hi : i < l.length, j < 2 → some (f (i * 2 + j)) = (cellsH l[i])[j]?) (i : Nat) (hi : i < l.length) : AtH f i (l.getD i z73) := by
  have e : l.getD i z73 = l[i] := by rw [List.getD_eq_getElem?_getD, List.getElem?_eq_getElem hi]; rfl
  rw [e]
  exact ⟨by simpa [cellsH] using h i 0 hi (by omega), by simpa [cellsH] using h i 1 hi (by omega)⟩
theorem atH_to {f : Nat → Value} {l : List S73} (h : ∀ i, i < l.length → AtH f i (l.getD i z73)) (i j : Nat) (hi : i < l.length) (hj : j < 2) : some (f (i * 2 + j)) = (cellsH l[i])[j]? := by
  have := h i hi
  rw [show l.getD i z73 = l[i] from by rw [List.getD_eq_getElem?_getD, List.getElem?_eq_getElem hi]; rfl] at this
  match j, hj with
  | 0, _ => simpa [cellsH] using this.c0
  | 1, _ => simpa [cellsH] using this.c1
theorem at_updL {f : Nat → Value} {o a : Nat} {vs : List Value} {y : S73} (h : AtH f a y) (ha : a * 2 + 2 ≤ o ∨ o + vs.length ≤ a * 2) : AtH (updL f o vs) a y := by
  constructor <;> (simp only [updL]; rw [if_neg (by omega)])
  · exact h.c0
  · exact h.c1

def insH (l : List S73) (i : Nat) (x : S73) : List S73 := l.take i ++ x :: l.drop i
theorem insH_len (l : List S73) (i : Nat) (x : S73) (hi : i ≤ l.length) : (insH l i x).length = l.length + 1 := by simp [insH]; omega
theorem insH_lt (l : List S73) (i : Nat) (x : S73) (hi : i ≤ l.length) (a : Nat) (ha : a < i) : (insH l i x).getD a z73 = l.getD a z73 := by
  simp only [insH, List.getD_eq_getElem?_getD]
  rw [List.getElem?_append_left (by simp; omega), List.getElem?_take, if_pos ha]
theorem insH_eq (l : List S73) (i : Nat) (x : S73) (hi : i ≤ l.length) : (insH l i x).getD i z73 = x := by
  simp only [insH, List.getD_eq_getElem?_getD]
  rw [List.getElem?_append_right (by simp; omega), List.length_take, show i - min i l.length = 0 from by omega]
  rfl
theorem insH_gt (l : List S73) (i : Nat) (x : S73) (hi : i ≤ l.length) (a : Nat) (ha : i < a) : (insH l i x).getD a z73 = l.getD (a - 1) z73 := by
  simp only [insH, List.getD_eq_getElem?_getD]
  rw [List.getElem?_append_right (by simp; omega), List.length_take, show a - min i l.length = (a - 1 - i) + 1 from by omega, List.getElem?_cons_succ, List.getElem?_drop, show i + (a - 1 - i) = a - 1 from by omega]

theorem at_seg {f f' : Nat → Value} {s m o a : Nat} {y : S73} (h : AtH f (s + (a - o)) y) (h1 : o ≤ a) (h2 : a < o + m) : AtH (updL f' (o * 2) (seg f (s * 2) (m * 2))) a y := by
  constructor
  · rw [updL_in _ _ _ _ (by omega) (by rw [seg_len]; omega), seg_getD _ _ _ _ (by omega), show s * 2 + (a * 2 - o * 2) = (s + (a - o)) * 2 from by omega]; exact h.c0
  · rw [updL_in _ _ _ _ (by omega) (by rw [seg_len]; omega), seg_getD _ _ _ _ (by omega), show s * 2 + (a * 2 + 1 - o * 2) = (s + (a - o)) * 2 + 1 from by omega]; exact h.c1
theorem at_cells (f : Nat → Value) (i : Nat) (x : S73) : AtH (updL f (i * 2) (cellsH x)) i x := by
  constructor
  · rw [updL_in _ _ _ _ (by omega) (by simp [cellsH])]; simp [cellsH]
  · rw [updL_in _ _ _ _ (by omega) (by simp [cellsH])]; simp [cellsH]

/-- In place: the elements from i on go up by one, then x is laid at i. -/
theorem ins_place {W : World} {base G cap : Nat} {f : Nat → Value} {l : List S73} {i : Nat} {x : S73} (hb : base ≤ G) (hi : i < l.length) (hc : l.length + 1 ≤ cap) (hm : cap ≤ maxLen)
    (h : Row W G 73 (cap * 2) (updL (updL f ((i + 1) * 2) (seg f (i * 2) ((l.length - i) * 2))) (i * 2) (cellsH x))) (hf : ∀ a, a < l.length → AtH f a (l.getD a z73)) :
    Kd.R k73 73 W base (fun _ => True) (.slice (some ⟨G, 0, none⟩) (l.length + 1) cap) (insH l i x) := by
  rw [← insH_len l i x (by omega)]
  refine row_own flatK (fun _ => trivial) hb (by rw [insH_len l i x (by omega)]; exact hc) hm h (atH_to fun a ha => ?_)
  rw [insH_len l i x (by omega)] at ha
  by_cases h1 : a < i
  · rw [insH_lt l i x (by omega) a h1]
    exact at_updL (at_updL (hf a (by omega)) (.inl (by omega))) (.inl (by omega))
  · by_cases h2 : a = i
    · subst h2
      rw [insH_eq l a x (by omega)]
      exact at_cells _ _ _
    · rw [insH_gt l i x (by omega) a (by omega)]
      refine at_updL (at_seg ?_ (by omega) (by omega)) (.inr (by simp [cellsH]; omega))
      rw [show i + (a - (i + 1)) = a - 1 from by omega]
      exact hf (a - 1) (by omega)
/-- In a new row. -/
theorem ins_new {W : World} {base G cap : Nat} {f f' : Nat → Value} {l : List S73} {i : Nat} {x : S73} (hb : base ≤ G) (hi : i < l.length) (hc : l.length + 1 ≤ cap) (hm : cap ≤ maxLen)
    (h : Row W G 73 (cap * 2) (updL (updL f' (i * 2) (cellsH x)) ((i + 1) * 2) (seg f (i * 2) ((l.length - i) * 2)))) (hf : ∀ a, a < l.length → AtH f a (l.getD a z73)) (hf' : ∀ j, j < i * 2 → f' j = f j) :
    Kd.R k73 73 W base (fun _ => True) (.slice (some ⟨G, 0, none⟩) (l.length + 1) cap) (insH l i x) := by
  rw [← insH_len l i x (by omega)]
  refine row_own flatK (fun _ => trivial) hb (by rw [insH_len l i x (by omega)]; exact hc) hm h (atH_to fun a ha => ?_)
  rw [insH_len l i x (by omega)] at ha
  by_cases h1 : a < i
  · rw [insH_lt l i x (by omega) a h1]
    refine at_updL (at_updL ?_ (.inl (by omega))) (.inl (by omega))
    have := hf a (by omega)
    exact ⟨by rw [hf' _ (by omega)]; exact this.c0, by rw [hf' _ (by omega)]; exact this.c1⟩
  · by_cases h2 : a = i
    · subst h2
      rw [insH_eq l a x (by omega)]
      exact at_updL (at_cells _ _ _) (.inl (by omega))
    · rw [insH_gt l i x (by omega) a (by omega)]
      refine at_seg ?_ (by omega) (by omega)
      rw [show i + (a - (i + 1)) = a - 1 from by omega]
      exact hf (a - 1) (by omega)

theorem cellsH_one (x : S73) : ∀ v ∈ cellsH x, v.oneCell' = true := by
  intro u hu
  simp [cellsH] at hu
  rcases hu with rfl | rfl <;> rfl

theorem set_row_size (W : World) (G : Nat) (cur : Array Value) : (W.setRow G cur).heap.size = W.heap.size := by simp [World.setRow]
theorem kept_one (w : World) (G : Nat) (cur1 : Array Value) : Kept w (w.drew.setRow G cur1) (fun k => k = G) :=
  ⟨by rw [set_row_size]; exact Nat.le_refl _, fun i hi hn => setRow_other _ _ _ _ hn⟩
theorem kept_two (w : World) (G : Nat) (cur1 cur2 : Array Value) : Kept w ((w.drew.setRow G cur1).setRow G cur2) (fun k => k = G) :=
  ⟨by rw [set_row_size, set_row_size]; exact Nat.le_refl _, fun i hi hn => (setRow_other _ _ _ _ hn).trans (setRow_other _ _ _ _ hn)⟩
theorem kept_new {w W' : World} {G : Nat} (h : Below w.heap.size w W') (cur1 cur2 : Array Value) : Kept w (((W'.setRow w.heap.size cur1).drew).setRow w.heap.size cur2) (fun k => k = G) := by
  refine ⟨?_, fun i hi hn => ?_⟩
  · rw [set_row_size]
    show w.heap.size ≤ (W'.setRow w.heap.size cur1).heap.size
    rw [set_row_size]
    exact h.size
  · have hne : i ≠ w.heap.size := by omega
    refine (setRow_other _ _ _ _ hne).trans ?_
    refine (setRow_other W' _ _ _ hne).trans ?_
    exact h.block i hi

set_option maxRecDepth 100000 in
set_option maxHeartbeats 2000000 in
/-- Behind the last one. -/
theorem insert_end (l : List S73) (v : Value) (x : S73) (vb : Nat) (w0 w : World) (hB : Below w0.heap.size w0 w) (HO : Kd.R k73 73 w w0.heap.size (fun _ => True) v l) (hx : w.heap[vb]? = some (.cells (cellsH x).toArray 73 (0, 0))) (hl : l.length + 1 ≤ 8796093022208) :
    Calls Try.prog 73 #[v, .int .i64 (l.length : Int), .slice (some ⟨vb, 0, none⟩) 1 1] w fun e w' => ∃ v1, e = .returned v1 ∧ Kd.R k73 73 w' w0.heap.size (fun _ => True) v1 (insH l l.length x) ∧ Below w0.heap.size w0 w' ∧ Kept w w' (fun k => v.ownBlock = some k) := by
  obtain ⟨A, c, hv, hlc, hC⟩ := Kd.R_reads HO
  have HH : Aside0 (∃ v1 w1, (Builtin.append_ #[49, 26] 49 #[v, .slice (some ⟨vb, 0, none⟩) 1 1]).run Try.prog w = .ok v1 w1 ∧ Kd.R k73 73 w1 w0.heap.size (fun _ => True) v1 (insH l l.length x) ∧ Below w0.heap.size w0 w1 ∧ Kept w w1 (fun k => v.ownBlock = some k)) := by
    refine ⟨?_⟩
    obtain ⟨i0, hi, hzz⟩ := Option.map_eq_some_iff.1 infoH
    simp only [Prod.mk.injEq] at hzz
    obtain ⟨hz0, hz1, hz2⟩ := hzz
    obtain ⟨hok, inner, hown, hr⟩ := HO
    obtain ⟨v1, w1, hrun, h2, hg, _, hat⟩ := run_append_own_at (P := Try.prog) w w0.heap.size 49 49 73 i0 _ 2 16 Try.underlying49 hi hz0 hz1 hz2 rfl (by omega) v l.length inner hown ⟨vb, 0, none⟩ 1 1 (cellsH x) rfl (fun j u hj => by rw [add_plain]; simp only [World.cell?, hx]; simpa using hj) (cellsH_one x) (by simp only [maxLen]; omega) (by omega) hB.size
    refine ⟨v1, w1, ?_, ⟨fun _ _ => trivial, inner ++ cellsH x, by rw [insH_len l l.length x (Nat.le_refl _)]; exact h2, ?_⟩, hB.grown hg hB.size (own_base hown), ⟨hg.size, fun i hi hn => hg.block i hi (fun e => hn e.symm)⟩⟩
    · rw [hv]
      rw [append_tu Try.underlying49 Try.underlying26 hi, ← hv]
      exact hrun
    · have hins : insH l l.length x = l ++ [x] := by simp [insH]
      rw [hins]
      have h1 : Reps (k73.M w1 w0.heap.size (fun k => True ∧ some k ≠ v1.ownBlock)) 2 l inner := hr.imp_ (fun p c hp => by rw [k73_openM hp]; exact k73_mkM _ _ _ _)
      exact Reps.snoc h1 (k73_mkM _ _ _ x) rfl
  clear hC HO hB hx
  have HV := Aside0.mk hv
  subst hv
  have b0 : (l.length : Int) ≤ 8796093022208 := by omega
  have q0 : ((1 : Int) == 0) = false := rfl
  have q1 : ((l.length : Int) == (l.length : Int)) = true := by simp
  go_enter Try.func73, Try.ntmps73
  obtain ⟨v1, w1, hrun, hR, hBw, hKp⟩ := HH.out
  have HR1 := Aside0.mk hR
  have HB1 := Aside0.mk hBw
  have HK1 := Aside0.mk hKp
  clear hR hBw hKp HH
  go_wp2_with (at_builtin; refine Lib.wpList_append_run _ rfl _ _ _ _ rfl _ _ rfl rfl _ _ hrun ?_)
  all_goals (go_ret; exact ⟨v1, rfl, HR1.out, HB1.out, by first | exact HK1.out | exact HK1.out.mono (fun k hk => by cases A <;> exact hk)⟩)

theorem seg_one {f : Nat → Value} {l : List S73} (hf : ∀ a, a < l.length → AtH f a (l.getD a z73)) (i : Nat) (hi : i < l.length) : ∀ v ∈ seg f (i * 2) ((l.length - i) * 2), v.oneCell' = true := by
  intro v hv
  obtain ⟨j, hj, rfl⟩ := List.mem_iff_getElem.1 hv
  rw [seg_len] at hj
  obtain ⟨_, h2⟩ := seg_get f (i * 2) ((l.length - i) * 2) j _ (List.getElem?_eq_getElem (by rw [seg_len]; exact hj))
  rw [h2]
  have ha := hf (i + j / 2) (by omega)
  have e : i * 2 + j = (i + j / 2) * 2 + j % 2 := by omega
  rw [e]
  rcases (show j % 2 = 0 ∨ j % 2 = 1 by omega) with h | h <;> rw [h]
  · show (f ((i + j / 2) * 2)).oneCell' = true; rw [ha.c0]; rfl
  · rw [ha.c1]; rfl


theorem sizeH : (Try.prog.info? 73).map (·.size) = some 2 := by kernel_rfl
theorem sizeOfH : ∀ w, (Go.sizeOf 73).run Try.prog w = .ok 2 w := fun w => by kernel_rfl

theorem overlaps_no (w : World) (G vb o m vc lb cb N : Nat) (f : Nat → Value) (x : S73) (hne : vb ≠ G) (h : Row w G 73 N f) (hN : 0 < N) (hx : w.heap[vb]? = some (.cells (cellsH x).toArray 73 (0, 0))) :
    (callFunc 91 #[.slice (some ⟨vb, 0, none⟩) m vc, .slice (some ⟨G, o, none⟩) lb cb]).run Try.prog w = .ok (.value (.bool false)) w := by
  obtain ⟨cur, hg, hs, hc⟩ := h
  have h1 : w.shape? vb = some (73, 2) := by simp [World.shape?, hx, cellsH]
  have h2 : w.shape? G = some (73, N) := by simp [World.shape?, hg, hs]
  rw [run_callFunc_extern Try.func91 (by kernel_rfl) (by kernel_rfl) (by kernel_rfl) (e := Extern.SlicesOverlaps.overlaps #[26, 26] #[4]) (by kernel_rfl),
    Lib.run_overlaps_apart w 26 4 73 Try.underlying26 2 sizeOfH ⟨vb, 0, none⟩ ⟨G, o, none⟩ m vc lb cb hne 73 73 2 N h1 h2 (by omega) (by simp [World.frozen?, hx]) (by simp [World.frozen?, hx])]
  rfl

set_option maxRecDepth 100000 in
set_option maxHeartbeats 4000000 in
/-- In the row, there being room. -/
theorem insert_place (l : List S73) (G cap i vb : Nat) (f : Nat → Value) (x : S73) (w0 w : World) (hB : Below w0.heap.size w0 w) (hG : w0.heap.size ≤ G) (hi : i < l.length) (hc : l.length + 1 ≤ cap) (hm : cap ≤ maxLen) (hne : vb ≠ G)
    (hrow : Row w G 73 (cap * 2) f) (hf : ∀ a, a < l.length → AtH f a (l.getD a z73)) (hx : w.heap[vb]? = some (.cells (cellsH x).toArray 73 (0, 0))) (hl : l.length + 1 ≤ 8796093022208) :
    Calls Try.prog 73 #[.slice (some ⟨G, 0, none⟩) l.length cap, .int .i64 (i : Int), .slice (some ⟨vb, 0, none⟩) 1 1] w fun e w' => ∃ v1, e = .returned v1 ∧ Kd.R k73 73 w' w0.heap.size (fun _ => True) v1 (insH l i x) ∧ Below w0.heap.size w0 w' ∧ Kept w w' (fun k => k = G) := by
  have hov := fun lb cb => overlaps_no w G vb ((i + 1) * 2) 1 1 lb cb (cap * 2) f x hne hrow (by omega) hx
  have hseg1 := seg_one hf i hi
  obtain ⟨cur1, hrun1, hrow1⟩ := (hrow.drew).copy (P := Try.prog) (k := 2) 49 49 3 ((i + 1) * 2) (l.length - i) (cap - (i + 1)) ⟨G, i * 2, none⟩ (l.length + 1 - i) (cap - i) (seg f (i * 2) ((l.length - i) * 2)) Try.underlying49 sizeH
    (by rw [seg_len]; congr 1; simp only [Nat.min_def]; split <;> omega)
    (fun j v hj => by obtain ⟨h1, h2⟩ := seg_get _ _ _ _ _ hj; rw [h2, show (⟨G, i * 2, none⟩ : Addr).add j = ⟨G, i * 2 + j, none⟩ from by unfold Addr.add; split <;> simp_all]; exact hrow.drew.cell (by omega))
    (by rw [seg_len]; omega) hseg1
  have hvx : (w.drew.setRow G cur1).heap[vb]? = some (.cells (cellsH x).toArray 73 (0, 0)) := by rw [setRow_other _ _ _ _ hne]; exact hx
  obtain ⟨cur2, hrun2, hrow2⟩ := hrow1.copy (P := Try.prog) (k := 2) 49 26 3 (i * 2) (l.length + 1 - i) (cap - i) ⟨vb, 0, none⟩ 1 1 (cellsH x) Try.underlying49 sizeH
    (by rw [show Nat.min 1 (l.length + 1 - i) = 1 from by simp only [Nat.min_def]; rw [if_pos (by omega)]]; rfl)
    (fun j v hj => by rw [add_plain]; simp only [World.cell?, hvx]; simpa using hj) (by simp [cellsH]; omega) (cellsH_one x)
  have HR := Aside0.mk (ins_place hG hi hc hm hrow2 hf)
  have HB := Aside0.mk (below_set_row (below_set_row (below_drew hB) hG cur1) hG cur2)
  have HK := Aside0.mk (kept_two w G cur1 cur2)
  have H1 := Aside0.mk hrun1
  have H2 := Aside0.mk hrun2
  have b1 : (i : Int) < (l.length : Int) := by omega
  have b2 : (l.length : Int) < (cap : Int) := by omega
  have b3 : (l.length : Int) ≤ 8796093022207 := by omega
  have q0 : ((1 : Int) == 0) = false := rfl
  have d1 : decide ((cap : Int) < (l.length : Int) + 1) = false := decide_eq_false (by omega)
  have q1 : ((i : Int) == (l.length : Int)) = false := by rw [beq_eq_false_iff_ne]; omega
  have t1 : ((i : Int) + 1).toNat = i + 1 := by omega
  have t2 : ((l.length : Int) + 1).toNat = l.length + 1 := by omega
  have n1 : ¬ cap = i := by omega
  have n2 : ¬ cap = i + 1 := by omega
  have n3 : i ≤ l.length := by omega
  have n4 : l.length < cap := hc
  clear hB hrow hf hx hrun1 hrun2 hrow1 hrow2 hseg1 hvx hm hl hG hc hi
  go_enter Try.func73, Try.ntmps73
  go_wp2_with (simp only [hov])
  have w1 : IntKind.i64.wrap ((i : Int) + 1) = (i : Int) + 1 := by rw [IntKind.wrap_i64]; omega
  have w2 : (0 : Int) ≤ (i : Int) + 1 := by omega
  have w3 : (i : Int) ≤ (l.length : Int) := by omega
  have w4 : (i : Int) ≤ (l.length : Int) + 1 := by omega
  have w5 : (i : Int) + 1 ≤ (l.length : Int) + 1 := by omega
  go_region_law (refine step_copy_is rfl _ _ 49 49 rfl _ _ (by simp [Act.eval, Act.put]) (by simp [Act.eval, Act.put]) H1.out ?_)
  go_wp2_with ((with_reducible refine gate_builtin (b := .copy) (xs := #[.tmp 80, .tmp 81]) rfl ?_); refine wpList_copy_is _ rfl _ _ 49 26 rfl _ _ rfl rfl H2.out ?_)
  go_ret
  exact ⟨_, rfl, HR.out, HB.out, HK.out⟩

set_option maxRecDepth 100000 in
set_option maxHeartbeats 4000000 in
/-- In a new row, there being no room. -/
theorem insert_grow (l : List S73) (G cap i vb : Nat) (f : Nat → Value) (x : S73) (w0 w : World) (hB : Below w0.heap.size w0 w) (hG : w0.heap.size ≤ G) (hi : i < l.length) (hc0 : l.length ≤ cap) (hc : cap < l.length + 1)
    (hrow : Row w G 73 (cap * 2) f) (hf : ∀ a, a < l.length → AtH f a (l.getD a z73)) (hx : w.heap[vb]? = some (.cells (cellsH x).toArray 73 (0, 0))) (hl : l.length + 1 ≤ 8796093022208) :
    Calls Try.prog 73 #[.slice (some ⟨G, 0, none⟩) l.length cap, .int .i64 (i : Int), .slice (some ⟨vb, 0, none⟩) 1 1] w fun e w' => ∃ v1, e = .returned v1 ∧ Kd.R k73 73 w' w0.heap.size (fun _ => True) v1 (insH l i x) ∧ Below w0.heap.size w0 w' ∧ Kept w w' (fun k => k = G) := by
  obtain rfl : cap = l.length := by omega
  have hvb : vb < w.heap.size := (Array.getElem?_eq_some_iff.1 hx).1
  obtain ⟨C, W', f', hrunA, hC1, hC2, hBA, hrowA, hold⟩ := append_zeros_grow (P := Try.prog) (t := 49) (tn := 3) hrow 49 .i64 Try.underlying49 Try.underlying3 infoH rfl (by omega) (by omega) i (l.length + 1 - i) (by omega) (by omega) (by omega)
  rw [show i + (l.length + 1 - i) = l.length + 1 from by omega] at hrunA hC1
  rw [show ((l.length + 1 - i : Nat) : Int) = (l.length : Int) + 1 - (i : Int) from by omega] at hrunA
  have hxA : W'.heap[vb]? = some (.cells (cellsH x).toArray 73 (0, 0)) := (hBA.block vb hvb).trans hx
  obtain ⟨cur1, hrun1, hrow1⟩ := hrowA.copy (P := Try.prog) (k := 2) 49 26 3 (i * 2) (l.length + 1 - i) (C - i) ⟨vb, 0, none⟩ 1 1 (cellsH x) Try.underlying49 sizeH
    (by rw [show Nat.min 1 (l.length + 1 - i) = 1 from by simp only [Nat.min_def]; rw [if_pos (by omega)]]; rfl)
    (fun j v hj => by rw [add_plain]; simp only [World.cell?, hxA]; simpa using hj) (by simp [cellsH]; omega) (cellsH_one x)
  have hGne : G ≠ w.heap.size := Nat.ne_of_lt hrow.lt
  have hrowG : Row ((W'.setRow w.heap.size cur1).drew) G 73 (l.length * 2) f := (Row.same (hrow.below hBA) (setRow_other _ _ _ _ hGne)).drew
  obtain ⟨cur2, hrun2, hrow2⟩ := (hrow1.drew).copy (P := Try.prog) (k := 2) 49 49 3 ((i + 1) * 2) (l.length - i) (C - (i + 1)) ⟨G, i * 2, none⟩ (l.length - i) (l.length - i) (seg f (i * 2) ((l.length - i) * 2)) Try.underlying49 sizeH
    (by rw [seg_len, show Nat.min (l.length - i) (l.length - i) = l.length - i from by simp only [Nat.min_def]; split <;> rfl])
    (fun j v hj => by obtain ⟨h1, h2⟩ := seg_get _ _ _ _ _ hj; rw [h2, show (⟨G, i * 2, none⟩ : Addr).add j = ⟨G, i * 2 + j, none⟩ from by unfold Addr.add; split <;> simp_all]; exact hrowG.cell (by omega))
    (by rw [seg_len]; omega) (seg_one hf i hi)
  have HR := Aside0.mk (ins_new hB.size hi hC1 hC2 hrow2 hf hold)
  have HB := Aside0.mk (below_set_row (below_drew (below_set_row (below_then hB hB.size hBA) hB.size cur1)) hB.size cur2)
  have HK := Aside0.mk (kept_new (G := G) hBA cur1 cur2)
  have H1 := Aside0.mk hrun1
  have H2 := Aside0.mk hrun2
  have HA := Aside0.mk hrunA
  have b1 : (i : Int) < (l.length : Int) := by omega
  have b3 : (l.length : Int) ≤ 8796093022207 := by omega
  have q0 : ((1 : Int) == 0) = false := rfl
  have q1 : ((i : Int) == (l.length : Int)) = false := by rw [beq_eq_false_iff_ne]; omega
  have d1 : decide ((l.length : Int) < (l.length : Int) + 1) = true := decide_eq_true (by omega)
  have t1 : ((i : Int) + 1).toNat = i + 1 := by omega
  have t2 : ((l.length : Int) + 1).toNat = l.length + 1 := by omega
  have n1 : ¬ l.length = i := by omega
  have n2 : ¬ C = i := by omega
  have n6 : ¬ C = i + 1 := by omega
  have n3 : i ≤ l.length := by omega
  have n4 : l.length < C := hC1
  have n7 : i ≤ C := by omega
  clear hB hrow hf hx hrun1 hrun2 hrow1 hrow2 hxA hl hG hi hc hc0 hrunA hC1 hC2 hBA hrowA hold hrowG hGne hvb
  go_enter Try.func73, Try.ntmps73
  go_wp2_with (first | ((with_reducible refine gate_builtin (b := .append) (xs := #[.tmp 34, .tmp 39]) rfl ?_); refine Lib.wpList_append_run _ rfl _ _ _ _ rfl _ _ rfl rfl _ _ HA.out ?_) | ((with_reducible refine gate_builtin (b := .copy) (xs := #[.tmp 43, .tmp 44]) rfl ?_); refine wpList_copy_is _ rfl _ _ 49 26 rfl _ _ rfl rfl H1.out ?_))
  have w1 : IntKind.i64.wrap ((i : Int) + 1) = (i : Int) + 1 := by rw [IntKind.wrap_i64]; omega
  have w2 : (0 : Int) ≤ (i : Int) + 1 := by omega
  have w3 : (i : Int) ≤ (l.length : Int) := by omega
  have w4 : (i : Int) ≤ (l.length : Int) + 1 := by omega
  go_region_law (refine step_copy_is rfl _ _ 49 49 rfl _ _ (by simp [Act.eval, Act.put]) (by simp [Act.eval, Act.put]) H2.out ?_)
  go_wp2
  go_ret
  exact ⟨_, rfl, HR.out, HB.out, HK.out⟩

theorem insert_calls (l : List S73) (v : Value) (i vb : Nat) (x : S73) (w0 w : World) (hB : Below w0.heap.size w0 w) (HO : Kd.R k73 73 w w0.heap.size (fun _ => True) v l) (hi : i ≤ l.length) (hne : v.ownBlock ≠ some vb)
    (hx : w.heap[vb]? = some (.cells (cellsH x).toArray 73 (0, 0))) (hl : l.length + 1 ≤ 8796093022208) :
    Calls Try.prog 73 #[v, .int .i64 (i : Int), .slice (some ⟨vb, 0, none⟩) 1 1] w fun e w' => ∃ v1, e = .returned v1 ∧ Kd.R k73 73 w' w0.heap.size (fun _ => True) v1 (insH l i x) ∧ Below w0.heap.size w0 w' ∧ Kept w w' (fun k => v.ownBlock = some k) := by
  by_cases he : i = l.length
  · subst he
    exact insert_end l v x vb w0 w hB HO hx hl
  · rcases own_row flatK HO with ⟨rfl, rfl⟩ | ⟨G, cap, f, rfl, hG, hc, hm, hrow, hf⟩
    · simp at hi he; omega
    · have hne' : vb ≠ G := fun e => hne (by simp [Value.ownBlock, e])
      by_cases hcc : l.length + 1 ≤ cap
      · refine (insert_place l G cap i vb f x w0 w hB hG (by omega) hcc hm hne' hrow (atH_of hf) hx hl).mono fun e w' => ?_
        rintro ⟨v1, h1, h2, h3, h4⟩
        exact ⟨v1, h1, h2, h3, h4.mono (fun k hk => by rw [hk]; rfl)⟩
      · refine (insert_grow l G cap i vb f x w0 w hB hG (by omega) hc (by omega) hrow (atH_of hf) hx hl).mono fun e w' => ?_
        rintro ⟨v1, h1, h2, h3, h4⟩
        exact ⟨v1, h1, h2, h3, h4.mono (fun k hk => by rw [hk]; rfl)⟩


end Go.Proofs.Ytolpcfjmhimpeaa.HD

namespace Go.Proofs.Ytolpcfjmhimpeaa.HD
open Go.RowKit Go.Proofs.YtolpcfjmhimpeaaW.PrintWords Go.Proofs.YtolpcfjmhimpeaaW.PrintLast Go.Proofs.Ytolpcfjmhimpeaa.P
set_option linter.unusedVariables false
set_option linter.unusedSimpArgs false
set_option maxRecDepth 100000 in
set_option maxHeartbeats 1000000 in
theorem cloneV_calls (A : Option Addr) (c : Nat) (l : List S73) (w : World) (hr : Kd.C k73 w A l.length l) (hl : l.length ≤ 8796093022208) :
    Calls Try.prog 29 #[.slice A l.length c] w fun e w' => ∃ v, e = .returned v ∧ Kd.R k73 73 w' w.heap.size (fun _ => True) v l ∧ Below w.heap.size w w' := by
  have HR := Aside0.mk (flatH hr)
  have HL := Aside0.mk hl
  have hne := fun (w : World) (a : Option Addr) (n c : Nat) => Lib.run_eql_slice_nil (P := Try.prog) w 26 73 a n c 0 0 Try.underlying26
  cases A with
  | none =>
    have h0 : l = [] := by
      cases l with
      | nil => rfl
      | cons x l => obtain ⟨ad, h, _⟩ := hr.2.2 (by simp); cases h
    subst h0
    clear hr hl HR HL
    go_enter Try.func29, Try.ntmps29
    go_wp2
    go_ret
    exact ⟨_, rfl, Kd.R_nil _ _ _ _ _, Below.refl _ _⟩
  | some ad =>
    clear hr hl
    go_enter Try.func29, Try.ntmps29
    have HO : Aside0 (Kd.R k73 73 (w.alloc (.cells #[] 73)) w.heap.size (fun _ => True) (.slice (some ⟨w.heap.size, 0, none⟩) 0 0) []) :=
      ⟨fun _ _ => trivial, [], ⟨by simp, .inr ⟨w.heap.size, 0, #[], rfl, Nat.le_refl _, heap_alloc_new _ _, Nat.le_refl _, by simp, by simp, by simp⟩⟩, Reps.none _ _⟩
    have HRB := Aside0.mk (ReadsRow.imp_ HR.out ((Below.refl w.heap.size w).alloc (Nat.le_refl _) (.cells #[] 73)) (fun _ _ hp => hp))
    go_wp2_with ((with_reducible refine gate_builtin (b := .append) (xs := #[.tmp 5, .tmp 6]) rfl ?_); at_builtin; refine Kd.R_append_rows k73 (w0 := w) w.heap.size rfl (.tmp 5) (.tmp 6) 26 73 (.agg #[(.int .u8 0), (.int .i64 0)]) 16 rfl Try.underlying26 infoH rfl (by decide) (by omega) (.slice (some ⟨w.heap.size, 0, none⟩) 0 0) [] l (some ad) l.length c (fun _ => True) (fun _ => False) rfl rfl HO.out HRB.out (fun x cs hx => by subst hx; exact k73_mkM _ _ _ x) (fun _ h => h.elim) (fun _ _ => trivial) (below_alloc (Below.refl _ _) _) (by simp) (by have := HL.out; simp; omega) ?_; rintro v1 w1 hR hB hg hat; have HR1 := Aside0.mk hR; have HB1 := Aside0.mk hB; clear hR hB hg hat)
    go_ret
    exact ⟨_, rfl, HR1.out, HB1.out⟩

end Go.Proofs.Ytolpcfjmhimpeaa.HD

/- The search for a key in a ledger: ledger.find's comparison, slices.BinarySearchFunc, ledger.find. -/

namespace Go.Proofs.Ytolpcfjmhimpeaa.HD
open Go.RowKit Go.Proofs.YtolpcfjmhimpeaaW.PrintWords Go.Proofs.YtolpcfjmhimpeaaW.PrintLast Go.Proofs.Ytolpcfjmhimpeaa.P Go.Proofs.Ytolpcfjmhimpeaa.H
set_option linter.unusedVariables false
set_option linter.unusedSimpArgs false

def cmpI (a b : Int) : Int := if a < b then -1 else if a > b then 1 else 0
theorem compare_u8 (a b : Int) : cmp_Compare_uint8.f a b = some (cmpI a b) := by
  simp only [cmp_Compare_uint8.f, cmp_isNaN_uint8.f, Option.bind_some, cmpI, bne_self_eq_false]
  split <;> (try split) <;> simp_all <;> (try (split <;> rfl))
theorem cmp_calls (x : S73) (q : Int) (w : World) : Calls Try.prog 90 #[encH x, .int .u8 q] w fun e w' => e = .returned (.int .i64 (cmpI x.f0 q)) ∧ Below w.heap.size w w' := by
  have HC := fun W => Aside0.mk (cmp_Compare_uint8.calls x.f0 q (cmpI x.f0 q) W (compare_u8 _ _))
  go_enter Try.func90, Try.ntmps90
  go_wp2_with (go_at_call 85; with_reducible refine ((HC _).out).mono ?_; rintro e w1 ⟨rfl, hd⟩; have HD := Aside0.mk hd; clear hd)
  go_ret
  exact ⟨rfl, by have := HD.out; obtain ⟨⟨n, hn⟩⟩ := this; subst hn; exact pw_below_drewN (below_alloc (Below.refl _ _) _) _⟩

/-- The search for the first place at which q does not hold. -/
def bs (q : Int → Bool) : Nat → Int → Int → Int
  | 0, i, _ => i
  | f + 1, i, j => if i < j then (if q ((i + j) / 2) then bs q f ((i + j) / 2 + 1) j else bs q f i ((i + j) / 2)) else i
def lessK (l : List S73) (x : Int) (i : Int) : Bool := decide (cmpI (rd_T73 l i).f0 x < 0)
theorem bs_range (q : Int → Bool) (f : Nat) : ∀ i j, i ≤ j → i ≤ bs q f i j ∧ bs q f i j ≤ j := by
  induction f with
  | zero => intro i j h; exact ⟨Int.le_refl _, h⟩
  | succ f ih =>
    intro i j h
    unfold bs
    split
    · split
      · have := ih ((i + j) / 2 + 1) j (by omega); omega
      · have := ih i ((i + j) / 2) (by omega); omega
    · omega

set_option maxRecDepth 100000 in
set_option maxHeartbeats 2000000 in
theorem bsearch_calls (A : Option Addr) (c : Nat) (l : List S73) (x : Int) (w : World) (hr : Kd.C k73 w A l.length l) (hl : l.length ≤ 5864062014805) :
    Calls Try.prog 89 #[.slice A l.length c, .int .u8 x, .func (.func 90) #[] #[]] w fun e w' =>
      e = .returned (.tuple #[.int .i64 (bs (lessK l x) l.length 0 l.length), .bool (decide (bs (lessK l x) l.length 0 l.length < (l.length : Int)) && cmpI (rd_T73 l (bs (lessK l x) l.length 0 l.length)).f0 x == 0)]) ∧ Below w.heap.size w w' := by
  have hu := Try.underlying73
  have HR := Aside0.mk hr
  have HL := Aside0.mk hl
  clear hr
  obtain ⟨r, hrr⟩ : ∃ r, bs (lessK l x) l.length 0 l.length = r := ⟨_, rfl⟩
  have HRG := Aside0.mk (bs_range (lessK l x) l.length 0 l.length (by omega))
  rw [hrr] at HRG ⊢
  have H := Aside0.mk hrr
  clear hrr
  go_enter Try.func89, Try.ntmps89
  go_wp2
  go_loopg [9, 10, 11] l.length (fun gg s9 s10 _ wr => ∃ i j : Int, s9 = .int .i64 i ∧ s10 = .int .i64 j ∧ Aside0 (0 ≤ i ∧ i ≤ j ∧ j ≤ l.length ∧ j - i ≤ gg) ∧ Aside0 (Below w.heap.size w wr) ∧ Aside0 (bs (lessK l x) gg i j = r))
  case atStart => exact ⟨0, l.length, rfl, rfl, ⟨by omega, by omega, by omega, by omega⟩, ⟨Below.refl _ _⟩, H⟩
  case round =>
    obtain ⟨i, j, rfl, rfl, HK, BW, HB⟩ := hrel
    have hh := HK.out
    by_cases hlt : i < j
    · obtain ⟨g', rfl⟩ : ∃ g', gk = g' + 1 := ⟨gk - 1, by omega⟩
      obtain ⟨h, hh2⟩ : ∃ h, h = (i + j) / 2 := ⟨_, rfl⟩
      have p0 : 0 ≤ h := by omega
      have p1 : h < (l.length : Int) := by omega
      have HH := Aside0.mk hh2
      have HLT := Aside0.mk hlt
      obtain ⟨ad, e0, h0, h1⟩ := at_T73 HR.out h p0 p1
      cases e0
      have g0 := (BW.out.cell (World.block_lt_of_cell? w _ h0)).trans h0
      have g1 := (BW.out.cell (World.block_lt_of_cell? w _ h1)).trans h1
      clear h0 h1 hh
      have HC := fun W => Aside0.mk (cmp_calls (rd_T73 l h) x W)
      have hlt' : decide (i < j) = true := decide_eq_true hlt
      have q0 : (0 ≤ h) = True := eq_true p0
      have q1 : (h < (l.length : Int)) = True := eq_true p1
      have hh3 := hh2.symm
      cases hc : lessK l x h with
      | true =>
        have hcc : decide (cmpI (rd_T73 l h).f0 x < 0) = true := hc
        have HCC := Aside0.mk hc
        clear hc hh2
        go_wp2_with (go_at_call 90; with_reducible refine ((HC _).out).mono ?_; rintro e w1 ⟨rfl, hb⟩; have HB1 := Aside0.mk (bt BW.out hb); clear hb)
        go_roundg g'
        case measure => omega
        case rel => exact ⟨h + 1, j, rfl, rfl, ⟨by have := HH.out; have := HLT.out; have := HK.out; omega⟩, HB1, ⟨by have h2 := HB.out; unfold bs at h2; rw [if_pos HLT.out, ← HH.out, if_pos HCC.out] at h2; exact h2⟩⟩
      | false =>
        have hcc : decide (cmpI (rd_T73 l h).f0 x < 0) = false := hc
        have HCC := Aside0.mk hc
        clear hc hh2
        go_wp2_with (go_at_call 90; with_reducible refine ((HC _).out).mono ?_; rintro e w1 ⟨rfl, hb⟩; have HB1 := Aside0.mk (bt BW.out hb); clear hb)
        go_roundg g'
        case measure => omega
        case rel => exact ⟨i, h, rfl, rfl, ⟨by have := HH.out; have := HLT.out; have := HK.out; omega⟩, HB1, ⟨by have h2 := HB.out; unfold bs at h2; rw [if_pos HLT.out, ← HH.out, if_neg (by rw [HCC.out]; simp)] at h2; exact h2⟩⟩
    · have hij : i = r := by
        have h2 := HB.out
        cases gk with
        | zero => exact h2
        | succ g' => unfold bs at h2; rw [if_neg hlt] at h2; exact h2
      have HLT := Aside0.mk hlt
      subst hij
      have hlt' : decide (i < j) = false := decide_eq_false hlt
      clear hlt hh
      by_cases hin : i < (l.length : Int)
      · have p0 : 0 ≤ i := HRG.out.1
        obtain ⟨ad, e0, h0, h1⟩ := at_T73 HR.out i p0 hin
        cases e0
        have g0 := (BW.out.cell (World.block_lt_of_cell? w _ h0)).trans h0
        have g1 := (BW.out.cell (World.block_lt_of_cell? w _ h1)).trans h1
        clear h0 h1
        have HC := fun W => Aside0.mk (cmp_calls (rd_T73 l i) x W)
        have q0 : (0 ≤ i) = True := eq_true p0
        have q1 : (i < (l.length : Int)) = True := eq_true hin
        have q2 : decide (i < (l.length : Int)) = true := decide_eq_true hin
        go_wp2_with (go_at_call 90; with_reducible refine ((HC _).out).mono ?_; rintro e w1 ⟨rfl, hb⟩; have HB1 := Aside0.mk (bt BW.out hb); clear hb)
        go_ret2
        exact ⟨by simp [q2], HB1.out⟩
      · have q2 : decide (i < (l.length : Int)) = false := decide_eq_false hin
        go_wp2
        go_ret2
        exact ⟨by simp [q2], BW.out⟩

theorem find_calls (A : Option Addr) (c : Nat) (l : List S73) (x : Int) (w : World) (hr : Kd.C k73 w A l.length l) (hl : l.length ≤ 5864062014805) :
    Calls Try.prog 72 #[.slice A l.length c, .int .u8 x] w fun e w' =>
      e = .returned (.tuple #[.int .i64 (bs (lessK l x) l.length 0 l.length), .bool (decide (bs (lessK l x) l.length 0 l.length < (l.length : Int)) && cmpI (rd_T73 l (bs (lessK l x) l.length 0 l.length)).f0 x == 0)]) ∧ Below w.heap.size w w' := by
  have HC := Aside0.mk (bsearch_calls A c l x w hr hl)
  clear hr hl
  go_enter Try.func72, Try.ntmps72
  go_wp2_with (go_at_call 89; refine (HC.out).mono ?_; rintro e w1 ⟨rfl, hb⟩; have HB1 := Aside0.mk hb; clear hb)
  go_ret2
  exact ⟨rfl, HB1.out⟩
end Go.Proofs.Ytolpcfjmhimpeaa.HD

/- slices.Delete among a ledger's deltas. -/

namespace Go.Proofs.Ytolpcfjmhimpeaa.H
open Go.RowKit Go.Proofs.YtolpcfjmhimpeaaW.PrintWords Go.Proofs.YtolpcfjmhimpeaaW.PrintLast Go.Proofs.Ytolpcfjmhimpeaa.P
theorem Row.append {P : Program} {W : World} {g : Nat} {e : TypeId} {N k : Nat} {f : Nat → Value} (h : Row W g e N f) (dT ty : TypeId) (n cap : Nat) (a : Addr) (m c : Nat) (cs : List Value) (i0 : TypeInfo)
    (ht : P.underlying dT = some (.slice e)) (hi : P.info? e = some i0) (hk : i0.size = k) (hn : cs.length = m * k)
    (hsrc : ∀ j v, cs[j]? = some v → W.cell? (a.add j) = some v) (hroom : n + m ≤ cap) (hfit : n * k + cs.length ≤ N) (h1 : ∀ v ∈ cs, v.oneCell' = true) :
    ∃ cur : Array Value, (Builtin.append_ #[dT, dT] ty #[.slice (some ⟨g, 0, none⟩) n cap, .slice (some a) m c]).run P W = .ok (.slice (some ⟨g, 0, none⟩) (n + m) cap) (W.setRow g cur) ∧ Row (W.setRow g cur) g e N (updL f (n * k) cs) := by
  subst hk
  obtain ⟨cur, hst, hrow⟩ := h.store (P := P) (n * i0.size) cs hfit h1
  have hf := run_firstCells_some (P := P) W i0.size m a m c cs hn hsrc
  refine ⟨cur, ?_, hrow⟩
  simp [Builtin.append_, run_underlying ht, sizeOf, typeInfo, hi, Builtin.lenOf, hroom, hf, Addr.add_lit, hst]

end Go.Proofs.Ytolpcfjmhimpeaa.H
namespace Go.Proofs.Ytolpcfjmhimpeaa.HD
open Go.RowKit Go.Proofs.YtolpcfjmhimpeaaW.PrintWords Go.Proofs.YtolpcfjmhimpeaaW.PrintLast Go.Proofs.Ytolpcfjmhimpeaa.P Go.Proofs.Ytolpcfjmhimpeaa.H
set_option linter.unusedVariables false
set_option linter.unusedSimpArgs false

theorem run_append_none_ {P : Program} {W : World} {e : TypeId} (dT ty : TypeId) (n cap : Nat) (a0 a : Addr) (c : Nat) (i0 : TypeInfo) (ht : P.underlying dT = some (.slice e)) (hi : P.info? e = some i0) (hle : n ≤ cap) :
    (Builtin.append_ #[dT, dT] ty #[.slice (some a0) n cap, .slice (some a) 0 c]).run P W = .ok (.slice (some a0) n cap) W := by
  have hf := run_firstCells_some (P := P) W i0.size 0 a 0 c [] (by simp) (by simp)
  simp [Builtin.append_, run_underlying ht, sizeOf, typeInfo, hi, Builtin.lenOf, hle, hf, storeCells]

theorem step_append_is {P : Program} {ops : Array Oper} {o : Oper} {a : Act} {w : World} {K : Act → World → Prop} {Q : Exit → Act → World → Prop} {E : Prop}
    (hg : o.guard = none) (d x : Operand) (dT sT : TypeId) (hop : o.op = Op.call { callee := Callee.builtin Builtin.append, args := #[d, x], argTypes := #[dT, sT] })
    (v u : Value) (hd : a.eval d = v) (hx : a.eval x = u) {v' : Value} {w' : World} (hr : (Builtin.append_ #[dT, sT] o.type #[v, u]).run P w = .ok v' w') (hK : K (a.put o.dst v') w') :
    if Region.wanted o (yielded ops a.tmps) = true then Oper.wp P o a w K Q else E := by
  have hw : Region.wanted o (yielded ops a.tmps) = true := by simp [Region.wanted, hg]
  rw [if_pos hw]
  unfold Oper.wp
  simp [execOp, hop, resolve, invoke, builtin, hd, hx, hr, Result.andThen]
  exact hK

def delH (l : List S73) (i : Nat) : List S73 := l.take i ++ l.drop (i + 1)
theorem delH_len (l : List S73) (i : Nat) (hi : i < l.length) : (delH l i).length = l.length - 1 := by simp [delH]; omega
theorem delH_lt (l : List S73) (i a : Nat) (ha : a < i) (hi : i < l.length) : (delH l i).getD a z73 = l.getD a z73 := by
  unfold delH
  rw [List.getD_eq_getElem?_getD, List.getElem?_append_left (by simp; omega), List.getElem?_take, if_pos ha, ← List.getD_eq_getElem?_getD]
theorem delH_ge (l : List S73) (i a : Nat) (ha : i ≤ a) (hi : i < l.length) : (delH l i).getD a z73 = l.getD (a + 1) z73 := by
  unfold delH
  rw [List.getD_eq_getElem?_getD, List.getElem?_append_right (by simp; omega), List.getElem?_drop, show i + 1 + (a - (l.take i).length) = a + 1 from by simp; omega, ← List.getD_eq_getElem?_getD]

theorem zeroT : ∀ w, (zeroValue 73).run Try.prog w = .ok (.agg #[.int .u8 0, .int .i64 0]) w := fun w => by kernel_rfl
theorem oneT : ∀ u ∈ (Value.agg #[.int .u8 0, .int .i64 0]).cells, u.oneCell' = true := by
  intro u hu
  simp [Value.cells] at hu
  rcases hu with rfl | rfl <;> rfl

theorem seg_one' {f : Nat → Value} {l : List S73} (hf : ∀ a, a < l.length → AtH f a (l.getD a z73)) (i : Nat) : ∀ v ∈ seg f (i * 2) ((l.length - i) * 2), v.oneCell' = true := by
  by_cases hi : i < l.length
  · exact seg_one hf i hi
  · intro v hv
    rw [show l.length - i = 0 from by omega] at hv
    simp [seg] at hv

set_option maxRecDepth 100000 in
set_option maxHeartbeats 4000000 in
theorem delete_at (l : List S73) (G cap i : Nat) (f : Nat → Value) (w0 w : World) (hB : Below w0.heap.size w0 w) (hG : w0.heap.size ≤ G) (hi : i < l.length) (hc : l.length ≤ cap) (hm : cap ≤ maxLen)
    (hrow : Row w G 73 (cap * 2) f) (hf : ∀ a, a < l.length → AtH f a (l.getD a z73)) (hl : l.length ≤ 8796093022208) :
    Calls Try.prog 74 #[.slice (some ⟨G, 0, none⟩) l.length cap, .int .i64 (i : Int), .int .i64 ((i : Int) + 1)] w fun e w' => ∃ v1, e = .returned v1 ∧ Kd.R k73 73 w' w0.heap.size (fun _ => True) v1 (delH l i) ∧ Below w0.heap.size w0 w' ∧ Kept w w' (fun k => k = G) := by
  obtain ⟨i0, hi0, hzz⟩ := Option.map_eq_some_iff.1 infoH
  simp only [Prod.mk.injEq] at hzz
  have hk := hzz.2.1
  have hseg1 := seg_one' hf (i + 1)
  have HA := fun (a : Addr) (c : Nat) (hsrc : ∀ j v, (seg f ((i + 1) * 2) ((l.length - (i + 1)) * 2))[j]? = some v → w.drew.cell? (a.add j) = some v) =>
    (hrow.drew).append (P := Try.prog) (k := 2) 49 49 i cap a (l.length - (i + 1)) c (seg f ((i + 1) * 2) ((l.length - (i + 1)) * 2)) i0 Try.underlying49 hi0 hk (by rw [seg_len]) hsrc (by omega) (by rw [seg_len]; omega) hseg1
  have HFIN := fun (W : World) (vs : List Value) (hvs : vs.length = 1 * 2) (hr : Row W G 73 (cap * 2) (updL (updL f (i * 2) (seg f ((i + 1) * 2) ((l.length - (i + 1)) * 2))) ((l.length - 1) * 2) vs)) =>
    (show Kd.R k73 73 W w0.heap.size (fun _ => True) (.slice (some ⟨G, 0, none⟩) (delH l i).length cap) (delH l i) from
      row_own flatK (fun _ => trivial) hG (by rw [delH_len l i hi]; omega) hm hr (atH_to fun a ha => by
        rw [delH_len l i hi] at ha
        refine at_updL ?_ (.inl (by omega))
        by_cases h : a < i
        · rw [delH_lt l i a h hi]
          exact at_updL (hf a (by omega)) (.inl (by omega))
        · rw [delH_ge l i a (by omega) hi]
          exact at_seg (by rw [show i + 1 + (a - i) = a + 1 from by omega]; exact hf (a + 1) (by omega)) (by omega) (by omega)))
  have q1 : ((i : Int) == (i : Int) + 1) = false := by rw [beq_eq_false_iff_ne]; omega
  have b0 : (i : Int) < (l.length : Int) := by omega
  have b1 : (l.length : Int) ≤ (cap : Int) := by omega
  have b3 : (l.length : Int) ≤ 8796093022208 := by omega
  go_enter Try.func74, Try.ntmps74
  go_wp2
  have w1 : IntKind.i64.wrap ((i : Int) + 1) = (i : Int) + 1 := by rw [IntKind.wrap_i64]; omega
  have w2 : (0 : Int) ≤ (i : Int) + 1 := by omega
  have w3 : (i : Int) ≤ (cap : Int) := by omega
  have w4 : (i : Int) + 1 ≤ (l.length : Int) := by omega
  have t1 : ((i : Int) + 1).toNat = i + 1 := by omega
  by_cases hcap : cap = i + 1
  · have hlen : l.length = i + 1 := by omega
    have hrow1 : Row w.drew G 73 (cap * 2) (updL f (i * 2) (seg f ((i + 1) * 2) ((l.length - (i + 1)) * 2))) := hrow.drew.congr (fun j hj => by rw [updL_out _ _ _ _ (by rw [seg_len]; omega)])
    obtain ⟨cur2, hrun2, vs, hvs, hrow2⟩ := hrow1.clear (P := Try.prog) (k := 2) (t := 49) 0 (.agg #[.int .u8 0, .int .i64 0]) Try.underlying49 zeroT rfl oneT ((l.length - 1) * 2) 1 (cap - (l.length - 1)) (by omega)
    have HR := Aside0.mk (HFIN _ vs hvs hrow2)
    have HB := Aside0.mk (below_set_row (below_drew hB) hG cur2)
    have HK := Aside0.mk (kept_one w G cur2)
    rw [show l.length - 1 = i from by omega] at hrun2
    have H1 := fun (a : Addr) (c : Nat) => Aside0.mk (run_append_none_ (W := w.drew) 49 49 i cap ⟨G, 0, none⟩ a c i0 Try.underlying49 hi0 (by omega))
    have HL := Aside0.mk (delH_len l i hi)
    clear hB hrow hf hrow1 hrow2 hseg1 hm hl hG HA HFIN hvs hzz
    have n1 : ¬ cap = i := by omega
    have n2 : l.length - (i + 1) = 0 := by omega
    have n3 : (cap = i + 1) = True := eq_true hcap
    have HCAP := Aside0.mk hcap
    have HLEN := Aside0.mk hlen
    have n4 : l.length - 1 = i := by omega
    clear hcap hlen
    go_region_law (refine step_append_is rfl _ _ 49 49 rfl _ _ (by simp [Act.eval, Act.put]) (by simp [Act.eval, Act.put]) (H1 ⟨G, 0, none⟩ (cap - (i + 1))).out ?_)
    have w5 : (i : Int) ≤ (l.length : Int) := by have := HLEN.out; omega
    have w7 : l.length - i = 1 := by have := HLEN.out; omega
    go_wp2
    go_ret
    exact ⟨_, rfl, by have h := HR.out; rwa [HL.out, n4] at h, HB.out, HK.out⟩
  · obtain ⟨cur1, hrun1, hrow1⟩ := HA ⟨G, (i + 1) * 2, none⟩ (cap - (i + 1)) (fun j v hj => by obtain ⟨h1, h2⟩ := seg_get _ _ _ _ _ hj; rw [h2, show (⟨G, (i + 1) * 2, none⟩ : Addr).add j = ⟨G, (i + 1) * 2 + j, none⟩ from by unfold Addr.add; split <;> simp_all]; exact hrow.drew.cell (by omega))
    obtain ⟨cur2, hrun2, vs, hvs, hrow2⟩ := hrow1.clear (P := Try.prog) (k := 2) (t := 49) 0 (.agg #[.int .u8 0, .int .i64 0]) Try.underlying49 zeroT rfl oneT ((l.length - 1) * 2) 1 (cap - (l.length - 1)) (by omega)
    have HR := Aside0.mk (HFIN _ vs hvs hrow2)
    have HB := Aside0.mk (below_set_row (below_set_row (below_drew hB) hG cur1) hG cur2)
    have HK := Aside0.mk (kept_two w G cur1 cur2)
    rw [show i + (l.length - (i + 1)) = l.length - 1 from by omega] at hrun1
    have H1 := Aside0.mk hrun1
    have HL := Aside0.mk (delH_len l i hi)
    clear hB hrow hf hrun1 hrow1 hrow2 hseg1 hm hl hG HA HFIN hvs hzz hi0
    have n1 : ¬ cap = i := by omega
    go_region_law (refine step_append_is rfl _ _ 49 49 rfl _ _ (by simp [Act.eval, Act.put]) (by simp [Act.eval, Act.put]) H1.out ?_)
    have w5 : ((l.length - 1 : Nat) : Int) ≤ (l.length : Int) := by omega
    have w6 : ¬ cap = l.length - 1 := by omega
    have w7 : l.length - (l.length - 1) = 1 := by omega
    go_wp2
    go_ret
    exact ⟨_, rfl, by have h := HR.out; rwa [HL.out] at h, HB.out, HK.out⟩
/-- slices.Delete of one element of an own row. -/
theorem delete_calls (l : List S73) (v : Value) (i : Nat) (w0 w : World) (hB : Below w0.heap.size w0 w) (HO : Kd.R k73 73 w w0.heap.size (fun _ => True) v l) (hi : i < l.length) (hl : l.length ≤ 8796093022208) :
    Calls Try.prog 74 #[v, .int .i64 (i : Int), .int .i64 ((i : Int) + 1)] w fun e w' => ∃ v1, e = .returned v1 ∧ Kd.R k73 73 w' w0.heap.size (fun _ => True) v1 (delH l i) ∧ Below w0.heap.size w0 w' ∧ Kept w w' (fun k => v.ownBlock = some k) := by
  rcases own_row flatK HO with ⟨_, rfl⟩ | ⟨G, cap, f, rfl, hG, hcap, hmax, hrow, hf⟩
  · simp at hi
  · refine (delete_at l G cap i f w0 w hB hG hi hcap hmax hrow (fun a ha => atH_of hf a ha) hl).mono fun e w' => ?_
    rintro ⟨v1, h1, h2, h3, h4⟩
    exact ⟨v1, h1, h2, h3, h4.mono (fun k hk => by rw [hk]; rfl)⟩

end Go.Proofs.Ytolpcfjmhimpeaa.HD

/- ledger.Put: the tests ahead of its loop, and what it comes to. -/

namespace Go.Proofs.Ytolpcfjmhimpeaa.HD
open Go.RowKit Go.Proofs.YtolpcfjmhimpeaaW.PrintWords Go.Proofs.YtolpcfjmhimpeaaW.PrintLast Go.Proofs.Ytolpcfjmhimpeaa.P Go.Proofs.Ytolpcfjmhimpeaa.H
set_option linter.unusedVariables false
set_option linter.unusedSimpArgs false

theorem idx_ge (p : S73 → Bool) (l : List S73) : ∀ i, 0 ≤ i → decide (0 ≤ idx p l i) = l.any p := by
  induction l with
  | nil => intro i _; rfl
  | cons x l ih =>
    intro i hi
    unfold idx
    rw [List.any_cons]
    cases hx : p x with
    | true => rw [if_pos rfl]; simp [hi]
    | false => rw [if_neg (by simp), ih (i + 1) (by omega)]; simp
theorem contains_calls (p : S73 → Bool) (g : Nat) (lb : Array Value) (eg : ∀ args w, (callFunc g args).run Try.prog w = .ok (.enter g args) w) (A : Option Addr) (c : Nat) (l : List S73) (w : World)
    (hr : Kd.C k73 w A l.length l) (hp : PredH g lb p w) :
    Calls Try.prog 42 #[.slice A l.length c, .func (.func g) #[] lb] w fun e w' => e = .returned (.bool (l.any p)) ∧ Below w.heap.size w w' := by
  have HI := Aside0.mk (indexFunc p g lb eg A c l w hr hp)
  have HE := Aside0.mk (idx_ge p l 0 (Int.le_refl _))
  clear hr hp eg
  generalize idx p l 0 = r at HI HE
  go_enter Try.func42, Try.ntmps42
  go_wp2_with (go_at_call 60; refine HI.out.mono ?_; rintro e w1 ⟨rfl, hb1⟩; have HB1 := Aside0.mk hb1; clear hb1)
  go_ret
  exact ⟨by rw [← HE.out]; rfl, HB1.out⟩

def wideB (x : S73) : Bool := decide (x.f0 ≥ 64)
set_option maxRecDepth 100000 in
set_option maxHeartbeats 1000000 in
theorem putC (x : S73) (W : World) : Calls Try.prog 69 #[encH x] W fun e w' => e = .returned (.bool (wideB x)) ∧ Below W.heap.size W w' := by
  obtain ⟨x0, x1⟩ := x
  unfold encH wideB
  have HB := fun o => Aside0.mk ((Below.refl W.heap.size W).alloc (Nat.le_refl _) o)
  go_enter Try.func69, Try.ntmps69
  go_wp2
  go_ret
  exact ⟨by first | rfl | (simp; done), (HB _).out⟩
theorem wide_any_calls (A : Option Addr) (c : Nat) (l : List S73) (w : World) (hr : Kd.C k73 w A l.length l) :
    Calls Try.prog 42 #[.slice A l.length c, .func (.func 69) #[] #[]] w fun e w' => e = .returned (.bool (l.any wideB)) ∧ Below w.heap.size w w' :=
  contains_calls wideB 69 #[] (enters_of Try.func69 (by kernel_rfl) rfl) A c l w hr (fun W x _ => putC x W)
theorem wide_calls (A : Option Addr) (c : Nat) (l : List S73) (w : World) (hr : Kd.C k73 w A l.length l) :
    Calls Try.prog 42 #[.slice A l.length c, .func (.func 43) #[] #[]] w fun e w' => e = .returned (.bool (l.any wideB)) ∧ Below w.heap.size w w' :=
  contains_calls wideB 43 #[] (enters_of Try.func43 (by kernel_rfl) rfl) A c l w hr (fun W x _ => part_wide.calls x.f0 x.f1 (wideB x) W rfl)

/-! ledger.Right. -/
theorem w64 (i : Nat) (h : i < 9223372036854775807) : wrap64 ((i : Int) + 1) = ((i + 1 : Nat) : Int) := by unfold wrap64; omega
theorem drop_at {α : Type} (l : List α) (i : Nat) (h : i < l.length) : l.drop i = l[i] :: l.drop (i + 1) := List.drop_eq_getElem_cons h
theorem rdD (l : List S73) (i : Nat) (h : i < l.length) : rd_T73 l (i : Int) = l[i] := by unfold rd_T73; rw [Int.toNat_natCast, List.getD_eq_getElem?_getD, List.getElem?_eq_getElem h]; rfl
def okL (l : List S73) (i : Nat) : Bool := !(decide (64 ≤ (rd_T73 l (i : Int)).f0)) && !((rd_T73 l (i : Int)).f1 == 0) && (decide (i = 0) || decide ((rd_T73 l ((i - 1 : Nat) : Int)).f0 < (rd_T73 l (i : Int)).f0))
def lright (l : List S73) : Bool := (List.range l.length).all (okL l)
theorem lright_l0 (l : List S73) (hl : l.length ≤ 9223372036854775806) (d : Nat) : ∀ (k i : Nat), i + d = l.length → d < k → ledger_Right.l0 k l l (l.length : Int) (i : Int) = some (((List.range l.length).drop i).all (okL l)) := by
  induction d with
  | zero =>
    intro k i hi hk
    obtain ⟨k, rfl⟩ : ∃ m, k = m + 1 := ⟨k - 1, by omega⟩
    simp only [ledger_Right.l0]
    rw [if_neg (by omega), List.drop_of_length_le (by simp; omega)]
    rfl
  | succ d ih =>
    intro k i hi hk
    obtain ⟨k, rfl⟩ : ∃ m, k = m + 1 := ⟨k - 1, by omega⟩
    have hd : (List.range l.length).drop i = i :: (List.range l.length).drop (i + 1) := by rw [drop_at _ i (by simp; omega)]; simp
    have h2 := ih k (i + 1) (by omega) (by omega)
    rw [hd, List.all_cons]
    generalize ((List.range l.length).drop (i + 1)).all (okL l) = R at h2 ⊢
    simp only [ledger_Right.l0]
    rw [if_pos (by omega), if_pos (by omega), if_pos (by omega), w64 i (by omega), h2]
    unfold okL
    by_cases c1 : (rd_T73 l (i : Int)).f0 ≥ 64
    · rw [if_pos c1]; simp [c1]
    · rw [if_neg c1]
      by_cases c2 : (rd_T73 l (i : Int)).f1 = 0
      · rw [if_pos c2]; simp [c2]
      · rw [if_neg c2]
        have c1' : decide (64 ≤ (rd_T73 l (i : Int)).f0) = false := decide_eq_false (by omega)
        have c2' : ((rd_T73 l (i : Int)).f1 == 0) = false := by simpa using c2
        by_cases c3 : (i : Int) > 0
        · have e1 : wrap64 ((i : Int) - 1) = ((i - 1 : Nat) : Int) := by unfold wrap64; omega
          rw [if_pos c3, e1, if_pos (by omega), if_pos (by omega)]
          have c3' : decide (i = 0) = false := decide_eq_false (by omega)
          by_cases c4 : (rd_T73 l ((i - 1 : Nat) : Int)).f0 ≥ (rd_T73 l (i : Int)).f0
          · rw [if_pos c4, c1', c2', c3', decide_eq_false (by omega)]; rfl
          · rw [if_neg c4, c1', c2', c3', decide_eq_true (by omega)]; rfl
        · rw [if_neg c3, c1', c2', decide_eq_true (show i = 0 by omega)]; rfl
theorem lright_is (l : List S73) (hl : l.length ≤ 9223372036854775806) : ledger_Right.f (l.length + 1) l = some (lright l) := by
  unfold ledger_Right.f lright
  have := lright_l0 l hl l.length (l.length + 1) 0 (by omega) (by omega)
  rw [List.drop_zero] at this
  exact this
theorem lright_calls (A : Option Addr) (c : Nat) (l : List S73) (w : World) (hr : Kd.C k73 w A l.length l) (hc : l.length ≤ c) (hl : l.length ≤ 9223372036854775806) :
    Calls Try.prog 71 #[.slice A l.length c] w fun e w' => e = .returned (.bool (lright l)) ∧ Below w.heap.size w w' :=
  ledger_Right.calls (l.length + 1) A c l (lright l) w hr hc (lright_is l hl)

/-! What one delta makes of a ledger. -/
def spotK (l : List S73) (x : Int) : Int := bs (lessK l x) l.length 0 l.length
def isK (l : List S73) (x : Int) : Bool := decide (spotK l x < (l.length : Int)) && cmpI (rd_T73 l (spotK l x)).f0 x == 0
def insK (l : List S73) (x : Int) : List S73 := if isK l x = true then l else insH l (spotK l x).toNat ⟨x, 0⟩
def setK (l : List S73) (i : Nat) (s : Int) : List S73 := l.set i ⟨(l.getD i z73).f0, s⟩
def sumK (l : List S73) (x : S73) : Int := wrap64 (((insK l x.f0).getD (spotK l x.f0).toNat z73).f1 + x.f1)
def put1 (l : List S73) (x : S73) : List S73 :=
  if sumK l x == 0 then delH (setK (insK l x.f0) (spotK l x.f0).toNat (sumK l x)) (spotK l x.f0).toNat else setK (insK l x.f0) (spotK l x.f0).toNat (sumK l x)
def putL (l d : List S73) : List S73 := d.foldl put1 l
def putF (l d : List S73) : Option (List S73 × Int) :=
  if l.length + d.length + 1 ≤ 5864062014805 then some (if lright l = true ∧ d.any wideB = false then (putL l d, 0) else (l, 2)) else none
theorem spotK_range (l : List S73) (x : Int) : 0 ≤ spotK l x ∧ spotK l x ≤ l.length := bs_range _ _ _ _ (by omega)
theorem insK_at (l : List S73) (x : Int) : (spotK l x).toNat < (insK l x).length ∧ (insK l x).length ≤ l.length + 1 := by
  have h := spotK_range l x
  unfold insK
  cases hi : isK l x with
  | true =>
    rw [if_pos rfl]
    unfold isK at hi
    rw [Bool.and_eq_true] at hi
    have := of_decide_eq_true hi.1
    omega
  | false =>
    rw [if_neg (by simp), insH_len _ _ _ (by omega)]
    omega
theorem setK_len (l : List S73) (i : Nat) (s : Int) : (setK l i s).length = l.length := by simp [setK]
theorem put1_len (l : List S73) (x : S73) : (put1 l x).length ≤ l.length + 1 := by
  have h := insK_at l x.f0
  unfold put1
  split
  · rw [delH_len _ _ (by rw [setK_len]; exact h.1), setK_len]; omega
  · rw [setK_len]; exact h.2
theorem putL_len (l d : List S73) : (putL l d).length ≤ l.length + d.length := by
  unfold putL
  induction d generalizing l with
  | nil => exact Nat.le_refl _
  | cons x d ih =>
    have h1 := ih (put1 l x)
    have h2 := put1_len l x
    simp only [List.foldl_cons, List.length_cons]
    omega
theorem putL_snoc (l d : List S73) (k : Nat) (h : k < d.length) : putL l (d.take (k + 1)) = put1 (putL l (d.take k)) (rd_T73 d (k : Int)) := by
  rw [List.take_succ_eq_append_getElem h, rdD d k h]
  unfold putL
  rw [List.foldl_append]
  rfl

/-- One element's number is another one from now on. -/
theorem set_own {W : World} {base G cap n : Nat} {f : Nat → Value} {l : List S73} (hG : base ≤ G) (hn : n < l.length) (hc : l.length ≤ cap) (hm : cap ≤ maxLen) (h : Row W G 73 (cap * 2) f)
    (hf : ∀ i j, ∀ hi : i < l.length, j < 2 → some (f (i * 2 + j)) = (cellsH l[i])[j]?) (s : Int) :
    Kd.R k73 73 (W.setCell ⟨G, n * 2 + 1, none⟩ (.int .i64 s)) base (fun _ => True) (.slice (some ⟨G, 0, none⟩) l.length cap) (setK l n s) := by
  have e : l.length = (setK l n s).length := by simp [setK]
  rw [e]
  refine row_own flatK (fun _ => trivial) hG (by rw [← e]; exact hc) hm (h.set (by omega) _) (atH_to fun a ha => ?_)
  rw [← e] at ha
  have ha2 := atH_of hf a ha
  unfold setK
  by_cases h1 : a = n
  · subst h1
    rw [show (l.set a ⟨(l.getD a z73).f0, s⟩).getD a z73 = ⟨(l.getD a z73).f0, s⟩ from by simp [List.getD_eq_getElem?_getD, ha]]
    exact ⟨by unfold upd; rw [if_neg (by omega)]; exact ha2.c0, by unfold upd; rw [if_pos rfl]⟩
  · rw [show (l.set n ⟨(l.getD n z73).f0, s⟩).getD a z73 = l.getD a z73 from by rw [List.getD_eq_getElem?_getD, List.getElem?_set_ne (fun h => h1 h.symm), ← List.getD_eq_getElem?_getD]]
    exact ⟨by unfold upd; rw [if_neg (by omega)]; exact ha2.c0, by unfold upd; rw [if_neg (by omega)]; exact ha2.c1⟩
end Go.Proofs.Ytolpcfjmhimpeaa.HD

/- ledger.Put: the walk. -/

namespace Go.Proofs.Ytolpcfjmhimpeaa.HD
open Go.RowKit Go.Proofs.YtolpcfjmhimpeaaW.PrintWords Go.Proofs.YtolpcfjmhimpeaaW.PrintLast Go.Proofs.Ytolpcfjmhimpeaa.P Go.Proofs.Ytolpcfjmhimpeaa.H
set_option linter.unusedVariables false
set_option linter.unusedSimpArgs false

theorem kept_cell {w W : World} {S : Nat → Prop} (h : Kept w W S) {p : Addr} (hp : ¬ S p.block) {v : Value} (hc : w.cell? p = some v) : W.cell? p = some v := by
  have hlt := World.block_lt_of_cell? w _ hc
  have := h.2 p.block hlt hp
  unfold World.cell? at hc ⊢
  rw [this]
  exact hc

/-- In a round: the row, and the delta's box. -/
structure PS (w W : World) (l : List S73) (v : Value) (b : Nat) (x : S73) : Prop where
  own : Kd.R k73 73 W w.heap.size (fun _ => True) v l
  bel : Below w.heap.size w W
  c0 : W.cell? ⟨b, 0, none⟩ = some (.int .u8 x.f0)
  c1 : W.cell? ⟨b, 1, none⟩ = some (.int .i64 x.f1)
  ne : v.ownBlock ≠ some b
theorem PS.step {w W W' : World} {l : List S73} {v : Value} {b : Nat} {x : S73} (h : PS w W l v b x) (hb : Below W.heap.size W W') : PS w W' l v b x :=
  ⟨Kd.R_below h.own hb, below_then h.bel h.bel.size hb, (hb.cell (World.block_lt_of_cell? W _ h.c0)).trans h.c0, (hb.cell (World.block_lt_of_cell? W _ h.c1)).trans h.c1, h.ne⟩
theorem PS.lt {w W : World} {l : List S73} {v : Value} {b : Nat} {x : S73} (h : PS w W l v b x) : b < W.heap.size := World.block_lt_of_cell? W ⟨b, 0, none⟩ h.c0
theorem PS.start {w wr : World} {l : List S73} {v : Value} (ho : Kd.R k73 73 wr w.heap.size (fun _ => True) v l) (hb : Below w.heap.size w wr) (x : S73) :
    PS w (wr.alloc (.cells #[.int .u8 x.f0, .int .i64 x.f1] 73)) l v wr.heap.size x := by
  refine ⟨Kd.R_alloc ho _, below_alloc hb _, by go_simp, by go_simp, fun e => ?_⟩
  obtain ⟨inner, h⟩ := Kd.R_own ho
  exact Nat.lt_irrefl _ (own_lt h _ e)
/-- Behind a call that has written the row. -/
theorem PS.call {w W W' : World} {l l' : List S73} {v v' : Value} {b : Nat} {x : S73} (h : PS w W l v b x) (ho : Kd.R k73 73 W' w.heap.size (fun _ => True) v' l') (hb : Below w.heap.size w W') (hk : Kept W W' (fun k => v.ownBlock = some k)) (hne : v'.ownBlock ≠ some b) : PS w W' l' v' b x :=
  ⟨ho, hb, kept_cell hk h.ne h.c0, kept_cell hk h.ne h.c1, hne⟩

theorem own_some {W : World} {base : Nat} {v : Value} {l : List S73} (h : Kd.R k73 73 W base (fun _ => True) v l) (hl : 0 < l.length) :
    ∃ g cap f, v = .slice (some ⟨g, 0, none⟩) l.length cap ∧ base ≤ g ∧ l.length ≤ cap ∧ cap ≤ maxLen ∧ Row W g 73 (cap * 2) f ∧ ∀ i j, ∀ hi : i < l.length, j < 2 → some (f (i * 2 + j)) = (cellsH l[i])[j]? := by
  rcases own_row flatK h with ⟨_, hn⟩ | h
  · subst hn; simp at hl
  · exact h
theorem below_kept_cell {w W : World} (h : Below w.heap.size w W) {p : Addr} {v : Value} (hc : w.cell? p = some v) : W.cell? p = some v := (h.cell (World.block_lt_of_cell? w _ hc)).trans hc

set_option maxRecDepth 100000 in
set_option maxHeartbeats 16000000 in
theorem put_calls (A0 : Option Addr) (c0 : Nat) (l0 : List (S73)) (A1 : Option Addr) (c1 : Nat) (l1 : List (S73)) (r1 : List (S73)) (r2 : Int) (w : World) (hr0 : Kd.C k73 w A0 l0.length l0) (hc0 : l0.length ≤ c0) (hr1 : Kd.C k73 w A1 l1.length l1) (hc1 : l1.length ≤ c1) (h : putF l0 l1 = some (r1, r2)) :
    Calls Try.prog 51 #[.slice A0 l0.length c0, .slice A1 l1.length c1] w fun e w' => ∃ v0_ : Value, e = .returned (.tuple #[v0_, .int .i64 r2]) ∧ Kd.R k73 73 w' w.heap.size (fun _ => True) v0_ r1 ∧ Below w.heap.size w w' := by
  have hl : l0.length + l1.length + 1 ≤ 5864062014805 := by
    unfold putF at h
    split at h
    · assumption
    · cases h
  unfold putF at h
  rw [if_pos hl] at h
  injection h with h
  have HL := Aside0.mk hl
  have HCl := Aside0.mk (clone_calls A0 c0 l0 w hr0 (by omega))
  have HRt := Aside0.mk (fun A c W hr hc => lright_calls A c l0 W hr hc (by omega))
  have HW := Aside0.mk (fun W hb => wide_any_calls A1 c1 l1 W (Kd.C_below hr1 hb))
  have HX := Aside0.mk hr1
  have b3 : (l1.length : Int) ≤ 5864062014805 := by omega
  clear hr0 hr1 hc0 hc1 hl
  cases q1 : lright l0 with
  | false =>
    rw [q1] at HRt
    rw [q1, if_neg (by simp)] at h
    clear q1
    injection h with e1 e2
    subst e1 e2
    go_enter Try.func51, Try.ntmps51
    go_wp2_with (first | (go_at_call 70; refine HCl.out.mono ?_; rintro e w1 ⟨v1, rfl, hR1, hb1⟩; obtain ⟨A2, c2, rfl⟩ := Kd.R_slice hR1; have HR1 := Aside0.mk hR1; have HB1 := Aside0.mk hb1; clear hR1 hb1) | (go_at_call 71; with_reducible refine (HRt.out A2 c2 _ (Kd.R_reads' HR1.out).2.2 (Kd.R_reads' HR1.out).2.1).mono ?_; rintro e w2 ⟨rfl, hb2⟩; have HB2 := Aside0.mk hb2; clear hb2))
    go_ret2
    exact ⟨_, rfl, Kd.R_below HR1.out HB2.out, bt HB1.out HB2.out⟩
  | true =>
    rw [q1] at HRt
    cases q2 : l1.any wideB with
    | true =>
      rw [q2] at HW
      rw [q2, if_neg (by simp)] at h
      clear q1 q2
      injection h with e1 e2
      subst e1 e2
      go_enter Try.func51, Try.ntmps51
      go_wp2_with (first | (go_at_call 70; refine HCl.out.mono ?_; rintro e w1 ⟨v1, rfl, hR1, hb1⟩; obtain ⟨A2, c2, rfl⟩ := Kd.R_slice hR1; have HR1 := Aside0.mk hR1; have HB1 := Aside0.mk hb1; clear hR1 hb1) | (go_at_call 71; with_reducible refine (HRt.out A2 c2 _ (Kd.R_reads' HR1.out).2.2 (Kd.R_reads' HR1.out).2.1).mono ?_; rintro e w2 ⟨rfl, hb2⟩; have HB2 := Aside0.mk (bt HB1.out hb2); have HR2 := Aside0.mk (Kd.R_below HR1.out hb2); clear hb2) | (go_at_call 42; with_reducible refine (HW.out _ HB2.out).mono ?_; rintro e w3 ⟨rfl, hb3⟩; have HB3 := Aside0.mk hb3; clear hb3))
      go_ret2
      exact ⟨_, rfl, Kd.R_below HR2.out HB3.out, bt HB2.out HB3.out⟩
    | false =>
      rw [q2] at HW
      rw [q1, q2, if_pos ⟨rfl, rfl⟩] at h
      clear q1 q2
      injection h with e1 e2
      subst e2
      have HE := Aside0.mk e1
      clear e1
      go_enter Try.func51, Try.ntmps51
      go_wp2_with (first | (go_at_call 70; refine HCl.out.mono ?_; rintro e w1 ⟨v1, rfl, hR1, hb1⟩; obtain ⟨A2, c2, rfl⟩ := Kd.R_slice hR1; have HR1 := Aside0.mk hR1; have HB1 := Aside0.mk hb1; clear hR1 hb1) | (go_at_call 71; with_reducible refine (HRt.out A2 c2 _ (Kd.R_reads' HR1.out).2.2 (Kd.R_reads' HR1.out).2.1).mono ?_; rintro e w2 ⟨rfl, hb2⟩; have HB2 := Aside0.mk (bt HB1.out hb2); have HR2 := Aside0.mk (Kd.R_below HR1.out hb2); clear hb2) | (go_at_call 42; with_reducible refine (HW.out _ HB2.out).mono ?_; rintro e w3 ⟨rfl, hb3⟩; have HB3 := Aside0.mk (bt HB2.out hb3); have HR3 := Aside0.mk (Kd.R_below HR2.out hb3); clear hb3))
      clear HCl HRt HW HR1 HB1 HR2 HB2
      go_loopg [0, 8, 9, 10, 24] l1.length (fun gg s0 _ _ _ s24 wr => ∃ kk : Nat, s24 = .int .i64 (kk : Int) ∧ Aside0 (kk ≤ l1.length ∧ l1.length - kk ≤ gg) ∧ Aside0 (Below w.heap.size w wr) ∧ Aside0 (Kd.R k73 73 wr w.heap.size (fun _ => True) s0 (putL l0 (l1.take kk))))
      case atStart => exact ⟨0, rfl, ⟨by omega, by omega⟩, HB3, ⟨by simpa [putL] using HR3.out⟩⟩
      case round =>
        obtain ⟨kk, rfl, HK, BW, HO⟩ := hrel
        have hh := HK.out
        by_cases hlt : kk < l1.length
        · obtain ⟨g', rfl⟩ : ∃ g', gk = g' + 1 := ⟨gk - 1, by omega⟩
          have hlt' : decide ((kk : Int) < (l1.length : Int)) = true := decide_eq_true (by omega)
          obtain ⟨ad, e0, h0, h1⟩ := at_T73 HX.out (kk : Int) (by omega) (by omega)
          cases e0
          rw [Int.toNat_natCast] at h0 h1
          replace h0 := below_kept_cell BW.out h0
          replace h1 := below_kept_cell BW.out h1
          have HSN := Aside0.mk (putL_snoc l0 l1 kk hlt)
          have HLN := Aside0.mk (putL_len l0 (l1.take kk))
          have HTK : Aside0 ((l1.take kk).length ≤ l1.length) := ⟨by rw [List.length_take]; omega⟩
          generalize putL l0 (l1.take kk) = l at HO HSN HLN
          generalize rd_T73 l1 (kk : Int) = x at h0 h1 HSN
          obtain ⟨A2, c2, rfl⟩ := Kd.R_slice HO.out
          have PS1 := Aside0.mk (PS.start HO.out BW.out x)
          have HLL : Aside0 (l.length + 1 ≤ 5864062014805) := ⟨by have := HLN.out; have := HTK.out; have := HL.out; omega⟩
          have HFD := Aside0.mk (fun W (hp : PS w W l (.slice A2 l.length c2) wr.heap.size x) => find_calls A2 c2 l x.f0 W (Kd.R_reads' hp.own).2.2 (by have := HLL.out; omega))
          have HRG := Aside0.mk (spotK_range l x.f0)
          have HAT := Aside0.mk (insK_at l x.f0)
          have HSP : Aside0 (spotK l x.f0 = bs (lessK l x.f0) l.length 0 l.length) := ⟨rfl⟩
          have HIS : Aside0 (isK l x.f0 = (decide (spotK l x.f0 < (l.length : Int)) && cmpI (rd_T73 l (spotK l x.f0)).f0 x.f0 == 0)) := ⟨rfl⟩
          rw [← HSP.out, ← HIS.out] at HFD
          have HP1 : Aside0 (put1 l x = if sumK l x == 0 then delH (setK (insK l x.f0) (spotK l x.f0).toNat (sumK l x)) (spotK l x.f0).toNat else setK (insK l x.f0) (spotK l x.f0).toNat (sumK l x)) := ⟨rfl⟩
          have HSM : Aside0 (sumK l x = wrap64 (((insK l x.f0).getD (spotK l x.f0).toNat z73).f1 + x.f1)) := ⟨rfl⟩
          obtain ⟨n, hn⟩ : ∃ n : Nat, spotK l x.f0 = n := ⟨(spotK l x.f0).toNat, by have := HRG.out; omega⟩
          rw [hn] at HFD HRG HAT HP1 HSM
          rw [Int.toNat_natCast] at HAT HP1 HSM
          have HN := Aside0.mk hn
          clear HSP HIS hn HLN HTK hh
          have b1 : (n : Int) ≤ (l.length : Int) := HRG.out.2
          have b2 : (l.length : Int) ≤ 5864062014805 := by have := HLL.out; omega
          cases hi : isK l x.f0 with
          | true =>
            have hl1 : insK l x.f0 = l := by unfold insK; rw [if_pos hi]
            rw [hl1] at HAT HP1 HSM
            rw [hi] at HFD
            clear hl1 hi
            obtain ⟨s, hs⟩ : ∃ s, sumK l x = s := ⟨_, rfl⟩
            rw [hs] at HP1 HSM
            have c5 : (n : Int) < (l.length : Int) := by have := HAT.out; omega
            rcases own_row flatK HO.out with ⟨_, hnil⟩ | ⟨G, cap, f, hv, hG, hcap, hmax, hrow, hf⟩
            · subst hnil
              exact absurd c5 (by simp)
            · injection hv with hv1 hv2 hv3
              subst hv1 hv3
              have hnl : n < l.length := by omega
              have hA := (atH_of hf n hnl).c1
              have HSET := Aside0.mk (fun (W : World) (h : Row W G 73 (c2 * 2) f) (s : Int) => set_own (base := w.heap.size) hG hnl hcap hmax h hf s)
              have HG := Aside0.mk hG
              have HROW := Aside0.mk hrow
              have HBN := Aside0.mk (show n * 2 + 1 < c2 * 2 by omega)
              have n1 : n < l.length := hnl
              have HA := Aside0.mk hA
              clear hf hrow hG hcap hmax hnl hA HO hs
              generalize hy : (l.getD n z73).f1 = y at HA HSM
              clear hy
              have i0 : (0 : Int) ≤ (n : Int) := Int.natCast_nonneg _
              go_wp2_with (go_at_call 72; with_reducible refine ((HFD.out) _ PS1.out).mono ?_; rintro e w4 ⟨rfl, hb4⟩; have PS4 := Aside0.mk (PS1.out.step hb4); have y0 := PS4.out.c0; have y1 := PS4.out.c1; have HR4 := Aside0.mk (HROW.out.below (bt (below_alloc (Below.refl wr.heap.size wr) _) hb4)); have r2 : w4.cell? ⟨G, n * 2 + 1, none⟩ = some (.int .i64 y) := (HR4.out.cell HBN.out).trans (congrArg some HA.out); have z2 := HR4.out.free (n * 2 + 1); clear hb4 h0 h1)
              clear y0
              have hin : (n : Int) < (l.length : Int) := c5
              have hsm : wrap64 (y + x.f1) = s := HSM.out.symm
              go_region
              have HR5 := Aside0.mk (HSET.out w4 HR4.out s)
              have HB5 := Aside0.mk ((PS4.out.bel).setCell (p := ⟨G, n * 2 + 1, none⟩) HG.out (.int .i64 s))
              have HDL := Aside0.mk (delete_calls (setK l n s) (.slice (some ⟨G, 0, none⟩) l.length c2) n w ((w4.setCell ⟨G, n * 2 + 1, none⟩ (.int .i64 s)).drew) (below_drew HB5.out) (Kd.R_drew HR5.out) (by rw [setK_len]; exact n1) (by rw [setK_len]; have := HLL.out; omega))
              clear hsm y1
              by_cases hs0 : s = 0
              · subst hs0
                rw [show ((0 : Int) == 0) = true from rfl, if_pos rfl] at HP1
                go_wp2_with (go_at_call 74; with_reducible refine (HDL.out).mono ?_; rintro e w6 ⟨v6, rfl, hR6, hB6, hK6⟩; have HR6 := Aside0.mk hR6; have HB6 := Aside0.mk hB6; clear hR6 hB6 hK6)
                go_roundg g'
                case measure => omega
                case rel => exact ⟨kk + 1, by go_num, ⟨by have := HK.out; omega⟩, HB6, ⟨by rw [HSN.out, HP1.out]; exact HR6.out⟩⟩
              · have q3 : (s == 0) = false := by simpa using hs0
                rw [q3, if_neg (by simp)] at HP1
                clear HDL
                go_wp2
                go_roundg g'
                case measure => omega
                case rel => exact ⟨kk + 1, by go_num, ⟨by have := HK.out; omega⟩, ⟨below_drew HB5.out⟩, ⟨by rw [HSN.out, HP1.out]; exact Kd.R_drew HR5.out⟩⟩
          | false =>
            have hl1 : insK l x.f0 = insH l n ⟨x.f0, 0⟩ := by
              unfold insK
              rw [if_neg (by rw [hi]; simp), HN.out, Int.toNat_natCast]
            rw [hi] at HFD
            clear hi
            have HIN := Aside0.mk (fun W (hp : PS w W l (.slice A2 l.length c2) wr.heap.size x) => insert_calls l (.slice A2 l.length c2) n W.heap.size ⟨x.f0, 0⟩ w (W.alloc (.cells #[.int .u8 x.f0, .int .i64 0] 73)) (below_alloc hp.bel _) (Kd.R_alloc hp.own _) (by omega) (fun e => by obtain ⟨inner, ho⟩ := Kd.R_own hp.own; exact Nat.lt_irrefl _ (own_lt ho _ e)) (heap_alloc_new _ _) (by have := HLL.out; omega))
            rw [← hl1] at HIN
            obtain ⟨L1, hL1⟩ : ∃ L1, insK l x.f0 = L1 := ⟨_, rfl⟩
            rw [hL1] at HAT HP1 HSM HIN
            clear hl1 hL1
            obtain ⟨s, hs⟩ : ∃ s, sumK l x = s := ⟨_, rfl⟩
            rw [hs] at HP1 HSM
            clear hs HO
            have n1 : n < L1.length := HAT.out.1
            have n2 : (L1.length : Int) ≤ 5864062014806 := by have := HAT.out.2; omega
            generalize hy : (L1.getD n z73).f1 = y at HSM
            have HY := Aside0.mk hy
            clear hy
            have i0 : (0 : Int) ≤ (n : Int) := Int.natCast_nonneg _
            go_wp2_with (first | (go_at_call 72; with_reducible refine ((HFD.out) _ PS1.out).mono ?_; rintro e w4 ⟨rfl, hb4⟩; have PS4 := Aside0.mk (PS1.out.step hb4); have y0 := PS4.out.c0; have y1 := PS4.out.c1; clear hb4 h0 h1) | (go_at_call 73; with_reducible refine ((HIN.out) w4 PS4.out).mono ?_; rintro e w5 ⟨v5, rfl, hR5, hb5, hk5⟩; obtain ⟨G, cap, f, rfl, hG, hcap, hmax, hrow, hf⟩ := own_some hR5 (Nat.lt_of_le_of_lt (Nat.zero_le _) n1); have HB4 := Aside0.mk hb5; have HSET := Aside0.mk (fun (s : Int) => set_own (W := w5) (base := w.heap.size) hG n1 hcap hmax hrow hf s); have HG := Aside0.mk hG; have z2 := hrow.free (n * 2 + 1); have r2 : w5.cell? ⟨G, n * 2 + 1, none⟩ = some (.int .i64 y) := (hrow.cell (by omega)).trans (congrArg some ((atH_of hf n n1).c1.trans (by rw [HY.out]))); have y2 : w5.cell? ⟨wr.heap.size, 1, none⟩ = some (.int .i64 x.f1) := kept_cell hk5 PS4.out.ne (below_kept_cell (below_alloc (Below.refl _ _) _) y1); clear hR5 hb5 hk5 hcap hmax hrow hf hG))
            clear y0 y1
            have hin : (n : Int) < (L1.length : Int) := by omega
            have hsm : wrap64 (y + x.f1) = s := HSM.out.symm
            go_region
            have HR5 := Aside0.mk (HSET.out s)
            have HB5 := Aside0.mk ((HB4.out).setCell (p := ⟨G, n * 2 + 1, none⟩) HG.out (.int .i64 s))
            have HDL := Aside0.mk (delete_calls (setK L1 n s) (.slice (some ⟨G, 0, none⟩) L1.length cap) n w ((w5.setCell ⟨G, n * 2 + 1, none⟩ (.int .i64 s)).drew) (below_drew HB5.out) (Kd.R_drew HR5.out) (by rw [setK_len]; exact n1) (by rw [setK_len]; have := HLL.out; have := HAT.out.2; omega))
            clear hsm y2
            by_cases hs0 : s = 0
            · subst hs0
              rw [show ((0 : Int) == 0) = true from rfl, if_pos rfl] at HP1
              go_wp2_with (go_at_call 74; with_reducible refine (HDL.out).mono ?_; rintro e w6 ⟨v6, rfl, hR6, hB6, hK6⟩; have HR6 := Aside0.mk hR6; have HB6 := Aside0.mk hB6; clear hR6 hB6 hK6)
              go_roundg g'
              case measure => omega
              case rel => exact ⟨kk + 1, by go_num, ⟨by have := HK.out; omega⟩, HB6, ⟨by rw [HSN.out, HP1.out]; exact HR6.out⟩⟩
            · have q3 : (s == 0) = false := by simpa using hs0
              rw [q3, if_neg (by simp)] at HP1
              clear HDL
              go_wp2
              go_roundg g'
              case measure => omega
              case rel => exact ⟨kk + 1, by go_num, ⟨by have := HK.out; omega⟩, ⟨below_drew HB5.out⟩, ⟨by rw [HSN.out, HP1.out]; exact Kd.R_drew HR5.out⟩⟩
        · obtain rfl : kk = l1.length := by omega
          have hlt' : decide ((l1.length : Int) < (l1.length : Int)) = false := decide_eq_false (by omega)
          rw [List.take_length] at HO
          clear hh hlt
          go_wp2
          go_ret2
          exact ⟨_, rfl, by rw [← HE.out]; exact HO.out, BW.out⟩
end Go.Proofs.Ytolpcfjmhimpeaa.HD

/- part.Right. -/

namespace Go.Proofs.Ytolpcfjmhimpeaa.HD
open Go.RowKit Go.Proofs.YtolpcfjmhimpeaaW.PrintWords Go.Proofs.YtolpcfjmhimpeaaW.PrintLast Go.Proofs.Ytolpcfjmhimpeaa.P Go.Proofs.Ytolpcfjmhimpeaa.H
set_option linter.unusedVariables false
set_option linter.unusedSimpArgs false

def prightB (st : Int) (l : List S73) (loc : Bool) (out : Int) : Bool :=
  if (decide (st < 0) || decide (3 < st) || decide (50 < (l.length : Int)) || l.any wideB) = true then false
  else if (st == 3) = true then (out == 1 || out == 2) else (out == 0 && (!loc || st == 1))
def prightF (st : Int) (l : List S73) (loc : Bool) (out : Int) : Option Bool := some (prightB st l loc out)

set_option maxRecDepth 100000 in
set_option maxHeartbeats 8000000 in
theorem pright_calls (a0_0 : Int) (A0_1 : Option Addr) (c0_1 : Nat) (l0_1 : List (S73)) (a0_2 : Bool) (a0_3 : Int) (r : Bool) (w : World) (hr0_1 : Kd.C k73 w A0_1 l0_1.length l0_1) (hc0_1 : l0_1.length ≤ c0_1) (h : prightF a0_0 l0_1 a0_2 a0_3 = some r) :
    Calls Try.prog 33 #[.agg #[.int .i64 a0_0, .slice A0_1 l0_1.length c0_1, .bool a0_2, .int .i64 a0_3]] w fun e w' => e = .returned (.bool r) ∧ Below w.heap.size w w' := by
  have h := Option.some.inj h
  have HB0 := Aside0.mk (below_alloc (Below.refl w.heap.size w) (.cells #[.int .i64 a0_0, .slice A0_1 l0_1.length c0_1, .bool a0_2, .int .i64 a0_3] 40))
  have HW := Aside0.mk (wide_calls A0_1 c0_1 l0_1 _ (Kd.C_below hr0_1 HB0.out))
  clear hr0_1 hc0_1
  unfold prightB at h
  cases a1 : decide (a0_0 < 0) with
  | true =>
    rw [a1] at h
    simp only [Bool.true_or, if_true] at h
    subst h
    go_enter Try.func33, Try.ntmps33
    go_wp2
    go_ret
    exact ⟨rfl, HB0.out⟩
  | false =>
    cases a2 : decide (3 < a0_0) with
    | true =>
      rw [a1, a2] at h
      simp only [Bool.true_or, Bool.or_true, if_true] at h
      subst h
      go_enter Try.func33, Try.ntmps33
      go_wp2
      go_ret
      exact ⟨rfl, HB0.out⟩
    | false =>
      cases a3 : decide (50 < (l0_1.length : Int)) with
      | true =>
        rw [a1, a2, a3] at h
        simp only [Bool.true_or, Bool.or_true, if_true] at h
        subst h
        have a3' : decide (50 < l0_1.length) = true := decide_eq_true (by have := of_decide_eq_true a3; omega)
        go_enter Try.func33, Try.ntmps33
        go_wp2
        go_ret
        exact ⟨rfl, HB0.out⟩
      | false =>
        have a3' : decide (50 < l0_1.length) = false := decide_eq_false (by have := of_decide_eq_false a3; omega)
        cases a4 : l0_1.any wideB with
        | true =>
          rw [a1, a2, a3, a4] at h
          rw [a4] at HW
          simp only [Bool.true_or, Bool.or_true, if_true] at h
          subst h
          go_enter Try.func33, Try.ntmps33
          go_wp2_with (go_at_call 42; with_reducible refine (HW.out).mono ?_; rintro e w1 ⟨rfl, hb1⟩; have HB1 := Aside0.mk (bt HB0.out hb1); clear hb1)
          go_ret
          exact ⟨rfl, HB1.out⟩
        | false =>
          rw [a1, a2, a3, a4] at h
          rw [a4] at HW
          simp only [Bool.or_self, Bool.false_eq_true, if_false] at h
          have HH := Aside0.mk h
          clear h
          have KEEP := Aside0.mk (fun (W : World) (h : Below ((w.alloc (.cells #[.int .i64 a0_0, .slice A0_1 l0_1.length c0_1, .bool a0_2, .int .i64 a0_3] 40)).heap.size) (w.alloc (.cells #[.int .i64 a0_0, .slice A0_1 l0_1.length c0_1, .bool a0_2, .int .i64 a0_3] 40)) W) =>
            (show W.cell? ⟨w.heap.size, 0, none⟩ = some (.int .i64 a0_0) ∧ W.cell? ⟨w.heap.size, 2, none⟩ = some (.bool a0_2) ∧ W.cell? ⟨w.heap.size, 3, none⟩ = some (.int .i64 a0_3) from
              ⟨(h.cell (p := ⟨w.heap.size, 0, none⟩) (by simp)).trans (by go_simp), (h.cell (p := ⟨w.heap.size, 2, none⟩) (by simp)).trans (by go_simp), (h.cell (p := ⟨w.heap.size, 3, none⟩) (by simp)).trans (by go_simp)⟩))
          cases b1 : (a0_3 == 1) <;> cases b2 : (a0_3 == 2) <;> cases b3 : (a0_0 == 3) <;> cases b4 : (a0_3 == 0) <;> cases b5 : (a0_0 == 1) <;> cases a0_2
          all_goals
            rw [b1, b2, b3, b4, b5] at HH
            go_enter Try.func33, Try.ntmps33
            go_wp2_with (go_at_call 42; with_reducible refine (HW.out).mono ?_; rintro e w1 ⟨rfl, hb1⟩; have HB1 := Aside0.mk (bt HB0.out hb1); obtain ⟨y0, y1, y2⟩ := KEEP.out _ hb1; clear hb1)
            go_ret
            exact ⟨by rw [← HH.out]; rfl, HB1.out⟩
end Go.Proofs.Ytolpcfjmhimpeaa.HD

/- part.opposites: a range over slices.Backward. -/

namespace Go.Proofs.Ytolpcfjmhimpeaa.HD
open Go.RowKit Go.Shelf Go.Proofs.YtolpcfjmhimpeaaW.PrintWords Go.Proofs.YtolpcfjmhimpeaaW.PrintLast Go.Proofs.Ytolpcfjmhimpeaa.P Go.Proofs.Ytolpcfjmhimpeaa.H
set_option linter.unusedVariables false
set_option linter.unusedSimpArgs false
attribute [local go_sem] Oper.semAt_some

def upto {α : Type} (f : Nat → α) (k : Nat) : List α := (List.range k).map f
theorem upto_succ {α : Type} (f : Nat → α) (k : Nat) : upto f (k + 1) = upto f k ++ [f k] := by simp [upto, List.range_succ]
theorem upto_length {α : Type} (f : Nat → α) (k : Nat) : (upto f k).length = k := by simp [upto]

/-- What a round keeps: what lay ahead of the call, and the iterator's box. -/
def KpB (n₀ Bs : Nat) (A B : World) : Prop := Below n₀ A B ∧ B.heap[Bs]? = A.heap[Bs]?
theorem KpB.trans {n₀ Bs : Nat} {A B C : World} (h : KpB n₀ Bs A B) (k : KpB n₀ Bs B C) : KpB n₀ Bs A C := ⟨h.1.trans k.1, k.2.trans h.2⟩
theorem KpB.refl (n₀ Bs : Nat) (A : World) : KpB n₀ Bs A A := ⟨Below.refl _ _, rfl⟩
theorem KpB.cell {n₀ Bs : Nat} {A B : World} (h : KpB n₀ Bs A B) {o : Nat} {v : Value} (hc : A.cell? ⟨Bs, o, none⟩ = some v) : B.cell? ⟨Bs, o, none⟩ = some v := by
  unfold World.cell? at hc ⊢
  simp only at hc ⊢
  rw [h.2]
  exact hc

/-- The k-th that comes. -/
def bk (zs : List S73) (k : Nat) : Nat × S73 := (zs.length - 1 - k, rd_T73 zs ((zs.length - 1 - k : Nat) : Int))

set_option maxRecDepth 100000 in
set_option maxHeartbeats 4000000 in
theorem back1_in (F : Fence) (n : Nat) (hf : F.fn 61) (hro : F.round = none) (hn : 1 ≤ n) (l Bs : Nat) (w0 : World) (A : Option Addr) (c : Nat) (zs : List S73) (hC : Kd.C k73 w0 A zs.length zs) (hlen : zs.length ≤ 5864062014805) (J Jx : List (Nat × S73) → World → Prop)
    (hY : ∀ pre x W, J pre W → pre.length < zs.length → YieldAt F (n - 1) Try.prog l #[.int .i64 (x.1 : Int), .agg #[.int .u8 x.2.f0, .int .i64 x.2.f1]] W fun e W' =>
      (e = .returned (.bool true) ∧ J (pre ++ [x]) W' ∧ KpB w0.heap.size Bs W W') ∨ (e = .returned (.bool false) ∧ Jx (pre ++ [x]) W'))
    (W : World) (hB0 : Below w0.heap.size w0 W) (hBs : W.cell? ⟨Bs, 0, none⟩ = some (.slice A zs.length c)) (h0 : J [] W) :
    CallsIn F n Try.prog 61 #[.func (.yield l) #[] #[], .pointer (some ⟨Bs, 0, none⟩)] W fun e W' => (∃ v, e = .returned v) ∧
      ((∃ ys, ys = upto (bk zs) zs.length ∧ J ys W') ∨ (∃ pre, (∃ k, k ≤ zs.length ∧ pre = upto (bk zs) k) ∧ Jx pre W')) := by
  have HC := Aside0.mk hC
  have b3 : (zs.length : Int) ≤ 5864062014805 := by omega
  clear hC
  refine callsIn_of_wp Try.func61 rfl hf ?_ hro
  simp only [Try.ntmps61, List.size_toArray, List.length_cons, List.length_nil, Nat.reduceAdd, Nat.reduceSub, Array.replicate_succ, Array.replicate_zero, List.push_toArray, List.append_toArray, List.nil_append, List.cons_append]
  gi_wp2
  have HBS := Aside0.mk hBs
  clear hBs
  gi_loopw [3] (fun s wr => ∃ k : Nat, Aside0 (k ≤ zs.length) ∧ s = .int .i64 ((zs.length : Int) - 1 - k) ∧ Aside0 (J (upto (bk zs) k) wr) ∧ Aside0 (KpB w0.heap.size Bs W wr))
    (fun s _ => (intOf s + 1).toNat)
  case atStart => exact ⟨0, ⟨Nat.zero_le _⟩, by simp, ⟨h0⟩, ⟨KpB.refl _ _ _⟩⟩
  case round =>
    obtain ⟨k, hk, rfl, hJs, hnx⟩ := hrel
    by_cases hlt : k < zs.length
    · obtain ⟨i, hi⟩ : ∃ i : Nat, (zs.length : Int) - 1 - k = i := ⟨zs.length - 1 - k, by omega⟩
      have hi2 : zs.length - 1 - k = i := by omega
      have hbk : bk zs k = (i, rd_T73 zs (i : Int)) := by unfold bk; rw [hi2]
      rw [hi]
      obtain ⟨ad, e0, h1, h2⟩ := at_T73 HC.out (i : Int) (by omega) (by omega)
      cases e0
      rw [Int.toNat_natCast] at h1 h2
      replace h1 := ((hB0.trans hnx.out.1).cell (World.block_lt_of_cell? w0 _ h1)).trans h1
      replace h2 := ((hB0.trans hnx.out.1).cell (World.block_lt_of_cell? w0 _ h2)).trans h2
      have hbs := hnx.out.cell HBS.out
      generalize rd_T73 zs (i : Int) = y at h1 h2 hbk
      obtain ⟨fn, tmps, assign, body, hy, hR⟩ := hY _ (i, y) wr hJs.out (by rw [upto_length]; exact hlt)
      dsimp only at hy
      have HBK := Aside0.mk hbk
      have HI := Aside0.mk hi
      clear hbk hi hi2
      have g0 : (0 : Int) ≤ (i : Int) := Int.natCast_nonneg _
      have g1 : (i : Int) < (zs.length : Int) := by have := HI.out; omega
      have g2 : i < zs.length := by omega
      have HR2 := Aside0.mk hR
      clear hR
      gi_wp2
      refine HR2.out.mono ?_
      rintro e W3 (⟨rfl, hJ3, hk3⟩ | ⟨rfl, hJx3⟩)
      · have HJ3 := Aside0.mk hJ3
        have HK3 := Aside0.mk hk3
        clear hJ3 hk3 h1 h2 hbs hy
        gi_wp2
        go_roundw
        case rel => exact ⟨k + 1, ⟨by omega⟩, congrArg (Value.int .i64) (by have := HI.out; push_cast; omega), ⟨by rw [upto_succ, HBK.out]; exact HJ3.out⟩, ⟨hnx.out.trans HK3.out⟩⟩
        case measure => simp [intOf]
      · gi_wp2
        refine bodyPost_ret (results_none rfl _ _ _) rfl ?_
        exact ⟨⟨_, rfl⟩, .inr ⟨_, ⟨k + 1, by omega, rfl⟩, by rw [upto_succ, HBK.out]; exact hJx3⟩⟩
    · obtain rfl : k = zs.length := by have := hk.out; omega
      rw [show (zs.length : Int) - 1 - (zs.length : Int) = -1 from by omega]
      gi_wp2
      go_end0
      exact ⟨⟨_, rfl⟩, .inl ⟨_, rfl, hJs.out⟩⟩

set_option maxRecDepth 100000 in
set_option maxHeartbeats 1000000 in
/-- slices.Backward: the slice is boxed; the function value captures the box. -/
theorem back_in (F : Fence) (n : Nat) (hf : F.fn 45) (hro : F.round = none) (a : Option Addr) (len cap : Nat) (w : World) :
    CallsIn F n Try.prog 45 #[.slice a len cap] w fun e w' => e = .returned (.func (.func 61) #[] #[.pointer (some ⟨w.heap.size, 0, none⟩)]) ∧ w' = w.alloc (.cells #[.slice a len cap] 26) := by
  refine callsIn_of_wp Try.func45 rfl hf ?_ hro
  simp only [Try.ntmps45, List.size_toArray, List.length_cons, List.length_nil, Nat.reduceAdd, Nat.reduceSub, Array.replicate_succ, Array.replicate_zero, List.push_toArray, List.append_toArray, List.nil_append, List.cons_append]
  gi_wp2
  go_ret
  exact ⟨rfl, rfl⟩

theorem back_stops (F : Fence) (n : Nat) (hf : F.fn 61) (hro : F.round = none) (hn : 1 ≤ n) (Bs : Nat) (w0 : World) (A : Option Addr) (c : Nat) (zs : List S73) (hC : Kd.C k73 w0 A zs.length zs) (hlen : zs.length ≤ 5864062014805) (w : World) (hBs : Bs < w.heap.size) (hle : w0.heap.size ≤ w.heap.size) (hB0 : Below w0.heap.size w0 w)
    (hc : w.cell? ⟨Bs, 0, none⟩ = some (.slice A zs.length c)) :
    SeqStopsK F n Try.prog 61 #[.pointer (some ⟨Bs, 0, none⟩)] (fun x : Nat × S73 => #[Value.int .i64 (x.1 : Int), .agg #[.int .u8 x.2.f0, .int .i64 x.2.f1]]) (KpB w0.heap.size Bs) (fun ys => ys = upto (bk zs) zs.length) (fun pre => ∃ k, k ≤ zs.length ∧ pre = upto (bk zs) k) zs.length w := fun l J Jx W hW _ _ hY h0 =>
  back1_in F n hf hro hn l Bs w0 A c zs hC hlen J Jx hY W (hB0.trans (hW.mono hle)) ((hW.cell (p := ⟨Bs, 0, none⟩) hBs).trans hc) h0

/-! What comes of it. -/
def negD (x : S73) : S73 := ⟨x.f0, wrap64 (-x.f1)⟩
def oppL (l : List S73) : List S73 := l.reverse.map negD
def oppP (pre : List (Nat × S73)) : List S73 := pre.map (fun x => negD x.2)
theorem upto_bk (zs : List S73) : oppP (upto (bk zs) zs.length) = oppL zs := by
  apply List.ext_getElem
  · simp [oppP, upto, oppL]
  · intro i h1 h2
    have hi : i < zs.length := by simpa [oppP, upto] using h1
    simp only [oppP, upto, oppL, bk, List.getElem_map, List.getElem_range, List.getElem_reverse]
    rw [rdD zs _ (by omega)]
theorem oppP_len (pre : List (Nat × S73)) : (oppP pre).length = pre.length := by simp [oppP]
theorem oppP_snoc (pre : List (Nat × S73)) (x : Nat × S73) : oppP (pre ++ [x]) = oppP pre ++ [negD x.2] := by simp [oppP]
def cellsL (l : List S73) : List Value := l.flatMap cellsH
theorem cellsL_snoc (l : List S73) (x : S73) : cellsL (l ++ [x]) = cellsL l ++ cellsH x := by simp [cellsL]
theorem cellsL_at (l : List S73) : ∀ i, (hi : i < l.length) → ((cellsL l).drop (i * 2)).take 2 = cellsH l[i] := by
  induction l with
  | nil => intro i hi; simp at hi
  | cons y l ih =>
    intro i hi
    cases i with
    | zero => rfl
    | succ i =>
      have h1 : cellsL (y :: l) = cellsH y ++ cellsL l := rfl
      rw [h1, show (i + 1) * 2 = i * 2 + 1 + 1 from by omega]
      exact ih i (by simpa using hi)
theorem cellsL_len (l : List S73) : (cellsL l).length = l.length * 2 := by
  induction l with
  | nil => rfl
  | cons y l ih =>
    have h1 : cellsL (y :: l) = cellsH y ++ cellsL l := rfl
    rw [h1, List.length_append, ih]
    simp [cellsH]
    omega
theorem R_of_cells {W : World} {base : Nat} {v : Value} {l : List S73} (h : W.ownsRow base 73 2 v l.length (cellsL l)) : Kd.R k73 73 W base (fun _ => True) v l := by
  refine ⟨fun _ _ => trivial, cellsL l, h, cellsL_len l, fun j p hp => ?_⟩
  obtain ⟨hj, rfl⟩ := List.getElem?_eq_some_iff.1 hp
  have := cellsL_at l j hj
  exact (flatK.M).2 this

theorem cells_two_new (W : World) (a b : Value) (t : TypeId) : ∀ j u, [a, b][j]? = some u → (W.alloc (.cells #[a, b] t)).cell? ((⟨W.heap.size, 0, none⟩ : Addr).add j) = some u := fun j u hj => by
  rw [add_plain]
  simp only [World.cell?, heap_alloc_new]
  simpa using hj
theorem two_one (a : Int) (b : Int) : ∀ u ∈ [Value.int .u8 a, Value.int .i64 b], u.oneCell' = true := fun u hu => by
  simp at hu
  rcases hu with rfl | rfl <;> rfl

set_option maxRecDepth 100000 in
set_option maxHeartbeats 4000000 in
theorem opp_in (F : Fence) (n : Nat) (h1f : F.fn 35) (h2f : F.fn 45) (h3f : F.fn 61) (hro : F.round = none) (hn : 3 ≤ n) (A : Option Addr) (c : Nat) (zs : List S73) (w : World) (hC : Kd.C k73 w A zs.length zs) (hlen : zs.length ≤ 5864062014805) :
    CallsIn F n Try.prog 35 #[.slice A zs.length c] w fun e W' => ∃ v, e = .returned v ∧ W'.ownsRow w.heap.size 73 2 v (oppL zs).length (cellsL (oppL zs)) ∧ Below w.heap.size w W' := by
  have h1 : 1 ≤ n := by omega
  obtain ⟨i0, hi, hz0, hz1, hz2⟩ := info_parts infoH
  refine callsIn_of_wp_marks Try.func35 rfl h1f ?_ hro
  simp only [Try.ntmps35, List.size_toArray, List.length_cons, List.length_nil, Nat.reduceAdd, Nat.reduceSub, Array.replicate_succ, Array.replicate_zero, List.push_toArray, List.append_toArray, List.nil_append, List.cons_append]
  gi_wp2_with (gi_at_call 45; refine (back_in F (n - 1) h2f hro _ _ _ _).mono ?_; rintro e w' ⟨rfl, rfl⟩)
  have bO := Boxed.new w 26 (.slice none 0 0)
  have bN := Boxed.new (w.alloc (.cells #[.slice none 0 0] 26)) 26 (.slice A zs.length c)
  rw [World.size_alloc] at bN
  have hB0 : Below w.heap.size w ((w.alloc (.cells #[.slice none 0 0] 26)).alloc (.cells #[.slice A zs.length c] 26)) := ((Below.refl _ w).alloc (Nat.le_refl _) _).alloc (by simp) _
  have hsz : ((w.alloc (.cells #[.slice none 0 0] 26)).alloc (.cells #[.slice A zs.length c] 26)).heap.size = w.heap.size + 2 := by simp
  obtain ⟨W0, hW0⟩ : ∃ W0, (w.alloc (.cells #[.slice none 0 0] 26)).alloc (.cells #[.slice A zs.length c] 26) = W0 := ⟨_, rfl⟩
  have bO' := bO.alloc (.cells #[.slice A zs.length c] 26)
  rw [hW0] at bN hB0 hsz bO' ⊢
  clear hW0
  refine wpIn_rangeFunc_ownH hro h1 (gf := 61) (lb := #[.pointer (some ⟨w.heap.size + 1, 0, none⟩)]) rfl h3f (enters_of Try.func61 (by kernel_rfl) rfl)
    (back_stops F (n - 1) h3f hro (by omega) (w.heap.size + 1) w A c zs hC hlen W0 (by omega) (by omega) hB0 bN.cell) KpB.trans (fun W l o o' hl ho h4 h5 => ⟨belowK_b (w := W0) (by omega) W l o o' hl ho h4 h5, World.putObj_heap_other (by omega)⟩) (Below.refl _ _) (fun _ => rfl)
    (fun pre W => ((∃ v, Boxed W w.heap.size 26 v ∧ W.ownsRow w.heap.size 73 2 v (oppP pre).length (cellsL (oppP pre)) ∧ True) ∧ Boxed W (w.heap.size + 1) 26 (.slice A zs.length c)) ∧ Below w.heap.size w W)
    (fun _ _ _ => False)
    (OwnFrom.and (OwnFrom.and (Own.from (holdsRow_own w.heap.size w.heap.size 26 73 2 (fun pre => (oppP pre).length) (fun pre => cellsL (oppP pre)) (fun pre v => True)) _) (Own.from (boxed_own _ _ _) _)) (ownFrom_below (Nat.le_refl _) (by omega)))
    (fun _ _ _ _ _ hs _ _ => hs)
    ⟨⟨⟨_, bO', World.ownsRow_nil _ _ _ _, trivial⟩, bN⟩, hB0⟩
    (fun x a' W => ∃ Bx, w.heap.size + 1 < Bx ∧ W.cell? ⟨Bx, 0, none⟩ = some (.int .u8 x.2.f0) ∧ W.cell? ⟨Bx, 1, none⟩ = some (.int .i64 x.2.f1) ∧ a' = { tmps := #[.slice A zs.length c, undef, .slice none 0 0, .pointer (some ⟨w.heap.size, 0, none⟩), undef, .pointer (some ⟨Bx, 0, none⟩), .slice A zs.length c, .func (.func 61) #[] #[.pointer (some ⟨w.heap.size + 1, 0, none⟩)], .int .i64 (x.1 : Int), .agg #[.int .u8 x.2.f0, .int .i64 x.2.f1], undef, undef, undef, undef, undef, undef, undef, undef, undef, undef], defers := [] })
    (fun x a' _ X Y row hs hg hr => by obtain ⟨Bx, e1, e2, e3, e4⟩ := hs; exact ⟨Bx, e1, cell_kept e2 hg (fun r e => (hr r e).2), cell_kept e3 hg (fun r e => (hr r e).2), e4⟩)
    ?assign ?body ?done ?stop
  case assign =>
    rintro l pre x W K ⟨⟨⟨v, hv, hrow, _⟩, hbs⟩, hB⟩ hK
    gi_wp2
    exact hK _ _ ((KeepsOthers.alloc _ _).from _) ⟨(Below.refl _ W).alloc hB.size _, Below.heap_alloc W _ _ (hbs.lt)⟩ ⟨⟨⟨v, hv.alloc _, hrow.alloc _, trivial⟩, hbs.alloc _⟩, hB.alloc hB.size _⟩ ⟨W.heap.size, hbs.lt, by go_simp, by go_simp, rfl⟩
  case body =>
    rintro l pre x a' W hl ⟨r, hr⟩ ⟨⟨⟨v, hv, hrow, _⟩, hbs⟩, hB⟩ ⟨Bx, hBx, y0, y1, rfl⟩ hlt
    have hc := hv.cell
    have hpl := oppP_len pre
    have HN := Aside0.mk (oppP_snoc pre x)
    have HV := Aside0.mk hv
    have HROW := Aside0.mk hrow
    have HBS := Aside0.mk hbs
    have HB := Aside0.mk hB
    have HL : Aside0 ((oppP pre).length + 1 ≤ 5864062014805) := ⟨by omega⟩
    clear hv hrow hbs hB hr hpl hlt hBx
    gi_wp2_with (gi_at_builtin; refine wpListIn_append_own _ rfl _ _ 26 rfl w.heap.size 73 i0 (.agg #[(.int .u8 0), (.int .i64 0)]) 2 16 Try.underlying26 hi hz0 hz1 hz2 rfl (by decide) _ _ _ rfl (HROW.out.alloc _) ⟨W.heap.size, 0, none⟩ 1 1 [.int .u8 x.2.f0, .int .i64 (wrap64 (-x.2.f1))] rfl rfl (cells_two_new _ _ _ _) (two_one _ _) (by have := HL.out; unfold maxLen; omega) (by have := HL.out; omega) (by have := HB.out.size; simp; omega) ?_; intro v' w1 hown' hgrow _; obtain ⟨g', cap', rfl⟩ := ownsRow_succ hown'; obtain ⟨hv1, hv2, hr2, hk2, hb2⟩ := HV.out.appended (by decide) HROW.out HB.out.size (Nat.le_refl _) hown' hgrow; have hc1 := hv1.cell; have hf1 := hv1.frozen; have HBS1 := Aside0.mk (((HBS.out).alloc _).kept hgrow ((HBS.out).not_row (by decide) HROW.out)); have HV2 := Aside0.mk hv2; have HR2 := Aside0.mk hr2; have HK2 := Aside0.mk hk2; have HB2 := Aside0.mk hb2; clear hv2 hr2 hk2 hb2 hv1)
    have hbs2 : Boxed (w1.setCell ⟨w.heap.size, 0, none⟩ (.slice (some ⟨g', 0, none⟩) ((oppP pre).length + 1) cap')) (w.heap.size + 1) 26 (.slice A zs.length c) := (Below.heap_setCell w1 ⟨w.heap.size, 0, none⟩ _ (w.heap.size + 1) (Nat.succ_ne_self _)).trans HBS1.out
    refine ⟨HK2.out.from _, ⟨HB2.out, hbs2.trans HBS.out.symm⟩, ⟨⟨⟨_, HV2.out, ?_, trivial⟩, hbs2⟩, HB.out.trans HB2.out⟩⟩
    rw [HN.out, cellsL_snoc, List.length_append, List.length_singleton]
    exact HR2.out
  case done =>
    rintro D ys W hD rfl ⟨⟨⟨v, hv, hrow, _⟩, hbs⟩, hB⟩ hK
    have hc := hv.cell
    rw [upto_bk] at hrow
    gi_wp2
    refine ⟨by simp, .inl ⟨_, _, rfl, run_takeDeferred hK, ?_⟩⟩
    exact ⟨_, results_tmp rfl _ _ _, v, rfl, ownsRow_putObj hrow _ hK rfl, hB.trans (belowK_b (w := w) (Nat.le_refl _) W D _ _ (by omega) hK rfl rfl)⟩
  case stop =>
    rintro D c pre W _ _ h _
    exact h.elim

def oppF (l : List S73) : Option (List S73) := if l.length ≤ 5864062014805 then some (oppL l) else none
theorem opp_calls (A0 : Option Addr) (c0 : Nat) (l0 : List (S73)) (r : List (S73)) (w : World) (hr0 : Kd.C k73 w A0 l0.length l0) (hc0 : l0.length ≤ c0) (h : oppF l0 = some r) :
    Calls Try.prog 35 #[.slice A0 l0.length c0] w fun e w' => ∃ v0_ : Value, e = .returned (v0_) ∧ Kd.R k73 73 w' w.heap.size (fun _ => True) v0_ r ∧ Below w.heap.size w w' := by
  unfold oppF at h
  split at h
  · injection h with h
    subst h
    refine (callsIn_wide (n := 3)).1 ((opp_in Fence.wide 3 trivial trivial trivial rfl (Nat.le_refl _) A0 c0 l0 w hr0 (by assumption)).mono ?_)
    rintro e W' ⟨v, h1, h2, h3⟩
    exact ⟨v, h1, R_of_cells h2, h3⟩
  · cases h

def cloneDF (l : List S73) : Option (List S73) := if l.length ≤ 8796093022208 then some l else none
theorem cloneD_calls (A0 : Option Addr) (c0 : Nat) (l0 : List (S73)) (r : List (S73)) (w : World) (hr0 : Kd.C k73 w A0 l0.length l0) (hc0 : l0.length ≤ c0) (h : cloneDF l0 = some r) :
    Calls Try.prog 29 #[.slice A0 l0.length c0] w fun e w' => ∃ v0_ : Value, e = .returned (v0_) ∧ Kd.R k73 73 w' w.heap.size (fun _ => True) v0_ r ∧ Below w.heap.size w w' := by
  unfold cloneDF at h
  split at h
  · injection h with h
    subst h
    exact cloneV_calls A0 c0 l0 w hr0 (by assumption)
  · cases h
end Go.Proofs.Ytolpcfjmhimpeaa.HD

namespace Go.Proofs.Ytolpcfjmhimpeaa.HR
open Go.RowKit Go.Proofs.YtolpcfjmhimpeaaW.PrintWords Go.Proofs.YtolpcfjmhimpeaaW.PrintLast Go.Proofs.Ytolpcfjmhimpeaa.P
set_option linter.unusedVariables false
set_option linter.unusedSimpArgs false
theorem infoH : (Try.prog.info? 35).map (fun i => (i.zero, i.size, i.bytes)) = some (some (.agg #[(.int .i64 0), (.int .i64 0), (.int .u8 0), (.int .i64 0)]), 4, 32) := by kernel_rfl

theorem flatH {w : World} {A : Option Addr} {n : Nat} {l : List S35} (h : Kd.C k35 w A n l) : ReadsRow (fun (x : S35) cs => cs = [.int .i64 x.f0, .int .i64 x.f1, .int .u8 x.f2, .int .i64 x.f3]) 4 w A n l :=
  ReadsRow.imp_ h (Below.refl _ _) (fun _ _ hp => k35_open hp)

set_option maxRecDepth 100000 in
set_option maxHeartbeats 1000000 in
theorem clone_calls (A : Option Addr) (c : Nat) (l : List S35) (w : World) (hr : Kd.C k35 w A l.length l) (hl : l.length ≤ 4398046511104) :
    Calls Try.prog 32 #[.slice A l.length c] w fun e w' => ∃ v, e = .returned v ∧ Kd.R k35 35 w' w.heap.size (fun _ => True) v l ∧ Below w.heap.size w w' := by
  have HR := Aside0.mk (flatH hr)
  have HL := Aside0.mk hl
  have hne := fun (w : World) (a : Option Addr) (n c : Nat) => Lib.run_eql_slice_nil (P := Try.prog) w 53 35 a n c 0 0 Try.underlying53
  cases A with
  | none =>
    have h0 : l = [] := by
      cases l with
      | nil => rfl
      | cons x l => obtain ⟨ad, h, _⟩ := hr.2.2 (by simp); cases h
    subst h0
    clear hr hl HR HL
    go_enter Try.func32, Try.ntmps32
    go_wp2
    go_ret
    exact ⟨_, rfl, Kd.R_nil _ _ _ _ _, Below.refl _ _⟩
  | some ad =>
    clear hr hl
    go_enter Try.func32, Try.ntmps32
    have HO : Aside0 (Kd.R k35 35 (w.alloc (.cells #[] 35)) w.heap.size (fun _ => True) (.slice (some ⟨w.heap.size, 0, none⟩) 0 0) []) :=
      ⟨fun _ _ => trivial, [], ⟨by simp, .inr ⟨w.heap.size, 0, #[], rfl, Nat.le_refl _, heap_alloc_new _ _, Nat.le_refl _, by simp, by simp, by simp⟩⟩, Reps.none _ _⟩
    have HRB := Aside0.mk (ReadsRow.imp_ HR.out ((Below.refl w.heap.size w).alloc (Nat.le_refl _) (.cells #[] 35)) (fun _ _ hp => hp))
    go_wp2_with ((with_reducible refine gate_builtin (b := .append) (xs := #[.tmp 5, .tmp 6]) rfl ?_); at_builtin; refine Kd.R_append_rows k35 (w0 := w) w.heap.size rfl (.tmp 5) (.tmp 6) 53 35 (.agg #[(.int .i64 0), (.int .i64 0), (.int .u8 0), (.int .i64 0)]) 32 rfl Try.underlying53 infoH rfl (by decide) (by omega) (.slice (some ⟨w.heap.size, 0, none⟩) 0 0) [] l (some ad) l.length c (fun _ => True) (fun _ => False) rfl rfl HO.out HRB.out (fun x cs hx => by subst hx; exact k35_mkM _ _ _ x) (fun _ h => h.elim) (fun _ _ => trivial) (below_alloc (Below.refl _ _) _) (by simp) (by have := HL.out; simp; omega) ?_; rintro v1 w1 hR hB hg hat; have HR1 := Aside0.mk hR; have HB1 := Aside0.mk hB; clear hR hB hg hat)
    go_ret
    exact ⟨_, rfl, HR1.out, HB1.out⟩

end Go.Proofs.Ytolpcfjmhimpeaa.HR

/- The contracts by hand that the printed functions of the site's seats lean on. -/

namespace Go.Proofs.Ytolpcfjmhimpeaa.HR
open Go.RowKit Go.Proofs.YtolpcfjmhimpeaaW.PrintWords Go.Proofs.YtolpcfjmhimpeaaW.PrintLast Go.Proofs.Ytolpcfjmhimpeaa.P
set_option linter.unusedVariables false

def cloneRF (l : List S35) : Option (List S35) := if l.length ≤ 4398046511104 then some l else none
theorem cloneR_calls (A0 : Option Addr) (c0 : Nat) (l0 : List (S35)) (r : List (S35)) (w : World) (hr0 : Kd.C k35 w A0 l0.length l0) (hc0 : l0.length ≤ c0) (h : cloneRF l0 = some r) :
    Calls Try.prog 32 #[.slice A0 l0.length c0] w fun e w' => ∃ v0_ : Value, e = .returned (v0_) ∧ Kd.R k35 35 w' w.heap.size (fun _ => True) v0_ r ∧ Below w.heap.size w w' := by
  unfold cloneRF at h
  split at h
  · injection h with h
    subst h
    exact clone_calls A0 c0 l0 w hr0 (by assumption)
  · cases h
end Go.Proofs.Ytolpcfjmhimpeaa.HR
