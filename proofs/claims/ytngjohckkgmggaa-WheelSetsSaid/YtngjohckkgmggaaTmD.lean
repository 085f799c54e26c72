/- wheel.find, and slices.Delete among timers. -/

import Derived.Test.YtngjohckkgmggaaTmC
namespace Go.Proofs.Ytngjohckkgmggaa.H
open Go.RowKit Go.Proofs.YtngjohckkgmggaaW.PrintWords Go.Proofs.YtngjohckkgmggaaW.PrintLast Go.Proofs.Ytngjohckkgmggaa.P
set_option linter.unusedVariables false
set_option linter.unusedSimpArgs false

def isId (id : Int) (t : S64) : Bool := t.f0 == id

set_option maxHeartbeats 1000000 in
theorem findC (x : S64) (id : Int) (b1 : Nat) (W : World) (h1 : W.cell? ⟨b1, 0, none⟩ = some (.int .i64 id)) :
    Calls Try.prog 33 #[encH x, .pointer (some ⟨b1, 0, none⟩)] W fun e w' => e = .returned (.bool (isId id x)) ∧ Below W.heap.size W w' := by
  have hb1 := World.block_lt_of_cell? W _ h1
  have g1 : ∀ o, (W.alloc o).cell? ⟨b1, 0, none⟩ = some (.int .i64 id) := fun o => by rw [← h1]; exact ((Below.refl W.heap.size W).alloc (Nat.le_refl _) o).cell hb1
  clear h1 hb1
  obtain ⟨x0, x1⟩ := x
  unfold encH isId
  have HB := fun o => Aside0.mk ((Below.refl W.heap.size W).alloc (Nat.le_refl _) o)
  go_enter Try.func33, Try.ntmps33
  go_wp2
  go_ret
  exact ⟨by first | rfl | (simp; done), (HB _).out⟩

set_option maxHeartbeats 1000000 in
theorem find_calls (now id : Int) (A : Option Addr) (c : Nat) (l : List S64) (w : World) (hr : Kd.C k64 w A l.length l) :
    Calls Try.prog 25 #[.agg #[.int .i64 now, .slice A l.length c], .int .i64 id] w fun e w' => e = .returned (.int .i64 (idx (isId id) l 0)) ∧ Below w.heap.size w w' := by
  have eg := enters_of Try.func33 (by kernel_rfl) rfl
  obtain ⟨W2, hW2⟩ : ∃ W2, W2 = (w.alloc (.cells #[.int .i64 now, .slice A l.length c] 28)).alloc (.cells #[.int .i64 id] 3) := ⟨_, rfl⟩
  have HB2 : Aside0 (Below w.heap.size w W2) := ⟨by rw [hW2]; exact below_alloc (below_alloc (Below.refl _ _) _) _⟩
  have hc : W2.cell? ⟨w.heap.size + 1, 0, none⟩ = some (.int .i64 id) := by rw [hW2]; go_simp
  have HI := Aside0.mk (indexFunc (isId id) 33 #[.pointer (some ⟨w.heap.size + 1, 0, none⟩)] eg A c l W2 (Kd.C_below hr HB2.out) (fun W' x hb' => findC x id (w.heap.size + 1) W' ((hb'.cell (p := ⟨w.heap.size + 1, 0, none⟩) (World.block_lt_of_cell? W2 _ hc)).trans hc)))
  rw [hW2] at HI HB2
  clear hc hW2 hr eg
  go_enter Try.func25, Try.ntmps25
  go_wp2_with (go_at_call 32; refine HI.out.mono ?_; rintro e w1 ⟨rfl, hb1⟩; have HB1 := Aside0.mk (bt HB2.out hb1); clear hb1)
  go_ret
  exact ⟨rfl, HB1.out⟩

/-- append into a row that has room, of cells that are read. -/
theorem Row.append {P : Program} {W : World} {g : Nat} {e : TypeId} {N k : Nat} {f : Nat → Value} (h : Row W g e N f) (dT ty : TypeId) (n cap : Nat) (a : Addr) (m c : Nat) (cs : List Value) (i0 : TypeInfo)
    (ht : P.underlying dT = some (.slice e)) (hi : P.info? e = some i0) (hk : i0.size = k) (hn : cs.length = m * k)
    (hsrc : ∀ j v, cs[j]? = some v → W.cell? (a.add j) = some v) (hroom : n + m ≤ cap) (hfit : n * k + cs.length ≤ N) (h1 : ∀ v ∈ cs, v.oneCell' = true) :
    ∃ cur : Array Value, (Builtin.append_ #[dT, dT] ty #[.slice (some ⟨g, 0, none⟩) n cap, .slice (some a) m c]).run P W = .ok (.slice (some ⟨g, 0, none⟩) (n + m) cap) (W.setRow g cur) ∧ Row (W.setRow g cur) g e N (updL f (n * k) cs) := by
  subst hk
  obtain ⟨cur, hst, hrow⟩ := h.store (P := P) (n * i0.size) cs hfit h1
  have hf := run_firstCells_some (P := P) W i0.size m a m c cs hn hsrc
  refine ⟨cur, ?_, hrow⟩
  simp [Builtin.append_, run_underlying ht, sizeOf, typeInfo, hi, Builtin.lenOf, hroom, hf, Addr.add_lit, hst]

theorem run_append_none_ {P : Program} {W : World} {e : TypeId} (dT ty : TypeId) (n cap : Nat) (a0 a : Addr) (c : Nat) (i0 : TypeInfo) (ht : P.underlying dT = some (.slice e)) (hi : P.info? e = some i0) (hle : n ≤ cap) :
    (Builtin.append_ #[dT, dT] ty #[.slice (some a0) n cap, .slice (some a) 0 c]).run P W = .ok (.slice (some a0) n cap) W := by
  have hf := run_firstCells_some (P := P) W i0.size 0 a 0 c [] (by simp) (by simp)
  simp [Builtin.append_, run_underlying ht, sizeOf, typeInfo, hi, Builtin.lenOf, hle, hf, storeCells]

theorem step_append_is {P : Program} {ops : Array Oper} {o : Oper} {a : Act} {w : World} {K : Act → World → Prop} {Q : Exit → Act → World → Prop} {E : Prop}
    (hg : o.guard = none) (d x : Operand) (dT sT : TypeId) (hop : o.op = Op.call { callee := Callee.builtin Builtin.append, args := #[d, x], argTypes := #[dT, sT] })
    (v u : Value) (hd : a.eval d = v) (hx : a.eval x = u) {v' : Value} {w' : World} (hr : (Builtin.append_ #[dT, sT] o.type #[v, u]).run P w = .ok v' w') (hK : K (a.put o.dst v') w') :
    if Region.wanted o (yielded ops a.tmps) = true then Oper.wp P o a w K Q else E := by
  have hw : Region.wanted o (yielded ops a.tmps) = true := by simp [Region.wanted, hg]
  rw [if_pos hw]
  unfold Oper.wp
  simp [execOp, hop, resolve, invoke, builtin, hd, hx, hr, Result.andThen]
  exact hK

def delH (l : List S64) (i : Nat) : List S64 := l.take i ++ l.drop (i + 1)
theorem delH_len (l : List S64) (i : Nat) (hi : i < l.length) : (delH l i).length = l.length - 1 := by simp [delH]; omega
theorem delH_lt (l : List S64) (i a : Nat) (ha : a < i) (hi : i < l.length) : (delH l i).getD a z64 = l.getD a z64 := by
  unfold delH
  rw [List.getD_eq_getElem?_getD, List.getElem?_append_left (by simp; omega), List.getElem?_take, if_pos ha, ← List.getD_eq_getElem?_getD]
theorem delH_ge (l : List S64) (i a : Nat) (ha : i ≤ a) (hi : i < l.length) : (delH l i).getD a z64 = l.getD (a + 1) z64 := by
  unfold delH
  rw [List.getD_eq_getElem?_getD, List.getElem?_append_right (by simp; omega), List.getElem?_drop, show i + 1 + (a - (l.take i).length) = a + 1 from by simp; omega, ← List.getD_eq_getElem?_getD]

theorem zeroT : ∀ w, (zeroValue 64).run Try.prog w = .ok (.agg #[.int .i64 0, .int .i64 0]) w := fun w => by kernel_rfl
theorem oneT : ∀ u ∈ (Value.agg #[.int .i64 0, .int .i64 0]).cells, u.oneCell' = true := by
  intro u hu
  simp [Value.cells] at hu
  rcases hu with rfl | rfl <;> rfl

theorem seg_one' {f : Nat → Value} {l : List S64} (hf : ∀ a, a < l.length → AtH f a (l.getD a z64)) (i : Nat) : ∀ v ∈ seg f (i * 2) ((l.length - i) * 2), v.oneCell' = true := by
  by_cases hi : i < l.length
  · exact seg_one hf i hi
  · intro v hv
    rw [show l.length - i = 0 from by omega] at hv
    simp [seg] at hv

set_option maxRecDepth 100000 in
set_option maxHeartbeats 4000000 in
theorem delete_at (l : List S64) (G cap i : Nat) (f : Nat → Value) (w0 w : World) (hB : Below w0.heap.size w0 w) (hG : w0.heap.size ≤ G) (hi : i < l.length) (hc : l.length ≤ cap) (hm : cap ≤ maxLen)
    (hrow : Row w G 64 (cap * 2) f) (hf : ∀ a, a < l.length → AtH f a (l.getD a z64)) (hl : l.length ≤ 8796093022208) :
    Calls Try.prog 31 #[.slice (some ⟨G, 0, none⟩) l.length cap, .int .i64 (i : Int), .int .i64 ((i : Int) + 1)] w fun e w' => ∃ v1, e = .returned v1 ∧ Kd.R k64 64 w' w0.heap.size (fun _ => True) v1 (delH l i) ∧ Below w0.heap.size w0 w' := by
  obtain ⟨i0, hi0, hzz⟩ := Option.map_eq_some_iff.1 infoH
  simp only [Prod.mk.injEq] at hzz
  have hk := hzz.2.1
  have hseg1 := seg_one' hf (i + 1)
  have HA := fun (a : Addr) (c : Nat) (hsrc : ∀ j v, (seg f ((i + 1) * 2) ((l.length - (i + 1)) * 2))[j]? = some v → w.drew.cell? (a.add j) = some v) =>
    (hrow.drew).append (P := Try.prog) (k := 2) 26 26 i cap a (l.length - (i + 1)) c (seg f ((i + 1) * 2) ((l.length - (i + 1)) * 2)) i0 Try.underlying26 hi0 hk (by rw [seg_len]) hsrc (by omega) (by rw [seg_len]; omega) hseg1
  have HFIN := fun (W : World) (vs : List Value) (hvs : vs.length = 1 * 2) (hr : Row W G 64 (cap * 2) (updL (updL f (i * 2) (seg f ((i + 1) * 2) ((l.length - (i + 1)) * 2))) ((l.length - 1) * 2) vs)) =>
    (show Kd.R k64 64 W w0.heap.size (fun _ => True) (.slice (some ⟨G, 0, none⟩) (delH l i).length cap) (delH l i) from
      row_own flatK (fun _ => trivial) hG (by rw [delH_len l i hi]; omega) hm hr (atH_to fun a ha => by
        rw [delH_len l i hi] at ha
        refine at_updL ?_ (.inl (by omega))
        by_cases h : a < i
        · rw [delH_lt l i a h hi]
          exact at_updL (hf a (by omega)) (.inl (by omega))
        · rw [delH_ge l i a (by omega) hi]
          exact at_seg (by rw [show i + 1 + (a - i) = a + 1 from by omega]; exact hf (a + 1) (by omega)) (by omega) (by omega)))
  have q1 : ((i : Int) == (i : Int) + 1) = false := by rw [beq_eq_false_iff_ne]; omega
  have b0 : (i : Int) < (l.length : Int) := by omega
  have b1 : (l.length : Int) ≤ (cap : Int) := by omega
  have b3 : (l.length : Int) ≤ 8796093022208 := by omega
  go_enter Try.func31, Try.ntmps31
  go_wp2
  have w1 : IntKind.i64.wrap ((i : Int) + 1) = (i : Int) + 1 := by rw [IntKind.wrap_i64]; omega
  have w2 : (0 : Int) ≤ (i : Int) + 1 := by omega
  have w3 : (i : Int) ≤ (cap : Int) := by omega
  have w4 : (i : Int) + 1 ≤ (l.length : Int) := by omega
  have t1 : ((i : Int) + 1).toNat = i + 1 := by omega
  by_cases hcap : cap = i + 1
  · have hlen : l.length = i + 1 := by omega
    have hrow1 : Row w.drew G 64 (cap * 2) (updL f (i * 2) (seg f ((i + 1) * 2) ((l.length - (i + 1)) * 2))) := hrow.drew.congr (fun j hj => by rw [updL_out _ _ _ _ (by rw [seg_len]; omega)])
    obtain ⟨cur2, hrun2, vs, hvs, hrow2⟩ := hrow1.clear (P := Try.prog) (k := 2) (t := 26) 0 (.agg #[.int .i64 0, .int .i64 0]) Try.underlying26 zeroT rfl oneT ((l.length - 1) * 2) 1 (cap - (l.length - 1)) (by omega)
    have HR := Aside0.mk (HFIN _ vs hvs hrow2)
    have HB := Aside0.mk (below_set_row (below_drew hB) hG cur2)
    rw [show l.length - 1 = i from by omega] at hrun2
    have H1 := fun (a : Addr) (c : Nat) => Aside0.mk (run_append_none_ (W := w.drew) 26 26 i cap ⟨G, 0, none⟩ a c i0 Try.underlying26 hi0 (by omega))
    have HL := Aside0.mk (delH_len l i hi)
    clear hB hrow hf hrow1 hrow2 hseg1 hm hl hG HA HFIN hvs hzz
    have n1 : ¬ cap = i := by omega
    have n2 : l.length - (i + 1) = 0 := by omega
    have n3 : (cap = i + 1) = True := eq_true hcap
    have HCAP := Aside0.mk hcap
    have HLEN := Aside0.mk hlen
    have n4 : l.length - 1 = i := by omega
    clear hcap hlen
    go_region_law (refine step_append_is rfl _ _ 26 26 rfl _ _ (by simp [Act.eval, Act.put]) (by simp [Act.eval, Act.put]) (H1 ⟨G, 0, none⟩ (cap - (i + 1))).out ?_)
    have w5 : (i : Int) ≤ (l.length : Int) := by have := HLEN.out; omega
    have w7 : l.length - i = 1 := by have := HLEN.out; omega
    go_wp2
    go_ret
    exact ⟨_, rfl, by have h := HR.out; rwa [HL.out, n4] at h, HB.out⟩
  · obtain ⟨cur1, hrun1, hrow1⟩ := HA ⟨G, (i + 1) * 2, none⟩ (cap - (i + 1)) (fun j v hj => by obtain ⟨h1, h2⟩ := seg_get _ _ _ _ _ hj; rw [h2, show (⟨G, (i + 1) * 2, none⟩ : Addr).add j = ⟨G, (i + 1) * 2 + j, none⟩ from by unfold Addr.add; split <;> simp_all]; exact hrow.drew.cell (by omega))
    obtain ⟨cur2, hrun2, vs, hvs, hrow2⟩ := hrow1.clear (P := Try.prog) (k := 2) (t := 26) 0 (.agg #[.int .i64 0, .int .i64 0]) Try.underlying26 zeroT rfl oneT ((l.length - 1) * 2) 1 (cap - (l.length - 1)) (by omega)
    have HR := Aside0.mk (HFIN _ vs hvs hrow2)
    have HB := Aside0.mk (below_set_row (below_set_row (below_drew hB) hG cur1) hG cur2)
    rw [show i + (l.length - (i + 1)) = l.length - 1 from by omega] at hrun1
    have H1 := Aside0.mk hrun1
    have HL := Aside0.mk (delH_len l i hi)
    clear hB hrow hf hrun1 hrow1 hrow2 hseg1 hm hl hG HA HFIN hvs hzz hi0
    have n1 : ¬ cap = i := by omega
    go_region_law (refine step_append_is rfl _ _ 26 26 rfl _ _ (by simp [Act.eval, Act.put]) (by simp [Act.eval, Act.put]) H1.out ?_)
    have w5 : ((l.length - 1 : Nat) : Int) ≤ (l.length : Int) := by omega
    have w6 : ¬ cap = l.length - 1 := by omega
    have w7 : l.length - (l.length - 1) = 1 := by omega
    go_wp2
    go_ret
    exact ⟨_, rfl, by have h := HR.out; rwa [HL.out] at h, HB.out⟩
end Go.Proofs.Ytngjohckkgmggaa.H
