/- What can be read as data is of a kind: the arguments of a row, opened. -/
import Derived.Test.YtolpcfjmhimpeaaWWords
import Derived.ProofKit
import Derived.OpenShut
import Derived.Deep.Slices
import Derived.Deep.Strs
namespace Go.Proofs.Ytolpcfjmhimpeaa.H
open Go.RowKit Go.ChangeShapes Go.WideShapes Go.Deep Go.Proofs.YtolpcfjmhimpeaaW.PrintWords
set_option linter.unusedVariables false
set_option linter.unusedSimpArgs false

def Opens {α : Type} (P : Program) (d : Kd α) (Q : α → Prop) (t : TypeId) : Prop :=
  P.cellsOf t = d.sz ∧ ∀ (H : Type) (enc : TypeId × Value → H) (W : World) (sp : Nat → Bool) (held : Bool) (fuel : Nat) (cs : List Value) (x : DataW H × List MemPlace), DataW.trod enc P W 0 sp held fuel t cs = some x → ∃ a, d.K W a cs ∧ Q a

theorem opens_int {P : Program} {t : TypeId} {k : IntKind} (ht : P.underlying t = some (.int k)) (hc : P.cellsOf t = 1) : Opens P (Kd.int k) (fun n => (Lit.int k n).wf = true) t := by
  refine ⟨hc, fun H enc W sp held fuel cs x h => ?_⟩
  obtain ⟨n, h1, h2, h3⟩ := DataW.trod_int ht h
  exact ⟨n, h1, h3⟩
theorem opens_bool {P : Program} {t : TypeId} (ht : P.underlying t = some .bool) (hc : P.cellsOf t = 1) : Opens P Kd.bool (fun _ => True) t := by
  refine ⟨hc, fun H enc W sp held fuel cs x h => ?_⟩
  obtain ⟨n, h1, h2⟩ := DataW.trod_bool ht h
  exact ⟨n, h1, trivial⟩

theorem pick {α : Type} {m : Nat} {R : Nat → α → Prop} (d : α) (h : ∀ i, i < m → ∃ a, R i a) : ∃ l : List α, l.length = m ∧ ∀ i, i < m → R i (l.getD i d) := by
  induction m with
  | zero => exact ⟨[], rfl, fun i hi => absurd hi (by omega)⟩
  | succ m ih =>
    obtain ⟨l, hl, hr⟩ := ih (fun i hi => h i (by omega))
    obtain ⟨a, ha⟩ := h m (by omega)
    refine ⟨l ++ [a], by simp [hl], fun i hi => ?_⟩
    by_cases e : i < m
    · rw [List.getD_eq_getElem?_getD, List.getElem?_append_left (by omega), ← List.getD_eq_getElem?_getD]
      exact hr i e
    · obtain rfl : i = m := by omega
      rw [List.getD_eq_getElem?_getD, List.getElem?_append_right (by omega), hl]
      simpa using ha

theorem opens_slice {α : Type} {P : Program} {d : Kd α} {Q : α → Prop} {t e : TypeId} (z : α) (ht : P.underlying t = some (.slice e)) (hc : P.cellsOf t = 1) (he : Opens P d Q e) : Opens P (Kd.slice e d) (fun xs => ∀ x ∈ xs, Q x) t := by
  refine ⟨hc, fun H enc W sp held fuel cs x h => ?_⟩
  rcases open_slice ht h with ⟨rfl, _⟩ | ⟨a, len, cap, m, n, D, Pl, rfl, hb, hl, hm, hmm, hx, hel⟩
  · exact ⟨[], ⟨none, 0, rfl, Nat.le_refl _, rfl, by simp, fun h => absurd h (by simp)⟩, by simp⟩
  · have hlm : len ≤ m := by rw [hmm]; split <;> omega
    have each : ∀ i, i < len → ∃ y, (∃ cs', W.cells? 0 (a.add (i * P.cellsOf e)) (P.cellsOf e) = some cs' ∧ d.K W y cs') ∧ Q y := by
      intro i hi
      obtain ⟨cs', h1, h2⟩ := hel i (by omega)
      obtain ⟨y, h3, h4⟩ := he.2 H enc W sp held n cs' _ h2
      exact ⟨y, ⟨cs', h1, h3⟩, h4⟩
    obtain ⟨l, hlen, hR⟩ := pick z each
    subst hlen
    refine ⟨l, ⟨some a, cap, rfl, hl, rfl, by simp only [maxLen] at hm; omega, fun hp => ⟨a, rfl, fun j p hj => ?_⟩⟩, fun y hy => ?_⟩
    · obtain ⟨hj1, rfl⟩ := List.getElem?_eq_some_iff.1 hj
      obtain ⟨⟨cs', h1, h2⟩, _⟩ := hR j hj1
      rw [List.getD_eq_getElem?_getD, List.getElem?_eq_getElem hj1] at h2
      obtain ⟨_, hcl, hcell⟩ := World.cells?_some h1
      refine ⟨cs', d.K_len h2, h2, fun i u hu => ?_⟩
      have hi : i < cs'.length := (List.getElem?_eq_some_iff.1 hu).1
      have := hcell i (by omega)
      rw [Go.Deep.add_add, he.1] at this
      rw [this]
      exact hu
    · obtain ⟨j, hj, rfl⟩ := List.mem_iff_getElem.1 hy
      have := (hR j hj).2
      rwa [List.getD_eq_getElem?_getD, List.getElem?_eq_getElem hj] at this

theorem opens_struct2 {α β S : Type} {P : Program} {t : TypeId} {f0 f1 : Field} {da : Kd α} {db : Kd β} {Qa : α → Prop} {Qb : β → Prop} (pr : S → α × β) (mk : α → β → S) (hmk : ∀ a b, pr (mk a b) = (a, b)) (ht : P.underlying t = some (.struct #[f0, f1])) (hc : P.cellsOf t = 2)
    (o0 : f0.offset = 0) (o1 : f1.offset = 1) (s0 : da.sz = 1) (s1 : db.sz = 1) (h0 : Opens P da Qa f0.type) (h1 : Opens P db Qb f1.type) : Opens P (Kd.iso (Kd.pair da db) pr) (fun s => Qa (pr s).1 ∧ Qb (pr s).2) t := by
  refine ⟨by rw [hc]; show 2 = da.sz + db.sz; omega, fun H enc W sp held fuel cs x h => ?_⟩
  obtain ⟨xs, n, _, _, hl, hlen, hf⟩ := DataW.trod_struct ht h
  match xs, hlen, cs, (hl.trans hc) with
  | [y0, y1], _, [c0, c1], _ =>
    have g0 := hf 0 f0 rfl
    have g1 := hf 1 f1 rfl
    rw [o0, h0.1, s0] at g0
    rw [o1, h1.1, s1] at g1
    obtain ⟨a, ka, qa⟩ := h0.2 H enc W sp held n [c0] y0 (by simpa using g0)
    obtain ⟨b, kb, qb⟩ := h1.2 H enc W sp held n [c1] y1 (by simpa using g1)
    exact ⟨mk a b, show (Kd.pair da db).K W (pr (mk a b)) _ from by rw [hmk]; exact ⟨[c0], [c1], rfl, ka, kb⟩, by simp only [hmk]; exact ⟨qa, qb⟩⟩
theorem opens_struct3 {α β γ S : Type} {P : Program} {t : TypeId} {f0 f1 f2 : Field} {da : Kd α} {db : Kd β} {dc : Kd γ} {Qa : α → Prop} {Qb : β → Prop} {Qc : γ → Prop} (pr : S → α × β × γ) (mk : α → β → γ → S) (hmk : ∀ a b c, pr (mk a b c) = (a, b, c))
    (ht : P.underlying t = some (.struct #[f0, f1, f2])) (hc : P.cellsOf t = 3) (o0 : f0.offset = 0) (o1 : f1.offset = 1) (o2 : f2.offset = 2) (s0 : da.sz = 1) (s1 : db.sz = 1) (s2 : dc.sz = 1) (h0 : Opens P da Qa f0.type) (h1 : Opens P db Qb f1.type) (h2 : Opens P dc Qc f2.type) :
    Opens P (Kd.iso (Kd.pair da (Kd.pair db dc)) pr) (fun s => Qa (pr s).1 ∧ Qb (pr s).2.1 ∧ Qc (pr s).2.2) t := by
  refine ⟨by rw [hc]; show 3 = da.sz + (db.sz + dc.sz); omega, fun H enc W sp held fuel cs x h => ?_⟩
  obtain ⟨xs, n, _, _, hl, hlen, hf⟩ := DataW.trod_struct ht h
  match xs, hlen, cs, (hl.trans hc) with
  | [y0, y1, y2], _, [c0, c1, c2], _ =>
    have g0 := hf 0 f0 rfl
    have g1 := hf 1 f1 rfl
    have g2 := hf 2 f2 rfl
    rw [o0, h0.1, s0] at g0
    rw [o1, h1.1, s1] at g1
    rw [o2, h2.1, s2] at g2
    obtain ⟨a, ka, qa⟩ := h0.2 H enc W sp held n [c0] y0 (by simpa using g0)
    obtain ⟨b, kb, qb⟩ := h1.2 H enc W sp held n [c1] y1 (by simpa using g1)
    obtain ⟨c, kc, qc⟩ := h2.2 H enc W sp held n [c2] y2 (by simpa using g2)
    exact ⟨mk a b c, show (Kd.pair da (Kd.pair db dc)).K W (pr (mk a b c)) _ from by rw [hmk]; exact ⟨[c0], [c1, c2], rfl, ka, [c1], [c2], rfl, kb, kc⟩, by simp only [hmk]; exact ⟨qa, qb, qc⟩⟩
theorem opens_struct4 {α β γ δ S : Type} {P : Program} {t : TypeId} {f0 f1 f2 f3 : Field} {da : Kd α} {db : Kd β} {dc : Kd γ} {dd : Kd δ} {Qa : α → Prop} {Qb : β → Prop} {Qc : γ → Prop} {Qd : δ → Prop} (pr : S → α × β × γ × δ) (mk : α → β → γ → δ → S) (hmk : ∀ a b c d, pr (mk a b c d) = (a, b, c, d))
    (ht : P.underlying t = some (.struct #[f0, f1, f2, f3])) (hc : P.cellsOf t = 4) (o0 : f0.offset = 0) (o1 : f1.offset = 1) (o2 : f2.offset = 2) (o3 : f3.offset = 3) (s0 : da.sz = 1) (s1 : db.sz = 1) (s2 : dc.sz = 1) (s3 : dd.sz = 1)
    (h0 : Opens P da Qa f0.type) (h1 : Opens P db Qb f1.type) (h2 : Opens P dc Qc f2.type) (h3 : Opens P dd Qd f3.type) :
    Opens P (Kd.iso (Kd.pair da (Kd.pair db (Kd.pair dc dd))) pr) (fun s => Qa (pr s).1 ∧ Qb (pr s).2.1 ∧ Qc (pr s).2.2.1 ∧ Qd (pr s).2.2.2) t := by
  refine ⟨by rw [hc]; show 4 = da.sz + (db.sz + (dc.sz + dd.sz)); omega, fun H enc W sp held fuel cs x h => ?_⟩
  obtain ⟨xs, n, _, _, hl, hlen, hf⟩ := DataW.trod_struct ht h
  match xs, hlen, cs, (hl.trans hc) with
  | [y0, y1, y2, y3], _, [c0, c1, c2, c3], _ =>
    have g0 := hf 0 f0 rfl
    have g1 := hf 1 f1 rfl
    have g2 := hf 2 f2 rfl
    have g3 := hf 3 f3 rfl
    rw [o0, h0.1, s0] at g0
    rw [o1, h1.1, s1] at g1
    rw [o2, h2.1, s2] at g2
    rw [o3, h3.1, s3] at g3
    obtain ⟨a, ka, qa⟩ := h0.2 H enc W sp held n [c0] y0 (by simpa using g0)
    obtain ⟨b, kb, qb⟩ := h1.2 H enc W sp held n [c1] y1 (by simpa using g1)
    obtain ⟨c, kc, qc⟩ := h2.2 H enc W sp held n [c2] y2 (by simpa using g2)
    obtain ⟨d, kd, qd⟩ := h3.2 H enc W sp held n [c3] y3 (by simpa using g3)
    exact ⟨mk a b c d, show (Kd.pair da (Kd.pair db (Kd.pair dc dd))).K W (pr (mk a b c d)) _ from by rw [hmk]; exact ⟨[c0], [c1, c2, c3], rfl, ka, [c1], [c2, c3], rfl, kb, [c2], [c3], rfl, kc, kd⟩, by simp only [hmk]; exact ⟨qa, qb, qc, qd⟩⟩

/-- An argument's own value. -/
theorem okWide_agg {P : Program} {w : World} {r : Reach} {base : Nat} {t : TypeId} {v : Value} {fs : Array Field} (ht : P.underlying t = some (.struct fs)) (h : Value.okWide P w r base t v) : ∃ cs, v = .agg cs := by
  simp only [Value.okWide, ht] at h
  obtain ⟨cs, h, _⟩ := h
  exact ⟨cs, h⟩
theorem okWide_arr {P : Program} {w : World} {r : Reach} {base : Nat} {t e : TypeId} {v : Value} {n : Nat} (ht : P.underlying t = some (.array n e)) (h : Value.okWide P w r base t v) : ∃ cs, v = .agg cs := by
  simp only [Value.okWide, ht] at h
  obtain ⟨cs, h, _⟩ := h
  exact ⟨cs, h⟩

theorem opens_arr2 {H : Type} {enc : TypeId × Value → H} {P : Program} {W : World} {t e : TypeId} {k : IntKind} {sp : Nat → Bool} {held : Bool} {fuel : Nat} {cs : List Value} {x : DataW H × List MemPlace} (ht : P.underlying t = some (.array 2 e)) (hc : P.cellsOf t = 2) (he : P.underlying e = some (.int k)) (hce : P.cellsOf e = 1)
    (h : DataW.trod enc P W 0 sp held fuel t cs = some x) : ∃ l : Int × Int, cs = [.int k l.1, .int k l.2] ∧ (Lit.int k l.1).wf = true ∧ (Lit.int k l.2).wf = true := by
  cases fuel with
  | zero => simp [DataW.trod] at h
  | succ n =>
    unfold DataW.trod at h
    rw [ht] at h
    by_cases hl : cs.length = P.cellsOf t
    · match cs, hl.trans hc with
      | [c0, c1], _ =>
        simp [hc, hce] at h
        obtain ⟨xs, h, _⟩ := h
        have h' : (List.range 2).mapM (fun i => DataW.trod enc P W 0 sp held n e (List.take 1 (List.drop i [c0, c1]))) = some xs := h
        rw [show List.range 2 = [0, 1] from rfl] at h'
        simp only [List.mapM_cons, List.mapM_nil, Option.pure_def, Option.bind_eq_bind, Option.bind_eq_some_iff] at h'
        obtain ⟨a, h0, b, ⟨c, h1, _⟩, _⟩ := h'
        obtain ⟨i, e0, _, w0⟩ := DataW.trod_int he h0
        obtain ⟨j, e1, _, w1⟩ := DataW.trod_int he h1
        simp at e0 e1
        exact ⟨(i, j), by rw [e0, e1], w0, w1⟩
    · split at h <;> simp_all
theorem opens_arr3 {H : Type} {enc : TypeId × Value → H} {P : Program} {W : World} {t e : TypeId} {k : IntKind} {sp : Nat → Bool} {held : Bool} {fuel : Nat} {cs : List Value} {x : DataW H × List MemPlace} (ht : P.underlying t = some (.array 3 e)) (hc : P.cellsOf t = 3) (he : P.underlying e = some (.int k)) (hce : P.cellsOf e = 1)
    (h : DataW.trod enc P W 0 sp held fuel t cs = some x) : ∃ l : Int × Int × Int, cs = [.int k l.1, .int k l.2.1, .int k l.2.2] ∧ (Lit.int k l.1).wf = true ∧ (Lit.int k l.2.1).wf = true ∧ (Lit.int k l.2.2).wf = true := by
  cases fuel with
  | zero => simp [DataW.trod] at h
  | succ n =>
    unfold DataW.trod at h
    rw [ht] at h
    by_cases hl : cs.length = P.cellsOf t
    · match cs, hl.trans hc with
      | [c0, c1, c2], _ =>
        simp [hc, hce] at h
        obtain ⟨xs, h, _⟩ := h
        have h' : (List.range 3).mapM (fun i => DataW.trod enc P W 0 sp held n e (List.take 1 (List.drop i [c0, c1, c2]))) = some xs := h
        rw [show List.range 3 = [0, 1, 2] from rfl] at h'
        simp only [List.mapM_cons, List.mapM_nil, Option.pure_def, Option.bind_eq_bind, Option.bind_eq_some_iff] at h'
        obtain ⟨a, h0, b, ⟨c, h1, d, ⟨e, h2, _⟩, _⟩, _⟩ := h'
        obtain ⟨i, e0, _, w0⟩ := DataW.trod_int he h0
        obtain ⟨j, e1, _, w1⟩ := DataW.trod_int he h1
        obtain ⟨q, e2, _, w2⟩ := DataW.trod_int he h2
        simp at e0 e1 e2
        exact ⟨(i, j, q), by rw [e0, e1, e2], w0, w1, w2⟩
    · split at h <;> simp_all
end Go.Proofs.Ytolpcfjmhimpeaa.H
