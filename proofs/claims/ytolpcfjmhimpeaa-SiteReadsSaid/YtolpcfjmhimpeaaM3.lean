/- Several texts in one: SiP SiA SiB SiC SiD SiE SiF SiG SiH1 SiH2 SiH3 SiI SiJ SiK SiL SiM. -/
import Derived.Test.YtolpcfjmhimpeaaM2
import Derived.Test.YtolpcfjmhimpeaaP11
import Derived.Test.YtolpcfjmhimpeaaP12
import Derived.Test.YtolpcfjmhimpeaaP2
import Derived.Maps.OwnSet
import Derived.Maps.Own
import Derived.Maps.Views
import Derived.Maps.RangeWalk
import Derived.WalkSpells
import Derived.RegionTactic
import Derived.ChangeAlike
import Derived.WideKeyEntry
import Derived.StillTailTactics
import Derived.Deep.RegionLaw
/- A site as plain data; what its calls make of it. -/

namespace Go.Proofs.Ytolpcfjmhimpeaa.HS
open Go.RowKit Go.Proofs.YtolpcfjmhimpeaaW.PrintWords Go.Proofs.YtolpcfjmhimpeaaW.PrintLast Go.Proofs.Ytolpcfjmhimpeaa.P
set_option linter.unusedVariables false
set_option linter.unusedSimpArgs false

structure PPart where
  st : Int
  adds : List S73
  loc : Bool
  out : Int
def zeroP : PPart := ⟨0, [], false, 0⟩
structure PSite where
  led : List S73
  locks : List S119
  parts : Int → Option PPart
  log : List S35
def newS : PSite := ⟨[], [], fun _ => none, []⟩
def PPart.right (p : PPart) : Bool := HD.prightB p.st p.adds p.loc p.out
def upd (f : Int → Option PPart) (i : Int) (p : PPart) : Int → Option PPart := fun j => if j = i then some p else f j

/-! Parts. -/
def addP (p : PPart) (x : S73) : PPart × Int :=
  if p.right = false ∨ 64 ≤ x.f0 then (p, 2) else if p.st ≠ 0 then (p, 13) else if 50 ≤ p.adds.length then (p, 6) else ({ p with adds := p.adds ++ [x] }, 0)
def voteP (p : PPart) (yes : Bool) : PPart × Int :=
  if p.right = false then (p, 2) else if p.st ≠ 0 then (p, 13) else ({ p with st := if yes = true then 1 else 2 }, 0)
def localP (p : PPart) : PPart × List S73 × Int :=
  if p.right = false then (p, [], 2) else if p.st ≠ 1 then (p, [], 13) else if p.loc = true then (p, [], 8) else ({ p with loc := true }, p.adds, 0)
def decideP (p : PPart) (o : Int) : PPart × List S73 × Int :=
  if p.right = false ∨ (o ≠ 1 ∧ o ≠ 2) then (p, [], 2) else if p.out = o then (p, [], 0) else if p.st = 3 ∨ (o = 1 ∧ p.st ≠ 1) then (p, [], 13)
  else (⟨3, p.adds, p.loc, o⟩, if (o == 1) = p.loc then [] else if p.loc = true then HD.oppL p.adds else p.adds, 0)

theorem own_is (p : PPart) (h : p.adds.length ≤ 5864062014805) : part_Part_own.f p.st p.adds p.loc p.out = some (p.st, p.adds, p.loc, p.out) := by
  unfold part_Part_own.f
  rw [show api_Delta.f p.adds = HD.cloneDF p.adds from rfl]
  unfold HD.cloneDF
  rw [if_pos (by omega)]
  rfl
theorem add_is (p : PPart) (x : S73) (h : p.adds.length ≤ 1000000000) : part_Add.f 1 p.st p.adds p.loc p.out x.f0 x.f1 = some ((addP p x).1.st, (addP p x).1.adds, (addP p x).1.loc, (addP p x).1.out, (addP p x).2) := by
  unfold part_Add.f addP
  rw [own_is p (by omega), Option.bind_some]
  dsimp only
  rw [show part_Right.f p.st p.adds p.loc p.out = some p.right from rfl, Option.bind_some]
  cases hr : p.right with
  | false => simp [part_Add.j0]
  | true =>
    rw [if_pos rfl, show part_wide.f x.f0 x.f1 = some (decide (x.f0 ≥ 64)) from rfl, Option.bind_some]
    simp only [part_Add.j0]
    by_cases h1 : x.f0 ≥ 64
    · simp [h1]
    · by_cases h2 : p.st = 0
      · by_cases h3 : 50 ≤ p.adds.length
        · have h3' : (50 : Int) ≤ (p.adds.length : Int) := by omega
          simp [h1, h2, h3, h3']
        · have h4 : ¬ 64 ≤ x.f0 := h1
          have h3' : ¬ (50 : Int) ≤ (p.adds.length : Int) := by omega
          have h5 : p.adds.length < 8796093022208 := by omega
          simp [h4, h2, h3, h3', h5]
      · have h4 : ¬ 64 ≤ x.f0 := h1
        simp [h4, h2]
theorem vote_is (p : PPart) (y : Bool) (h : p.adds.length ≤ 1000000000) : part_Vote.f p.st p.adds p.loc p.out y = some ((voteP p y).1.st, (voteP p y).1.adds, (voteP p y).1.loc, (voteP p y).1.out, (voteP p y).2) := by
  unfold part_Vote.f voteP
  rw [own_is p (by omega), Option.bind_some]
  dsimp only
  rw [show part_Right.f p.st p.adds p.loc p.out = some p.right from rfl, Option.bind_some]
  cases hr : p.right with
  | false => simp
  | true =>
    by_cases h2 : p.st = 0
    · cases y <;> simp [h2]
    · simp [h2]
theorem local_is (p : PPart) (h : p.adds.length ≤ 1000000000) : part_Local.f p.st p.adds p.loc p.out = some ((localP p).1.st, (localP p).1.adds, (localP p).1.loc, (localP p).1.out, (localP p).2.1, (localP p).2.2) := by
  unfold part_Local.f localP
  rw [own_is p (by omega), Option.bind_some]
  dsimp only
  rw [show part_Right.f p.st p.adds p.loc p.out = some p.right from rfl, Option.bind_some, show api_Delta.f p.adds = HD.cloneDF p.adds from rfl]
  unfold HD.cloneDF
  rw [if_pos (show p.adds.length ≤ 8796093022208 by omega)]
  cases hr : p.right with
  | false => simp
  | true =>
    by_cases h2 : p.st = 1
    · cases h3 : p.loc <;> simp [h2, h3]
    · simp [h2]
theorem decide_is (p : PPart) (o : Int) (h : p.adds.length ≤ 1000000000) : part_Decide.f 2 p.st p.adds p.loc p.out o = some ((decideP p o).1.st, (decideP p o).1.adds, (decideP p o).1.loc, (decideP p o).1.out, (decideP p o).2.1, (decideP p o).2.2) := by
  unfold part_Decide.f decideP
  rw [own_is p (by omega), Option.bind_some]
  dsimp only
  rw [show part_Right.f p.st p.adds p.loc p.out = some p.right from rfl, Option.bind_some]
  cases hr : p.right with
  | false => simp [part_Decide.j0]
  | true =>
    have hop : part_opposites.f p.adds = some (HD.oppL p.adds) := by
      show HD.oppF p.adds = _
      unfold HD.oppF
      rw [if_pos (by omega)]
    have hcl : api_Delta.f p.adds = some p.adds := by
      show HD.cloneDF p.adds = _
      unfold HD.cloneDF
      rw [if_pos (by omega)]
    by_cases h1 : o = 1
    · subst h1
      simp only [part_Decide.j0, part_Decide.j1, hop, hcl]
      by_cases h2 : p.out = 1
      · simp [h2]
      · by_cases h3 : p.st = 3
        · simp [h2, h3]
        · by_cases h4 : p.st = 1
          · cases h5 : p.loc <;> simp [h2, h4, h5]
          · simp [h2, h3, h4]
    · by_cases h1' : o = 2
      · subst h1'
        simp only [part_Decide.j0, part_Decide.j1, hop, hcl]
        by_cases h2 : p.out = 2
        · simp [h2]
        · by_cases h3 : p.st = 3
          · simp [h2, h3]
          · cases h5 : p.loc <;> simp [h2, h3, h5]
      · simp [part_Decide.j0, h1, h1']

/-! The ledger's numbers. -/
def getL (l : List S73) (key : Int) : Int := match l.find? (fun d => d.f0 == key) with | none => 0 | some d => d.f1
theorem getL_l0 (l : List S73) (key : Int) (hl : l.length ≤ 1000000000000) (d : Nat) : ∀ (k i : Nat), i + d = l.length → d < k → ledger_Get.l0 k key l (l.length : Int) (i : Int) = some (getL (l.drop i) key) := by
  induction d with
  | zero =>
    intro k i hi hk
    obtain ⟨k, rfl⟩ : ∃ m, k = m + 1 := ⟨k - 1, by omega⟩
    simp only [ledger_Get.l0]
    rw [if_neg (by omega), List.drop_of_length_le (by omega)]
    rfl
  | succ d ih =>
    intro k i hi hk
    obtain ⟨k, rfl⟩ : ∃ m, k = m + 1 := ⟨k - 1, by omega⟩
    simp only [ledger_Get.l0]
    rw [if_pos (by omega), if_pos (by omega), if_pos (by omega), HD.w64 i (by omega), ih k (i + 1) (by omega) (by omega), HD.rdD l i (by omega), HD.drop_at l i (by omega)]
    unfold getL
    rw [List.find?_cons]
    by_cases h : (l[i]'(by omega)).f0 = key
    · rw [if_pos h]; simp [h]
    · have h' : ((l[i]'(by omega)).f0 == key) = false := by simpa using h
      rw [if_neg h, h']
theorem getL_is (l : List S73) (key : Int) (hl : l.length ≤ 1000000000000) : ledger_Get.f (l.length + 1) l key = some (getL l key) := by
  unfold ledger_Get.f
  have := getL_l0 l key hl l.length (l.length + 1) 0 (by omega) (by omega)
  rw [List.drop_zero] at this
  exact this

/-! Calls. -/
def ownSum (n : Int) (key : Int) (l : List S73) : Int := l.foldl (fun n d => if d.f0 = key then wrap64 (n + d.f1) else n) n
def accessS (s : PSite) (p : PPart) (r : S35) : PSite × Int × Int :=
  if p.st ≠ 0 then (s, 0, 13)
  else if (H.takeP s.locks r.f1 r.f2 (r.f0 == 3)).2 ≠ 0 then (s, 0, (H.takeP s.locks r.f1 r.f2 (r.f0 == 3)).2)
  else if r.f0 = 3 then
    (if (addP p ⟨r.f2, r.f3⟩).2 ≠ 0 then (s, 0, (addP p ⟨r.f2, r.f3⟩).2)
     else ({ s with locks := (H.takeP s.locks r.f1 r.f2 (r.f0 == 3)).1, parts := upd s.parts r.f1 (addP p ⟨r.f2, r.f3⟩).1 }, 0, 0))
  else ({ s with locks := (H.takeP s.locks r.f1 r.f2 (r.f0 == 3)).1 }, ownSum (getL s.led r.f2) r.f2 p.adds, 0)
def endD (p : PPart) (r : S35) : PPart × List S73 × Int :=
  if r.f0 = 4 then ((voteP p (r.f3 != 0)).1, [], (voteP p (r.f3 != 0)).2)
  else if r.f0 = 5 then localP p
  else if r.f3 = 1 ∨ r.f3 = 2 then decideP p r.f3 else (p, [], 2)
def putP (l d : List S73) : List S73 := if HD.lright l = true ∧ d.any HD.wideB = false then HD.putL l d else l
def freeP (l : List S119) (tx : Int) : List S119 := H.keep (H.ofTx tx) l
def endS (s : PSite) (p : PPart) (r : S35) : PSite × Int :=
  if (endD p r).2.2 ≠ 0 then (s, (endD p r).2.2)
  else ({ s with parts := upd s.parts r.f1 (endD p r).1, led := putP s.led (endD p r).2.1, locks := if r.f0 ≠ 4 ∨ (endD p r).1.st = 2 then freeP s.locks r.f1 else s.locks }, 0)
def stepS (s : PSite) (p : PPart) (r : S35) : PSite × Int × Int :=
  if r.f0 = 1 then ({ s with parts := upd s.parts r.f1 p }, 0, 0)
  else if r.f0 = 2 ∨ r.f0 = 3 then accessS s p r
  else ((endS s p r).1, 0, (endS s p r).2)
def doS (s : PSite) (r : S35) : PSite × Int × Int :=
  if r.f0 < 1 ∨ 6 < r.f0 ∨ r.f1 < 0 ∨ 1000 ≤ r.f1 then (s, 0, 2)
  else if (s.parts r.f1).isSome = true ∧ r.f0 = 1 then (s, 0, 8)
  else if (s.parts r.f1).isSome = false ∧ r.f0 ≠ 1 then (s, 0, 7)
  else if (stepS s ((s.parts r.f1).getD zeroP) r).2.2 ≠ 0 then (s, 0, (stepS s ((s.parts r.f1).getD zeroP) r).2.2)
  else ({ (stepS s ((s.parts r.f1).getD zeroP) r).1 with log := (stepS s ((s.parts r.f1).getD zeroP) r).1.log ++ [r] }, (stepS s ((s.parts r.f1).getD zeroP) r).2.1, 0)

/-- The site is small enough for what lies beneath it. -/
structure Small (s : PSite) : Prop where
  led : s.led.length ≤ 1000000000
  locks : s.locks.length ≤ 1000000000
  log : s.log.length ≤ 1000000000
  parts : ∀ i p, s.parts i = some p → p.adds.length ≤ 1000000000
end Go.Proofs.Ytolpcfjmhimpeaa.HS

/- A site in memory. -/

namespace Go.Proofs.Ytolpcfjmhimpeaa.HS
open Go.RowKit Go.Proofs.YtolpcfjmhimpeaaW.PrintWords Go.Proofs.YtolpcfjmhimpeaaW.PrintLast Go.Proofs.YtolpcfjmhimpeaaW.PrintMore Go.Proofs.Ytolpcfjmhimpeaa.P
open Go.Maps (Keyed)
open Go.ChangeMaps Go.MapKept
set_option linter.unusedVariables false
set_option linter.unusedSimpArgs false

/-! What turns. -/
structure Chg (W W' : World) (S : Nat → Prop) : Prop where
  b0 : Below 0 W W'
  kp : ∀ k, k < W.heap.size → ¬ S k → W'.heap[k]? = W.heap[k]?
theorem Chg.size {W W' : World} {S : Nat → Prop} (h : Chg W W' S) : W.heap.size ≤ W'.heap.size := h.b0.size
theorem Chg.refl (W : World) (S : Nat → Prop) : Chg W W S := ⟨Below.refl _ _, fun _ _ _ => rfl⟩
theorem Chg.of_below {W W' : World} (h : Below W.heap.size W W') (S : Nat → Prop) : Chg W W' S := ⟨h.mono (Nat.zero_le _), fun k hk _ => h.block k hk⟩
theorem Chg.below {W W' : World} {S : Nat → Prop} (h : Chg W W' S) {B : Nat} (hB : B ≤ W.heap.size) (hS : ∀ k, S k → B ≤ k) : Below B W W' :=
  ⟨h.b0.os, h.b0.tape, h.b0.output, h.b0.size, fun k hk => h.kp k (by omega) (fun hs => by have := hS k hs; omega)⟩
theorem Chg.mono {W W' : World} {S S' : Nat → Prop} (h : Chg W W' S) (hs : ∀ k, S k → S' k) : Chg W W' S' := ⟨h.b0, fun k hk hn => h.kp k hk (fun h2 => hn (hs k h2))⟩
/-- One change behind another: what is new in between may turn. -/
theorem Chg.trans {W W1 W2 : World} {S S1 : Nat → Prop} (h : Chg W W1 S) (k : Chg W1 W2 S1) (hs : ∀ k, S1 k → S k ∨ W.heap.size ≤ k) : Chg W W2 S :=
  ⟨h.b0.trans k.b0, fun j hj hn => (k.kp j (Nat.lt_of_lt_of_le hj h.size) (fun h2 => (hs j h2).elim hn (fun h3 => by omega))).trans (h.kp j hj hn)⟩
theorem Chg.cell {W W' : World} {S : Nat → Prop} (h : Chg W W' S) {p : Addr} (hp : ¬ S p.block) {v : Value} (hc : W.cell? p = some v) : W'.cell? p = some v := by
  have := h.kp p.block (World.block_lt_of_cell? W _ hc) hp
  unfold World.cell? at hc ⊢
  rw [this]
  exact hc
theorem Chg.setCell {W W' : World} {S : Nat → Prop} (h : Chg W W' S) (p : Addr) (v : Value) (hp : S p.block ∨ W.heap.size ≤ p.block) : Chg W (W'.setCell p v) S :=
  ⟨h.b0.setCell (Nat.zero_le _) _, fun k hk hn => (Below.heap_setCell W' p v k (fun e => by subst e; exact hp.elim hn (fun h2 => by omega))).trans (h.kp k hk hn)⟩
theorem Chg.drew {W W' : World} {S : Nat → Prop} (h : Chg W W' S) : Chg W W'.drew S := ⟨below_drew h.b0, h.kp⟩
theorem Chg.alloc {W W' : World} {S : Nat → Prop} (h : Chg W W' S) (o : Obj) : Chg W (W'.alloc o) S := h.trans (Chg.of_below (below_alloc (Below.refl _ _) o) (fun _ => False)) (fun _ hk => hk.elim)
theorem Chg.step {W W1 W2 : World} {S : Nat → Prop} (h : Chg W W1 S) (hb : Below W1.heap.size W1 W2) : Chg W W2 S := h.trans (Chg.of_below hb (fun _ => False)) (fun _ hk => hk.elim)
theorem below_turned {W W' : World} {m : Nat} (h : W.mapTurned W' m) : Below 0 W W' ∧ W.heap.size ≤ W'.heap.size ∧ ∀ k, k ≠ m → W'.heap[k]? = W.heap[k]? := by
  obtain ⟨es, clock, es', clock', hb, rfl⟩ := h
  have hs : (setBlock W m (.map es' clock')).heap.size = W.heap.size := by simp [setBlock]
  exact ⟨⟨rfl, rfl, rfl, by rw [hs]; exact Nat.le_refl _, fun k hk => absurd hk (Nat.not_lt_zero _)⟩, by rw [hs]; exact Nat.le_refl _, fun k hk => heap_setBlock_other hb _ hk⟩
theorem Chg.turned {W W1 W' : World} {S : Nat → Prop} (h : Chg W W1 S) {m : Nat} (ht : W1.mapTurned W' m) (hm : S m ∨ W.heap.size ≤ m) : Chg W W' S := by
  obtain ⟨h0, h1, h2⟩ := below_turned ht
  exact ⟨h.b0.trans h0, fun k hk hn => (h2 k (fun e => by subst e; exact hm.elim hn (fun h3 => by omega))).trans (h.kp k hk hn)⟩

/-! Rows of plain structs. -/
section
variable {α : Type} {d : Kd α} {e : Nat} {W W' : World} {S S' : Nat → Prop} {v : Value} {xs : List α}
theorem row_same (hE : d.E = []) (h : d.R e W 0 S v xs) (hm : ∀ k, v.ownBlock = some k → W'.heap[k]? = W.heap[k]?) : d.R e W' 0 S v xs :=
  Kd.R_mono (Kd.R_step (Kd.R_tight hE h) (fun k hk _ => hm k hk.symm)) (fun k hk => h.1 k hk.symm)
theorem row_chg (hE : d.E = []) (h : d.R e W 0 S v xs) (hc : Chg W W' S') (hs : ∀ k, S k → ¬ S' k) : d.R e W' 0 S v xs :=
  row_same hE h (fun k hk => hc.kp k (Kd.R_lt h k hk) (hs k (h.1 k hk)))
theorem row_cells (hE : d.E = []) (h : d.R e W 0 S v xs) : ∀ k, v.ownBlock = some k → ∃ cells, W.heap[k]? = some (.cells cells e (0, 0)) := fun k hk => by
  obtain ⟨inner, ho⟩ := Kd.R_own h
  exact own_typed ho k hk
theorem row_set (hE : d.E = []) (h : d.R e W 0 S v xs) {g t : Nat} {cells : Array Value} (hb : W.heap[g]? = some (.cells cells t (0, 0))) (ht : e ≠ t) (o : Nat) (u : Value) : d.R e (W.setCell ⟨g, o, none⟩ u) 0 S v xs :=
  row_same hE h (fun k hk => Below.heap_setCell W ⟨g, o, none⟩ u k (fun e2 => (Kd.R_ne h hb ht) (by rw [hk]; exact congrArg some e2.symm)))
theorem row_turned (hE : d.E = []) (h : d.R e W 0 S v xs) {m : Nat} (ht : W.mapTurned W' m) : d.R e W' 0 S v xs :=
  row_same hE h (fun k hk => (below_turned ht).2.2 k (fun e2 => by
    obtain ⟨cells, hc⟩ := row_cells hE h k hk
    obtain ⟨es, clock, es', clock', hb, _⟩ := ht
    rw [e2, hb] at hc
    cases hc))
/-- Another row, of another type, has been written. -/
theorem row_grown (hE : d.E = []) (h : d.R e W 0 S v xs) {row : Option Nat} (hg : W.grownBy W' row) (hne : ∀ k, row = some k → ∃ cells t, W.heap[k]? = some (.cells cells t (0, 0)) ∧ e ≠ t) : d.R e W' 0 S v xs :=
  row_same hE h (fun k hk => hg.block k (Kd.R_lt h k hk) (fun e2 => by
    obtain ⟨cells, t, hb, ht⟩ := hne k e2.symm
    exact (Kd.R_ne h hb ht) hk.symm))
theorem row_wide (h : d.R e W 0 S v xs) (hs : ∀ k, S k → S' k) : d.R e W 0 S' v xs := Kd.R_mono h hs
end

/-! The parts. -/
abbrev Rv : Value → Option (DataW Value × List MemPlace) := fun v => some (.held v, [])
def encP (p : PPart) (v : Value) : Value := .agg #[.int .i64 p.st, v, .bool p.loc, .int .i64 p.out]
def zeroV : Value := .agg #[.int .i64 0, .slice none 0 0, .bool false, .int .i64 0]
def litI (i : Int) : Lit := .int .i64 i
structure PMap (W : World) (S : Nat → Prop) (D : DataW Value) (f : Int → Option PPart) : Prop where
  has : ∀ i, (litI i).wf = true → Maps.has D (litI i) = (f i).isSome
  val : ∀ i, (litI i).wf = true → ∃ v, D.atKey (litI i) (.held zeroV) = .held (encP ((f i).getD zeroP) v) ∧ Kd.R k73 73 W 0 S v ((f i).getD zeroP).adds
theorem PMap.new (W : World) (S : Nat → Prop) : PMap W S (.map []) (fun _ => none) := by
  refine ⟨fun i _ => rfl, fun i _ => ⟨.slice none 0 0, ?_, Kd.R_nil _ _ _ _ _⟩⟩
  rw [Maps.atKey_of_not_has rfl]
  rfl
theorem PMap.move {W W' : World} {S S' : Nat → Prop} {D : DataW Value} {f : Int → Option PPart} (h : PMap W S D f) (hm : ∀ v xs, Kd.R k73 73 W 0 S v xs → Kd.R k73 73 W' 0 S' v xs) : PMap W' S' D f :=
  ⟨h.has, fun i hi => by obtain ⟨v, h1, h2⟩ := h.val i hi; exact ⟨v, h1, hm _ _ h2⟩⟩
theorem PMap.put {W : World} {S : Nat → Prop} {D : DataW Value} {f : Int → Option PPart} (h : PMap W S D f) (hD : Maps.IsMap D) {i : Int} (hi : (litI i).wf = true) (hk : WideAt.IsKeyLit (litI i)) {p : PPart} {v : Value} (hv : Kd.R k73 73 W 0 S v p.adds) : PMap W S (D.put (litI i) (.held (encP p v))) (upd f i p) := by
  constructor
  · intro j hj
    unfold upd
    by_cases e : j = i
    · subst e
      rw [Maps.has_put_same hD hk, if_pos rfl]
      rfl
    · rw [Maps.has_put_other (fun e2 => e (by injection e2)), if_neg e, h.has j hj]
  · intro j hj
    unfold upd
    by_cases e : j = i
    · subst e
      rw [Maps.atKey_put_same hD hk, if_pos rfl]
      exact ⟨v, rfl, hv⟩
    · rw [Maps.atKey_put_other (fun e2 => e (by injection e2)), if_neg e]
      exact h.val j hj

/-! The site. -/
structure SiteAt (W : World) (S : Nat → Prop) (b : Nat) (st : PSite) (vl vk vg : Value) (m n : Nat) (D : DataW Value) : Prop where
  box : W.heap[b]? = some (.cells #[vl, vk, .map (some m), vg] 55 (0, 0))
  sb : S b
  sm : S m
  led : Kd.R k73 73 W 0 S vl st.led
  locks : Kd.R k119 119 W 0 S vk st.locks
  log : Kd.R k35 35 W 0 S vg st.log
  map : W.ownsMap Try.prog 3 Rv m n D
  parts : PMap W S D st.parts
  bound : ∀ k, S k → k < W.heap.size
def Site (W : World) (S : Nat → Prop) (b : Nat) (st : PSite) : Prop := ∃ vl vk vg m n D, SiteAt W S b st vl vk vg m n D ∧ n ≤ st.log.length
theorem eD : (k73).E = [] := rfl
theorem eH : (k119).E = [] := rfl
theorem eR : (k35).E = [] := rfl
variable {W W' : World} {S S' : Nat → Prop} {b m n : Nat} {st : PSite} {vl vk vg : Value} {D : DataW Value}
theorem map_same {n : Nat} (h : W.ownsMap Try.prog 3 Rv m n D) (hm : W'.heap[m]? = W.heap[m]?) : W'.ownsMap Try.prog 3 Rv m n D := by
  obtain ⟨es, clock, hb, r⟩ := h
  exact ⟨es, clock, hm.trans hb, r⟩
/-- Elsewhere something has turned. -/
theorem SiteAt.chg (h : SiteAt W S b st vl vk vg m n D) (hc : Chg W W' S') (hs : ∀ k, S k → ¬ S' k) : SiteAt W' S b st vl vk vg m n D where
  box := (hc.kp b (h.bound b h.sb) (hs b h.sb)).trans h.box
  sb := h.sb
  sm := h.sm
  led := row_chg eD h.led hc hs
  locks := row_chg eH h.locks hc hs
  log := row_chg eR h.log hc hs
  map := map_same h.map (hc.kp m (h.bound m h.sm) (hs m h.sm))
  parts := h.parts.move (fun v xs hv => row_chg eD hv hc hs)
  bound := fun k hk => Nat.lt_of_lt_of_le (h.bound k hk) hc.size
theorem SiteAt.below (h : SiteAt W S b st vl vk vg m n D) (hb : Below W.heap.size W W') : SiteAt W' S b st vl vk vg m n D := h.chg (Chg.of_below hb (fun _ => False)) (fun _ _ hk => hk)
theorem SiteAt.wide (h : SiteAt W S b st vl vk vg m n D) (hs : ∀ k, S k → S' k) (hb : ∀ k, S' k → k < W.heap.size) : SiteAt W S' b st vl vk vg m n D where
  box := h.box
  sb := hs b h.sb
  sm := hs m h.sm
  led := row_wide h.led hs
  locks := row_wide h.locks hs
  log := row_wide h.log hs
  map := h.map
  parts := h.parts.move (fun v xs hv => row_wide hv hs)
  bound := hb
theorem SiteAt.ne (h : SiteAt W S b st vl vk vg m n D) : m ≠ b := fun e => by
  obtain ⟨es, clock, hb, _⟩ := h.map
  rw [e, h.box] at hb
  cases hb
theorem box_set (hb : W.heap[b]? = some (.cells #[vl, vk, .map (some m), vg] 55 (0, 0))) (o : Nat) (u : Value) : (W.setCell ⟨b, o, none⟩ u).heap[b]? = some (.cells ((#[vl, vk, .map (some m), vg] : Array Value).setIfInBounds o u) 55 (0, 0)) := heap_setCell_same W b o _ 55 u hb
theorem SiteAt.setLed (h : SiteAt W S b st vl vk vg m n D) {v : Value} {l : List S73} (hv : Kd.R k73 73 W 0 S v l) : SiteAt (W.setCell ⟨b, 0, none⟩ v) S b { st with led := l } v vk vg m n D where
  box := box_set h.box 0 v
  sb := h.sb
  sm := h.sm
  led := row_set eD hv h.box (by decide) 0 v
  locks := row_set eH h.locks h.box (by decide) 0 v
  log := row_set eR h.log h.box (by decide) 0 v
  map := map_same h.map (Below.heap_setCell W ⟨b, 0, none⟩ v m h.ne)
  parts := h.parts.move (fun u xs hu => row_set eD hu h.box (by decide) 0 v)
  bound := fun k hk => by simpa using h.bound k hk
theorem SiteAt.setLocks (h : SiteAt W S b st vl vk vg m n D) {v : Value} {l : List S119} (hv : Kd.R k119 119 W 0 S v l) : SiteAt (W.setCell ⟨b, 1, none⟩ v) S b { st with locks := l } vl v vg m n D where
  box := box_set h.box 1 v
  sb := h.sb
  sm := h.sm
  led := row_set eD h.led h.box (by decide) 1 v
  locks := row_set eH hv h.box (by decide) 1 v
  log := row_set eR h.log h.box (by decide) 1 v
  map := map_same h.map (Below.heap_setCell W ⟨b, 1, none⟩ v m h.ne)
  parts := h.parts.move (fun u xs hu => row_set eD hu h.box (by decide) 1 v)
  bound := fun k hk => by simpa using h.bound k hk
/-- The log's row has been written, and its field. -/
theorem SiteAt.setLog (h : SiteAt W S b st vl vk vg m n D) {W1 : World} {v : Value} {l : List S35} (hg : W.grownBy W1 vg.ownBlock) {S2 : Nat → Prop} (hs : ∀ k, S k → S2 k) (hv : Kd.R k35 35 W1 0 S2 v l) (hn : ∀ k, S2 k → k < W1.heap.size) : SiteAt (W1.setCell ⟨b, 3, none⟩ v) S2 b { st with log := l } vl vk v m n D := by
  have hrow : ∀ k, vg.ownBlock = some k → ∃ cells, W.heap[k]? = some (.cells cells 35 (0, 0)) := row_cells eR h.log
  have hbox1 : W1.heap[b]? = some (.cells #[vl, vk, .map (some m), vg] 55 (0, 0)) := (hg.block b (h.bound b h.sb) (fun e => by
    obtain ⟨cells, hc⟩ := hrow b e.symm
    rw [h.box] at hc
    cases hc)).trans h.box
  have hgr : ∀ k, vg.ownBlock = some k → ∃ cells t, W.heap[k]? = some (.cells cells t (0, 0)) ∧ 73 ≠ t := fun k hk => by obtain ⟨c, hc⟩ := hrow k hk; exact ⟨c, _, hc, by decide⟩
  have hgr2 : ∀ k, vg.ownBlock = some k → ∃ cells t, W.heap[k]? = some (.cells cells t (0, 0)) ∧ 119 ≠ t := fun k hk => by obtain ⟨c, hc⟩ := hrow k hk; exact ⟨c, _, hc, by decide⟩
  have hmap : W1.ownsMap Try.prog 3 Rv m n D := map_same h.map (hg.block m (h.bound m h.sm) (fun e => by
    obtain ⟨cells, hc⟩ := hrow m e.symm
    obtain ⟨es, clock, hb, _⟩ := h.map
    rw [hb] at hc
    cases hc))
  exact {
    box := box_set hbox1 3 v
    sb := hs b h.sb
    sm := hs m h.sm
    led := row_wide (row_set eD (row_grown eD h.led hg hgr) hbox1 (by decide) 3 v) hs
    locks := row_wide (row_set eH (row_grown eH h.locks hg hgr2) hbox1 (by decide) 3 v) hs
    log := row_set eR hv hbox1 (by decide) 3 v
    map := map_same hmap (Below.heap_setCell W1 ⟨b, 3, none⟩ v m h.ne)
    parts := h.parts.move (fun u xs hu => row_wide (row_set eD (row_grown eD hu hg hgr) hbox1 (by decide) 3 v) hs)
    bound := fun k hk => by simpa using hn k hk }
/-- A part has been stored. -/
theorem SiteAt.setPart (h : SiteAt W S b st vl vk vg m n D) {W1 : World} {i : Int} {p : PPart} {v : Value} (hi : (litI i).wf = true) (hk : WideAt.IsKeyLit (litI i)) (hv : Kd.R k73 73 W 0 S v p.adds)
    (hmap : W1.ownsMap Try.prog 3 Rv m (n + 1) (D.put (litI i) (.held (encP p v)))) (ht : W.mapTurned W1 m) : SiteAt W1 S b { st with parts := upd st.parts i p } vl vk vg m (n + 1) (D.put (litI i) (.held (encP p v))) where
  box := ((below_turned ht).2.2 b (fun e => h.ne e.symm)).trans h.box
  sb := h.sb
  sm := h.sm
  led := row_turned eD h.led ht
  locks := row_turned eH h.locks ht
  log := row_turned eR h.log ht
  map := hmap
  parts := (h.parts.put h.map.isMap hi hk hv).move (fun u xs hu => row_turned eD hu ht)
  bound := fun k hk => Nat.lt_of_lt_of_le (h.bound k hk) (below_turned ht).2.1
end Go.Proofs.Ytolpcfjmhimpeaa.HS

/- site.New, good, Get, Log, Part. -/

namespace Go.Proofs.Ytolpcfjmhimpeaa.HS
open Go.RowKit Go.Proofs.YtolpcfjmhimpeaaW.PrintWords Go.Proofs.YtolpcfjmhimpeaaW.PrintLast Go.Proofs.YtolpcfjmhimpeaaW.PrintMore Go.Proofs.Ytolpcfjmhimpeaa.P
open Go.Maps (Keyed)
open Go.ChangeMaps Go.MapKept
set_option linter.unusedVariables false
set_option linter.unusedSimpArgs false

set_option maxRecDepth 100000 in
set_option maxHeartbeats 2000000 in
theorem new_calls (w : World) : Calls Try.prog 13 #[] w fun e w' => e = .returned (.pointer (some ⟨w.heap.size + 1, 0, none⟩)) ∧ Site w' (fun k => k = w.heap.size ∨ k = w.heap.size + 1) (w.heap.size + 1) newS ∧ Below w.heap.size w w' := by
  have hmm := @run_makeMap Try.prog
  go_enter Try.func13, Try.ntmps13
  go_wp2
  go_ret
  refine ⟨by simp, ?_, below_alloc (below_alloc (Below.refl _ _) _) _⟩
  refine ⟨.slice none 0 0, .slice none 0 0, .slice none 0 0, w.heap.size, 0, .map [], ⟨?_, .inr rfl, .inl rfl, Kd.R_nil _ _ _ _ _, Kd.R_nil _ _ _ _ _, Kd.R_nil _ _ _ _ _, ?_, PMap.new _ _, ?_⟩, Nat.le_refl _⟩
  · have := heap_alloc_new (w.alloc (.map #[] 0)) (.cells #[.slice none 0 0, .slice none 0 0, .map (some w.heap.size), .slice none 0 0] 55)
    rwa [show (w.alloc (.map #[] 0)).heap.size = w.heap.size + 1 from by simp] at this
  · exact (World.ownsMap_made w Try.prog 3 Rv).alloc _
  · rintro k (rfl | rfl) <;> simp <;> omega

section
variable {w : World} {S : Nat → Prop} {b m n : Nat} {st : PSite} {vl vk vg : Value} {D : DataW Value}
set_option maxRecDepth 100000 in
set_option maxHeartbeats 2000000 in
theorem good_calls (b m : Nat) (w : World) (hc : w.cell? ⟨b, 2, none⟩ = some (.map (some m))) : Calls Try.prog 26 #[.pointer (some ⟨b, 0, none⟩)] w fun e w' => e = .returned (.bool true) ∧ w = w' := by
  have hne := fun (w : World) => run_neq_map_nil (P := Try.prog) w 52 3 40 (some m) Try.underlying52
  go_enter Try.func26, Try.ntmps26
  go_wp2
  go_ret
  exact ⟨rfl, rfl⟩
set_option maxRecDepth 100000 in
set_option maxHeartbeats 2000000 in
theorem good_nil (w : World) : Calls Try.prog 26 #[.pointer none] w fun e w' => e = .returned (.bool false) ∧ w = w' := by
  go_enter Try.func26, Try.ntmps26
  go_wp2
  go_ret
  exact ⟨rfl, rfl⟩
set_option maxRecDepth 100000 in
set_option maxHeartbeats 2000000 in
theorem good_empty (b : Nat) (w : World) (hc : w.cell? ⟨b, 2, none⟩ = some (.map none)) : Calls Try.prog 26 #[.pointer (some ⟨b, 0, none⟩)] w fun e w' => e = .returned (.bool false) ∧ w = w' := by
  have hne := fun (w : World) => run_neq_map_nil (P := Try.prog) w 52 3 40 none Try.underlying52
  go_enter Try.func26, Try.ntmps26
  go_wp2
  go_ret
  exact ⟨rfl, rfl⟩

theorem SiteAt.cells (h : SiteAt w S b st vl vk vg m n D) : w.cell? ⟨b, 0, none⟩ = some vl ∧ w.cell? ⟨b, 1, none⟩ = some vk ∧ w.cell? ⟨b, 2, none⟩ = some (.map (some m)) ∧ w.cell? ⟨b, 3, none⟩ = some vg :=
  ⟨(blk_cell h.box 0).trans rfl, (blk_cell h.box 1).trans rfl, (blk_cell h.box 2).trans rfl, (blk_cell h.box 3).trans rfl⟩
theorem SiteAt.free (h : SiteAt w S b st vl vk vg m n D) : w.frozen? ⟨b, 0, none⟩ = false ∧ w.frozen? ⟨b, 1, none⟩ = false ∧ w.frozen? ⟨b, 2, none⟩ = false ∧ w.frozen? ⟨b, 3, none⟩ = false :=
  ⟨blk_frozen h.box 0, blk_frozen h.box 1, blk_frozen h.box 2, blk_frozen h.box 3⟩

set_option maxRecDepth 100000 in
set_option maxHeartbeats 2000000 in
theorem get_calls (h : Site w S b st) (key : Int) (hl : st.led.length ≤ 1000000000) : Calls Try.prog 20 #[.pointer (some ⟨b, 0, none⟩), .int .u8 key] w fun e w' => e = .returned (.int .i64 (getL st.led key)) ∧ Below w.heap.size w w' := by
  obtain ⟨vl, vk, vg, m, n, D, h, hn⟩ := h
  obtain ⟨A2, c2, rfl⟩ := Kd.R_slice h.led
  obtain ⟨x0, x1, x2, x3⟩ := h.cells
  have HG := Aside0.mk (good_calls b m w x2)
  have HL := Aside0.mk (ledger_Get.calls (st.led.length + 1) A2 c2 st.led key (getL st.led key) w (Kd.R_reads' h.led).2.2 (Kd.R_reads' h.led).2.1 (getL_is st.led key (by omega)))
  clear h hn hl x1 x2 x3
  go_enter Try.func20, Try.ntmps20
  go_wp2_with (first | (go_at_call 26; with_reducible refine (HG.out).mono ?_; rintro e w1 ⟨rfl, rfl⟩) | (go_at_call 31; with_reducible refine (HL.out).mono ?_; rintro e w1 ⟨rfl, hb⟩; have HB := Aside0.mk hb; clear hb))
  go_ret
  exact ⟨rfl, HB.out⟩

set_option maxRecDepth 100000 in
set_option maxHeartbeats 2000000 in
theorem log_calls (h : Site w S b st) (hl : st.log.length ≤ 1000000000) : Calls Try.prog 21 #[.pointer (some ⟨b, 0, none⟩)] w fun e w' => ∃ v, e = .returned v ∧ Kd.R k35 35 w' w.heap.size (fun _ => True) v st.log ∧ Below w.heap.size w w' := by
  obtain ⟨vl, vk, vg, m, n, D, h, hn⟩ := h
  obtain ⟨A2, c2, rfl⟩ := Kd.R_slice h.log
  obtain ⟨x0, x1, x2, x3⟩ := h.cells
  have HG := Aside0.mk (good_calls b m w x2)
  have HL := Aside0.mk (HR.cloneR_calls A2 c2 st.log st.log w (Kd.R_reads' h.log).2.2 (Kd.R_reads' h.log).2.1 (by unfold HR.cloneRF; rw [if_pos (by omega)]))
  clear h hn hl x0 x1 x2
  go_enter Try.func21, Try.ntmps21
  go_wp2_with (first | (go_at_call 26; with_reducible refine (HG.out).mono ?_; rintro e w1 ⟨rfl, rfl⟩) | (go_at_call 32; with_reducible refine (HL.out).mono ?_; rintro e w1 ⟨v, rfl, hv, hb⟩; have HV := Aside0.mk hv; have HB := Aside0.mk hb; clear hv hb))
  go_ret
  exact ⟨v, rfl, HV.out, HB.out⟩
end

/-! A site that no call made. -/
set_option maxRecDepth 100000 in
set_option maxHeartbeats 2000000 in
theorem get_nil (w : World) (key : Int) : Calls Try.prog 20 #[.pointer none, .int .u8 key] w fun e w' => e = .returned (.int .i64 0) ∧ w = w' := by
  have HG := Aside0.mk (good_nil w)
  go_enter Try.func20, Try.ntmps20
  go_wp2_with (go_at_call 26; with_reducible refine (HG.out).mono ?_; rintro e w1 ⟨rfl, rfl⟩)
  go_ret
  exact ⟨rfl, rfl⟩
set_option maxRecDepth 100000 in
set_option maxHeartbeats 2000000 in
theorem get_empty (b : Nat) (w : World) (key : Int) (hc : w.cell? ⟨b, 2, none⟩ = some (.map none)) : Calls Try.prog 20 #[.pointer (some ⟨b, 0, none⟩), .int .u8 key] w fun e w' => e = .returned (.int .i64 0) ∧ w = w' := by
  have HG := Aside0.mk (good_empty b w hc)
  go_enter Try.func20, Try.ntmps20
  go_wp2_with (go_at_call 26; with_reducible refine (HG.out).mono ?_; rintro e w1 ⟨rfl, rfl⟩)
  go_ret
  exact ⟨rfl, rfl⟩
set_option maxRecDepth 100000 in
set_option maxHeartbeats 2000000 in
theorem log_nil (w : World) : Calls Try.prog 21 #[.pointer none] w fun e w' => e = .returned (.slice none 0 0) ∧ w = w' := by
  have HG := Aside0.mk (good_nil w)
  go_enter Try.func21, Try.ntmps21
  go_wp2_with (go_at_call 26; with_reducible refine (HG.out).mono ?_; rintro e w1 ⟨rfl, rfl⟩)
  go_ret
  exact ⟨rfl, rfl⟩
set_option maxRecDepth 100000 in
set_option maxHeartbeats 2000000 in
theorem log_empty (b : Nat) (w : World) (hc : w.cell? ⟨b, 2, none⟩ = some (.map none)) : Calls Try.prog 21 #[.pointer (some ⟨b, 0, none⟩)] w fun e w' => e = .returned (.slice none 0 0) ∧ w = w' := by
  have HG := Aside0.mk (good_empty b w hc)
  go_enter Try.func21, Try.ntmps21
  go_wp2_with (go_at_call 26; with_reducible refine (HG.out).mono ?_; rintro e w1 ⟨rfl, rfl⟩)
  go_ret
  exact ⟨rfl, rfl⟩
end Go.Proofs.Ytolpcfjmhimpeaa.HS

/- site.Part. -/

namespace Go.Proofs.Ytolpcfjmhimpeaa.HS
open Go.RowKit Go.Proofs.YtolpcfjmhimpeaaW.PrintWords Go.Proofs.YtolpcfjmhimpeaaW.PrintLast Go.Proofs.YtolpcfjmhimpeaaW.PrintMore Go.Proofs.Ytolpcfjmhimpeaa.P
open Go.Maps (Keyed)
open Go.ChangeMaps Go.MapKept
set_option linter.unusedVariables false
set_option linter.unusedSimpArgs false

theorem zeroPart : ∀ w, (zeroValue 40).run Try.prog w = .ok zeroV w := fun w => by kernel_rfl
theorem keyI {i : Int} (hi : (litI i).wf = true) : keyOf Try.prog 3 (.int .i64 i) = some (litI i) := Maps.keyOf_int_mk Try.underlying3 hi
theorem look_run {W : World} {m n : Nat} {D : DataW Value} {i : Int} {p : PPart} {v : Value} {x : Bool} (h : W.ownsMap Try.prog 3 Rv m n D) (hi : (litI i).wf = true) (hp : D.atKey (litI i) (.held zeroV) = .held (encP p v)) (hx : Maps.has D (litI i) = x) :
    (Instr.lookup 52 (.map (some m)) (.int .i64 i) true).run Try.prog W = .ok (.tuple #[.agg #[.int .i64 p.st, v, .bool p.loc, .int .i64 p.out], .bool x]) W := by
  obtain ⟨u, ps, hrun, hu⟩ := h.look_ok (Maps.int_keyed Try.underlying3) Try.underlying52 (zeroPart W) (zd := .held zeroV) (zp := []) rfl (keyI hi)
  rw [hx] at hrun
  have e1 : u = encP p v := by
    have := congrArg Prod.fst (Option.some.inj hu)
    rw [hp] at this
    injection this
  rw [hrun, e1]
  rfl

theorem blk_set {W : World} {g t : Nat} {cs : Array Value} (h : W.heap[g]? = some (.cells cs t (0, 0))) (o : Nat) (u : Value) : (W.setCell ⟨g, o, none⟩ u).heap[g]? = some (.cells (cs.setIfInBounds o u) t (0, 0)) := heap_setCell_same W g o cs t u h
theorem blk4 {W : World} {g t : Nat} {a b c d : Value} (h : W.heap[g]? = some (.cells #[a, b, c, d] t (0, 0))) (x y z u : Value) : ((((W.setCell ⟨g, 0, none⟩ x).setCell ⟨g, 1, none⟩ y).setCell ⟨g, 2, none⟩ z).setCell ⟨g, 3, none⟩ u).heap[g]? = some (.cells #[x, y, z, u] t (0, 0)) :=
  blk_set (blk_set (blk_set (blk_set h 0 x) 1 y) 2 z) 3 u
theorem blk_other {W : World} {g g' t : Nat} {cs : Array Value} (h : W.heap[g]? = some (.cells cs t (0, 0))) (hne : g ≠ g') (o : Nat) (u : Value) : (W.setCell ⟨g', o, none⟩ u).heap[g]? = some (.cells cs t (0, 0)) := (Below.heap_setCell W ⟨g', o, none⟩ u g hne).trans h
/-- The cells of a block of four. -/
theorem four {W : World} {g t : Nat} {a b c d : Value} (h : W.heap[g]? = some (.cells #[a, b, c, d] t (0, 0))) :
    (W.cell? ⟨g, 0, none⟩ = some a ∧ W.cell? ⟨g, 1, none⟩ = some b ∧ W.cell? ⟨g, 2, none⟩ = some c ∧ W.cell? ⟨g, 3, none⟩ = some d) ∧ W.frozen? ⟨g, 0, none⟩ = false ∧ W.frozen? ⟨g, 1, none⟩ = false ∧ W.frozen? ⟨g, 2, none⟩ = false ∧ W.frozen? ⟨g, 3, none⟩ = false :=
  ⟨⟨(blk_cell h 0).trans rfl, (blk_cell h 1).trans rfl, (blk_cell h 2).trans rfl, (blk_cell h 3).trans rfl⟩, blk_frozen h 0, blk_frozen h 1, blk_frozen h 2, blk_frozen h 3⟩

theorem far_D {w1 : World} {base : Nat} {v : Value} {l : List S73} (hR : Kd.R k73 73 w1 base (fun _ => True) v l) {p : Addr} (hp : p.block < base) (u : Value) : Kd.R k73 73 (w1.setCell p u) base (fun _ => True) v l :=
  Kd.R_mono (Kd.R_far (Kd.R_bound hR) (fun k hk => by have := hk.2.1; omega) u) (fun _ _ => trivial)

section
variable {w : World} {S : Nat → Prop} {b : Nat} {st : PSite}
set_option maxRecDepth 100000 in
set_option maxHeartbeats 4000000 in
theorem part_calls (h : Site w S b st) (tx : Int) (ht : (litI tx).wf = true) (hl : ((st.parts tx).getD zeroP).adds.length ≤ 1000000000) :
    Calls Try.prog 16 #[.pointer (some ⟨b, 0, none⟩), .int .i64 tx] w fun e w' => ∃ v, e = .returned (.tuple #[.agg #[.int .i64 ((st.parts tx).getD zeroP).st, v, .bool ((st.parts tx).getD zeroP).loc, .int .i64 ((st.parts tx).getD zeroP).out], .bool (st.parts tx).isSome]) ∧
      Kd.R k73 73 w' w.heap.size (fun _ => True) v ((st.parts tx).getD zeroP).adds ∧ Below w.heap.size w w' := by
  obtain ⟨vl, vk, vg, m, n, D, h, hn⟩ := h
  obtain ⟨vp, hp, hvp⟩ := h.parts.val tx ht
  have hx := h.parts.has tx ht
  generalize (st.parts tx).isSome = x at hx ⊢
  generalize (st.parts tx).getD zeroP = p at hp hvp hl ⊢
  obtain ⟨A2, c2, rfl⟩ := Kd.R_slice hvp
  have hrun := fun (W : World) (hm : W.ownsMap Try.prog 3 Rv m n D) => look_run hm ht hp hx
  have r1 := hrun _ (h.map.alloc (.cells #[.int .i64 0, .slice none 0 0, .bool false, .int .i64 0] 40))
  have hA := h.below (below_alloc (Below.refl _ _) (.cells #[.int .i64 0, .slice none 0 0, .bool false, .int .i64 0] 40))
  obtain ⟨x0, x1, x2, x3⟩ := hA.cells
  have HG := Aside0.mk (good_calls b m _ x2)
  have HV := Aside0.mk hvp
  have HCl := Aside0.mk (fun (W : World) (hb : Below w.heap.size w W) => HD.cloneD_calls A2 c2 p.adds p.adds W (Kd.C_below (Kd.R_reads' hvp).2.2 hb) (Kd.R_reads' hvp).2.1 (by unfold HD.cloneDF; rw [if_pos (by omega)]))
  have HL := Aside0.mk hl
  clear hrun h hn hp hx hvp hl hA x0 x1 x3
  go_enter Try.func16, Try.ntmps16
  have HB := Aside0.mk (below_alloc (below_alloc (Below.refl w.heap.size w) (.cells #[.int .i64 0, .slice none 0 0, .bool false, .int .i64 0] 40)) (.cells #[.int .i64 p.st, .slice A2 p.adds.length c2, .bool p.loc, .int .i64 p.out] 40))
  have K1 := Aside0.mk ((Below.heap_alloc _ _ _ (by simp)).trans (heap_alloc_new w (.cells #[.int .i64 0, .slice none 0 0, .bool false, .int .i64 0] 40)) : ((w.alloc (.cells #[.int .i64 0, .slice none 0 0, .bool false, .int .i64 0] 40)).alloc (.cells #[.int .i64 p.st, .slice A2 p.adds.length c2, .bool p.loc, .int .i64 p.out] 40)).heap[w.heap.size]? = _)
  have K2 := Aside0.mk (heap_alloc_new (w.alloc (.cells #[.int .i64 0, .slice none 0 0, .bool false, .int .i64 0] 40)) (.cells #[.int .i64 p.st, .slice A2 p.adds.length c2, .bool p.loc, .int .i64 p.out] 40))
  rw [show (w.alloc (.cells #[.int .i64 0, .slice none 0 0, .bool false, .int .i64 0] 40)).heap.size = w.heap.size + 1 from by simp] at K2
  go_wp2_with (first | (go_at_call 26; with_reducible refine (HG.out).mono ?_; rintro e w1 ⟨rfl, rfl⟩) | (go_at_call 29; with_reducible refine (HCl.out _ HB.out).mono ?_; rintro e w2 ⟨v, rfl, hv, hb⟩; obtain ⟨A3, c3, rfl⟩ := Kd.R_slice hv; have HV2 := Aside0.mk hv; have HB2 := Aside0.mk (below_then HB.out HB.out.size hb); have L1 := Aside0.mk ((hb.block _ (World.block_lt_of_cell? _ _ (four K1.out).1.1)).trans K1.out); have L2 := Aside0.mk ((hb.block _ (World.block_lt_of_cell? _ _ (four K2.out).1.1)).trans K2.out); obtain ⟨⟨y0, y1, y2, y3⟩, z0, z1, z2, z3⟩ := four L1.out; obtain ⟨⟨y4, y5, y6, y7⟩, z4, z5, z6, z7⟩ := four L2.out; clear hv hb))
  clear HCl HG r1 x2
  refine bodyPost_ret (results_ct rfl _ _ w.heap.size 40 #[_, _, _, _] (0, 0) _ rfl (blk4 (blk_other L1.out (by omega) 1 _) _ _ _ _) Try.underlying40 rfl (by kernel_rfl)) rfl ?_
  have hsz : w.heap.size + 1 + 1 = (((w.alloc (.cells #[.int .i64 0, .slice none 0 0, .bool false, .int .i64 0] 40)).alloc (.cells #[.int .i64 p.st, .slice A2 p.adds.length c2, .bool p.loc, .int .i64 p.out] 40)).heap.size) := by simp
  have HF := HV2.out
  rw [← hsz] at HF
  exact ⟨_, rfl, Kd.R_lower (far_D (far_D (far_D (far_D (far_D HF (show w.heap.size + 1 < _ by omega) _) (show w.heap.size < _ by omega) _) (show w.heap.size < _ by omega) _) (show w.heap.size < _ by omega) _) (show w.heap.size < _ by omega) _) (by omega),
    ((((HB2.out.setCell (Nat.le_succ _) _).setCell (Nat.le_refl _) _).setCell (Nat.le_refl _) _).setCell (Nat.le_refl _) _).setCell (Nat.le_refl _) _⟩
end
set_option maxRecDepth 100000 in
set_option maxHeartbeats 4000000 in
theorem part_nil (w : World) (tx : Int) : Calls Try.prog 16 #[.pointer none, .int .i64 tx] w fun e w' => e = .returned (.tuple #[zeroV, .bool false]) ∧ Below w.heap.size w w' := by
  have HG := Aside0.mk (good_nil (w.alloc (.cells #[.int .i64 0, .slice none 0 0, .bool false, .int .i64 0] 40)))
  have K1 := Aside0.mk (heap_alloc_new w (.cells #[.int .i64 0, .slice none 0 0, .bool false, .int .i64 0] 40))
  have HB := Aside0.mk (below_alloc (Below.refl w.heap.size w) (.cells #[.int .i64 0, .slice none 0 0, .bool false, .int .i64 0] 40))
  go_enter Try.func16, Try.ntmps16
  go_wp2_with (go_at_call 26; with_reducible refine (HG.out).mono ?_; rintro e w1 ⟨rfl, rfl⟩)
  refine bodyPost_ret (results_ct rfl _ _ w.heap.size 40 #[_, _, _, _] (0, 0) _ rfl K1.out Try.underlying40 rfl (by kernel_rfl)) rfl ?_
  exact ⟨rfl, HB.out⟩
set_option maxRecDepth 100000 in
set_option maxHeartbeats 4000000 in
theorem part_empty (b : Nat) (w : World) (tx : Int) (hc : w.cell? ⟨b, 2, none⟩ = some (.map none)) : Calls Try.prog 16 #[.pointer (some ⟨b, 0, none⟩), .int .i64 tx] w fun e w' => e = .returned (.tuple #[zeroV, .bool false]) ∧ Below w.heap.size w w' := by
  have HB := Aside0.mk (below_alloc (Below.refl w.heap.size w) (.cells #[.int .i64 0, .slice none 0 0, .bool false, .int .i64 0] 40))
  have HG := Aside0.mk (good_empty b (w.alloc (.cells #[.int .i64 0, .slice none 0 0, .bool false, .int .i64 0] 40)) ((HB.out.cell (World.block_lt_of_cell? w _ hc)).trans hc))
  have K1 := Aside0.mk (heap_alloc_new w (.cells #[.int .i64 0, .slice none 0 0, .bool false, .int .i64 0] 40))
  clear hc
  go_enter Try.func16, Try.ntmps16
  go_wp2_with (go_at_call 26; with_reducible refine (HG.out).mono ?_; rintro e w1 ⟨rfl, rfl⟩)
  refine bodyPost_ret (results_ct rfl _ _ w.heap.size 40 #[_, _, _, _] (0, 0) _ rfl K1.out Try.underlying40 rfl (by kernel_rfl)) rfl ?_
  exact ⟨rfl, HB.out⟩
end Go.Proofs.Ytolpcfjmhimpeaa.HS

/- A part stored beside another store: 's.locks, s.parts[tx] = locks, p'. -/

namespace Go.Proofs.Ytolpcfjmhimpeaa.HS
open Go.RowKit Go.Proofs.YtolpcfjmhimpeaaW.PrintWords Go.Proofs.YtolpcfjmhimpeaaW.PrintLast Go.Proofs.YtolpcfjmhimpeaaW.PrintMore Go.Proofs.Ytolpcfjmhimpeaa.P
open Go.Maps (Keyed)
open Go.ChangeMaps Go.MapKept Go.WideElems
set_option linter.unusedVariables false
set_option linter.unusedSimpArgs false

section
variable {P : Program} {w : World} {t k e : TypeId} {b : Nat} {es : Array MapEntry} {clock : Nat}
theorem entry_store (K : Keyed P k) (ht : P.underlying t = some (.map k e)) {z : Value} (hz : ∀ u : World, (zeroValue e).run P u = .ok z u) (hb : w.heap[b]? = some (.map es clock)) (F : Fit P k Rv es clock)
    {key : Value} {kl : Lit} (hkey : keyOf P k key = some kl) :
    ∃ (v0 : Value) (st : Nat) (es1 : Array MapEntry) (clock1 : Nat), (Instr.mapEntry t (.map (some b)) key).run P w = .ok (.tuple #[v0, goInt st]) (setBlock w b (.map es1 clock1)) ∧
      ∀ (w2 : World) (val : Value), w2.heap[b]? = some (.map es1 clock1) → ∃ es' clock', (Instr.entryStore t (.map (some b)) (goInt st) val).run P w2 = .ok () (setBlock w2 b (.map es' clock')) ∧
        (Instr.mapUpdate t (.map (some b)) key val).run P w = .ok () (setBlock w b (.map es' clock')) := by
  obtain ⟨s1, s2, _⟩ := F.stamped
  rcases K.find w hkey es.toList F.keys with ⟨h1, h2⟩ | ⟨j, e0, h1, h2, h3⟩
  · refine ⟨z, clock, es.push ⟨key, z, clock⟩, clock + 1, ?_, fun w2 val hw2 => ⟨es.push ⟨key, val, clock⟩, clock + 1, ?_, ?_⟩⟩
    · simp [Instr.mapEntry, run_underlying ht, MapKept.run_getObj_map hb, K.check w false hkey, h1, hz, MapKept.run_setObj_map _ hb, Result.andThen, setBlock]
    · have hidx : (es.push ⟨key, z, clock⟩).findIdx? (fun e => ((e.born : Nat) : Int) == ((clock : Nat) : Int)) = some es.size := by
        rw [findIdx_arr]
        refine findIdx_born (l := (es.push ⟨key, z, clock⟩).toList) (j := es.size) (e0 := ⟨key, z, clock⟩) ?_ (by simp)
        simp only [Array.toList_push, List.map_append, List.map_cons, List.map_nil]
        refine List.nodup_append.2 ⟨s2, by simp, fun a ha c hc e1 => ?_⟩
        simp only [List.mem_singleton] at hc
        obtain ⟨x, hx, rfl⟩ := List.mem_map.1 ha
        have := s1 x hx
        omega
      have hmod : (es.push ⟨key, z, clock⟩).modify es.size (fun e => { e with val := val }) = es.push ⟨key, val, clock⟩ := by
        apply Array.ext'
        rw [Array.toList_modify, Array.toList_push, Array.toList_push, ← Array.length_toList, modify_last]
      simp [Instr.entryStore, MapKept.run_getObj_map hw2, asInt, asIntOf, goInt, hidx, hmod, MapKept.run_setObj_map _ hw2, Result.andThen, setBlock]
    · simp [Instr.mapUpdate, run_underlying ht, MapKept.run_getObj_map hb, K.check w false hkey, h1, MapKept.run_setObj_map _ hb, Result.andThen, setBlock]
  · have hj : es[j]? = some e0 := by simpa using h2
    have hsame : es.modify j (fun e => { e with key := key }) = es := by
      apply Array.ext'
      rw [Array.toList_modify, modify_eq_set _ _ _ _ h2]
      have : ({ e0 with key := key } : MapEntry) = e0 := by rw [← h3]
      rw [this]
      exact set_self _ _ _ h2
    refine ⟨e0.val, e0.born, es, clock, ?_, fun w2 val hw2 => ⟨es.modify j (fun e' => { e' with key := key, val := val }), clock, ?_, ?_⟩⟩
    · simp [Instr.mapEntry, run_underlying ht, MapKept.run_getObj_map hb, K.check w false hkey, h1, hj, h3, K.stays w hkey, hsame, MapKept.run_setObj_map _ hb, Result.andThen, setBlock]
    · have hidx : es.findIdx? (fun e => ((e.born : Nat) : Int) == ((e0.born : Nat) : Int)) = some j := by
        rw [findIdx_arr]
        exact findIdx_born s2 h2
      have hmod : es.modify j (fun e => { e with val := val }) = es.modify j (fun e' => { e' with key := key, val := val }) := by
        apply Array.ext'
        rw [Array.toList_modify, Array.toList_modify, modify_eq_set _ _ _ _ h2, modify_eq_set _ _ _ _ h2, ← h3]
      simp [Instr.entryStore, MapKept.run_getObj_map hw2, asInt, asIntOf, goInt, hidx, hmod, MapKept.run_setObj_map _ hw2, Result.andThen, setBlock]
    · simp [Instr.mapUpdate, run_underlying ht, MapKept.run_getObj_map hb, K.check w false hkey, h1, hj, h3, K.stays w hkey, MapKept.run_setObj_map _ hb, Result.andThen, setBlock]
end

theorem entry_pair {W : World} {m n : Nat} {D : DataW Value} {i : Int} (h : W.ownsMap Try.prog 3 Rv m n D) (hn : n < maxLen) (hi : (litI i).wf = true) (val : Value) :
    ∃ v0 stp Wm We, (Instr.mapEntry 52 (.map (some m)) (.int .i64 i)).run Try.prog W = .ok (.tuple #[v0, .int .i64 stp]) Wm ∧ (Instr.entryStore 52 (.map (some m)) (.int .i64 stp) val).run Try.prog Wm = .ok () We ∧
      We.ownsMap Try.prog 3 Rv m (n + 1) (D.put (litI i) (.held val)) ∧ W.mapTurned Wm m ∧ W.mapTurned We m := by
  have h0 := h
  obtain ⟨es, clock, hb, F, hs, hD⟩ := h
  obtain ⟨v0, stp, es1, clock1, hrun, hst⟩ := entry_store (Maps.int_keyed Try.underlying3) Try.underlying52 zeroPart hb F (keyI hi)
  obtain ⟨es', clock', hrun2, hup⟩ := hst _ val (heap_setBlock_same hb _)
  obtain ⟨w', hrun3, hown, ht⟩ := h0.store (Maps.int_keyed Try.underlying3) Try.underlying52 hn (keyI hi) (val := val) (d := .held val) (ps := []) rfl
  have e1 : w' = setBlock W m (.map es' clock') := by rw [hrun3] at hup; injection hup
  rw [e1] at hown
  refine ⟨v0, stp, _, _, hrun, hrun2, ?_, ⟨es, clock, es1, clock1, hb, rfl⟩, ⟨es, clock, es', clock', hb, ?_⟩⟩
  · refine map_same hown ?_
    rw [heap_setBlock_same (heap_setBlock_same hb _) _, heap_setBlock_same hb _]
  · simp [setBlock]
end Go.Proofs.Ytolpcfjmhimpeaa.HS

/- site.access. -/

namespace Go.Proofs.Ytolpcfjmhimpeaa.HS
open Go.RowKit Go.Proofs.YtolpcfjmhimpeaaW.PrintWords Go.Proofs.YtolpcfjmhimpeaaW.PrintLast Go.Proofs.YtolpcfjmhimpeaaW.PrintMore Go.Proofs.Ytolpcfjmhimpeaa.P
open Go.Maps (Keyed)
open Go.ChangeMaps Go.MapKept
set_option linter.unusedVariables false
set_option linter.unusedSimpArgs false

/-- What a call of the site's inner functions leaves: a site, of the same blocks and new ones; nothing else has turned. -/
def Next (w : World) (S : Nat → Prop) (b n : Nat) (er : Int) (st' : PSite) (w' : World) : Prop :=
  ∃ S' vl vk vg m n' D, SiteAt w' S' b st' vl vk vg m n' D ∧ n' ≤ n + 1 ∧ (er ≠ 0 → n' ≤ n) ∧ (∀ k, S' k → S k ∨ w.heap.size ≤ k) ∧ Chg w w' S
theorem Next.same {w w' : World} {S : Nat → Prop} {b m n : Nat} {st : PSite} {vl vk vg : Value} {D : DataW Value} (h : SiteAt w S b st vl vk vg m n D) (hb : Below w.heap.size w w') {er : Int} : Next w S b n er st w' :=
  ⟨S, vl, vk, vg, m, n, D, h.below hb, Nat.le_succ _, fun _ => Nat.le_refl _, fun k hk => .inl hk, Chg.of_below hb _⟩

/-- The boxes of a part and of a record, which a call begins with. -/
abbrev w2 (w : World) (ps : Int) (vp : Value) (pl : Bool) (po k tx key nn : Int) : World := (w.alloc (.cells #[.int .i64 ps, vp, .bool pl, .int .i64 po] 40)).alloc (.cells #[.int .i64 k, .int .i64 tx, .int .u8 key, .int .i64 nn] 35)
section
variable (w : World) (ps : Int) (vp : Value) (pl : Bool) (po k tx key nn : Int)
theorem w2_below : Below w.heap.size w (w2 w ps vp pl po k tx key nn) := below_alloc (below_alloc (Below.refl _ _) _) _
theorem w2_size : (w2 w ps vp pl po k tx key nn).heap.size = w.heap.size + 2 := by simp
theorem w2_p : (w2 w ps vp pl po k tx key nn).heap[w.heap.size]? = some (.cells #[.int .i64 ps, vp, .bool pl, .int .i64 po] 40 (0, 0)) := (Below.heap_alloc _ _ _ (by simp)).trans (heap_alloc_new w _)
theorem w2_r : (w2 w ps vp pl po k tx key nn).heap[w.heap.size + 1]? = some (.cells #[.int .i64 k, .int .i64 tx, .int .u8 key, .int .i64 nn] 35 (0, 0)) := by
  have := heap_alloc_new (w.alloc (.cells #[.int .i64 ps, vp, .bool pl, .int .i64 po] 40)) (.cells #[.int .i64 k, .int .i64 tx, .int .u8 key, .int .i64 nn] 35)
  rwa [show (w.alloc (.cells #[.int .i64 ps, vp, .bool pl, .int .i64 po] 40)).heap.size = w.heap.size + 1 from by simp] at this
end
/-- The boxes, in a world that has kept them. -/
structure Bx (w W : World) (ps : Int) (vp : Value) (pl : Bool) (po k tx key nn : Int) : Prop where
  p : W.heap[w.heap.size]? = some (.cells #[.int .i64 ps, vp, .bool pl, .int .i64 po] 40 (0, 0))
  r : W.heap[w.heap.size + 1]? = some (.cells #[.int .i64 k, .int .i64 tx, .int .u8 key, .int .i64 nn] 35 (0, 0))
theorem Bx.start (w : World) (ps : Int) (vp : Value) (pl : Bool) (po k tx key nn : Int) : Bx w (w2 w ps vp pl po k tx key nn) ps vp pl po k tx key nn := ⟨w2_p w ps vp pl po k tx key nn, w2_r w ps vp pl po k tx key nn⟩
theorem Bx.below {w W W' : World} {ps : Int} {vp : Value} {pl : Bool} {po k tx key nn : Int} (h : Bx w W ps vp pl po k tx key nn) (hb : Below W.heap.size W W') : Bx w W' ps vp pl po k tx key nn :=
  ⟨(hb.block _ (World.block_lt_of_cell? _ _ (four h.p).1.1)).trans h.p, (hb.block _ (World.block_lt_of_cell? _ _ (four h.r).1.1)).trans h.r⟩
theorem Bx.facts {w W : World} {ps : Int} {vp : Value} {pl : Bool} {po k tx key nn : Int} (h : Bx w W ps vp pl po k tx key nn) :
    (W.cell? ⟨w.heap.size, 0, none⟩ = some (.int .i64 ps) ∧ W.cell? ⟨w.heap.size, 1, none⟩ = some vp ∧ W.cell? ⟨w.heap.size, 2, none⟩ = some (.bool pl) ∧ W.cell? ⟨w.heap.size, 3, none⟩ = some (.int .i64 po)) ∧
    (W.cell? ⟨w.heap.size + 1, 0, none⟩ = some (.int .i64 k) ∧ W.cell? ⟨w.heap.size + 1, 1, none⟩ = some (.int .i64 tx) ∧ W.cell? ⟨w.heap.size + 1, 2, none⟩ = some (.int .u8 key) ∧ W.cell? ⟨w.heap.size + 1, 3, none⟩ = some (.int .i64 nn)) :=
  ⟨(four h.p).1, (four h.r).1⟩

section
variable {w : World} {S : Nat → Prop} {b m n : Nat} {st : PSite} {vl vk vg : Value} {D : DataW Value}
set_option maxRecDepth 100000 in
set_option maxHeartbeats 8000000 in
theorem access_over (h : SiteAt w S b st vl vk vg m n D) (ps : Int) (vp : Value) (pa : List S73) (pl : Bool) (po k tx key nn : Int) (hp : Kd.R k73 73 w 0 S vp pa) (h0 : ps ≠ 0) :
    Calls Try.prog 37 #[.pointer (some ⟨b, 0, none⟩), .agg #[.int .i64 ps, vp, .bool pl, .int .i64 po], .agg #[.int .i64 k, .int .i64 tx, .int .u8 key, .int .i64 nn]] w fun e w' =>
      e = .returned (.tuple #[.int .i64 0, .int .i64 13]) ∧ Next w S b n 13 st w' := by
  obtain ⟨A2, c2, rfl⟩ := Kd.R_slice hp
  have HN := Aside0.mk (Next.same h (w2_below w ps (.slice A2 pa.length c2) pl po k tx key nn) (er := 13))
  have q0 : (ps != 0) = true := by simpa using h0
  clear h hp h0
  go_enter Try.func37, Try.ntmps37
  go_wp2
  go_ret2
  exact ⟨rfl, HN.out⟩

set_option maxRecDepth 100000 in
set_option maxHeartbeats 8000000 in
theorem access_lock (h : SiteAt w S b st vl vk vg m n D) (vp : Value) (pa : List S73) (pl : Bool) (po k tx key nn : Int) (hp : Kd.R k73 73 w 0 S vp pa) (hl : st.locks.length ≤ 1000000000) (he : (H.takeP st.locks tx key (k == 3)).2 ≠ 0) :
    Calls Try.prog 37 #[.pointer (some ⟨b, 0, none⟩), .agg #[.int .i64 0, vp, .bool pl, .int .i64 po], .agg #[.int .i64 k, .int .i64 tx, .int .u8 key, .int .i64 nn]] w fun e w' =>
      e = .returned (.tuple #[.int .i64 0, .int .i64 (H.takeP st.locks tx key (k == 3)).2]) ∧ Next w S b n (H.takeP st.locks tx key (k == 3)).2 st w' := by
  obtain ⟨A2, c2, rfl⟩ := Kd.R_slice hp
  have HB := Aside0.mk (w2_below w 0 (.slice A2 pa.length c2) pl po k tx key nn)
  have h1 := h.below HB.out
  obtain ⟨A3, c3, rfl⟩ := Kd.R_slice h1.locks
  obtain ⟨x0, x1, x2, x3⟩ := h1.cells
  have HT := Aside0.mk (fun (W : World) (hb : Below (w2 w 0 (.slice A2 pa.length c2) pl po k tx key nn).heap.size (w2 w 0 (.slice A2 pa.length c2) pl po k tx key nn) W) =>
    H.take_calls A3 c3 st.locks tx key (k == 3) (H.takeP st.locks tx key (k == 3)).1 (H.takeP st.locks tx key (k == 3)).2 W (Kd.C_below (Kd.R_reads' h1.locks).2.2 hb) (Kd.R_reads' h1.locks).2.1 (by unfold H.takeF; rw [if_pos (by omega)]))
  have HH := Aside0.mk h
  have KEEP := Aside0.mk (fun (W : World) (hb : Below (w2 w 0 (.slice A2 pa.length c2) pl po k tx key nn).heap.size (w2 w 0 (.slice A2 pa.length c2) pl po k tx key nn) W) =>
    (show W.cell? ⟨b, 1, none⟩ = some (.slice A3 st.locks.length c3) ∧ W.cell? ⟨w.heap.size + 1, 0, none⟩ = some (.int .i64 k) ∧ W.cell? ⟨w.heap.size + 1, 1, none⟩ = some (.int .i64 tx) ∧ W.cell? ⟨w.heap.size + 1, 2, none⟩ = some (.int .u8 key) from
      ⟨(h1.below hb).cells.2.1, ((Bx.start w 0 (.slice A2 pa.length c2) pl po k tx key nn).below hb).facts.2.1, ((Bx.start w 0 (.slice A2 pa.length c2) pl po k tx key nn).below hb).facts.2.2.1, ((Bx.start w 0 (.slice A2 pa.length c2) pl po k tx key nn).below hb).facts.2.2.2.1⟩))
  generalize H.takeP st.locks tx key (k == 3) = tk at HT he ⊢
  obtain ⟨lk, er⟩ := tk
  have q1 : (er != 0) = true := by simpa using he
  clear h h1 hp hl he x0 x1 x2 x3
  go_enter Try.func37, Try.ntmps37
  go_wp2
  go_region_held3 (fun w' => (w'.cell? ⟨b, 1, none⟩ = some (.slice A3 st.locks.length c3) ∧ w'.cell? ⟨w.heap.size + 1, 0, none⟩ = some (.int .i64 k) ∧ w'.cell? ⟨w.heap.size + 1, 1, none⟩ = some (.int .i64 tx) ∧ w'.cell? ⟨w.heap.size + 1, 2, none⟩ = some (.int .u8 key)))
    (first | exact KEEP.out _ (below_drew (Below.refl _ _)) | exact KEEP.out _ (H.bt (below_drew (Below.refl _ _)) HB3.out))
    (first | (go_at_call 46; with_reducible refine (HT.out _ (below_drew (Below.refl _ _))).mono ?_; rintro e w3 ⟨v, rfl, hv, hb⟩; obtain ⟨A4, c4, rfl⟩ := Kd.R_slice hv; have HV3 := Aside0.mk hv; have HB3 := Aside0.mk hb; clear hv hb))
  go_wp2
  go_ret2
  exact ⟨rfl, Next.same HH.out (H.bt HB.out (H.bt (below_drew (Below.refl _ _)) HB3.out))⟩
end
end Go.Proofs.Ytolpcfjmhimpeaa.HS

/- site.access: a read. -/

namespace Go.Proofs.Ytolpcfjmhimpeaa.HS
open Go.RowKit Go.Proofs.YtolpcfjmhimpeaaW.PrintWords Go.Proofs.YtolpcfjmhimpeaaW.PrintLast Go.Proofs.YtolpcfjmhimpeaaW.PrintMore Go.Proofs.Ytolpcfjmhimpeaa.P
open Go.Maps (Keyed)
open Go.ChangeMaps Go.MapKept
set_option linter.unusedVariables false
set_option linter.unusedSimpArgs false

/-- The old blocks, and what is new in a world. -/
def Wide (w W : World) (S : Nat → Prop) (k : Nat) : Prop := S k ∨ (w.heap.size ≤ k ∧ k < W.heap.size)
theorem new_row {α : Type} {d : Kd α} {e : Nat} {w W : World} {S : Nat → Prop} {B : Nat} {v : Value} {l : List α} (h : d.R e W B (fun _ => True) v l) (hB : w.heap.size ≤ B) : d.R e W 0 (Wide w W S) v l :=
  Kd.R_mono (Kd.R_bound (Kd.R_lower h (Nat.zero_le B)) |> fun _ => Kd.R_lower (Kd.R_bound h) (Nat.zero_le B)) (fun k hk => .inr ⟨Nat.le_trans hB hk.2.1, hk.2.2.1⟩)
section
variable {w W : World} {S : Nat → Prop} {b m n : Nat} {st : PSite} {vl vk vg : Value} {D : DataW Value}
theorem SiteAt.widen (h : SiteAt W S b st vl vk vg m n D) (w : World) : SiteAt W (Wide w W S) b st vl vk vg m n D :=
  h.wide (fun k hk => .inl hk) (fun k hk => hk.elim (h.bound k) (fun h2 => h2.2))
theorem Wide.out {k : Nat} (h : Wide w W S k) : S k ∨ w.heap.size ≤ k := h.imp id (fun h2 => h2.1)

theorem ownSum_snoc (n key : Int) (l : List S73) (x : S73) : ownSum n key (l ++ [x]) = if x.f0 = key then wrap64 (ownSum n key l + x.f1) else ownSum n key l := by
  unfold ownSum
  rw [List.foldl_append]
  rfl

set_option maxRecDepth 100000 in
set_option maxHeartbeats 8000000 in
theorem access_read (h : SiteAt w S b st vl vk vg m n D) (vp : Value) (pa : List S73) (pl : Bool) (po tx key nn : Int) (hp : Kd.R k73 73 w 0 S vp pa) (hl : st.locks.length ≤ 1000000000) (hle : st.led.length ≤ 1000000000) (hpa : pa.length ≤ 1000000000) (he : (H.takeP st.locks tx key false).2 = 0) :
    Calls Try.prog 37 #[.pointer (some ⟨b, 0, none⟩), .agg #[.int .i64 0, vp, .bool pl, .int .i64 po], .agg #[.int .i64 2, .int .i64 tx, .int .u8 key, .int .i64 nn]] w fun e w' =>
      e = .returned (.tuple #[.int .i64 (ownSum (getL st.led key) key pa), .int .i64 0]) ∧ Next w S b n 0 { st with locks := (H.takeP st.locks tx key false).1 } w' := by
  obtain ⟨A2, c2, rfl⟩ := Kd.R_slice hp
  have HB := Aside0.mk (w2_below w 0 (.slice A2 pa.length c2) pl po 2 tx key nn)
  have h1 := h.below HB.out
  obtain ⟨A3, c3, rfl⟩ := Kd.R_slice h1.locks
  obtain ⟨A5, c5, rfl⟩ := Kd.R_slice h1.led
  have HT := Aside0.mk (fun (W : World) (hb : Below (w2 w 0 (.slice A2 pa.length c2) pl po 2 tx key nn).heap.size (w2 w 0 (.slice A2 pa.length c2) pl po 2 tx key nn) W) =>
    H.take_calls A3 c3 st.locks tx key false (H.takeP st.locks tx key false).1 (H.takeP st.locks tx key false).2 W (Kd.C_below (Kd.R_reads' h1.locks).2.2 hb) (Kd.R_reads' h1.locks).2.1 (by unfold H.takeF; rw [if_pos (by omega)]))
  have HH := Aside0.mk h
  have HP := Aside0.mk hp
  have HLE := Aside0.mk hle
  have KEEP := Aside0.mk (fun (W : World) (hb : Below (w2 w 0 (.slice A2 pa.length c2) pl po 2 tx key nn).heap.size (w2 w 0 (.slice A2 pa.length c2) pl po 2 tx key nn) W) =>
    (show W.cell? ⟨b, 1, none⟩ = some (.slice A3 st.locks.length c3) ∧ W.cell? ⟨w.heap.size + 1, 0, none⟩ = some (.int .i64 2) ∧ W.cell? ⟨w.heap.size + 1, 1, none⟩ = some (.int .i64 tx) ∧ W.cell? ⟨w.heap.size + 1, 2, none⟩ = some (.int .u8 key) from
      ⟨(h1.below hb).cells.2.1, ((Bx.start w 0 (.slice A2 pa.length c2) pl po 2 tx key nn).below hb).facts.2.1, ((Bx.start w 0 (.slice A2 pa.length c2) pl po 2 tx key nn).below hb).facts.2.2.1, ((Bx.start w 0 (.slice A2 pa.length c2) pl po 2 tx key nn).below hb).facts.2.2.2.1⟩))
  rw [he] at HT
  generalize (H.takeP st.locks tx key false).1 = lk at HT ⊢
  clear h h1 hp hl he hle
  have b3 : (pa.length : Int) ≤ 1000000000 := by omega
  go_enter Try.func37, Try.ntmps37
  go_wp2
  go_region_held3 (fun w' => (w'.cell? ⟨b, 1, none⟩ = some (.slice A3 st.locks.length c3) ∧ w'.cell? ⟨w.heap.size + 1, 0, none⟩ = some (.int .i64 2) ∧ w'.cell? ⟨w.heap.size + 1, 1, none⟩ = some (.int .i64 tx) ∧ w'.cell? ⟨w.heap.size + 1, 2, none⟩ = some (.int .u8 key)))
    (first | exact KEEP.out _ (below_drew (Below.refl _ _)) | exact KEEP.out _ (H.bt (below_drew (Below.refl _ _)) HB3.out))
    (first | (go_at_call 46; with_reducible refine (HT.out _ (below_drew (Below.refl _ _))).mono ?_; rintro e w3 ⟨v, rfl, hv, hb⟩; obtain ⟨A4, c4, rfl⟩ := Kd.R_slice hv; have HV3 := Aside0.mk hv; have HB3 := Aside0.mk hb; clear hv hb))
  have hb3 := H.bt (below_drew (Below.refl _ _)) HB3.out
  have H3 := Aside0.mk ((HH.out.below (H.bt HB.out hb3)).widen w)
  have HX := Aside0.mk ((Bx.start w 0 (.slice A2 pa.length c2) pl po 2 tx key nn).below hb3)
  have HV4 := Aside0.mk (new_row (w := w) (S := S) HV3.out (by show w.heap.size ≤ (w2 w 0 (.slice A2 pa.length c2) pl po 2 tx key nn).heap.size; rw [w2_size]; omega))
  have H4 := Aside0.mk (H3.out.setLocks HV4.out)
  have HC4 := Aside0.mk ((Chg.of_below (H.bt HB.out hb3) S).setCell ⟨b, 1, none⟩ (.slice A4 lk.length c4) (.inl HH.out.sb))
  have HPR := Aside0.mk (row_set eD (row_wide (row_chg eD HP.out (Chg.of_below (H.bt HB.out hb3) (fun _ => False)) (fun _ _ hk => hk)) (S' := Wide w w3 S) (fun _ hk => .inl hk)) H3.out.box (by decide) 1 (.slice A4 lk.length c4))
  have x4 := H3.out.cells.2.1
  have z4 := H3.out.free.2.1
  have HX5 := Aside0.mk (Bx.mk (blk_other HX.out.p (show w.heap.size ≠ b from fun e => by have := HH.out.bound b HH.out.sb; omega) 1 (.slice A4 lk.length c4)) (blk_other HX.out.r (show w.heap.size + 1 ≠ b from fun e => by have := HH.out.bound b HH.out.sb; omega) 1 (.slice A4 lk.length c4)))
  have HG := Aside0.mk (fun (W : World) (hb : Below (w3.setCell ⟨b, 1, none⟩ (.slice A4 lk.length c4)).heap.size (w3.setCell ⟨b, 1, none⟩ (.slice A4 lk.length c4)) W) =>
    ledger_Get.calls (st.led.length + 1) A5 c5 st.led key (getL st.led key) W (Kd.C_below (Kd.R_reads' H4.out.led).2.2 hb) (Kd.R_reads' H4.out.led).2.1 (getL_is st.led key (by have := HLE.out; omega)))
  have KEEP2 := Aside0.mk (fun (W : World) (hb : Below (w3.setCell ⟨b, 1, none⟩ (.slice A4 lk.length c4)).heap.size (w3.setCell ⟨b, 1, none⟩ (.slice A4 lk.length c4)) W) =>
    (show W.cell? ⟨b, 0, none⟩ = some (.slice A5 st.led.length c5) ∧ W.cell? ⟨w.heap.size + 1, 2, none⟩ = some (.int .u8 key) from ⟨(H4.out.below hb).cells.1, (HX5.out.below hb).facts.2.2.2.1⟩))
  obtain ⟨⟨u0, u1, u2, u3⟩, u4, u5, u6, u7⟩ := HX.out.facts
  clear hb3 u0 u2 u3 u5 u7 HT KEEP
  go_wp2
  go_region_held3 (fun w' => (w'.cell? ⟨b, 0, none⟩ = some (.slice A5 st.led.length c5) ∧ w'.cell? ⟨w.heap.size + 1, 2, none⟩ = some (.int .u8 key)))
    (first | exact KEEP2.out _ (below_drew (Below.refl _ _)) | exact KEEP2.out _ (H.bt (below_drew (Below.refl _ _)) HB5.out))
    (first | (go_at_call 31; with_reducible refine (HG.out _ (below_drew (Below.refl _ _))).mono ?_; rintro e w5 ⟨rfl, hb⟩; have HB5 := Aside0.mk hb; clear hb))
  have hb5 := H.bt (below_drew (Below.refl _ _)) HB5.out
  have H5 := Aside0.mk (H4.out.below hb5)
  have HC5 := Aside0.mk (HC4.out.step hb5)
  have HX6 := Aside0.mk (HX5.out.below hb5)
  have HR5 := Aside0.mk (Kd.C_below (Kd.R_reads' HPR.out).2.2 hb5)
  obtain ⟨⟨t0, t1, t2, t3⟩, t4, t5, t6, t7⟩ := HX6.out.facts
  clear hb5 t0 t2 t3 t4 t5 t6 t7 HG KEEP2 u1 u4 u6 x4 z4
  go_wp2
  generalize hg0 : getL st.led key = g0
  have HG0 := Aside0.mk hg0
  clear t1 hg0
  have HK5 := Aside0.mk (fun (W : World) (hb : Below w5.heap.size w5 W) => (HX6.out.below hb).facts.2.2.2.1)
  go_loopg [10, 12, 77] pa.length (fun gg s10 _ s77 wr => ∃ kk : Nat, s77 = .int .i64 (kk : Int) ∧ s10 = .int .i64 (ownSum g0 key (pa.take kk)) ∧ Aside0 (kk ≤ pa.length ∧ pa.length - kk ≤ gg) ∧ Aside0 (Below w5.heap.size w5 wr))
  case atStart => exact ⟨0, rfl, rfl, ⟨by omega, by omega⟩, ⟨Below.refl _ _⟩⟩
  case round =>
    obtain ⟨kk, rfl, rfl, HK, BW⟩ := hrel
    by_cases hlt : kk < pa.length
    · obtain ⟨g', rfl⟩ : ∃ g', gk = g' + 1 := ⟨gk - 1, by have := HK.out; omega⟩
      have hlt' : decide ((kk : Int) < (pa.length : Int)) = true := decide_eq_true (by omega)
      obtain ⟨ad, e0, h0, h1⟩ := at_T73 HR5.out (kk : Int) (by omega) (by omega)
      cases e0
      rw [Int.toNat_natCast] at h0 h1
      replace h0 := (BW.out.cell (World.block_lt_of_cell? _ _ h0)).trans h0
      replace h1 := (BW.out.cell (World.block_lt_of_cell? _ _ h1)).trans h1
      have y4 := HK5.out _ (below_alloc BW.out (.cells #[.int .u8 (rd_T73 pa (kk : Int)).f0, .int .i64 (rd_T73 pa (kk : Int)).f1] 73))
      have HSN : Aside0 (ownSum g0 key (pa.take (kk + 1)) = if (rd_T73 pa (kk : Int)).f0 = key then wrap64 (ownSum g0 key (pa.take kk) + (rd_T73 pa (kk : Int)).f1) else ownSum g0 key (pa.take kk)) :=
        ⟨by rw [List.take_succ_eq_append_getElem hlt, ownSum_snoc, HD.rdD pa kk hlt]⟩
      generalize rd_T73 pa (kk : Int) = x at h0 h1 y4 HSN
      generalize ownSum g0 key (pa.take kk) = u at HSN ⊢
      have HBX := Aside0.mk (below_alloc BW.out (.cells #[.int .u8 x.f0, .int .i64 x.f1] 73))
      by_cases hx : x.f0 = key
      · have q0 : (x.f0 == key) = true := by simpa using hx
        have HSN2 : Aside0 (ownSum g0 key (pa.take (kk + 1)) = wrap64 (u + x.f1)) := ⟨by rw [HSN.out, if_pos hx]⟩
        clear hx HSN
        go_wp2
        go_roundg g'
        case measure => have := HK.out; omega
        case rel => exact ⟨kk + 1, by go_num, by rw [HSN2.out], ⟨by have := HK.out; omega⟩, HBX⟩
      · have q0 : (x.f0 == key) = false := by simpa using hx
        have HSN2 : Aside0 (ownSum g0 key (pa.take (kk + 1)) = u) := ⟨by rw [HSN.out, if_neg hx]⟩
        clear hx HSN
        go_wp2
        go_roundg g'
        case measure => have := HK.out; omega
        case rel => exact ⟨kk + 1, by go_num, by rw [HSN2.out], ⟨by have := HK.out; omega⟩, HBX⟩
    · obtain rfl : kk = pa.length := by have := HK.out; omega
      have hlt' : decide ((pa.length : Int) < (pa.length : Int)) = false := decide_eq_false (by omega)
      rw [List.take_length]
      go_wp2
      go_ret2
      exact ⟨by rw [HG0.out]; rfl, Wide w w3 S, _, _, _, _, _, _, H5.out.below BW.out, Nat.le_succ _, fun h => absurd rfl h, fun k hk => hk.out, HC5.out.step BW.out⟩
end
end Go.Proofs.Ytolpcfjmhimpeaa.HS

/- site.access: an Add. -/

namespace Go.Proofs.Ytolpcfjmhimpeaa.HS
open Go.RowKit Go.Proofs.YtolpcfjmhimpeaaW.PrintWords Go.Proofs.YtolpcfjmhimpeaaW.PrintLast Go.Proofs.YtolpcfjmhimpeaaW.PrintMore Go.Proofs.Ytolpcfjmhimpeaa.P
open Go.Maps (Keyed)
open Go.ChangeMaps Go.MapKept
set_option linter.unusedVariables false
set_option linter.unusedSimpArgs false

section
variable {w W : World} {S : Nat → Prop} {b m n : Nat} {st : PSite} {vl vk vg : Value} {D : DataW Value}
theorem far_H {w1 : World} {base : Nat} {v : Value} {l : List S119} (hR : Kd.R k119 119 w1 base (fun _ => True) v l) {p : Addr} (hp : p.block < base) (u : Value) : Kd.R k119 119 (w1.setCell p u) base (fun _ => True) v l :=
  Kd.R_mono (Kd.R_far (Kd.R_bound hR) (fun k hk => by have := hk.2.1; omega) u) (fun _ _ => trivial)
/-- The part's box is written. -/
abbrev w5 (w W : World) (p : PPart) (v : Value) : World := (((W.setCell ⟨w.heap.size, 0, none⟩ (.int .i64 p.st)).setCell ⟨w.heap.size, 1, none⟩ v).setCell ⟨w.heap.size, 2, none⟩ (.bool p.loc)).setCell ⟨w.heap.size, 3, none⟩ (.int .i64 p.out)
theorem w5_below {p : PPart} {v : Value} (h : Below w.heap.size w W) : Below w.heap.size w (w5 w W p v) :=
  (((h.setCell (Nat.le_refl _) _).setCell (Nat.le_refl _) _).setCell (Nat.le_refl _) _).setCell (Nat.le_refl _) _
theorem w5_size {p : PPart} {v : Value} : (w5 w W p v).heap.size = W.heap.size := by simp
theorem w5_bx {p : PPart} {v : Value} {ps : Int} {vp : Value} {pl : Bool} {po k tx key nn : Int} (h : Bx w W ps vp pl po k tx key nn) : Bx w (w5 w W p v) p.st v p.loc p.out k tx key nn :=
  ⟨blk4 h.p _ _ _ _, blk_other (blk_other (blk_other (blk_other h.r (by omega) 0 _) (by omega) 1 _) (by omega) 2 _) (by omega) 3 _⟩
theorem w5_D {p : PPart} {v u : Value} {l : List S73} {B : Nat} (h : Kd.R k73 73 W B (fun _ => True) u l) (hB : w.heap.size < B) : Kd.R k73 73 (w5 w W p v) B (fun _ => True) u l :=
  far_D (far_D (far_D (far_D h hB _) hB _) hB _) hB _
theorem w5_H {p : PPart} {v u : Value} {l : List S119} {B : Nat} (h : Kd.R k119 119 W B (fun _ => True) u l) (hB : w.heap.size < B) : Kd.R k119 119 (w5 w W p v) B (fun _ => True) u l :=
  far_H (far_H (far_H (far_H h hB _) hB _) hB _) hB _

set_option maxRecDepth 100000 in
set_option maxHeartbeats 8000000 in
theorem access_add_bad (h : SiteAt w S b st vl vk vg m n D) (vp : Value) (pa : List S73) (pl : Bool) (po tx key nn : Int) (hp : Kd.R k73 73 w 0 S vp pa) (hl : st.locks.length ≤ 1000000000) (hpa : pa.length ≤ 1000000000) (he : (H.takeP st.locks tx key true).2 = 0) (ht : (litI tx).wf = true) (hn : n < maxLen) (hc : (addP ⟨0, pa, pl, po⟩ ⟨key, nn⟩).2 ≠ 0) :
    Calls Try.prog 37 #[.pointer (some ⟨b, 0, none⟩), .agg #[.int .i64 0, vp, .bool pl, .int .i64 po], .agg #[.int .i64 3, .int .i64 tx, .int .u8 key, .int .i64 nn]] w fun e w' =>
      e = .returned (.tuple #[.int .i64 0, .int .i64 (addP ⟨0, pa, pl, po⟩ ⟨key, nn⟩).2]) ∧ Next w S b n (addP ⟨0, pa, pl, po⟩ ⟨key, nn⟩).2 st w' := by
  obtain ⟨A2, c2, rfl⟩ := Kd.R_slice hp
  have HB := Aside0.mk (w2_below w 0 (.slice A2 pa.length c2) pl po 3 tx key nn)
  have h1 := h.below HB.out
  obtain ⟨A3, c3, rfl⟩ := Kd.R_slice h1.locks
  have HT := Aside0.mk (fun (W : World) (hb : Below (w2 w 0 (.slice A2 pa.length c2) pl po 3 tx key nn).heap.size (w2 w 0 (.slice A2 pa.length c2) pl po 3 tx key nn) W) =>
    H.take_calls A3 c3 st.locks tx key true (H.takeP st.locks tx key true).1 (H.takeP st.locks tx key true).2 W (Kd.C_below (Kd.R_reads' h1.locks).2.2 hb) (Kd.R_reads' h1.locks).2.1 (by unfold H.takeF; rw [if_pos (by omega)]))
  have HPR := Aside0.mk (fun (W : World) (hb : Below w.heap.size w W) => Kd.C_below (Kd.R_reads' hp).2.2 hb)
  have HA := Aside0.mk (fun (W : World) (hb : Below w.heap.size w W) => part_Add.calls 1 0 A2 c2 pa pl po key nn (addP ⟨0, pa, pl, po⟩ ⟨key, nn⟩).1.st (addP ⟨0, pa, pl, po⟩ ⟨key, nn⟩).1.adds (addP ⟨0, pa, pl, po⟩ ⟨key, nn⟩).1.loc (addP ⟨0, pa, pl, po⟩ ⟨key, nn⟩).1.out (addP ⟨0, pa, pl, po⟩ ⟨key, nn⟩).2 W (HPR.out W hb) (Kd.R_reads' hp).2.1 (add_is ⟨0, pa, pl, po⟩ ⟨key, nn⟩ hpa))
  have HH := Aside0.mk h
  have KEEP := Aside0.mk (fun (W : World) (hb : Below (w2 w 0 (.slice A2 pa.length c2) pl po 3 tx key nn).heap.size (w2 w 0 (.slice A2 pa.length c2) pl po 3 tx key nn) W) =>
    (show W.cell? ⟨b, 1, none⟩ = some (.slice A3 st.locks.length c3) ∧ W.cell? ⟨w.heap.size + 1, 0, none⟩ = some (.int .i64 3) ∧ W.cell? ⟨w.heap.size + 1, 1, none⟩ = some (.int .i64 tx) ∧ W.cell? ⟨w.heap.size + 1, 2, none⟩ = some (.int .u8 key) from
      ⟨(h1.below hb).cells.2.1, ((Bx.start w 0 (.slice A2 pa.length c2) pl po 3 tx key nn).below hb).facts.2.1, ((Bx.start w 0 (.slice A2 pa.length c2) pl po 3 tx key nn).below hb).facts.2.2.1, ((Bx.start w 0 (.slice A2 pa.length c2) pl po 3 tx key nn).below hb).facts.2.2.2.1⟩))
  rw [he] at HT
  generalize (H.takeP st.locks tx key true).1 = lk at HT
  generalize addP ⟨0, pa, pl, po⟩ ⟨key, nn⟩ = ap at HA hc ⊢
  obtain ⟨p', cd⟩ := ap
  have q1 : (cd != 0) = true := by simpa using hc
  clear h h1 hp hl he hc hpa HPR
  go_enter Try.func37, Try.ntmps37
  go_wp2
  go_region_held3 (fun w' => (w'.cell? ⟨b, 1, none⟩ = some (.slice A3 st.locks.length c3) ∧ w'.cell? ⟨w.heap.size + 1, 0, none⟩ = some (.int .i64 3) ∧ w'.cell? ⟨w.heap.size + 1, 1, none⟩ = some (.int .i64 tx) ∧ w'.cell? ⟨w.heap.size + 1, 2, none⟩ = some (.int .u8 key)))
    (first | exact KEEP.out _ (below_drew (Below.refl _ _)) | exact KEEP.out _ (H.bt (below_drew (Below.refl _ _)) HB3.out))
    (first | (go_at_call 46; with_reducible refine (HT.out _ (below_drew (Below.refl _ _))).mono ?_; rintro e w3 ⟨v, rfl, hv, hb⟩; obtain ⟨A4, c4, rfl⟩ := Kd.R_slice hv; have HV3 := Aside0.mk hv; have HB3 := Aside0.mk hb; clear hv hb))
  have hb3 := H.bt (below_drew (Below.refl _ _)) HB3.out
  have HB4 := Aside0.mk (H.bt HB.out hb3)
  have HX := Aside0.mk ((Bx.start w 0 (.slice A2 pa.length c2) pl po 3 tx key nn).below hb3)
  have HSZ : Aside0 (w.heap.size + 2 ≤ w3.heap.size) := ⟨by have := hb3.size; rw [w2_size] at this; exact this⟩
  obtain ⟨⟨u0, u1, u2, u3⟩, u4, u5, u6, u7⟩ := HX.out.facts
  clear hb3 HT KEEP
  go_wp2_with (go_at_call 47; with_reducible refine (HA.out _ HB4.out).mono ?_; rintro e w4 ⟨v', rfl, hv, hb⟩; obtain ⟨A6, c6, rfl⟩ := Kd.R_slice hv; have HV4 := Aside0.mk hv; have HB5 := Aside0.mk hb; have HX5 := Aside0.mk (HX.out.below hb); have HBW := Aside0.mk (H.bt HB4.out hb); obtain ⟨⟨s0, s1, s2, s3⟩, s4, s5, s6, s7⟩ := HX5.out.facts; have z0 := (four HX5.out.p).2.1; have z1 := (four HX5.out.p).2.2.1; have z2 := (four HX5.out.p).2.2.2.1; have z3 := (four HX5.out.p).2.2.2.2; clear hv hb u0 u1 u2 u3 u4 u5 u6 u7)
  go_ret2
  exact ⟨rfl, Next.same HH.out (w5_below HBW.out)⟩

set_option maxRecDepth 100000 in
set_option maxHeartbeats 8000000 in
theorem access_add_ok (h : SiteAt w S b st vl vk vg m n D) (vp : Value) (pa : List S73) (pl : Bool) (po tx key nn : Int) (hp : Kd.R k73 73 w 0 S vp pa) (hl : st.locks.length ≤ 1000000000) (hpa : pa.length ≤ 1000000000) (he : (H.takeP st.locks tx key true).2 = 0) (ht : (litI tx).wf = true) (hn : n < maxLen) (hc : (addP ⟨0, pa, pl, po⟩ ⟨key, nn⟩).2 = 0) :
    Calls Try.prog 37 #[.pointer (some ⟨b, 0, none⟩), .agg #[.int .i64 0, vp, .bool pl, .int .i64 po], .agg #[.int .i64 3, .int .i64 tx, .int .u8 key, .int .i64 nn]] w fun e w' =>
      e = .returned (.tuple #[.int .i64 0, .int .i64 0]) ∧ Next w S b n 0 { st with locks := (H.takeP st.locks tx key true).1, parts := upd st.parts tx (addP ⟨0, pa, pl, po⟩ ⟨key, nn⟩).1 } w' := by
  obtain ⟨A2, c2, rfl⟩ := Kd.R_slice hp
  have HB := Aside0.mk (w2_below w 0 (.slice A2 pa.length c2) pl po 3 tx key nn)
  have h1 := h.below HB.out
  obtain ⟨A3, c3, rfl⟩ := Kd.R_slice h1.locks
  have HT := Aside0.mk (fun (W : World) (hb : Below (w2 w 0 (.slice A2 pa.length c2) pl po 3 tx key nn).heap.size (w2 w 0 (.slice A2 pa.length c2) pl po 3 tx key nn) W) =>
    H.take_calls A3 c3 st.locks tx key true (H.takeP st.locks tx key true).1 (H.takeP st.locks tx key true).2 W (Kd.C_below (Kd.R_reads' h1.locks).2.2 hb) (Kd.R_reads' h1.locks).2.1 (by unfold H.takeF; rw [if_pos (by omega)]))
  have HPR := Aside0.mk (fun (W : World) (hb : Below w.heap.size w W) => Kd.C_below (Kd.R_reads' hp).2.2 hb)
  have HA := Aside0.mk (fun (W : World) (hb : Below w.heap.size w W) => part_Add.calls 1 0 A2 c2 pa pl po key nn (addP ⟨0, pa, pl, po⟩ ⟨key, nn⟩).1.st (addP ⟨0, pa, pl, po⟩ ⟨key, nn⟩).1.adds (addP ⟨0, pa, pl, po⟩ ⟨key, nn⟩).1.loc (addP ⟨0, pa, pl, po⟩ ⟨key, nn⟩).1.out (addP ⟨0, pa, pl, po⟩ ⟨key, nn⟩).2 W (HPR.out W hb) (Kd.R_reads' hp).2.1 (add_is ⟨0, pa, pl, po⟩ ⟨key, nn⟩ hpa))
  have HH := Aside0.mk h
  have KEEP := Aside0.mk (fun (W : World) (hb : Below (w2 w 0 (.slice A2 pa.length c2) pl po 3 tx key nn).heap.size (w2 w 0 (.slice A2 pa.length c2) pl po 3 tx key nn) W) =>
    (show W.cell? ⟨b, 1, none⟩ = some (.slice A3 st.locks.length c3) ∧ W.cell? ⟨w.heap.size + 1, 0, none⟩ = some (.int .i64 3) ∧ W.cell? ⟨w.heap.size + 1, 1, none⟩ = some (.int .i64 tx) ∧ W.cell? ⟨w.heap.size + 1, 2, none⟩ = some (.int .u8 key) from
      ⟨(h1.below hb).cells.2.1, ((Bx.start w 0 (.slice A2 pa.length c2) pl po 3 tx key nn).below hb).facts.2.1, ((Bx.start w 0 (.slice A2 pa.length c2) pl po 3 tx key nn).below hb).facts.2.2.1, ((Bx.start w 0 (.slice A2 pa.length c2) pl po 3 tx key nn).below hb).facts.2.2.2.1⟩))
  rw [he] at HT
  generalize (H.takeP st.locks tx key true).1 = lk at HT ⊢
  generalize addP ⟨0, pa, pl, po⟩ ⟨key, nn⟩ = ap at HA hc ⊢
  obtain ⟨p', cd⟩ := ap
  obtain rfl : cd = 0 := hc
  have HNT := Aside0.mk ht
  have HNN := Aside0.mk hn
  clear ht hn
  clear h h1 hp hl he hpa HPR
  go_enter Try.func37, Try.ntmps37
  go_wp2
  go_region_held3 (fun w' => (w'.cell? ⟨b, 1, none⟩ = some (.slice A3 st.locks.length c3) ∧ w'.cell? ⟨w.heap.size + 1, 0, none⟩ = some (.int .i64 3) ∧ w'.cell? ⟨w.heap.size + 1, 1, none⟩ = some (.int .i64 tx) ∧ w'.cell? ⟨w.heap.size + 1, 2, none⟩ = some (.int .u8 key)))
    (first | exact KEEP.out _ (below_drew (Below.refl _ _)) | exact KEEP.out _ (H.bt (below_drew (Below.refl _ _)) HB3.out))
    (first | (go_at_call 46; with_reducible refine (HT.out _ (below_drew (Below.refl _ _))).mono ?_; rintro e w3 ⟨v, rfl, hv, hb⟩; obtain ⟨A4, c4, rfl⟩ := Kd.R_slice hv; have HV3 := Aside0.mk hv; have HB3 := Aside0.mk hb; clear hv hb))
  have hb3 := H.bt (below_drew (Below.refl _ _)) HB3.out
  have HB4 := Aside0.mk (H.bt HB.out hb3)
  have HX := Aside0.mk ((Bx.start w 0 (.slice A2 pa.length c2) pl po 3 tx key nn).below hb3)
  have HSZ : Aside0 (w.heap.size + 2 ≤ w3.heap.size) := ⟨by have := hb3.size; rw [w2_size] at this; exact this⟩
  obtain ⟨⟨u0, u1, u2, u3⟩, u4, u5, u6, u7⟩ := HX.out.facts
  clear hb3 HT KEEP
  go_wp2_with (go_at_call 47; with_reducible refine (HA.out _ HB4.out).mono ?_; rintro e w4 ⟨v', rfl, hv, hb⟩; obtain ⟨A6, c6, rfl⟩ := Kd.R_slice hv; have HV4 := Aside0.mk hv; have HB5 := Aside0.mk hb; have HX5 := Aside0.mk (HX.out.below hb); have HBW := Aside0.mk (H.bt HB4.out hb); obtain ⟨⟨s0, s1, s2, s3⟩, s4, s5, s6, s7⟩ := HX5.out.facts; have z0 := (four HX5.out.p).2.1; have z1 := (four HX5.out.p).2.2.1; have z2 := (four HX5.out.p).2.2.2.1; have z3 := (four HX5.out.p).2.2.2.2; clear hv hb u0 u1 u2 u3 u4 u5 u6 u7)
  obtain ⟨W5, hW5⟩ : ∃ W5, w5 w w4 p' (.slice A6 p'.adds.length c6) = W5 := ⟨_, rfl⟩
  have HB6 := Aside0.mk (w5_below (p := p') (v := .slice A6 p'.adds.length c6) HBW.out)
  have HX6 := Aside0.mk (w5_bx (p := p') (v := .slice A6 p'.adds.length c6) HX5.out)
  have HVD := Aside0.mk (w5_D (p := p') (v := .slice A6 p'.adds.length c6) (w := w) HV4.out (by have := HSZ.out; omega))
  have HVH := Aside0.mk (w5_H (p := p') (v := .slice A6 p'.adds.length c6) (w := w) (Kd.R_below HV3.out HB5.out) (by show w.heap.size < (w2 w 0 (.slice A2 pa.length c2) pl po 3 tx key nn).heap.size; rw [w2_size]; omega))
  rw [hW5] at HB6 HX6 HVD HVH
  unfold w5 at hW5
  rw [hW5]
  clear hW5 s0 s1 s2 s3 s4 s5 s6 s7 z0 z1 z2 z3 HA
  have H5 := Aside0.mk ((HH.out.below HB6.out).widen w)
  have HR1 := Aside0.mk (new_row (w := w) (S := S) HVH.out (by show w.heap.size ≤ (w2 w 0 (.slice A2 pa.length c2) pl po 3 tx key nn).heap.size; rw [w2_size]; omega))
  have HR2 := Aside0.mk (new_row (w := w) (S := S) HVD.out (by have := HSZ.out; omega))
  have H6 := Aside0.mk ((H5.out.setLocks HR1.out).below (below_drew (Below.refl _ _)))
  have HR3 := Aside0.mk (Kd.R_drew (row_set eD HR2.out H5.out.box (by decide) 1 (.slice A4 lk.length c4)))
  obtain ⟨v0, stp, Wm, We, hme, hes, hown, htm, hte⟩ := entry_pair H6.out.map HNN.out HNT.out (encP p' (.slice A6 p'.adds.length c6))
  have H7 := Aside0.mk (H6.out.setPart HNT.out ((Maps.int_keyed Try.underlying3).key (keyI HNT.out)) HR3.out hown hte)
  have hneb : w.heap.size ≠ b := fun e => by have := HH.out.bound b HH.out.sb; omega
  have hneb1 : w.heap.size + 1 ≠ b := fun e => by have := HH.out.bound b HH.out.sb; omega
  have hnem : w.heap.size ≠ m := fun e => by have := HH.out.bound m HH.out.sm; omega
  have HX7 := Aside0.mk (Bx.mk (blk_other HX6.out.p hneb 1 (.slice A4 lk.length c4)) (blk_other HX6.out.r hneb1 1 (.slice A4 lk.length c4)))
  have HPM := Aside0.mk (((below_turned htm).2.2 w.heap.size hnem).trans HX7.out.p)
  have HCG := Aside0.mk ((((Chg.of_below HB6.out S).setCell ⟨b, 1, none⟩ (.slice A4 lk.length c4) (.inl HH.out.sb)).drew).turned hte (.inl HH.out.sm))
  unfold encP at hes
  obtain ⟨⟨u0, u1, u2, u3⟩, u4, u5, u6, u7⟩ := HX6.out.facts
  obtain ⟨⟨s0, s1, s2, s3⟩, s4, s5, s6, s7⟩ := HX7.out.facts
  obtain ⟨⟨t0, t1, t2, t3⟩, _⟩ := four HPM.out
  obtain ⟨x0, x1, x2, x3⟩ := H5.out.cells
  have z1 := H5.out.free.2.1
  have x2' : (W5.setCell ⟨b, 1, none⟩ (.slice A4 lk.length c4)).cell? ⟨b, 2, none⟩ = some (.map (some m)) := H6.out.cells.2.2.1
  clear u4 u6 u7 s4 s6 s7 x0 x3 hown htm hte hneb hneb1 hnem
  go_region
  go_wp2
  go_ret2
  exact ⟨rfl, _, _, _, _, _, _, _, H7.out, Nat.le_refl _, fun h => absurd rfl h, fun k hk => hk.out, HCG.out⟩
end
end Go.Proofs.Ytolpcfjmhimpeaa.HS

/- site.end: a Vote. -/

namespace Go.Proofs.Ytolpcfjmhimpeaa.HS
open Go.RowKit Go.Proofs.YtolpcfjmhimpeaaW.PrintWords Go.Proofs.YtolpcfjmhimpeaaW.PrintLast Go.Proofs.YtolpcfjmhimpeaaW.PrintMore Go.Proofs.Ytolpcfjmhimpeaa.P
open Go.Maps (Keyed)
open Go.ChangeMaps Go.MapKept
set_option linter.unusedVariables false
set_option linter.unusedSimpArgs false

section
variable {w W : World} {S : Nat → Prop} {b m n : Nat} {st : PSite} {vl vk vg : Value} {D : DataW Value}
def putE (l d : List S73) : Int := if HD.lright l = true ∧ d.any HD.wideB = false then 0 else 2
theorem putP_is (l d : List S73) : some (if HD.lright l = true ∧ d.any HD.wideB = false then (HD.putL l d, (0 : Int)) else (l, 2)) = some (putP l d, putE l d) := by
  unfold putP putE
  split <;> rfl

set_option maxRecDepth 100000 in
set_option maxHeartbeats 16000000 in
theorem end_vote_bad (h : SiteAt w S b st vl vk vg m n D) (ps : Int) (vp : Value) (pa : List S73) (pl : Bool) (po tx key nn : Int) (hp : Kd.R k73 73 w 0 S vp pa) (hpa : pa.length ≤ 1000000000) (hc : (voteP ⟨ps, pa, pl, po⟩ (nn != 0)).2 ≠ 0) :
    Calls Try.prog 38 #[.pointer (some ⟨b, 0, none⟩), .agg #[.int .i64 ps, vp, .bool pl, .int .i64 po], .agg #[.int .i64 4, .int .i64 tx, .int .u8 key, .int .i64 nn]] w fun e w' =>
      e = .returned (.int .i64 (voteP ⟨ps, pa, pl, po⟩ (nn != 0)).2) ∧ Next w S b n (voteP ⟨ps, pa, pl, po⟩ (nn != 0)).2 st w' := by
  obtain ⟨A2, c2, rfl⟩ := Kd.R_slice hp
  have HB := Aside0.mk (w2_below w ps (.slice A2 pa.length c2) pl po 4 tx key nn)
  have HPR := Aside0.mk (fun (W : World) (hb : Below w.heap.size w W) => Kd.C_below (Kd.R_reads' hp).2.2 hb)
  have HA := Aside0.mk (fun (W : World) (hb : Below w.heap.size w W) => part_Vote.calls ps A2 c2 pa pl po (nn != 0) (voteP ⟨ps, pa, pl, po⟩ (nn != 0)).1.st (voteP ⟨ps, pa, pl, po⟩ (nn != 0)).1.adds (voteP ⟨ps, pa, pl, po⟩ (nn != 0)).1.loc (voteP ⟨ps, pa, pl, po⟩ (nn != 0)).1.out (voteP ⟨ps, pa, pl, po⟩ (nn != 0)).2 W (HPR.out W hb) (Kd.R_reads' hp).2.1 (vote_is ⟨ps, pa, pl, po⟩ (nn != 0) hpa))
  have HH := Aside0.mk h
  have HX := Aside0.mk (Bx.start w ps (.slice A2 pa.length c2) pl po 4 tx key nn)
  generalize voteP ⟨ps, pa, pl, po⟩ (nn != 0) = ap at HA hc ⊢
  obtain ⟨p', cd⟩ := ap
  have q1 : (cd != 0) = true := by simpa using hc
  clear h hp hpa hc HPR
  obtain ⟨⟨u0, u1, u2, u3⟩, u4, u5, u6, u7⟩ := HX.out.facts
  go_enter Try.func38, Try.ntmps38
  go_wp2_with (go_at_call 48; with_reducible refine (HA.out _ HB.out).mono ?_; rintro e w4 ⟨v', rfl, hv, hb⟩; obtain ⟨A6, c6, rfl⟩ := Kd.R_slice hv; have HV4 := Aside0.mk (Kd.R_mono hv (fun _ _ => trivial) : Kd.R k73 73 _ _ (fun _ => True) _ _); have HX5 := Aside0.mk (HX.out.below hb); have HBW := Aside0.mk (H.bt HB.out hb); obtain ⟨⟨s0, s1, s2, s3⟩, s4, s5, s6, s7⟩ := HX5.out.facts; have z0 := (four HX5.out.p).2.1; have z1 := (four HX5.out.p).2.2.1; have z2 := (four HX5.out.p).2.2.2.1; have z3 := (four HX5.out.p).2.2.2.2; clear hv hb u0 u1 u2 u3 u4 u5 u6 u7)
  go_ret
  exact ⟨rfl, Next.same HH.out (w5_below HBW.out)⟩

set_option maxRecDepth 100000 in
set_option maxHeartbeats 16000000 in
theorem end_vote_yes (h : SiteAt w S b st vl vk vg m n D) (ps : Int) (vp : Value) (pa : List S73) (pl : Bool) (po tx key nn : Int) (hp : Kd.R k73 73 w 0 S vp pa) (hpa : pa.length ≤ 1000000000) (hc : (voteP ⟨ps, pa, pl, po⟩ (nn != 0)).2 = 0) (ht : (litI tx).wf = true) (hn : n < maxLen) (hled : st.led.length ≤ 1000000000) (hlk : st.locks.length ≤ 1000000000) (hst : (voteP ⟨ps, pa, pl, po⟩ (nn != 0)).1.st ≠ 2) :
    Calls Try.prog 38 #[.pointer (some ⟨b, 0, none⟩), .agg #[.int .i64 ps, vp, .bool pl, .int .i64 po], .agg #[.int .i64 4, .int .i64 tx, .int .u8 key, .int .i64 nn]] w fun e w' =>
      e = .returned (.int .i64 0) ∧ Next w S b n 0 { st with parts := upd st.parts tx (voteP ⟨ps, pa, pl, po⟩ (nn != 0)).1, led := putP st.led [], locks := st.locks } w' := by
  obtain ⟨A2, c2, rfl⟩ := Kd.R_slice hp
  have HB := Aside0.mk (w2_below w ps (.slice A2 pa.length c2) pl po 4 tx key nn)
  have HPR := Aside0.mk (fun (W : World) (hb : Below w.heap.size w W) => Kd.C_below (Kd.R_reads' hp).2.2 hb)
  have HA := Aside0.mk (fun (W : World) (hb : Below w.heap.size w W) => part_Vote.calls ps A2 c2 pa pl po (nn != 0) (voteP ⟨ps, pa, pl, po⟩ (nn != 0)).1.st (voteP ⟨ps, pa, pl, po⟩ (nn != 0)).1.adds (voteP ⟨ps, pa, pl, po⟩ (nn != 0)).1.loc (voteP ⟨ps, pa, pl, po⟩ (nn != 0)).1.out (voteP ⟨ps, pa, pl, po⟩ (nn != 0)).2 W (HPR.out W hb) (Kd.R_reads' hp).2.1 (vote_is ⟨ps, pa, pl, po⟩ (nn != 0) hpa))
  have HH := Aside0.mk h
  have HX := Aside0.mk (Bx.start w ps (.slice A2 pa.length c2) pl po 4 tx key nn)
  generalize voteP ⟨ps, pa, pl, po⟩ (nn != 0) = ap at HA hc hst ⊢
  obtain ⟨p', cd⟩ := ap
  obtain rfl : cd = 0 := hc
  have HNT := Aside0.mk ht
  have HNN := Aside0.mk hn
  have HLE := Aside0.mk hled
  have HLK := Aside0.mk hlk
  have q5 : (p'.st == 2) = false := by simpa using hst
  clear h hp hpa ht hn HPR hled hlk hst
  obtain ⟨⟨u0, u1, u2, u3⟩, u4, u5, u6, u7⟩ := HX.out.facts
  go_enter Try.func38, Try.ntmps38
  go_wp2_with (go_at_call 48; with_reducible refine (HA.out _ HB.out).mono ?_; rintro e w4 ⟨v', rfl, hv, hb⟩; obtain ⟨A6, c6, rfl⟩ := Kd.R_slice hv; have HV4 := Aside0.mk (Kd.R_mono hv (fun _ _ => trivial) : Kd.R k73 73 _ _ (fun _ => True) _ _); have HX5 := Aside0.mk (HX.out.below hb); have HBW := Aside0.mk (H.bt HB.out hb); obtain ⟨⟨s0, s1, s2, s3⟩, s4, s5, s6, s7⟩ := HX5.out.facts; have z0 := (four HX5.out.p).2.1; have z1 := (four HX5.out.p).2.2.1; have z2 := (four HX5.out.p).2.2.2.1; have z3 := (four HX5.out.p).2.2.2.2; clear hv hb u0 u1 u2 u3 u4 u5 u6 u7)
  obtain ⟨W5, hW5⟩ : ∃ W5, w5 w w4 p' (.slice A6 p'.adds.length c6) = W5 := ⟨_, rfl⟩
  have HB6 := Aside0.mk (w5_below (p := p') (v := .slice A6 p'.adds.length c6) HBW.out)
  have HX6 := Aside0.mk (w5_bx (p := p') (v := .slice A6 p'.adds.length c6) HX5.out)
  have hbase : w.heap.size < (w2 w ps (.slice A2 pa.length c2) pl po 4 tx key nn).heap.size := by rw [w2_size]; omega
  have HVD := Aside0.mk (w5_D (p := p') (v := .slice A6 p'.adds.length c6) (w := w) HV4.out hbase)
  have HBS := Aside0.mk hbase
  rw [hW5] at HB6 HX6 HVD 
  unfold w5 at hW5
  rw [hW5]
  clear hW5 s0 s1 s2 s3 s4 s5 s6 s7 z0 z1 z2 z3 HA hbase
  have H5 := Aside0.mk ((HH.out.below HB6.out).widen w)
  have HR2 := Aside0.mk (new_row (w := w) (S := S) HVD.out (Nat.le_of_lt HBS.out))
  have H6 := Aside0.mk (H5.out.below (below_drew (Below.refl _ _)))
  obtain ⟨Wu, hup, hown, htu⟩ := H6.out.map.store (Maps.int_keyed Try.underlying3) Try.underlying52 HNN.out (keyI HNT.out) (val := encP p' (.slice A6 p'.adds.length c6)) (d := .held (encP p' (.slice A6 p'.adds.length c6))) (ps := []) rfl
  have H7 := Aside0.mk (H6.out.setPart HNT.out ((Maps.int_keyed Try.underlying3).key (keyI HNT.out)) (Kd.R_drew HR2.out) hown htu)
  have hneb : w.heap.size ≠ b := fun e => by have := HH.out.bound b HH.out.sb; omega
  have hneb1 : w.heap.size + 1 ≠ b := fun e => by have := HH.out.bound b HH.out.sb; omega
  have hnem : w.heap.size ≠ m := fun e => by have := HH.out.bound m HH.out.sm; omega
  have hnem1 : w.heap.size + 1 ≠ m := fun e => by have := HH.out.bound m HH.out.sm; omega
  have HXU := Aside0.mk (Bx.mk (((below_turned htu).2.2 w.heap.size hnem).trans HX6.out.p) (((below_turned htu).2.2 (w.heap.size + 1) hnem1).trans HX6.out.r))
  have HCU := Aside0.mk (((Chg.of_below HB6.out S).drew).turned htu (.inl HH.out.sm))
  have HSU : Aside0 (w.heap.size + 2 ≤ Wu.heap.size) := ⟨by have h1 := (below_turned htu).2.1; have h2 := HX6.out.r; have h3 := (Array.getElem?_eq_some_iff.1 h2).1; have h4 : W5.heap.size ≤ Wu.heap.size := h1; omega⟩
  unfold encP at hup
  obtain ⟨A5, c5, rfl⟩ := Kd.R_slice H7.out.led
  obtain ⟨A3, c3, rfl⟩ := Kd.R_slice H7.out.locks
  have HPT := Aside0.mk (HD.put_calls A5 c5 st.led none 0 []  (putP st.led []) (putE st.led []) Wu (Kd.R_reads' H7.out.led).2.2 (Kd.R_reads' H7.out.led).2.1 (Kd.C_nil _ _) (Nat.le_refl _) (by unfold HD.putF; rw [if_pos (by have := HLE.out; simp; omega)]; exact putP_is _ _))
  rw [show ([] : List S73).length = 0 from rfl] at HPT
  obtain ⟨⟨u0, u1, u2, u3⟩, u4, u5, u6, u7⟩ := HX6.out.facts
  obtain ⟨x0, x1, x2, x3⟩ := H5.out.cells
  clear u6 u7 x0 x1 x3 hown htu
  go_region
  obtain ⟨y0, y1, y2, y3⟩ := H7.out.cells
  clear u0 u1 u2 u3 u4 u5 x2 hup y1 y2 y3
  go_wp2_with (go_at_call 51; with_reducible refine (HPT.out).mono ?_; rintro e w7 ⟨v7, rfl, hv, hb⟩; obtain ⟨A8, c8, rfl⟩ := Kd.R_slice hv; have HV7 := Aside0.mk hv; have HB7 := Aside0.mk hb; have hc7 := (H7.out.below hb).cells.1; have hf7 := (H7.out.below hb).free.1; have HX7 := Aside0.mk (Bx.mk (blk_other (HXU.out.below hb).p hneb 0 (.slice A8 (putP st.led []).length c8)) (blk_other (HXU.out.below hb).r hneb1 0 (.slice A8 (putP st.led []).length c8))); obtain ⟨⟨s0, s1, s2, s3⟩, s4, s5, s6, s7⟩ := HX7.out.facts; clear hv hb s1 s2 s3 s6 s7)
  have HR7 := Aside0.mk (new_row (w := w) (S := Wide w W5 S) HV7.out (by have := HSU.out; omega))
  have H8 := Aside0.mk (((H7.out.below HB7.out).widen w).setLed HR7.out)
  have HC8 := Aside0.mk ((HCU.out.step HB7.out).setCell ⟨b, 0, none⟩ (.slice A8 (putP st.led []).length c8) (.inl HH.out.sb))
  go_ret
  exact ⟨rfl, _, _, _, _, _, _, _, H8.out, Nat.le_refl _, fun h => absurd rfl h, fun k hk => hk.elim (fun h => h.out) (fun h => .inr h.1), HC8.out⟩

set_option maxRecDepth 100000 in
set_option maxHeartbeats 16000000 in
theorem end_vote_no (h : SiteAt w S b st vl vk vg m n D) (ps : Int) (vp : Value) (pa : List S73) (pl : Bool) (po tx key nn : Int) (hp : Kd.R k73 73 w 0 S vp pa) (hpa : pa.length ≤ 1000000000) (hc : (voteP ⟨ps, pa, pl, po⟩ (nn != 0)).2 = 0) (ht : (litI tx).wf = true) (hn : n < maxLen) (hled : st.led.length ≤ 1000000000) (hlk : st.locks.length ≤ 1000000000) (hst : (voteP ⟨ps, pa, pl, po⟩ (nn != 0)).1.st = 2) :
    Calls Try.prog 38 #[.pointer (some ⟨b, 0, none⟩), .agg #[.int .i64 ps, vp, .bool pl, .int .i64 po], .agg #[.int .i64 4, .int .i64 tx, .int .u8 key, .int .i64 nn]] w fun e w' =>
      e = .returned (.int .i64 0) ∧ Next w S b n 0 { st with parts := upd st.parts tx (voteP ⟨ps, pa, pl, po⟩ (nn != 0)).1, led := putP st.led [], locks := freeP st.locks tx } w' := by
  obtain ⟨A2, c2, rfl⟩ := Kd.R_slice hp
  have HB := Aside0.mk (w2_below w ps (.slice A2 pa.length c2) pl po 4 tx key nn)
  have HPR := Aside0.mk (fun (W : World) (hb : Below w.heap.size w W) => Kd.C_below (Kd.R_reads' hp).2.2 hb)
  have HA := Aside0.mk (fun (W : World) (hb : Below w.heap.size w W) => part_Vote.calls ps A2 c2 pa pl po (nn != 0) (voteP ⟨ps, pa, pl, po⟩ (nn != 0)).1.st (voteP ⟨ps, pa, pl, po⟩ (nn != 0)).1.adds (voteP ⟨ps, pa, pl, po⟩ (nn != 0)).1.loc (voteP ⟨ps, pa, pl, po⟩ (nn != 0)).1.out (voteP ⟨ps, pa, pl, po⟩ (nn != 0)).2 W (HPR.out W hb) (Kd.R_reads' hp).2.1 (vote_is ⟨ps, pa, pl, po⟩ (nn != 0) hpa))
  have HH := Aside0.mk h
  have HX := Aside0.mk (Bx.start w ps (.slice A2 pa.length c2) pl po 4 tx key nn)
  generalize voteP ⟨ps, pa, pl, po⟩ (nn != 0) = ap at HA hc hst ⊢
  obtain ⟨p', cd⟩ := ap
  obtain rfl : cd = 0 := hc
  have HNT := Aside0.mk ht
  have HNN := Aside0.mk hn
  have HLE := Aside0.mk hled
  have HLK := Aside0.mk hlk
  have q5 : (p'.st == 2) = true := by simpa using hst
  clear h hp hpa ht hn HPR hled hlk hst
  obtain ⟨⟨u0, u1, u2, u3⟩, u4, u5, u6, u7⟩ := HX.out.facts
  go_enter Try.func38, Try.ntmps38
  go_wp2_with (go_at_call 48; with_reducible refine (HA.out _ HB.out).mono ?_; rintro e w4 ⟨v', rfl, hv, hb⟩; obtain ⟨A6, c6, rfl⟩ := Kd.R_slice hv; have HV4 := Aside0.mk (Kd.R_mono hv (fun _ _ => trivial) : Kd.R k73 73 _ _ (fun _ => True) _ _); have HX5 := Aside0.mk (HX.out.below hb); have HBW := Aside0.mk (H.bt HB.out hb); obtain ⟨⟨s0, s1, s2, s3⟩, s4, s5, s6, s7⟩ := HX5.out.facts; have z0 := (four HX5.out.p).2.1; have z1 := (four HX5.out.p).2.2.1; have z2 := (four HX5.out.p).2.2.2.1; have z3 := (four HX5.out.p).2.2.2.2; clear hv hb u0 u1 u2 u3 u4 u5 u6 u7)
  obtain ⟨W5, hW5⟩ : ∃ W5, w5 w w4 p' (.slice A6 p'.adds.length c6) = W5 := ⟨_, rfl⟩
  have HB6 := Aside0.mk (w5_below (p := p') (v := .slice A6 p'.adds.length c6) HBW.out)
  have HX6 := Aside0.mk (w5_bx (p := p') (v := .slice A6 p'.adds.length c6) HX5.out)
  have hbase : w.heap.size < (w2 w ps (.slice A2 pa.length c2) pl po 4 tx key nn).heap.size := by rw [w2_size]; omega
  have HVD := Aside0.mk (w5_D (p := p') (v := .slice A6 p'.adds.length c6) (w := w) HV4.out hbase)
  have HBS := Aside0.mk hbase
  rw [hW5] at HB6 HX6 HVD 
  unfold w5 at hW5
  rw [hW5]
  clear hW5 s0 s1 s2 s3 s4 s5 s6 s7 z0 z1 z2 z3 HA hbase
  have H5 := Aside0.mk ((HH.out.below HB6.out).widen w)
  have HR2 := Aside0.mk (new_row (w := w) (S := S) HVD.out (Nat.le_of_lt HBS.out))
  have H6 := Aside0.mk (H5.out.below (below_drew (Below.refl _ _)))
  obtain ⟨Wu, hup, hown, htu⟩ := H6.out.map.store (Maps.int_keyed Try.underlying3) Try.underlying52 HNN.out (keyI HNT.out) (val := encP p' (.slice A6 p'.adds.length c6)) (d := .held (encP p' (.slice A6 p'.adds.length c6))) (ps := []) rfl
  have H7 := Aside0.mk (H6.out.setPart HNT.out ((Maps.int_keyed Try.underlying3).key (keyI HNT.out)) (Kd.R_drew HR2.out) hown htu)
  have hneb : w.heap.size ≠ b := fun e => by have := HH.out.bound b HH.out.sb; omega
  have hneb1 : w.heap.size + 1 ≠ b := fun e => by have := HH.out.bound b HH.out.sb; omega
  have hnem : w.heap.size ≠ m := fun e => by have := HH.out.bound m HH.out.sm; omega
  have hnem1 : w.heap.size + 1 ≠ m := fun e => by have := HH.out.bound m HH.out.sm; omega
  have HXU := Aside0.mk (Bx.mk (((below_turned htu).2.2 w.heap.size hnem).trans HX6.out.p) (((below_turned htu).2.2 (w.heap.size + 1) hnem1).trans HX6.out.r))
  have HCU := Aside0.mk (((Chg.of_below HB6.out S).drew).turned htu (.inl HH.out.sm))
  have HSU : Aside0 (w.heap.size + 2 ≤ Wu.heap.size) := ⟨by have h1 := (below_turned htu).2.1; have h2 := HX6.out.r; have h3 := (Array.getElem?_eq_some_iff.1 h2).1; have h4 : W5.heap.size ≤ Wu.heap.size := h1; omega⟩
  unfold encP at hup
  obtain ⟨A5, c5, rfl⟩ := Kd.R_slice H7.out.led
  obtain ⟨A3, c3, rfl⟩ := Kd.R_slice H7.out.locks
  have HPT := Aside0.mk (HD.put_calls A5 c5 st.led none 0 []  (putP st.led []) (putE st.led []) Wu (Kd.R_reads' H7.out.led).2.2 (Kd.R_reads' H7.out.led).2.1 (Kd.C_nil _ _) (Nat.le_refl _) (by unfold HD.putF; rw [if_pos (by have := HLE.out; simp; omega)]; exact putP_is _ _))
  rw [show ([] : List S73).length = 0 from rfl] at HPT
  obtain ⟨⟨u0, u1, u2, u3⟩, u4, u5, u6, u7⟩ := HX6.out.facts
  obtain ⟨x0, x1, x2, x3⟩ := H5.out.cells
  clear u6 u7 x0 x1 x3 hown htu
  go_region
  obtain ⟨y0, y1, y2, y3⟩ := H7.out.cells
  clear u0 u1 u2 u3 u4 u5 x2 hup y1 y2 y3
  go_wp2_with (go_at_call 51; with_reducible refine (HPT.out).mono ?_; rintro e w7 ⟨v7, rfl, hv, hb⟩; obtain ⟨A8, c8, rfl⟩ := Kd.R_slice hv; have HV7 := Aside0.mk hv; have HB7 := Aside0.mk hb; have hc7 := (H7.out.below hb).cells.1; have hf7 := (H7.out.below hb).free.1; have HX7 := Aside0.mk (Bx.mk (blk_other (HXU.out.below hb).p hneb 0 (.slice A8 (putP st.led []).length c8)) (blk_other (HXU.out.below hb).r hneb1 0 (.slice A8 (putP st.led []).length c8))); obtain ⟨⟨s0, s1, s2, s3⟩, s4, s5, s6, s7⟩ := HX7.out.facts; clear hv hb s1 s2 s3 s6 s7)
  have HR7 := Aside0.mk (new_row (w := w) (S := Wide w W5 S) HV7.out (by have := HSU.out; omega))
  have H8 := Aside0.mk (((H7.out.below HB7.out).widen w).setLed HR7.out)
  have HC8 := Aside0.mk ((HCU.out.step HB7.out).setCell ⟨b, 0, none⟩ (.slice A8 (putP st.led []).length c8) (.inl HH.out.sb))
  have HFR := Aside0.mk (fun (W : World) (hb : Below (w7.setCell ⟨b, 0, none⟩ (.slice A8 (putP st.led []).length c8)).heap.size (w7.setCell ⟨b, 0, none⟩ (.slice A8 (putP st.led []).length c8)) W) =>
    H.free_calls A3 c3 st.locks tx (freeP st.locks tx) W (Kd.C_below (Kd.R_reads' H8.out.locks).2.2 hb) (Kd.R_reads' H8.out.locks).2.1 (by unfold H.freeF; rw [if_pos (by have := HLK.out; omega)]; rfl))
  obtain ⟨y0, y1, y2, y3⟩ := H8.out.cells
  clear y0 y2 y3 HPT
  go_region_law ((go_simp; go_at_call 52; with_reducible refine (HFR.out _ (below_drew (Below.refl _ _))).mono ?_; rintro e w8 ⟨v8, rfl, hv, hb⟩; obtain ⟨A9, c9, rfl⟩ := Kd.R_slice hv; have HV8 := Aside0.mk hv; have HB8 := Aside0.mk (H.bt (below_drew (Below.refl _ _)) hb); have hc8 := (H8.out.below HB8.out).cells.2.1; have hf8 := (H8.out.below HB8.out).free.2.1; clear hv hb))
  all_goals
    have HR8 := Aside0.mk (new_row (w := w) (S := Wide w w7 (Wide w W5 S)) HV8.out (by show w.heap.size ≤ (w7.setCell ⟨b, 0, none⟩ (.slice A8 (putP st.led []).length c8)).heap.size; have := HSU.out; have := HB7.out.size; simp; omega))
    have H9 := Aside0.mk (((H8.out.below HB8.out).widen w).setLocks HR8.out)
    have HC9 := Aside0.mk ((HC8.out.step HB8.out).setCell ⟨b, 1, none⟩ (.slice A9 (freeP st.locks tx).length c9) (.inl HH.out.sb))
    go_wp2
    go_ret
    exact ⟨rfl, _, _, _, _, _, _, _, H9.out, Nat.le_refl _, fun h => absurd rfl h, fun k hk => hk.elim (fun h => h.elim (fun h => h.out) (fun h => .inr h.1)) (fun h => .inr h.1), HC9.out⟩
end
end Go.Proofs.Ytolpcfjmhimpeaa.HS

/- site.end: a Local. -/

namespace Go.Proofs.Ytolpcfjmhimpeaa.HS
open Go.RowKit Go.Proofs.YtolpcfjmhimpeaaW.PrintWords Go.Proofs.YtolpcfjmhimpeaaW.PrintLast Go.Proofs.YtolpcfjmhimpeaaW.PrintMore Go.Proofs.Ytolpcfjmhimpeaa.P
open Go.Maps (Keyed)
open Go.ChangeMaps Go.MapKept
set_option linter.unusedVariables false
set_option linter.unusedSimpArgs false

section
variable {w W : World} {S : Nat → Prop} {b m n : Nat} {st : PSite} {vl vk vg : Value} {D : DataW Value}

set_option maxRecDepth 100000 in
set_option maxHeartbeats 16000000 in
theorem end_local_bad (h : SiteAt w S b st vl vk vg m n D) (ps : Int) (vp : Value) (pa : List S73) (pl : Bool) (po tx key nn : Int) (hp : Kd.R k73 73 w 0 S vp pa) (hpa : pa.length ≤ 1000000000) (hc : (localP ⟨ps, pa, pl, po⟩).2.2 ≠ 0) :
    Calls Try.prog 38 #[.pointer (some ⟨b, 0, none⟩), .agg #[.int .i64 ps, vp, .bool pl, .int .i64 po], .agg #[.int .i64 5, .int .i64 tx, .int .u8 key, .int .i64 nn]] w fun e w' =>
      e = .returned (.int .i64 (localP ⟨ps, pa, pl, po⟩).2.2) ∧ Next w S b n (localP ⟨ps, pa, pl, po⟩).2.2 st w' := by
  obtain ⟨A2, c2, rfl⟩ := Kd.R_slice hp
  have HB := Aside0.mk (w2_below w ps (.slice A2 pa.length c2) pl po 5 tx key nn)
  have HPR := Aside0.mk (fun (W : World) (hb : Below w.heap.size w W) => Kd.C_below (Kd.R_reads' hp).2.2 hb)
  have HA := Aside0.mk (fun (W : World) (hb : Below w.heap.size w W) => part_Local.calls ps A2 c2 pa pl po (localP ⟨ps, pa, pl, po⟩).1.st (localP ⟨ps, pa, pl, po⟩).1.adds (localP ⟨ps, pa, pl, po⟩).1.loc (localP ⟨ps, pa, pl, po⟩).1.out (localP ⟨ps, pa, pl, po⟩).2.1 (localP ⟨ps, pa, pl, po⟩).2.2 W (HPR.out W hb) (Kd.R_reads' hp).2.1 (local_is ⟨ps, pa, pl, po⟩ hpa))
  have HH := Aside0.mk h
  have HX := Aside0.mk (Bx.start w ps (.slice A2 pa.length c2) pl po 5 tx key nn)
  generalize localP ⟨ps, pa, pl, po⟩ = ap at HA hc ⊢
  obtain ⟨p', dl, cd⟩ := ap
  have q1 : (cd != 0) = true := by simpa using hc
  clear h hp hpa hc HPR
  obtain ⟨⟨u0, u1, u2, u3⟩, u4, u5, u6, u7⟩ := HX.out.facts
  go_enter Try.func38, Try.ntmps38
  go_wp2_with (go_at_call 49; with_reducible refine (HA.out _ HB.out).mono ?_; rintro e w4 ⟨v', vd, rfl, hv, hvd, hb⟩; obtain ⟨A6, c6, rfl⟩ := Kd.R_slice hv; obtain ⟨A7, c7, rfl⟩ := Kd.R_slice hvd; have HVQ := Aside0.mk (Kd.R_mono hvd (fun _ _ => trivial) : Kd.R k73 73 _ _ (fun _ => True) _ _); clear hvd; have HV4 := Aside0.mk (Kd.R_mono hv (fun _ _ => trivial) : Kd.R k73 73 _ _ (fun _ => True) _ _); have HX5 := Aside0.mk (HX.out.below hb); have HBW := Aside0.mk (H.bt HB.out hb); obtain ⟨⟨s0, s1, s2, s3⟩, s4, s5, s6, s7⟩ := HX5.out.facts; have z0 := (four HX5.out.p).2.1; have z1 := (four HX5.out.p).2.2.1; have z2 := (four HX5.out.p).2.2.2.1; have z3 := (four HX5.out.p).2.2.2.2; clear hv hb u0 u1 u2 u3 u4 u5 u6 u7)
  go_ret
  exact ⟨rfl, Next.same HH.out (w5_below HBW.out)⟩

set_option maxRecDepth 100000 in
set_option maxHeartbeats 16000000 in
theorem end_local_ok (h : SiteAt w S b st vl vk vg m n D) (ps : Int) (vp : Value) (pa : List S73) (pl : Bool) (po tx key nn : Int) (hp : Kd.R k73 73 w 0 S vp pa) (hpa : pa.length ≤ 1000000000) (hc : (localP ⟨ps, pa, pl, po⟩).2.2 = 0) (ht : (litI tx).wf = true) (hn : n < maxLen) (hled : st.led.length ≤ 1000000000) (hlk : st.locks.length ≤ 1000000000) (hd : (localP ⟨ps, pa, pl, po⟩).2.1.length ≤ 1000000000) :
    Calls Try.prog 38 #[.pointer (some ⟨b, 0, none⟩), .agg #[.int .i64 ps, vp, .bool pl, .int .i64 po], .agg #[.int .i64 5, .int .i64 tx, .int .u8 key, .int .i64 nn]] w fun e w' =>
      e = .returned (.int .i64 0) ∧ Next w S b n 0 { st with parts := upd st.parts tx (localP ⟨ps, pa, pl, po⟩).1, led := putP st.led (localP ⟨ps, pa, pl, po⟩).2.1, locks := freeP st.locks tx } w' := by
  obtain ⟨A2, c2, rfl⟩ := Kd.R_slice hp
  have HB := Aside0.mk (w2_below w ps (.slice A2 pa.length c2) pl po 5 tx key nn)
  have HPR := Aside0.mk (fun (W : World) (hb : Below w.heap.size w W) => Kd.C_below (Kd.R_reads' hp).2.2 hb)
  have HA := Aside0.mk (fun (W : World) (hb : Below w.heap.size w W) => part_Local.calls ps A2 c2 pa pl po (localP ⟨ps, pa, pl, po⟩).1.st (localP ⟨ps, pa, pl, po⟩).1.adds (localP ⟨ps, pa, pl, po⟩).1.loc (localP ⟨ps, pa, pl, po⟩).1.out (localP ⟨ps, pa, pl, po⟩).2.1 (localP ⟨ps, pa, pl, po⟩).2.2 W (HPR.out W hb) (Kd.R_reads' hp).2.1 (local_is ⟨ps, pa, pl, po⟩ hpa))
  have HH := Aside0.mk h
  have HX := Aside0.mk (Bx.start w ps (.slice A2 pa.length c2) pl po 5 tx key nn)
  generalize localP ⟨ps, pa, pl, po⟩ = ap at HA hc hd ⊢
  obtain ⟨p', dl, cd⟩ := ap
  obtain rfl : cd = 0 := hc
  have HNT := Aside0.mk ht
  have HNN := Aside0.mk hn
  have HLE := Aside0.mk hled
  have HLK := Aside0.mk hlk
  have HDL := Aside0.mk hd
  clear h hp hpa ht hn HPR hled hlk hd
  obtain ⟨⟨u0, u1, u2, u3⟩, u4, u5, u6, u7⟩ := HX.out.facts
  go_enter Try.func38, Try.ntmps38
  go_wp2_with (go_at_call 49; with_reducible refine (HA.out _ HB.out).mono ?_; rintro e w4 ⟨v', vd, rfl, hv, hvd, hb⟩; obtain ⟨A6, c6, rfl⟩ := Kd.R_slice hv; obtain ⟨A7, c7, rfl⟩ := Kd.R_slice hvd; have HVQ := Aside0.mk (Kd.R_mono hvd (fun _ _ => trivial) : Kd.R k73 73 _ _ (fun _ => True) _ _); clear hvd; have HV4 := Aside0.mk (Kd.R_mono hv (fun _ _ => trivial) : Kd.R k73 73 _ _ (fun _ => True) _ _); have HX5 := Aside0.mk (HX.out.below hb); have HBW := Aside0.mk (H.bt HB.out hb); obtain ⟨⟨s0, s1, s2, s3⟩, s4, s5, s6, s7⟩ := HX5.out.facts; have z0 := (four HX5.out.p).2.1; have z1 := (four HX5.out.p).2.2.1; have z2 := (four HX5.out.p).2.2.2.1; have z3 := (four HX5.out.p).2.2.2.2; clear hv hb u0 u1 u2 u3 u4 u5 u6 u7)
  obtain ⟨W5, hW5⟩ : ∃ W5, w5 w w4 p' (.slice A6 p'.adds.length c6) = W5 := ⟨_, rfl⟩
  have HB6 := Aside0.mk (w5_below (p := p') (v := .slice A6 p'.adds.length c6) HBW.out)
  have HX6 := Aside0.mk (w5_bx (p := p') (v := .slice A6 p'.adds.length c6) HX5.out)
  have hbase : w.heap.size < (w2 w ps (.slice A2 pa.length c2) pl po 5 tx key nn).heap.size := by rw [w2_size]; omega
  have HVD := Aside0.mk (w5_D (p := p') (v := .slice A6 p'.adds.length c6) (w := w) HV4.out hbase)
  have HVE := Aside0.mk (w5_D (p := p') (v := .slice A6 p'.adds.length c6) (w := w) HVQ.out hbase)
  have HBS := Aside0.mk hbase
  rw [hW5] at HB6 HX6 HVD HVE
  unfold w5 at hW5
  rw [hW5]
  clear hW5 s0 s1 s2 s3 s4 s5 s6 s7 z0 z1 z2 z3 HA hbase
  have H5 := Aside0.mk ((HH.out.below HB6.out).widen w)
  have HR2 := Aside0.mk (new_row (w := w) (S := S) HVD.out (Nat.le_of_lt HBS.out))
  have H6 := Aside0.mk (H5.out.below (below_drew (Below.refl _ _)))
  obtain ⟨Wu, hup, hown, htu⟩ := H6.out.map.store (Maps.int_keyed Try.underlying3) Try.underlying52 HNN.out (keyI HNT.out) (val := encP p' (.slice A6 p'.adds.length c6)) (d := .held (encP p' (.slice A6 p'.adds.length c6))) (ps := []) rfl
  have H7 := Aside0.mk (H6.out.setPart HNT.out ((Maps.int_keyed Try.underlying3).key (keyI HNT.out)) (Kd.R_drew HR2.out) hown htu)
  have hneb : w.heap.size ≠ b := fun e => by have := HH.out.bound b HH.out.sb; omega
  have hneb1 : w.heap.size + 1 ≠ b := fun e => by have := HH.out.bound b HH.out.sb; omega
  have hnem : w.heap.size ≠ m := fun e => by have := HH.out.bound m HH.out.sm; omega
  have hnem1 : w.heap.size + 1 ≠ m := fun e => by have := HH.out.bound m HH.out.sm; omega
  have HXU := Aside0.mk (Bx.mk (((below_turned htu).2.2 w.heap.size hnem).trans HX6.out.p) (((below_turned htu).2.2 (w.heap.size + 1) hnem1).trans HX6.out.r))
  have HCU := Aside0.mk (((Chg.of_below HB6.out S).drew).turned htu (.inl HH.out.sm))
  have HSU : Aside0 (w.heap.size + 2 ≤ Wu.heap.size) := ⟨by have h1 := (below_turned htu).2.1; have h2 := HX6.out.r; have h3 := (Array.getElem?_eq_some_iff.1 h2).1; have h4 : W5.heap.size ≤ Wu.heap.size := h1; omega⟩
  have HVU := Aside0.mk (row_turned eD (Kd.R_drew (Kd.R_lower HVE.out (Nat.zero_le _))) htu)
  unfold encP at hup
  obtain ⟨A5, c5, rfl⟩ := Kd.R_slice H7.out.led
  obtain ⟨A3, c3, rfl⟩ := Kd.R_slice H7.out.locks
  have HPT := Aside0.mk (HD.put_calls A5 c5 st.led A7 c7 dl  (putP st.led dl) (putE st.led dl) Wu (Kd.R_reads' H7.out.led).2.2 (Kd.R_reads' H7.out.led).2.1 (Kd.R_reads' HVU.out).2.2 (Kd.R_reads' HVU.out).2.1 (by unfold HD.putF; rw [if_pos (by have := HLE.out; have := HDL.out; omega)]; exact putP_is _ _))
  obtain ⟨⟨u0, u1, u2, u3⟩, u4, u5, u6, u7⟩ := HX6.out.facts
  obtain ⟨x0, x1, x2, x3⟩ := H5.out.cells
  clear u6 u7 x0 x1 x3 hown htu
  go_region
  obtain ⟨y0, y1, y2, y3⟩ := H7.out.cells
  clear u0 u1 u2 u3 u4 u5 x2 hup y1 y2 y3
  go_wp2_with (go_at_call 51; with_reducible refine (HPT.out).mono ?_; rintro e w7 ⟨v7, rfl, hv, hb⟩; obtain ⟨A8, c8, rfl⟩ := Kd.R_slice hv; have HV7 := Aside0.mk hv; have HB7 := Aside0.mk hb; have hc7 := (H7.out.below hb).cells.1; have hf7 := (H7.out.below hb).free.1; have HX7 := Aside0.mk (Bx.mk (blk_other (HXU.out.below hb).p hneb 0 (.slice A8 (putP st.led dl).length c8)) (blk_other (HXU.out.below hb).r hneb1 0 (.slice A8 (putP st.led dl).length c8))); obtain ⟨⟨s0, s1, s2, s3⟩, s4, s5, s6, s7⟩ := HX7.out.facts; clear hv hb s1 s2 s3 s6 s7)
  have HR7 := Aside0.mk (new_row (w := w) (S := Wide w W5 S) HV7.out (by have := HSU.out; omega))
  have H8 := Aside0.mk (((H7.out.below HB7.out).widen w).setLed HR7.out)
  have HC8 := Aside0.mk ((HCU.out.step HB7.out).setCell ⟨b, 0, none⟩ (.slice A8 (putP st.led dl).length c8) (.inl HH.out.sb))
  have HFR := Aside0.mk (fun (W : World) (hb : Below (w7.setCell ⟨b, 0, none⟩ (.slice A8 (putP st.led dl).length c8)).heap.size (w7.setCell ⟨b, 0, none⟩ (.slice A8 (putP st.led dl).length c8)) W) =>
    H.free_calls A3 c3 st.locks tx (freeP st.locks tx) W (Kd.C_below (Kd.R_reads' H8.out.locks).2.2 hb) (Kd.R_reads' H8.out.locks).2.1 (by unfold H.freeF; rw [if_pos (by have := HLK.out; omega)]; rfl))
  obtain ⟨y0, y1, y2, y3⟩ := H8.out.cells
  clear y0 y2 y3 HPT
  go_region_law ((go_simp; go_at_call 52; with_reducible refine (HFR.out _ (below_drew (Below.refl _ _))).mono ?_; rintro e w8 ⟨v8, rfl, hv, hb⟩; obtain ⟨A9, c9, rfl⟩ := Kd.R_slice hv; have HV8 := Aside0.mk hv; have HB8 := Aside0.mk (H.bt (below_drew (Below.refl _ _)) hb); have hc8 := (H8.out.below HB8.out).cells.2.1; have hf8 := (H8.out.below HB8.out).free.2.1; clear hv hb))
  all_goals
    have HR8 := Aside0.mk (new_row (w := w) (S := Wide w w7 (Wide w W5 S)) HV8.out (by show w.heap.size ≤ (w7.setCell ⟨b, 0, none⟩ (.slice A8 (putP st.led dl).length c8)).heap.size; have := HSU.out; have := HB7.out.size; simp; omega))
    have H9 := Aside0.mk (((H8.out.below HB8.out).widen w).setLocks HR8.out)
    have HC9 := Aside0.mk ((HC8.out.step HB8.out).setCell ⟨b, 1, none⟩ (.slice A9 (freeP st.locks tx).length c9) (.inl HH.out.sb))
    go_wp2
    go_ret
    exact ⟨rfl, _, _, _, _, _, _, _, H9.out, Nat.le_refl _, fun h => absurd rfl h, fun k hk => hk.elim (fun h => h.elim (fun h => h.out) (fun h => .inr h.1)) (fun h => .inr h.1), HC9.out⟩
end
end Go.Proofs.Ytolpcfjmhimpeaa.HS

/- site.end: a Decide. -/

namespace Go.Proofs.Ytolpcfjmhimpeaa.HS
open Go.RowKit Go.Proofs.YtolpcfjmhimpeaaW.PrintWords Go.Proofs.YtolpcfjmhimpeaaW.PrintLast Go.Proofs.YtolpcfjmhimpeaaW.PrintMore Go.Proofs.Ytolpcfjmhimpeaa.P
open Go.Maps (Keyed)
open Go.ChangeMaps Go.MapKept
set_option linter.unusedVariables false
set_option linter.unusedSimpArgs false

section
variable {w W : World} {S : Nat → Prop} {b m n : Nat} {st : PSite} {vl vk vg : Value} {D : DataW Value}

set_option maxRecDepth 100000 in
set_option maxHeartbeats 16000000 in
theorem end_commit_bad (h : SiteAt w S b st vl vk vg m n D) (ps : Int) (vp : Value) (pa : List S73) (pl : Bool) (po tx key nn : Int) (hp : Kd.R k73 73 w 0 S vp pa) (hpa : pa.length ≤ 1000000000) (hc : (decideP ⟨ps, pa, pl, po⟩ 1).2.2 ≠ 0) :
    Calls Try.prog 38 #[.pointer (some ⟨b, 0, none⟩), .agg #[.int .i64 ps, vp, .bool pl, .int .i64 po], .agg #[.int .i64 6, .int .i64 tx, .int .u8 key, .int .i64 1]] w fun e w' =>
      e = .returned (.int .i64 (decideP ⟨ps, pa, pl, po⟩ 1).2.2) ∧ Next w S b n (decideP ⟨ps, pa, pl, po⟩ 1).2.2 st w' := by
  obtain ⟨A2, c2, rfl⟩ := Kd.R_slice hp
  have HB := Aside0.mk (w2_below w ps (.slice A2 pa.length c2) pl po 6 tx key 1)
  have HPR := Aside0.mk (fun (W : World) (hb : Below w.heap.size w W) => Kd.C_below (Kd.R_reads' hp).2.2 hb)
  have HA := Aside0.mk (fun (W : World) (hb : Below w.heap.size w W) => part_Decide.calls 2 ps A2 c2 pa pl po 1 (decideP ⟨ps, pa, pl, po⟩ 1).1.st (decideP ⟨ps, pa, pl, po⟩ 1).1.adds (decideP ⟨ps, pa, pl, po⟩ 1).1.loc (decideP ⟨ps, pa, pl, po⟩ 1).1.out (decideP ⟨ps, pa, pl, po⟩ 1).2.1 (decideP ⟨ps, pa, pl, po⟩ 1).2.2 W (HPR.out W hb) (Kd.R_reads' hp).2.1 (decide_is ⟨ps, pa, pl, po⟩ 1 hpa))
  have HH := Aside0.mk h
  have HX := Aside0.mk (Bx.start w ps (.slice A2 pa.length c2) pl po 6 tx key 1)
  generalize decideP ⟨ps, pa, pl, po⟩ 1 = ap at HA hc ⊢
  obtain ⟨p', dl, cd⟩ := ap
  have q1 : (cd != 0) = true := by simpa using hc
  clear h hp hpa hc HPR
  obtain ⟨⟨u0, u1, u2, u3⟩, u4, u5, u6, u7⟩ := HX.out.facts
  go_enter Try.func38, Try.ntmps38
  go_wp2_with (go_at_call 50; with_reducible refine (HA.out _ HB.out).mono ?_; rintro e w4 ⟨v', vd, rfl, hv, hvd, hb⟩; obtain ⟨A6, c6, rfl⟩ := Kd.R_slice hv; obtain ⟨A7, c7, rfl⟩ := Kd.R_slice hvd; have HVQ := Aside0.mk (Kd.R_mono hvd (fun _ _ => trivial) : Kd.R k73 73 _ _ (fun _ => True) _ _); clear hvd; have HV4 := Aside0.mk (Kd.R_mono hv (fun _ _ => trivial) : Kd.R k73 73 _ _ (fun _ => True) _ _); have HX5 := Aside0.mk (HX.out.below hb); have HBW := Aside0.mk (H.bt HB.out hb); obtain ⟨⟨s0, s1, s2, s3⟩, s4, s5, s6, s7⟩ := HX5.out.facts; have z0 := (four HX5.out.p).2.1; have z1 := (four HX5.out.p).2.2.1; have z2 := (four HX5.out.p).2.2.2.1; have z3 := (four HX5.out.p).2.2.2.2; clear hv hb u0 u1 u2 u3 u4 u5 u6 u7)
  go_ret
  exact ⟨rfl, Next.same HH.out (w5_below HBW.out)⟩

set_option maxRecDepth 100000 in
set_option maxHeartbeats 16000000 in
theorem end_commit_ok (h : SiteAt w S b st vl vk vg m n D) (ps : Int) (vp : Value) (pa : List S73) (pl : Bool) (po tx key nn : Int) (hp : Kd.R k73 73 w 0 S vp pa) (hpa : pa.length ≤ 1000000000) (hc : (decideP ⟨ps, pa, pl, po⟩ 1).2.2 = 0) (ht : (litI tx).wf = true) (hn : n < maxLen) (hled : st.led.length ≤ 1000000000) (hlk : st.locks.length ≤ 1000000000) (hd : (decideP ⟨ps, pa, pl, po⟩ 1).2.1.length ≤ 1000000000) :
    Calls Try.prog 38 #[.pointer (some ⟨b, 0, none⟩), .agg #[.int .i64 ps, vp, .bool pl, .int .i64 po], .agg #[.int .i64 6, .int .i64 tx, .int .u8 key, .int .i64 1]] w fun e w' =>
      e = .returned (.int .i64 0) ∧ Next w S b n 0 { st with parts := upd st.parts tx (decideP ⟨ps, pa, pl, po⟩ 1).1, led := putP st.led (decideP ⟨ps, pa, pl, po⟩ 1).2.1, locks := freeP st.locks tx } w' := by
  obtain ⟨A2, c2, rfl⟩ := Kd.R_slice hp
  have HB := Aside0.mk (w2_below w ps (.slice A2 pa.length c2) pl po 6 tx key 1)
  have HPR := Aside0.mk (fun (W : World) (hb : Below w.heap.size w W) => Kd.C_below (Kd.R_reads' hp).2.2 hb)
  have HA := Aside0.mk (fun (W : World) (hb : Below w.heap.size w W) => part_Decide.calls 2 ps A2 c2 pa pl po 1 (decideP ⟨ps, pa, pl, po⟩ 1).1.st (decideP ⟨ps, pa, pl, po⟩ 1).1.adds (decideP ⟨ps, pa, pl, po⟩ 1).1.loc (decideP ⟨ps, pa, pl, po⟩ 1).1.out (decideP ⟨ps, pa, pl, po⟩ 1).2.1 (decideP ⟨ps, pa, pl, po⟩ 1).2.2 W (HPR.out W hb) (Kd.R_reads' hp).2.1 (decide_is ⟨ps, pa, pl, po⟩ 1 hpa))
  have HH := Aside0.mk h
  have HX := Aside0.mk (Bx.start w ps (.slice A2 pa.length c2) pl po 6 tx key 1)
  generalize decideP ⟨ps, pa, pl, po⟩ 1 = ap at HA hc hd ⊢
  obtain ⟨p', dl, cd⟩ := ap
  obtain rfl : cd = 0 := hc
  have HNT := Aside0.mk ht
  have HNN := Aside0.mk hn
  have HLE := Aside0.mk hled
  have HLK := Aside0.mk hlk
  have HDL := Aside0.mk hd
  clear h hp hpa ht hn HPR hled hlk hd
  obtain ⟨⟨u0, u1, u2, u3⟩, u4, u5, u6, u7⟩ := HX.out.facts
  go_enter Try.func38, Try.ntmps38
  go_wp2_with (go_at_call 50; with_reducible refine (HA.out _ HB.out).mono ?_; rintro e w4 ⟨v', vd, rfl, hv, hvd, hb⟩; obtain ⟨A6, c6, rfl⟩ := Kd.R_slice hv; obtain ⟨A7, c7, rfl⟩ := Kd.R_slice hvd; have HVQ := Aside0.mk (Kd.R_mono hvd (fun _ _ => trivial) : Kd.R k73 73 _ _ (fun _ => True) _ _); clear hvd; have HV4 := Aside0.mk (Kd.R_mono hv (fun _ _ => trivial) : Kd.R k73 73 _ _ (fun _ => True) _ _); have HX5 := Aside0.mk (HX.out.below hb); have HBW := Aside0.mk (H.bt HB.out hb); obtain ⟨⟨s0, s1, s2, s3⟩, s4, s5, s6, s7⟩ := HX5.out.facts; have z0 := (four HX5.out.p).2.1; have z1 := (four HX5.out.p).2.2.1; have z2 := (four HX5.out.p).2.2.2.1; have z3 := (four HX5.out.p).2.2.2.2; clear hv hb u0 u1 u2 u3 u4 u5 u6 u7)
  obtain ⟨W5, hW5⟩ : ∃ W5, w5 w w4 p' (.slice A6 p'.adds.length c6) = W5 := ⟨_, rfl⟩
  have HB6 := Aside0.mk (w5_below (p := p') (v := .slice A6 p'.adds.length c6) HBW.out)
  have HX6 := Aside0.mk (w5_bx (p := p') (v := .slice A6 p'.adds.length c6) HX5.out)
  have hbase : w.heap.size < (w2 w ps (.slice A2 pa.length c2) pl po 6 tx key 1).heap.size := by rw [w2_size]; omega
  have HVD := Aside0.mk (w5_D (p := p') (v := .slice A6 p'.adds.length c6) (w := w) HV4.out hbase)
  have HVE := Aside0.mk (w5_D (p := p') (v := .slice A6 p'.adds.length c6) (w := w) HVQ.out hbase)
  have HBS := Aside0.mk hbase
  rw [hW5] at HB6 HX6 HVD HVE
  unfold w5 at hW5
  rw [hW5]
  clear hW5 s0 s1 s2 s3 s4 s5 s6 s7 z0 z1 z2 z3 HA hbase
  have H5 := Aside0.mk ((HH.out.below HB6.out).widen w)
  have HR2 := Aside0.mk (new_row (w := w) (S := S) HVD.out (Nat.le_of_lt HBS.out))
  have H6 := Aside0.mk (H5.out.below (below_drew (Below.refl _ _)))
  obtain ⟨Wu, hup, hown, htu⟩ := H6.out.map.store (Maps.int_keyed Try.underlying3) Try.underlying52 HNN.out (keyI HNT.out) (val := encP p' (.slice A6 p'.adds.length c6)) (d := .held (encP p' (.slice A6 p'.adds.length c6))) (ps := []) rfl
  have H7 := Aside0.mk (H6.out.setPart HNT.out ((Maps.int_keyed Try.underlying3).key (keyI HNT.out)) (Kd.R_drew HR2.out) hown htu)
  have hneb : w.heap.size ≠ b := fun e => by have := HH.out.bound b HH.out.sb; omega
  have hneb1 : w.heap.size + 1 ≠ b := fun e => by have := HH.out.bound b HH.out.sb; omega
  have hnem : w.heap.size ≠ m := fun e => by have := HH.out.bound m HH.out.sm; omega
  have hnem1 : w.heap.size + 1 ≠ m := fun e => by have := HH.out.bound m HH.out.sm; omega
  have HXU := Aside0.mk (Bx.mk (((below_turned htu).2.2 w.heap.size hnem).trans HX6.out.p) (((below_turned htu).2.2 (w.heap.size + 1) hnem1).trans HX6.out.r))
  have HCU := Aside0.mk (((Chg.of_below HB6.out S).drew).turned htu (.inl HH.out.sm))
  have HSU : Aside0 (w.heap.size + 2 ≤ Wu.heap.size) := ⟨by have h1 := (below_turned htu).2.1; have h2 := HX6.out.r; have h3 := (Array.getElem?_eq_some_iff.1 h2).1; have h4 : W5.heap.size ≤ Wu.heap.size := h1; omega⟩
  have HVU := Aside0.mk (row_turned eD (Kd.R_drew (Kd.R_lower HVE.out (Nat.zero_le _))) htu)
  unfold encP at hup
  obtain ⟨A5, c5, rfl⟩ := Kd.R_slice H7.out.led
  obtain ⟨A3, c3, rfl⟩ := Kd.R_slice H7.out.locks
  have HPT := Aside0.mk (HD.put_calls A5 c5 st.led A7 c7 dl  (putP st.led dl) (putE st.led dl) Wu (Kd.R_reads' H7.out.led).2.2 (Kd.R_reads' H7.out.led).2.1 (Kd.R_reads' HVU.out).2.2 (Kd.R_reads' HVU.out).2.1 (by unfold HD.putF; rw [if_pos (by have := HLE.out; have := HDL.out; omega)]; exact putP_is _ _))
  obtain ⟨⟨u0, u1, u2, u3⟩, u4, u5, u6, u7⟩ := HX6.out.facts
  obtain ⟨x0, x1, x2, x3⟩ := H5.out.cells
  clear u6 u7 x0 x1 x3 hown htu
  go_region
  obtain ⟨y0, y1, y2, y3⟩ := H7.out.cells
  clear u0 u1 u2 u3 u4 u5 x2 hup y1 y2 y3
  go_wp2_with (go_at_call 51; with_reducible refine (HPT.out).mono ?_; rintro e w7 ⟨v7, rfl, hv, hb⟩; obtain ⟨A8, c8, rfl⟩ := Kd.R_slice hv; have HV7 := Aside0.mk hv; have HB7 := Aside0.mk hb; have hc7 := (H7.out.below hb).cells.1; have hf7 := (H7.out.below hb).free.1; have HX7 := Aside0.mk (Bx.mk (blk_other (HXU.out.below hb).p hneb 0 (.slice A8 (putP st.led dl).length c8)) (blk_other (HXU.out.below hb).r hneb1 0 (.slice A8 (putP st.led dl).length c8))); obtain ⟨⟨s0, s1, s2, s3⟩, s4, s5, s6, s7⟩ := HX7.out.facts; clear hv hb s1 s2 s3 s6 s7)
  have HR7 := Aside0.mk (new_row (w := w) (S := Wide w W5 S) HV7.out (by have := HSU.out; omega))
  have H8 := Aside0.mk (((H7.out.below HB7.out).widen w).setLed HR7.out)
  have HC8 := Aside0.mk ((HCU.out.step HB7.out).setCell ⟨b, 0, none⟩ (.slice A8 (putP st.led dl).length c8) (.inl HH.out.sb))
  have HFR := Aside0.mk (fun (W : World) (hb : Below (w7.setCell ⟨b, 0, none⟩ (.slice A8 (putP st.led dl).length c8)).heap.size (w7.setCell ⟨b, 0, none⟩ (.slice A8 (putP st.led dl).length c8)) W) =>
    H.free_calls A3 c3 st.locks tx (freeP st.locks tx) W (Kd.C_below (Kd.R_reads' H8.out.locks).2.2 hb) (Kd.R_reads' H8.out.locks).2.1 (by unfold H.freeF; rw [if_pos (by have := HLK.out; omega)]; rfl))
  obtain ⟨y0, y1, y2, y3⟩ := H8.out.cells
  clear y0 y2 y3 HPT
  go_region_law ((go_simp; go_at_call 52; with_reducible refine (HFR.out _ (below_drew (Below.refl _ _))).mono ?_; rintro e w8 ⟨v8, rfl, hv, hb⟩; obtain ⟨A9, c9, rfl⟩ := Kd.R_slice hv; have HV8 := Aside0.mk hv; have HB8 := Aside0.mk (H.bt (below_drew (Below.refl _ _)) hb); have hc8 := (H8.out.below HB8.out).cells.2.1; have hf8 := (H8.out.below HB8.out).free.2.1; clear hv hb))
  all_goals
    have HR8 := Aside0.mk (new_row (w := w) (S := Wide w w7 (Wide w W5 S)) HV8.out (by show w.heap.size ≤ (w7.setCell ⟨b, 0, none⟩ (.slice A8 (putP st.led dl).length c8)).heap.size; have := HSU.out; have := HB7.out.size; simp; omega))
    have H9 := Aside0.mk (((H8.out.below HB8.out).widen w).setLocks HR8.out)
    have HC9 := Aside0.mk ((HC8.out.step HB8.out).setCell ⟨b, 1, none⟩ (.slice A9 (freeP st.locks tx).length c9) (.inl HH.out.sb))
    go_wp2
    go_ret
    exact ⟨rfl, _, _, _, _, _, _, _, H9.out, Nat.le_refl _, fun h => absurd rfl h, fun k hk => hk.elim (fun h => h.elim (fun h => h.out) (fun h => .inr h.1)) (fun h => .inr h.1), HC9.out⟩

set_option maxRecDepth 100000 in
set_option maxHeartbeats 16000000 in
theorem end_abort_bad (h : SiteAt w S b st vl vk vg m n D) (ps : Int) (vp : Value) (pa : List S73) (pl : Bool) (po tx key nn : Int) (hp : Kd.R k73 73 w 0 S vp pa) (hpa : pa.length ≤ 1000000000) (hc : (decideP ⟨ps, pa, pl, po⟩ 2).2.2 ≠ 0) :
    Calls Try.prog 38 #[.pointer (some ⟨b, 0, none⟩), .agg #[.int .i64 ps, vp, .bool pl, .int .i64 po], .agg #[.int .i64 6, .int .i64 tx, .int .u8 key, .int .i64 2]] w fun e w' =>
      e = .returned (.int .i64 (decideP ⟨ps, pa, pl, po⟩ 2).2.2) ∧ Next w S b n (decideP ⟨ps, pa, pl, po⟩ 2).2.2 st w' := by
  obtain ⟨A2, c2, rfl⟩ := Kd.R_slice hp
  have HB := Aside0.mk (w2_below w ps (.slice A2 pa.length c2) pl po 6 tx key 2)
  have HPR := Aside0.mk (fun (W : World) (hb : Below w.heap.size w W) => Kd.C_below (Kd.R_reads' hp).2.2 hb)
  have HA := Aside0.mk (fun (W : World) (hb : Below w.heap.size w W) => part_Decide.calls 2 ps A2 c2 pa pl po 2 (decideP ⟨ps, pa, pl, po⟩ 2).1.st (decideP ⟨ps, pa, pl, po⟩ 2).1.adds (decideP ⟨ps, pa, pl, po⟩ 2).1.loc (decideP ⟨ps, pa, pl, po⟩ 2).1.out (decideP ⟨ps, pa, pl, po⟩ 2).2.1 (decideP ⟨ps, pa, pl, po⟩ 2).2.2 W (HPR.out W hb) (Kd.R_reads' hp).2.1 (decide_is ⟨ps, pa, pl, po⟩ 2 hpa))
  have HH := Aside0.mk h
  have HX := Aside0.mk (Bx.start w ps (.slice A2 pa.length c2) pl po 6 tx key 2)
  generalize decideP ⟨ps, pa, pl, po⟩ 2 = ap at HA hc ⊢
  obtain ⟨p', dl, cd⟩ := ap
  have q1 : (cd != 0) = true := by simpa using hc
  clear h hp hpa hc HPR
  obtain ⟨⟨u0, u1, u2, u3⟩, u4, u5, u6, u7⟩ := HX.out.facts
  go_enter Try.func38, Try.ntmps38
  go_wp2_with (go_at_call 50; with_reducible refine (HA.out _ HB.out).mono ?_; rintro e w4 ⟨v', vd, rfl, hv, hvd, hb⟩; obtain ⟨A6, c6, rfl⟩ := Kd.R_slice hv; obtain ⟨A7, c7, rfl⟩ := Kd.R_slice hvd; have HVQ := Aside0.mk (Kd.R_mono hvd (fun _ _ => trivial) : Kd.R k73 73 _ _ (fun _ => True) _ _); clear hvd; have HV4 := Aside0.mk (Kd.R_mono hv (fun _ _ => trivial) : Kd.R k73 73 _ _ (fun _ => True) _ _); have HX5 := Aside0.mk (HX.out.below hb); have HBW := Aside0.mk (H.bt HB.out hb); obtain ⟨⟨s0, s1, s2, s3⟩, s4, s5, s6, s7⟩ := HX5.out.facts; have z0 := (four HX5.out.p).2.1; have z1 := (four HX5.out.p).2.2.1; have z2 := (four HX5.out.p).2.2.2.1; have z3 := (four HX5.out.p).2.2.2.2; clear hv hb u0 u1 u2 u3 u4 u5 u6 u7)
  go_ret
  exact ⟨rfl, Next.same HH.out (w5_below HBW.out)⟩

set_option maxRecDepth 100000 in
set_option maxHeartbeats 16000000 in
theorem end_abort_ok (h : SiteAt w S b st vl vk vg m n D) (ps : Int) (vp : Value) (pa : List S73) (pl : Bool) (po tx key nn : Int) (hp : Kd.R k73 73 w 0 S vp pa) (hpa : pa.length ≤ 1000000000) (hc : (decideP ⟨ps, pa, pl, po⟩ 2).2.2 = 0) (ht : (litI tx).wf = true) (hn : n < maxLen) (hled : st.led.length ≤ 1000000000) (hlk : st.locks.length ≤ 1000000000) (hd : (decideP ⟨ps, pa, pl, po⟩ 2).2.1.length ≤ 1000000000) :
    Calls Try.prog 38 #[.pointer (some ⟨b, 0, none⟩), .agg #[.int .i64 ps, vp, .bool pl, .int .i64 po], .agg #[.int .i64 6, .int .i64 tx, .int .u8 key, .int .i64 2]] w fun e w' =>
      e = .returned (.int .i64 0) ∧ Next w S b n 0 { st with parts := upd st.parts tx (decideP ⟨ps, pa, pl, po⟩ 2).1, led := putP st.led (decideP ⟨ps, pa, pl, po⟩ 2).2.1, locks := freeP st.locks tx } w' := by
  obtain ⟨A2, c2, rfl⟩ := Kd.R_slice hp
  have HB := Aside0.mk (w2_below w ps (.slice A2 pa.length c2) pl po 6 tx key 2)
  have HPR := Aside0.mk (fun (W : World) (hb : Below w.heap.size w W) => Kd.C_below (Kd.R_reads' hp).2.2 hb)
  have HA := Aside0.mk (fun (W : World) (hb : Below w.heap.size w W) => part_Decide.calls 2 ps A2 c2 pa pl po 2 (decideP ⟨ps, pa, pl, po⟩ 2).1.st (decideP ⟨ps, pa, pl, po⟩ 2).1.adds (decideP ⟨ps, pa, pl, po⟩ 2).1.loc (decideP ⟨ps, pa, pl, po⟩ 2).1.out (decideP ⟨ps, pa, pl, po⟩ 2).2.1 (decideP ⟨ps, pa, pl, po⟩ 2).2.2 W (HPR.out W hb) (Kd.R_reads' hp).2.1 (decide_is ⟨ps, pa, pl, po⟩ 2 hpa))
  have HH := Aside0.mk h
  have HX := Aside0.mk (Bx.start w ps (.slice A2 pa.length c2) pl po 6 tx key 2)
  generalize decideP ⟨ps, pa, pl, po⟩ 2 = ap at HA hc hd ⊢
  obtain ⟨p', dl, cd⟩ := ap
  obtain rfl : cd = 0 := hc
  have HNT := Aside0.mk ht
  have HNN := Aside0.mk hn
  have HLE := Aside0.mk hled
  have HLK := Aside0.mk hlk
  have HDL := Aside0.mk hd
  clear h hp hpa ht hn HPR hled hlk hd
  obtain ⟨⟨u0, u1, u2, u3⟩, u4, u5, u6, u7⟩ := HX.out.facts
  go_enter Try.func38, Try.ntmps38
  go_wp2_with (go_at_call 50; with_reducible refine (HA.out _ HB.out).mono ?_; rintro e w4 ⟨v', vd, rfl, hv, hvd, hb⟩; obtain ⟨A6, c6, rfl⟩ := Kd.R_slice hv; obtain ⟨A7, c7, rfl⟩ := Kd.R_slice hvd; have HVQ := Aside0.mk (Kd.R_mono hvd (fun _ _ => trivial) : Kd.R k73 73 _ _ (fun _ => True) _ _); clear hvd; have HV4 := Aside0.mk (Kd.R_mono hv (fun _ _ => trivial) : Kd.R k73 73 _ _ (fun _ => True) _ _); have HX5 := Aside0.mk (HX.out.below hb); have HBW := Aside0.mk (H.bt HB.out hb); obtain ⟨⟨s0, s1, s2, s3⟩, s4, s5, s6, s7⟩ := HX5.out.facts; have z0 := (four HX5.out.p).2.1; have z1 := (four HX5.out.p).2.2.1; have z2 := (four HX5.out.p).2.2.2.1; have z3 := (four HX5.out.p).2.2.2.2; clear hv hb u0 u1 u2 u3 u4 u5 u6 u7)
  obtain ⟨W5, hW5⟩ : ∃ W5, w5 w w4 p' (.slice A6 p'.adds.length c6) = W5 := ⟨_, rfl⟩
  have HB6 := Aside0.mk (w5_below (p := p') (v := .slice A6 p'.adds.length c6) HBW.out)
  have HX6 := Aside0.mk (w5_bx (p := p') (v := .slice A6 p'.adds.length c6) HX5.out)
  have hbase : w.heap.size < (w2 w ps (.slice A2 pa.length c2) pl po 6 tx key 2).heap.size := by rw [w2_size]; omega
  have HVD := Aside0.mk (w5_D (p := p') (v := .slice A6 p'.adds.length c6) (w := w) HV4.out hbase)
  have HVE := Aside0.mk (w5_D (p := p') (v := .slice A6 p'.adds.length c6) (w := w) HVQ.out hbase)
  have HBS := Aside0.mk hbase
  rw [hW5] at HB6 HX6 HVD HVE
  unfold w5 at hW5
  rw [hW5]
  clear hW5 s0 s1 s2 s3 s4 s5 s6 s7 z0 z1 z2 z3 HA hbase
  have H5 := Aside0.mk ((HH.out.below HB6.out).widen w)
  have HR2 := Aside0.mk (new_row (w := w) (S := S) HVD.out (Nat.le_of_lt HBS.out))
  have H6 := Aside0.mk (H5.out.below (below_drew (Below.refl _ _)))
  obtain ⟨Wu, hup, hown, htu⟩ := H6.out.map.store (Maps.int_keyed Try.underlying3) Try.underlying52 HNN.out (keyI HNT.out) (val := encP p' (.slice A6 p'.adds.length c6)) (d := .held (encP p' (.slice A6 p'.adds.length c6))) (ps := []) rfl
  have H7 := Aside0.mk (H6.out.setPart HNT.out ((Maps.int_keyed Try.underlying3).key (keyI HNT.out)) (Kd.R_drew HR2.out) hown htu)
  have hneb : w.heap.size ≠ b := fun e => by have := HH.out.bound b HH.out.sb; omega
  have hneb1 : w.heap.size + 1 ≠ b := fun e => by have := HH.out.bound b HH.out.sb; omega
  have hnem : w.heap.size ≠ m := fun e => by have := HH.out.bound m HH.out.sm; omega
  have hnem1 : w.heap.size + 1 ≠ m := fun e => by have := HH.out.bound m HH.out.sm; omega
  have HXU := Aside0.mk (Bx.mk (((below_turned htu).2.2 w.heap.size hnem).trans HX6.out.p) (((below_turned htu).2.2 (w.heap.size + 1) hnem1).trans HX6.out.r))
  have HCU := Aside0.mk (((Chg.of_below HB6.out S).drew).turned htu (.inl HH.out.sm))
  have HSU : Aside0 (w.heap.size + 2 ≤ Wu.heap.size) := ⟨by have h1 := (below_turned htu).2.1; have h2 := HX6.out.r; have h3 := (Array.getElem?_eq_some_iff.1 h2).1; have h4 : W5.heap.size ≤ Wu.heap.size := h1; omega⟩
  have HVU := Aside0.mk (row_turned eD (Kd.R_drew (Kd.R_lower HVE.out (Nat.zero_le _))) htu)
  unfold encP at hup
  obtain ⟨A5, c5, rfl⟩ := Kd.R_slice H7.out.led
  obtain ⟨A3, c3, rfl⟩ := Kd.R_slice H7.out.locks
  have HPT := Aside0.mk (HD.put_calls A5 c5 st.led A7 c7 dl  (putP st.led dl) (putE st.led dl) Wu (Kd.R_reads' H7.out.led).2.2 (Kd.R_reads' H7.out.led).2.1 (Kd.R_reads' HVU.out).2.2 (Kd.R_reads' HVU.out).2.1 (by unfold HD.putF; rw [if_pos (by have := HLE.out; have := HDL.out; omega)]; exact putP_is _ _))
  obtain ⟨⟨u0, u1, u2, u3⟩, u4, u5, u6, u7⟩ := HX6.out.facts
  obtain ⟨x0, x1, x2, x3⟩ := H5.out.cells
  clear u6 u7 x0 x1 x3 hown htu
  go_region
  obtain ⟨y0, y1, y2, y3⟩ := H7.out.cells
  clear u0 u1 u2 u3 u4 u5 x2 hup y1 y2 y3
  go_wp2_with (go_at_call 51; with_reducible refine (HPT.out).mono ?_; rintro e w7 ⟨v7, rfl, hv, hb⟩; obtain ⟨A8, c8, rfl⟩ := Kd.R_slice hv; have HV7 := Aside0.mk hv; have HB7 := Aside0.mk hb; have hc7 := (H7.out.below hb).cells.1; have hf7 := (H7.out.below hb).free.1; have HX7 := Aside0.mk (Bx.mk (blk_other (HXU.out.below hb).p hneb 0 (.slice A8 (putP st.led dl).length c8)) (blk_other (HXU.out.below hb).r hneb1 0 (.slice A8 (putP st.led dl).length c8))); obtain ⟨⟨s0, s1, s2, s3⟩, s4, s5, s6, s7⟩ := HX7.out.facts; clear hv hb s1 s2 s3 s6 s7)
  have HR7 := Aside0.mk (new_row (w := w) (S := Wide w W5 S) HV7.out (by have := HSU.out; omega))
  have H8 := Aside0.mk (((H7.out.below HB7.out).widen w).setLed HR7.out)
  have HC8 := Aside0.mk ((HCU.out.step HB7.out).setCell ⟨b, 0, none⟩ (.slice A8 (putP st.led dl).length c8) (.inl HH.out.sb))
  have HFR := Aside0.mk (fun (W : World) (hb : Below (w7.setCell ⟨b, 0, none⟩ (.slice A8 (putP st.led dl).length c8)).heap.size (w7.setCell ⟨b, 0, none⟩ (.slice A8 (putP st.led dl).length c8)) W) =>
    H.free_calls A3 c3 st.locks tx (freeP st.locks tx) W (Kd.C_below (Kd.R_reads' H8.out.locks).2.2 hb) (Kd.R_reads' H8.out.locks).2.1 (by unfold H.freeF; rw [if_pos (by have := HLK.out; omega)]; rfl))
  obtain ⟨y0, y1, y2, y3⟩ := H8.out.cells
  clear y0 y2 y3 HPT
  go_region_law ((go_simp; go_at_call 52; with_reducible refine (HFR.out _ (below_drew (Below.refl _ _))).mono ?_; rintro e w8 ⟨v8, rfl, hv, hb⟩; obtain ⟨A9, c9, rfl⟩ := Kd.R_slice hv; have HV8 := Aside0.mk hv; have HB8 := Aside0.mk (H.bt (below_drew (Below.refl _ _)) hb); have hc8 := (H8.out.below HB8.out).cells.2.1; have hf8 := (H8.out.below HB8.out).free.2.1; clear hv hb))
  all_goals
    have HR8 := Aside0.mk (new_row (w := w) (S := Wide w w7 (Wide w W5 S)) HV8.out (by show w.heap.size ≤ (w7.setCell ⟨b, 0, none⟩ (.slice A8 (putP st.led dl).length c8)).heap.size; have := HSU.out; have := HB7.out.size; simp; omega))
    have H9 := Aside0.mk (((H8.out.below HB8.out).widen w).setLocks HR8.out)
    have HC9 := Aside0.mk ((HC8.out.step HB8.out).setCell ⟨b, 1, none⟩ (.slice A9 (freeP st.locks tx).length c9) (.inl HH.out.sb))
    go_wp2
    go_ret
    exact ⟨rfl, _, _, _, _, _, _, _, H9.out, Nat.le_refl _, fun h => absurd rfl h, fun k hk => hk.elim (fun h => h.elim (fun h => h.out) (fun h => .inr h.1)) (fun h => .inr h.1), HC9.out⟩
end
end Go.Proofs.Ytolpcfjmhimpeaa.HS

/- site.access and site.end, all ways; site.step. -/

namespace Go.Proofs.Ytolpcfjmhimpeaa.HS
open Go.RowKit Go.Proofs.YtolpcfjmhimpeaaW.PrintWords Go.Proofs.YtolpcfjmhimpeaaW.PrintLast Go.Proofs.YtolpcfjmhimpeaaW.PrintMore Go.Proofs.Ytolpcfjmhimpeaa.P
open Go.Maps (Keyed)
open Go.ChangeMaps Go.MapKept
set_option linter.unusedVariables false
set_option linter.unusedSimpArgs false

section
variable {w W : World} {S : Nat → Prop} {b m n : Nat} {st : PSite} {vl vk vg : Value} {D : DataW Value}
theorem access_calls (h : SiteAt w S b st vl vk vg m n D) (p : PPart) (vp : Value) (r : S35) (hp : Kd.R k73 73 w 0 S vp p.adds) (hk : r.f0 = 2 ∨ r.f0 = 3) (hs : Small st) (hpa : p.adds.length ≤ 1000000000) (ht : (litI r.f1).wf = true) (hn : n < maxLen) :
    Calls Try.prog 37 #[.pointer (some ⟨b, 0, none⟩), .agg #[.int .i64 p.st, vp, .bool p.loc, .int .i64 p.out], .agg #[.int .i64 r.f0, .int .i64 r.f1, .int .u8 r.f2, .int .i64 r.f3]] w fun e w' =>
      e = .returned (.tuple #[.int .i64 (accessS st p r).2.1, .int .i64 (accessS st p r).2.2]) ∧ Next w S b n (accessS st p r).2.2 (accessS st p r).1 w' := by
  obtain ⟨ps, pa, pl, po⟩ := p
  obtain ⟨k, tx, key, nn⟩ := r
  simp only at hp hk hpa ht ⊢
  unfold accessS
  simp only
  by_cases h0 : ps = 0
  · subst h0
    rw [if_neg (by simp)]
    by_cases h1 : (H.takeP st.locks tx key (k == 3)).2 ≠ 0
    · rw [if_pos h1]
      exact access_lock h vp pa pl po k tx key nn hp hs.locks h1
    · rw [if_neg h1]
      have h1 : (H.takeP st.locks tx key (k == 3)).2 = 0 := by simpa using h1
      rcases hk with rfl | rfl
      · rw [if_neg (by omega)]
        exact access_read h vp pa pl po tx key nn hp hs.locks hs.led hpa h1
      · rw [if_pos rfl]
        by_cases h2 : (addP ⟨0, pa, pl, po⟩ ⟨key, nn⟩).2 ≠ 0
        · rw [if_pos h2]
          exact access_add_bad h vp pa pl po tx key nn hp hs.locks hpa h1 ht hn h2
        · rw [if_neg h2]
          exact access_add_ok h vp pa pl po tx key nn hp hs.locks hpa h1 ht hn (by simpa using h2)
  · rw [if_pos h0]
    exact access_over h ps vp pa pl po k tx key nn hp h0

set_option maxRecDepth 100000 in
set_option maxHeartbeats 8000000 in
theorem end_arg (h : SiteAt w S b st vl vk vg m n D) (ps : Int) (vp : Value) (pa : List S73) (pl : Bool) (po tx key nn : Int) (hp : Kd.R k73 73 w 0 S vp pa) (h1 : nn ≠ 1) (h2 : nn ≠ 2) :
    Calls Try.prog 38 #[.pointer (some ⟨b, 0, none⟩), .agg #[.int .i64 ps, vp, .bool pl, .int .i64 po], .agg #[.int .i64 6, .int .i64 tx, .int .u8 key, .int .i64 nn]] w fun e w' => e = .returned (.int .i64 2) ∧ Next w S b n 2 st w' := by
  obtain ⟨A2, c2, rfl⟩ := Kd.R_slice hp
  have HN := Aside0.mk (Next.same h (w2_below w ps (.slice A2 pa.length c2) pl po 6 tx key nn) (er := 2))
  have q1 : (nn == 1) = false := by simpa using h1
  have q2 : (nn == 2) = false := by simpa using h2
  clear h hp h1 h2
  go_enter Try.func38, Try.ntmps38
  go_wp2
  go_ret
  exact ⟨rfl, HN.out⟩

theorem oppL_len (l : List S73) : (HD.oppL l).length = l.length := by simp [HD.oppL]
theorem end_calls (h : SiteAt w S b st vl vk vg m n D) (p : PPart) (vp : Value) (r : S35) (hp : Kd.R k73 73 w 0 S vp p.adds) (hk : r.f0 = 4 ∨ r.f0 = 5 ∨ r.f0 = 6) (hs : Small st) (hpa : p.adds.length ≤ 1000000000) (ht : (litI r.f1).wf = true) (hn : n < maxLen) :
    Calls Try.prog 38 #[.pointer (some ⟨b, 0, none⟩), .agg #[.int .i64 p.st, vp, .bool p.loc, .int .i64 p.out], .agg #[.int .i64 r.f0, .int .i64 r.f1, .int .u8 r.f2, .int .i64 r.f3]] w fun e w' =>
      e = .returned (.int .i64 (endS st p r).2) ∧ Next w S b n (endS st p r).2 (endS st p r).1 w' := by
  obtain ⟨ps, pa, pl, po⟩ := p
  obtain ⟨k, tx, key, nn⟩ := r
  simp only at hp hk hpa ht ⊢
  unfold endS endD
  simp only
  rcases hk with rfl | rfl | rfl
  · simp only [if_true]
    by_cases h2 : (voteP ⟨ps, pa, pl, po⟩ (nn != 0)).2 ≠ 0
    · rw [if_pos h2]
      exact end_vote_bad h ps vp pa pl po tx key nn hp hpa h2
    · rw [if_neg h2]
      have h2 : (voteP ⟨ps, pa, pl, po⟩ (nn != 0)).2 = 0 := by simpa using h2
      by_cases h3 : (voteP ⟨ps, pa, pl, po⟩ (nn != 0)).1.st = 2
      · rw [if_pos (.inr h3)]
        exact end_vote_no h ps vp pa pl po tx key nn hp hpa h2 ht hn hs.led hs.locks h3
      · rw [if_neg (by rintro (h4 | h4); exact h4 rfl; exact h3 h4)]
        exact end_vote_yes h ps vp pa pl po tx key nn hp hpa h2 ht hn hs.led hs.locks h3
  · rw [if_neg (show ¬ (5 : Int) = 4 by omega), if_pos rfl]
    by_cases h2 : (localP ⟨ps, pa, pl, po⟩).2.2 ≠ 0
    · rw [if_pos h2]
      exact end_local_bad h ps vp pa pl po tx key nn hp hpa h2
    · rw [if_neg h2, if_pos (.inl (by omega))]
      refine end_local_ok h ps vp pa pl po tx key nn hp hpa (by simpa using h2) ht hn hs.led hs.locks ?_
      unfold localP
      simp only
      split
      · simp
      · split
        · simp
        · split
          · simp
          · exact hpa
  · rw [if_neg (show ¬ (6 : Int) = 4 by omega), if_neg (show ¬ (6 : Int) = 5 by omega)]
    have hlen : ∀ o, (decideP ⟨ps, pa, pl, po⟩ o).2.1.length ≤ 1000000000 := fun o => by
      unfold decideP
      simp only
      split
      · simp
      · split
        · simp
        · split
          · simp
          · split
            · simp
            · split
              · rw [oppL_len]; exact hpa
              · exact hpa
    by_cases h1 : nn = 1 ∨ nn = 2
    · rw [if_pos h1]
      rcases h1 with rfl | rfl
      · by_cases h2 : (decideP ⟨ps, pa, pl, po⟩ 1).2.2 ≠ 0
        · rw [if_pos h2]
          exact end_commit_bad h ps vp pa pl po tx key 1 hp hpa h2
        · rw [if_neg h2, if_pos (.inl (by omega))]
          exact end_commit_ok h ps vp pa pl po tx key 1 hp hpa (by simpa using h2) ht hn hs.led hs.locks (hlen 1)
      · by_cases h2 : (decideP ⟨ps, pa, pl, po⟩ 2).2.2 ≠ 0
        · rw [if_pos h2]
          exact end_abort_bad h ps vp pa pl po tx key 2 hp hpa h2
        · rw [if_neg h2, if_pos (.inl (by omega))]
          exact end_abort_ok h ps vp pa pl po tx key 2 hp hpa (by simpa using h2) ht hn hs.led hs.locks (hlen 2)
    · rw [if_neg h1, if_pos (by simp)]
      exact end_arg h ps vp pa pl po tx key nn hp (fun e => h1 (.inl e)) (fun e => h1 (.inr e))
end
end Go.Proofs.Ytolpcfjmhimpeaa.HS

/- site.step. -/

namespace Go.Proofs.Ytolpcfjmhimpeaa.HS
open Go.RowKit Go.Proofs.YtolpcfjmhimpeaaW.PrintWords Go.Proofs.YtolpcfjmhimpeaaW.PrintLast Go.Proofs.YtolpcfjmhimpeaaW.PrintMore Go.Proofs.Ytolpcfjmhimpeaa.P
open Go.Maps (Keyed)
open Go.ChangeMaps Go.MapKept
set_option linter.unusedVariables false
set_option linter.unusedSimpArgs false

section
variable {w W : World} {S : Nat → Prop} {b m n : Nat} {st : PSite} {vl vk vg : Value} {D : DataW Value}
theorem Next.lift {w' : World} {er : Int} (hb : Below w.heap.size w W) (h : Next W S b n er st w') : Next w S b n er st w' := by
  obtain ⟨S', vl, vk, vg, m, n', D, h1, h2, h2', h3, h4⟩ := h
  exact ⟨S', vl, vk, vg, m, n', D, h1, h2, h2', fun k hk => (h3 k hk).imp id (fun h => Nat.le_trans hb.size h), (Chg.of_below hb S).trans h4 (fun k hk => .inl hk)⟩

set_option maxRecDepth 100000 in
set_option maxHeartbeats 8000000 in
theorem step_begin (h : SiteAt w S b st vl vk vg m n D) (p : PPart) (vp : Value) (tx key nn : Int) (hp : Kd.R k73 73 w 0 S vp p.adds) (ht : (litI tx).wf = true) (hn : n < maxLen) :
    Calls Try.prog 27 #[.pointer (some ⟨b, 0, none⟩), .agg #[.int .i64 p.st, vp, .bool p.loc, .int .i64 p.out], .agg #[.int .i64 1, .int .i64 tx, .int .u8 key, .int .i64 nn]] w fun e w' =>
      e = .returned (.tuple #[.int .i64 0, .int .i64 0]) ∧ Next w S b n 0 { st with parts := upd st.parts tx p } w' := by
  obtain ⟨A2, c2, rfl⟩ := Kd.R_slice hp
  have HB := w2_below w p.st (.slice A2 p.adds.length c2) p.loc p.out 1 tx key nn
  have h1 := h.below HB
  have h2 := h1.below (below_drew (Below.refl _ _))
  have hp2 : Kd.R k73 73 (w2 w p.st (.slice A2 p.adds.length c2) p.loc p.out 1 tx key nn).drew 0 S (.slice A2 p.adds.length c2) p.adds := Kd.R_drew (row_chg eD hp (Chg.of_below HB (fun _ => False)) (fun _ _ hk => hk))
  obtain ⟨Wu, hup, hown, htu⟩ := h2.map.store (Maps.int_keyed Try.underlying3) Try.underlying52 hn (keyI ht) (val := encP p (.slice A2 p.adds.length c2)) (d := .held (encP p (.slice A2 p.adds.length c2))) (ps := []) rfl
  have H7 := Aside0.mk (h2.setPart ht ((Maps.int_keyed Try.underlying3).key (keyI ht)) hp2 hown htu)
  have HC := Aside0.mk (((Chg.of_below HB S).drew).turned htu (.inl h.sm))
  obtain ⟨x0, x1, x2, x3⟩ := h1.cells
  obtain ⟨⟨u0, u1, u2, u3⟩, u4, u5, u6, u7⟩ := (Bx.start w p.st (.slice A2 p.adds.length c2) p.loc p.out 1 tx key nn).facts
  unfold encP at hup
  clear h h1 h2 hp hp2 hown htu x0 x1 x3 u4 u6 u7 ht hn HB
  go_enter Try.func27, Try.ntmps27
  go_wp2
  go_region
  go_wp2
  go_ret2
  exact ⟨rfl, S, _, _, _, _, _, _, H7.out, Nat.le_refl _, fun h => absurd rfl h, fun k hk => .inl hk, HC.out⟩

set_option maxRecDepth 100000 in
set_option maxHeartbeats 8000000 in
theorem step_calls (h : SiteAt w S b st vl vk vg m n D) (p : PPart) (vp : Value) (r : S35) (hp : Kd.R k73 73 w 0 S vp p.adds) (hk : 1 ≤ r.f0 ∧ r.f0 ≤ 6) (hs : Small st) (hpa : p.adds.length ≤ 1000000000) (ht : (litI r.f1).wf = true) (hn : n < maxLen) :
    Calls Try.prog 27 #[.pointer (some ⟨b, 0, none⟩), .agg #[.int .i64 p.st, vp, .bool p.loc, .int .i64 p.out], .agg #[.int .i64 r.f0, .int .i64 r.f1, .int .u8 r.f2, .int .i64 r.f3]] w fun e w' =>
      e = .returned (.tuple #[.int .i64 (stepS st p r).2.1, .int .i64 (stepS st p r).2.2]) ∧ Next w S b n (stepS st p r).2.2 (stepS st p r).1 w' := by
  obtain ⟨k, tx, key, nn⟩ := r
  simp only at hk ht ⊢
  by_cases h1 : k = 1
  · subst h1
    unfold stepS
    simp only [if_true]
    exact step_begin h p vp tx key nn hp ht hn
  · obtain ⟨A2, c2, rfl⟩ := Kd.R_slice hp
    have HB := Aside0.mk (w2_below w p.st (.slice A2 p.adds.length c2) p.loc p.out k tx key nn)
    have h2 := h.below HB.out
    have hp2 : Kd.R k73 73 (w2 w p.st (.slice A2 p.adds.length c2) p.loc p.out k tx key nn) 0 S (.slice A2 p.adds.length c2) p.adds := row_chg eD hp (Chg.of_below HB.out (fun _ => False)) (fun _ _ hk => hk)
    obtain ⟨⟨u0, u1, u2, u3⟩, u4, u5, u6, u7⟩ := (Bx.start w p.st (.slice A2 p.adds.length c2) p.loc p.out k tx key nn).facts
    unfold stepS
    simp only
    rw [if_neg h1]
    by_cases h3 : k = 2 ∨ k = 3
    · rw [if_pos h3]
      have HA := Aside0.mk (access_calls h2 p (.slice A2 p.adds.length c2) ⟨k, tx, key, nn⟩ hp2 h3 hs hpa ht hn)
      simp only at HA
      generalize accessS st p ⟨k, tx, key, nn⟩ = out at HA ⊢
      have q1 : (k == 1) = false := by simpa using h1
      clear h h1 h2 hp hp2 hs hpa ht hn hk
      rcases h3 with rfl | rfl
      all_goals
        go_enter Try.func27, Try.ntmps27
        go_wp2_with (go_at_call 37; with_reducible refine (HA.out).mono ?_; rintro e w4 ⟨rfl, hx⟩; have HX := Aside0.mk hx; clear hx)
        go_ret2
        exact ⟨rfl, HX.out.lift HB.out⟩
    · rw [if_neg h3]
      have HA := Aside0.mk (end_calls h2 p (.slice A2 p.adds.length c2) ⟨k, tx, key, nn⟩ hp2 (by simp only; omega) hs hpa ht hn)
      simp only at HA
      generalize endS st p ⟨k, tx, key, nn⟩ = out at HA ⊢
      have q1 : (k == 1) = false := by simpa using h1
      have q2 : (k == 2) = false := by simp; exact fun e => h3 (.inl e)
      have q3 : (k == 3) = false := by simp; exact fun e => h3 (.inr e)
      clear h h1 h2 hp hp2 hs hpa ht hn hk h3
      go_enter Try.func27, Try.ntmps27
      go_wp2_with (go_at_call 38; with_reducible refine (HA.out).mono ?_; rintro e w4 ⟨rfl, hx⟩; have HX := Aside0.mk hx; clear hx)
      go_ret2
      exact ⟨rfl, HX.out.lift HB.out⟩
end
end Go.Proofs.Ytolpcfjmhimpeaa.HS

/- (*site.Site).Do. -/

namespace Go.Proofs.Ytolpcfjmhimpeaa.HS
open Go.RowKit Go.Proofs.YtolpcfjmhimpeaaW.PrintWords Go.Proofs.YtolpcfjmhimpeaaW.PrintLast Go.Proofs.YtolpcfjmhimpeaaW.PrintMore Go.Proofs.Ytolpcfjmhimpeaa.P
open Go.Maps (Keyed)
open Go.ChangeMaps Go.MapKept
set_option linter.unusedVariables false
set_option linter.unusedSimpArgs false

/-- What a call of the site leaves. -/
def Done (w : World) (S : Nat → Prop) (b : Nat) (st' : PSite) (w' : World) : Prop := ∃ S', Site w' S' b st' ∧ (∀ k, S' k → S k ∨ w.heap.size ≤ k) ∧ Chg w w' S
theorem Done.same {w w' : World} {S : Nat → Prop} {b : Nat} {st : PSite} (h : Site w S b st) (hb : Below w.heap.size w w') : Done w S b st w' := by
  obtain ⟨vl, vk, vg, m, n, D, h, hn⟩ := h
  exact ⟨S, ⟨vl, vk, vg, m, n, D, h.below hb, hn⟩, fun k hk => .inl hk, Chg.of_below hb _⟩

section
variable {w W : World} {S : Nat → Prop} {b m n : Nat} {st : PSite} {vl vk vg : Value} {D : DataW Value}
abbrev wr1 (w : World) (k tx key nn : Int) : World := w.alloc (.cells #[.int .i64 k, .int .i64 tx, .int .u8 key, .int .i64 nn] 35)
theorem wr1_r (w : World) (k tx key nn : Int) : (wr1 w k tx key nn).heap[w.heap.size]? = some (.cells #[.int .i64 k, .int .i64 tx, .int .u8 key, .int .i64 nn] 35 (0, 0)) := heap_alloc_new w _
theorem wr1_below (w : World) (k tx key nn : Int) : Below w.heap.size w (wr1 w k tx key nn) := below_alloc (Below.refl _ _) _
theorem infoR : (Try.prog.info? 35).map (fun i => (i.zero, i.size, i.bytes)) = some (some (.agg #[(.int .i64 0), (.int .i64 0), (.int .u8 0), (.int .i64 0)]), 4, 32) := HR.infoH
def cellsR (x : S35) : List Value := [.int .i64 x.f0, .int .i64 x.f1, .int .u8 x.f2, .int .i64 x.f3]
theorem cellsR_one (x : S35) : ∀ v ∈ cellsR x, v.oneCell' = true := by
  intro u hu
  simp [cellsR] at hu
  rcases hu with rfl | rfl | rfl | rfl <;> rfl

theorem Chg.grown {W1 W' : World} {row : Option Nat} (h : Chg W W1 S) (hg : W1.grownBy W' row) (hrow : ∀ k, row = some k → S k ∨ W.heap.size ≤ k) : Chg W W' S :=
  ⟨h.b0.grown hg (Nat.zero_le _) (fun k _ => Nat.zero_le _), fun k hk hn => (hg.block k (Nat.lt_of_lt_of_le hk h.size) (fun e => (hrow k e.symm).elim hn (fun h2 => by omega))).trans (h.kp k hk hn)⟩
theorem SiteAt.boxLog (h : SiteAt W S b st vl vk vg m n D) {W1 : World} (hg : W.grownBy W1 vg.ownBlock) : W1.heap[b]? = some (.cells #[vl, vk, .map (some m), vg] 55 (0, 0)) :=
  (hg.block b (h.bound b h.sb) (fun e => by
    obtain ⟨cells, hc⟩ := row_cells eR h.log b e.symm
    rw [h.box] at hc
    cases hc)).trans h.box

/-- The log grows. -/
theorem append_log (h : Kd.R k35 35 W 0 S vg st.log) (x : S35) (hl : st.log.length + 1 ≤ 4398046511104) (ad : Nat) (hx : W.heap[ad]? = some (.cells (cellsR x).toArray 35 (0, 0))) :
    ∃ v1 w1, (Builtin.append_ #[53, 53] 53 #[vg, .slice (some ⟨ad, 0, none⟩) 1 1]).run Try.prog W = .ok v1 w1 ∧ Kd.R k35 35 w1 0 (fun k => S k ∨ (W.heap.size ≤ k ∧ k < w1.heap.size)) v1 (st.log ++ [x]) ∧ W.grownBy w1 vg.ownBlock := by
  obtain ⟨i0, hi, hzz⟩ := Option.map_eq_some_iff.1 infoR
  simp only [Prod.mk.injEq] at hzz
  obtain ⟨hz0, hz1, hz2⟩ := hzz
  obtain ⟨hok, inner, hown, hr⟩ := h
  obtain ⟨v1, w1, hrun, h2, hg, _, hat⟩ := run_append_own_at (P := Try.prog) W 0 53 53 35 i0 _ 4 32 Try.underlying53 hi hz0 hz1 hz2 rfl (by omega) vg st.log.length inner hown ⟨ad, 0, none⟩ 1 1 (cellsR x) rfl (fun j u hj => by rw [add_plain]; simp only [World.cell?, hx]; simpa using hj) (cellsR_one x) (by simp only [maxLen]; omega) (by omega) (Nat.zero_le _)
  refine ⟨v1, w1, hrun, ⟨fun k hk => ?_, inner ++ cellsR x, by rw [List.length_append]; exact h2, ?_⟩, hg⟩
  · rcases hat with e | e
    · rw [e] at hk
      exact .inl (hok k hk)
    · have hlt := own_lt h2 _ hk
      rw [e] at hk
      injection hk with hk
      exact .inr ⟨by omega, hlt⟩
  · have h1 : Reps (k35.M w1 0 (fun k => (S k ∨ (W.heap.size ≤ k ∧ k < w1.heap.size)) ∧ some k ≠ v1.ownBlock)) 4 st.log inner := hr.imp_ (fun p c hp => by rw [k35_openM hp]; exact k35_mkM _ _ _ _)
    exact Reps.snoc h1 (k35_mkM _ _ _ x) rfl
end
end Go.Proofs.Ytolpcfjmhimpeaa.HS

/- (*site.Site).Do: the walk. -/

namespace Go.Proofs.Ytolpcfjmhimpeaa.HS
open Go.RowKit Go.Proofs.YtolpcfjmhimpeaaW.PrintWords Go.Proofs.YtolpcfjmhimpeaaW.PrintLast Go.Proofs.YtolpcfjmhimpeaaW.PrintMore Go.Proofs.Ytolpcfjmhimpeaa.P
open Go.Maps (Keyed)
open Go.ChangeMaps Go.MapKept
set_option linter.unusedVariables false
set_option linter.unusedSimpArgs false

section
variable {w W : World} {S : Nat → Prop} {b m n : Nat} {st : PSite} {vl vk vg : Value} {D : DataW Value}
theorem accessS_log (s : PSite) (p : PPart) (r : S35) : (accessS s p r).1.log = s.log := by
  unfold accessS
  repeat (first | split | rfl)
theorem endS_log (s : PSite) (p : PPart) (r : S35) : (endS s p r).1.log = s.log := by
  unfold endS
  split <;> rfl
theorem stepS_log (s : PSite) (p : PPart) (r : S35) : (stepS s p r).1.log = s.log := by
  unfold stepS
  split
  · rfl
  · split
    · exact accessS_log s p r
    · exact endS_log s p r
theorem stepS_err (s : PSite) (p : PPart) (r : S35) (h : (stepS s p r).2.2 ≠ 0) : (stepS s p r).1 = s := by
  unfold stepS at *
  split at h
  · simp at h
  · rename_i h1
    rw [if_neg h1]
    split at h
    · rename_i h2
      rw [if_pos h2]
      unfold accessS at *
      repeat (first | rfl | (split at h <;> rename_i hq <;> first | rw [if_pos hq] | rw [if_neg hq]) | exact absurd rfl h)
    · rename_i h2
      rw [if_neg h2]
      unfold endS at *
      split at h
      · rename_i h3; rw [if_pos h3]
      · simp at h
set_option maxRecDepth 100000 in
set_option maxHeartbeats 8000000 in
theorem do_arg (h : Site w S b st) (k tx key nn : Int) (hc : k < 1 ∨ 6 < k ∨ tx < 0 ∨ 1000 ≤ tx) :
    Calls Try.prog 14 #[.pointer (some ⟨b, 0, none⟩), .agg #[.int .i64 k, .int .i64 tx, .int .u8 key, .int .i64 nn]] w fun e w' => e = .returned (.tuple #[.int .i64 0, .int .i64 2]) ∧ Done w S b st w' := by
  have HD := Aside0.mk (Done.same h (wr1_below w k tx key nn))
  obtain ⟨vl, vk, vg, m, n, D, h, hn⟩ := h
  have h1 := h.below (wr1_below w k tx key nn)
  obtain ⟨x0, x1, x2, x3⟩ := h1.cells
  have HG := Aside0.mk (good_calls b m _ x2)
  clear h h1 hn x0 x1 x2 x3
  cases a1 : decide (k < 1) with
  | true =>
    go_enter Try.func14, Try.ntmps14
    go_wp2_with (go_at_call 26; with_reducible refine (HG.out).mono ?_; rintro e w1 ⟨rfl, rfl⟩)
    go_ret2
    exact ⟨rfl, HD.out⟩
  | false =>
    cases a2 : decide (6 < k) with
    | true =>
      go_enter Try.func14, Try.ntmps14
      go_wp2_with (go_at_call 26; with_reducible refine (HG.out).mono ?_; rintro e w1 ⟨rfl, rfl⟩)
      go_ret2
      exact ⟨rfl, HD.out⟩
    | false =>
      cases a3 : decide (tx < 0) with
      | true =>
        go_enter Try.func14, Try.ntmps14
        go_wp2_with (go_at_call 26; with_reducible refine (HG.out).mono ?_; rintro e w1 ⟨rfl, rfl⟩)
        go_ret2
        exact ⟨rfl, HD.out⟩
      | false =>
        have a4 : decide (1000 ≤ tx) = true := by
          rw [decide_eq_false_iff_not] at a1 a2 a3
          exact decide_eq_true (by omega)
        clear hc
        go_enter Try.func14, Try.ntmps14
        go_wp2_with (go_at_call 26; with_reducible refine (HG.out).mono ?_; rintro e w1 ⟨rfl, rfl⟩)
        go_ret2
        exact ⟨rfl, HD.out⟩
set_option maxRecDepth 100000 in
set_option maxHeartbeats 8000000 in
theorem do_have (h : Site w S b st) (k tx key nn : Int) (hk : 1 ≤ k ∧ k ≤ 6) (hx : 0 ≤ tx ∧ tx < 1000) (hi : (st.parts tx).isSome = true) (h1k : (k == 1) = true)  :
    Calls Try.prog 14 #[.pointer (some ⟨b, 0, none⟩), .agg #[.int .i64 k, .int .i64 tx, .int .u8 key, .int .i64 nn]] w fun e w' => e = .returned (.tuple #[.int .i64 0, .int .i64 8]) ∧ Done w S b st w' := by
  have HS0 := Aside0.mk h
  have ht : (litI tx).wf = true := by
    have : IntKind.i64.min ≤ tx ∧ tx ≤ IntKind.i64.max := ⟨Int.le_trans (by decide) hx.1, Int.le_trans (Int.le_of_lt hx.2) (by decide)⟩
    simpa [litI, Lit.wf] using this
  obtain ⟨vl, vk, vg, m, n, D, h, hn⟩ := h
  obtain ⟨vp, hp, hvp⟩ := h.parts.val tx ht
  have hxx := h.parts.has tx ht
  rw [hi] at hxx
  generalize hpp : (st.parts tx).getD zeroP = p at hp hvp
  obtain ⟨A2, c2, rfl⟩ := Kd.R_slice hvp
  have h1 := h.below (wr1_below w k tx key nn)
  have r1 := look_run (W := (wr1 w k tx key nn).drew) h1.map.drew ht hp hxx
  have r2 := look_run (W := ((wr1 w k tx key nn).alloc (.cells #[.int .i64 0, .slice none 0 0, .bool false, .int .i64 0] 40)).drew) (h1.map.alloc _).drew ht hp hxx
  obtain ⟨x0, x1, x2, x3⟩ := h1.cells
  have HG := Aside0.mk (good_calls b m _ x2)
  obtain ⟨⟨u0, u1, u2, u3⟩, _⟩ := four (wr1_r w k tx key nn)
  have x2z := (h1.below (below_alloc (Below.refl _ _) (.cells #[.int .i64 0, .slice none 0 0, .bool false, .int .i64 0] 40))).cells.2.2.1
  have u1z : ((wr1 w k tx key nn).alloc (.cells #[.int .i64 0, .slice none 0 0, .bool false, .int .i64 0] 40)).cell? ⟨w.heap.size, 1, none⟩ = some (.int .i64 tx) := by
    have := (Below.heap_alloc (wr1 w k tx key nn) (.cells #[.int .i64 0, .slice none 0 0, .bool false, .int .i64 0] 40) w.heap.size (by simp)).trans (wr1_r w k tx key nn)
    exact (four this).1.2.1
  have a1 : decide (k < 1) = false := decide_eq_false (by omega)
  have a2 : decide (6 < k) = false := decide_eq_false (by omega)
  have a3 : decide (tx < 0) = false := decide_eq_false (by omega)
  have a4 : decide (1000 ≤ tx) = false := decide_eq_false (by omega)
  have HB1 := Aside0.mk (below_alloc (wr1_below w k tx key nn) (.cells #[.int .i64 p.st, .slice A2 p.adds.length c2, .bool p.loc, .int .i64 p.out] 40))
  clear h h1 hn hp hvp hxx ht hx hi hpp x0 x1 x3 hk
  go_enter Try.func14, Try.ntmps14
  go_wp2_with (go_at_call 26; with_reducible refine (HG.out).mono ?_; rintro e w1 ⟨rfl, rfl⟩)
  go_region
  all_goals
    go_wp2
    go_ret2
    exact ⟨rfl, Done.same HS0.out (below_drew HB1.out)⟩
set_option maxRecDepth 100000 in
set_option maxHeartbeats 8000000 in
theorem do_none (h : Site w S b st) (k tx key nn : Int) (hk : 1 ≤ k ∧ k ≤ 6) (hx : 0 ≤ tx ∧ tx < 1000) (hi : (st.parts tx).isSome = false) (h1k : (k == 1) = false)  :
    Calls Try.prog 14 #[.pointer (some ⟨b, 0, none⟩), .agg #[.int .i64 k, .int .i64 tx, .int .u8 key, .int .i64 nn]] w fun e w' => e = .returned (.tuple #[.int .i64 0, .int .i64 7]) ∧ Done w S b st w' := by
  have HS0 := Aside0.mk h
  have ht : (litI tx).wf = true := by
    have : IntKind.i64.min ≤ tx ∧ tx ≤ IntKind.i64.max := ⟨Int.le_trans (by decide) hx.1, Int.le_trans (Int.le_of_lt hx.2) (by decide)⟩
    simpa [litI, Lit.wf] using this
  obtain ⟨vl, vk, vg, m, n, D, h, hn⟩ := h
  obtain ⟨vp, hp, hvp⟩ := h.parts.val tx ht
  have hxx := h.parts.has tx ht
  rw [hi] at hxx
  generalize hpp : (st.parts tx).getD zeroP = p at hp hvp
  obtain ⟨A2, c2, rfl⟩ := Kd.R_slice hvp
  have h1 := h.below (wr1_below w k tx key nn)
  have r1 := look_run (W := (wr1 w k tx key nn).drew) h1.map.drew ht hp hxx
  have r2 := look_run (W := ((wr1 w k tx key nn).alloc (.cells #[.int .i64 0, .slice none 0 0, .bool false, .int .i64 0] 40)).drew) (h1.map.alloc _).drew ht hp hxx
  obtain ⟨x0, x1, x2, x3⟩ := h1.cells
  have HG := Aside0.mk (good_calls b m _ x2)
  obtain ⟨⟨u0, u1, u2, u3⟩, _⟩ := four (wr1_r w k tx key nn)
  have x2z := (h1.below (below_alloc (Below.refl _ _) (.cells #[.int .i64 0, .slice none 0 0, .bool false, .int .i64 0] 40))).cells.2.2.1
  have u1z : ((wr1 w k tx key nn).alloc (.cells #[.int .i64 0, .slice none 0 0, .bool false, .int .i64 0] 40)).cell? ⟨w.heap.size, 1, none⟩ = some (.int .i64 tx) := by
    have := (Below.heap_alloc (wr1 w k tx key nn) (.cells #[.int .i64 0, .slice none 0 0, .bool false, .int .i64 0] 40) w.heap.size (by simp)).trans (wr1_r w k tx key nn)
    exact (four this).1.2.1
  have a1 : decide (k < 1) = false := decide_eq_false (by omega)
  have a2 : decide (6 < k) = false := decide_eq_false (by omega)
  have a3 : decide (tx < 0) = false := decide_eq_false (by omega)
  have a4 : decide (1000 ≤ tx) = false := decide_eq_false (by omega)
  have HB1 := Aside0.mk (below_alloc (wr1_below w k tx key nn) (.cells #[.int .i64 p.st, .slice A2 p.adds.length c2, .bool p.loc, .int .i64 p.out] 40))
  clear h h1 hn hp hvp hxx ht hx hi hpp x0 x1 x3 hk
  go_enter Try.func14, Try.ntmps14
  go_wp2_with (go_at_call 26; with_reducible refine (HG.out).mono ?_; rintro e w1 ⟨rfl, rfl⟩)
  go_region
  all_goals
    go_wp2
    go_ret2
    exact ⟨rfl, Done.same HS0.out (below_drew HB1.out)⟩
set_option maxRecDepth 100000 in
set_option maxHeartbeats 8000000 in
theorem do_err_b (h : Site w S b st) (k tx key nn : Int) (hk : 1 ≤ k ∧ k ≤ 6) (hx : 0 ≤ tx ∧ tx < 1000) (hi : (st.parts tx).isSome = false) (h1k : (k == 1) = true) (hs : Small st) (hpa : ((st.parts tx).getD zeroP).adds.length ≤ 1000000000) (he : (stepS st ((st.parts tx).getD zeroP) ⟨k, tx, key, nn⟩).2.2 ≠ 0) (hst : (stepS st ((st.parts tx).getD zeroP) ⟨k, tx, key, nn⟩).1 = st) :
    Calls Try.prog 14 #[.pointer (some ⟨b, 0, none⟩), .agg #[.int .i64 k, .int .i64 tx, .int .u8 key, .int .i64 nn]] w fun e w' => e = .returned (.tuple #[.int .i64 0, .int .i64 (stepS st ((st.parts tx).getD zeroP) ⟨k, tx, key, nn⟩).2.2]) ∧ Done w S b st w' := by
  have HS0 := Aside0.mk h
  have ht : (litI tx).wf = true := by
    have : IntKind.i64.min ≤ tx ∧ tx ≤ IntKind.i64.max := ⟨Int.le_trans (by decide) hx.1, Int.le_trans (Int.le_of_lt hx.2) (by decide)⟩
    simpa [litI, Lit.wf] using this
  obtain ⟨vl, vk, vg, m, n, D, h, hn⟩ := h
  obtain ⟨vp, hp, hvp⟩ := h.parts.val tx ht
  have hxx := h.parts.has tx ht
  rw [hi] at hxx
  generalize hpp : (st.parts tx).getD zeroP = p at hp hvp hpa he hst ⊢
  obtain ⟨A2, c2, rfl⟩ := Kd.R_slice hvp
  have h1 := h.below (wr1_below w k tx key nn)
  have r1 := look_run (W := (wr1 w k tx key nn).drew) h1.map.drew ht hp hxx
  have r2 := look_run (W := ((wr1 w k tx key nn).alloc (.cells #[.int .i64 0, .slice none 0 0, .bool false, .int .i64 0] 40)).drew) (h1.map.alloc _).drew ht hp hxx
  obtain ⟨x0, x1, x2, x3⟩ := h1.cells
  have HG := Aside0.mk (good_calls b m _ x2)
  obtain ⟨⟨u0, u1, u2, u3⟩, _⟩ := four (wr1_r w k tx key nn)
  have x2z := (h1.below (below_alloc (Below.refl _ _) (.cells #[.int .i64 0, .slice none 0 0, .bool false, .int .i64 0] 40))).cells.2.2.1
  have u1z : ((wr1 w k tx key nn).alloc (.cells #[.int .i64 0, .slice none 0 0, .bool false, .int .i64 0] 40)).cell? ⟨w.heap.size, 1, none⟩ = some (.int .i64 tx) := by
    have := (Below.heap_alloc (wr1 w k tx key nn) (.cells #[.int .i64 0, .slice none 0 0, .bool false, .int .i64 0] 40) w.heap.size (by simp)).trans (wr1_r w k tx key nn)
    exact (four this).1.2.1
  have a1 : decide (k < 1) = false := decide_eq_false (by omega)
  have a2 : decide (6 < k) = false := decide_eq_false (by omega)
  have a3 : decide (tx < 0) = false := decide_eq_false (by omega)
  have a4 : decide (1000 ≤ tx) = false := decide_eq_false (by omega)
  have HB1 := Aside0.mk (below_alloc (wr1_below w k tx key nn) (.cells #[.int .i64 p.st, .slice A2 p.adds.length c2, .bool p.loc, .int .i64 p.out] 40))
  have HBW := Aside0.mk (below_drew HB1.out)
  have h3 := h.below HBW.out
  have hvp3 : Kd.R k73 73 ((wr1 w k tx key nn).alloc (.cells #[.int .i64 p.st, .slice A2 p.adds.length c2, .bool p.loc, .int .i64 p.out] 40)).drew 0 S (.slice A2 p.adds.length c2) p.adds := row_chg eD hvp (Chg.of_below HBW.out (fun _ => False)) (fun _ _ hk => hk)
  have HST := Aside0.mk (step_calls h3 p (.slice A2 p.adds.length c2) ⟨k, tx, key, nn⟩ hvp3 hk hs hpa ht (by unfold maxLen; have := hs.log; omega))
  have HN := Aside0.mk hn
  have HL := Aside0.mk hs.log
  have HBD := Aside0.mk h3.bound
  have HLG : Aside0 ((stepS st p ⟨k, tx, key, nn⟩).1.log = st.log) := ⟨stepS_log st p _⟩
  have HRB := Aside0.mk ((Below.heap_alloc (wr1 w k tx key nn) (.cells #[.int .i64 p.st, .slice A2 p.adds.length c2, .bool p.loc, .int .i64 p.out] 40) w.heap.size (by simp)).trans (wr1_r w k tx key nn) : (((wr1 w k tx key nn).alloc (.cells #[.int .i64 p.st, .slice A2 p.adds.length c2, .bool p.loc, .int .i64 p.out] 40)).drew).heap[w.heap.size]? = _)
  have HSB := Aside0.mk h.bound
  have HSBB := Aside0.mk h.sb
  simp only at HST
  generalize stepS st p ⟨k, tx, key, nn⟩ = out at HST he HLG hst ⊢
  obtain ⟨st', rn, re⟩ := out
  simp only at HST he HLG hst ⊢
  subst hst
  have q5 : (re != 0) = true := by simpa using he
  have HE := Aside0.mk he
  clear h h1 h3 hvp3 hn hp hvp hxx ht hx hi hpp x0 x1 x3 hk hs hpa he
  go_enter Try.func14, Try.ntmps14
  go_wp2_with (go_at_call 26; with_reducible refine (HG.out).mono ?_; rintro e w1 ⟨rfl, rfl⟩)
  go_region
  all_goals
    clear r1 r2
    go_wp2_with (go_at_call 27; with_reducible refine (HST.out).mono ?_; rintro e w5 ⟨rfl, hx⟩; have HX := Aside0.mk hx; clear hx)
    go_ret2
    obtain ⟨S', vl', vk', vg', m', n', D', hA, hB, hB2, hC, hD⟩ := HX.out
    exact ⟨rfl, S', ⟨vl', vk', vg', m', n', D', hA, Nat.le_trans (hB2 HE.out) HN.out⟩, fun k hk => (hC k hk).imp id (fun h => Nat.le_trans HBW.out.size h), (Chg.of_below HBW.out S).trans hD (fun k hk => .inl hk)⟩
set_option maxRecDepth 100000 in
set_option maxHeartbeats 8000000 in
theorem do_err_o (h : Site w S b st) (k tx key nn : Int) (hk : 1 ≤ k ∧ k ≤ 6) (hx : 0 ≤ tx ∧ tx < 1000) (hi : (st.parts tx).isSome = true) (h1k : (k == 1) = false) (hs : Small st) (hpa : ((st.parts tx).getD zeroP).adds.length ≤ 1000000000) (he : (stepS st ((st.parts tx).getD zeroP) ⟨k, tx, key, nn⟩).2.2 ≠ 0) (hst : (stepS st ((st.parts tx).getD zeroP) ⟨k, tx, key, nn⟩).1 = st) :
    Calls Try.prog 14 #[.pointer (some ⟨b, 0, none⟩), .agg #[.int .i64 k, .int .i64 tx, .int .u8 key, .int .i64 nn]] w fun e w' => e = .returned (.tuple #[.int .i64 0, .int .i64 (stepS st ((st.parts tx).getD zeroP) ⟨k, tx, key, nn⟩).2.2]) ∧ Done w S b st w' := by
  have HS0 := Aside0.mk h
  have ht : (litI tx).wf = true := by
    have : IntKind.i64.min ≤ tx ∧ tx ≤ IntKind.i64.max := ⟨Int.le_trans (by decide) hx.1, Int.le_trans (Int.le_of_lt hx.2) (by decide)⟩
    simpa [litI, Lit.wf] using this
  obtain ⟨vl, vk, vg, m, n, D, h, hn⟩ := h
  obtain ⟨vp, hp, hvp⟩ := h.parts.val tx ht
  have hxx := h.parts.has tx ht
  rw [hi] at hxx
  generalize hpp : (st.parts tx).getD zeroP = p at hp hvp hpa he hst ⊢
  obtain ⟨A2, c2, rfl⟩ := Kd.R_slice hvp
  have h1 := h.below (wr1_below w k tx key nn)
  have r1 := look_run (W := (wr1 w k tx key nn).drew) h1.map.drew ht hp hxx
  have r2 := look_run (W := ((wr1 w k tx key nn).alloc (.cells #[.int .i64 0, .slice none 0 0, .bool false, .int .i64 0] 40)).drew) (h1.map.alloc _).drew ht hp hxx
  obtain ⟨x0, x1, x2, x3⟩ := h1.cells
  have HG := Aside0.mk (good_calls b m _ x2)
  obtain ⟨⟨u0, u1, u2, u3⟩, _⟩ := four (wr1_r w k tx key nn)
  have x2z := (h1.below (below_alloc (Below.refl _ _) (.cells #[.int .i64 0, .slice none 0 0, .bool false, .int .i64 0] 40))).cells.2.2.1
  have u1z : ((wr1 w k tx key nn).alloc (.cells #[.int .i64 0, .slice none 0 0, .bool false, .int .i64 0] 40)).cell? ⟨w.heap.size, 1, none⟩ = some (.int .i64 tx) := by
    have := (Below.heap_alloc (wr1 w k tx key nn) (.cells #[.int .i64 0, .slice none 0 0, .bool false, .int .i64 0] 40) w.heap.size (by simp)).trans (wr1_r w k tx key nn)
    exact (four this).1.2.1
  have a1 : decide (k < 1) = false := decide_eq_false (by omega)
  have a2 : decide (6 < k) = false := decide_eq_false (by omega)
  have a3 : decide (tx < 0) = false := decide_eq_false (by omega)
  have a4 : decide (1000 ≤ tx) = false := decide_eq_false (by omega)
  have HB1 := Aside0.mk (below_alloc (wr1_below w k tx key nn) (.cells #[.int .i64 p.st, .slice A2 p.adds.length c2, .bool p.loc, .int .i64 p.out] 40))
  have HBW := Aside0.mk (below_drew HB1.out)
  have h3 := h.below HBW.out
  have hvp3 : Kd.R k73 73 ((wr1 w k tx key nn).alloc (.cells #[.int .i64 p.st, .slice A2 p.adds.length c2, .bool p.loc, .int .i64 p.out] 40)).drew 0 S (.slice A2 p.adds.length c2) p.adds := row_chg eD hvp (Chg.of_below HBW.out (fun _ => False)) (fun _ _ hk => hk)
  have HST := Aside0.mk (step_calls h3 p (.slice A2 p.adds.length c2) ⟨k, tx, key, nn⟩ hvp3 hk hs hpa ht (by unfold maxLen; have := hs.log; omega))
  have HN := Aside0.mk hn
  have HL := Aside0.mk hs.log
  have HBD := Aside0.mk h3.bound
  have HLG : Aside0 ((stepS st p ⟨k, tx, key, nn⟩).1.log = st.log) := ⟨stepS_log st p _⟩
  have HRB := Aside0.mk ((Below.heap_alloc (wr1 w k tx key nn) (.cells #[.int .i64 p.st, .slice A2 p.adds.length c2, .bool p.loc, .int .i64 p.out] 40) w.heap.size (by simp)).trans (wr1_r w k tx key nn) : (((wr1 w k tx key nn).alloc (.cells #[.int .i64 p.st, .slice A2 p.adds.length c2, .bool p.loc, .int .i64 p.out] 40)).drew).heap[w.heap.size]? = _)
  have HSB := Aside0.mk h.bound
  have HSBB := Aside0.mk h.sb
  simp only at HST
  generalize stepS st p ⟨k, tx, key, nn⟩ = out at HST he HLG hst ⊢
  obtain ⟨st', rn, re⟩ := out
  simp only at HST he HLG hst ⊢
  subst hst
  have q5 : (re != 0) = true := by simpa using he
  have HE := Aside0.mk he
  clear h h1 h3 hvp3 hn hp hvp hxx ht hx hi hpp x0 x1 x3 hk hs hpa he
  go_enter Try.func14, Try.ntmps14
  go_wp2_with (go_at_call 26; with_reducible refine (HG.out).mono ?_; rintro e w1 ⟨rfl, rfl⟩)
  go_region
  all_goals
    clear r1 r2
    go_wp2_with (go_at_call 27; with_reducible refine (HST.out).mono ?_; rintro e w5 ⟨rfl, hx⟩; have HX := Aside0.mk hx; clear hx)
    go_ret2
    obtain ⟨S', vl', vk', vg', m', n', D', hA, hB, hB2, hC, hD⟩ := HX.out
    exact ⟨rfl, S', ⟨vl', vk', vg', m', n', D', hA, Nat.le_trans (hB2 HE.out) HN.out⟩, fun k hk => (hC k hk).imp id (fun h => Nat.le_trans HBW.out.size h), (Chg.of_below HBW.out S).trans hD (fun k hk => .inl hk)⟩
set_option maxRecDepth 100000 in
set_option maxHeartbeats 8000000 in
theorem do_ok_b (h : Site w S b st) (k tx key nn : Int) (hk : 1 ≤ k ∧ k ≤ 6) (hx : 0 ≤ tx ∧ tx < 1000) (hi : (st.parts tx).isSome = false) (h1k : (k == 1) = true) (hs : Small st) (hpa : ((st.parts tx).getD zeroP).adds.length ≤ 1000000000) (he : (stepS st ((st.parts tx).getD zeroP) ⟨k, tx, key, nn⟩).2.2 = 0) :
    Calls Try.prog 14 #[.pointer (some ⟨b, 0, none⟩), .agg #[.int .i64 k, .int .i64 tx, .int .u8 key, .int .i64 nn]] w fun e w' => e = .returned (.tuple #[.int .i64 (stepS st ((st.parts tx).getD zeroP) ⟨k, tx, key, nn⟩).2.1, .int .i64 0]) ∧ Done w S b { (stepS st ((st.parts tx).getD zeroP) ⟨k, tx, key, nn⟩).1 with log := (stepS st ((st.parts tx).getD zeroP) ⟨k, tx, key, nn⟩).1.log ++ [⟨k, tx, key, nn⟩] } w' := by
  have HS0 := Aside0.mk h
  have ht : (litI tx).wf = true := by
    have : IntKind.i64.min ≤ tx ∧ tx ≤ IntKind.i64.max := ⟨Int.le_trans (by decide) hx.1, Int.le_trans (Int.le_of_lt hx.2) (by decide)⟩
    simpa [litI, Lit.wf] using this
  obtain ⟨vl, vk, vg, m, n, D, h, hn⟩ := h
  obtain ⟨vp, hp, hvp⟩ := h.parts.val tx ht
  have hxx := h.parts.has tx ht
  rw [hi] at hxx
  generalize hpp : (st.parts tx).getD zeroP = p at hp hvp hpa he ⊢
  obtain ⟨A2, c2, rfl⟩ := Kd.R_slice hvp
  have h1 := h.below (wr1_below w k tx key nn)
  have r1 := look_run (W := (wr1 w k tx key nn).drew) h1.map.drew ht hp hxx
  have r2 := look_run (W := ((wr1 w k tx key nn).alloc (.cells #[.int .i64 0, .slice none 0 0, .bool false, .int .i64 0] 40)).drew) (h1.map.alloc _).drew ht hp hxx
  obtain ⟨x0, x1, x2, x3⟩ := h1.cells
  have HG := Aside0.mk (good_calls b m _ x2)
  obtain ⟨⟨u0, u1, u2, u3⟩, _⟩ := four (wr1_r w k tx key nn)
  have x2z := (h1.below (below_alloc (Below.refl _ _) (.cells #[.int .i64 0, .slice none 0 0, .bool false, .int .i64 0] 40))).cells.2.2.1
  have u1z : ((wr1 w k tx key nn).alloc (.cells #[.int .i64 0, .slice none 0 0, .bool false, .int .i64 0] 40)).cell? ⟨w.heap.size, 1, none⟩ = some (.int .i64 tx) := by
    have := (Below.heap_alloc (wr1 w k tx key nn) (.cells #[.int .i64 0, .slice none 0 0, .bool false, .int .i64 0] 40) w.heap.size (by simp)).trans (wr1_r w k tx key nn)
    exact (four this).1.2.1
  have a1 : decide (k < 1) = false := decide_eq_false (by omega)
  have a2 : decide (6 < k) = false := decide_eq_false (by omega)
  have a3 : decide (tx < 0) = false := decide_eq_false (by omega)
  have a4 : decide (1000 ≤ tx) = false := decide_eq_false (by omega)
  have HB1 := Aside0.mk (below_alloc (wr1_below w k tx key nn) (.cells #[.int .i64 p.st, .slice A2 p.adds.length c2, .bool p.loc, .int .i64 p.out] 40))
  have HBW := Aside0.mk (below_drew HB1.out)
  have h3 := h.below HBW.out
  have hvp3 : Kd.R k73 73 ((wr1 w k tx key nn).alloc (.cells #[.int .i64 p.st, .slice A2 p.adds.length c2, .bool p.loc, .int .i64 p.out] 40)).drew 0 S (.slice A2 p.adds.length c2) p.adds := row_chg eD hvp (Chg.of_below HBW.out (fun _ => False)) (fun _ _ hk => hk)
  have HST := Aside0.mk (step_calls h3 p (.slice A2 p.adds.length c2) ⟨k, tx, key, nn⟩ hvp3 hk hs hpa ht (by unfold maxLen; have := hs.log; omega))
  have HN := Aside0.mk hn
  have HL := Aside0.mk hs.log
  have HBD := Aside0.mk h3.bound
  have HLG : Aside0 ((stepS st p ⟨k, tx, key, nn⟩).1.log = st.log) := ⟨stepS_log st p _⟩
  have HRB := Aside0.mk ((Below.heap_alloc (wr1 w k tx key nn) (.cells #[.int .i64 p.st, .slice A2 p.adds.length c2, .bool p.loc, .int .i64 p.out] 40) w.heap.size (by simp)).trans (wr1_r w k tx key nn) : (((wr1 w k tx key nn).alloc (.cells #[.int .i64 p.st, .slice A2 p.adds.length c2, .bool p.loc, .int .i64 p.out] 40)).drew).heap[w.heap.size]? = _)
  have HSB := Aside0.mk h.bound
  have HSBB := Aside0.mk h.sb
  simp only at HST
  generalize stepS st p ⟨k, tx, key, nn⟩ = out at HST he HLG ⊢
  obtain ⟨st', rn, re⟩ := out
  simp only at HST he HLG ⊢
  obtain rfl : re = 0 := he
  clear h h1 h3 hvp3 hn hp hvp hxx ht hx hi hpp x0 x1 x3 hk hs hpa
  go_enter Try.func14, Try.ntmps14
  go_wp2_with (go_at_call 26; with_reducible refine (HG.out).mono ?_; rintro e w1 ⟨rfl, rfl⟩)
  go_region
  all_goals
    clear r1 r2
    go_wp2_with (go_at_call 27; with_reducible refine (HST.out).mono ?_; rintro e w5 ⟨rfl, hx⟩; have HX := Aside0.mk hx; clear hx)
    obtain ⟨S', vl', vk', vg', m', n', D', hA, hB, _, hC, hD⟩ := HX.out
    have HA := Aside0.mk hA
    have HB := Aside0.mk hB
    have HC := Aside0.mk hC
    have HD := Aside0.mk hD
    clear hA hB hC hD
    obtain ⟨A3, c3, rfl⟩ := Kd.R_slice HA.out.log
    have HR5 := Aside0.mk ((HD.out.kp w.heap.size (by simp; omega) (fun hs => by have := HSB.out _ hs; omega)).trans HRB.out)
    have HAX := Aside0.mk (HA.out.below (below_drew (below_alloc (Below.refl _ _) (.cells #[.int .i64 k, .int .i64 tx, .int .u8 key, .int .i64 nn] 35))))
    obtain ⟨v1, wl, hrun, hrl, hgl⟩ := append_log (W := (w5.alloc (.cells #[.int .i64 k, .int .i64 tx, .int .u8 key, .int .i64 nn] 35)).drew) HAX.out.log ⟨k, tx, key, nn⟩ (by rw [HLG.out]; have := HL.out; omega) w5.heap.size (heap_alloc_new w5 _)
    have HRUN := Aside0.mk hrun
    have HGL := Aside0.mk hgl
    obtain ⟨A4, c4, rfl⟩ := Kd.R_slice hrl
    have HRL := Aside0.mk hrl
    have HFIN := Aside0.mk (HAX.out.setLog HGL.out (fun _ hk => .inl hk) HRL.out (fun k hk => hk.elim (fun h => Nat.lt_of_lt_of_le (HAX.out.bound k h) HGL.out.size) (fun h => h.2)))
    have HBL := Aside0.mk (HAX.out.boxLog HGL.out)
    obtain ⟨y0, y1, y2, y3⟩ := HA.out.cells
    have y3z := HAX.out.cells.2.2.2
    obtain ⟨⟨t0, t1, t2, t3⟩, _⟩ := four HR5.out
    have y3l : wl.cell? ⟨b, 3, none⟩ = some (.slice A3 st'.log.length c3) := (blk_cell HBL.out 3).trans rfl
    have z3l := blk_frozen HBL.out 3
    clear y0 y1 y2 hrun hgl hrl u0 u1 u2 u3 u1z x2z x2
    go_region_law (refine Go.Proofs.Ytolpcfjmhimpeaa.HD.step_append_is rfl _ _ 53 53 rfl _ _ (by simp [Act.eval, Act.put]) (by simp [Act.eval, Act.put]) HRUN.out ?_)
    all_goals
      go_wp2
      go_ret2
      have hfin := HFIN.out
      rw [show (st'.log ++ [(⟨k, tx, key, nn⟩ : S35)]).length = st'.log.length + 1 from by simp] at hfin
      refine ⟨rfl, _, ⟨_, _, _, _, _, _, hfin, by have := HB.out; have := HN.out; simp [HLG.out]; omega⟩, fun k hk => ?_, ?_⟩
      · rcases hk with hk | hk
        · exact (HC.out k hk).imp id (fun h => Nat.le_trans HBW.out.size h)
        · exact .inr (Nat.le_trans (Nat.le_trans HBW.out.size (Nat.le_trans HD.out.size (Nat.le_succ _))) (by simpa using hk.1))
      · refine Chg.setCell (Chg.grown ((((Chg.of_below HBW.out S).trans HD.out (fun k hk => .inl hk)).alloc _).drew) HGL.out (fun k hk => ?_)) _ _ (.inl (HSBB.out))
        exact (HC.out k (HA.out.log.1 k hk)).imp id (fun h => Nat.le_trans HBW.out.size h)
set_option maxRecDepth 100000 in
set_option maxHeartbeats 8000000 in
theorem do_ok_o (h : Site w S b st) (k tx key nn : Int) (hk : 1 ≤ k ∧ k ≤ 6) (hx : 0 ≤ tx ∧ tx < 1000) (hi : (st.parts tx).isSome = true) (h1k : (k == 1) = false) (hs : Small st) (hpa : ((st.parts tx).getD zeroP).adds.length ≤ 1000000000) (he : (stepS st ((st.parts tx).getD zeroP) ⟨k, tx, key, nn⟩).2.2 = 0) :
    Calls Try.prog 14 #[.pointer (some ⟨b, 0, none⟩), .agg #[.int .i64 k, .int .i64 tx, .int .u8 key, .int .i64 nn]] w fun e w' => e = .returned (.tuple #[.int .i64 (stepS st ((st.parts tx).getD zeroP) ⟨k, tx, key, nn⟩).2.1, .int .i64 0]) ∧ Done w S b { (stepS st ((st.parts tx).getD zeroP) ⟨k, tx, key, nn⟩).1 with log := (stepS st ((st.parts tx).getD zeroP) ⟨k, tx, key, nn⟩).1.log ++ [⟨k, tx, key, nn⟩] } w' := by
  have HS0 := Aside0.mk h
  have ht : (litI tx).wf = true := by
    have : IntKind.i64.min ≤ tx ∧ tx ≤ IntKind.i64.max := ⟨Int.le_trans (by decide) hx.1, Int.le_trans (Int.le_of_lt hx.2) (by decide)⟩
    simpa [litI, Lit.wf] using this
  obtain ⟨vl, vk, vg, m, n, D, h, hn⟩ := h
  obtain ⟨vp, hp, hvp⟩ := h.parts.val tx ht
  have hxx := h.parts.has tx ht
  rw [hi] at hxx
  generalize hpp : (st.parts tx).getD zeroP = p at hp hvp hpa he ⊢
  obtain ⟨A2, c2, rfl⟩ := Kd.R_slice hvp
  have h1 := h.below (wr1_below w k tx key nn)
  have r1 := look_run (W := (wr1 w k tx key nn).drew) h1.map.drew ht hp hxx
  have r2 := look_run (W := ((wr1 w k tx key nn).alloc (.cells #[.int .i64 0, .slice none 0 0, .bool false, .int .i64 0] 40)).drew) (h1.map.alloc _).drew ht hp hxx
  obtain ⟨x0, x1, x2, x3⟩ := h1.cells
  have HG := Aside0.mk (good_calls b m _ x2)
  obtain ⟨⟨u0, u1, u2, u3⟩, _⟩ := four (wr1_r w k tx key nn)
  have x2z := (h1.below (below_alloc (Below.refl _ _) (.cells #[.int .i64 0, .slice none 0 0, .bool false, .int .i64 0] 40))).cells.2.2.1
  have u1z : ((wr1 w k tx key nn).alloc (.cells #[.int .i64 0, .slice none 0 0, .bool false, .int .i64 0] 40)).cell? ⟨w.heap.size, 1, none⟩ = some (.int .i64 tx) := by
    have := (Below.heap_alloc (wr1 w k tx key nn) (.cells #[.int .i64 0, .slice none 0 0, .bool false, .int .i64 0] 40) w.heap.size (by simp)).trans (wr1_r w k tx key nn)
    exact (four this).1.2.1
  have a1 : decide (k < 1) = false := decide_eq_false (by omega)
  have a2 : decide (6 < k) = false := decide_eq_false (by omega)
  have a3 : decide (tx < 0) = false := decide_eq_false (by omega)
  have a4 : decide (1000 ≤ tx) = false := decide_eq_false (by omega)
  have HB1 := Aside0.mk (below_alloc (wr1_below w k tx key nn) (.cells #[.int .i64 p.st, .slice A2 p.adds.length c2, .bool p.loc, .int .i64 p.out] 40))
  have HBW := Aside0.mk (below_drew HB1.out)
  have h3 := h.below HBW.out
  have hvp3 : Kd.R k73 73 ((wr1 w k tx key nn).alloc (.cells #[.int .i64 p.st, .slice A2 p.adds.length c2, .bool p.loc, .int .i64 p.out] 40)).drew 0 S (.slice A2 p.adds.length c2) p.adds := row_chg eD hvp (Chg.of_below HBW.out (fun _ => False)) (fun _ _ hk => hk)
  have HST := Aside0.mk (step_calls h3 p (.slice A2 p.adds.length c2) ⟨k, tx, key, nn⟩ hvp3 hk hs hpa ht (by unfold maxLen; have := hs.log; omega))
  have HN := Aside0.mk hn
  have HL := Aside0.mk hs.log
  have HBD := Aside0.mk h3.bound
  have HLG : Aside0 ((stepS st p ⟨k, tx, key, nn⟩).1.log = st.log) := ⟨stepS_log st p _⟩
  have HRB := Aside0.mk ((Below.heap_alloc (wr1 w k tx key nn) (.cells #[.int .i64 p.st, .slice A2 p.adds.length c2, .bool p.loc, .int .i64 p.out] 40) w.heap.size (by simp)).trans (wr1_r w k tx key nn) : (((wr1 w k tx key nn).alloc (.cells #[.int .i64 p.st, .slice A2 p.adds.length c2, .bool p.loc, .int .i64 p.out] 40)).drew).heap[w.heap.size]? = _)
  have HSB := Aside0.mk h.bound
  have HSBB := Aside0.mk h.sb
  simp only at HST
  generalize stepS st p ⟨k, tx, key, nn⟩ = out at HST he HLG ⊢
  obtain ⟨st', rn, re⟩ := out
  simp only at HST he HLG ⊢
  obtain rfl : re = 0 := he
  clear h h1 h3 hvp3 hn hp hvp hxx ht hx hi hpp x0 x1 x3 hk hs hpa
  go_enter Try.func14, Try.ntmps14
  go_wp2_with (go_at_call 26; with_reducible refine (HG.out).mono ?_; rintro e w1 ⟨rfl, rfl⟩)
  go_region
  all_goals
    clear r1 r2
    go_wp2_with (go_at_call 27; with_reducible refine (HST.out).mono ?_; rintro e w5 ⟨rfl, hx⟩; have HX := Aside0.mk hx; clear hx)
    obtain ⟨S', vl', vk', vg', m', n', D', hA, hB, _, hC, hD⟩ := HX.out
    have HA := Aside0.mk hA
    have HB := Aside0.mk hB
    have HC := Aside0.mk hC
    have HD := Aside0.mk hD
    clear hA hB hC hD
    obtain ⟨A3, c3, rfl⟩ := Kd.R_slice HA.out.log
    have HR5 := Aside0.mk ((HD.out.kp w.heap.size (by simp; omega) (fun hs => by have := HSB.out _ hs; omega)).trans HRB.out)
    have HAX := Aside0.mk (HA.out.below (below_drew (below_alloc (Below.refl _ _) (.cells #[.int .i64 k, .int .i64 tx, .int .u8 key, .int .i64 nn] 35))))
    obtain ⟨v1, wl, hrun, hrl, hgl⟩ := append_log (W := (w5.alloc (.cells #[.int .i64 k, .int .i64 tx, .int .u8 key, .int .i64 nn] 35)).drew) HAX.out.log ⟨k, tx, key, nn⟩ (by rw [HLG.out]; have := HL.out; omega) w5.heap.size (heap_alloc_new w5 _)
    have HRUN := Aside0.mk hrun
    have HGL := Aside0.mk hgl
    obtain ⟨A4, c4, rfl⟩ := Kd.R_slice hrl
    have HRL := Aside0.mk hrl
    have HFIN := Aside0.mk (HAX.out.setLog HGL.out (fun _ hk => .inl hk) HRL.out (fun k hk => hk.elim (fun h => Nat.lt_of_lt_of_le (HAX.out.bound k h) HGL.out.size) (fun h => h.2)))
    have HBL := Aside0.mk (HAX.out.boxLog HGL.out)
    obtain ⟨y0, y1, y2, y3⟩ := HA.out.cells
    have y3z := HAX.out.cells.2.2.2
    obtain ⟨⟨t0, t1, t2, t3⟩, _⟩ := four HR5.out
    have y3l : wl.cell? ⟨b, 3, none⟩ = some (.slice A3 st'.log.length c3) := (blk_cell HBL.out 3).trans rfl
    have z3l := blk_frozen HBL.out 3
    clear y0 y1 y2 hrun hgl hrl u0 u1 u2 u3 u1z x2z x2
    go_region_law (refine Go.Proofs.Ytolpcfjmhimpeaa.HD.step_append_is rfl _ _ 53 53 rfl _ _ (by simp [Act.eval, Act.put]) (by simp [Act.eval, Act.put]) HRUN.out ?_)
    all_goals
      go_wp2
      go_ret2
      have hfin := HFIN.out
      rw [show (st'.log ++ [(⟨k, tx, key, nn⟩ : S35)]).length = st'.log.length + 1 from by simp] at hfin
      refine ⟨rfl, _, ⟨_, _, _, _, _, _, hfin, by have := HB.out; have := HN.out; simp [HLG.out]; omega⟩, fun k hk => ?_, ?_⟩
      · rcases hk with hk | hk
        · exact (HC.out k hk).imp id (fun h => Nat.le_trans HBW.out.size h)
        · exact .inr (Nat.le_trans (Nat.le_trans HBW.out.size (Nat.le_trans HD.out.size (Nat.le_succ _))) (by simpa using hk.1))
      · refine Chg.setCell (Chg.grown ((((Chg.of_below HBW.out S).trans HD.out (fun k hk => .inl hk)).alloc _).drew) HGL.out (fun k hk => ?_)) _ _ (.inl (HSBB.out))
        exact (HC.out k (HA.out.log.1 k hk)).imp id (fun h => Nat.le_trans HBW.out.size h)
end
end Go.Proofs.Ytolpcfjmhimpeaa.HS

/- (*site.Site).Do, all ways; how large a site grows. -/

namespace Go.Proofs.Ytolpcfjmhimpeaa.HS
open Go.RowKit Go.Proofs.YtolpcfjmhimpeaaW.PrintWords Go.Proofs.YtolpcfjmhimpeaaW.PrintLast Go.Proofs.YtolpcfjmhimpeaaW.PrintMore Go.Proofs.Ytolpcfjmhimpeaa.P
open Go.Maps (Keyed)
open Go.ChangeMaps Go.MapKept
set_option linter.unusedVariables false
set_option linter.unusedSimpArgs false

section
variable {w W : World} {S : Nat → Prop} {b m n : Nat} {st : PSite} {vl vk vg : Value} {D : DataW Value}
theorem do_calls (h : Site w S b st) (hs : Small st) (r : S35) :
    Calls Try.prog 14 #[.pointer (some ⟨b, 0, none⟩), .agg #[.int .i64 r.f0, .int .i64 r.f1, .int .u8 r.f2, .int .i64 r.f3]] w fun e w' =>
      e = .returned (.tuple #[.int .i64 (doS st r).2.1, .int .i64 (doS st r).2.2]) ∧ Done w S b (doS st r).1 w' := by
  obtain ⟨k, tx, key, nn⟩ := r
  unfold doS
  simp only
  by_cases hc : k < 1 ∨ 6 < k ∨ tx < 0 ∨ 1000 ≤ tx
  · rw [if_pos hc]
    exact do_arg h k tx key nn hc
  · rw [if_neg hc]
    have hk : 1 ≤ k ∧ k ≤ 6 := by omega
    have hx : 0 ≤ tx ∧ tx < 1000 := by omega
    have hpa : ((st.parts tx).getD zeroP).adds.length ≤ 1000000000 := by
      cases hp : st.parts tx with
      | none => simp [zeroP]
      | some p => exact hs.parts tx p hp
    cases hi : (st.parts tx).isSome with
    | true =>
      by_cases h1 : k = 1
      · rw [if_pos ⟨rfl, h1⟩]
        exact do_have h k tx key nn hk hx hi (by simpa using h1)
      · rw [if_neg (fun h => h1 h.2), if_neg (fun h => by cases h.1)]
        have h1' : (k == 1) = false := by simpa using h1
        by_cases h2 : (stepS st ((st.parts tx).getD zeroP) ⟨k, tx, key, nn⟩).2.2 ≠ 0
        · rw [if_pos h2]
          exact do_err_o h k tx key nn hk hx hi h1' hs hpa h2 (stepS_err _ _ _ h2)
        · rw [if_neg h2]
          exact do_ok_o h k tx key nn hk hx hi h1' hs hpa (by simpa using h2)
    | false =>
      by_cases h1 : k = 1
      · rw [if_neg (fun h => by cases h.1), if_neg (fun h => h.2 h1)]
        have h1' : (k == 1) = true := by simpa using h1
        by_cases h2 : (stepS st ((st.parts tx).getD zeroP) ⟨k, tx, key, nn⟩).2.2 ≠ 0
        · rw [if_pos h2]
          exact do_err_b h k tx key nn hk hx hi h1' hs hpa h2 (stepS_err _ _ _ h2)
        · rw [if_neg h2]
          exact do_ok_b h k tx key nn hk hx hi h1' hs hpa (by simpa using h2)
      · rw [if_neg (fun h => by cases h.1), if_pos ⟨rfl, h1⟩]
        exact do_none h k tx key nn hk hx hi (by simpa using h1)

/-! A site that no call made. -/
set_option maxRecDepth 100000 in
set_option maxHeartbeats 2000000 in
theorem do_nil (w : World) (k tx key nn : Int) : Calls Try.prog 14 #[.pointer none, .agg #[.int .i64 k, .int .i64 tx, .int .u8 key, .int .i64 nn]] w fun e w' => e = .returned (.tuple #[.int .i64 0, .int .i64 1]) ∧ Below w.heap.size w w' := by
  have HB := Aside0.mk (wr1_below w k tx key nn)
  have HG := Aside0.mk (good_nil (wr1 w k tx key nn))
  go_enter Try.func14, Try.ntmps14
  go_wp2_with (go_at_call 26; with_reducible refine (HG.out).mono ?_; rintro e w1 ⟨rfl, rfl⟩)
  go_ret2
  exact ⟨rfl, HB.out⟩
set_option maxRecDepth 100000 in
set_option maxHeartbeats 2000000 in
theorem do_empty (b : Nat) (w : World) (k tx key nn : Int) (hc : w.cell? ⟨b, 2, none⟩ = some (.map none)) : Calls Try.prog 14 #[.pointer (some ⟨b, 0, none⟩), .agg #[.int .i64 k, .int .i64 tx, .int .u8 key, .int .i64 nn]] w fun e w' => e = .returned (.tuple #[.int .i64 0, .int .i64 1]) ∧ Below w.heap.size w w' := by
  have HB := Aside0.mk (wr1_below w k tx key nn)
  have HG := Aside0.mk (good_empty b (wr1 w k tx key nn) ((HB.out.cell (World.block_lt_of_cell? w _ hc)).trans hc))
  clear hc
  go_enter Try.func14, Try.ntmps14
  go_wp2_with (go_at_call 26; with_reducible refine (HG.out).mono ?_; rintro e w1 ⟨rfl, rfl⟩)
  go_ret2
  exact ⟨rfl, HB.out⟩
end

/-! How large. -/
structure Cnt (N : Nat) (s : PSite) : Prop where
  led : s.led.length ≤ 50 * N
  locks : s.locks.length ≤ N
  log : s.log.length ≤ N
  parts : ∀ i p, s.parts i = some p → p.adds.length ≤ 50
theorem Cnt.small {N : Nat} {s : PSite} (h : Cnt N s) (hN : N ≤ 1000000) : Small s :=
  ⟨by have := h.led; omega, by have := h.locks; omega, by have := h.log; omega, fun i p hp => by have := h.parts i p hp; omega⟩
theorem Cnt.new : Cnt 0 newS := ⟨by simp [newS], by simp [newS], by simp [newS], fun i p hp => by cases hp⟩
theorem Cnt.mono {N M : Nat} {s : PSite} (h : Cnt N s) (hN : N ≤ M) : Cnt M s :=
  ⟨by have := h.led; omega, by have := h.locks; omega, by have := h.log; omega, h.parts⟩
theorem takeP_len (l : List S119) (tx key : Int) (wr : Bool) : (H.takeP l tx key wr).1.length ≤ l.length + 1 := by
  unfold H.takeP
  split
  · exact Nat.le_succ _
  · split
    · exact Nat.le_succ _
    · split
      · exact Nat.le_succ _
      · split
        · simp
        · show (H.insH l _ _).length ≤ _
          unfold H.insH
          simp
          omega
theorem keep_len (p : S119 → Bool) (l : List S119) : (H.keep p l).length ≤ l.length := H.keep_len p l
theorem putP_len (l d : List S73) : (putP l d).length ≤ l.length + d.length := by
  unfold putP
  split
  · exact HD.putL_len l d
  · omega
theorem addP_adds (p : PPart) (x : S73) (h : p.adds.length ≤ 50) : (addP p x).1.adds.length ≤ 50 := by
  unfold addP
  split
  · exact h
  · split
    · exact h
    · split
      · exact h
      · simp; omega
theorem endD_adds (p : PPart) (r : S35) (h : p.adds.length ≤ 50) : (endD p r).1.adds.length ≤ 50 ∧ (endD p r).2.1.length ≤ 50 := by
  unfold endD
  split
  · refine ⟨?_, by simp⟩
    unfold voteP
    repeat (first | exact h | split)
  · split
    · unfold localP
      repeat (first | exact ⟨h, h⟩ | exact ⟨h, by simp⟩ | split)
    · split
      · unfold decideP
        split
        · exact ⟨h, by simp⟩
        · split
          · exact ⟨h, by simp⟩
          · split
            · exact ⟨h, by simp⟩
            · refine ⟨h, ?_⟩
              simp only
              split
              · simp
              · split
                · rw [oppL_len]; exact h
                · exact h
      · exact ⟨h, by simp⟩
theorem upd_adds {f : Int → Option PPart} (h : ∀ i p, f i = some p → p.adds.length ≤ 50) (tx : Int) {q : PPart} (hq : q.adds.length ≤ 50) : ∀ i p, upd f tx q i = some p → p.adds.length ≤ 50 := fun i p hp => by
  unfold upd at hp
  split at hp
  · injection hp with hp; subst hp; exact hq
  · exact h i p hp
theorem stepS_cnt {N : Nat} {s : PSite} (h : Cnt N s) (p : PPart) (hp : p.adds.length ≤ 50) (r : S35) : (stepS s p r).1.led.length ≤ 50 * (N + 1) ∧ (stepS s p r).1.locks.length ≤ N + 1 ∧ ∀ i p', (stepS s p r).1.parts i = some p' → p'.adds.length ≤ 50 := by
  have h1 := h.led
  have h2 := h.locks
  have h3 := takeP_len s.locks r.f1 r.f2 (r.f0 == 3)
  unfold stepS
  split
  · exact ⟨by simp only; omega, by simp only; omega, upd_adds h.parts _ hp⟩
  · split
    · unfold accessS
      split
      · exact ⟨by simp only; omega, by simp only; omega, h.parts⟩
      · split
        · exact ⟨by simp only; omega, by simp only; omega, h.parts⟩
        · split
          · split
            · exact ⟨by simp only; omega, by simp only; omega, h.parts⟩
            · exact ⟨by simp only; omega, by simp only; omega, upd_adds h.parts _ (addP_adds _ _ hp)⟩
          · exact ⟨by simp only; omega, by simp only; omega, h.parts⟩
    · have h4 := endD_adds p r hp
      have h5 := putP_len s.led (endD p r).2.1
      have h6 := keep_len (H.ofTx r.f1) s.locks
      unfold endS
      split
      · exact ⟨by simp only; omega, by simp only; omega, h.parts⟩
      · refine ⟨by simp only; omega, ?_, upd_adds h.parts _ h4.1⟩
        simp only
        split
        · unfold freeP; omega
        · omega
theorem doS_log (s : PSite) (r : S35) : (doS s r).1.log = if (doS s r).2.2 = 0 then s.log ++ [r] else s.log := by
  unfold doS
  split
  · rfl
  · split
    · rfl
    · split
      · rfl
      · split
        · first | rfl | (rename_i h; rw [if_neg h])
        · first | rfl | (simp only [if_true]; rw [stepS_log]) | rw [stepS_log]
theorem doS_err (s : PSite) (r : S35) (h : (doS s r).2.2 ≠ 0) : (doS s r).1 = s ∧ (doS s r).2.1 = 0 := by
  unfold doS at *
  split at h
  · rename_i h1; rw [if_pos h1]; exact ⟨rfl, rfl⟩
  · rename_i h1
    rw [if_neg h1]
    split at h
    · rename_i h2; rw [if_pos h2]; exact ⟨rfl, rfl⟩
    · rename_i h2
      rw [if_neg h2]
      split at h
      · rename_i h3; rw [if_pos h3]; exact ⟨rfl, rfl⟩
      · rename_i h3
        rw [if_neg h3]
        split at h
        · rename_i h4; rw [if_pos h4]; exact ⟨rfl, rfl⟩
        · exact absurd rfl h
theorem Cnt.step {N : Nat} {s : PSite} (h : Cnt N s) (r : S35) : Cnt (N + 1) (doS s r).1 := by
  by_cases he : (doS s r).2.2 ≠ 0
  · rw [(doS_err s r he).1]
    exact h.mono (by omega)
  · have hlog := doS_log s r
    rw [if_pos (by simpa using he)] at hlog
    have hpa : ((s.parts r.f1).getD zeroP).adds.length ≤ 50 := by
      cases hp : s.parts r.f1 with
      | none => simp [zeroP]
      | some p => exact h.parts _ p hp
    have hst := stepS_cnt h _ hpa r
    refine ⟨?_, ?_, by rw [hlog]; have := h.log; simp; omega, ?_⟩
    all_goals
      unfold doS at *
      split
      · have := h.led; have := h.locks; first | (simp only; omega) | exact h.parts
      · split
        · have := h.led; have := h.locks; first | (simp only; omega) | exact h.parts
        · split
          · have := h.led; have := h.locks; first | (simp only; omega) | exact h.parts
          · split
            · have := h.led; have := h.locks; first | (simp only; omega) | exact h.parts
            · first | exact hst.1 | exact hst.2.1 | exact hst.2.2
end Go.Proofs.Ytolpcfjmhimpeaa.HS
