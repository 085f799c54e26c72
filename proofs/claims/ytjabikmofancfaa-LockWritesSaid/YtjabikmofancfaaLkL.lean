
import Derived.Test.YtjabikmofancfaaLkK
namespace Go.Proofs.Ytjabikmofancfaa.H
open Go.RowKit Go.Proofs.YtjabikmofancfaaW.PrintWords Go.Proofs.YtjabikmofancfaaW.PrintLast Go.Proofs.Ytjabikmofancfaa.P
set_option linter.unusedVariables false
set_option linter.unusedSimpArgs false

theorem insert_calls (l : List S45) (v : Value) (i vb : Nat) (x : S45) (w0 w : World) (hB : Below w0.heap.size w0 w) (HO : Kd.R k45 45 w w0.heap.size (fun _ => True) v l) (hi : i ≤ l.length) (hne : v.ownBlock ≠ some vb)
    (hx : w.heap[vb]? = some (.cells (cellsH x).toArray 45 (0, 0))) (hl : l.length + 1 ≤ 5864062014805) :
    Calls Try.prog 22 #[v, .int .i64 (i : Int), .slice (some ⟨vb, 0, none⟩) 1 1] w fun e w' => ∃ v1, e = .returned v1 ∧ Kd.R k45 45 w' w0.heap.size (fun _ => True) v1 (insH l i x) ∧ Below w0.heap.size w0 w' := by
  by_cases he : i = l.length
  · subst he
    exact insert_end l v x vb w0 w hB HO hx hl
  · rcases own_row flatK HO with ⟨rfl, rfl⟩ | ⟨G, cap, f, rfl, hG, hc, hm, hrow, hf⟩
    · simp at hi he; omega
    · have hne' : vb ≠ G := fun e => hne (by simp [Value.ownBlock, e])
      by_cases hcc : l.length + 1 ≤ cap
      · exact insert_place l G cap i vb f x w0 w hB hG (by omega) hcc hm hne' hrow (atH_of hf) hx hl
      · exact insert_grow l G cap i vb f x w0 w hB hG (by omega) hc (by omega) hrow (atH_of hf) hx hl

def confl (tx key : Int) (wr : Bool) (h : S45) : Bool := h.f0 == key && h.f1 != tx && (wr || h.f2)
def spot (l : List S45) (x : S45) : Int := bs (lessH l x) l.length 0 l.length
def found (l : List S45) (x : S45) : Bool := decide (spot l x < (l.length : Int)) && ordI (rd_T45 l (spot l x)) x == 0
def takeP (l : List S45) (tx key : Int) (wr : Bool) : List S45 × Int :=
  if right l = false then (l, 2) else if mayB tx key = false then (l, 2) else if l.any (confl tx key wr) = true then (l, 9) else
  if found l ⟨key, tx, wr⟩ = true then (l.set (spot l ⟨key, tx, wr⟩).toNat ⟨(rd_T45 l (spot l ⟨key, tx, wr⟩)).f0, (rd_T45 l (spot l ⟨key, tx, wr⟩)).f1, (rd_T45 l (spot l ⟨key, tx, wr⟩)).f2 || wr⟩, 0)
  else (insH l (spot l ⟨key, tx, wr⟩).toNat ⟨key, tx, wr⟩, 0)
def takeF (l : List S45) (tx key : Int) (wr : Bool) : Option (List S45 × Int) := if l.length + 1 ≤ 5864062014805 then some (takeP l tx key wr) else none

set_option maxRecDepth 100000 in
set_option maxHeartbeats 4000000 in
theorem take_bad (A : Option Addr) (c : Nat) (l : List S45) (tx key : Int) (wr : Bool) (w : World) (hr : Kd.C k45 w A l.length l) (hc : l.length ≤ c) (hl : l.length + 1 ≤ 5864062014805) (h : right l = false ∨ right l = true ∧ mayB tx key = false) :
    Calls Try.prog 9 #[.slice A l.length c, .int .i64 tx, .int .u8 key, .bool wr] w fun e w' => ∃ v0_ : Value, e = .returned (.tuple #[v0_, .int .i64 2]) ∧ Kd.R k45 45 w' w.heap.size (fun _ => True) v0_ l ∧ Below w.heap.size w w' := by
  have HC := Aside0.mk (clone_calls A c l w hr (by omega))
  have HRt := Aside0.mk (fun A c W (hr : Kd.C k45 W A l.length l) (hc : l.length ≤ c) => right_calls A c l (right l) W hr hc rfl)
  have HM := Aside0.mk (fun W => may_calls tx key W)
  clear hr hc hl
  rcases h with h | ⟨h, h2⟩
  · rw [h] at HRt
    clear h
    go_enter Try.func9, Try.ntmps9
    go_wp2_with (first | (go_at_call 18; refine HC.out.mono ?_; rintro e w1 ⟨v1, rfl, hR1, hb1⟩; obtain ⟨A1, c1, hv, hlc, hC1⟩ := Kd.R_reads hR1; subst hv; have HR1 := Aside0.mk hR1; have HB1 := Aside0.mk hb1; have HL1 := Aside0.mk hlc; have HC1 := Aside0.mk hC1; clear hR1 hb1 hlc hC1) | (go_at_call 15; refine (HRt.out _ _ _ HC1.out HL1.out).mono ?_; rintro e w2 ⟨rfl, hb2⟩; have HB2 := Aside0.mk hb2; clear hb2))
    go_ret2
    exact ⟨_, rfl, Kd.R_below HR1.out HB2.out, below_then HB1.out HB1.out.size HB2.out⟩
  · rw [h] at HRt
    rw [h2] at HM
    clear h h2
    go_enter Try.func9, Try.ntmps9
    go_wp2_with (first | (go_at_call 18; refine HC.out.mono ?_; rintro e w1 ⟨v1, rfl, hR1, hb1⟩; obtain ⟨A1, c1, hv, hlc, hC1⟩ := Kd.R_reads hR1; subst hv; have HR1 := Aside0.mk hR1; have HB1 := Aside0.mk hb1; have HL1 := Aside0.mk hlc; have HC1 := Aside0.mk hC1; clear hR1 hb1 hlc hC1) | (go_at_call 15; refine (HRt.out _ _ _ HC1.out HL1.out).mono ?_; rintro e w2 ⟨rfl, hb2⟩; have HB2 := Aside0.mk hb2; clear hb2) | (go_at_call 19; refine (HM.out _).mono ?_; rintro e w3 ⟨rfl, hb3⟩; have HB3 := Aside0.mk hb3; clear hb3))
    go_ret2
    exact ⟨_, rfl, Kd.R_below (Kd.R_below HR1.out HB2.out) HB3.out, below_then (below_then HB1.out HB1.out.size HB2.out) (by have := HB1.out.size; have := HB2.out.size; omega) HB3.out⟩
end Go.Proofs.Ytjabikmofancfaa.H
