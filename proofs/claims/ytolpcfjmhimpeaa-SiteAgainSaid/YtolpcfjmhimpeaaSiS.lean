/- site.Replay, of records that are all done; a site's own log is so. -/

import Derived.Test.YtolpcfjmhimpeaaSiR
namespace Go.Proofs.Ytolpcfjmhimpeaa.HS
open Go.RowKit Go.Proofs.YtolpcfjmhimpeaaW.PrintWords Go.Proofs.YtolpcfjmhimpeaaW.PrintLast Go.Proofs.YtolpcfjmhimpeaaW.PrintMore Go.Proofs.Ytolpcfjmhimpeaa.P
open Go.Maps (Keyed)
open Go.ChangeMaps Go.MapKept
set_option linter.unusedVariables false
set_option linter.unusedSimpArgs false

def runR (s : PSite) (l : List S35) : PSite := l.foldl (fun s r => (doS s r).1) s
theorem rdC (l : List S35) (i : Nat) (h : i < l.length) : rd_T35 l (i : Int) = l[i] := by unfold rd_T35; rw [Int.toNat_natCast, List.getD_eq_getElem?_getD, List.getElem?_eq_getElem h]; rfl
theorem runR_snoc (s : PSite) (l : List S35) (x : S35) : runR s (l ++ [x]) = (doS (runR s l) x).1 := by simp [runR]
theorem runR_take (s : PSite) (l : List S35) (k : Nat) (h : k < l.length) : runR s (l.take (k + 1)) = (doS (runR s (l.take k)) (rd_T35 l (k : Int))).1 := by
  rw [List.take_succ_eq_append_getElem h, runR_snoc, rdC l k h]
theorem runR_cnt {N : Nat} {s : PSite} (h : Cnt N s) (l : List S35) : Cnt (N + l.length) (runR s l) := by
  induction l generalizing N s with
  | nil => exact h
  | cons x l ih =>
    have := ih (h.step x)
    rw [List.length_cons, show N + (l.length + 1) = N + 1 + l.length from by omega]
    exact this
def AllOk (l : List S35) : Prop := ∀ k, k < l.length → (doS (runR newS (l.take k)) (rd_T35 l (k : Int))).2.2 = 0
/-- Its log makes it anew. -/
structure Logged (s : PSite) : Prop where
  same : runR newS s.log = s
  ok : AllOk s.log
theorem Logged.new : Logged newS := ⟨rfl, fun k hk => by simp [newS] at hk⟩
theorem Logged.step {s : PSite} (h : Logged s) (r : S35) : Logged (doS s r).1 := by
  by_cases he : (doS s r).2.2 = 0
  · have hl := doS_log s r
    rw [if_pos he] at hl
    refine ⟨?_, ?_⟩
    · rw [hl, runR_snoc, h.same]
    · rw [hl]
      intro k hk
      rw [List.length_append, List.length_singleton] at hk
      by_cases hlt : k < s.log.length
      · have := h.ok k hlt
        rw [rdC _ k hlt] at this
        rw [rdC _ k (by simp; omega), List.take_append_of_le_length (by omega), List.getElem_append_left hlt]
        exact this
      · obtain rfl : k = s.log.length := by omega
        rw [rdC _ _ (by simp), List.take_left, List.getElem_append_right (Nat.le_refl _)]
        simp only [Nat.sub_self, List.getElem_cons_zero]
        rw [h.same]
        exact he
  · rw [(doS_err s r he).1]
    exact h
theorem runS_logged {s : PSite} (h : Logged s) (l : List S36) : Logged (runS s l) := by
  induction l generalizing s with
  | nil => exact h
  | cons x l ih => exact ih (h.step (toR x))
theorem playS_logged (l : List S36) : Logged (playS l) := runS_logged Logged.new _

set_option maxRecDepth 100000 in
set_option maxHeartbeats 4000000 in
theorem replay_ok (A : Option Addr) (c : Nat) (l : List S35) (w : World) (hr : Kd.C k35 w A l.length l) (hc : l.length ≤ c) (hn : l.length ≤ 1000) (hok : AllOk l) :
    Calls Try.prog 22 #[.slice A l.length c] w fun e w' => ∃ b S, e = .returned (.tuple #[.pointer (some ⟨b, 0, none⟩), .int .i64 0]) ∧ Own w w' S b (runR newS l) := by
  have HNW := Aside0.mk (new_own w)
  have HR := Aside0.mk hr
  have HN := Aside0.mk hn
  have HOK := Aside0.mk hok
  clear hr hn hok
  go_enter Try.func22, Try.ntmps22
  go_wp2_with (go_at_call 13; with_reducible refine (HNW.out).mono ?_; rintro e w1 ⟨b, S0, rfl, hO⟩; have HO := Aside0.mk hO; clear hO)
  go_loopg [6, 7, 8, 12] l.length (fun gg _ _ _ s12 wr => ∃ kk : Nat, ∃ S, s12 = .int .i64 (kk : Int) ∧ Aside0 (kk ≤ l.length ∧ l.length - kk ≤ gg) ∧ Aside0 (Own w wr S b (runR newS (l.take kk))))
  case atStart => exact ⟨0, S0, rfl, ⟨Nat.zero_le _, by omega⟩, HO⟩
  case round =>
    obtain ⟨kk, S, rfl, HK, HO⟩ := hrel
    by_cases hlt : kk < l.length
    · have hlt' : decide ((kk : Int) < (l.length : Int)) = true := decide_eq_true (by omega)
      obtain ⟨g', rfl⟩ : ∃ g', gk = g' + 1 := ⟨gk - 1, by have := HK.out; omega⟩
      obtain ⟨ad, e0, h0, h1, h2, h3⟩ := at_T35 HR.out (kk : Int) (by omega) (by omega)
      cases e0
      rw [Int.toNat_natCast] at h0 h1 h2 h3
      replace h0 := (HO.out.bel.cell (World.block_lt_of_cell? _ _ h0)).trans h0
      replace h1 := (HO.out.bel.cell (World.block_lt_of_cell? _ _ h1)).trans h1
      replace h2 := (HO.out.bel.cell (World.block_lt_of_cell? _ _ h2)).trans h2
      replace h3 := (HO.out.bel.cell (World.block_lt_of_cell? _ _ h3)).trans h3
      have HSN := Aside0.mk (runR_take newS l kk hlt)
      have HE := Aside0.mk (HOK.out kk hlt)
      have HCN : Aside0 (Cnt 1000 (runR newS (l.take kk))) := ⟨(runR_cnt Cnt.new _).mono (by rw [List.length_take]; have := HN.out; omega)⟩
      generalize rd_T35 l (kk : Int) = x at h0 h1 h2 h3 HSN HE
      have HX2 := Aside0.mk (heap_alloc_new wr (.cells #[.int .i64 x.f0, .int .i64 x.f1, .int .u8 x.f2, .int .i64 x.f3] 35))
      have HO2 := Aside0.mk (HO.out.below (below_alloc (Below.refl wr.heap.size wr) (.cells #[.int .i64 x.f0, .int .i64 x.f1, .int .u8 x.f2, .int .i64 x.f3] 35)))
      have HDO := Aside0.mk (do_own HO2.out (small_of HCN.out (by omega)) x.f0 x.f1 x.f2 x.f3)
      rw [show (⟨x.f0, x.f1, x.f2, x.f3⟩ : S35) = x from rfl, HE.out] at HDO
      obtain ⟨⟨y4, y5, y6, y7⟩, z4, z5, z6, z7⟩ := four HX2.out
      clear HO HE
      go_wp2_with (go_at_call 14; with_reducible refine (HDO.out).mono ?_; rintro e w5 ⟨rfl, S2, hO, hS, hC⟩; have HO5 := Aside0.mk hO; clear hO hS hC)
      go_roundg g'
      case measure => have := HK.out; omega
      case rel => exact ⟨kk + 1, S2, by have := HN.out; rw [show wrap64 ((kk : Int) + 1) = ((kk + 1 : Nat) : Int) from by unfold wrap64; omega], ⟨by omega, by have := HK.out; omega⟩, ⟨by rw [HSN.out]; exact HO5.out⟩⟩
    · have hlt' : decide ((kk : Int) < (l.length : Int)) = false := decide_eq_false (by omega)
      obtain rfl : kk = l.length := by have := HK.out; omega
      rw [List.take_length] at HO
      go_wp2
      go_ret2
      exact ⟨_, _, rfl, HO.out⟩
end Go.Proofs.Ytolpcfjmhimpeaa.HS
