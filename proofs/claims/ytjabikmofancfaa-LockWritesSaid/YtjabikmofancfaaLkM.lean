
import Derived.Test.YtjabikmofancfaaLkL
namespace Go.Proofs.Ytjabikmofancfaa.H
open Go.RowKit Go.Proofs.YtjabikmofancfaaW.PrintWords Go.Proofs.YtjabikmofancfaaW.PrintLast Go.Proofs.Ytjabikmofancfaa.P
set_option linter.unusedVariables false
set_option linter.unusedSimpArgs false

theorem any_at {p : S45 → Bool} {l : List S45} {i : Nat} (hi : i < l.length) (h : p (l.getD i z45) = true) : l.any p = true := by
  rw [List.any_eq_true]
  exact ⟨l[i], List.getElem_mem hi, by rwa [List.getD_eq_getElem?_getD, List.getElem?_eq_getElem hi] at h⟩
theorem any_none {p : S45 → Bool} {l : List S45} (h : ∀ i, i < l.length → p (l.getD i z45) = false) : l.any p = false := by
  rw [List.any_eq_false]
  intro x hx
  obtain ⟨i, hi, rfl⟩ := List.mem_iff_getElem.1 hx
  have := h i hi
  rw [List.getD_eq_getElem?_getD, List.getElem?_eq_getElem hi] at this
  simpa using this

/-- The state behind the loop that looks for another's lock. -/
structure Scan (l : List S45) (A1 : Option Addr) (c1 : Nat) (w W : World) : Prop where
  own : Kd.R k45 45 W w.heap.size (fun _ => True) (.slice A1 l.length c1) l
  le : l.length ≤ c1
  bel : Below w.heap.size w W
theorem Scan.read {l : List S45} {A1 : Option Addr} {c1 : Nat} {w W : World} (h : Scan l A1 c1 w W) : Kd.C k45 W A1 l.length l := by
  obtain ⟨A, c, he, hl, hC⟩ := Kd.R_reads h.own
  injection he with h1 h2 h3
  subst h1
  exact hC
theorem Scan.move {l : List S45} {A1 : Option Addr} {c1 : Nat} {w W W' : World} (h : Scan l A1 c1 w W) (hb : Below W.heap.size W W') : Scan l A1 c1 w W' := ⟨Kd.R_below h.own hb, h.le, below_then h.bel h.bel.size hb⟩

/-- One lock is to write from now on. -/
theorem set_row {W : World} {base G cap n : Nat} {f : Nat → Value} {l : List S45} (hG : base ≤ G) (hn : n < l.length) (hc : l.length ≤ cap) (hm : cap ≤ maxLen) (h : Row W G 45 (cap * 3) f)
    (hf : ∀ i j, ∀ hi : i < l.length, j < 3 → some (f (i * 3 + j)) = (cellsH l[i])[j]?) (b : Bool) :
    Kd.R k45 45 (W.setCell ⟨G, n * 3 + 2, none⟩ (.bool b)) base (fun _ => True) (.slice (some ⟨G, 0, none⟩) l.length cap) (l.set n ⟨(l.getD n z45).f0, (l.getD n z45).f1, b⟩) := by
  have e : l.length = (l.set n ⟨(l.getD n z45).f0, (l.getD n z45).f1, b⟩).length := by simp
  rw [e]
  refine row_own flatK (fun _ => trivial) hG (by rw [← e]; exact hc) hm (h.set (by omega) _) (atH_to fun a ha => ?_)
  rw [← e] at ha
  have ha2 := atH_of hf a ha
  by_cases h1 : a = n
  · subst h1
    rw [show (l.set a ⟨(l.getD a z45).f0, (l.getD a z45).f1, b⟩).getD a z45 = ⟨(l.getD a z45).f0, (l.getD a z45).f1, b⟩ from by simp [List.getD_eq_getElem?_getD, ha]]
    exact ⟨by unfold upd; rw [if_neg (by omega)]; exact ha2.c0, by unfold upd; rw [if_neg (by omega)]; exact ha2.c1, by unfold upd; rw [if_pos rfl]⟩
  · rw [show (l.set n ⟨(l.getD n z45).f0, (l.getD n z45).f1, b⟩).getD a z45 = l.getD a z45 from by rw [List.getD_eq_getElem?_getD, List.getElem?_set_ne (fun h => h1 h.symm), ← List.getD_eq_getElem?_getD]]
    exact ⟨by unfold upd; rw [if_neg (by omega)]; exact ha2.c0, by unfold upd; rw [if_neg (by omega)]; exact ha2.c1, by unfold upd; rw [if_neg (by omega)]; exact ha2.c2⟩
set_option maxRecDepth 100000 in
set_option maxHeartbeats 8000000 in
theorem take_good (A : Option Addr) (c : Nat) (l : List S45) (tx key : Int) (wt : Bool) (w : World) (hr : Kd.C k45 w A l.length l) (hc : l.length ≤ c) (hl : l.length + 1 ≤ 5864062014805) (h1 : right l = true) (h2 : mayB tx key = true) (r1 : List S45) (r2 : Int) (h : takeP l tx key wt = (r1, r2)) :
    Calls Try.prog 9 #[.slice A l.length c, .int .i64 tx, .int .u8 key, .bool wt] w fun e w' => ∃ v0_ : Value, e = .returned (.tuple #[v0_, .int .i64 r2]) ∧ Kd.R k45 45 w' w.heap.size (fun _ => True) v0_ r1 ∧ Below w.heap.size w w' := by
  have hu := Try.underlying45
  have hbig := hr.2.1
  have HL := Aside0.mk hl
  have HC := Aside0.mk (clone_calls A c l w hr (by omega))
  have HRt := Aside0.mk (fun A c W (hr : Kd.C k45 W A l.length l) (hc : l.length ≤ c) => right_calls A c l (right l) W hr hc rfl)
  have HM := Aside0.mk (fun W => may_calls tx key W)
  rw [h1] at HRt
  rw [h2] at HM
  have HT : Aside0 ((if l.any (confl tx key wt) = true then (l, (9 : Int)) else
    if found l ⟨key, tx, wt⟩ = true then (l.set (spot l ⟨key, tx, wt⟩).toNat ⟨(rd_T45 l (spot l ⟨key, tx, wt⟩)).f0, (rd_T45 l (spot l ⟨key, tx, wt⟩)).f1, (rd_T45 l (spot l ⟨key, tx, wt⟩)).f2 || wt⟩, 0)
    else (insH l (spot l ⟨key, tx, wt⟩).toNat ⟨key, tx, wt⟩, 0)) = (r1, r2)) := ⟨by unfold takeP at h; rw [if_neg (by rw [h1]; simp), if_neg (by rw [h2]; simp)] at h; exact h⟩
  clear hr hc hl h1 h2 h
  go_enter Try.func9, Try.ntmps9
  go_wp2_with (first | (go_at_call 18; refine HC.out.mono ?_; rintro e w1 ⟨v1, rfl, hR1, hb1⟩; obtain ⟨A1, c1, hv, hlc, hC1⟩ := Kd.R_reads hR1; subst hv; have HS1 : Aside0 (Scan l A1 c1 w w1) := ⟨⟨hR1, hlc, hb1⟩⟩; clear hR1 hb1 hlc hC1) | (go_at_call 15; refine (HRt.out _ _ _ HS1.out.read HS1.out.le).mono ?_; rintro e w2 ⟨rfl, hb2⟩; have HS2 := Aside0.mk (HS1.out.move hb2); clear hb2) | (go_at_call 19; refine (HM.out _).mono ?_; rintro e w3 ⟨rfl, hb3⟩; have HS3 := Aside0.mk (HS2.out.move hb3); clear hb3))
  clear HC HRt HM HS1 HS2
  go_loopg [11, 29] l.length (fun gg _ s8 wrl => ∃ kk : Int, s8 = .int .i64 kk ∧ Aside0 (0 ≤ kk ∧ kk ≤ l.length ∧ l.length - kk.toNat ≤ gg) ∧ Aside0 (Scan l A1 c1 w wrl) ∧ Aside0 (∀ j, j < kk.toNat → confl tx key wt (l.getD j z45) = false))
  case atStart => exact ⟨0, rfl, ⟨by omega, by omega, by omega⟩, HS3, ⟨fun j hj => absurd hj (Nat.not_lt_zero _)⟩⟩
  case round =>
    clear HS3
    obtain ⟨kk, rfl, HK, HS, AF⟩ := hrel
    have p0 : 0 ≤ kk := HK.out.1
    by_cases hlt : kk < (l.length : Int)
    · obtain ⟨ad, e0, g0, g1, g2⟩ := at_T45 HS.out.read kk p0 hlt
      cases e0
      have HO : Aside0 (rd_T45 l kk = l.getD kk.toNat z45) := ⟨rfl⟩
      generalize rd_T45 l kk = y at g0 g1 g2 HO
      have HLT := Aside0.mk hlt
      have cb : decide (kk < (l.length : Int)) = true := decide_eq_true hlt
      have q0 : (0 ≤ kk) = True := eq_true p0
      have q1 : (kk < (l.length : Int)) = True := eq_true hlt
      clear hlt p0
      obtain ⟨y0, y1, y2⟩ := y
      have hw1 : wrap64 (kk + 1) = kk + 1 := by have := HLT.out; have := of_eq_true q0; unfold wrap64; omega
      cases hc1 : (y0 == key) with
      | false =>
        have HNC : Aside0 (confl tx key wt ⟨y0, y1, y2⟩ = false) := ⟨by simp [confl, hc1]⟩
        go_wp2
        go_roundg (l.length - (kk.toNat + 1))
        case measure => have := HK.out; have := HLT.out; omega
        case rel =>
          refine ⟨kk + 1, by first | rfl | (simp [hw1]; done), ⟨by have := HK.out; omega, by have := HLT.out; omega, by have := HK.out; omega⟩, ⟨HS.out.move (by repeat (first | exact Below.refl _ _ | apply below_alloc))⟩, ⟨fun j hj => ?_⟩⟩
          by_cases e : j = kk.toNat
          · subst e; rw [← HO.out]; exact HNC.out
          · exact AF.out j (by omega)
      | true =>
        cases hc2 : (y1 != tx) with
        | false =>
          have HNC : Aside0 (confl tx key wt ⟨y0, y1, y2⟩ = false) := ⟨by simp [confl, hc1, hc2]⟩
          go_wp2
          go_roundg (l.length - (kk.toNat + 1))
          case measure => have := HK.out; have := HLT.out; omega
          case rel =>
            refine ⟨kk + 1, by first | rfl | (simp [hw1]; done), ⟨by have := HK.out; omega, by have := HLT.out; omega, by have := HK.out; omega⟩, ⟨HS.out.move (by repeat (first | exact Below.refl _ _ | apply below_alloc))⟩, ⟨fun j hj => ?_⟩⟩
            by_cases e : j = kk.toNat
            · subst e; rw [← HO.out]; exact HNC.out
            · exact AF.out j (by omega)
        | true =>
          cases wt with
          | true =>
            have HNC : Aside0 (confl tx key true ⟨y0, y1, y2⟩ = true) := ⟨by simp [confl, hc1, hc2]⟩
            go_wp2
            go_ret2
            have hT := HT.out
            rw [if_pos (any_at (i := kk.toNat) (by have := HLT.out; have := of_eq_true q0; omega) (by rw [← HO.out]; exact HNC.out))] at hT
            injection hT with e1 e2
            subst e1 e2
            have hz := fun o => HS.out.move (below_alloc (Below.refl _ _) o)
            exact ⟨.slice (some ad) l.length c1, rfl, (hz _).own, (hz _).bel⟩
          | false =>
            cases y2 with
            | true =>
              have HNC : Aside0 (confl tx key false ⟨y0, y1, true⟩ = true) := ⟨by simp [confl, hc1, hc2]⟩
              go_wp2
              go_ret2
              have hT := HT.out
              rw [if_pos (any_at (i := kk.toNat) (by have := HLT.out; have := of_eq_true q0; omega) (by rw [← HO.out]; exact HNC.out))] at hT
              injection hT with e1 e2
              subst e1 e2
              have hz := fun o => HS.out.move (below_alloc (Below.refl _ _) o)
              exact ⟨.slice (some ad) l.length c1, rfl, (hz _).own, (hz _).bel⟩
            | false =>
              have HNC : Aside0 (confl tx key false ⟨y0, y1, false⟩ = false) := ⟨by simp [confl, hc1, hc2]⟩
              go_wp2
              go_roundg (l.length - (kk.toNat + 1))
              case measure => have := HK.out; have := HLT.out; omega
              case rel =>
                refine ⟨kk + 1, by first | rfl | (simp [hw1]; done), ⟨by have := HK.out; omega, by have := HLT.out; omega, by have := HK.out; omega⟩, ⟨HS.out.move (by repeat (first | exact Below.refl _ _ | apply below_alloc))⟩, ⟨fun j hj => ?_⟩⟩
                by_cases e : j = kk.toNat
                · subst e; rw [← HO.out]; exact HNC.out
                · exact AF.out j (by omega)
    · have cb : decide (kk < (l.length : Int)) = false := decide_eq_false hlt
      have HNO : Aside0 (l.any (confl tx key wt) = false) := ⟨any_none fun i hi => AF.out i (by have := HK.out; omega)⟩
      clear hlt p0 AF HK
      have HT2 := HT.out
      rw [if_neg (by rw [HNO.out]; simp)] at HT2
      have HT3 := Aside0.mk HT2
      clear HT2 HT HNO
      have HBS := Aside0.mk (fun W (h : Scan l A1 c1 w W) => bsearch_calls A1 c1 l ⟨key, tx, wt⟩ W h.read (by have := HL.out; omega))
      have HRG := Aside0.mk (bs_range (lessH l ⟨key, tx, wt⟩) l.length 0 l.length (by omega))
      have HFD : Aside0 (found l ⟨key, tx, wt⟩ = (decide (bs (lessH l ⟨key, tx, wt⟩) l.length 0 l.length < (l.length : Int)) && ordI (rd_T45 l (bs (lessH l ⟨key, tx, wt⟩) l.length 0 l.length)) ⟨key, tx, wt⟩ == 0)) := ⟨rfl⟩
      have HSP : Aside0 (spot l ⟨key, tx, wt⟩ = bs (lessH l ⟨key, tx, wt⟩) l.length 0 l.length) := ⟨rfl⟩
      rw [← HFD.out, ← HSP.out] at HBS
      rw [← HSP.out] at HRG
      clear HFD HSP
      have HF1 : Aside0 (found l ⟨key, tx, wt⟩ = true → spot l ⟨key, tx, wt⟩ < (l.length : Int)) := ⟨fun h => by unfold found at h; rw [Bool.and_eq_true] at h; exact of_decide_eq_true h.1⟩
      generalize spot l ⟨key, tx, wt⟩ = sp at HT3 HBS HRG HF1
      cases hfd : found l ⟨key, tx, wt⟩ with
      | false =>
        rw [hfd] at HBS HT3
        clear hfd
        have e1 : insH l sp.toNat ⟨key, tx, wt⟩ = r1 ∧ r2 = 0 := by
          have := HT3.out
          rw [if_neg (by simp)] at this
          injection this with a b
          exact ⟨a, b.symm⟩
        obtain ⟨e1, rfl⟩ := e1
        subst e1
        clear HT3
        obtain ⟨n, rfl⟩ : ∃ n : Nat, sp = n := ⟨sp.toNat, by have := HRG.out; omega⟩
        have HIN := Aside0.mk (fun W vb (h : Scan l A1 c1 w W) (hx : W.heap[vb]? = some (.cells (cellsH ⟨key, tx, wt⟩).toArray 45 (0, 0))) (hne : (Value.slice A1 l.length c1).ownBlock ≠ some vb) =>
          insert_calls l (.slice A1 l.length c1) n vb ⟨key, tx, wt⟩ w W h.bel h.own (by have := HRG.out; omega) hne hx HL.out)
        have b1 : (n : Int) ≤ (l.length : Int) := HRG.out.2
        have HNE := Aside0.mk (fun W (h : Scan l A1 c1 w W) (e : (Value.slice A1 l.length c1).ownBlock = some W.heap.size) => by
          obtain ⟨inner, ho⟩ := Kd.R_own h.own
          exact Nat.lt_irrefl _ (own_lt ho _ e))
        go_wp2_with (first | (go_at_call 20; refine (HBS.out _ (HS.out.move (below_alloc (Below.refl _ _) _))).mono ?_; rintro e w4 ⟨rfl, hb4⟩; have HS4 := Aside0.mk (HS.out.move (bt (below_alloc (Below.refl _ _) _) hb4)); have c0' : w4.cell? ⟨wr.heap.size, 0, none⟩ = some (.int .u8 key) := (hb4.cell (p := ⟨wr.heap.size, 0, none⟩) (by simp)).trans (by go_simp); have c1' : w4.cell? ⟨wr.heap.size, 1, none⟩ = some (.int .i64 tx) := (hb4.cell (p := ⟨wr.heap.size, 1, none⟩) (by simp)).trans (by go_simp); have c2' : w4.cell? ⟨wr.heap.size, 2, none⟩ = some (.bool wt) := (hb4.cell (p := ⟨wr.heap.size, 2, none⟩) (by simp)).trans (by go_simp); clear hb4) | (go_at_call 22; refine (HIN.out _ w4.heap.size (HS4.out.move (below_alloc (Below.refl _ _) _)) (heap_alloc_new _ _) (HNE.out _ HS4.out)).mono ?_; rintro e w5 ⟨v5, rfl, hR5, hb5⟩; have HR5 := Aside0.mk hR5; have HB5 := Aside0.mk hb5; clear hR5 hb5))
        go_ret2
        exact ⟨v5, rfl, HR5.out, HB5.out⟩
      | true =>
        rw [hfd] at HBS HT3
        have hin : sp < (l.length : Int) := HF1.out hfd
        clear hfd
        have e1 : l.set sp.toNat ⟨(rd_T45 l sp).f0, (rd_T45 l sp).f1, (rd_T45 l sp).f2 || wt⟩ = r1 ∧ r2 = 0 := by
          have := HT3.out
          rw [if_pos rfl] at this
          injection this with a b
          exact ⟨a, b.symm⟩
        obtain ⟨e1, rfl⟩ := e1
        clear HT3
        obtain ⟨n, rfl⟩ : ∃ n : Nat, sp = n := ⟨sp.toNat, by have := HRG.out; omega⟩
        rcases own_row flatK HS.out.own with ⟨_, hnil⟩ | ⟨G, cap, f, hv, hG, hcap, hmax, hrow, hf⟩
        · subst hnil
          exact absurd hin (by simp)
        · injection hv with hv1 hv2 hv3
          subst hv1 hv3
          have hn : n < l.length := by omega
          have hA := atH_of hf n hn
          have HSET := Aside0.mk (fun (W : World) (h : Row W G 45 (c1 * 3) f) (b : Bool) => set_row (base := w.heap.size) hG hn hcap hmax h hf b)
          have HG := Aside0.mk hG
          have HROW := Aside0.mk hrow
          have HBN := Aside0.mk (show n * 3 + 2 < c1 * 3 by omega)
          have HE1 : Aside0 (l.set n ⟨(l.getD n z45).f0, (l.getD n z45).f1, (l.getD n z45).f2 || wt⟩ = r1) := ⟨e1⟩
          have b1 : (n : Int) < (l.length : Int) := hin
          have n1 : n < l.length := hn
          have hA2 := Aside0.mk hA.c2
          clear hin hn hf hrow hG hcap hmax hA e1
          generalize l.getD n z45 = y at hA2 HSET HE1
          obtain ⟨y0, y1, y2⟩ := y
          cases y2 with
          | true =>
            go_wp2_with (go_at_call 20; refine (HBS.out _ (HS.out.move (below_alloc (Below.refl _ _) _))).mono ?_; rintro e w4 ⟨rfl, hb4⟩; have hbw := bt (below_alloc (Below.refl wr.heap.size wr) _) hb4; have HS4 := Aside0.mk (HS.out.move hbw); have HR4 := Aside0.mk (HROW.out.below hbw); have r2 : w4.cell? ⟨G, n * 3 + 2, none⟩ = some (.bool true) := (HR4.out.cell HBN.out).trans (congrArg some hA2.out); have z2 := HR4.out.free (n * 3 + 2); clear hb4 hbw)
            go_ret2
            exact ⟨_, rfl, by rw [← HE1.out]; exact HSET.out w4 HR4.out true, (HS4.out.bel).setCell (p := ⟨G, n * 3 + 2, none⟩) HG.out _⟩
          | false =>
            go_wp2_with (go_at_call 20; refine (HBS.out _ (HS.out.move (below_alloc (Below.refl _ _) _))).mono ?_; rintro e w4 ⟨rfl, hb4⟩; have hbw := bt (below_alloc (Below.refl wr.heap.size wr) _) hb4; have HS4 := Aside0.mk (HS.out.move hbw); have HR4 := Aside0.mk (HROW.out.below hbw); have r2 : w4.cell? ⟨G, n * 3 + 2, none⟩ = some (.bool false) := (HR4.out.cell HBN.out).trans (congrArg some hA2.out); have z2 := HR4.out.free (n * 3 + 2); clear hb4 hbw)
            go_ret2
            exact ⟨_, rfl, by rw [← HE1.out]; exact HSET.out w4 HR4.out wt, (HS4.out.bel).setCell (p := ⟨G, n * 3 + 2, none⟩) HG.out _⟩
end Go.Proofs.Ytjabikmofancfaa.H
