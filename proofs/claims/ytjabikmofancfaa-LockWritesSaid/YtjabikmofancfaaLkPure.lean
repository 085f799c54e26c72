
import Derived.Test.YtjabikmofancfaaLockHand
namespace Go.Proofs.Ytjabikmofancfaa.H
open Go.RowKit Go.Proofs.YtjabikmofancfaaW.PrintWords Go.Proofs.YtjabikmofancfaaW.PrintLast Go.Proofs.Ytjabikmofancfaa.P
set_option linter.unusedVariables false
set_option linter.unusedSimpArgs false

/-! ### the order of holds -/
def Lt (a b : S45) : Prop := a.f0 < b.f0 ∨ a.f0 = b.f0 ∧ a.f1 < b.f1
theorem ord_lt (a b : S45) : ordI a b < 0 ↔ Lt a b := by
  unfold ordI orI cmpI Lt
  (repeat' split) <;> omega
theorem ord_eq (a b : S45) : ordI a b = 0 ↔ a.f0 = b.f0 ∧ a.f1 = b.f1 := by
  unfold ordI orI cmpI
  (repeat' split) <;> omega
theorem ord_gt (a b : S45) : 0 < ordI a b ↔ Lt b a := by
  unfold ordI orI cmpI Lt
  (repeat' split) <;> omega
theorem Lt.trans {a b c : S45} (h : Lt a b) (k : Lt b c) : Lt a c := by unfold Lt at *; omega
theorem Lt.irrefl {a : S45} (h : Lt a a) : False := by unfold Lt at h; omega

def MayH (h : S45) : Prop := mayB h.f1 h.f0 = true
def Two (a b : S45) : Prop := Lt a b ∧ (a.f0 = b.f0 → a.f2 = false ∧ b.f2 = false)
theorem pairB_iff (a b : S45) : pairB a b = true ↔ Two a b := by
  unfold pairB Two
  rw [← ord_lt]
  cases h1 : decide (ordI a b ≥ 0) <;> cases h2 : (a.f0 == b.f0) <;> cases h3 : a.f2 <;> cases h4 : b.f2 <;> simp_all <;> omega
structure RightP (l : List S45) : Prop where
  may : ∀ h ∈ l, MayH h
  two : l.Pairwise Two
theorem Two.chain {a b c : S45} (h : Two a b) (k : Two b c) : Two a c := by
  refine ⟨h.1.trans k.1, fun e => ?_⟩
  have h1 := h.1
  have k1 := k.1
  have e1 : a.f0 = b.f0 := by unfold Lt at h1 k1; omega
  have e2 : b.f0 = c.f0 := by omega
  exact ⟨(h.2 e1).1, (k.2 e2).2⟩

theorem right_cons (x : S45) (l : List S45) : right (x :: l) = (mayB x.f1 x.f0 && (match l with | [] => true | y :: _ => pairB x y) && right l) := by
  unfold right
  rw [List.length_cons, List.range_succ_eq_map, List.all_cons, List.all_map]
  cases l with
  | nil => simp [okAt]
  | cons y l =>
    rw [List.length_cons, List.range_succ_eq_map, List.all_cons, List.all_cons, List.all_map, List.all_map]
    simp only [okAt, Function.comp_def]
    simp [Bool.and_assoc, Bool.and_comm, Bool.and_left_comm]

theorem right_iff (l : List S45) : right l = true ↔ RightP l := by
  induction l with
  | nil => exact ⟨fun _ => ⟨by simp, List.Pairwise.nil⟩, fun _ => rfl⟩
  | cons x l ih =>
    rw [right_cons, Bool.and_eq_true, Bool.and_eq_true, ih]
    constructor
    · rintro ⟨⟨h1, h2⟩, h3⟩
      refine ⟨fun h hm => ?_, List.pairwise_cons.2 ⟨fun b hb => ?_, h3.two⟩⟩
      · rcases List.mem_cons.1 hm with rfl | hm
        · exact h1
        · exact h3.may h hm
      · cases l with
        | nil => simp at hb
        | cons y l =>
          have hxy := (pairB_iff x y).1 h2
          rcases List.mem_cons.1 hb with rfl | hb
          · exact hxy
          · exact hxy.chain ((List.pairwise_cons.1 h3.two).1 b hb)
    · intro h
      refine ⟨⟨h.may x (by simp), ?_⟩, ⟨fun a ha => h.may a (by simp [ha]), (List.pairwise_cons.1 h.two).2⟩⟩
      cases l with
      | nil => rfl
      | cons y l => exact (pairB_iff x y).2 ((List.pairwise_cons.1 h.two).1 y (by simp))

/-! ### where one stands -/
theorem bs_spec (q : Int → Bool) (n : Int) (hq : ∀ i j, 0 ≤ i → i ≤ j → j < n → q j = true → q i = true) (f : Nat) : ∀ i j, 0 ≤ i → i ≤ j → j ≤ n → j - i ≤ f → (∀ a, 0 ≤ a → a < i → q a = true) → (∀ a, j ≤ a → a < n → q a = false) →
    ∀ a, 0 ≤ a → a < n → (q a = true ↔ a < bs q f i j) := by
  induction f with
  | zero =>
    intro i j h0 h1 h2 h3 hl hr a ha hn
    unfold bs
    by_cases h : a < i
    · exact ⟨fun _ => h, fun _ => hl a ha h⟩
    · exact ⟨fun hh => absurd hh (by rw [hr a (by omega) hn]; simp), fun hh => absurd hh h⟩
  | succ f ih =>
    intro i j h0 h1 h2 h3 hl hr a ha hn
    unfold bs
    by_cases hij : i < j
    · rw [if_pos hij]
      cases hm : q ((i + j) / 2) with
      | true =>
        rw [if_pos rfl]
        exact ih _ _ (by omega) (by omega) h2 (by omega) (fun b hb0 hb => hq b ((i + j) / 2) hb0 (by omega) (by omega) hm) hr a ha hn
      | false =>
        rw [if_neg (by simp)]
        refine ih _ _ h0 (by omega) (by omega) (by omega) hl (fun b hb hbn => ?_) a ha hn
        cases hb2 : q b with
        | false => rfl
        | true => rw [hq ((i + j) / 2) b (by omega) hb hbn hb2] at hm; cases hm
    · rw [if_neg hij]
      by_cases h : a < i
      · exact ⟨fun _ => h, fun _ => hl a ha h⟩
      · exact ⟨fun hh => absurd hh (by rw [hr a (by omega) hn]; simp), fun hh => absurd hh h⟩

/-- A list of rising holds, cut where x stands or would stand. -/
structure Cut (l : List S45) (x : S45) (A B : List S45) : Prop where
  eq : l = A ++ B
  at_ : spot l x = A.length
  low : ∀ a ∈ A, Lt a x
  high : ∀ b ∈ B, ¬ Lt b x
theorem getD_at (l : List S45) (i : Nat) (h : i < l.length) : l.getD i z45 = l[i] := by rw [List.getD_eq_getElem?_getD, List.getElem?_eq_getElem h]; rfl

theorem cut (l : List S45) (hl : l.Pairwise Two) (x : S45) : ∃ A B, Cut l x A B := by
  have hq : ∀ i j : Int, 0 ≤ i → i ≤ j → j < (l.length : Int) → lessH l x j = true → lessH l x i = true := by
    intro i j h0 hij hj h
    unfold lessH at *
    rw [decide_eq_true_iff, ord_lt] at *
    rcases Int.lt_or_eq_of_le hij with hlt | rfl
    · unfold rd_T45 at *
      rw [getD_at l _ (by omega)] at h ⊢
      exact ((List.pairwise_iff_getElem.1 hl i.toNat j.toNat (by omega) (by omega) (by omega)).1).trans h
    · exact h
  have hs := bs_spec (lessH l x) l.length hq l.length 0 l.length (by omega) (by omega) (by omega) (by omega) (fun a h1 h2 => by omega) (fun a h1 h2 => by omega)
  have hr := bs_range (lessH l x) l.length 0 l.length (by omega)
  have hsp : spot l x = bs (lessH l x) l.length 0 l.length := rfl
  rw [← hsp] at hs hr
  have key : ∀ i, ∀ hi : i < l.length, (Lt l[i] x ↔ (i : Int) < spot l x) := by
    intro i hi
    have := hs (i : Int) (by omega) (by omega)
    unfold lessH rd_T45 at this
    rw [Int.toNat_natCast, getD_at l i hi, decide_eq_true_iff, ord_lt] at this
    exact this
  refine ⟨l.take (spot l x).toNat, l.drop (spot l x).toNat, (List.take_append_drop _ _).symm, by rw [List.length_take]; omega, fun a ha => ?_, fun b hb => ?_⟩
  · obtain ⟨i, hi, rfl⟩ := List.mem_iff_getElem.1 ha
    rw [List.length_take] at hi
    rw [List.getElem_take]
    exact (key i (by omega)).2 (by omega)
  · obtain ⟨i, hi, rfl⟩ := List.mem_iff_getElem.1 hb
    rw [List.length_drop] at hi
    rw [List.getElem_drop]
    intro h
    have := (key _ (by omega)).1 h
    omega
def headIs (x : S45) : List S45 → Bool
  | [] => false
  | b :: _ => ordI b x == 0
theorem Cut.nth {l A B : List S45} {x : S45} (h : Cut l x A B) : found l x = headIs x B := by
  obtain ⟨he, ha, _, _⟩ := h
  unfold found rd_T45
  rw [ha, Int.toNat_natCast]
  subst he
  unfold headIs
  cases B with
  | nil => simp
  | cons b B => simp [List.getD_eq_getElem?_getD]; omega

theorem lt_of_not {b x : S45} (h : ¬ Lt b x) (hne : (ordI b x == 0) = false) : Lt x b := by
  have h1 := ord_lt b x
  have h2 := ord_gt b x
  have h3 : ordI b x ≠ 0 := by simpa using hne
  rw [← h2]
  have h4 : ¬ ordI b x < 0 := fun h' => h (h1.1 h')
  omega

/-- Where the lock is taken: all lower ones, the one, all higher ones. -/
structure Around (l : List S45) (e : S45) (A C : List S45) : Prop where
  eq : l = A ++ e :: C
  low : ∀ a ∈ A, Lt a e
  high : ∀ c ∈ C, Lt e c

theorem no_lt {a b x y : S45} (h : x.f0 = y.f0) (k : x.f1 = y.f1) : (Lt a x ↔ Lt a y) ∧ (Lt x b ↔ Lt y b) := by unfold Lt; omega

theorem around_cut {l A C : List S45} {e : S45} (h : Around l e A C) (hl : l.Pairwise Two) (x : S45) (h0 : e.f0 = x.f0) (h1 : e.f1 = x.f1) : Cut l x A (e :: C) := by
  obtain ⟨A', B', hc⟩ := cut l hl x
  have hE : ordI e x = 0 := (ord_eq e x).2 ⟨h0, h1⟩
  have hnl : ¬ Lt e x := fun h => by rw [← ord_lt, hE] at h; omega
  have key : A = A' ∧ e :: C = B' := by
    have heq : A ++ e :: C = A' ++ B' := h.eq.symm.trans hc.eq
    have hlow : ∀ a ∈ A, Lt a x := fun a ha => ((no_lt h0 h1 (a := a) (b := a)).1).1 (h.low a ha)
    have hlen : A.length = A'.length := by
      rcases Nat.lt_trichotomy A.length A'.length with hh | hh | hh
      · exfalso
        have : e ∈ A' := by
          have : (A ++ e :: C)[A.length]? = some e := by simp
          rw [heq, List.getElem?_append_left hh] at this
          exact List.mem_of_getElem? this
        exact hnl (hc.low e this)
      · exact hh
      · exfalso
        have : A[A'.length]? = B'[0]? := by
          have h3 : (A ++ e :: C)[A'.length]? = A[A'.length]? := List.getElem?_append_left hh
          rw [heq, List.getElem?_append_right (Nat.le_refl _), Nat.sub_self] at h3
          exact h3.symm
        rw [List.getElem?_eq_getElem hh] at this
        exact hc.high _ (List.mem_of_getElem? this.symm) (hlow _ (List.getElem_mem hh))
    exact List.append_inj heq hlen
  obtain ⟨rfl, rfl⟩ := key
  exact hc

theorem holds_around {l A C : List S45} {e : S45} (h : Around l e A C) : holds l e.f1 e.f0 = if e.f2 then 2 else 1 := by
  have hf : findH l e.f1 e.f0 = some e := by
    unfold findH
    rw [h.eq, List.find?_append, List.find?_eq_none.2 (fun a ha => by
      have := h.low a ha
      unfold isH Lt at *
      simp; intro h0; omega)]
    simp [List.find?, isH]
  unfold holds
  rw [hf]

/-- What is taken, there being no conflict. -/
theorem take_cut {l : List S45} (hl : RightP l) {tx key : Int} (hm : mayB tx key = true) (w : Bool) (hc : l.any (confl tx key w) = false) :
    ∃ A B, Cut l ⟨key, tx, w⟩ A B ∧ ((headIs ⟨key, tx, w⟩ B = false ∧ takeP l tx key w = (A ++ ⟨key, tx, w⟩ :: B, 0) ∧ Around (A ++ ⟨key, tx, w⟩ :: B) ⟨key, tx, w⟩ A B) ∨
      ∃ h C, B = h :: C ∧ h.f0 = key ∧ h.f1 = tx ∧ takeP l tx key w = (A ++ ⟨key, tx, h.f2 || w⟩ :: C, 0) ∧ Around (A ++ ⟨key, tx, h.f2 || w⟩ :: C) ⟨key, tx, h.f2 || w⟩ A C ∧ Around l h A C) := by
  obtain ⟨A, B, hcut⟩ := cut l hl.two ⟨key, tx, w⟩
  refine ⟨A, B, hcut, ?_⟩
  have hn := hcut.nth
  have hT : takeP l tx key w = if found l ⟨key, tx, w⟩ = true then (l.set (spot l ⟨key, tx, w⟩).toNat ⟨(rd_T45 l (spot l ⟨key, tx, w⟩)).f0, (rd_T45 l (spot l ⟨key, tx, w⟩)).f1, (rd_T45 l (spot l ⟨key, tx, w⟩)).f2 || w⟩, 0) else (insH l (spot l ⟨key, tx, w⟩).toNat ⟨key, tx, w⟩, 0) := by
    unfold takeP
    rw [if_neg (by rw [(right_iff l).2 hl]; simp), if_neg (by rw [hm]; simp), if_neg (by rw [hc]; simp)]
  cases hh : headIs ⟨key, tx, w⟩ B with
  | false =>
    refine .inl ⟨rfl, ?_, ⟨rfl, hcut.low, fun b hb => ?_⟩⟩
    · rw [hT, hn, hh, if_neg (by simp), hcut.at_, Int.toNat_natCast]
      unfold insH
      rw [hcut.eq, List.take_left, List.drop_left]
    · cases B with
      | nil => simp at hb
      | cons b0 B =>
        have h0 : Lt ⟨key, tx, w⟩ b0 := lt_of_not (hcut.high b0 (by simp)) hh
        rcases List.mem_cons.1 hb with rfl | hb
        · exact h0
        · have := hl.two
          rw [hcut.eq] at this
          exact h0.trans ((List.pairwise_cons.1 (List.pairwise_append.1 this).2.1).1 b hb).1
  | true =>
    cases B with
    | nil => simp [headIs] at hh
    | cons h C =>
      have he : ordI h ⟨key, tx, w⟩ = 0 := by simpa [headIs] using hh
      obtain ⟨e0, e1⟩ := (ord_eq _ _).1 he
      have hp := hl.two
      rw [hcut.eq] at hp
      have hC : ∀ c ∈ C, Lt h c := fun c hc => ((List.pairwise_cons.1 (List.pairwise_append.1 hp).2.1).1 c hc).1
      have hA : ∀ a ∈ A, Lt a h := fun a ha => ((List.pairwise_append.1 hp).2.2 a ha h (by simp)).1
      refine .inr ⟨h, C, rfl, e0, e1, ?_, ⟨rfl, fun a ha => ((no_lt (x := h) (y := ⟨key, tx, h.f2 || w⟩) e0 e1 (a := a) (b := a)).1).1 (hA a ha), fun c hc => ((no_lt (x := h) (y := ⟨key, tx, h.f2 || w⟩) e0 e1 (a := c) (b := c)).2).1 (hC c hc)⟩, ⟨hcut.eq, hA, hC⟩⟩
      rw [hT, hn, hh, if_pos rfl, hcut.at_, Int.toNat_natCast]
      unfold rd_T45
      rw [Int.toNat_natCast]
      have hg : l.getD A.length z45 = h := by rw [hcut.eq]; simp [List.getD_eq_getElem?_getD]
      rw [hg]
      have hs : ∀ y, l.set A.length y = A ++ y :: C := fun y => by rw [hcut.eq]; simp [List.set_append]
      rw [hs]
      have e0' : h.f0 = key := e0
      have e1' : h.f1 = tx := e1
      rw [e0', e1']

theorem confl_at {l : List S45} {tx key : Int} {w : Bool} (hc : l.any (confl tx key w) = false) {h : S45} (hm : h ∈ l) (hk : h.f0 = key) (ht : h.f1 ≠ tx) : w = false ∧ h.f2 = false := by
  have := (List.any_eq_false.1 hc) h hm
  unfold confl at this
  simp [hk, ht] at this
  exact this

theorem two_same {a x y : S45} (h : Two a x) (h0 : x.f0 = y.f0) (h1 : x.f1 = y.f1) (h2 : a.f0 = y.f0 → a.f2 = false ∧ y.f2 = false) : Two a y := ⟨((no_lt h0 h1 (a := a) (b := a)).1).1 h.1, h2⟩

/-- What comes of it may be. -/
theorem take_right {l : List S45} (hl : RightP l) {tx key : Int} (hm : mayB tx key = true) (w : Bool) (hc : l.any (confl tx key w) = false) : RightP (takeP l tx key w).1 ∧ (takeP l tx key w).2 = 0 := by
  obtain ⟨A, B, hcut, ⟨hh, ht, har⟩ | ⟨h, C, rfl, e0, e1, ht, har, har0⟩⟩ := take_cut hl hm w hc
  · have hp := hl.two
    rw [hcut.eq] at hp
    obtain ⟨pA, pB, pAB⟩ := List.pairwise_append.1 hp
    rw [ht]
    refine ⟨⟨fun x hx => ?_, ?_⟩, rfl⟩
    · rcases List.mem_append.1 hx with hx | hx
      · exact hl.may x (by rw [hcut.eq]; simp [hx])
      · rcases List.mem_cons.1 hx with rfl | hx
        · exact hm
        · exact hl.may x (by rw [hcut.eq]; simp [hx])
    · refine List.pairwise_append.2 ⟨pA, List.pairwise_cons.2 ⟨fun b hb => ⟨har.high b hb, fun hk => ?_⟩, pB⟩, fun a ha b hb => ?_⟩
      · have := confl_at hc (h := b) (by rw [hcut.eq]; simp [hb]) hk.symm (fun e => by have := har.high b hb; unfold Lt at this; simp at this hk; omega)
        exact this
      · rcases List.mem_cons.1 hb with rfl | hb
        · refine ⟨har.low a ha, fun hk => ?_⟩
          have := confl_at hc (h := a) (by rw [hcut.eq]; simp [ha]) hk (fun e => by have := har.low a ha; unfold Lt at this; simp at this hk; omega)
          exact ⟨this.2, this.1⟩
        · exact pAB a ha b hb
  · have hp := hl.two
    rw [hcut.eq] at hp
    obtain ⟨pA, pB, pAB⟩ := List.pairwise_append.1 hp
    obtain ⟨pC1, pC2⟩ := List.pairwise_cons.1 pB
    rw [ht]
    refine ⟨⟨fun x hx => ?_, ?_⟩, rfl⟩
    · rcases List.mem_append.1 hx with hx | hx
      · exact hl.may x (by rw [hcut.eq]; simp [hx])
      · rcases List.mem_cons.1 hx with rfl | hx
        · exact hm
        · exact hl.may x (by rw [hcut.eq]; simp [hx])
    · refine List.pairwise_append.2 ⟨pA, List.pairwise_cons.2 ⟨fun c hcm => ⟨har.high c hcm, fun hk => ?_⟩, pC2⟩, fun a ha b hb => ?_⟩
      · have h1 := confl_at hc (h := c) (by rw [hcut.eq]; simp [hcm]) hk.symm (fun e => by have := har.high c hcm; unfold Lt at this; simp at this hk; omega)
        have h2 := (pC1 c hcm).2 (by rw [e0]; exact hk)
        exact ⟨by rw [h2.1, h1.1]; rfl, h2.2⟩
      · rcases List.mem_cons.1 hb with rfl | hb
        · refine ⟨har.low a ha, fun hk => ?_⟩
          have h1 := confl_at hc (h := a) (by rw [hcut.eq]; simp [ha]) hk (fun e => by have := har.low a ha; unfold Lt at this; simp at this hk; omega)
          have h2 := (pAB a ha h (by simp)).2 (by rw [e0]; exact hk)
          exact ⟨h1.2, by show (h.f2 || w) = false; rw [h2.2, h1.1]; rfl⟩
        · exact pAB a ha b (by simp [hb])
end Go.Proofs.Ytjabikmofancfaa.H
