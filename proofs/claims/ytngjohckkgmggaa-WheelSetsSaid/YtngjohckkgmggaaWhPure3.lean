/- Set as a sorted insertion; time in pieces; what the document's functions answer, in the same words. -/

import Derived.Test.YtngjohckkgmggaaWhPure2
import Derived.Test.YtngjohckkgmggaaP4
namespace Go.Proofs.Ytngjohckkgmggaa.H
open Go.RowKit Go.Proofs.YtngjohckkgmggaaW.PrintWords Go.Proofs.YtngjohckkgmggaaW.PrintLast Go.Proofs.Ytngjohckkgmggaa.P
set_option linter.unusedVariables false
set_option linter.unusedSimpArgs false

theorem bs_spec (q : Int → Bool) (n : Int) (hm : ∀ a b, 0 ≤ a → a ≤ b → b < n → q b = true → q a = true) (f : Nat) : ∀ i j, 0 ≤ i → i ≤ j → j ≤ n → j - i ≤ f → (∀ a, 0 ≤ a → a < i → q a = true) → (∀ a, j ≤ a → a < n → q a = false) →
    (∀ a, 0 ≤ a → a < bs q f i j → q a = true) ∧ (∀ a, bs q f i j ≤ a → a < n → q a = false) := by
  induction f with
  | zero =>
    intro i j h0 h1 h2 h3 h4 h5
    obtain rfl : i = j := by omega
    exact ⟨h4, h5⟩
  | succ f ih =>
    intro i j h0 h1 h2 h3 h4 h5
    unfold bs
    by_cases h : i < j
    · rw [if_pos h]
      obtain ⟨m, hm2⟩ : ∃ m, m = (i + j) / 2 := ⟨_, rfl⟩
      rw [← hm2]
      have m0 : i ≤ m := by omega
      have m1 : m < j := by omega
      cases hq : q m with
      | true =>
        rw [if_pos rfl]
        exact ih (m + 1) j (by omega) (by omega) h2 (by omega) (fun a ha hb => hm a m ha (by omega) (by omega) hq) h5
      | false =>
        rw [if_neg (by simp)]
        refine ih i m h0 m0 (by omega) (by omega) h4 (fun a ha hb => ?_)
        cases hqa : q a with
        | false => rfl
        | true => rw [hm m a (by omega) ha hb hqa] at hq; cases hq
    · rw [if_neg h]
      obtain rfl : i = j := by omega
      exact ⟨h4, h5⟩

def lessB (x t : S64) : Bool := decide (ordI t x < 0)
theorem take_while_of {p : S64 → Bool} {l : List S64} {k : Nat} (hk : k ≤ l.length) (h : ∀ j, j < k → p (l.getD j z64) = true) (he : k = l.length ∨ p (l.getD k z64) = false) : l.takeWhile p = l.take k ∧ l.dropWhile p = l.drop k := by
  induction l generalizing k with
  | nil => simp
  | cons y l ih =>
    cases k with
    | zero =>
      rcases he with he | he
      · simp at he
      · have : p y = false := by simpa using he
        simp [List.takeWhile, List.dropWhile, this]
    | succ k =>
      have hy : p y = true := by simpa using h 0 (by omega)
      obtain ⟨h1, h2⟩ := ih (k := k) (by simpa using hk) (fun j hj => by simpa using h (j + 1) (by omega)) (by simpa using he)
      simp [List.takeWhile, List.dropWhile, hy, h1, h2]
theorem filter_len (p : S64 → Bool) (l : List S64) : (l.filter p).length + (l.filter (fun t => !p t)).length = l.length := by
  induction l with
  | nil => rfl
  | cons y l ih => cases h : p y <;> simp [h] <;> omega
def insS (x : S64) (l : List S64) : List S64 := l.filter (lessB x) ++ x :: l.filter (fun t => !lessB x t)
theorem sort_less {l : List S64} (h : l.Pairwise (fun a b => lt2 a b ∧ a.f0 ≠ b.f0)) (x : S64) : l.Pairwise (fun a b => lessB x b = true → lessB x a = true) :=
  h.imp fun {a b} hab hb => by
    unfold lessB at *
    exact decide_eq_true ((ord_lt a x).2 (lt2_trans hab.1 ((ord_lt b x).1 (of_decide_eq_true hb))))
theorem insH_is {l : List S64} (h : l.Pairwise (fun a b => lt2 a b ∧ a.f0 ≠ b.f0)) (x : S64) : insH l (bs (lessH l x) l.length 0 l.length).toNat x = insS x l := by
  have hr := bs_range (lessH l x) l.length 0 l.length (by omega)
  have hq : ∀ a : Nat, (ha : a < l.length) → lessH l x (a : Int) = lessB x l[a] := fun a ha => by unfold lessH lessB; rw [rdT l a ha]
  have h2 := List.pairwise_iff_getElem.1 (sort_less h x)
  have hs := bs_spec (lessH l x) l.length (fun a b h0 h1 h3 h4 => by
    obtain ⟨a, rfl⟩ : ∃ m : Nat, a = m := ⟨a.toNat, by omega⟩
    obtain ⟨b, rfl⟩ : ∃ m : Nat, b = m := ⟨b.toNat, by omega⟩
    rw [hq b (by omega)] at h4
    rw [hq a (by omega)]
    by_cases e : a = b
    · subst e; exact h4
    · exact h2 a b (by omega) (by omega) (by omega) h4) l.length 0 l.length (by omega) (by omega) (by omega) (by omega) (fun a h0 h1 => by omega) (fun a h0 h1 => by omega)
  generalize hR : bs (lessH l x) l.length 0 l.length = r at hr hs
  obtain ⟨r, rfl⟩ : ∃ m : Nat, r = m := ⟨r.toNat, by omega⟩
  have ht := take_while_of (p := lessB x) (l := l) (k := r) (by omega) (fun j hj => by rw [getD_of (by omega), ← hq j (by omega)]; exact hs.1 j (by omega) (by omega)) (by
    by_cases e : r = l.length
    · exact .inl e
    · exact .inr (by rw [getD_of (by omega), ← hq r (by omega)]; exact hs.2 r (by omega) (by omega)))
  have hf := take_filter (p := lessB x) (l := l) (sort_less h x)
  unfold insH insS
  rw [Int.toNat_natCast, ← ht.1, ← ht.2, hf.1, hf.2]
theorem insS_mem {x t : S64} {l : List S64} : t ∈ insS x l ↔ t = x ∨ t ∈ l := by
  unfold insS
  rw [List.mem_append, List.mem_cons, List.mem_filter, List.mem_filter]
  cases lessB x t <;> simp [or_comm]
theorem insS_len (x : S64) (l : List S64) : (insS x l).length = l.length + 1 := by
  unfold insS
  rw [List.length_append, List.length_cons]
  have := filter_len (lessB x) l
  omega
theorem not_less {x t : S64} (h : lessB x t = false) (hi : t.f0 ≠ x.f0) : lt2 x t := by
  unfold lessB at h
  have h := of_decide_eq_false h
  rw [ord_lt] at h
  unfold lt2 at *
  omega
theorem is_less {x t : S64} (h : lessB x t = true) : lt2 t x := (ord_lt t x).1 (of_decide_eq_true h)
theorem insS_two {x : S64} {l : List S64} (h : l.Pairwise (fun a b => lt2 a b ∧ a.f0 ≠ b.f0)) (hi : ∀ t ∈ l, t.f0 ≠ x.f0) : (insS x l).Pairwise (fun a b => lt2 a b ∧ a.f0 ≠ b.f0) := by
  unfold insS
  rw [List.pairwise_append]
  refine ⟨h.sublist List.filter_sublist, List.pairwise_cons.2 ⟨fun b hb => ?_, h.sublist List.filter_sublist⟩, fun a ha b hb => ?_⟩
  · obtain ⟨hb1, hb2⟩ := List.mem_filter.1 hb
    exact ⟨not_less (by simpa using hb2) (hi b hb1), fun e => hi b hb1 e.symm⟩
  · obtain ⟨ha1, ha2⟩ := List.mem_filter.1 ha
    rcases List.mem_cons.1 hb with rfl | hb
    · exact ⟨is_less ha2, hi a ha1⟩
    · obtain ⟨hb1, hb2⟩ := List.mem_filter.1 hb
      have h1 := lt2_trans (is_less ha2) (not_less (by simpa using hb2) (hi b hb1))
      refine ⟨h1, fun e => ?_⟩
      obtain ⟨i, hi1, rfl⟩ := List.mem_iff_getElem.1 ha1
      obtain ⟨j, hj1, rfl⟩ := List.mem_iff_getElem.1 hb1
      have h2 := List.pairwise_iff_getElem.1 h
      rcases Nat.lt_trichotomy i j with h3 | h3 | h3
      · exact (h2 i j hi1 hj1 h3).2 e
      · subst h3; unfold lt2 at h1; omega
      · exact (h2 j i hj1 hi1 h3).2 e.symm
theorem hasId {id : Int} {l : List S64} : idx (isId id) l 0 = -1 ↔ l.any (isId id) = false := by
  constructor
  · intro h
    rw [List.any_eq_false]
    intro x hx
    rw [idx_neg _ l 0 (Int.le_refl _) h x hx]
    simp
  · intro h
    refine idx_none _ _ _ (fun x hx => ?_)
    rw [List.any_eq_false] at h
    simpa using h x hx
theorem stop_mem {now : Int} {l : List S64} (h : WhP now l) {id : Int} {t : S64} : t ∈ stopL l id ↔ t ∈ l ∧ t.f0 ≠ id := by
  rw [stopL_filter h id, List.mem_filter]
  simp [isId]
theorem stop_less {now : Int} {l : List S64} (h : WhP now l) {id : Int} (hi : l.any (isId id) = true) : (stopL l id).length + 1 ≤ l.length := by
  rw [stopL_filter h id]
  obtain ⟨x, hx, hp⟩ := List.any_eq_true.1 hi
  have h1 := filter_len (isId id) l
  have h2 : 0 < (l.filter (isId id)).length := List.length_pos_of_mem (List.mem_filter.2 ⟨hx, hp⟩)
  omega
theorem WhP.set {now : Int} {l : List S64} (h : WhP now l) {id at_ : Int} (h1 : now < at_) (h2 : at_ ≤ 1099511627776) (hi : l.any (isId id) = true ∨ l.length < 1000) : WhP now (insS ⟨id, at_⟩ (stopL l id)) := by
  have hs := h.stop id
  refine ⟨h.n0, h.n1, ?_, fun t ht => ?_, insS_two hs.two (fun t ht => ((stop_mem h).1 ht).2)⟩
  · rw [insS_len]
    rcases hi with hi | hi
    · have := stop_less h hi; have := h.len; omega
    · have := stopL_len l id; omega
  · rcases insS_mem.1 ht with rfl | ht
    · exact ⟨h1, h2⟩
    · exact hs.at0 t ht
theorem set_good {now : Int} {l : List S64} (hw : wfT l = true) (h : WhP now l) (id at_ : Int) :
    setF now l id at_ = some (if at_ ≤ now then (now, l, 10) else if 1099511627776 < at_ then (now, l, 3) else if l.any (isId id) = false ∧ 1000 ≤ l.length then (now, l, 6) else (now, insS ⟨id, at_⟩ (stopL l id), 0)) := by
  unfold setF
  have := h.len
  rw [if_pos ⟨hw, by omega⟩, if_pos (whp_right h)]
  by_cases h1 : at_ ≤ now
  · rw [if_pos (decide_eq_true h1), if_pos h1]
  · rw [if_neg (by rw [decide_eq_true_iff]; exact h1), if_neg h1]
    by_cases h2 : 1099511627776 < at_
    · rw [if_pos (decide_eq_true h2), if_pos h2]
    · rw [if_neg (by rw [decide_eq_true_iff]; exact h2), if_neg h2, insH_is (h.stop id).two]
      by_cases h3 : l.any (isId id) = false ∧ 1000 ≤ l.length
      · rw [if_pos ⟨hasId.2 h3.1, by rw [decide_eq_true_iff]; omega⟩, if_pos h3]
      · rw [if_neg h3, if_neg]
        intro h4
        exact h3 ⟨hasId.1 h4.1, by have := of_decide_eq_true h4.2; omega⟩
theorem stop_good {now : Int} {l : List S64} (hw : wfT l = true) (h : WhP now l) (id : Int) :
    stopF now l id = some (if l.any (isId id) = true then (now, stopL l id, 0) else (now, l, 7)) := by
  unfold stopF
  have := h.len
  rw [if_pos ⟨hw, by omega⟩, if_pos (whp_right h)]
  by_cases h1 : idx (isId id) l 0 = -1
  · rw [if_pos h1, if_neg (by rw [hasId.1 h1]; simp)]
  · have h2 : l.any (isId id) = true := by
      cases h3 : l.any (isId id) with
      | true => rfl
      | false => exact absurd (hasId.2 h3) h1
    rw [if_neg h1, if_pos h2]
    unfold stopL
    rw [if_neg h1]
theorem tick_any {now by_ : Int} {l : List S64} (hw : wfT l = true) (h : WhP now l) :
    tickF now l by_ = some (if by_ < 0 then (now, l, [], 2) else if 1099511627776 - now < by_ then (now, l, [], 3) else (now + by_, leftP (now + by_) l, rungP (now + by_) l, 0)) := by
  unfold tickF
  have := h.len
  rw [if_pos ⟨hw, by omega⟩, if_pos (whp_right h)]
  by_cases h1 : by_ < 0
  · rw [if_pos (decide_eq_true h1), if_pos h1]
  · rw [if_neg (by rw [decide_eq_true_iff]; exact h1), if_neg h1]
    by_cases h2 : 1099511627776 - now < by_
    · rw [if_pos (decide_eq_true h2), if_pos h2]
    · rw [if_neg (by rw [decide_eq_true_iff]; exact h2), if_neg h2]
theorem wfT_ins {l : List S64} {x : S64} (h : wfT l = true) (hx : (Lit.int .i64 x.f0).wf = true) : wfT (insS x l) = true := by
  unfold wfT at *
  rw [List.all_eq_true] at *
  intro t ht
  rcases insS_mem.1 ht with rfl | ht
  · exact hx
  · exact h t ht

/-! Time in pieces. -/
theorem take_two {p q : S64 → Bool} (hpq : ∀ t, p t = true → q t = true) (l : List S64) : l.takeWhile q = l.takeWhile p ++ (l.dropWhile p).takeWhile q ∧ (l.dropWhile p).dropWhile q = l.dropWhile q := by
  induction l with
  | nil => exact ⟨rfl, rfl⟩
  | cons y l ih =>
    cases hp : p y with
    | true => simp [List.takeWhile, List.dropWhile, hp, hpq y hp, ih.1, ih.2]
    | false => simp [List.takeWhile, List.dropWhile, hp]
theorem pieces {n1 n2 : Int} (h : n1 ≤ n2) (l : List S64) : rungP n2 l = rungP n1 l ++ rungP n2 (leftP n1 l) ∧ leftP n2 (leftP n1 l) = leftP n2 l := by
  have := take_two (p := rings n1) (q := rings n2) (fun t ht => by
    unfold rings at *
    have := of_decide_eq_true ht
    exact decide_eq_true (by omega)) l
  unfold rungP leftP
  rw [this.1, this.2, List.map_append]
  exact ⟨rfl, rfl⟩

theorem rdN (l : List Int) (i : Nat) (h : i < l.length) : rd l (i : Int) = l[i] := by unfold rd; rw [Int.toNat_natCast, List.getD_eq_getElem?_getD, List.getElem?_eq_getElem h]; rfl
theorem same_loop (l : List Int) (hl : l.length ≤ 5000) (d : Nat) : ∀ (k i : Nat), i + d = l.length → d < k → waystationlaw06_same.l0 k l l (l.length : Int) (i : Int) = some true := by
  induction d with
  | zero =>
    intro k i hi hk
    obtain ⟨k, rfl⟩ : ∃ m, k = m + 1 := ⟨k - 1, by omega⟩
    simp only [waystationlaw06_same.l0]
    rw [if_neg (by omega)]
  | succ d ih =>
    intro k i hi hk
    obtain ⟨k, rfl⟩ : ∃ m, k = m + 1 := ⟨k - 1, by omega⟩
    simp only [waystationlaw06_same.l0]
    rw [if_pos (by omega), if_pos (by omega), if_pos (by omega), if_pos (by omega), if_pos trivial, w64 i (by omega), ih k (i + 1) (by omega) (by omega)]
theorem same_is (l : List Int) (hl : l.length ≤ 5000) (k : Nat) (hk : l.length < k) : waystationlaw06_same.f k l l = some true := by
  unfold waystationlaw06_same.f
  rw [if_pos rfl]
  have := same_loop l hl l.length k 0 (by omega) hk
  simpa using this

theorem wf16 {y : Int} (h : (Lit.int .u16 y).wf = true) : 0 ≤ y ∧ y < 65536 := by
  have h2 : IntKind.u16.min ≤ y ∧ y ≤ IntKind.u16.max := by simpa [Lit.wf] using h
  exact ⟨h2.1, Int.lt_of_le_of_lt h2.2 (by decide)⟩

/-! The document's functions. -/
theorem mapT_O (l : List S64) : (l.map toO).map toT = l := by rw [List.map_map]; simp [Function.comp_def, toT_toO]
theorem ours_loop (now : Int) (l : List S64) (hl : l.length ≤ 5864062014805) (d : Nat) : ∀ (k i : Nat) (acc : List S46), i + d = l.length → d < k → acc.length = i → waystationlaw06_Ours.l0 k l (l.length : Int) (i : Int) now acc = some (now, acc ++ (l.drop i).map toO) := by
  induction d with
  | zero =>
    intro k i acc hi hk ha
    obtain ⟨k, rfl⟩ : ∃ m, k = m + 1 := ⟨k - 1, by omega⟩
    simp only [waystationlaw06_Ours.l0]
    rw [if_neg (by omega), List.drop_of_length_le (by omega)]
    simp
  | succ d ih =>
    intro k i acc hi hk ha
    obtain ⟨k, rfl⟩ : ∃ m, k = m + 1 := ⟨k - 1, by omega⟩
    simp only [waystationlaw06_Ours.l0]
    rw [if_pos (by omega), if_pos (by omega), if_pos (by omega), if_pos (by omega), w64 i (by omega), ih k (i + 1) _ (by omega) (by omega) (by simp [ha]), rdT l i (by omega), drop_at l i (by omega), List.map_cons, List.append_assoc]
    rfl
theorem ours_is (now : Int) (l : List S64) (hl : l.length ≤ 5864062014805) (k : Nat) (hk : l.length < k) : waystationlaw06_Ours.f k now l = some (now, l.map toO) := by
  unfold waystationlaw06_Ours.f
  have := ours_loop now l hl l.length k 0 [] (by omega) hk rfl
  simpa using this
theorem sameO_loop (now : Int) (l : List S46) (hl : l.length ≤ 5000) (d : Nat) : ∀ (k i : Nat), i + d = l.length → d < k → waystationref06_Same.l0 k (i : Int) now l now l = some true := by
  induction d with
  | zero =>
    intro k i hi hk
    obtain ⟨k, rfl⟩ : ∃ m, k = m + 1 := ⟨k - 1, by omega⟩
    simp only [waystationref06_Same.l0]
    rw [if_neg (by omega)]
  | succ d ih =>
    intro k i hi hk
    obtain ⟨k, rfl⟩ : ∃ m, k = m + 1 := ⟨k - 1, by omega⟩
    simp only [waystationref06_Same.l0]
    rw [if_pos (by omega), if_pos (by omega), if_pos (by omega), if_neg (by simp), w64 i (by omega), ih k (i + 1) (by omega) (by omega)]
theorem sameO_is (now : Int) (l : List S46) (hl : l.length ≤ 5000) (k : Nat) (hk : l.length + 1 < k) : waystationref06_Same.f k now l now l = some true := by
  unfold waystationref06_Same.f
  obtain ⟨k, rfl⟩ : ∃ m, k = m + 1 := ⟨k - 1, by omega⟩
  rw [if_pos rfl, show ((l.length : Int) != (l.length : Int)) = false from by simp]
  simp only [waystationref06_Same.j0]
  rw [if_neg (by simp)]
  exact sameO_loop now l hl l.length k 0 (by omega) (by omega)

end Go.Proofs.Ytngjohckkgmggaa.H
