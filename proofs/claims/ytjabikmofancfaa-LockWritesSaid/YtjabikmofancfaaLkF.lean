
import Derived.Test.YtjabikmofancfaaLkE
import Derived.Test.YtjabikmofancfaaRowK
namespace Go.Proofs.Ytjabikmofancfaa.H
open Go.RowKit Go.Proofs.YtjabikmofancfaaW.PrintWords Go.Proofs.YtjabikmofancfaaW.PrintLast Go.Proofs.Ytjabikmofancfaa.P
set_option linter.unusedVariables false
set_option linter.unusedSimpArgs false

def cellsH (x : S45) : List Value := [.int .u8 x.f0, .int .i64 x.f1, .bool x.f2]
theorem flatK : Flat k45 3 cellsH := ⟨rfl, fun _ => rfl, ⟨fun h => k45_openM h, fun h => by subst h; exact k45_mkM _ _ _ _⟩, ⟨fun h => k45_open h, fun h => by subst h; exact k45_mk _ _⟩⟩

/-- Element a of a row is x. -/
structure AtH (f : Nat → Value) (a : Nat) (x : S45) : Prop where
  c0 : f (a * 3) = .int .u8 x.f0
  c1 : f (a * 3 + 1) = .int .i64 x.f1
  c2 : f (a * 3 + 2) = .bool x.f2
theorem atH_of {f : Nat → Value} {l : List S45} (h : ∀ i j, ∀ hi : i < l.length, j < 3 → some (f (i * 3 + j)) = (cellsH l[i])[j]?) (i : Nat) (hi : i < l.length) : AtH f i (l.getD i z45) := by
  have e : l.getD i z45 = l[i] := by rw [List.getD_eq_getElem?_getD, List.getElem?_eq_getElem hi]; rfl
  rw [e]
  exact ⟨by simpa [cellsH] using h i 0 hi (by omega), by simpa [cellsH] using h i 1 hi (by omega), by simpa [cellsH] using h i 2 hi (by omega)⟩
theorem atH_to {f : Nat → Value} {l : List S45} (h : ∀ i, i < l.length → AtH f i (l.getD i z45)) (i j : Nat) (hi : i < l.length) (hj : j < 3) : some (f (i * 3 + j)) = (cellsH l[i])[j]? := by
  have := h i hi
  rw [show l.getD i z45 = l[i] from by rw [List.getD_eq_getElem?_getD, List.getElem?_eq_getElem hi]; rfl] at this
  match j, hj with
  | 0, _ => simpa [cellsH] using this.c0
  | 1, _ => simpa [cellsH] using this.c1
  | 2, _ => simpa [cellsH] using this.c2
/-- Three stores: element i is x. -/
def put3 (f : Nat → Value) (i : Nat) (x : S45) : Nat → Value := upd (upd (upd f (i * 3) (.int .u8 x.f0)) (i * 3 + 1) (.int .i64 x.f1)) (i * 3 + 2) (.bool x.f2)
theorem row_put3 {W : World} {g N : Nat} {f : Nat → Value} (h : Row W g 45 N f) (i : Nat) (hi : i * 3 + 2 < N) (x : S45) :
    Row (((W.setCell ⟨g, i * 3, none⟩ (.int .u8 x.f0)).setCell ⟨g, i * 3 + 1, none⟩ (.int .i64 x.f1)).setCell ⟨g, i * 3 + 2, none⟩ (.bool x.f2)) g 45 N (put3 f i x) :=
  ((h.set (by omega) _).set (by omega) _).set (by omega) _
theorem at_put_same (f : Nat → Value) (i : Nat) (x : S45) : AtH (put3 f i x) i x := by
  constructor <;> simp [put3, upd]
theorem at_put_other {f : Nat → Value} {i a : Nat} {x y : S45} (h : AtH f a y) (ha : a ≠ i) : AtH (put3 f i x) a y := by
  have e0 : ∀ r s, r < 3 → s < 3 → a * 3 + r ≠ i * 3 + s := by intro r s _ _ h; omega
  constructor
  · simp only [put3, upd]; rw [if_neg (by have := e0 0 2; omega), if_neg (by have := e0 0 1; omega), if_neg (by have := e0 0 0; omega)]; exact h.c0
  · simp only [put3, upd]; rw [if_neg (by have := e0 1 2; omega), if_neg (by have := e0 1 1; omega), if_neg (by have := e0 1 0; omega)]; exact h.c1
  · simp only [put3, upd]; rw [if_neg (by have := e0 2 2; omega), if_neg (by have := e0 2 1; omega), if_neg (by have := e0 2 0; omega)]; exact h.c2
theorem at_updL {f : Nat → Value} {o a : Nat} {vs : List Value} {y : S45} (h : AtH f a y) (ha : a * 3 + 3 ≤ o ∨ o + vs.length ≤ a * 3) : AtH (updL f o vs) a y := by
  constructor <;> (simp only [updL]; rw [if_neg (by omega)])
  · exact h.c0
  · exact h.c1
  · exact h.c2
theorem below_put {w W : World} {B g : Nat} (h : Below B w W) (hg : B ≤ g) (a b c : Nat) (x y z : Value) : Below B w (((W.setCell ⟨g, a, none⟩ x).setCell ⟨g, b, none⟩ y).setCell ⟨g, c, none⟩ z) :=
  ((h.setCell (p := ⟨g, a, none⟩) hg x).setCell (p := ⟨g, b, none⟩) hg y).setCell (p := ⟨g, c, none⟩) hg z

theorem idx_facts (p : S45 → Bool) (l : List S45) : (idx p l 0 = -1 ∧ l.filter (fun x => !p x) = l) ∨ ∃ k : Nat, k < l.length ∧ idx p l 0 = k ∧ (l.take (k + 1)).filter (fun x => !p x) = l.take k := by
  have key : ∀ (l : List S45) (i : Int), (idx p l i = -1 ∧ l.filter (fun x => !p x) = l) ∨ ∃ k : Nat, k < l.length ∧ idx p l i = i + k ∧ (l.take (k + 1)).filter (fun x => !p x) = l.take k := by
    intro l
    induction l with
    | nil => intro i; exact .inl ⟨rfl, rfl⟩
    | cons x l ih =>
      intro i
      by_cases h : p x = true
      · exact .inr ⟨0, by simp, by simp [idx, h], by simp [h]⟩
      · have h' : p x = false := by simpa using h
        rcases ih (i + 1) with ⟨a, b⟩ | ⟨k, a, b, c⟩
        · exact .inl ⟨by simp [idx, h', a], by simp [h', b]⟩
        · exact .inr ⟨k + 1, by simp; omega, by simp [idx, h', b]; omega, by simp [h']; exact c⟩
  rcases key l 0 with h | ⟨k, a, b, c⟩
  · exact .inl h
  · exact .inr ⟨k, a, by rw [b]; omega, c⟩
end Go.Proofs.Ytjabikmofancfaa.H
