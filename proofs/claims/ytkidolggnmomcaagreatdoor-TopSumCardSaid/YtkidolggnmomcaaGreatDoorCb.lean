/- The tables of the seat are those of the program. -/
import Derived.Test.YtkidolggnmomcaaGreatDoorCa
import Derived.Test.YtkidolggnmomcaaGreatDoorAe
import Derived.Recover
import Derived.KernelRfl
set_option linter.unusedVariables false
set_option linter.unusedSimpArgs false
/- What the interpreter is told of this program is so. -/
open Go Go.Ab
namespace Go.Ab.T
set_option maxRecDepth 100000

def fnB (fn : Func) : Bool := !(fn.name == "runtime.NumGoroutine") && (match fn.body with
  | some cd => codeReg cd
  | none => true)
def full25 {α : Type} : List (List α) → Bool
  | [] => true
  | [_] => true
  | l :: r => Nat.beq l.length 25 && full25 r
theorem flat_get {α : Type} : ∀ {l : List (List α)} {c j : Nat} {r : List α} {x : α}, full25 l = true → nthN l c = some r → nthN r j = some x → j < 25 → l.flatten[25 * c + j]? = some x
  | [], _, _, _, _, _, h, _, _ => by cases h
  | [l], 0, j, r, x, _, h, hx, _ => by
    cases h
    rw [nthN_eq] at hx
    simpa using hx
  | [l], c + 1, j, r, x, _, h, hx, _ => by cases c <;> cases h
  | l :: l' :: t, 0, j, r, x, hf, h, hx, hj => by
    cases h
    rw [nthN_eq] at hx
    have h1 := (List.getElem?_eq_some_iff.1 hx).1
    rw [List.flatten_cons, List.getElem?_append_left (by omega)]
    rw [show 25 * 0 + j = j from by omega]
    exact hx
  | l :: l' :: t, c + 1, j, r, x, hf, h, hx, hj => by
    obtain ⟨h1, h2⟩ := and_tt' hf
    have h3 := beq_t h1
    have := flat_get (l := l' :: t) (c := c) h2 h hx hj
    rw [List.flatten_cons, List.getElem?_append_right (by omega), h3]
    rw [show 25 * (c + 1) + j - 25 = 25 * c + j from by omega]
    exact this

theorem ty_all : allT (tyB Go.Proofs.Tryz.prog) 0 tyL = true := by kernel_rfl
theorem fn_all : allT (fun _ fn => fnB fn) 0 fnL = true := by kernel_rfl
theorem fn_full : full25 fnL = true := by kernel_rfl
theorem fn_flat : Go.Proofs.Tryz.prog.funcs.toList = fnL.flatten := by kernel_rfl

theorem get2_spec {α : Type} {l : List (List α)} {n : Nat} {x : α} (h : get2 l n = some x) : ∃ r, nthN l (n / 25) = some r ∧ nthN r (n % 25) = some x := by
  unfold get2 at h
  split at h
  · rename_i r hr
    exact ⟨r, hr, h⟩
  · cases h
theorem ty_ok (t : Nat) (i : TI) (h : E.ty t = some i) : TyOk Go.Proofs.Tryz.prog t i := by
  obtain ⟨r, h1, h2⟩ := get2_spec h
  have := allI_get (allT_get ty_all h1) h2
  rw [show 25 * (0 + t / 25) + t % 25 = t from by omega] at this
  exact tyB_ok this
theorem fn_ok (f : Nat) (fn : Func) (h : E.fn f = some fn) : Go.Proofs.Tryz.prog.funcs[f]? = some fn ∧ fnB fn = true := by
  obtain ⟨r, h1, h2⟩ := get2_spec h
  have h3 := allI_get (allT_get fn_all h1) h2
  have h4 := flat_get fn_full h1 h2 (Nat.mod_lt _ (by decide))
  rw [show 25 * (f / 25) + f % 25 = f from by omega, ← fn_flat] at h4
  exact ⟨by simpa using h4, h3⟩
end Go.Ab.T
