/- Runs of the engine. -/
import Derived.Test.YtkidolggnmomcaaGreatDoorCd
set_option linter.unusedVariables false
set_option linter.unusedSimpArgs false
/- Runs of the engine at all forms of the statement. -/
open Go Go.Ab
namespace Go.Ab.T
set_option maxRecDepth 100000
def allN (f : Nat → Bool) : Nat → Bool
  | 0 => true
  | n + 1 => f n && allN f n
theorem allN_get {f : Nat → Bool} : ∀ {n k : Nat}, allN f n = true → k < n → f k = true
  | 0, _, _, h => absurd h (Nat.not_lt_zero _)
  | n + 1, k, h, hk => by
    obtain ⟨h1, h2⟩ := and_tt h
    rcases Nat.lt_succ_iff_lt_or_eq.1 hk with h3 | rfl
    · exact allN_get h2 h3
    · exact h1
theorem do_all : allN (fun n => allN (fun t => allN (fun k => runDo (n + 2) t k) (n + 2)) 2) 7 = true := by kernel_rfl
theorem doc_all : allN (fun n => allN (fun t => runDoc (n + 2) t) 2) 7 = true := by kernel_rfl
theorem push_all : allN runPush 13 = true := by kernel_rfl
/-- all that is handed to runs looks into no memory -/
def stiffAll (n t k : Nat) : Bool := stiffs [formR n] && (stiffs (sidesIn n) && (stiff (.tup [conOf n, .int .i64 0]) && (stiffs [formR n, .agg (docIn n t)] && (stiffs (engIn n t) && (stiffs (engOut n t k) && (stiffs [opR n k] && (stiffs [formR n, .agg (docIn n t), nameR k, .agg (rawC (unitE n))] && (stiff (okErr (.agg (docOut n t k))) && (stiff (.agg (docIn n t)) && stiff (okErr (.agg (doc0 n))))))))))))
theorem stiff_all : allN (fun n => allN (fun t => allN (fun k => stiffAll (n + 2) t k) (n + 2)) 2) 7 = true := by kernel_rfl
end Go.Ab.T
