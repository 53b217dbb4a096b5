/- The walks over the laws of layer 13: texts that are short. -/
import Derived.Test.YtnbjpilanjngmaaLaw13a
import Derived.Test.YtnbjpilanjngmaaRef13C
namespace Go.Proofs.Ytnbjpilanjngmaa.XS
open Go Go.RowKit
def shortB (a b : Nat) : Bool := decide (a ≤ 2000) && decide (b ≤ 2000)
set_option maxHeartbeats 1000000 in
theorem short_any (w : World) (b1 b2 : Option Addr) (l1 l2 c1 c2 : Nat) (h1 : l1 ≤ 140737488355328) (h2 : l2 ≤ 140737488355328) :
    Calls Try.prog 10 #[.slice b1 l1 c1, .slice b2 l2 c2] w fun e w' => e = .returned (.bool (shortB l1 l2)) ∧ w = w' := by
  by_cases hs1 : l1 ≤ 2000
  · by_cases hs2 : l2 ≤ 2000
    · have d1 : decide ((l1 : Int) ≤ 2000) = true := decide_eq_true (by omega)
      have d2 : decide ((l2 : Int) ≤ 2000) = true := decide_eq_true (by omega)
      have e : shortB l1 l2 = true := by unfold shortB; rw [decide_eq_true hs1, decide_eq_true hs2]; rfl
      have E := Lib.hid e; clear e
      go_enter Try.func10, Try.ntmps10
      go_wp2
      go_ret
      exact ⟨by rw [E.out]; rfl, rfl⟩
    · have d1 : decide ((l1 : Int) ≤ 2000) = true := decide_eq_true (by omega)
      have d2 : decide ((l2 : Int) ≤ 2000) = false := decide_eq_false (by omega)
      have e : shortB l1 l2 = false := by unfold shortB; rw [decide_eq_true hs1, decide_eq_false hs2]; rfl
      have E := Lib.hid e; clear e
      go_enter Try.func10, Try.ntmps10
      go_wp2
      go_ret
      exact ⟨by rw [E.out]; rfl, rfl⟩
  · have d1 : decide ((l1 : Int) ≤ 2000) = false := decide_eq_false (by omega)
    have e : shortB l1 l2 = false := by unfold shortB; rw [decide_eq_false hs1]; rfl
    have E := Lib.hid e; clear e
    go_enter Try.func10, Try.ntmps10
    go_wp2
    go_ret
    exact ⟨by rw [E.out]; rfl, rfl⟩
theorem shortB_true {a b : Nat} (h : shortB a b = true) : a ≤ 2000 ∧ b ≤ 2000 := by
  unfold shortB at h; simpa using h
theorem keyNS {l : List UInt8} (hk : l.length = 16 ∨ l.length = 24 ∨ l.length = 32) : ∃ n, (n = 4 ∨ n = 6 ∨ n = 8) ∧ l.length = 4 * n := by
  rcases hk with h | h | h
  · exact ⟨4, .inl rfl, h⟩
  · exact ⟨6, .inr (.inl rfl), h⟩
  · exact ⟨8, .inr (.inr rfl), h⟩
end Go.Proofs.Ytnbjpilanjngmaa.XS
