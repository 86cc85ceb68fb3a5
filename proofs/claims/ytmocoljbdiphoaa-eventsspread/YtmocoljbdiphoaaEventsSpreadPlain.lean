/- The plain law of EventsSpread. -/
import Derived.Test.YtmocoljbdiphoaaRef
set_option linter.unusedSimpArgs false
namespace Go.Pv
open Go

theorem dist_eq {a b : Int} (ha : 0 ≤ a ∧ a < 46080) (hb : 0 ≤ b ∧ b < 46080) : events_Distance a b = some ((b - a) % 46080) := by
  unfold events_Distance events_angle
  rw [show (decide (a ≥ 0) && decide (a < 46080)) = true by simp; omega, show (decide (b ≥ 0) && decide (b < 46080)) = true by simp; omega, w64_of (by omega) (by omega), mod_eq _ (by omega) (by omega)]
  rfl

theorem spread_d (F : Int) (j n : Nat) (h1 : 1 ≤ n) (h2 : n ≤ 8) (hj : j < n) (h3 : 0 ≤ F) (h4 : F < 46080) :
    (bif (n : Int) == 1 then some (46080 : Int) else some (((F + (((j + 1) % n : Nat) : Int) * 46080 / (n : Int)) % 46080 - (F + (j : Int) * 46080 / (n : Int)) % 46080) % 46080)) = some (((j : Int) + 1) * 46080 / (n : Int) - (j : Int) * 46080 / (n : Int)) := by
  rw [bsome, Option.some.injEq]
  have hcase : n = 1 ∨ n = 2 ∨ n = 3 ∨ n = 4 ∨ n = 5 ∨ n = 6 ∨ n = 7 ∨ n = 8 := by omega
  rcases hcase with rfl | rfl | rfl | rfl | rfl | rfl | rfl | rfl
  · have : j = 0 := by omega
    subst this; rfl
  · rw [show (((2 : Nat) : Int) == 1) = false from rfl, cond_false]; omega
  · rw [show (((3 : Nat) : Int) == 1) = false from rfl, cond_false]; omega
  · rw [show (((4 : Nat) : Int) == 1) = false from rfl, cond_false]; omega
  · rw [show (((5 : Nat) : Int) == 1) = false from rfl, cond_false]; omega
  · rw [show (((6 : Nat) : Int) == 1) = false from rfl, cond_false]; omega
  · rw [show (((7 : Nat) : Int) == 1) = false from rfl, cond_false]
    have hj7 : j = 0 ∨ j = 1 ∨ j = 2 ∨ j = 3 ∨ j = 4 ∨ j = 5 ∨ j = 6 := by omega
    rcases hj7 with rfl | rfl | rfl | rfl | rfl | rfl | rfl <;> omega
  · rw [show (((8 : Nat) : Int) == 1) = false from rfl, cond_false]; omega

theorem spread_b (j n : Nat) (h1 : 1 ≤ n) (h2 : n ≤ 8) (hj : j < n) :
    46080 / (n : Int) ≤ ((j : Int) + 1) * 46080 / (n : Int) - (j : Int) * 46080 / (n : Int) ∧ ((j : Int) + 1) * 46080 / (n : Int) - (j : Int) * 46080 / (n : Int) ≤ 46080 / (n : Int) + 1 ∧ 0 ≤ (j : Int) * 46080 / (n : Int) ∧ (j : Int) * 46080 / (n : Int) ≤ 1000000 := by
  have hcase : n = 1 ∨ n = 2 ∨ n = 3 ∨ n = 4 ∨ n = 5 ∨ n = 6 ∨ n = 7 ∨ n = 8 := by omega
  rcases hcase with rfl | rfl | rfl | rfl | rfl | rfl | rfl | rfl <;> omega

theorem plain_EventsSpread (x0 : SEngine) (_ : wf_SEngine x0) : magnetolaw23_EventsSpread x0 = some true := by
  unfold magnetolaw23_EventsSpread
  rw [awake23]
  simp only [Option.bind_some, Bool.not_true, cond_false]
  rw [valid_eq]
  simp only [Option.bind_some]
  cases hd : decide (engP x0)
  · rfl
  · have he := of_decide_eq_true hd
    obtain ⟨h1, h2, h3, h4, h5, h6⟩ := he
    simp only [Bool.not_true, cond_false]
    rw [show ((x0.Order.length : Int) == 0) = false by simp; intro h; rw [h] at h1; simp at h1]
    simp only [cond_false]
    obtain ⟨s, k1, k2⟩ := rangeN_inv (R := Bool) x0.Order.length (by omega) (magnetolaw23_EventsSpread_b1 x0) (fun i s => s = (i : Int) * 46080 / (x0.Order.length : Int)) 0 (by simp) (fun j hj s hs => by
      have hpos : (0 : Int) < (x0.Order.length : Int) := by omega
      have hcen : ∀ i (hi : i < x0.Order.length), events_Center x0 x0.Order[i] = some ((x0.First + (i : Int) * 46080 / (x0.Order.length : Int)) % 46080, 0) := fun i hi => by
        rw [Center_eq, hd, decide_eq_true (List.getElem_mem hi)]
        unfold cen
        rw [idx_nodup h6 hi, show maxI (i : Int) 0 = (i : Int) by unfold maxI; split <;> omega]
        rfl
      have hq : quoM .i64 46080 (x0.Order.length : Int) = some (46080 / (x0.Order.length : Int)) := quo_eq (by omega) (by omega) (by omega)
      have hqr : 0 ≤ 46080 / (x0.Order.length : Int) ∧ 46080 / (x0.Order.length : Int) ≤ 46080 := ⟨Int.ediv_nonneg (by omega) (by omega), Int.ediv_le_self _ (by omega)⟩
      have hj1 : (j + 1) % x0.Order.length < x0.Order.length := Nat.mod_lt _ (by omega)
      have hrem : remM (w64 ((j : Int) + 1)) (x0.Order.length : Int) = some (((j + 1) % x0.Order.length : Nat) : Int) := by
        rw [w64_of (by omega) (by omega), rem_eq (by omega) (by omega)]
        exact congrArg some (by rw [Int.natCast_emod]; rfl)
      unfold magnetolaw23_EventsSpread_b1
      simp only [getI_get _ _ hj, Option.bind_some, hcen j hj, hrem, getI_get _ _ hj1, hcen _ hj1, hq, w64_of (n := 46080 / (x0.Order.length : Int) + 1) (by omega) (by omega)]
      rw [dist_eq ⟨by omega, by omega⟩ ⟨by omega, by omega⟩]
      simp only [Option.bind_some]
      have hD := spread_d x0.First j x0.Order.length h1 h2 hj h3 h4
      have hB := spread_b j x0.Order.length h1 h2 hj
      rw [hD]
      simp only [Option.bind_some]
      subst hs
      generalize hDD : ((j : Int) + 1) * 46080 / (x0.Order.length : Int) = N at *
      generalize hSS : (j : Int) * 46080 / (x0.Order.length : Int) = S at *
      generalize hQQ : 46080 / (x0.Order.length : Int) = Q at *
      rw [show decide (N - S < Q) = false by simp; omega, show decide (N - S > Q + 1) = false by simp; omega]
      simp only [show ((0 : Int) != 0 || (0 : Int) != 0) = false from rfl, cond_false, Option.bind_some]
      rw [w64_of (by omega) (by omega)]
      exact ⟨_, rfl, by rw [← hDD]; push_cast; omega⟩)
    rw [k1]
    simp only [Option.bind_some]
    rw [k2, Int.mul_ediv_cancel_left _ (by omega)]
    rfl
end Go.Pv
