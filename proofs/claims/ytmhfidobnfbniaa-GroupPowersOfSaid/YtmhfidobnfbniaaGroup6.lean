import Derived.Test.YtmhfidobnfbniaaGroup4
set_option linter.unusedSimpArgs false
set_option linter.unusedVariables false
/-! GroupPowers, GroupOuts, GroupPowersOf. -/
namespace Go.Proofs.Ytmhfidobnfbniaa
open Go.Am

theorem no_minus {q z P : Nat} (hP : P = 2 * q + 1) (h2 : 1 < q) (ho : q % 2 = 1) (hz : z < P) : ¬ (HasP P q z ∧ HasP P q (P - z)) := by
  rintro ⟨⟨_, _, h1⟩, ⟨_, _, h3⟩⟩
  -- z^q + (P - z)^q is a multiple of P, q being odd
  have key : ∀ n, (z ^ (2 * n + 1) + (P - z) ^ (2 * n + 1)) % P = 0 := by
    intro n
    have hsq : (P - z) * (P - z) % P = z * z % P := by
      obtain ⟨d, hd⟩ : ∃ d, P = z + d := ⟨P - z, by omega⟩
      rw [hd, Nat.add_sub_cancel_left]
      have e : d * d + z * (z + d) = z * z + d * (z + d) := by
        rw [Nat.mul_add, Nat.mul_add, Nat.mul_comm d z]; omega
      have e1 : (d * d + z * (z + d)) % (z + d) = d * d % (z + d) := Nat.add_mul_mod_self_right _ _ _
      have e2 : (z * z + d * (z + d)) % (z + d) = z * z % (z + d) := Nat.add_mul_mod_self_right _ _ _
      rw [← e1, e, e2]
    have hp : (P - z) ^ (2 * n) % P = z ^ (2 * n) % P := by
      rw [Nat.pow_mul, Nat.pow_mul, Nat.pow_two, Nat.pow_two, Nat.pow_mod, hsq, ← Nat.pow_mod]
    rw [Nat.pow_succ, Nat.pow_succ, Nat.add_mod, Nat.mul_mod ((P - z) ^ (2 * n)), hp, ← Nat.mul_mod, ← Nat.add_mod, ← Nat.mul_add, show z + (P - z) = P by omega]
    exact Nat.mul_mod_left _ _
  have h := key (q / 2)
  rw [show 2 * (q / 2) + 1 = q by omega, Nat.add_mod, h1, h3, Nat.mod_eq_of_lt (by omega)] at h
  omega
theorem sq_small {q a : Nat} (hp : PrimeN (2 * q + 1)) : HasP (2 * q + 1) q (a * a % (2 * q + 1)) ∨ a * a % (2 * q + 1) < 2 := by
  by_cases h : 1 < a * a % (2 * q + 1)
  · exact .inl (hasP_sq hp h)
  · exact .inr (by omega)

open Classical in
set_option maxHeartbeats 4000000 in
set_option maxRecDepth 16000 in
theorem law_GroupPowers (n a : Int) (f : Nat → Int) (l : Nat) (b : Int) (g : Nat → Int) (m : Nat) :
    ASpec Try.prog 5 [.int .i64 n, .int .i64 a, .ro l (famL (i64F f) l), .int .i64 b, .ro m (famL (i64F g) m)] (.bool true) := by
  refine ASpec.start 1000 Try.func5 (fn := Try.f5) rfl (by decide) mixed (by kernel_rfl) (by simp) ?_
  have h0W := W_big
  simp (disch := omega) [ini, upd_eq, tyNum]
  refine callT_of known4 rfl rfl ?_
  simp (disch := omega) [upd_eq, tyNum]
  obtain ⟨k, q, N, hs, hk, s1⟩ := group_ n
  have hpn := primeN_of hs.hp
  have hsm := fun z => sq_small (a := z) hpn
  have hlow := hs.low
  have hP31 : 2 * q + 1 < 2147483648 := by have := hs.hp.2.1; omega
  have hPo : (2 * q + 1) % 2 = 1 := by omega
  obtain ⟨P, hP⟩ : ∃ P, 2 * q + 1 = P := ⟨_, rfl⟩
  rw [hP] at s1 hsm hP31 hPo
  have hPW := W_31 hP31
  refine callT_of s1 rfl rfl ?_
  simp (disch := omega) [upd_eq, tyNum, tyGroup]
  refine callT_of (make a f l) rfl rfl ?_
  have hX := mkN_lt a f l
  generalize mkN a f l = X at *
  simp (disch := omega) [upd_eq, tyNum, tyGroup]
  refine callT_of (make b g m) rfl rfl ?_
  have hY := mkN_lt b g m
  generalize mkN b g m = Y at *
  simp (disch := omega) [upd_eq, tyNum, tyGroup]
  refine callT_of (rsmall (show P < 4294967296 by omega)) rfl rfl ?_
  obtain ⟨z, hz, -, s2⟩ := within4N a (P + 3) (by omega) (by omega)
  rw [show ((P + 3 : Nat) : Int) = (P : Int) + 3 from rfl] at s2
  simp (disch := omega) [upd_eq, tyNum, tyGroup, in_i64]
  refine callT_of s2 rfl rfl ?_
  simp (disch := omega) [upd_eq, tyNum, tyGroup]
  refine callT_of (rfromN z (by omega)) rfl rfl ?_
  simp (disch := omega) [upd_eq, tyNum, tyGroup]
  have hm : ∀ x, x % P < W := fun x => Nat.lt_trans (Nat.mod_lt x (by omega)) hPW
  have r1 := hm (X ^ Y)
  have r2 := hm (X * Y)
  have r3 := hm (z * z)
  refine callT_of (graise hX hY hPW hPo (by omega)) rfl rfl ?_
  simp (disch := omega) [upd_eq, tyNum, tyGroup]
  refine callT_of (rraise hX hY hP31 (by omega)) rfl rfl ?_
  generalize X ^ Y % P = R1 at *
  simp (disch := omega) [upd_eq, tyNum, tyGroup, neq_num r1 r1]
  refine callT_of (gtimes hX hY hPW (by omega)) rfl rfl ?_
  simp (disch := omega) [upd_eq, tyNum, tyGroup]
  refine callT_of (rtimes hX hY hP31 (by omega)) rfl rfl ?_
  generalize X * Y % P = R2 at *
  simp (disch := omega) [upd_eq, tyNum, tyGroup, neq_num r2 r2]
  refine callT_of (ghas hX (show q < W by omega) hPW hPo (by omega)) rfl rfl ?_
  simp (disch := omega) [upd_eq, tyNum, tyGroup]
  refine callT_of (rhas hX (show q < W by omega) hP31 (by omega)) rfl rfl ?_
  simp (disch := omega) [upd_eq, tyNum, tyGroup, isBool]
  refine callT_of (ghas (show z < W by omega) (show q < W by omega) hPW hPo (by omega)) rfl rfl ?_
  simp (disch := omega) [upd_eq, tyNum, tyGroup]
  refine callT_of (rhas (show z < W by omega) (show q < W by omega) hP31 (by omega)) rfl rfl ?_
  simp (disch := omega) [upd_eq, tyNum, tyGroup, isBool]
  have hsz := hsm z
  have p2 := graise (B := k) (Q := q) (G := 4) (e := 2) (show z < W by omega) (by omega) hPW hPo (by omega)
  rw [Nat.pow_two] at p2
  refine callT_of (gtimes (show z < W by omega) (show z < W by omega) hPW (by omega)) rfl rfl ?_
  generalize z * z % P = S at *
  simp (disch := omega) [upd_eq, tyNum, tyGroup]
  refine callT_of (ghas r3 (show q < W by omega) hPW hPo (by omega)) rfl rfl ?_
  by_cases hh : HasP P q S
  case' pos => simp (disch := omega) [upd_eq, tyNum, tyGroup, hh]
  case' neg => have hS2 : cmpZ S 2 < 0 := cmpZ_lt.2 (by rcases hsz with h | h; exact absurd h hh; exact h)
  case' neg => simp (disch := omega) [upd_eq, tyNum, tyGroup, hh]
  case' neg => refine callT_of (rfromN 2 (by omega)) rfl rfl ?_
  case' neg => simp (disch := omega) [upd_eq, tyNum, tyGroup]
  case' neg => refine callT_of (rcmp S 2 r3 (by omega)) rfl rfl ?_
  case' neg => simp (disch := omega) [upd_eq, tyNum, tyGroup, hS2]
  all_goals
    refine callT_of (rfromN 2 (by omega)) rfl rfl ?_
    simp (disch := omega) [upd_eq, tyNum, tyGroup]
    refine callT_of p2 rfl rfl ?_
    simp (disch := omega) [upd_eq, tyNum, tyGroup, eql_num r3 r3, resA_L Try.results5]

open Classical in
set_option maxHeartbeats 4000000 in
set_option maxRecDepth 16000 in
theorem law_GroupOuts (n a : Int) (f : Nat → Int) (l : Nat) (v : Int) :
    ASpec Try.prog 6 [.int .i64 n, .int .i64 a, .ro l (famL (i64F f) l), .int .i64 v] (.bool true) := by
  refine ASpec.start 1000 Try.func6 (fn := Try.f6) rfl (by decide) mixed (by kernel_rfl) (by simp) ?_
  have h0W := W_big
  simp (disch := omega) [ini, upd_eq, tyNum]
  refine callT_of known4 rfl rfl ?_
  simp (disch := omega) [upd_eq, tyNum]
  obtain ⟨k, q, N, hs, hk, s1⟩ := group_ n
  have hlow := hs.low
  have hqo := hs.odd
  have hP31 : 2 * q + 1 < 2147483648 := by have := hs.hp.2.1; omega
  have hPo : (2 * q + 1) % 2 = 1 := by omega
  obtain ⟨P, hP⟩ : ∃ P, 2 * q + 1 = P := ⟨_, rfl⟩
  rw [hP] at s1 hP31 hPo
  have hPW := W_31 hP31
  refine callT_of s1 rfl rfl ?_
  simp (disch := omega) [upd_eq, tyNum, tyGroup]
  refine callT_of (make a f l) rfl rfl ?_
  have hX := mkN_lt a f l
  generalize mkN a f l = X at *
  simp (disch := omega) [upd_eq, tyNum, tyGroup]
  refine callT_of (rsmall (show P < 4294967296 by omega)) rfl rfl ?_
  obtain ⟨w, hw, -, s2⟩ := within4N v (P - 1) (by omega) (by omega)
  rw [show ((P - 1 : Nat) : Int) = (P : Int) - 1 by omega] at s2
  simp (disch := omega) [upd_eq, tyNum, tyGroup, in_i64]
  refine callT_of s2 rfl rfl ?_
  simp (disch := omega) [upd_eq, tyNum, tyGroup, in_i64]
  obtain ⟨z, hz⟩ : ∃ z, 1 + w = z := ⟨_, rfl⟩
  have hz2 : (1 : Int) + w = (z : Nat) := by omega
  rw [hz2]
  refine callT_of (rfromN z (by omega)) rfl rfl ?_
  simp (disch := omega) [upd_eq, tyNum, tyGroup]
  have s3 := rsub P z hPW (show z < W by omega)
  rw [show (P + W - z) % W = P - z by rw [show P + W - z = P - z + W by omega, Nat.add_mod_right, Nat.mod_eq_of_lt (by omega)]] at s3
  have hno := no_minus (q := q) (z := z) hP.symm (by omega) hqo (by omega)
  generalize hZ : P - z = M at *
  obtain ⟨e, he⟩ : ∃ e : Nat, (if P < z then 1 else 0) = e := ⟨_, rfl⟩
  rw [he] at s3
  refine callT_of s3 rfl rfl ?_
  simp (disch := omega) [upd_eq, tyNum, tyGroup]
  refine callT_of (rcmp X P hX hPW) rfl rfl ?_
  by_cases hc : X < P
  case' pos =>
    have hcc : ¬ 0 ≤ cmpZ X P := by have := (cmpZ_lt (a := X) (b := P)).2 hc; omega
    simp (disch := omega) [upd_eq, tyNum, tyGroup, hcc]
  case' neg =>
    have hcc : 0 ≤ cmpZ X P := by have := mt (cmpZ_lt (a := X) (b := P)).1 hc; omega
    have hh : ¬ HasP P q X := fun h => hc h.2.1
    simp (disch := omega) [upd_eq, tyNum, tyGroup, hcc]
    refine callT_of (ghas hX (show q < W by omega) hPW hPo (by omega)) rfl rfl ?_
    simp (disch := omega) [upd_eq, tyNum, tyGroup, hh]
  all_goals
    have n0 : ¬ HasP P q 0 := fun h => by have := h.1; omega
    have n1 : ¬ HasP P q 1 := fun h => by have := h.1; omega
    have nP : ¬ HasP P q P := fun h => by have := h.2.1; omega
    refine callT_of (ghas (a := 0) (by omega) (show q < W by omega) hPW hPo (by omega)) rfl rfl ?_
    simp (disch := omega) [upd_eq, tyNum, tyGroup, n0]
    refine callT_of (rfromN 1 (by omega)) rfl rfl ?_
    simp (disch := omega) [upd_eq, tyNum, tyGroup]
    refine callT_of (ghas (a := 1) (by omega) (show q < W by omega) hPW hPo (by omega)) rfl rfl ?_
    simp (disch := omega) [upd_eq, tyNum, tyGroup, n1]
    refine callT_of (ghas (a := P) hPW (show q < W by omega) hPW hPo (by omega)) rfl rfl ?_
    simp (disch := omega) [upd_eq, tyNum, tyGroup, nP]
    refine callT_of (ghas (a := z) (by omega) (show q < W by omega) hPW hPo (by omega)) rfl rfl ?_
    by_cases hh : HasP P q z
    · have hh2 : ¬ HasP P q M := fun h => hno ⟨hh, h⟩
      simp (disch := omega) [upd_eq, tyNum, tyGroup, hh]
      refine callT_of (ghas (a := M) (by omega) (show q < W by omega) hPW hPo (by omega)) rfl rfl ?_
      simp (disch := omega) [upd_eq, tyNum, tyGroup, hh2, resA_L Try.results6]
    · simp (disch := omega) [upd_eq, tyNum, tyGroup, hh, resA_L Try.results6]

open Classical in
set_option maxHeartbeats 4000000 in
set_option maxRecDepth 16000 in
theorem law_GroupPowersOf (n a : Int) (f : Nat → Int) (l : Nat) (e : Int) (g : Nat → Int) (m : Nat) :
    ASpec Try.prog 7 [.int .i64 n, .int .i64 a, .ro l (famL (i64F f) l), .int .i64 e, .ro m (famL (i64F g) m)] (.bool true) := by
  refine ASpec.start 1000 Try.func7 (fn := Try.f7) rfl (by decide) mixed (by kernel_rfl) (by simp) ?_
  have h0W := W_big
  simp (disch := omega) [ini, upd_eq, tyNum]
  refine callT_of known4 rfl rfl ?_
  simp (disch := omega) [upd_eq, tyNum]
  obtain ⟨k, q, N, hs, hk, s1⟩ := group_ n
  have hlow := hs.low
  have hP31 : 2 * q + 1 < 2147483648 := by have := hs.hp.2.1; omega
  have hPo : (2 * q + 1) % 2 = 1 := by omega
  obtain ⟨P, hP⟩ : ∃ P, 2 * q + 1 = P := ⟨_, rfl⟩
  rw [hP] at s1 hP31 hPo
  have hPW := W_31 hP31
  refine callT_of s1 rfl rfl ?_
  simp (disch := omega) [upd_eq, tyNum, tyGroup]
  refine callT_of (make a f l) rfl rfl ?_
  have hX := mkN_lt a f l
  generalize mkN a f l = X at *
  simp (disch := omega) [upd_eq, tyNum, tyGroup]
  refine callT_of (make e g m) rfl rfl ?_
  have hY := mkN_lt e g m
  generalize mkN e g m = Y at *
  simp (disch := omega) [upd_eq, tyNum, tyGroup]
  obtain ⟨L, H, hL, hH, hLH, s2⟩ := rmulR hX hY
  refine callT_of s2 rfl rfl ?_
  simp (disch := omega) [upd_eq, tyNum, tyGroup]
  have s3 := rrestN hL hH hPW (show P ≠ 0 by omega)
  rw [hLH] at s3
  refine callT_of s3 rfl rfl ?_
  obtain ⟨j, hj, -, s4⟩ := within4N e 100000 (by decide) (by decide)
  simp (disch := omega) [upd_eq, tyNum, tyGroup]
  refine callT_of s4 rfl rfl ?_
  simp (disch := omega) [upd_eq, tyNum, tyGroup]
  refine callT_of (rfromN j (by omega)) rfl rfl ?_
  simp (disch := omega) [upd_eq, tyNum, tyGroup]
  have hm : ∀ x, x % P < W := fun x => Nat.lt_trans (Nat.mod_lt x (by omega)) hPW
  have r1 := hm (X ^ j)
  have r2 := hm (X * Y)
  have p1 := gtimes (B := k) (Q := q) (G := 4) hX hY hPW (show P ≠ 0 by omega)
  generalize X * Y % P = R2 at *
  refine callT_of (graise hX (show j < W by omega) hPW hPo (by omega)) rfl rfl ?_
  simp (disch := omega) [upd_eq, tyNum, tyGroup]
  refine callT_of (rpower hX (show j < W by omega) hPW (by omega)) rfl rfl ?_
  generalize X ^ j % P = R1 at *
  simp (disch := omega) [upd_eq, tyNum, tyGroup, eql_num r1 r1]
  refine callT_of p1 rfl rfl ?_
  simp (disch := omega) [upd_eq, tyNum, tyGroup, eql_num r2 r2, resA_L Try.results7]
end Go.Proofs.Ytmhfidobnfbniaa
