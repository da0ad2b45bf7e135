/- A part of the proof of PolyReadsSaid: texts SxRat8 SxKnuth SxStep. -/
import Derived.Test.YtlnpmgmpakjhgaaGreatSxAV
import Derived.Test.YtlnpmgmpakjhgaaGreatSxAU
set_option linter.all false
section
set_option maxRecDepth 100000
namespace Sx
open Go

theorem mulSmall_o (x d : Nat) (hxl : len x ≤ 100000000) (hd : d < 1000000000) : OwnF Pg F.rational_mulSmall (fun q => [.one (natT q x), .one (.int .u32 (q Int fun _ => (d : Int)))]) (fun q v h => ∃ Z : Int → Int, (∀ i : Nat, i < len x + 1 → 0 ≤ Z i ∧ Z i < 1000000000) ∧ valN Z (len x + 1) = x * d ∧ v = .one (.row 0 (q Int fun _ => ((len x + 1 : Nat) : Int))) ∧ h = [.sl Ty.«uint32» 1 (q Int fun _ => ((len x + 1 : Nat) : Int)) (fun i => [.int .u32 (Z i)])]) := by
  refine walkO mixed tau_ok At.rational_mulSmall (fun CN DN q R hCN hDN hq hR => ?_)
  (conv => cbv)
  refine Need.mk (by subst hq; (try simp (disch := omega) only [q0, nc, w64_id, wu64_id, wu32_id, wu8_id, Int.tdiv_eq_ediv_of_nonneg, Int.tmod_eq_emod_of_nonneg, Int.ofNat_eq_natCast, Int.natAbs_natCast, decide_eq_true_eq, decide_eq_false_iff_not, Bool.not_eq_true', bne_iff_ne, beq_iff_eq, ne_eq]); omega) ?_
  refine LoopN.mk [0, 1, 5, 6, 14, 15] (fun σd σ => ∃ (k c : Int) (Z : Int → Int), (0 ≤ k ∧ k ≤ len x ∧ σd = ((len x : Int) - k).toNat ∧ 0 ≤ c ∧ c < 1000000000 ∧ (∀ i : Nat, (i : Int) < k → 0 ≤ Z i ∧ Z i < 1000000000) ∧ valN Z k.toNat + c.toNat * Bs ^ k.toNat = x % Bs ^ k.toNat * d) ∧
      σ = ⟨mkS [(0, .one (.t (natT q x))), (1, .one (.t (.int .u32 (q Int fun _ => (d : Int))))), (5, .one (.row 0 (q Int fun _ => IntKind.i64.wrap ((q Int fun _ => (len x : Int)) + 1)))), (6, .one (.t (.int .u64 c))), (14, .one (.t (.int .i64 (q Int fun _ => (len x : Int))))), (15, .one (.t (.int .i64 k)))] 0 44,
        [.sl 196 1 (q Int fun _ => IntKind.i64.wrap ((q Int fun _ => (len x : Int)) + 1)) (fun i => [.int .u32 (Z i)])]⟩) ⟨len x, 0, 0, fun _ => 0, ⟨by omega, by omega, by omega, by omega, by omega, fun i hi => by omega, by simp [valN, Nat.mod_one]⟩, ?_⟩ ?_
  · cbv
  · rintro σd σ ⟨k, c, Z, ⟨h1, h2, rfl, h3, h4, h5, h6⟩, rfl⟩ K hK
    (conv => cbv)
    obtain ⟨k, rfl⟩ := Int.eq_ofNat_of_zero_le h1
    have hlx := limb_lt x k
    have hlx0 := limb_nonneg x k
    obtain ⟨hp0, hp1⟩ := limb_mul_le hlx0 hlx (show (0 : Int) ≤ (d : Int) by omega) (by omega)
    have go : ∀ (c' v : Int), (0 ≤ v ∧ v < 1000000000 ∧ 0 ≤ c' ∧ c' < 1000000000 ∧ v + c' * 1000000000 = limb x k * d + c) → (k : Int) < len x →
        K ⟨mkS [(0, .one (.t (natT q x))), (1, .one (.t (.int .u32 (q Int fun _ => (d : Int))))), (5, .one (.row 0 (q Int fun _ => IntKind.i64.wrap ((q Int fun _ => (len x : Int)) + 1)))), (6, .one (.t (.int .u64 c'))), (14, .one (.t (.int .i64 (q Int fun _ => (len x : Int))))), (15, .one (.t (.int .i64 (q Int fun _ => IntKind.i64.wrap (k + 1)))))] 0 44,
          [.sl 196 1 (q Int fun _ => IntKind.i64.wrap ((q Int fun _ => (len x : Int)) + 1)) (updFn (fun i => [.int .u32 (Z i)]) k [.int .u32 v])]⟩ := by
      intro c' v ⟨p1, p2, p3, p4, p5⟩ hk
      rw [updFn_row]
      have e : (q Int fun _ => IntKind.i64.wrap ((k : Int) + 1)) = k + 1 := by subst hq; (try simp (disch := omega) only [q0, nc, w64_id, wu64_id, wu32_id, wu8_id, Int.tdiv_eq_ediv_of_nonneg, Int.tmod_eq_emod_of_nonneg, Int.ofNat_eq_natCast, Int.natAbs_natCast, decide_eq_true_eq, decide_eq_false_iff_not, Bool.not_eq_true', bne_iff_ne, beq_iff_eq, ne_eq])
      rw [e]
      refine hK _ ⟨_, ?_, (k : Int) + 1, c', upd1 Z k v, ⟨by omega, by omega, rfl, p3, p4, fun i hi => ?_, ?_⟩, rfl⟩
      · omega
      · by_cases hik : (i : Int) = k
        · rw [hik, upd1_at]; exact ⟨p1, p2⟩
        · rw [upd1_ne hik]; exact h5 i (by omega)
      · exact mulS_step h3 p3 p1 h6 p5
    split
    · rename_i g0
      simp [hq, q0, nc] at g0
      refine Need.mk (by subst hq; (try simp (disch := omega) only [q0, nc, w64_id, wu64_id, wu32_id, wu8_id, Int.tdiv_eq_ediv_of_nonneg, Int.tmod_eq_emod_of_nonneg, Int.ofNat_eq_natCast, Int.natAbs_natCast, decide_eq_true_eq, decide_eq_false_iff_not, Bool.not_eq_true', bne_iff_ne, beq_iff_eq, ne_eq]); omega) (Need.mk (by omega) (Need.mk (by omega) (Need.mk (by subst hq; (try simp (disch := omega) only [q0, nc, w64_id, wu64_id, wu32_id, wu8_id, Int.tdiv_eq_ediv_of_nonneg, Int.tmod_eq_emod_of_nonneg, Int.ofNat_eq_natCast, Int.natAbs_natCast, decide_eq_true_eq, decide_eq_false_iff_not, Bool.not_eq_true', bne_iff_ne, beq_iff_eq, ne_eq]); omega) (go _ _ ⟨?_, ?_, ?_, ?_, ?_⟩ (by omega)))))
      all_goals (subst hq; (try simp (disch := omega) only [q0, nc, w64_id, wu64_id, wu32_id, wu8_id, Int.tdiv_eq_ediv_of_nonneg, Int.tmod_eq_emod_of_nonneg, Int.ofNat_eq_natCast, Int.natAbs_natCast, decide_eq_true_eq, decide_eq_false_iff_not, Bool.not_eq_true', bne_iff_ne, beq_iff_eq, ne_eq]); omega)
    · rename_i g0
      simp [hq, q0, nc] at g0
      refine Need.mk (by subst hq; (try simp (disch := omega) only [q0, nc, w64_id, wu64_id, wu32_id, wu8_id, Int.tdiv_eq_ediv_of_nonneg, Int.tmod_eq_emod_of_nonneg, Int.ofNat_eq_natCast, Int.natAbs_natCast, decide_eq_true_eq, decide_eq_false_iff_not, Bool.not_eq_true', bne_iff_ne, beq_iff_eq, ne_eq]); omega) ?_
      simp only [nc]
      rw [updFn_row]
      have e1 : (q Int fun _ => IntKind.i64.wrap ((q Int fun _ => (len x : Int)) + 1)) = q Int fun _ => ((len x + 1 : Nat) : Int) := by subst hq; (try simp (disch := omega) only [q0, nc, w64_id, wu64_id, wu32_id, wu8_id, Int.tdiv_eq_ediv_of_nonneg, Int.tmod_eq_emod_of_nonneg, Int.ofNat_eq_natCast, Int.natAbs_natCast, decide_eq_true_eq, decide_eq_false_iff_not, Bool.not_eq_true', bne_iff_ne, beq_iff_eq, ne_eq]); omega
      have e2 : (q Int fun _ => (len x : Int)) = (k : Int) := by subst hq; simp only [q0]; omega
      have e4 : (q Int fun _ => IntKind.u32.wrap c) = c := by subst hq; (try simp (disch := omega) only [q0, nc, w64_id, wu64_id, wu32_id, wu8_id, Int.tdiv_eq_ediv_of_nonneg, Int.tmod_eq_emod_of_nonneg, Int.ofNat_eq_natCast, Int.natAbs_natCast, decide_eq_true_eq, decide_eq_false_iff_not, Bool.not_eq_true', bne_iff_ne, beq_iff_eq, ne_eq])
      rw [e1, e2, e4]
      refine hR _ _ ⟨upd1 Z k c, fun i hi => ?_, ?_, rfl, rfl⟩
      · by_cases hik : (i : Int) = k
        · rw [hik, upd1_at]; omega
        · rw [upd1_ne hik]; exact h5 i (by omega)
      · rw [show len x = k by omega, valN_push]
        simp only [Int.toNat_natCast] at h6
        rw [h6, mod_len x (by omega)]
end Sx
end

section
namespace Sx
open Go

theorem knuth_upper {g U3 V2 P ul vl : Nat} (hv : vl < P) (h : g * V2 ≤ U3) (hg : g ≤ V2 + 1) (hg0 : 0 < g) : (g - 1) * (V2 * P + vl) ≤ U3 * P + ul := by
  obtain ⟨g, rfl⟩ : ∃ k, g = k + 1 := ⟨g - 1, by omega⟩
  rw [Nat.add_sub_cancel]
  have h1 : g * (V2 * P + vl) ≤ g * ((V2 + 1) * P) := Nat.mul_le_mul_left _ (by rw [Nat.add_mul]; omega)
  have h2 : g * (V2 + 1) ≤ U3 := by
    rw [Nat.add_mul] at h
    rw [Nat.mul_add]
    omega
  have h3 : g * ((V2 + 1) * P) ≤ U3 * P := by
    rw [← Nat.mul_assoc]
    exact Nat.mul_le_mul_right _ h2
  omega

theorem knuth_lower {g U3 V2 P ul vl : Nat} (hu : ul < P) (h : U3 < g * V2) : U3 * P + ul < g * (V2 * P + vl) := by
  have h1 : (U3 + 1) * P ≤ g * V2 * P := Nat.mul_le_mul_right _ h
  have h2 : g * V2 * P ≤ g * (V2 * P + vl) := by
    rw [Nat.mul_assoc]
    exact Nat.mul_le_mul_left _ (by omega)
  rw [Nat.add_mul] at h1
  omega

theorem knuth_first {head v1 P ul vl : Nat} (hv1 : 0 < v1) (hP : 0 < P) (hu : ul < P) : (head * P + ul) / (v1 * P + vl) ≤ head / v1 := by
  have hvp : 0 < v1 * P + vl := by have := Nat.mul_pos hv1 hP; omega
  rw [Nat.le_div_iff_mul_le hv1]
  have h1 := Nat.div_mul_le_self (head * P + ul) (v1 * P + vl)
  generalize (head * P + ul) / (v1 * P + vl) = q at *
  have h2 : q * v1 * P ≤ q * (v1 * P + vl) := by
    rw [Nat.mul_assoc]
    exact Nat.mul_le_mul_left _ (by omega)
  have h3 : q * v1 * P < (head + 1) * P := by rw [Nat.add_mul]; omega
  have := Nat.lt_of_mul_lt_mul_right h3
  omega

theorem scale_half {y : Nat} (hy : 0 < y) (hyB : y < 1000000000) : 0 < 1000000000 / (y + 1) ∧ 500000000 ≤ 1000000000 / (y + 1) * y ∧ 1000000000 / (y + 1) * (y + 1) ≤ 1000000000 := by
  have h1 : 0 < 1000000000 / (y + 1) := Nat.div_pos (by omega) (by omega)
  have h2 := Nat.div_mul_le_self 1000000000 (y + 1)
  have h3 := Nat.lt_div_mul_add (a := 1000000000) (b := y + 1) (by omega)
  generalize 1000000000 / (y + 1) = d at *
  refine ⟨h1, ?_, h2⟩
  obtain ⟨d, rfl⟩ : ∃ k, d = k + 1 := ⟨d - 1, by omega⟩
  obtain ⟨y, rfl⟩ : ∃ k, y = k + 1 := ⟨y - 1, by omega⟩
  have e1 : (d + 1) * (y + 1 + 1) = d * y + 2 * d + y + 2 := by grind
  have e2 : (d + 1) * (y + 1) = d * y + d + y + 1 := by grind
  omega

theorem valN_top2 (V : Int → Int) (p : Nat) : valN V (p + 2) = ((V ((p + 1 : Nat) : Int)).toNat * Bs + (V (p : Int)).toNat) * Bs ^ p + valN V p := by
  rw [valN, valN, Nat.pow_succ]
  generalize (V ((p + 1 : Nat) : Int)).toNat = a
  generalize (V (p : Int)).toNat = b
  generalize Bs ^ p = P
  generalize valN V p = w
  grind
theorem valN_top3 (V : Int → Int) (p : Nat) : valN V (p + 3) = (((V ((p + 2 : Nat) : Int)).toNat * Bs + (V ((p + 1 : Nat) : Int)).toNat) * Bs + (V (p : Int)).toNat) * Bs ^ p + valN V p := by
  rw [valN, valN_top2, show Bs ^ (p + 2) = Bs * Bs * Bs ^ p by rw [Nat.pow_succ, Nat.pow_succ]; grind]
  generalize (V ((p + 2 : Nat) : Int)).toNat = c
  generalize (V ((p + 1 : Nat) : Int)).toNat = a
  generalize (V (p : Int)).toNat = b
  generalize Bs ^ p = P
  generalize valN V p = w
  grind

theorem top_le {W V : Int → Int} {n : Nat} (hW : ∀ i : Nat, i < n + 2 → 0 ≤ W i ∧ W i < 1000000000) (hV : ∀ i : Nat, i < n + 1 → 0 ≤ V i ∧ V i < 1000000000) (h : valN W (n + 2) < valN V (n + 1) * Bs) : (W ((n + 1 : Nat) : Int)).toNat ≤ (V (n : Int)).toNat := by
  have h1 := valN_lt (V := V) (n := n) (fun i hi => hV i (by omega))
  have hw : valN W (n + 2) = valN W (n + 1) + (W ((n + 1 : Nat) : Int)).toNat * Bs ^ (n + 1) := rfl
  have hv : valN V (n + 1) = valN V n + (V (n : Int)).toNat * Bs ^ n := rfl
  have e : Bs ^ (n + 1) = Bs ^ n * Bs := Nat.pow_succ ..
  rw [hw, hv, e] at h
  generalize (W ((n + 1 : Nat) : Int)).toNat = a at *
  generalize (V (n : Int)).toNat = b at *
  generalize valN V n = w at *
  generalize Bs ^ n = P at *
  by_cases hab : a ≤ b
  · exact hab
  · exfalso
    have h2 : (b + 1) * (P * Bs) ≤ a * (P * Bs) := Nat.mul_le_mul_right _ (by omega)
    have h3 : (w + b * P) * Bs < (b + 1) * (P * Bs) := by
      have h4 : (w + b * P) * Bs < (P + b * P) * Bs := Nat.mul_lt_mul_of_pos_right (by omega) Bs_pos
      have h5 : (P + b * P) * Bs = (b + 1) * (P * Bs) := by grind
      omega
    omega
end Sx
end

section
namespace Sx
open Go

theorem guess_less {g r head u2 v1 v2 P ul vl B : Nat} (hul : ul < P) (he : g * v1 + r = head) (hlt : (head * B + u2) * P + ul < ((v1 * B + v2) * P + vl) * B)
    (hg : ((head * B + u2) * P + ul) / ((v1 * B + v2) * P + vl) ≤ g) (hc : B ≤ g ∨ r * B + u2 < g * v2) : 0 < g ∧ ((head * B + u2) * P + ul) / ((v1 * B + v2) * P + vl) ≤ g - 1 := by
  have key : (head * B + u2) * P + ul < g * ((v1 * B + v2) * P + vl) := by
    rcases hc with hc | hc
    · have : ((v1 * B + v2) * P + vl) * B ≤ ((v1 * B + v2) * P + vl) * g := Nat.mul_le_mul_left _ hc
      rw [Nat.mul_comm g]
      omega
    · refine knuth_lower hul ?_
      subst he
      have e1 : (g * v1 + r) * B = g * v1 * B + r * B := Nat.add_mul ..
      have e2 : g * (v1 * B + v2) = g * v1 * B + g * v2 := by rw [Nat.mul_add, Nat.mul_assoc]
      omega
  generalize (head * B + u2) * P + ul = u at *
  generalize (v1 * B + v2) * P + vl = v at *
  have h0 : 0 < g := by
    rcases Nat.eq_zero_or_pos g with h | h
    · subst h; omega
    · exact h
  refine ⟨h0, ?_⟩
  have : u / v < g := Nat.div_lt_of_lt_mul (by rw [Nat.mul_comm]; exact key)
  omega

theorem guess_ok {g r head u2 v1 v2 P ul vl B : Nat} (hvl : vl < P) (he : g * v1 + r = head) (hv1 : 0 < v1) (h1 : g < B) (h2 : g * v2 ≤ r * B + u2) : (g - 1) * ((v1 * B + v2) * P + vl) ≤ (head * B + u2) * P + ul := by
  rcases Nat.eq_zero_or_pos g with h | h
  · subst h; simp
  · refine knuth_upper hvl ?_ ?_ h
    · subst he
      have e1 : (g * v1 + r) * B = g * v1 * B + r * B := Nat.add_mul ..
      have e2 : g * (v1 * B + v2) = g * v1 * B + g * v2 := by rw [Nat.mul_add, Nat.mul_assoc]
      omega
    · have : 1 * B ≤ v1 * B := Nat.mul_le_mul_right _ hv1
      omega

theorem guess_brk {g r head u1 un u2 v1 v2 B : Nat} (he : g * v1 + r = head) (hh : head = un * B + u1) (hu1 : u1 < B) (hun : un ≤ v1) (hr : B ≤ r) (hv2 : v2 < B) : g < B ∧ g * v2 ≤ r * B + u2 := by
  have h1 : un * B ≤ v1 * B := Nat.mul_le_mul_right _ hun
  have h2 : g * v1 < B * v1 := by rw [Nat.mul_comm B]; omega
  have h3 : g < B := Nat.lt_of_mul_lt_mul_right h2
  refine ⟨h3, ?_⟩
  have h4 : g * v2 ≤ B * B := Nat.mul_le_mul (by omega) (by omega)
  have h5 : B * B ≤ r * B := Nat.mul_le_mul_right _ hr
  omega

theorem msub_step {Z A S c b v x u p b' P g : Nat} (h : Z + g * A = S + (c + b) * P) (hv : v + p % 1000000000 + b = u + b' * 1000000000) (hp : p = c + g * x) :
    Z + v * P + g * (A + x * P) = S + u * P + (p / 1000000000 + b') * (P * 1000000000) := by
  have e := Nat.div_add_mod p 1000000000
  generalize p / 1000000000 = d at *
  generalize p % 1000000000 = m at *
  have h2 : v + c + g * x + b = u + (d + b') * 1000000000 := by omega
  have h3 : (v + c + g * x + b) * P = (u + (d + b') * 1000000000) * P := by rw [h2]
  grind
theorem back_step {Z A S c v x u c' P : Nat} (h : Z + c * P = S + A) (hv : v + c' * 1000000000 = u + c + x) : Z + v * P + c' * (P * 1000000000) = S + u * P + (A + x * P) := by
  have h3 : (v + c' * 1000000000) * P = (u + c + x) * P := by rw [hv]
  grind

theorem win_upd (Z : Int → Int) (j k : Nat) (v : Int) : (fun i : Int => upd1 Z ((j + k : Nat) : Int) v (j + i)) = upd1 (fun i : Int => Z (j + i)) k v := by
  funext i
  unfold upd1
  by_cases h : i = k
  · subst h; simp
  · rw [if_neg h, if_neg (by omega)]

theorem step_fit {Z u v g : Nat} (h : Z + g * v = u) (hg : u / v ≤ g) (hv : 0 < v) : g = u / v ∧ Z = u % v := by
  have h1 : g ≤ u / v := (Nat.le_div_iff_mul_le hv).2 (by omega)
  have h2 : g = u / v := by omega
  refine ⟨h2, ?_⟩
  have := Nat.div_add_mod u v
  rw [← h2, Nat.mul_comm] at this
  omega

theorem step_over {Z Z' u v g c P : Nat} (h : Z + g * v = u + P) (hZ : Z < P) (h' : Z' + c * P = Z + v) (hZ' : Z' < P) (hg : (g - 1) * v ≤ u) (hv : 0 < v) (hvP : v < P) : g - 1 = u / v ∧ 0 < g ∧ Z' = u % v := by
  have h0 : 0 < g := by
    rcases Nat.eq_zero_or_pos g with h0 | h0
    · subst h0; omega
    · exact h0
  obtain ⟨g, rfl⟩ : ∃ k, g = k + 1 := ⟨g - 1, by omega⟩
  rw [Nat.add_sub_cancel] at hg ⊢
  have e : (g + 1) * v = g * v + v := by rw [Nat.add_mul]; omega
  rw [e] at h
  have hlt : u < g * v + v := by omega
  have e2 : u / v = g := by
    refine Nat.div_eq_of_lt_le (by omega) ?_
    rw [Nat.add_mul]; omega
  refine ⟨e2.symm, by omega, ?_⟩
  have := Nat.div_add_mod u v
  rw [e2, Nat.mul_comm] at this
  have hc : c = 1 := by
    rcases c with _ | _ | c
    · omega
    · rfl
    · have : (c + 1 + 1) * P = c * P + P + P := by grind
      omega
  subst hc
  omega
theorem msub_int {Z S A : Int → Int} {k : Nat} {g c b c' b' v x u : Int} (hg : 0 ≤ g) (hc : 0 ≤ c) (hb : 0 ≤ b) (hb' : 0 ≤ b') (hv : 0 ≤ v) (hx0 : 0 ≤ x) (hx : A k = x) (hu0 : 0 ≤ u) (hu : S k = u)
    (hI : valN Z k + g.toNat * valN A k = valN S k + (c.toNat + b.toNat) * Bs ^ k) (hc' : c' = (c + g * x) / 1000000000) (he : v + (c + g * x) % 1000000000 + b = u + b' * 1000000000) :
    valN (upd1 Z k v) (k + 1) + g.toNat * valN A (k + 1) = valN S (k + 1) + (c'.toNat + b'.toNat) * Bs ^ (k + 1) := by
  rw [valN_push, valN, valN, hx, hu]
  obtain ⟨g, rfl⟩ := Int.eq_ofNat_of_zero_le hg
  obtain ⟨c, rfl⟩ := Int.eq_ofNat_of_zero_le hc
  obtain ⟨b, rfl⟩ := Int.eq_ofNat_of_zero_le hb
  obtain ⟨b', rfl⟩ := Int.eq_ofNat_of_zero_le hb'
  obtain ⟨v, rfl⟩ := Int.eq_ofNat_of_zero_le hv
  obtain ⟨x, rfl⟩ := Int.eq_ofNat_of_zero_le hx0
  obtain ⟨u, rfl⟩ := Int.eq_ofNat_of_zero_le hu0
  obtain ⟨p, hp⟩ : ∃ p : Nat, p = c + g * x := ⟨_, rfl⟩
  have e : (c : Int) + (g : Int) * (x : Int) = (p : Int) := by rw [hp]; push_cast; rfl
  rw [e] at hc' he
  have e2 : c'.toNat = p / 1000000000 := by omega
  have e3 : Bs ^ (k + 1) = Bs ^ k * 1000000000 := Nat.pow_succ ..
  rw [e2, e3]
  simp only [Int.toNat_natCast] at hI ⊢
  exact msub_step (c := c) (b := b) hI (by omega) hp
theorem back_int {Z S A : Int → Int} {k : Nat} {c c' v x u : Int} (hc : 0 ≤ c) (hc' : 0 ≤ c') (hv : 0 ≤ v) (hx0 : 0 ≤ x) (hx : A k = x) (hu0 : 0 ≤ u) (hu : S k = u)
    (hI : valN Z k + c.toNat * Bs ^ k = valN S k + valN A k) (he : v + c' * 1000000000 = u + c + x) :
    valN (upd1 Z k v) (k + 1) + c'.toNat * Bs ^ (k + 1) = valN S (k + 1) + valN A (k + 1) := by
  rw [valN_push, valN, valN, hx, hu]
  obtain ⟨c, rfl⟩ := Int.eq_ofNat_of_zero_le hc
  obtain ⟨c', rfl⟩ := Int.eq_ofNat_of_zero_le hc'
  obtain ⟨v, rfl⟩ := Int.eq_ofNat_of_zero_le hv
  obtain ⟨x, rfl⟩ := Int.eq_ofNat_of_zero_le hx0
  obtain ⟨u, rfl⟩ := Int.eq_ofNat_of_zero_le hu0
  have e3 : Bs ^ (k + 1) = Bs ^ k * 1000000000 := Nat.pow_succ ..
  rw [e3]
  simp only [Int.toNat_natCast] at hI ⊢
  exact back_step (c := c) hI (by omega)

def cutV (V : Int → Int) (n : Nat) : Int → Int := fun i => if i < n then V i else 0
theorem cutV_in {V : Int → Int} {n k : Nat} (h : k < n) : cutV V n k = V k := by unfold cutV; rw [if_pos (by omega)]
theorem cutV_out {V : Int → Int} {n : Nat} : cutV V n n = 0 := by unfold cutV; rw [if_neg (by omega)]
theorem cutV_all (V : Int → Int) (n : Nat) : valN (cutV V n) (n + 1) = valN V n := by
  rw [valN, cutV_out, valN_congr (W := V) (fun i hi => cutV_in hi)]
  simp
theorem carry_lt {c g x : Int} (hc : 0 ≤ c ∧ c < 1000000000) (hg : 0 ≤ g ∧ g < 1000000000) (hx : 0 ≤ x ∧ x < 1000000000) : 0 ≤ c + g * x ∧ c + g * x < 1000000000000000000 ∧ 0 ≤ (c + g * x) / 1000000000 ∧ (c + g * x) / 1000000000 < 1000000000 := by
  have := limb_mul_le hg.1 hg.2 hx.1 hx.2
  generalize g * x = y at *
  omega
theorem limb2_cast (r u : Nat) : ((r * Bs + u : Nat) : Int) = (r : Int) * 1000000000 + (u : Int) := by
  have e : Bs = 1000000000 := rfl
  rw [e]
  omega
theorem wrap_limb2 {r u : Nat} (hr : r < 1000000000) (hu : u < 1000000000) : IntKind.u64.wrap (IntKind.u64.wrap ((r : Int) * 1000000000) + (u : Int)) = ((r * Bs + u : Nat) : Int) := by
  rw [limb2_cast, wu64_id (x := (r : Int) * 1000000000) (by omega), wu64_id (by omega)]
theorem wrap_mul {g v : Nat} (hg : g < 1000000000) (hv : v < 1000000000) : IntKind.u64.wrap ((g : Int) * (v : Int)) = ((g * v : Nat) : Int) := by
  have h := limb_mul_le (show (0 : Int) ≤ (g : Int) by omega) (show (g : Int) < 1000000000 by omega) (show (0 : Int) ≤ (v : Int) by omega) (by omega)
  rw [wu64_id (by omega), Int.natCast_mul]
theorem wrap_dec {g : Nat} (hg : g + 1 < 18446744073709551616) : IntKind.u64.wrap (((g + 1 : Nat) : Int) - 1) = (g : Int) := by
  rw [wu64_id (by omega)]
  omega
theorem wrap_sum {r v : Nat} (hr : r < 1000000000) (hv : v < 1000000000) : IntKind.u64.wrap ((r : Int) + (v : Int)) = ((r + v : Nat) : Int) := by
  rw [wu64_id (by omega), Int.natCast_add]
theorem guess_eq {g v r un u1 : Nat} {x head : Int} (hx : x = v) (hh : head = ((un * Bs + u1 : Nat) : Int)) (h : (g : Int) * x + (r : Int) = head) : g * v + r = un * Bs + u1 := by
  rw [hx, hh, ← Int.natCast_mul, ← Int.natCast_add] at h
  exact Int.ofNat_inj.1 h
theorem guess_int {g v r un u1 : Nat} {x head : Int} (hx : x = v) (hh : head = ((un * Bs + u1 : Nat) : Int)) (h : g * v + r = un * Bs + u1) : (g : Int) * x + (r : Int) = head := by
  rw [hx, hh, ← Int.natCast_mul, ← Int.natCast_add, h]
theorem guess_le {g v r un u1 : Nat} (hv : 0 < v) (hun : un < 1000000000) (hu1 : u1 < 1000000000) (h : g * v + r = un * Bs + u1) : g < 1000000000000000000 := by
  have h1 : g * 1 ≤ g * v := Nat.mul_le_mul_left _ hv
  have e : Bs = 1000000000 := rfl
  rw [e] at h
  omega
end Sx
end
