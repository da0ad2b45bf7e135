/- A part of the proof of PolyReadsSaid: texts SxNat. -/
import Derived.Test.YtlnpmgmpakjhgaaGreatSxAS
set_option linter.all false
namespace Sx
open Go

def Bs : Nat := 1000000000
theorem Bs_pos : 0 < Bs := by decide
theorem Bp_pos (n : Nat) : 0 < Bs ^ n := Nat.pow_pos Bs_pos
def valN (V : Int → Int) : Nat → Nat
  | 0 => 0
  | n + 1 => valN V n + (V n).toNat * Bs ^ n
def limb (N : Nat) (i : Int) : Int := ((N / Bs ^ i.toNat % Bs : Nat) : Int)
def len (N : Nat) : Nat := if h : N = 0 then 0 else len (N / Bs) + 1
termination_by N
decreasing_by exact Nat.div_lt_self (Nat.pos_of_ne_zero h) (by decide)

theorem len_zero : len 0 = 0 := by unfold len; simp
theorem len_succ {N : Nat} (h : N ≠ 0) : len N = len (N / Bs) + 1 := by
  rw [len]; simp [h]
theorem lt_pow_len (N : Nat) : N < Bs ^ len N := by
  induction N using Nat.strongRecOn with
  | _ N ih =>
    by_cases h : N = 0
    · subst h; simp [len_zero]
    · rw [len_succ h, Nat.pow_succ]
      have := ih (N / Bs) (Nat.div_lt_self (Nat.pos_of_ne_zero h) (by decide))
      exact (Nat.div_lt_iff_lt_mul Bs_pos).1 this
theorem pow_len_le {N : Nat} (h : N ≠ 0) : Bs ^ (len N - 1) ≤ N := by
  induction N using Nat.strongRecOn with
  | _ N ih =>
    rw [len_succ h, Nat.add_sub_cancel]
    by_cases h' : N / Bs = 0
    · rw [h', len_zero]; simp; omega
    · have h1 := ih (N / Bs) (Nat.div_lt_self (Nat.pos_of_ne_zero h) (by decide)) h'
      have h2 : len (N / Bs) = len (N / Bs) - 1 + 1 := by rw [len_succ h']; simp
      rw [h2, Nat.pow_succ]
      exact (Nat.le_div_iff_mul_le Bs_pos).1 h1
theorem len_le {N n : Nat} (h : N < Bs ^ n) : len N ≤ n := by
  by_cases h0 : N = 0
  · subst h0; simp [len_zero]
  · have h1 := pow_len_le h0
    have h2 : Bs ^ (len N - 1) < Bs ^ n := Nat.lt_of_le_of_lt h1 h
    have h3 := (Nat.pow_lt_pow_iff_right (a := Bs) (by decide)).1 h2
    omega
theorem len_le_iff {N n : Nat} : len N ≤ n ↔ N < Bs ^ n :=
  ⟨fun h => Nat.lt_of_lt_of_le (lt_pow_len N) (Nat.pow_le_pow_right Bs_pos h), len_le⟩
theorem len_mono {N M : Nat} (h : N ≤ M) : len N ≤ len M := len_le (Nat.lt_of_le_of_lt h (lt_pow_len M))
theorem len_pos {N : Nat} (h : N ≠ 0) : 0 < len N := by rw [len_succ h]; omega
theorem len_eq_zero {N : Nat} : len N = 0 ↔ N = 0 := ⟨fun h => by
  by_cases h0 : N = 0
  · exact h0
  · have := len_pos h0; omega, fun h => by rw [h, len_zero]⟩
theorem lt_of_len {N M : Nat} (h : len N < len M) : N < M := by
  rcases Nat.lt_or_ge N M with h' | h'
  · exact h'
  · have := len_mono h'; omega
theorem len_mul (a b : Nat) : len (a * b) ≤ len a + len b := len_le (by rw [Nat.pow_add]; exact Nat.mul_lt_mul'' (lt_pow_len a) (lt_pow_len b))
theorem len_add (a b : Nat) : len (a + b) ≤ max (len a) (len b) + 1 := len_le (by
  have h1 := Nat.lt_of_lt_of_le (lt_pow_len a) (Nat.pow_le_pow_right Bs_pos (Nat.le_max_left (len a) (len b)))
  have h2 := Nat.lt_of_lt_of_le (lt_pow_len b) (Nat.pow_le_pow_right Bs_pos (Nat.le_max_right (len a) (len b)))
  rw [Nat.pow_succ]
  have : 2 ≤ Bs := by decide
  have := Nat.mul_le_mul_left (Bs ^ max (len a) (len b)) this
  omega)

theorem limb_nonneg (N : Nat) (i : Int) : 0 ≤ limb N i := by unfold limb; omega
theorem limb_lt (N : Nat) (i : Int) : limb N i < 1000000000 := by
  unfold limb
  have := Nat.mod_lt (N / Bs ^ i.toNat) Bs_pos
  have e : Bs = 1000000000 := rfl
  omega
theorem limb_toNat (N n : Nat) : (limb N n).toNat = N / Bs ^ n % Bs := by unfold limb; rw [Int.toNat_natCast, Int.toNat_natCast]
theorem limb_cast (N n : Nat) : limb N n = ((N / Bs ^ n % Bs : Nat) : Int) := by simp [limb]
theorem mod_succ (N n : Nat) : N % Bs ^ (n + 1) = N % Bs ^ n + (N / Bs ^ n % Bs) * Bs ^ n := by
  rw [Nat.pow_succ, Nat.mod_mul, Nat.mul_comm (Bs ^ n)]
theorem mod_len (N : Nat) {n : Nat} (h : len N ≤ n) : N % Bs ^ n = N := Nat.mod_eq_of_lt (len_le_iff.1 h)
theorem valN_limb (N : Nat) : ∀ n, valN (limb N) n = N % Bs ^ n
  | 0 => by simp [valN, Nat.mod_one]
  | n + 1 => by rw [valN, valN_limb N n, limb_toNat, mod_succ]
theorem valN_len (N : Nat) {n : Nat} (h : len N ≤ n) : valN (limb N) n = N := by rw [valN_limb, mod_len N h]
theorem valN_lt {V : Int → Int} : ∀ {n : Nat}, (∀ i : Nat, i < n → 0 ≤ V i ∧ V i < 1000000000) → valN V n < Bs ^ n
  | 0, _ => by simp [valN]
  | n + 1, h => by
    have h1 := valN_lt (n := n) (fun i hi => h i (by omega))
    have h2 := h n (by omega)
    have h3 : (V n).toNat ≤ Bs - 1 := by have e : Bs = 1000000000 := rfl; omega
    have h4 := Nat.mul_le_mul_right (Bs ^ n) h3
    rw [valN, Nat.pow_succ, Nat.mul_comm (Bs ^ n)]
    have h5 : (Bs - 1) * Bs ^ n + Bs ^ n = Bs * Bs ^ n := by
      have : Bs = Bs - 1 + 1 := by decide
      rw [← Nat.succ_mul]
      congr 1
    omega
theorem valN_congr {V W : Int → Int} : ∀ {n : Nat}, (∀ i : Nat, i < n → V i = W i) → valN V n = valN W n
  | 0, _ => rfl
  | n + 1, h => by rw [valN, valN, valN_congr (fun i hi => h i (by omega)), h n (by omega)]
theorem limb_valN {V : Int → Int} : ∀ {n : Nat}, (∀ i : Nat, i < n → 0 ≤ V i ∧ V i < 1000000000) → ∀ i : Nat, i < n → limb (valN V n) i = V i
  | 0, _, i, h => by omega
  | n + 1, h, i, hi => by
    have h1 := valN_lt (n := n) (fun i hi => h i (by omega))
    rw [limb_cast, valN]
    by_cases e : i = n
    · subst e
      rw [Nat.add_mul_div_right _ _ (Bp_pos i), Nat.div_eq_of_lt h1, Nat.zero_add]
      have h2 := h i (by omega)
      have : (V i).toNat < Bs := by have e : Bs = 1000000000 := rfl; omega
      rw [Nat.mod_eq_of_lt this]
      omega
    · have ih := limb_valN (n := n) (fun i hi => h i (by omega)) i (by omega)
      rw [limb_cast] at ih
      rw [← ih]
      congr 1
      have e2 : Bs ^ n = Bs ^ i * Bs * Bs ^ (n - i - 1) := by
        rw [← Nat.pow_succ, ← Nat.pow_add]; congr 1; omega
      have e3 : valN V n + (V n).toNat * Bs ^ n = valN V n + Bs ^ i * (Bs * ((V n).toNat * Bs ^ (n - i - 1))) := by
        congr 1
        rw [e2]
        simp only [Nat.mul_assoc, Nat.mul_comm, Nat.mul_left_comm]
      rw [e3, Nat.add_mul_div_left _ _ (Bp_pos i), Nat.add_mul_mod_self_left]
theorem valN_len_eq {V : Int → Int} {n : Nat} (h : ∀ i : Nat, i < n → 0 ≤ V i ∧ V i < 1000000000) (ht : 0 < n → V ((n : Int) - 1) ≠ 0) : len (valN V n) = n := by
  cases n with
  | zero => simp [valN, len_zero]
  | succ n =>
    have h1 := len_le (valN_lt h)
    have h2 := ht (by omega)
    have e : ((n + 1 : Nat) : Int) - 1 = n := by omega
    rw [e] at h2
    have h3 := h n (by omega)
    have h4 : Bs ^ n ≤ valN V (n + 1) := by
      rw [valN]
      have : 1 ≤ (V n).toNat := by omega
      have := Nat.mul_le_mul_right (Bs ^ n) this
      omega
    have h5 : ¬ len (valN V (n + 1)) ≤ n := fun h => by have := len_le_iff.1 h; omega
    omega
theorem valN_zeros {V : Int → Int} {m : Nat} : ∀ {n : Nat}, m ≤ n → (∀ i : Nat, m ≤ i → i < n → V i = 0) → valN V n = valN V m
  | 0, h, _ => by have : m = 0 := by omega
                  subst this; rfl
  | n + 1, h, hz => by
    by_cases e : m = n + 1
    · rw [e]
    · rw [valN, hz n (by omega) (by omega), valN_zeros (by omega) (fun i a b => hz i a (by omega))]
      simp
theorem limb_top {N : Nat} (h : N ≠ 0) : limb N ((len N : Int) - 1) ≠ 0 := by
  have h1 := pow_len_le h
  have h2 := lt_pow_len N
  have h3 := len_pos h
  have e : ((len N : Int) - 1) = ((len N - 1 : Nat) : Int) := by omega
  rw [e, limb_cast]
  have h4 : 0 < N / Bs ^ (len N - 1) := Nat.div_pos h1 (Bp_pos _)
  have h5 : N / Bs ^ (len N - 1) < Bs := by
    rw [Nat.div_lt_iff_lt_mul (Bp_pos _), ← Nat.pow_succ', show (len N - 1).succ = len N by omega]
    exact h2
  rw [Nat.mod_eq_of_lt h5]
  omega
theorem limb_high {N i : Nat} (h : len N ≤ i) : limb N i = 0 := by
  rw [limb_cast, Nat.div_eq_of_lt (len_le_iff.1 h)]
  rfl
theorem div_succ (N i : Nat) : N / Bs ^ i = N / Bs ^ (i + 1) * Bs + N / Bs ^ i % Bs := by
  have h := (Nat.div_add_mod (N / Bs ^ i) Bs)
  rw [Nat.div_div_eq_div_mul, ← Nat.pow_succ] at h
  rw [Nat.mul_comm] at h
  exact h.symm
theorem lt_of_limb {N M i : Nat} (h : N / Bs ^ (i + 1) = M / Bs ^ (i + 1)) (hl : limb N i < limb M i) : N < M := by
  rw [limb_cast, limb_cast] at hl
  have h1 := div_succ N i
  have h2 := div_succ M i
  rw [h] at h1
  have : N / Bs ^ i < M / Bs ^ i := by omega
  rcases Nat.lt_or_ge N M with h' | h'
  · exact h'
  · have := Nat.div_le_div_right (c := Bs ^ i) h'
    omega
theorem div_limb {N M i : Nat} (h : N / Bs ^ (i + 1) = M / Bs ^ (i + 1)) (hl : limb N i = limb M i) : N / Bs ^ i = M / Bs ^ i := by
  rw [limb_cast, limb_cast] at hl
  rw [div_succ N i, div_succ M i, h]
  omega

def natT (q : Qt) (N : Nat) : T := .sl 1 (q Int fun _ => (len N : Int)) (fun i => [.int .u32 (q Int fun _ => limb N i)])
def rowT (n : Int) (V : Int → Int) : T := .sl 1 n (fun i => [.int .u32 (V i)])
def rowN (q : Qt) (n : Nat) (V : Int → Int) : T := .sl 1 (q Int fun _ => (n : Int)) (fun i => [.int .u32 (V i)])
theorem TE.row {n : Int} {V W : Int → Int} (h : ∀ i : Nat, (i : Int) < n → V i = W i) : TE (rowT n V) (rowT n W) :=
  .sl (fun _ => rfl) (fun i hi => rfl) (fun i j a b hi ha hb => by
    cases j with
    | zero => simp at ha hb; subst ha; subst hb; rw [h i hi]; exact .refl
    | succ j => simp at ha)
theorem TE.nat {n : Nat} {V : Int → Int} {N : Nat} (h : ∀ i : Nat, i < n → 0 ≤ V i ∧ V i < 1000000000) (ht : 0 < n → V ((n : Int) - 1) ≠ 0) (hN : N = valN V n) : TE (rowT n V) (natT q0 N) := by
  subst hN
  have e : natT q0 (valN V n) = rowT n (fun i => limb (valN V n) i) := by
    unfold natT rowT q0
    simp only [valN_len_eq h ht]
  rw [e]
  exact TE.row (fun i hi => (limb_valN h i (by omega)).symm)
def upd1 (Z : Int → Int) (k v : Int) : Int → Int := fun i => if i = k then v else Z i
theorem upd1_at (Z : Int → Int) (k v : Int) : upd1 Z k v k = v := by simp [upd1]
theorem upd1_ne {Z : Int → Int} {k v i : Int} (h : i ≠ k) : upd1 Z k v i = Z i := by simp [upd1, h]
theorem upd_row {Z : Int → Int} {k v : Int} : (fun j => if j = k then [T.int .u32 v] else [T.int .u32 (Z j)]) = (fun j => [T.int .u32 (upd1 Z k v j)]) := by
  funext j
  unfold upd1
  split <;> rfl
theorem valN_upd {Z : Int → Int} {k v : Int} {n : Nat} (h : (n : Int) ≤ k) : valN (upd1 Z k v) n = valN Z n := valN_congr (fun i hi => upd1_ne (by omega))
theorem valN_push {Z : Int → Int} {v : Int} {n : Nat} : valN (upd1 Z n v) (n + 1) = valN Z n + v.toNat * Bs ^ n := by
  rw [valN, valN_upd (by omega), upd1_at]
theorem updFn_row {Z : Int → Int} {k v : Int} : updFn (fun i => [T.int .u32 (Z i)]) k [T.int .u32 v] = (fun i => [T.int .u32 (upd1 Z k v i)]) := by
  funext j
  unfold upd1 updFn
  split <;> rfl
theorem add_step {x y k : Nat} {Z : Int → Int} {c c' v : Int} (hc : 0 ≤ c) (hc' : 0 ≤ c') (hv : 0 ≤ v) (h : valN Z k + c.toNat * Bs ^ k = x % Bs ^ k + y % Bs ^ k) (he : v + c' * 1000000000 = limb x k + c + limb y k) :
    valN (upd1 Z k v) (k + 1) + c'.toNat * Bs ^ (k + 1) = x % Bs ^ (k + 1) + y % Bs ^ (k + 1) := by
  rw [valN_push, mod_succ x, mod_succ y, Nat.pow_succ]
  rw [limb_cast, limb_cast] at he
  obtain ⟨c, rfl⟩ := Int.eq_ofNat_of_zero_le hc
  obtain ⟨c', rfl⟩ := Int.eq_ofNat_of_zero_le hc'
  obtain ⟨v, rfl⟩ := Int.eq_ofNat_of_zero_le hv
  simp only [Int.toNat_natCast] at h ⊢
  generalize x / Bs ^ k % Bs = lx at *
  generalize y / Bs ^ k % Bs = ly at *
  generalize x % Bs ^ k = mx at *
  generalize y % Bs ^ k = my at *
  generalize valN Z k = z at *
  generalize Bs ^ k = P at *
  have he' : v + c' * Bs = lx + c + ly := by
    have e : Bs = 1000000000 := rfl
    rw [e]; omega
  generalize Bs = B at *
  grind
theorem sub_step {x y k : Nat} {Z : Int → Int} {c c' v : Int} (hc : 0 ≤ c) (hc' : 0 ≤ c') (hv : 0 ≤ v) (h : valN Z k + y % Bs ^ k = x % Bs ^ k + c.toNat * Bs ^ k) (he : v + (c + limb y k) = limb x k + c' * 1000000000) :
    valN (upd1 Z k v) (k + 1) + y % Bs ^ (k + 1) = x % Bs ^ (k + 1) + c'.toNat * Bs ^ (k + 1) := by
  rw [valN_push, mod_succ x, mod_succ y, Nat.pow_succ]
  rw [limb_cast, limb_cast] at he
  obtain ⟨c, rfl⟩ := Int.eq_ofNat_of_zero_le hc
  obtain ⟨c', rfl⟩ := Int.eq_ofNat_of_zero_le hc'
  obtain ⟨v, rfl⟩ := Int.eq_ofNat_of_zero_le hv
  simp only [Int.toNat_natCast] at h ⊢
  generalize x / Bs ^ k % Bs = lx at *
  generalize y / Bs ^ k % Bs = ly at *
  generalize x % Bs ^ k = mx at *
  generalize y % Bs ^ k = my at *
  generalize valN Z k = z at *
  generalize Bs ^ k = P at *
  have he' : v + (c + ly) = lx + c' * Bs := by
    have e : Bs = 1000000000 := rfl
    rw [e]; omega
  generalize Bs = B at *
  grind
theorem sub_end {x y n : Nat} {Z : Int → Int} {c : Int} (hn : len x ≤ n) (hy : y ≤ x) (hc : 0 ≤ c) (hZ : ∀ i : Nat, i < n → 0 ≤ Z i ∧ Z i < 1000000000) (h : valN Z n + y % Bs ^ n = x % Bs ^ n + c.toNat * Bs ^ n) : valN Z n = x - y := by
  have h1 := valN_lt hZ
  rw [mod_len x hn, mod_len y (Nat.le_trans (len_mono hy) hn)] at h
  by_cases h0 : c.toNat = 0
  · rw [h0] at h; omega
  · have : 1 * Bs ^ n ≤ c.toNat * Bs ^ n := Nat.mul_le_mul_right _ (by omega)
    omega
theorem mulS_step {x k d : Nat} {Z : Int → Int} {c c' v : Int} (hc : 0 ≤ c) (hc' : 0 ≤ c') (hv : 0 ≤ v) (h : valN Z k + c.toNat * Bs ^ k = x % Bs ^ k * d) (he : v + c' * 1000000000 = limb x k * d + c) :
    valN (upd1 Z k v) (k + 1) + c'.toNat * Bs ^ (k + 1) = x % Bs ^ (k + 1) * d := by
  rw [valN_push, mod_succ x, Nat.pow_succ]
  rw [limb_cast] at he
  obtain ⟨c, rfl⟩ := Int.eq_ofNat_of_zero_le hc
  obtain ⟨c', rfl⟩ := Int.eq_ofNat_of_zero_le hc'
  obtain ⟨v, rfl⟩ := Int.eq_ofNat_of_zero_le hv
  simp only [Int.toNat_natCast] at h ⊢
  generalize x / Bs ^ k % Bs = lx at *
  generalize x % Bs ^ k = mx at *
  generalize valN Z k = z at *
  generalize Bs ^ k = P at *
  have he' : v + c' * Bs = lx * d + c := by
    have e : Bs = 1000000000 := rfl
    rw [e]
    have : ((lx * d : Nat) : Int) = (lx : Int) * d := by simp
    omega
  generalize Bs = B at *
  grind
theorem TE.rowV {n : Nat} {V : Int → Int} {N : Nat} (h : ∀ i : Nat, i < n → 0 ≤ V i ∧ V i < 1000000000) (hN : valN V n = N) : TE (rowT n V) (rowN q0 n (limb N)) := by
  subst hN
  exact TE.row (fun i hi => (limb_valN h i (by omega)).symm)

theorem limb_mul_le {a b : Int} (ha0 : 0 ≤ a) (ha : a < 1000000000) (hb0 : 0 ≤ b) (hb : b < 1000000000) : 0 ≤ a * b ∧ a * b ≤ 999999998000000001 := by
  refine ⟨Int.mul_nonneg ha0 hb0, ?_⟩
  have h1 := Int.mul_le_mul (show a ≤ 999999999 by omega) (show b ≤ 999999999 by omega) hb0 (by omega)
  omega
theorem div_digit (x i : Nat) {d : Nat} (hd : 0 < d) : (x / Bs ^ (i + 1) % d * Bs + x / Bs ^ i % Bs) / d = x / d / Bs ^ i % Bs ∧ (x / Bs ^ (i + 1) % d * Bs + x / Bs ^ i % Bs) % d = x / Bs ^ i % d := by
  have h1 := div_succ x i
  have h2 : x / d / Bs ^ i = x / Bs ^ i / d := by rw [Nat.div_div_eq_div_mul, Nat.mul_comm, ← Nat.div_div_eq_div_mul]
  rw [h2]
  generalize x / Bs ^ (i + 1) = X at *
  have hxi : x / Bs ^ i % Bs < Bs := Nat.mod_lt _ Bs_pos
  generalize hxx : x / Bs ^ i % Bs = xi at *
  rw [h1]
  have e : X * Bs + xi = (X % d * Bs + xi) + d * (X / d * Bs) := by
    have := Nat.div_add_mod X d
    have e2 : X * Bs = (d * (X / d) + X % d) * Bs := by rw [this]
    rw [e2, Nat.add_mul, Nat.mul_assoc]
    omega
  rw [e, Nat.add_mul_div_left _ _ hd, Nat.add_mul_mod_self_left]
  have hlt : (X % d * Bs + xi) / d < Bs := by
    rw [Nat.div_lt_iff_lt_mul hd]
    have h3 := Nat.mod_lt X hd
    have h4 := Nat.mul_le_mul_right Bs (show X % d + 1 ≤ d from h3)
    rw [Nat.add_mul] at h4
    rw [Nat.mul_comm Bs d]
    omega
  rw [Nat.add_mul_mod_self_right, Nat.mod_eq_of_lt hlt]
  exact ⟨rfl, rfl⟩
theorem div_digit_int (x i : Nat) {d : Nat} (hd : 0 < d) : (((x / Bs ^ (i + 1) % d : Nat) : Int) * 1000000000 + limb x i) / (d : Int) = limb (x / d) i ∧ (((x / Bs ^ (i + 1) % d : Nat) : Int) * 1000000000 + limb x i) % (d : Int) = ((x / Bs ^ i % d : Nat) : Int) := by
  obtain ⟨h1, h2⟩ := div_digit x i hd
  have e : ((x / Bs ^ (i + 1) % d : Nat) : Int) * 1000000000 + limb x i = ((x / Bs ^ (i + 1) % d * Bs + x / Bs ^ i % Bs : Nat) : Int) := by
    rw [limb_cast]
    have : Bs = 1000000000 := rfl
    generalize x / Bs ^ (i + 1) % d = r
    generalize x / Bs ^ i % Bs = l
    rw [this]
    omega
  rw [e, limb_cast]
  exact ⟨by rw [← h1]; rfl, by rw [← h2]; rfl⟩
theorem valN_set {Z : Int → Int} {v : Int} {m : Nat} : ∀ {n : Nat}, m < n → valN (upd1 Z m v) n + (Z m).toNat * Bs ^ m = valN Z n + v.toNat * Bs ^ m
  | 0, h => by omega
  | n + 1, h => by
    by_cases e : m = n
    · subst e
      rw [valN, valN, valN_upd (by omega), upd1_at]
      omega
    · have ih := valN_set (Z := Z) (v := v) (m := m) (n := n) (by omega)
      rw [valN, valN, upd1_ne (show (n : Int) ≠ m by omega)]
      omega
theorem mul_step {y i j n : Nat} {Z : Int → Int} {c c' v lx : Int} {T : Nat} (hlx : 0 ≤ lx) (hz0 : 0 ≤ Z ((i + j : Nat) : Int)) (hc : 0 ≤ c) (hc' : 0 ≤ c') (hv : 0 ≤ v) (hn : i + j < n) (h : valN Z n + c.toNat * Bs ^ (i + j) = T + lx.toNat * Bs ^ i * (y % Bs ^ j)) (he : v + c' * 1000000000 = lx * limb y j + Z ((i + j : Nat) : Int) + c) :
    valN (upd1 Z ((i + j : Nat) : Int) v) n + c'.toNat * Bs ^ (i + j + 1) = T + lx.toNat * Bs ^ i * (y % Bs ^ (j + 1)) := by
  have h1 := valN_set (Z := Z) (v := v) hn
  rw [mod_succ y, Nat.pow_succ]
  rw [limb_cast] at he
  obtain ⟨c, rfl⟩ := Int.eq_ofNat_of_zero_le hc
  obtain ⟨c', rfl⟩ := Int.eq_ofNat_of_zero_le hc'
  obtain ⟨v, rfl⟩ := Int.eq_ofNat_of_zero_le hv
  obtain ⟨lx, rfl⟩ := Int.eq_ofNat_of_zero_le hlx
  obtain ⟨z, hz⟩ := Int.eq_ofNat_of_zero_le hz0
  rw [hz] at h1 he
  simp only [Int.toNat_natCast] at h h1 ⊢
  generalize valN (upd1 Z ((i + j : Nat) : Int) v) n = w1 at *
  generalize valN Z n = w at *
  generalize y / Bs ^ j % Bs = ly at *
  generalize y % Bs ^ j = my at *
  rw [Nat.pow_add] at *
  generalize Bs ^ i = P at *
  generalize Bs ^ j = P' at *
  have he' : v + c' * Bs = lx * ly + z + c := by
    have e : Bs = 1000000000 := rfl
    rw [e]
    have : ((lx * ly : Nat) : Int) = (lx : Int) * ly := by simp
    omega
  generalize Bs = B at *
  grind
theorem app_row1 {k : Nat} {G : Int → List T} {Z : Int → Int} {v : Int} (h : ∀ i : Nat, (i : Int) < k → G i = [.int .u32 (Z i)]) : ∀ i : Nat, i < k + 1 → appFn k G (fun i => [[T.int .u32 v]].getD i.toNat []) i = [.int .u32 (upd1 Z k v i)] := by
  intro i hi
  unfold appFn
  by_cases hik : (i : Int) < k
  · rw [if_pos hik, h i hik, upd1_ne (by omega)]
  · rw [if_neg hik]
    have : (i : Int) = k := by omega
    rw [this, upd1_at]
    simp
theorem norm_step {k : Nat} {V Z : Int → Int} {c c' v : Int} (hc : 0 ≤ c) (hc' : 0 ≤ c') (hv : 0 ≤ v) (hV : 0 ≤ V k) (h : valN Z k + c.toNat * Bs ^ k = valN V k) (he : v + c' * 1000000000 = V k + c) :
    valN (upd1 Z k v) (k + 1) + c'.toNat * Bs ^ (k + 1) = valN V (k + 1) := by
  rw [valN_push, valN, Nat.pow_succ]
  obtain ⟨c, rfl⟩ := Int.eq_ofNat_of_zero_le hc
  obtain ⟨c', rfl⟩ := Int.eq_ofNat_of_zero_le hc'
  obtain ⟨v, rfl⟩ := Int.eq_ofNat_of_zero_le hv
  obtain ⟨l, hl⟩ := Int.eq_ofNat_of_zero_le hV
  rw [hl] at he ⊢
  simp only [Int.toNat_natCast] at h ⊢
  generalize valN Z k = z at *
  generalize valN V k = w at *
  generalize Bs ^ k = P at *
  have he' : v + c' * Bs = l + c := by
    have e : Bs = 1000000000 := rfl
    rw [e]; omega
  generalize Bs = B at *
  grind
end Sx
