/- A part of the proof of PolyReadsSaid: texts SxFlt. -/
import Derived.Test.YtlnpmgmpakjhgaaGreatSxAS
set_option linter.all false
set_option maxRecDepth 4000
namespace Sx
open Go

def Le2 (m : Nat) (e k : Int) : Prop := m = 0 ∨ (e ≤ k ∧ m ≤ 2 ^ (k - e).toNat)
def Ge2 (m : Nat) (e k : Int) : Prop := 0 < m ∧ 2 ^ (k - e).toNat ≤ m

def FLe (b : Nat) (k : Int) : Prop := ∃ m e, Ieee.double.read b = .number false m e ∧ Le2 m e k
def FIn (b : Nat) (l k : Int) : Prop := ∃ m e, Ieee.double.read b = .number false m e ∧ Le2 m e k ∧ Ge2 m e l

theorem pow_ne (a : Nat) : 0 < 2 ^ a := Nat.pow_pos (by decide)
theorem log_lt (n : Nat) : n < 2 ^ (n.log2 + 1) := Nat.lt_log2_self
theorem cut_le {n d a : Nat} (h : n ≤ 2 ^ (a + d)) : Ieee.Toward.even.cut false n d ≤ 2 ^ a := by
  unfold Ieee.Toward.cut
  simp only [Nat.one_shiftLeft]
  have ha := pow_ne a
  rcases Nat.le_total d (n.log2 + 2) with hd | hd
  · rw [Nat.min_eq_left hd]
    have hg := pow_ne d
    have e := Nat.div_add_mod n (2 ^ d)
    have hr := Nat.mod_lt n hg
    rw [Nat.pow_add] at h
    generalize 2 ^ d = g at *
    generalize 2 ^ a = A at *
    generalize n / g = low at *
    generalize n % g = rest at *
    by_cases hl : low < A
    · have : ∀ b : Bool, low + b.toNat ≤ A := fun b => by cases b <;> simp <;> omega
      exact this _
    · have h1 : A * g ≤ low * g := Nat.mul_le_mul_right _ (by omega)
      rw [Nat.mul_comm g low] at e
      have h2 : rest = 0 := by omega
      have h3 : low * g = A * g := by omega
      have h4 : low = A := Nat.eq_of_mul_eq_mul_right hg h3
      subst h2
      have h5 : decide (g < 2 * 0) = false := by simp
      have h6 : (g == 2 * 0) = false := by simp; omega
      simp only [h5, h6, Bool.false_and, Bool.or_false, Bool.toNat_false]
      omega
  · rw [Nat.min_eq_right hd]
    have h1 := log_lt n
    have h2 : 2 ^ (n.log2 + 2) = 2 * 2 ^ (n.log2 + 1) := by rw [Nat.pow_succ, Nat.mul_comm]
    rw [h2]
    generalize 2 ^ (n.log2 + 1) = g at *
    have h3 : n / (2 * g) = 0 := Nat.div_eq_of_lt (by omega)
    have h4 : n % (2 * g) = n := Nat.mod_eq_of_lt (by omega)
    rw [h3, h4]
    have h5 : decide (2 * g < 2 * n) = false := by simp; omega
    have h6 : (2 * g == 2 * n) = false := by simp; omega
    simp only [h5, h6, Bool.false_and, Bool.or_false, Bool.toNat_false]
    omega
theorem cut_ge {n d a : Nat} {way : Ieee.Toward} (h : 2 ^ (a + d) ≤ n) : 2 ^ a ≤ way.cut false n d := by
  unfold Ieee.Toward.cut
  simp only [Nat.one_shiftLeft]
  have hd : d ≤ n.log2 + 2 := by
    have h1 := log_lt n
    have h2 : 2 ^ (a + d) < 2 ^ (n.log2 + 1) := Nat.lt_of_le_of_lt h h1
    have := (Nat.pow_lt_pow_iff_right (a := 2) (by decide)).1 h2
    omega
  rw [Nat.min_eq_left hd]
  refine Nat.le_trans ?_ (Nat.le_add_right _ _)
  rw [Nat.le_div_iff_mul_le (pow_ne d), ← Nat.pow_add]
  exact h
theorem cutz_le {n d a : Nat} (h : n ≤ 2 ^ (a + d)) : Ieee.Toward.zero.cut false n d ≤ 2 ^ a := by
  unfold Ieee.Toward.cut
  simp only [Nat.one_shiftLeft, Bool.toNat_false, Nat.add_zero]
  rcases Nat.le_total d (n.log2 + 2) with hd | hd
  · rw [Nat.min_eq_left hd]
    exact Nat.div_le_of_le_mul (by rw [← Nat.pow_add, Nat.add_comm d]; exact h)
  · rw [Nat.min_eq_right hd]
    have h1 := log_lt n
    have h2 : 2 ^ (n.log2 + 2) = 2 * 2 ^ (n.log2 + 1) := by rw [Nat.pow_succ, Nat.mul_comm]
    rw [Nat.div_eq_of_lt (by omega)]
    exact Nat.zero_le _

theorem read_rung {r : Nat} (h : r < 2047 * 2 ^ 52) : Ieee.double.read r = if r < 2 ^ 52 then .number false r (-1074) else .number false (2 ^ 52 + r % 2 ^ 52) (-1074 + ((r / 2 ^ 52 - 1 : Nat) : Int)) := by
  unfold Ieee.Format.read
  have e1 : Ieee.double.signWeight = 2 ^ 63 := by decide
  have e2 : Ieee.double.binade = 2 ^ 52 := by decide
  have e3 : Ieee.double.infRung = 2047 * 2 ^ 52 := by decide
  have e4 : Ieee.double.leastPlace = -1074 := by decide
  simp only [e1, e2, e3, e4]
  have h1 : r / 2 ^ 63 % 2 = 0 := by rw [Nat.div_eq_of_lt (by omega)]
  have h2 : r % 2 ^ 63 = r := Nat.mod_eq_of_lt (by omega)
  rw [h1, h2]
  have h3 : (0 == 1) = false := rfl
  simp only [h3, if_pos h]

theorem read_kept {last : Int} {kept : Nat} (h1 : -1074 ≤ last) (h2 : last ≤ 900) (hk : kept ≤ 2 ^ 53) (hn : last = -1074 ∨ 2 ^ 52 ≤ kept) :
    Ieee.double.read ((last + 1074).toNat * 2 ^ 52 + kept) = .number false kept last ∨ (kept = 2 ^ 53 ∧ Ieee.double.read ((last + 1074).toNat * 2 ^ 52 + kept) = .number false (2 ^ 52) (last + 1)) := by
  obtain ⟨t, rfl⟩ : ∃ t : Nat, last = (t : Int) - 1074 := ⟨(last + 1074).toNat, by omega⟩
  have et : ((t : Int) - 1074 + 1074).toNat = t := by omega
  rw [et, read_rung (by omega)]
  by_cases hs : kept < 2 ^ 52
  · have ht : t = 0 := by omega
    subst ht
    left
    rw [if_pos (by omega)]
    simp
  · rw [if_neg (by omega)]
    by_cases hb : kept = 2 ^ 53
    · right
      refine ⟨hb, ?_⟩
      subst hb
      have e1 : (t * 2 ^ 52 + 2 ^ 53) % 2 ^ 52 = 0 := by omega
      have e2 : (t * 2 ^ 52 + 2 ^ 53) / 2 ^ 52 - 1 = t + 1 := by omega
      have e3 : (-1074 : Int) + ((t + 1 : Nat) : Int) = (t : Int) - 1074 + 1 := by omega
      rw [e1, e2, Nat.add_zero, e3]
    · left
      have e1 : (t * 2 ^ 52 + kept) % 2 ^ 52 = kept - 2 ^ 52 := by omega
      have e2 : (t * 2 ^ 52 + kept) / 2 ^ 52 - 1 = t := by omega
      have e3 : 2 ^ 52 + (kept - 2 ^ 52) = kept := by omega
      have e4 : (-1074 : Int) + (t : Int) = (t : Int) - 1074 := by omega
      rw [e1, e2, e3, e4]

theorem log_le {m : Nat} (hm : m ≠ 0) {e k : Int} (h : Le2 m e k) : e + (m.log2 : Int) ≤ k := by
  rcases h with h | ⟨h1, h2⟩
  · exact absurd h hm
  · have h3 := Nat.log2_self_le hm
    have h4 : 2 ^ m.log2 ≤ 2 ^ (k - e).toNat := Nat.le_trans h3 h2
    have := (Nat.pow_le_pow_iff_right (a := 2) (by decide)).1 h4
    omega

theorem nearest_at {mag : Nat} {place k : Int} (hm : mag ≠ 0) (hk0 : -1000 ≤ k) (hk : k ≤ 900) (h : Le2 mag place k) :
    ∃ m e, Ieee.double.read (Ieee.double.nearest false mag place) = .number false m e ∧ Le2 m e k ∧ ∀ l : Int, -1000 ≤ l → Ge2 mag place l → Ge2 m e l := by
  have hL := log_le hm h
  have h3 := Nat.log2_self_le hm
  have h4 := log_lt mag
  unfold Ieee.Format.nearest
  rw [if_neg hm]
  have e2 : Ieee.double.binade = 2 ^ 52 := by decide
  have e3 : Ieee.double.infRung = 2047 * 2 ^ 52 := by decide
  have e4 : Ieee.double.leastPlace = -1074 := by decide
  have e5 : Ieee.double.fractionBits = 52 := rfl
  simp only [e2, e3, e4, e5, Nat.shiftLeft_eq]
  generalize hlast : max (place + (mag.log2 : Int) - ((52 : Nat) : Int)) (-1074) = last
  generalize hL2 : mag.log2 = L at *
  have hl1 : -1074 ≤ last := by omega
  have hl2 : last ≤ 900 := by omega
  obtain ⟨s, hs⟩ : ∃ s : Nat, (place - last).toNat = s := ⟨_, rfl⟩
  obtain ⟨d, hd⟩ : ∃ d : Nat, (last - place).toNat = d := ⟨_, rfl⟩
  have hsd : (s : Int) - d = place - last := by omega
  rw [hs, hd]
  have up : ∀ a : Nat, ((k - last : Int) ≤ a ∨ ((L : Int) + 1 + s ≤ a + d)) → mag * 2 ^ s ≤ 2 ^ (a + d) := by
    intro a ha
    rcases ha with ha | ha
    · rcases h with h | ⟨p1, p2⟩
      · exact absurd h hm
      · have : mag * 2 ^ s ≤ 2 ^ (k - place).toNat * 2 ^ s := Nat.mul_le_mul_right _ p2
        rw [← Nat.pow_add] at this
        exact Nat.le_trans this (Nat.pow_le_pow_right (by decide) (by omega))
    · have : mag * 2 ^ s ≤ 2 ^ (L + 1) * 2 ^ s := Nat.mul_le_mul_right _ (Nat.le_of_lt h4)
      rw [← Nat.pow_add] at this
      exact Nat.le_trans this (Nat.pow_le_pow_right (by decide) (by omega))
  have dn : ∀ a : Nat, (a : Int) + d ≤ L + s → 2 ^ (a + d) ≤ mag * 2 ^ s := by
    intro a ha
    have : 2 ^ L * 2 ^ s ≤ mag * 2 ^ s := Nat.mul_le_mul_right _ h3
    rw [← Nat.pow_add] at this
    exact Nat.le_trans (Nat.pow_le_pow_right (by decide) (by omega)) this
  have k53 : Ieee.Toward.even.cut false (mag * 2 ^ s) d ≤ 2 ^ 53 := cut_le (up 53 (.inr (by omega)))
  have kn : last = -1074 ∨ 2 ^ 52 ≤ Ieee.Toward.even.cut false (mag * 2 ^ s) d := by
    by_cases hn : last = -1074
    · exact .inl hn
    · exact .inr (cut_ge (dn 52 (by omega)))
  have kl : last ≤ k := by omega
  have kk : Ieee.Toward.even.cut false (mag * 2 ^ s) d ≤ 2 ^ (k - last).toNat := cut_le (up _ (.inl (by omega)))
  have kg : ∀ l : Int, -1000 ≤ l → Ge2 mag place l → 2 ^ (l - last).toNat ≤ Ieee.Toward.even.cut false (mag * 2 ^ s) d := by
    intro l hl ⟨g1, g2⟩
    refine cut_ge ?_
    have q1 : 2 ^ (l - place).toNat * 2 ^ s ≤ mag * 2 ^ s := Nat.mul_le_mul_right _ g2
    rw [← Nat.pow_add] at q1
    have q2 : (l - place).toNat ≤ L := by
      have := Nat.lt_of_le_of_lt g2 h4
      have := (Nat.pow_lt_pow_iff_right (a := 2) (by decide)).1 this
      omega
    by_cases hll : last ≤ l
    · refine Nat.le_trans (Nat.pow_le_pow_right (by decide) ?_) q1
      omega
    · rw [show (l - last).toNat = 0 by omega]
      exact dn 0 (by omega)
  have k0 : ∀ l : Int, -1000 ≤ l → Ge2 mag place l → 0 < Ieee.Toward.even.cut false (mag * 2 ^ s) d := fun l hl hg => Nat.lt_of_lt_of_le (pow_ne _) (kg l hl hg)
  generalize Ieee.Toward.even.cut false (mag * 2 ^ s) d = kept at *
  have hw : Ieee.double.word false (min ((last - -1074).toNat * 2 ^ 52 + kept) (2047 * 2 ^ 52)) = (last + 1074).toNat * 2 ^ 52 + kept := by
    unfold Ieee.Format.word
    rw [if_neg (by simp)]
    have e6 : (last - -1074).toNat = (last + 1074).toNat := by omega
    rw [e6]
    have e7 : (last + 1074).toNat ≤ 2000 := by omega
    refine Nat.min_eq_left ?_
    refine Nat.le_trans (Nat.add_le_add (Nat.mul_le_mul_right _ e7) k53) ?_
    decide
  rw [hw]
  rcases read_kept hl1 hl2 k53 kn with hr | ⟨hr1, hr⟩
  · exact ⟨_, _, hr, .inr ⟨kl, kk⟩, fun l hl hg => ⟨k0 l hl hg, kg l hl hg⟩⟩
  · refine ⟨_, _, hr, .inr ?_, fun l hl hg => ⟨pow_ne _, ?_⟩⟩
    · subst hr1
      have := (Nat.pow_le_pow_iff_right (a := 2) (by decide)).1 kk
      exact ⟨by omega, Nat.pow_le_pow_right (by decide) (by omega)⟩
    · have q := kg l hl hg
      subst hr1
      have := (Nat.pow_le_pow_iff_right (a := 2) (by decide)).1 q
      exact Nat.pow_le_pow_right (by decide) (by omega)
theorem nearest_zero (place : Int) : Ieee.double.read (Ieee.double.nearest false 0 place) = .number false 0 (-1074) := by
  unfold Ieee.Format.nearest
  rw [if_pos rfl]
  decide
theorem nearest_le {mag : Nat} {place k : Int} (hk0 : -1000 ≤ k) (hk : k ≤ 900) (h : Le2 mag place k) : FLe (Ieee.double.nearest false mag place) k := by
  by_cases hm : mag = 0
  · subst hm; exact ⟨_, _, nearest_zero _, .inl rfl⟩
  · obtain ⟨m, e, h1, h2, _⟩ := nearest_at hm hk0 hk h
    exact ⟨m, e, h1, h2⟩
theorem nearest_in {mag : Nat} {place l k : Int} (hl : -1000 ≤ l) (hk0 : -1000 ≤ k) (hk : k ≤ 900) (h : Le2 mag place k) (hg : Ge2 mag place l) : FIn (Ieee.double.nearest false mag place) l k := by
  have hm : mag ≠ 0 := by have := hg.1; omega
  obtain ⟨m, e, h1, h2, h3⟩ := nearest_at hm hk0 hk h
  exact ⟨m, e, h1, h2, h3 l hl hg⟩

theorem ofInt_le {n : Int} {k : Nat} (h0 : 0 ≤ n) (h : n ≤ 2 ^ k) (hk : k ≤ 900) : FLe (floatOfInt .f64 n) k := by
  have e : floatOfInt .f64 n = Ieee.double.nearest false n.natAbs 0 := by
    have : decide (n < 0) = false := by simp; omega
    show Ieee.double.write (.number (decide (n < 0)) n.natAbs 0) = _
    rw [this]; rfl
  rw [e]
  refine nearest_le (by omega) (by omega) (.inr ⟨by omega, ?_⟩)
  have : ((k : Int) - 0).toNat = k := by omega
  rw [this]
  have h1 : (n.natAbs : Int) ≤ ((2 ^ k : Nat) : Int) := by push_cast; omega
  omega
theorem ofInt_in {n : Int} {l k : Nat} (h1 : 2 ^ l ≤ n) (h : n ≤ 2 ^ k) (hk : k ≤ 900) : FIn (floatOfInt .f64 n) l k := by
  have hp : (0 : Int) < 2 ^ l := Int.pow_pos (by decide)
  have e : floatOfInt .f64 n = Ieee.double.nearest false n.natAbs 0 := by
    have : decide (n < 0) = false := by simp; omega
    show Ieee.double.write (.number (decide (n < 0)) n.natAbs 0) = _
    rw [this]; rfl
  rw [e]
  refine nearest_in (by omega) (by omega) (by omega) (.inr ⟨by omega, ?_⟩) ⟨by omega, ?_⟩
  · have : ((k : Int) - 0).toNat = k := by omega
    rw [this]
    have h1 : (n.natAbs : Int) ≤ ((2 ^ k : Nat) : Int) := by push_cast; omega
    omega
  · have : ((l : Int) - 0).toNat = l := by omega
    rw [this]
    have h1 : ((2 ^ l : Nat) : Int) ≤ (n.natAbs : Int) := by push_cast; omega
    omega
theorem fmul_le {x y : Nat} {k l : Int} (hx : FLe x k) (hy : FLe y l) (h0 : -1000 ≤ k + l) (h1 : k + l ≤ 900) : ∃ b, floatBits .mul .f64 x y = some b ∧ FLe b (k + l) := by
  obtain ⟨m, i, hx, hm⟩ := hx
  obtain ⟨n, j, hy, hn⟩ := hy
  refine ⟨Ieee.double.nearest false (m * n) (i + j), ?_, nearest_le h0 h1 ?_⟩
  · show Ieee.double.mul x y = _
    unfold Ieee.Format.mul
    rw [hx, hy]
    rfl
  · rcases hm with hm | ⟨a1, a2⟩
    · left; rw [hm, Nat.zero_mul]
    · rcases hn with hn | ⟨b1, b2⟩
      · left; rw [hn, Nat.mul_zero]
      · right
        refine ⟨by omega, ?_⟩
        have := Nat.mul_le_mul a2 b2
        rw [← Nat.pow_add] at this
        rw [show (k + l - (i + j)).toNat = (k - i).toNat + (l - j).toNat by omega]
        exact this
theorem fadd_le {x y : Nat} {k l t : Int} (hx : FLe x k) (hy : FLe y l) (hk : k < t) (hl : l < t) (h0 : -1000 ≤ t) (h1 : t ≤ 900) : ∃ b, floatBits .add .f64 x y = some b ∧ FLe b t := by
  obtain ⟨m, i, hx, hm⟩ := hx
  obtain ⟨n, j, hy, hn⟩ := hy
  refine ⟨Ieee.double.nearest false (m * 2 ^ (i - min i j).toNat + n * 2 ^ (j - min i j).toNat) (min i j), ?_, nearest_le h0 h1 ?_⟩
  · show Ieee.double.add x y = _
    unfold Ieee.Format.add
    rw [hx, hy]
    simp only [Ieee.Datum.sum, Ieee.signed, Nat.shiftLeft_eq, Bool.false_eq_true, if_false, Option.map_some, Bool.and_self, Ieee.Format.write]
    congr 1
    generalize m * 2 ^ (i - min i j).toNat = a
    generalize n * 2 ^ (j - min i j).toNat = b
    have e1 : ((a : Int) + (b : Int)).natAbs = a + b := by omega
    have e2 : (if (a : Int) + (b : Int) = 0 then false else decide ((a : Int) + (b : Int) < 0)) = false := by
      split
      · rfl
      · simp; omega
    rw [e1, e2]
  · have p1 : m * 2 ^ (i - min i j).toNat = 0 ∨ (min i j ≤ k ∧ m * 2 ^ (i - min i j).toNat ≤ 2 ^ (k - min i j).toNat) := by
      rcases hm with hm | ⟨a1, a2⟩
      · left; rw [hm, Nat.zero_mul]
      · right
        have := Nat.mul_le_mul_right (2 ^ (i - min i j).toNat) a2
        rw [← Nat.pow_add] at this
        refine ⟨by omega, Nat.le_trans this (Nat.pow_le_pow_right (by decide) (by omega))⟩
    have p2 : n * 2 ^ (j - min i j).toNat = 0 ∨ (min i j ≤ l ∧ n * 2 ^ (j - min i j).toNat ≤ 2 ^ (l - min i j).toNat) := by
      rcases hn with hn | ⟨a1, a2⟩
      · left; rw [hn, Nat.zero_mul]
      · right
        have := Nat.mul_le_mul_right (2 ^ (j - min i j).toNat) a2
        rw [← Nat.pow_add] at this
        refine ⟨by omega, Nat.le_trans this (Nat.pow_le_pow_right (by decide) (by omega))⟩
    generalize m * 2 ^ (i - min i j).toNat = a at *
    generalize n * 2 ^ (j - min i j).toNat = b at *
    by_cases hab : a + b = 0
    · exact .inl hab
    · right
      have hb : min i j < t := by omega
      refine ⟨by omega, ?_⟩
      have e : 2 ^ (t - min i j).toNat = 2 * 2 ^ (t - 1 - min i j).toNat := by
        rw [show (t - min i j).toNat = (t - 1 - min i j).toNat + 1 by omega, Nat.pow_succ, Nat.mul_comm]
      have q1 : a ≤ 2 ^ (t - 1 - min i j).toNat := by
        rcases p1 with p | ⟨_, p⟩
        · rw [p]; exact Nat.zero_le _
        · exact Nat.le_trans p (Nat.pow_le_pow_right (by decide) (by omega))
      have q2 : b ≤ 2 ^ (t - 1 - min i j).toNat := by
        rcases p2 with p | ⟨_, p⟩
        · rw [p]; exact Nat.zero_le _
        · exact Nat.le_trans p (Nat.pow_le_pow_right (by decide) (by omega))
      omega
theorem fdiv_le {x y : Nat} {k l u : Int} (hx : FLe x k) (hy : FIn y l u) (h0 : -1000 ≤ k - l + 1) (h1 : k - l + 1 ≤ 900) : ∃ b, floatBits .quo .f64 x y = some b ∧ FLe b (k - l + 1) := by
  obtain ⟨m, i, hx, hm⟩ := hx
  obtain ⟨n, j, hy, hn, hg⟩ := hy
  have hn0 : n ≠ 0 := by have := hg.1; omega
  refine ⟨Ieee.double.nearest false (2 * (m * 2 ^ (54 + n.log2 - m.log2) / n) + (m * 2 ^ (54 + n.log2 - m.log2) % n != 0).toNat) (i - j - (54 + n.log2 - m.log2 : Nat) - 1), ?_, nearest_le h0 h1 ?_⟩
  · show Ieee.double.div x y = _
    unfold Ieee.Format.div
    rw [hx, hy]
    simp only [Ieee.Datum.quotient, if_neg hn0, Nat.shiftLeft_eq, Option.map_some, Ieee.Format.write]
    rfl
  · by_cases hm0 : m = 0
    · left; subst hm0; simp
    · rcases hm with hm | ⟨a1, a2⟩
      · exact absurd hm hm0
      · have hmore : n.log2 + 54 ≤ m.log2 + (54 + n.log2 - m.log2) := by omega
        generalize 54 + n.log2 - m.log2 = more at *
        have hD1 : 2 ^ (m.log2 + more) ≤ m * 2 ^ more := by rw [Nat.pow_add]; exact Nat.mul_le_mul_right _ (Nat.log2_self_le hm0)
        have hn1 := log_lt n
        have hnD : n ≤ m * 2 ^ more := by
          refine Nat.le_trans (Nat.le_of_lt hn1) (Nat.le_trans (Nat.pow_le_pow_right (by decide) ?_) hD1)
          omega
        have hD2 : m * 2 ^ more ≤ 2 ^ ((k - i).toNat + more) := by rw [Nat.pow_add]; exact Nat.mul_le_mul_right _ a2
        have hg2 := hg.2
        have hex : (l - j).toNat ≤ (k - i).toNat + more := by
          have := Nat.le_trans hg2 (Nat.le_trans hnD hD2)
          exact (Nat.pow_le_pow_iff_right (a := 2) (by decide)).1 this
        have hq : m * 2 ^ more / n ≤ 2 ^ ((k - i).toNat + more - (l - j).toNat) := by
          refine Nat.div_le_of_le_mul ?_
          refine Nat.le_trans hD2 ?_
          rw [show (k - i).toNat + more = (l - j).toNat + ((k - i).toNat + more - (l - j).toNat) by omega, Nat.pow_add]
          have e3 : (l - j).toNat + ((k - i).toNat + more - (l - j).toNat) - (l - j).toNat = (k - i).toNat + more - (l - j).toNat := by omega
          rw [e3]
          exact Nat.mul_le_mul_right _ hg2
        have hq1 : 1 ≤ m * 2 ^ more / n := by rw [Nat.le_div_iff_mul_le (Nat.pos_of_ne_zero hn0)]; omega
        have hb : ∀ b : Bool, b.toNat ≤ 1 := fun b => by cases b <;> simp
        have hb1 := hb (m * 2 ^ more % n != 0)
        generalize (m * 2 ^ more % n != 0).toNat = c at *
        generalize m * 2 ^ more / n = Q at *
        right
        by_cases hlj : j ≤ l
        · refine ⟨by omega, ?_⟩
          have e4 : (k - l + 1 - (i - j - (more : Int) - 1)).toNat = ((k - i).toNat + more - (l - j).toNat) + 2 := by omega
          rw [e4, Nat.pow_succ, Nat.pow_succ]
          omega
        · refine ⟨by omega, ?_⟩
          have e5 : (l - j).toNat = 0 := by omega
          rw [e5] at hq
          have e4 : (k - i).toNat + more - 0 + 2 ≤ (k - l + 1 - (i - j - (more : Int) - 1)).toNat := by omega
          refine Nat.le_trans ?_ (Nat.pow_le_pow_right (by decide) e4)
          rw [Nat.pow_succ, Nat.pow_succ]
          omega
theorem ftoU64 {x : Nat} {k : Nat} (hx : FLe x k) (hk : k ≤ 63) : ∃ n : Int, floatToIntVal .f64 x .u64 = some n ∧ 0 ≤ n ∧ n ≤ 9223372036854775808 := by
  obtain ⟨m, e, hx, hm⟩ := hx
  have h1 : (FloatKind.f64.decode x).toInt .zero = some ((Ieee.Toward.zero.cut false (m * 2 ^ e.toNat) (-e).toNat : Nat) : Int) := by
    show (Ieee.double.read x).toInt .zero = _
    rw [hx]
    simp only [Ieee.Datum.toInt, Ieee.Datum.integral, Ieee.signed, Nat.shiftLeft_eq, Bool.false_eq_true, if_false, Nat.pow_zero, Nat.mul_one]
  have h2 : Ieee.Toward.zero.cut false (m * 2 ^ e.toNat) (-e).toNat ≤ 2 ^ k := by
    refine cutz_le ?_
    rcases hm with hm | ⟨a1, a2⟩
    · rw [hm, Nat.zero_mul]; exact Nat.zero_le _
    · have := Nat.mul_le_mul_right (2 ^ e.toNat) a2
      rw [← Nat.pow_add] at this
      exact Nat.le_trans this (Nat.pow_le_pow_right (by decide) (by omega))
  have h3 : 2 ^ k ≤ 2 ^ 63 := Nat.pow_le_pow_right (by decide) hk
  generalize Ieee.Toward.zero.cut false (m * 2 ^ e.toNat) (-e).toNat = c at *
  refine ⟨(c : Int), ?_, by omega, by omega⟩
  unfold floatToIntVal
  rw [h1]
  have e1 : IntKind.u64.min = 0 := by decide
  have e2 : IntKind.u64.max = 18446744073709551615 := by decide
  simp only [e1, e2]
  rw [if_pos (by omega)]
end Sx
