/- A part of the proof of PolyReadsSaid: texts SxVarsP SxRatV SxPoly. -/
import Derived.Lib.SlicesCompact
import Derived.Test.YtlnpmgmpakjhgaaGreatSxAU
set_option linter.all false
section
namespace Sx

def insL : List Int → Int → List Int
  | [], v => [v]
  | x :: r, v => if x < v then x :: insL r v else if x = v then x :: r else v :: x :: r
theorem insL_mem {y v : Int} : ∀ {l : List Int}, y ∈ insL l v ↔ y = v ∨ y ∈ l
  | [] => by simp [insL]
  | x :: r => by
    have ih := @insL_mem y v r
    unfold insL
    split
    · rw [List.mem_cons, ih, List.mem_cons]
      exact or_left_comm
    · split
      · rename_i h; subst h; simp
      · simp
theorem insL_asc {v : Int} : ∀ {l : List Int}, l.Pairwise (· < ·) → (insL l v).Pairwise (· < ·)
  | [], _ => by simp [insL]
  | x :: r, h => by
    obtain ⟨h1, h2⟩ := List.pairwise_cons.1 h
    unfold insL
    split
    · rename_i hx
      refine List.pairwise_cons.2 ⟨fun y hy => ?_, insL_asc h2⟩
      rcases insL_mem.1 hy with rfl | hy
      · exact hx
      · exact h1 y hy
    · split
      · exact h
      · rename_i h3 h4
        refine List.pairwise_cons.2 ⟨fun y hy => ?_, h⟩
        rcases List.mem_cons.1 hy with rfl | hy
        · omega
        · have := h1 y hy; omega
theorem insL_at {v : Int} : ∀ {l : List Int} {k : Nat}, k ≤ l.length → (∀ i : Nat, i < k → l.getD i 0 < v) → (k < l.length → v < l.getD k 0) → insL l v = l.take k ++ v :: l.drop k
  | [], k, hk, _, _ => by simp [insL]
  | x :: r, 0, hk, _, h2 => by
    have hx := h2 (by simp)
    simp at hx
    unfold insL
    rw [if_neg (by omega), if_neg (by omega)]
    rfl
  | x :: r, k + 1, hk, h1, h2 => by
    have hx := h1 0 (by omega)
    simp at hx
    unfold insL
    rw [if_pos hx, insL_at (l := r) (k := k) (by simpa using hk) (fun i hi => by simpa using h1 (i + 1) (by omega)) (fun h => by simpa using h2 (by simpa using h))]
    rfl
theorem insL_same {v : Int} : ∀ {l : List Int} {k : Nat}, k < l.length → (∀ i : Nat, i < k → l.getD i 0 < v) → l.getD k 0 = v → insL l v = l
  | [], k, hk, _, _ => by simp at hk
  | x :: r, 0, hk, _, h2 => by
    simp at h2
    unfold insL
    rw [if_neg (by omega), if_pos h2]
  | x :: r, k + 1, hk, h1, h2 => by
    have hx := h1 0 (by omega)
    simp at hx
    unfold insL
    rw [if_pos hx, insL_same (l := r) (k := k) (by simpa using hk) (fun i hi => by simpa using h1 (i + 1) (by omega)) (by simpa using h2)]
theorem asc_ext : ∀ {l l' : List Int}, l.Pairwise (· < ·) → l'.Pairwise (· < ·) → (∀ x, x ∈ l ↔ x ∈ l') → l = l'
  | [], [], _, _, _ => rfl
  | [], y :: r, _, _, h => by have := (h y).2 (by simp); simp at this
  | x :: r, [], _, _, h => by have := (h x).1 (by simp); simp at this
  | x :: r, y :: s, h1, h2, h => by
    obtain ⟨a1, a2⟩ := List.pairwise_cons.1 h1
    obtain ⟨b1, b2⟩ := List.pairwise_cons.1 h2
    have e : x = y := by
      have p := (h x).1 (by simp)
      have q := (h y).2 (by simp)
      rcases List.mem_cons.1 p with p | p
      · exact p
      · rcases List.mem_cons.1 q with q | q
        · exact q.symm
        · have := b1 x p; have := a1 y q; omega
    subst e
    rw [asc_ext a2 b2 (fun z => ?_)]
    have hz := h z
    rw [List.mem_cons, List.mem_cons] at hz
    constructor
    · intro hm
      rcases hz.1 (.inr hm) with e | e
      · subst e; have := a1 z hm; omega
      · exact e
    · intro hm
      rcases hz.2 (.inr hm) with e | e
      · subst e; have := b1 z hm; omega
      · exact e
def insAll (l : List Int) (zs : List Int) : List Int := zs.foldl insL l
theorem insAll_mem {y : Int} : ∀ {zs l : List Int}, y ∈ insAll l zs ↔ y ∈ zs ∨ y ∈ l
  | [], l => by simp [insAll]
  | z :: zs, l => by
    show y ∈ insAll (insL l z) zs ↔ _
    rw [insAll_mem, insL_mem, List.mem_cons]
    constructor
    · rintro (h | h | h)
      · exact .inl (.inr h)
      · exact .inl (.inl h)
      · exact .inr h
    · rintro ((h | h) | h)
      · exact .inr (.inl h)
      · exact .inl h
      · exact .inr (.inr h)
theorem insAll_asc : ∀ {zs l : List Int}, l.Pairwise (· < ·) → (insAll l zs).Pairwise (· < ·)
  | [], l, h => h
  | z :: zs, l, h => insAll_asc (zs := zs) (insL_asc h)
theorem compact_len (zs : List Int) : (Go.Lib.compact zs).length ≤ zs.length := by
  unfold Go.Lib.compact Go.Lib.compactUpTo
  rw [List.length_map]
  have := List.length_filter_le (Go.Lib.keeps zs.toArray) (List.range zs.length)
  simpa using this
theorem compact_spec (d : Array Int) : ∀ m : Nat, m ≤ d.size → (∀ i j : Nat, i ≤ j → j < m → d[i]! ≤ d[j]!) →
    (Go.Lib.compactUpTo d m).Pairwise (· < ·) ∧ (∀ x, x ∈ Go.Lib.compactUpTo d m ↔ ∃ i, i < m ∧ d[i]! = x) ∧ (∀ x ∈ Go.Lib.compactUpTo d m, x ≤ d[m - 1]!)
  | 0, _, _ => by simp [Go.Lib.compactUpTo]
  | m + 1, hm, hs => by
    obtain ⟨h1, h2, h3⟩ := compact_spec d m (by omega) (fun i j hij hj => hs i j hij (by omega))
    rw [Go.Lib.compactUpTo_succ]
    by_cases hk : Go.Lib.keeps d m = true
    · rw [if_pos hk]
      have hlt : ∀ x ∈ Go.Lib.compactUpTo d m, x < d[m]! := by
        intro x hx
        have hx2 := h3 x hx
        unfold Go.Lib.keeps at hk
        rw [decide_eq_true_eq] at hk
        rcases hk with rfl | hk
        · simp [Go.Lib.compactUpTo] at hx
        · have := hs (m - 1) m (by omega) (by omega)
          omega
      refine ⟨List.pairwise_append.2 ⟨h1, by simp, fun x hx y hy => ?_⟩, fun x => ?_, fun x hx => ?_⟩
      · simp at hy; subst hy; exact hlt x hx
      · rw [List.mem_append, h2, List.mem_singleton]
        constructor
        · rintro (⟨i, hi, e⟩ | e)
          · exact ⟨i, by omega, e⟩
          · exact ⟨m, by omega, e.symm⟩
        · rintro ⟨i, hi, e⟩
          by_cases him : i = m
          · subst him; exact .inr e.symm
          · exact .inl ⟨i, by omega, e⟩
      · rw [Nat.add_sub_cancel]
        rcases List.mem_append.1 hx with hx | hx
        · have := hlt x hx; omega
        · simp at hx; omega
    · rw [if_neg hk, List.append_nil]
      have hk2 : 0 < m ∧ d[m]! = d[m - 1]! := by
        unfold Go.Lib.keeps at hk
        rw [decide_eq_true_eq] at hk
        refine ⟨?_, ?_⟩
        · rcases Nat.eq_zero_or_pos m with h | h
          · exact absurd (.inl h) hk
          · exact h
        · by_cases h : d[m]! = d[m - 1]!
          · exact h
          · exact absurd (.inr h) hk
      refine ⟨h1, fun x => ?_, fun x hx => ?_⟩
      · rw [h2]
        constructor
        · rintro ⟨i, hi, e⟩
          exact ⟨i, by omega, e⟩
        · rintro ⟨i, hi, e⟩
          by_cases him : i = m
          · subst him
            exact ⟨i - 1, by omega, by rw [← hk2.2]; exact e⟩
          · exact ⟨i, by omega, e⟩
      · rw [Nat.add_sub_cancel, hk2.2]
        exact h3 x hx

theorem sort_compact (zs : List Int) : Go.Lib.compact (zs.mergeSort fun x y => decide (x ≤ y)) = insAll [] zs := by
  have hsorted := List.pairwise_mergeSort (le := fun x y : Int => decide (x ≤ y)) (fun a b c h1 h2 => by simp at h1 h2 ⊢; omega) (fun a b => by simp; omega) zs
  have hmem : ∀ x, x ∈ (zs.mergeSort fun x y => decide (x ≤ y)) ↔ x ∈ zs := fun x => List.mem_mergeSort
  generalize (zs.mergeSort fun x y => decide (x ≤ y)) = l at *
  have hs : ∀ i j : Nat, i ≤ j → j < l.toArray.size → l.toArray[i]! ≤ l.toArray[j]! := by
    intro i j hij hj
    have hj' : j < l.length := by simpa using hj
    rcases Nat.lt_or_ge i j with h | h
    · have := List.pairwise_iff_getElem.1 hsorted i j (by omega) hj' h
      simp at this
      rw [getElem!_pos l.toArray i (by simp; omega), getElem!_pos l.toArray j (by simpa using hj')]
      simpa using this
    · have : i = j := by omega
      subst this
      exact Int.le_refl _
  obtain ⟨h1, h2, _⟩ := compact_spec l.toArray l.length (by simp) (fun i j a b => hs i j a (by simpa using b))
  refine asc_ext h1 (insAll_asc (by simp)) (fun x => ?_)
  show x ∈ Go.Lib.compactUpTo l.toArray l.length ↔ _
  rw [h2, insAll_mem, ← hmem]
  constructor
  · rintro ⟨i, hi, rfl⟩
    rw [getElem!_pos l.toArray i (by simpa using hi)]
    simp
  · rintro (h | h)
    · obtain ⟨i, hi, e⟩ := List.getElem_of_mem h
      refine ⟨i, hi, ?_⟩
      rw [getElem!_pos l.toArray i (by simpa using hi)]
      simpa using e
    · simp at h
theorem ins_getD (zs : List Int) (v : Int) {k i : Nat} (hk : k ≤ zs.length) : (zs.take k ++ v :: zs.drop k).getD i 0 = if i < k then zs.getD i 0 else if i = k then v else zs.getD (i - 1) 0 := by
  rw [List.getD_eq_getElem?_getD, List.getD_eq_getElem?_getD, List.getD_eq_getElem?_getD, List.getElem?_append]
  have hl : (zs.take k).length = k := by simp; omega
  rw [hl]
  by_cases h : i < k
  · rw [if_pos h, if_pos h, List.getElem?_take, if_pos h]
  · rw [if_neg h, if_neg h]
    by_cases h2 : i = k
    · subst h2; simp
    · rw [if_neg h2]
      obtain ⟨j, rfl⟩ : ∃ j, i = k + 1 + j := ⟨i - k - 1, by omega⟩
      rw [show k + 1 + j - k = j + 1 by omega, List.getElem?_cons_succ, List.getElem?_drop]
      congr 2
      omega
theorem ins_len (zs : List Int) (v : Int) {k : Nat} (hk : k ≤ zs.length) : (zs.take k ++ v :: zs.drop k).length = zs.length + 1 := by
  rw [List.length_append, List.length_cons, List.length_take, List.length_drop]
  omega
def rl (f : Int → Int) : Nat → List Int
  | 0 => []
  | n + 1 => rl f n ++ [f n]
def rl2 (nl : Int → Nat) (lv : Int → Int → Int) : Nat → List Int
  | 0 => []
  | n + 1 => rl2 nl lv n ++ rl (lv n) (nl n)
def rl3 (nf na : Int → Nat) (nl : Int → Int → Nat) (fv : Int → Int → Int) (lv : Int → Int → Int → Int) : Nat → List Int
  | 0 => []
  | n + 1 => rl3 nf na nl fv lv n ++ (rl (fv n) (nf n) ++ rl2 (nl n) (lv n) (na n))
theorem rl_len (f : Int → Int) : ∀ n, (rl f n).length = n
  | 0 => rfl
  | n + 1 => by rw [rl, List.length_append, rl_len f n]; rfl
theorem rl2_le {nl : Int → Nat} {lv : Int → Int → Int} {j : Nat} : ∀ {n : Nat}, j < n → (rl2 nl lv j).length + nl j ≤ (rl2 nl lv n).length
  | 0, h => by omega
  | n + 1, h => by
    rw [rl2, List.length_append, rl_len]
    by_cases e : j = n
    · subst e; omega
    · have := rl2_le (nl := nl) (lv := lv) (j := j) (n := n) (by omega)
      omega
theorem rl3_le {nf na : Int → Nat} {nl : Int → Int → Nat} {fv : Int → Int → Int} {lv : Int → Int → Int → Int} {k : Nat} : ∀ {n : Nat}, k < n → (rl3 nf na nl fv lv k).length + (nf k + (rl2 (nl k) (lv k) (na k)).length) ≤ (rl3 nf na nl fv lv n).length
  | 0, h => by omega
  | n + 1, h => by
    rw [rl3, List.length_append, List.length_append, rl_len]
    by_cases e : k = n
    · subst e; omega
    · have := rl3_le (nf := nf) (na := na) (nl := nl) (fv := fv) (lv := lv) (k := k) (n := n) (by omega)
      omega
theorem insL_len (v : Int) : ∀ l : List Int, (insL l v).length ≤ l.length + 1
  | [] => by simp [insL]
  | x :: r => by
    have := insL_len v r
    unfold insL
    split
    · simp; omega
    · split
      · simp
      · simp
theorem insAll_len : ∀ (zs l : List Int), (insAll l zs).length ≤ l.length + zs.length
  | [], l => by simp [insAll]
  | z :: zs, l => by
    have h1 := insAll_len zs (insL l z)
    have h2 := insL_len z l
    show (insAll (insL l z) zs).length ≤ _
    rw [List.length_cons]
    omega
theorem insAll_app (l a b : List Int) : insAll l (a ++ b) = insAll (insAll l a) b := by unfold insAll; rw [List.foldl_append]
theorem insAll_one (l a : List Int) (x : Int) : insAll l (a ++ [x]) = insL (insAll l a) x := by rw [insAll_app]; rfl
end Sx
end

section
namespace Sx
open Go

def sg (neg : Bool) (n : Nat) : Int := if neg = true then -(n : Int) else (n : Int)

structure Raw where
  neg : Bool
  n : Nat
  V : Int → Int
  m : Nat
  W : Int → Int
def Raw.val (a : Raw) : Rat := mkRat (sg a.neg (valN a.V a.n)) (valN a.W a.m)
def Raw.L (q : Qt) (a : Raw) : List T := [.bool a.neg, rowN q a.n a.V, rowN q a.m a.W]
structure Raw.Ok (a : Raw) (k : Nat) : Prop where
  hn : a.n ≤ k
  hm : a.m ≤ k
  hV : ∀ i : Nat, i < a.n → 0 ≤ a.V i ∧ a.V i < 4294967296
  hW : ∀ i : Nat, i < a.m → 0 ≤ a.W i ∧ a.W i < 4294967296

def ratL (q : Qt) (r : Rat) : List T := [.bool (q Bool fun _ => decide (r.num < 0)), natT q r.num.natAbs, natT q r.den]
def rlen (r : Rat) : Nat := max (len r.num.natAbs) (len r.den)
def Raw.of (r : Rat) : Raw := ⟨decide (r.num < 0), len r.num.natAbs, limb r.num.natAbs, len r.den, limb r.den⟩
theorem Raw.of_L (r : Rat) : (Raw.of r).L q0 = ratL q0 r := rfl
theorem Raw.of_ok (r : Rat) : (Raw.of r).Ok (rlen r) :=
  ⟨Nat.le_max_left _ _, Nat.le_max_right _ _, fun i _ => ⟨limb_nonneg _ _, by have := limb_lt r.num.natAbs i; show limb r.num.natAbs i < 4294967296; omega⟩, fun i _ => ⟨limb_nonneg _ _, by have := limb_lt r.den i; show limb r.den i < 4294967296; omega⟩⟩
theorem Raw.Ok.le {a : Raw} {k l : Nat} (h : a.Ok k) (hkl : k ≤ l) : a.Ok l := ⟨Nat.le_trans h.hn hkl, Nat.le_trans h.hm hkl, h.hV, h.hW⟩
theorem sg_num (r : Rat) : sg (decide (r.num < 0)) r.num.natAbs = r.num := by
  unfold sg
  by_cases h : r.num < 0
  · simp [h]; omega
  · simp [h]; omega
theorem Raw.of_val (r : Rat) : (Raw.of r).val = r := by
  unfold Raw.val Raw.of
  simp only [valN_len _ (Nat.le_refl _)]
  rw [sg_num, Rat.mkRat_self]

theorem valN_wide {V : Int → Int} : ∀ {n : Nat}, (∀ i : Nat, i < n → 0 ≤ V i ∧ V i < 4294967296) → valN V n < 5 * Bs ^ n
  | 0, _ => by simp [valN]
  | n + 1, h => by
    have h1 := valN_wide (n := n) (fun i hi => h i (by omega))
    have h2 := h n (by omega)
    have h3 : (V n).toNat ≤ 4294967295 := by omega
    have h4 := Nat.mul_le_mul_right (Bs ^ n) h3
    rw [valN, Nat.pow_succ]
    have e : Bs = 1000000000 := rfl
    generalize Bs ^ n = P at *
    generalize (V (n : Int)).toNat * P = t at *
    rw [e]
    omega
theorem len_wide {V : Int → Int} {n : Nat} (h : ∀ i : Nat, i < n → 0 ≤ V i ∧ V i < 4294967296) : len (valN V n) ≤ n + 1 := by
  refine len_le (Nat.lt_of_lt_of_le (valN_wide h) ?_)
  rw [Nat.pow_succ, Nat.mul_comm]
  exact Nat.mul_le_mul_left _ (by decide)
theorem sg_natAbs (b : Bool) (n : Nat) : (sg b n).natAbs = n := by
  unfold sg
  split <;> omega
theorem mk_den (b : Bool) (n : Nat) {d : Nat} (hd : d ≠ 0) : (mkRat (sg b n) d).den = d / Nat.gcd n d := by
  rw [Rat.den_mkRat, if_neg hd, sg_natAbs, Nat.gcd_comm]
theorem mk_num (b : Bool) (n : Nat) {d : Nat} (hd : d ≠ 0) : (mkRat (sg b n) d).num = sg b (n / Nat.gcd n d) := by
  rw [Rat.num_mkRat, if_neg hd, sg_natAbs, Nat.gcd_comm]
  unfold sg
  split
  · rw [Int.neg_ediv_of_dvd (Int.natCast_dvd_natCast.2 (Nat.gcd_dvd_left n d))]
    rfl
  · rfl
theorem mk_neg (b : Bool) {n d : Nat} (hn : n ≠ 0) (hd : d ≠ 0) : decide ((mkRat (sg b n) d).num < 0) = b := by
  rw [mk_num b n hd]
  have hg : 0 < n / Nat.gcd n d := Nat.div_pos (Nat.gcd_le_left d (Nat.pos_of_ne_zero hn)) (Nat.gcd_pos_of_pos_left _ (Nat.pos_of_ne_zero hn))
  generalize n / Nat.gcd n d = k at *
  unfold sg
  cases b
  · simp
  · simp; omega
theorem mk_abs (b : Bool) (n : Nat) {d : Nat} (hd : d ≠ 0) : (mkRat (sg b n) d).num.natAbs = n / Nat.gcd n d := by rw [mk_num b n hd, sg_natAbs]
theorem sg_zero (b : Bool) : sg b 0 = 0 := by cases b <;> rfl
theorem mk_zero (b : Bool) (d : Nat) : mkRat (sg b 0) d = 0 := by rw [sg_zero, Rat.zero_mkRat]
theorem sg_mul (b : Bool) (n m : Nat) : sg b (n * m) = sg b n * m := by
  unfold sg
  split
  · rw [Int.neg_mul]; simp
  · simp
theorem sg_mul_sg (b c : Bool) (n m : Nat) : sg (b != c) (n * m) = sg b n * sg c m := by
  unfold sg
  cases b <;> cases c <;> simp [Int.neg_mul, Int.mul_neg]
theorem add_same {b : Bool} {x y : Rat} (hx : decide (x.num < 0) = b) (hy : decide (y.num < 0) = b) : x + y = mkRat (sg b (x.num.natAbs * y.den + y.num.natAbs * x.den)) (x.den * y.den) := by
  have e1 := sg_num x
  have e2 := sg_num y
  rw [hx] at e1
  rw [hy] at e2
  rw [Rat.add_def', ← e1, ← e2, ← sg_mul, ← sg_mul, sg_natAbs, sg_natAbs]
  congr 1
  unfold sg
  split
  · simp; omega
  · simp
theorem add_less {b c : Bool} {x y : Rat} (hbc : b ≠ c) (hx : decide (x.num < 0) = b) (hy : decide (y.num < 0) = c) (h : y.num.natAbs * x.den ≤ x.num.natAbs * y.den) : x + y = mkRat (sg b (x.num.natAbs * y.den - y.num.natAbs * x.den)) (x.den * y.den) := by
  have e1 := sg_num x
  have e2 := sg_num y
  rw [hx] at e1
  rw [hy] at e2
  rw [Rat.add_def', ← e1, ← e2, ← sg_mul, ← sg_mul, sg_natAbs, sg_natAbs]
  congr 1
  generalize x.num.natAbs * y.den = s at *
  generalize y.num.natAbs * x.den = t at *
  unfold sg
  cases b <;> cases c <;> simp at hbc ⊢ <;> omega
theorem add_more {b c : Bool} {x y : Rat} (hbc : b ≠ c) (hx : decide (x.num < 0) = b) (hy : decide (y.num < 0) = c) (h : x.num.natAbs * y.den ≤ y.num.natAbs * x.den) : x + y = mkRat (sg c (y.num.natAbs * x.den - x.num.natAbs * y.den)) (x.den * y.den) := by
  rw [Rat.add_comm, add_less (Ne.symm hbc) hy hx h, Nat.mul_comm y.den]
theorem mul_mk (x y : Rat) : x * y = mkRat (sg (decide (x.num < 0) != decide (y.num < 0)) (x.num.natAbs * y.num.natAbs)) (x.den * y.den) := by
  rw [sg_mul_sg, sg_num, sg_num, Rat.mul_def']
theorem neg_sign (x : Rat) : decide ((-x).num < 0) = (!decide (x.num < 0) && decide (0 < (len x.num.natAbs : Int))) := by
  rw [Rat.neg_num]
  have h : 0 < (len x.num.natAbs : Int) ↔ x.num ≠ 0 := by
    have := @len_eq_zero x.num.natAbs
    omega
  by_cases h0 : x.num = 0
  · have h1 : ¬ (0 < (len x.num.natAbs : Int)) := fun h' => h.1 h' h0
    rw [decide_eq_false h1, h0]
    simp
  · rw [decide_eq_true (h.2 h0), Bool.and_true]
    by_cases h2 : x.num < 0
    · rw [decide_eq_true h2, decide_eq_false (by omega)]; rfl
    · rw [decide_eq_false h2, decide_eq_true (by omega)]; rfl
theorem rlen_mk (z : Int) {d k : Nat} (hz : z.natAbs < Bs ^ k) (hd : d < Bs ^ k) (hk : 0 < k) : rlen (mkRat z d) ≤ k := by
  have hone : len 1 ≤ k := len_le (by
    have h := Nat.pow_le_pow_right Bs_pos (show 1 ≤ k from hk)
    rw [Nat.pow_one] at h
    have e : Bs = 1000000000 := rfl
    omega)
  unfold rlen
  rw [Rat.num_mkRat, Rat.den_mkRat]
  split
  · refine Nat.max_le.2 ⟨?_, hone⟩
    simp [len_zero]
  · refine Nat.max_le.2 ⟨?_, len_le (Nat.lt_of_le_of_lt (Nat.div_le_self _ _) hd)⟩
    refine len_le (Nat.lt_of_le_of_lt ?_ hz)
    exact Int.natAbs_ediv_le_natAbs z _
theorem lt_rlen_num (r : Rat) {k : Nat} (h : rlen r ≤ k) : r.num.natAbs < Bs ^ k := len_le_iff.1 (Nat.le_trans (Nat.le_max_left _ _) h)
theorem lt_rlen_den (r : Rat) {k : Nat} (h : rlen r ≤ k) : r.den < Bs ^ k := len_le_iff.1 (Nat.le_trans (Nat.le_max_right _ _) h)
theorem rlen_pos (r : Rat) : 0 < rlen r := Nat.lt_of_lt_of_le (len_pos r.den_nz) (Nat.le_max_right _ _)
theorem rlen_add (x y : Rat) : rlen (x + y) ≤ rlen x + rlen y + 1 := by
  rw [Rat.add_def']
  have h1 := lt_rlen_num x (Nat.le_refl _)
  have h2 := lt_rlen_den x (Nat.le_refl _)
  have h3 := lt_rlen_num y (Nat.le_refl _)
  have h4 := lt_rlen_den y (Nat.le_refl _)
  have e : Bs ^ (rlen x + rlen y + 1) = Bs ^ rlen x * Bs ^ rlen y * Bs := by rw [Nat.pow_succ, Nat.pow_add]
  have p1 : x.num.natAbs * y.den < Bs ^ rlen x * Bs ^ rlen y := Nat.mul_lt_mul'' h1 h4
  have p2 : y.num.natAbs * x.den < Bs ^ rlen x * Bs ^ rlen y := by rw [Nat.mul_comm (Bs ^ rlen x)]; exact Nat.mul_lt_mul'' h3 h2
  have p3 : x.den * y.den < Bs ^ rlen x * Bs ^ rlen y := Nat.mul_lt_mul'' h2 h4
  have e2 : Bs = 1000000000 := rfl
  refine rlen_mk _ ?_ ?_ (by omega)
  · rw [e]
    have q1 := Int.natAbs_add_le (x.num * (y.den : Int)) (y.num * (x.den : Int))
    rw [Int.natAbs_mul, Int.natAbs_mul, Int.natAbs_natCast, Int.natAbs_natCast] at q1
    generalize Bs ^ rlen x * Bs ^ rlen y = P at *
    rw [e2]
    omega
  · rw [e]
    generalize Bs ^ rlen x * Bs ^ rlen y = P at *
    rw [e2]
    omega
theorem rlen_mul (x y : Rat) : rlen (x * y) ≤ rlen x + rlen y := by
  rw [Rat.mul_def']
  have h1 := lt_rlen_num x (Nat.le_refl _)
  have h2 := lt_rlen_den x (Nat.le_refl _)
  have h3 := lt_rlen_num y (Nat.le_refl _)
  have h4 := lt_rlen_den y (Nat.le_refl _)
  have := rlen_pos x
  refine rlen_mk _ ?_ ?_ (by omega)
  · rw [Nat.pow_add, Int.natAbs_mul]; exact Nat.mul_lt_mul'' h1 h3
  · rw [Nat.pow_add]; exact Nat.mul_lt_mul'' h2 h4
theorem rlen_neg (x : Rat) : rlen (-x) = rlen x := by
  unfold rlen
  rw [Rat.neg_num, Rat.neg_den, Int.natAbs_neg]
theorem rlen_raw {a : Raw} {k : Nat} (h : a.Ok k) : rlen a.val ≤ k + 1 := by
  unfold Raw.val
  refine rlen_mk _ ?_ ?_ (by omega)
  · rw [sg_natAbs]
    exact len_le_iff.1 (Nat.le_trans (len_wide h.hV) (by have := h.hn; omega))
  · exact len_le_iff.1 (Nat.le_trans (len_wide h.hW) (by have := h.hm; omega))
end Sx
end

section
namespace Sx
open Go

abbrev lenB : Nat := 9223372036854775807
inductive Ix where
  | leaf
  | mk (num : Int) (n : Nat) (kid : Int → Ix)
def Ix.num : Ix → Int
  | .leaf => 0
  | .mk a _ _ => a
def Ix.n : Ix → Nat
  | .leaf => 0
  | .mk _ n _ => n
def Ix.kid : Ix → Int → Ix
  | .leaf => fun _ => .leaf
  | .mk _ _ k => k

def Ix.T : Ix → Sx.T
  | .leaf => .sl 2 (0 : Nat) (fun _ => [.int .i64 0, .bool false])
  | .mk _ n k => .sl 2 n (fun i => [.int .i64 (k i).num, (k i).T])
def Ix.L (x : Ix) : List Sx.T := [.int .i64 x.num, x.T]
def Ix.Ok : Ix → Prop
  | .leaf => True
  | .mk _ n k => n ≤ lenB ∧ ∀ i : Nat, i < n → (k i).Ok
theorem Ix.form (x : Ix) : ∃ (A : Int → Int) (B : Int → Sx.T), x.L = [.int .i64 x.num, .sl 2 (x.n : Int) (fun i => [.int .i64 (A i), B i])] ∧ ∀ i : Nat, i < x.n → A i = (x.kid i).num ∧ B i = (x.kid i).T := by
  cases x with
  | leaf => exact ⟨fun _ => 0, fun _ => .bool false, rfl, fun i hi => absurd hi (Nat.not_lt_zero i)⟩
  | mk a n k => exact ⟨fun i => (k i).num, fun i => (k i).T, rfl, fun i _ => ⟨rfl, rfl⟩⟩
theorem Ix.ok {x : Ix} (h : x.Ok) : x.n ≤ lenB ∧ ∀ i : Nat, i < x.n → (x.kid i).Ok := by
  cases x with
  | leaf => exact ⟨Nat.zero_le _, fun i hi => absurd hi (Nat.not_lt_zero i)⟩
  | mk a n k => exact h
structure LTm where
  var : Int
  coef : Int
structure Ln where
  const : Int
  n : Nat
  tm : Int → LTm
structure Fct where
  var : Int
  ix : Ix
structure Atm where
  lin : Ln
  deg : Int
structure Mon where
  nf : Nat
  fc : Int → Fct
  na : Nat
  am : Int → Atm
structure Trm where
  coef : Raw
  mono : Mon
def LTm.L (t : LTm) : List T := [.int .i64 t.var, .int .i64 t.coef]
def Ln.L (l : Ln) : List T := [.int .i64 l.const, .sl 2 l.n (fun i => (l.tm i).L)]
def Fct.L (f : Fct) : List T := .int .i64 f.var :: f.ix.L
def Atm.L (a : Atm) : List T := a.lin.L ++ [.int .i64 a.deg]
def Mon.L (m : Mon) : List T := [.sl 3 m.nf (fun i => (m.fc i).L), .sl 3 m.na (fun i => (m.am i).L)]
def Ln.Ok (l : Ln) : Prop := l.n ≤ lenB
structure Mon.Ok (m : Mon) : Prop where
  nf : m.nf ≤ lenB
  na : m.na ≤ lenB
  fc : ∀ i : Nat, i < m.nf → (m.fc i).ix.Ok
  am : ∀ i : Nat, i < m.na → (m.am i).lin.Ok

def cmpZ (a b : Int) : Int := if a < b then -1 else if b < a then 1 else 0
def or2 (a b : Int) : Int := if a ≠ 0 then a else b
def lexI : Nat → (Int → Int) → Int
  | 0, _ => 0
  | n + 1, f => or2 (lexI n f) (f n)
def cmpIx : Ix → Ix → Int
  | .leaf, y => or2 (or2 (cmpZ 0 y.num) (cmpZ (0 : Nat) y.n)) 0
  | .mk a n k, y => or2 (or2 (cmpZ a y.num) (cmpZ n y.n)) (lexI n (fun i => cmpIx (k i) (y.kid i)))
def cmpLT (s t : LTm) : Int := or2 (cmpZ s.var t.var) (cmpZ s.coef t.coef)
def cmpLn (l m : Ln) : Int := or2 (cmpZ l.n m.n) (or2 (lexI l.n (fun i => cmpLT (l.tm i) (m.tm i))) (cmpZ l.const m.const))
def cmpFct (f g : Fct) : Int := or2 (cmpZ f.var g.var) (cmpIx f.ix g.ix)
def cmpAtm (a b : Atm) : Int := or2 (cmpLn a.lin b.lin) (cmpZ a.deg b.deg)
def cmpMon (m k : Mon) : Int := or2 (cmpZ m.nf k.nf) (or2 (or2 (lexI m.nf (fun i => cmpFct (m.fc i) (k.fc i))) (cmpZ m.na k.na)) (lexI m.na (fun i => cmpAtm (m.am i) (k.am i))))
theorem or2_zero (b : Int) : or2 0 b = b := by unfold or2; simp
theorem or2_ne {a : Int} (h : a ≠ 0) (b : Int) : or2 a b = a := by unfold or2; rw [if_pos h]
theorem lexI_stop {f : Int → Int} {k : Nat} (h : lexI k f ≠ 0) : ∀ {n : Nat}, k ≤ n → lexI n f = lexI k f
  | 0, hk => by have : k = 0 := by omega
                subst this; rfl
  | n + 1, hk => by
    by_cases e : k = n + 1
    · rw [e]
    · have ih := lexI_stop h (n := n) (by omega)
      rw [lexI, ih, or2_ne h]
theorem lexI_at {f : Int → Int} {k n : Nat} (h : lexI k f = 0) (hf : f k ≠ 0) (hk : k < n) : lexI n f = f k := by
  have e : lexI (k + 1) f = f k := by rw [lexI, h, or2_zero]
  rw [← e]
  exact lexI_stop (by rw [e]; exact hf) hk
theorem lexI_congr {f g : Int → Int} : ∀ {n : Nat}, (∀ i : Nat, i < n → f i = g i) → lexI n f = lexI n g
  | 0, _ => rfl
  | n + 1, h => by rw [lexI, lexI, lexI_congr (fun i hi => h i (by omega)), h n (by omega)]
end Sx
end
