/- A part of the proof of PolyReadsSaid: texts SxN. -/
import Derived.Test.YtlnpmgmpakjhgaaGreatSxAI
set_option linter.all false
namespace Sx
open Go
variable {P : Program} {C : Ctx} {τ : TypeId → Option TI} {CN : CNt}

def Ent (P : Program) (g : FuncId) : Prop := ∃ fn, P.funcs[g]? = some fn ∧ fn.body.isSome = true ∧ (fn.name == "runtime.NumGoroutine") = false

def RdAs (w : World) (X : Nat → Prop) (M : Mp) (xs : List AV) (vs : List Value) : Prop := xs.length = vs.length ∧ ∀ (j : Nat) (x : AV) (v : Value), xs[j]? = some x → vs[j]? = some v → RdA w X M x v

def CallN (P : Program) (g : FuncId) (args : List AV) (H : List Blk) (K : AV → List Blk → Prop) : Prop :=
  Ent P g ∧ ∀ (C : Ctx) (w : World) (M : Mp) (X : Nat → Prop) (vs : List Value), Inv C H w M X → RdAs w X M args vs →
    Calls P g vs.toArray w fun e w' => ∃ u v h M' X', e = .returned u ∧ Inv C h w' M' X' ∧ Same w w' X ∧ (∀ b, X b → X' b) ∧ Ext M M' ∧ RdA w' X' M' v u ∧ H.length ≤ h.length ∧ (∀ j, getB H j = .res → getB h j = .res) ∧ K v h

inductive RdV (w : World) (X : Nat → Prop) : TV → Value → Prop
  | one {t : T} {v : Value} : RdT w X t v → RdV w X (.one t) v
  | agg {ts : List T} {cs : Array Value} : ts.length = cs.size → (∀ (j : Nat) (t : T) (v : Value), ts[j]? = some t → cs[j]? = some v → RdT w X t v) → RdV w X (.agg ts) (.agg cs)
  | tup {xs : List TV} {vs : Array Value} : xs.length = vs.size → (∀ (j : Nat) (x : TV) (v : Value), xs[j]? = some x → vs[j]? = some v → RdV w X x v) → RdV w X (.tup xs) (.tuple vs)
theorem RdV.mono {w w' : World} {X X' : Nat → Prop} (h : Same w w' X) (hx : ∀ b, X b → X' b) {x : TV} {v : Value} (hr : RdV w X x v) : RdV w' X' x v := by
  induction hr with
  | one a => exact .one (a.mono h hx)
  | agg a b => exact .agg a (fun j t v h1 h2 => (b j t v h1 h2).mono h hx)
  | tup a _ ih => exact .tup a ih
def RdVs (w : World) (X : Nat → Prop) (xs : List TV) (vs : List Value) : Prop := xs.length = vs.length ∧ ∀ (j : Nat) (x : TV) (v : Value), xs[j]? = some x → vs[j]? = some v → RdV w X x v

def PureC (P : Program) (g : FuncId) (args : List TV) (R : TV → Prop) : Prop :=
  Ent P g ∧ ∀ (w : World) (X : Nat → Prop) (vs : List Value), (∀ b, X b → b < w.heap.size) → RdVs w X args vs →
    Calls P g vs.toArray w fun e w' => ∃ u r, e = .returned u ∧ R r ∧ Go.RowKit.Below w.heap.size w w' ∧ RdV w' (fun b => X b ∨ (w.heap.size ≤ b ∧ b < w'.heap.size)) r u

theorem PureC.mono {g : FuncId} {args : List TV} {R R' : TV → Prop} (h : PureC P g args R) (hr : ∀ r, R r → R' r) : PureC P g args R' :=
  ⟨h.1, fun w X vs hX hv => (h.2 w X vs hX hv).mono fun e w' ⟨u, r, a, b, c, d⟩ => ⟨u, r, a, hr r b, c, d⟩⟩

theorem ofTVs_eq : ∀ xs : List TV, ofTVs xs = xs.map ofTV
  | [] => rfl
  | x :: r => by simp [ofTVs, ofTVs_eq r]
theorem RdV.toA {w : World} {X : Nat → Prop} {M : Mp} {x : TV} {v : Value} (h : RdV w X x v) : RdA w X M (ofTV x) v := by
  induction h with
  | one a => exact .one (.t a)
  | agg a b =>
    rename_i ts cs
    refine .agg ⟨by simp [a], fun j l v hl hv => ?_⟩
    simp only [List.getElem?_map, Option.map_eq_some_iff] at hl
    obtain ⟨t, ht, rfl⟩ := hl
    exact .t (b j t v ht (by simpa using hv))
  | tup a _ ih =>
    rename_i xs vs _
    simp only [ofTV]
    refine .tup (by rw [ofTVs_eq]; simp [a]) (fun j y v hy hv => ?_)
    rw [ofTVs_eq] at hy
    simp only [List.getElem?_map, Option.map_eq_some_iff] at hy
    obtain ⟨x, hx, rfl⟩ := hy
    exact ih j x v hx hv

section
variable {w : World} {M : Mp} {X : Nat → Prop} {H : List Blk}
theorem to1_rd (hI : Inv C H w M X) {x : AV} {v : Value} {t : TV} (h : RdA w X M x v) (ht : to1 H x = some t) : RdV w X t v := by
  cases x with
  | one l =>
    simp only [to1] at ht
    split at ht
    · rename_i t' ht'
      cases ht
      cases h with | one h => exact .one (toT_rd hI h ht')
    · cases ht
  | agg ls =>
    simp only [to1] at ht
    split at ht
    · rename_i ts hts
      cases ht
      cases h with | agg h =>
      obtain ⟨a, b⟩ := toTs_rd hI h hts
      exact .agg (by simpa using a) (fun j t v h1 h2 => b j t v h1 (by simpa using h2))
    · cases ht
  | tup xs => simp only [to1] at ht; cases ht
theorem tos_rd (hI : Inv C H w M X) : ∀ {xs : List AV} {vs : List Value} {ts : List TV}, RdAs w X M xs vs → tos H xs = some ts → RdVs w X ts vs
  | [], vs, ts, h, ht => by
    simp only [tos, Option.some.injEq] at ht
    subst ht
    exact ⟨h.1, fun j x v hj => by simp at hj⟩
  | x :: xs, vs, ts, h, ht => by
    simp only [tos] at ht
    split at ht
    · rename_i t ht1
      split at ht
      · rename_i ts' ht2
        cases ht
        cases vs with
        | nil => have := h.1; simp at this
        | cons v vs =>
          have h' : RdAs w X M xs vs := ⟨by have := h.1; simpa using this, fun j l u hl hu => h.2 (j + 1) l u (by simpa using hl) (by simpa using hu)⟩
          obtain ⟨e, r⟩ := tos_rd hI h' ht2
          refine ⟨by simp [e], fun j t' u hj hu => ?_⟩
          cases j with
          | zero => simp at hj hu; subst hj; subst hu; exact to1_rd hI (h.2 0 x v rfl rfl) ht1
          | succ j => exact r j t' u (by simpa using hj) (by simpa using hu)
      · cases ht
    · cases ht

theorem Inv.after (hI : Inv C H w M X) {w' : World} (hb : Go.RowKit.Below w.heap.size w w') : Inv C H w' M (fun b => X b ∨ (w.heap.size ≤ b ∧ b < w'.heap.size)) ∧ Same w w' X ∧ Same w w' (fun b => b < w.heap.size) := by
  have hs : Same w w' X := fun b hx => hb.block b (hI.xlt b hx)
  refine ⟨⟨hb.os.trans hI.os, hb.tape.trans hI.tape, hb.output.trans hI.output, Nat.le_trans hI.size hb.size, fun b h1 h2 => ?_, fun b hx => ?_, fun b hx => ?_, fun b hx => .inl (hI.x0 b hx), hI.mlen, hI.pin, fun j p hj hl => ?_, hI.inj, fun j p hj => ?_⟩, hs, fun b hx => hb.block b hx⟩
  · rw [hb.block b (by have := hI.size; omega)]; exact hI.frame b h1 h2
  · rcases hx with hx | hx
    · have := hI.xlt b hx; have := hb.size; omega
    · exact hx.2
  · rcases hx with hx | hx
    · exact hI.xsub b hx
    · exact .inr (.inl (by have := hI.size; omega))
  · obtain ⟨a, b, c⟩ := hI.live j p hj hl
    refine ⟨a, by have := hb.size; omega, fun hx => ?_⟩
    rcases hx with hx | hx
    · exact c hx
    · omega
  · refine (hI.blk j p hj).mono hs (fun b hx => .inl hx) (Ext.refl M) (fun pl hpl hl => ?_)
    subst hpl
    exact hb.block _ (hI.live j pl hj hl).2.1

theorem CallN.pure {g : FuncId} {args : List AV} {K : AV → List Blk → Prop} {ts : List TV} {R : TV → Prop} (ht : tos H args = some ts) (hc : PureC P g ts R) (hK : ∀ r, R r → K (ofTV r) H) : CallN P g args H K :=
  ⟨hc.1, fun C w M X vs hI hv => (hc.2 w X vs hI.xlt (tos_rd hI hv ht)).mono fun e w' ⟨u, r, he, hr, hb, hu⟩ => by
    obtain ⟨hI', hs, _⟩ := hI.after hb
    exact ⟨u, _, H, M, _, he, hI', hs, fun b hx => .inl hx, Ext.refl M, hu.toA, Nat.le_refl _, fun j hj => hj, hK r hr⟩⟩

theorem pkT_rd (hI : Inv C H w M X) {l : L} {v : Value} {t : T} (h : RdL w X M l v) (ht : pkT q0 H l = some t) {Y : Nat → Prop} (hx : ∀ b, X b → Y b) (hY : ∀ id p, M[id]? = some (.at p) → (getB H id).live = true → Y p.b) : RdT w Y t v := by
  have nilrd : ∀ {base : Option Addr} (sz : Nat) (g : Int → List T), RdT w Y (.sl sz 0 g) (.slice base 0 0) := fun sz g => .sl ⟨0, 0, none⟩ (fun _ _ => undef) rfl (Nat.le_refl _) (Nat.zero_le _) (fun i hi => absurd hi (by omega)) (fun hi => absurd hi (by omega)) (fun i f hi _ => absurd hi (by omega)) (fun i f t hi => absurd hi (by omega))
  have blkrd : ∀ (id : Nat) (p : Pl) (sz : Nat) (g : Int → List T), M[id]? = some (.at p) → ((∃ ty n, getB H id = .sl ty sz n g) ∨ (∃ n, getB H id = .fz sz n g)) → p.sz = sz ∧ p.u ≤ p.c ∧ p.c ≤ maxLen ∧ Y p.b ∧ ∃ arr ty, w.heap[p.b]? = some (.cells arr ty (0, 0)) ∧ RdRow w X sz p.u g arr := by
    intro id p sz g hp hb
    have hB := hI.blk id _ hp
    rcases hb with ⟨ty, n, hb⟩ | ⟨n, hb⟩ <;> rw [hb] at hB
    · cases hB with | sl h1 h2 h3 h4 h5 h6 h7 h8 => exact ⟨h2, h4, h5, hY id p hp (by rw [hb]; rfl), _, _, h6, h8⟩
    · cases hB with | fz h1 h2 h3 h4 h5 hxp h6 h7 h8 => exact ⟨h2, h4, h5, hx _ hxp, _, _, h6, h8⟩
  have rowrd : ∀ (p : Pl) (sz o len cap : Nat) (base : Option Addr) (g : Int → List T) (arr : Array Value) (ty : TypeId), w.heap[p.b]? = some (.cells arr ty (0, 0)) → RdRow w X sz p.u g arr → Y p.b → o + len ≤ p.u → len ≤ cap → cap ≤ maxLen → (0 < len → base = some ⟨p.b, o * sz, none⟩) →
      ∀ n : Int, n = (len : Int) → RdT w Y (.sl sz n (fun i => g ((o : Int) + i))) (.slice base len cap) := by
    intro p sz o len cap base g arr ty h1 h2 hy h3 h4 h5 h6 n hn
    have e : ∀ i : Nat, ((o : Int) + (i : Int)) = ((o + i : Nat) : Int) := fun i => by omega
    refine .sl ⟨p.b, o * sz, none⟩ (fun i f => (arr[(o + i) * sz + f]?).getD undef) hn h4 h5 (fun i hi => by rw [e]; exact (h2 (o + i) (by omega)).1) (fun h0 => ⟨h6 h0, hy⟩) (fun i f hi hf => ?_) (fun i f t hi hft => ?_)
    · rw [cell_at h1]
      obtain ⟨hg, hr⟩ := h2 (o + i) (by omega)
      obtain ⟨u, hu, _⟩ := hr f (g ((o + i : Nat) : Int))[f] (by simp [hg, hf])
      have e2 : o * sz + (i * sz + f) = (o + i) * sz + f := by rw [Nat.add_mul]; omega
      rw [e2, hu]; rfl
    · rw [e] at hft
      obtain ⟨hg, hr⟩ := h2 (o + i) (by omega)
      obtain ⟨u, hu, hrt⟩ := hr f t hft
      simp only [hu]
      exact hrt.mono (fun _ _ => rfl) hx
  unfold pkT at ht
  split at ht
  · cases ht; cases h with | t h => exact h.mono (fun _ _ => rfl) hx
  · cases ht; cases h; exact nilrd _ _
  · cases ht; cases h; exact nilrd _ _
  · cases ht; cases h; exact .bool
  · cases ht; cases h; exact .bool
  · rename_i id n
    have key : ∀ sz g, ((∃ ty n, getB H id = .sl ty sz n g) ∨ (∃ n, getB H id = .fz sz n g)) → RdT w Y (.sl sz n g) v := by
      intro sz g hb
      cases h with
      | row0 hp => exact nilrd _ _
      | row hp hn hl hcu hcm =>
        rename_i p len
        obtain ⟨a, b, c, d, arr, ty, h1, h2⟩ := blkrd id p sz g hp hb
        have := rowrd p sz 0 len p.c (some ⟨p.b, 0, none⟩) g arr ty h1 h2 d (by omega) (by omega) c (fun _ => by rw [Nat.zero_mul]) n hn
        simpa using this
    split at ht
    · rename_i hb; cases ht; exact key _ _ (.inr ⟨_, hb⟩)
    · rename_i hb; cases ht; exact key _ _ (.inl ⟨_, _, hb⟩)
    · cases ht
  · rename_i id off n
    have key : ∀ sz g, ((∃ ty n, getB H id = .sl ty sz n g) ∨ (∃ n, getB H id = .fz sz n g)) → RdT w Y (.sl sz n (fun i => g (q0 Int fun _ => off + i))) v := by
      intro sz g hb
      cases h with
      | sub0 hp hn => subst hn; exact nilrd _ _
      | sub hp ho hn hu hlc hcm hba =>
        rename_i p o len cap base
        obtain ⟨a, b, c, d, arr, ty, h1, h2⟩ := blkrd id p sz g hp hb
        subst ho
        exact rowrd p sz o len cap base g arr ty h1 h2 d hu hlc hcm (by rw [a] at hba; exact hba) n hn
    split at ht
    · rename_i hb; cases ht; exact key _ _ (.inr ⟨_, hb⟩)
    · rename_i hb; cases ht; exact key _ _ (.inl ⟨_, _, hb⟩)
    · cases ht
  · cases ht
theorem pkTs_rd (hI : Inv C H w M X) {Y : Nat → Prop} (hx : ∀ b, X b → Y b) (hY : ∀ id p, M[id]? = some (.at p) → (getB H id).live = true → Y p.b) : ∀ {ls : List L} {vs : List Value} {ts : List T}, RdLs w X M ls vs → pkTs q0 H ls = some ts →
    ts.length = vs.length ∧ ∀ (j : Nat) (t : T) (v : Value), ts[j]? = some t → vs[j]? = some v → RdT w Y t v
  | [], vs, ts, h, ht => by
    simp only [pkTs, Option.some.injEq] at ht
    subst ht
    exact ⟨h.1, fun j t v hj => by simp at hj⟩
  | l :: ls, vs, ts, h, ht => by
    simp only [pkTs] at ht
    split at ht
    · rename_i t ht1
      split at ht
      · rename_i ts' ht2
        cases ht
        cases vs with
        | nil => have := h.1; simp at this
        | cons v vs =>
          have h' : RdLs w X M ls vs := ⟨by have := h.1; simpa using this, fun j l u hl hu => h.2 (j + 1) l u (by simpa using hl) (by simpa using hu)⟩
          obtain ⟨e, r⟩ := pkTs_rd hI hx hY h' ht2
          refine ⟨by simp [e], fun j t' u hj hu => ?_⟩
          cases j with
          | zero => simp at hj hu; subst hj; subst hu; exact pkT_rd hI (h.2 0 l v rfl rfl) ht1 hx hY
          | succ j => exact r j t' u (by simpa using hj) (by simpa using hu)
      · cases ht
    · cases ht
theorem pk1_rd (hI : Inv C H w M X) {Y : Nat → Prop} (hx : ∀ b, X b → Y b) (hY : ∀ id p, M[id]? = some (.at p) → (getB H id).live = true → Y p.b) {x : AV} {v : Value} {t : TV} (h : RdA w X M x v) (ht : pk1 q0 H x = some t) : RdV w Y t v := by
  cases x with
  | one l =>
    simp only [pk1] at ht
    split at ht
    · rename_i t' ht'
      cases ht
      cases h with | one h => exact .one (pkT_rd hI h ht' hx hY)
    · cases ht
  | agg ls =>
    simp only [pk1] at ht
    split at ht
    · rename_i ts hts
      cases ht
      cases h with | agg h =>
      obtain ⟨a, b⟩ := pkTs_rd hI hx hY h hts
      exact .agg (by simpa using a) (fun j t v h1 h2 => b j t v h1 (by simpa using h2))
    · cases ht
  | tup xs => simp only [pk1] at ht; cases ht
theorem pks_rd (hI : Inv C H w M X) {Y : Nat → Prop} (hx : ∀ b, X b → Y b) (hY : ∀ id p, M[id]? = some (.at p) → (getB H id).live = true → Y p.b) : ∀ {xs : List AV} {vs : List Value} {ts : List TV}, RdAs w X M xs vs → pks q0 H xs = some ts → RdVs w Y ts vs
  | [], vs, ts, h, ht => by
    simp only [pks, Option.some.injEq] at ht
    subst ht
    exact ⟨h.1, fun j x v hj => by simp at hj⟩
  | x :: xs, vs, ts, h, ht => by
    simp only [pks] at ht
    split at ht
    · rename_i t ht1
      split at ht
      · rename_i ts' ht2
        cases ht
        cases vs with
        | nil => have := h.1; simp at this
        | cons v vs =>
          have h' : RdAs w X M xs vs := ⟨by have := h.1; simpa using this, fun j l u hl hu => h.2 (j + 1) l u (by simpa using hl) (by simpa using hu)⟩
          obtain ⟨e, r⟩ := pks_rd hI hx hY h' ht2
          refine ⟨by simp [e], fun j t' u hj hu => ?_⟩
          cases j with
          | zero => simp at hj hu; subst hj; subst hu; exact pk1_rd hI hx hY (h.2 0 x v rfl rfl) ht1
          | succ j => exact r j t' u (by simpa using hj) (by simpa using hu)
      · cases ht
    · cases ht

def scal : TV → Bool
  | .one (.int _ _) => true
  | .one (.bool _) => true
  | .one (.str _) => true
  | .one (.flt _ _) => true
  | _ => false
theorem scal_rd {r : TV} {v : Value} (hs : scal r = true) (h : RdV w X r v) {w' : World} {Y : Nat → Prop} : RdV w' Y r v := by
  cases h with
  | one h => cases h with
    | int => exact .one .int
    | bool => exact .one .bool
    | str => exact .one .str
    | flt => exact .one .flt
    | sl => simp [scal] at hs
  | agg => simp [scal] at hs
  | tup => simp [scal] at hs

theorem CallN.look {g : FuncId} {args : List AV} {K : AV → List Blk → Prop} {ts : List TV} {R : TV → Prop} (ht : pks q0 H args = some ts) (hc : PureC P g ts R) (hK : ∀ r, R r → scal r = true ∧ K (ofTV r) H) : CallN P g args H K :=
  ⟨hc.1, fun C w M X vs hI hv => (hc.2 w (fun b => b < w.heap.size) vs (fun _ h => h) (pks_rd hI hI.xlt (fun id p hp hl => (hI.live id p hp hl).2.1) hv ht)).mono fun e w' ⟨u, r, he, hr, hb, hu⟩ => by
    obtain ⟨hI', hs, _⟩ := hI.after hb
    exact ⟨u, _, H, M, _, he, hI', hs, fun b hx => .inl hx, Ext.refl M, (scal_rd (hK r hr).1 hu).toA, Nat.le_refl _, fun j hj => hj, (hK r hr).2⟩⟩

theorem Inv.freeze (hI : Inv C H w M X) {id : Nat} {ty : TypeId} {sz : Nat} {n : Int} {g : Int → List T} (hb : getB H id = .sl ty sz n g) : ∃ X', Inv C (H.set id (.fz sz n g)) w M X' ∧ ∀ b, X b → X' b := by
  have hlt := getB_lt (H := H) (id := id) (by rw [hb]; simp)
  obtain ⟨p, hp, hB⟩ := hI.has (id := id) (by rw [hb]; simp)
  rw [hb] at hB
  have hlive : ∀ j, (getB (H.set id (.fz sz n g)) j).live = true → (getB H j).live = true ∧ j ≠ id := fun j hj => by
    rw [getB_set hlt] at hj
    split at hj
    · cases hj
    · rename_i h; exact ⟨hj, h⟩
  cases hB with
  | sl0 =>
    refine ⟨X, ⟨hI.os, hI.tape, hI.output, hI.size, hI.frame, hI.xlt, hI.xsub, hI.x0, by simp [hI.mlen], hI.pin, fun j pj hj hl => hI.live j pj hj (hlive j hl).1, fun j j' pj pj' hj hj' hl hl' e => hI.inj j j' pj pj' hj hj' (hlive j hl).1 (hlive j' hl').1 e, fun j pj hj => ?_⟩, fun _ h => h⟩
    rw [getB_set hlt]
    split
    · rename_i e; subst e; rw [hp] at hj; cases hj; exact .fz0
    · exact hI.blk j pj hj
  | sl h1 h2 h3 h4 h5 h6 h7 h8 =>
    rename_i pl arr
    have hlv := hI.live id pl hp (by rw [hb]; rfl)
    have hs : Same w w X := fun _ _ => rfl
    refine ⟨fun b => X b ∨ b = pl.b, ⟨hI.os, hI.tape, hI.output, hI.size, hI.frame, fun b hx => ?_, fun b hx => ?_, fun b hx => .inl (hI.x0 b hx), by simp [hI.mlen], hI.pin, fun j pj hj hl => ?_, fun j j' pj pj' hj hj' hl hl' e => hI.inj j j' pj pj' hj hj' (hlive j hl).1 (hlive j' hl').1 e, fun j pj hj => ?_⟩, fun _ h => .inl h⟩
    · rcases hx with hx | rfl
      · exact hI.xlt b hx
      · exact hlv.2.1
    · rcases hx with hx | rfl
      · exact hI.xsub b hx
      · exact hlv.1.elim (fun h => .inr (.inr h)) (fun h => .inr (.inl h))
    · obtain ⟨h, hne⟩ := hlive j hl
      obtain ⟨a, b, c⟩ := hI.live j pj hj h
      refine ⟨a, b, fun hx => ?_⟩
      rcases hx with hx | hx
      · exact c hx
      · exact hne (hI.inj j id pj pl hj hp h (by rw [hb]; rfl) hx)
    · rw [getB_set hlt]
      split
      · rename_i e
        subst e
        rw [hp] at hj
        cases hj
        exact .fz h1 h2 h3 h4 h5 (.inr rfl) h6 h7 (h8.mono hs (fun _ h => .inl h))
      · exact (hI.blk j pj hj).mono hs (fun _ h => .inl h) (Ext.refl M) (fun _ _ _ => rfl)
theorem CallN.freeze {g : FuncId} {args : List AV} {K : AV → List Blk → Prop} (id : Nat) {ty : TypeId} {sz : Nat} {n : Int} {gg : Int → List T} (hb : getB H id = .sl ty sz n gg) (h : CallN P g args (H.set id (.fz sz n gg)) K) : CallN P g args H K :=
  ⟨h.1, fun C w M X vs hI hv => by
    obtain ⟨X', hI', hx⟩ := hI.freeze hb
    have hlt := getB_lt (H := H) (id := id) (by rw [hb]; simp)
    refine (h.2 C w M X' vs hI' ⟨hv.1, fun j x v a b => (hv.2 j x v a b).mono (fun _ _ => rfl) hx (Ext.refl M)⟩).mono ?_
    rintro e w' ⟨u, v, h', M', X'', he, hI2, hs, hx2, hm, hu, hl, hres, hK⟩
    refine ⟨u, v, h', M', X'', he, hI2, fun b hb' => hs b (hx b hb'), fun b hb' => hx2 b (hx b hb'), hm, hu, by simpa using hl, fun j hj => hres j ?_, hK⟩
    rw [getB_set hlt]
    split
    · rename_i e; subst e; rw [hb] at hj; cases hj
    · exact hj⟩
end
end Sx
