/- A part of the proof of PolyReadsSaid: texts SxB SxC. -/
import Derived.Test.YtlnpmgmpakjhgaaGreatSxAA
set_option linter.all false
section
namespace Sx
open Go

structure Pl where
  b : Nat
  sz : Nat
  c : Nat
  u : Nat
inductive Pm where
  | res
  | nil
  | at (p : Pl)
abbrev Mp := List Pm

inductive RdT (w : World) (X : Nat → Prop) : T → Value → Prop
  | int {k : IntKind} {n : Int} : RdT w X (.int k n) (.int k n)
  | bool {b : Bool} : RdT w X (.bool b) (.bool b)
  | str {s : ByteArray} : RdT w X (.str s) (.string s)
  | flt {k : FloatKind} {b : Nat} : RdT w X (.flt k b) (.float k b)
  | sl {sz : Nat} {n : Int} {g : Int → List T} {base : Option Addr} {len cap : Nat} (ad : Addr) (cs : Nat → Nat → Value) :
      n = (len : Int) → len ≤ cap → cap ≤ maxLen → (∀ i : Nat, i < len → (g i).length = sz) → (0 < len → base = some ad ∧ X ad.block) →
      (∀ i f : Nat, i < len → f < sz → w.cell? (ad.add (i * sz + f)) = some (cs i f)) →
      (∀ (i f : Nat) (t : T), i < len → (g i)[f]? = some t → RdT w X t (cs i f)) → RdT w X (.sl sz n g) (.slice base len cap)

def Same (w w' : World) (X : Nat → Prop) : Prop := ∀ b, X b → w'.heap[b]? = w.heap[b]?

theorem Same.cell {w w' : World} {X : Nat → Prop} (h : Same w w' X) {a : Addr} (ha : X a.block) : w'.cell? a = w.cell? a := World.cell?_of_block (w := w) (h a.block ha)
theorem add_block (a : Addr) (n : Nat) : (a.add n).block = a.block := by unfold Addr.add; split <;> rfl

theorem RdT.mono {w w' : World} {X X' : Nat → Prop} (h : Same w w' X) (hx : ∀ b, X b → X' b) : ∀ {t : T} {v : Value}, RdT w X t v → RdT w' X' t v := by
  intro t v hr
  induction hr with
  | int => exact .int
  | bool => exact .bool
  | str => exact .str
  | flt => exact .flt
  | sl ad cs hn hl hc hg hb hcell _ ih =>
    refine .sl ad cs hn hl hc hg (fun h0 => ⟨(hb h0).1, hx _ (hb h0).2⟩) (fun i f hi hf => ?_) ih
    rw [h.cell (by rw [add_block]; exact (hb (by omega)).2)]
    exact hcell i f hi hf

structure RdAt (w : World) (X : Nat → Prop) (ad : Addr) (cs : List T) : Prop where
  blk : X ad.block
  cell : ∀ (j : Nat) (t : T), cs[j]? = some t → ∃ v, w.cell? (ad.add j) = some v ∧ RdT w X t v
theorem RdAt.mono {w w' : World} {X X' : Nat → Prop} (h : Same w w' X) (hx : ∀ b, X b → X' b) {ad : Addr} {cs : List T} (hr : RdAt w X ad cs) : RdAt w' X' ad cs :=
  ⟨hx _ hr.blk, fun j t hj => by
    obtain ⟨v, hv, ht⟩ := hr.cell j t hj
    exact ⟨v, by rw [h.cell (by rw [add_block]; exact hr.blk)]; exact hv, ht.mono h hx⟩⟩

inductive RdL (w : World) (X : Nat → Prop) (M : Mp) : L → Value → Prop
  | t {x : T} {v : Value} : RdT w X x v → RdL w X M (.t x) v
  | nil : RdL w X M .nil (.slice none 0 0)
  | emp {base : Option Addr} : RdL w X M .emp (.slice base 0 0)
  | tt : RdL w X M .tt (.bool true)
  | ff : RdL w X M .ff (.bool false)
  | any {v : Value} : RdL w X M .any v
  | und : RdL w X M .und undef
  | row0 {id : Nat} {base : Option Addr} : M[id]? = some .nil → RdL w X M (.row id 0) (.slice base 0 0)
  | row {id : Nat} {p : Pl} {n : Int} {len : Nat} : M[id]? = some (.at p) → n = (len : Int) → len ≤ p.u → p.u ≤ p.c → p.c ≤ maxLen → RdL w X M (.row id n) (.slice (some ⟨p.b, 0, none⟩) len p.c)
  | sub {id : Nat} {p : Pl} {off n : Int} {o len cap : Nat} {base : Option Addr} : M[id]? = some (.at p) → off = (o : Int) → n = (len : Int) → o + len ≤ p.u → len ≤ cap → cap ≤ maxLen →
      (0 < len → base = some ⟨p.b, o * p.sz, none⟩) → RdL w X M (.sub id off n) (.slice base len cap)
  | sub0 {id : Nat} {off n : Int} {base : Option Addr} : M[id]? = some .nil → n = 0 → RdL w X M (.sub id off n) (.slice base 0 0)
  | bp {id f : Nat} {p : Pl} : M[id]? = some (.at p) → RdL w X M (.bp id f) (.pointer (some ⟨p.b, f, none⟩))
  | ep {id f j : Nat} {i : Int} {p : Pl} : M[id]? = some (.at p) → i = (j : Int) → j < p.u → RdL w X M (.ep id i f) (.pointer (some ⟨p.b, j * p.sz + f, none⟩))
  | fp {ad : Addr} {cs : List T} : RdAt w X ad cs → RdL w X M (.fp cs) (.pointer (some ad))
  | fn {f : FuncId} {caps : List L} {cv : List Value} : caps.length = cv.length → (∀ (j : Nat) (l : L) (v : Value), caps[j]? = some l → cv[j]? = some v → RdL w X M l v) →
      RdL w X M (.fn f caps) (.func (.func f) #[] cv.toArray)

def RdLs (w : World) (X : Nat → Prop) (M : Mp) (ls : List L) (vs : List Value) : Prop :=
  ls.length = vs.length ∧ ∀ (j : Nat) (l : L) (v : Value), ls[j]? = some l → vs[j]? = some v → RdL w X M l v

def Ext (M M' : Mp) : Prop := ∀ (id : Nat) (p : Pm), M[id]? = some p → p ≠ Pm.res → M'[id]? = some p
theorem Ext.trans {M M' M'' : Mp} (h : Ext M M') (h' : Ext M' M'') : Ext M M'' := fun id p hp hn => h' id p (h id p hp hn) hn
theorem Ext.refl (M : Mp) : Ext M M := fun _ _ h _ => h
theorem Ext.at {M M' : Mp} (h : Ext M M') {id : Nat} {p : Pl} (hp : M[id]? = some (.at p)) : M'[id]? = some (.at p) := h id _ hp (by simp)
theorem Ext.nil {M M' : Mp} (h : Ext M M') {id : Nat} (hp : M[id]? = some .nil) : M'[id]? = some .nil := h id _ hp (by simp)

theorem RdL.mono {w w' : World} {X X' : Nat → Prop} {M M' : Mp} (h : Same w w' X) (hx : ∀ b, X b → X' b) (hm : Ext M M') {l : L} {v : Value} (hr : RdL w X M l v) : RdL w' X' M' l v := by
  induction hr with
  | t ht => exact .t (ht.mono h hx)
  | nil => exact .nil
  | emp => exact .emp
  | tt => exact .tt
  | ff => exact .ff
  | any => exact .any
  | und => exact .und
  | row0 hp => exact .row0 (hm.nil hp)
  | row hp a b c d => exact .row (hm.at hp) a b c d
  | sub0 hp a => exact .sub0 (hm.nil hp) a
  | sub hp a b c d e f => exact .sub (hm.at hp) a b c d e f
  | bp hp => exact .bp (hm.at hp)
  | ep hp a b => exact .ep (hm.at hp) a b
  | fp hp => exact .fp (hp.mono h hx)
  | fn a _ ih => exact .fn a ih
theorem RdLs.mono {w w' : World} {X X' : Nat → Prop} {M M' : Mp} (h : Same w w' X) (hx : ∀ b, X b → X' b) (hm : Ext M M') {ls : List L} {vs : List Value} (hr : RdLs w X M ls vs) : RdLs w' X' M' ls vs :=
  ⟨hr.1, fun j l v a b => (hr.2 j l v a b).mono h hx hm⟩

inductive RdA (w : World) (X : Nat → Prop) (M : Mp) : AV → Value → Prop
  | one {l : L} {v : Value} : RdL w X M l v → RdA w X M (.one l) v
  | agg {ls : List L} {cs : Array Value} : RdLs w X M ls cs.toList → RdA w X M (.agg ls) (.agg cs)
  | tup {xs : List AV} {vs : Array Value} : xs.length = vs.size → (∀ (j : Nat) (x : AV) (v : Value), xs[j]? = some x → vs[j]? = some v → RdA w X M x v) → RdA w X M (.tup xs) (.tuple vs)
theorem RdA.mono {w w' : World} {X X' : Nat → Prop} {M M' : Mp} (h : Same w w' X) (hx : ∀ b, X b → X' b) (hm : Ext M M') {x : AV} {v : Value} (hr : RdA w X M x v) : RdA w' X' M' x v := by
  induction hr with
  | one hl => exact .one (hl.mono h hx hm)
  | agg hl => exact .agg (hl.mono h hx hm)
  | tup a _ ih => exact .tup a ih

def RdRow (w : World) (X : Nat → Prop) (sz len : Nat) (g : Int → List T) (arr : Array Value) : Prop :=
  ∀ i : Nat, i < len → (g i).length = sz ∧ ∀ (f : Nat) (t : T), (g i)[f]? = some t → ∃ v, arr[i * sz + f]? = some v ∧ RdT w X t v

inductive RdB (w : World) (X : Nat → Prop) (M : Mp) : Pm → Blk → Prop
  | dead {p : Pm} : RdB w X M p .dead
  | res : RdB w X M .res .res
  | box {p : Pl} {ty : TypeId} {cs : List L} {arr : Array Value} : w.heap[p.b]? = some (.cells arr ty (0, 0)) → RdLs w X M cs arr.toList → RdB w X M (.at p) (.box ty cs)
  | sl0 {ty : TypeId} {sz : Nat} {g : Int → List T} : RdB w X M .nil (.sl ty sz 0 g)
  | sl {p : Pl} {ty : TypeId} {sz : Nat} {n : Int} {g : Int → List T} {arr : Array Value} : n = (p.u : Int) → p.sz = sz → 0 < sz → p.u ≤ p.c → p.c ≤ maxLen →
      w.heap[p.b]? = some (.cells arr ty (0, 0)) → arr.size = p.c * sz → RdRow w X sz p.u g arr → RdB w X M (.at p) (.sl ty sz n g)
  | fz0 {sz : Nat} {g : Int → List T} : RdB w X M .nil (.fz sz 0 g)
  | fz {p : Pl} {ty : TypeId} {sz : Nat} {n : Int} {g : Int → List T} {arr : Array Value} : n = (p.u : Int) → p.sz = sz → 0 < sz → p.u ≤ p.c → p.c ≤ maxLen → X p.b →
      w.heap[p.b]? = some (.cells arr ty (0, 0)) → arr.size = p.c * sz → RdRow w X sz p.u g arr → RdB w X M (.at p) (.fz sz n g)

theorem RdRow.mono {w w' : World} {X X' : Nat → Prop} (h : Same w w' X) (hx : ∀ b, X b → X' b) {sz len : Nat} {g : Int → List T} {arr : Array Value} (hr : RdRow w X sz len g arr) : RdRow w' X' sz len g arr :=
  fun i hi => ⟨(hr i hi).1, fun f t ht => by
    obtain ⟨v, hv, hr⟩ := (hr i hi).2 f t ht
    exact ⟨v, hv, hr.mono h hx⟩⟩

def Blk.live : Blk → Bool
  | .box .. => true
  | .sl .. => true
  | _ => false

theorem RdB.mono {w w' : World} {X X' : Nat → Prop} {M M' : Mp} (h : Same w w' X) (hx : ∀ b, X b → X' b) (hm : Ext M M') {p : Pm} {B : Blk} (hr : RdB w X M p B)
    (hb : ∀ pl, p = .at pl → B.live = true → w'.heap[pl.b]? = w.heap[pl.b]?) : RdB w' X' M' p B := by
  cases hr with
  | dead => exact .dead
  | res => exact .res
  | box a b => exact .box (by rw [hb _ rfl rfl]; exact a) (b.mono h hx hm)
  | sl0 => exact .sl0
  | sl a b c d e f g i => exact .sl a b c d e (by rw [hb _ rfl rfl]; exact f) g (i.mono h hx)
  | fz0 => exact .fz0
  | fz a b c d e x f g i => exact .fz a b c d e (hx _ x) (by rw [h _ x]; exact f) g (i.mono h hx)

structure Ctx where
  w0 : World
  X0 : Nat → Prop
  B0 : Nat → Prop
  M0 : Mp

structure Inv (C : Ctx) (H : List Blk) (w : World) (M : Mp) (X : Nat → Prop) : Prop where
  os : w.os = C.w0.os
  tape : w.tape = C.w0.tape
  output : w.output = C.w0.output
  size : C.w0.heap.size ≤ w.heap.size
  frame : ∀ b, b < C.w0.heap.size → ¬ C.B0 b → w.heap[b]? = C.w0.heap[b]?
  xlt : ∀ b, X b → b < w.heap.size
  xsub : ∀ b, X b → C.X0 b ∨ C.w0.heap.size ≤ b ∨ C.B0 b
  x0 : ∀ b, C.X0 b → X b
  mlen : M.length = H.length
  pin : C.M0.length ≤ M.length ∧ Ext C.M0 M
  live : ∀ (id : Nat) (p : Pl), M[id]? = some (.at p) → (getB H id).live = true → (C.B0 p.b ∨ C.w0.heap.size ≤ p.b) ∧ p.b < w.heap.size ∧ ¬ X p.b
  inj : ∀ (id id' : Nat) (p p' : Pl), M[id]? = some (.at p) → M[id']? = some (.at p') → (getB H id).live = true → (getB H id').live = true → p.b = p'.b → id = id'
  blk : ∀ (id : Nat) (p : Pm), M[id]? = some p → RdB w X M p (getB H id)

def Desc : Nat → Slots → Prop
  | _, [] => True
  | n, p :: r => p.1 < n ∧ Desc p.1 r
structure Sl (s : Slots) (a : Act) (w : World) (M : Mp) (X : Nat → Prop) : Prop where
  desc : Desc a.tmps.size s
  slot : ∀ (i : Nat) (v : Value), a.tmps[i]? = some v → RdA w X M (getS s i) v
  defers : a.defers = []

theorem Sl.mono {s : Slots} {a : Act} {w w' : World} {M M' : Mp} {X X' : Nat → Prop} (h : Sl s a w M X) (hs : Same w w' X) (hx : ∀ b, X b → X' b) (hm : Ext M M') : Sl s a w' M' X' :=
  ⟨h.desc, fun i v a => (h.slot i v a).mono hs hx hm, h.defers⟩

def Rel (C : Ctx) (σ : St) (a : Act) (w : World) : Prop := ∃ M X, Inv C σ.h w M X ∧ Sl σ.s a w M X

theorem nbeq (a b : Nat) : Nat.beq a b = decide (a = b) := by
  rcases Nat.decEq a b with h | h
  · rw [decide_eq_false h]
    cases h' : Nat.beq a b with
    | false => rfl
    | true => exact absurd (Nat.eq_of_beq_eq_true h') h
  · subst h; simp
theorem nblt (a b : Nat) : Nat.blt a b = decide (a < b) := by
  have e : Nat.blt a b = Nat.ble (a + 1) b := rfl
  rw [e]
  by_cases h : a < b
  · rw [decide_eq_true h]; rw [Nat.ble_eq]; exact h
  · rw [decide_eq_false h]
    cases h' : Nat.ble (a + 1) b with
    | false => rfl
    | true => rw [Nat.ble_eq] at h'; exact absurd h' h
theorem getS_nil (i : Nat) : getS [] i = .one .any := rfl
theorem getS_cons (p : Nat × AV) (r : Slots) (i : Nat) : getS (p :: r) i = if p.1 = i then p.2 else getS r i := by
  rfl
theorem insD_cons (p : Nat × AV) (r : Slots) (d : Nat) (v : AV) : insD (p :: r) d v = if p.1 = d then (d, v) :: r else if p.1 < d then (d, v) :: p :: r else p :: insD r d v := by
  rfl
theorem putI_cons (p : Nat × AV) (r : Slots) (d : Nat) (v : AV) : putI (p :: r) d v = if p.1 = d then (d, v) :: r else if p.1 < d then p :: r else p :: insD r d v := by
  rfl
theorem getS_insD (d : Nat) (v : AV) (i : Nat) : ∀ s : Slots, getS (insD s d v) i = if d = i then v else getS s i
  | [] => by simp only [insD, getS_cons]
  | p :: r => by
    have ih := getS_insD d v i r
    rw [insD_cons, getS_cons]
    split
    · rename_i h
      rw [getS_cons]
      simp only
      split <;> simp_all
    · rename_i h
      split
      · rw [getS_cons, getS_cons]
      · rw [getS_cons, ih]
        split
        · rename_i h1
          rw [if_neg (by omega)]
        · rfl
theorem mem_insD {d : Nat} {v : AV} {p : Nat × AV} : ∀ {s : Slots}, p ∈ insD s d v → p ∈ s ∨ p = (d, v)
  | [], h => by simp only [insD, List.mem_singleton] at h; exact .inr h
  | q :: r, h => by
    rw [insD_cons] at h
    split at h
    · rcases List.mem_cons.1 h with h | h
      · exact .inr h
      · exact .inl (List.mem_cons_of_mem _ h)
    · split at h
      · rcases List.mem_cons.1 h with h | h
        · exact .inr h
        · exact .inl h
      · rcases List.mem_cons.1 h with h | h
        · exact .inl (by rw [h]; exact List.mem_cons_self ..)
        · rcases mem_insD h with h | h
          · exact .inl (List.mem_cons_of_mem _ h)
          · exact .inr h
theorem getS_putI_ne (s : Slots) {d i : Nat} (v : AV) (h : d ≠ i) : getS (putI s d v) i = getS s i := by
  cases s with
  | nil => rfl
  | cons p r =>
    rw [putI_cons]
    split
    · rename_i e
      rw [getS_cons, getS_cons, if_neg h, if_neg (by omega)]
    · split
      · rfl
      · rw [getS_cons, getS_cons, getS_insD, if_neg h]
theorem mem_putI {d : Nat} {v : AV} {p : Nat × AV} {s : Slots} (h : p ∈ putI s d v) : p ∈ s ∨ p = (d, v) := by
  cases s with
  | nil => cases h
  | cons q r =>
    rw [putI_cons] at h
    split at h
    · rcases List.mem_cons.1 h with h | h
      · exact .inr h
      · exact .inl (List.mem_cons_of_mem _ h)
    · split at h
      · exact .inl h
      · rcases List.mem_cons.1 h with h | h
        · exact .inl (by rw [h]; exact List.mem_cons_self ..)
        · rcases mem_insD h with h | h
          · exact .inl (List.mem_cons_of_mem _ h)
          · exact .inr h
theorem desc_insD {d : Nat} {v : AV} : ∀ {s : Slots} {n : Nat}, Desc n s → d < n → Desc n (insD s d v)
  | [], n, _, hd => ⟨hd, trivial⟩
  | p :: r, n, h, hd => by
    rw [insD_cons]
    split
    · rename_i e; exact ⟨hd, e ▸ h.2⟩
    · split
      · rename_i e; exact ⟨hd, e, h.2⟩
      · exact ⟨h.1, desc_insD h.2 (by omega)⟩
theorem desc_putI {d n : Nat} {v : AV} {s : Slots} (h : Desc n s) : Desc n (putI s d v) := by
  cases s with
  | nil => exact trivial
  | cons p r =>
    rw [putI_cons]
    split
    · rename_i e; exact ⟨e ▸ h.1, e ▸ h.2⟩
    · split
      · exact h
      · exact ⟨h.1, desc_insD h.2 (by omega)⟩
theorem getS_desc {i : Nat} : ∀ {s : Slots} {n : Nat}, Desc n s → n ≤ i → getS s i = .one .any
  | [], _, _, _ => rfl
  | p :: r, n, h, hi => by
    have := h.1
    rw [getS_cons, if_neg (by omega)]
    exact getS_desc h.2 (by omega)
theorem getS_mem {p : Nat × AV} : ∀ {s : Slots} {n : Nat}, Desc n s → p ∈ s → getS s p.1 = p.2 ∧ p.1 < n
  | [], _, _, h => by cases h
  | q :: r, n, h, hp => by
    rcases List.mem_cons.1 hp with rfl | hp
    · exact ⟨by rw [getS_cons, if_pos rfl], h.1⟩
    · obtain ⟨h1, h2⟩ := getS_mem h.2 hp
      have := h.1
      exact ⟨by rw [getS_cons, if_neg (by omega)]; exact h1, by omega⟩

theorem getS_putI {s : Slots} {n : Nat} (h : Desc n s) (d : Nat) (v : AV) : getS (putI s d v) d = v ∨ getS (putI s d v) d = .one .any := by
  cases s with
  | nil => exact .inr rfl
  | cons p r =>
    rw [putI_cons]
    split
    · exact .inl (by rw [getS_cons, if_pos rfl])
    · split
      · rename_i e
        exact .inr (getS_desc (n := p.1 + 1) ⟨by omega, h.2⟩ e)
      · rename_i e _
        exact .inl (by rw [getS_cons, if_neg e, getS_insD, if_pos rfl])
theorem Sl.get {s : Slots} {a : Act} {w : World} {M : Mp} {X : Nat → Prop} (h : Sl s a w M X) (t : Nat) : RdA w X M (getS s t) (a.tmps.getD t undef) := by
  by_cases ht : t < a.tmps.size
  · have := h.slot t a.tmps[t] (by simp [ht])
    simpa [Array.getD_eq_getD_getElem?, ht] using this
  · rw [getS_desc h.desc (by omega)]
    exact .one .any

theorem Sl.put {s : Slots} {a : Act} {w : World} {M : Mp} {X : Nat → Prop} (h : Sl s a w M X) (d : Option Nat) {x : AV} {v : Value} (hv : RdA w X M x v) : Sl (putS s d x) (a.put d v) w M X := by
  cases d with
  | none => exact h
  | some d =>
    refine ⟨?_, fun i u hu => ?_, h.defers⟩
    · simp only [Act.put, Array.size_setIfInBounds]
      exact desc_putI h.desc
    · simp only [putS]
      simp only [Act.put, Array.getElem?_setIfInBounds] at hu
      by_cases hd : d = i
      · subst hd
        rw [if_pos rfl] at hu
        rcases getS_putI h.desc d x with hg | hg
        · rw [hg]
          split at hu
          · cases hu; exact hv
          · cases hu
        · rw [hg]; exact .one .any
      · rw [if_neg hd] at hu
        rw [getS_putI_ne s x hd]
        exact h.slot i u hu
end Sx
end

section
namespace Sx
open Go

def aggD : TypeDesc → Bool
  | .struct _ => true
  | .array _ _ => true
  | _ => false
def UTOk (P : Program) : UT → TypeDesc → Prop
  | .int k, d => d = .int k
  | .flt k, d => d = .float k
  | .bool, d => d = .bool
  | .string, d => d = .string
  | .slice e, d => d = .slice e
  | .struct fs, d => ∃ fields, d = .struct fields ∧ fs.length = fields.size ∧ ∀ (j : Nat) (f : Field) (o s : Nat) (ag : Bool), fields[j]? = some f → fs[j]? = some (o, s, ag) →
      f.offset = o ∧ (∃ i, P.info? f.type = some i ∧ i.size = s ∧ 0 < s) ∧ (∃ d', P.underlying f.type = some d' ∧ ag = aggD d')
  | .map k e, d => d = .map k e
  | _, _ => True
structure TOk (P : Program) (t : TypeId) (ti : TI) : Prop where
  info : ∃ i z, P.info? t = some i ∧ i.size = ti.sz ∧ i.bytes = ti.bytes ∧ i.zero = some z ∧ z.cells.size = ti.sz ∧ ∀ w X M, RdLs w X M ti.zero z.cells.toList
  pos : 0 < ti.sz
  bpos : 0 < ti.bytes
  fits : ∀ fs, ti.und = .struct fs → ∀ (i o z : Nat) (ag : Bool), fs[i]? = some (o, z, ag) → o + z ≤ ti.sz
  und : ∃ d, P.underlying t = some d ∧ ti.agg = aggD d ∧ UTOk P ti.und d
def TabOk (P : Program) (τ : TypeId → Option TI) : Prop := ∀ t ti, τ t = some ti → TOk P t ti

theorem ofValue_rd (w : World) (X : Nat → Prop) (M : Mp) (v : Value) : RdL w X M (ofValue v) v := by
  unfold ofValue
  split
  · exact .t .int
  · exact .tt
  · exact .ff
  · exact .t .str
  · exact .t .flt
  · exact .nil
  · exact .any
theorem Sl.ev {s : Slots} {a : Act} {w : World} {M : Mp} {X : Nat → Prop} (h : Sl s a w M X) (x : Operand) : RdA w X M (ev s x) (a.eval x) := by
  cases x with
  | tmp t => exact h.get t
  | const v => exact .one (ofValue_rd w X M v)
  | func f => exact .one (.fn (cv := []) rfl (fun j l v hj _ => by simp at hj))
  | global g => exact .one .any

variable {P : Program} {C : Ctx} {τ : TypeId → Option TI}

def Stp (P : Program) (C : Ctx) (s : Slots) (H : List Blk) (id : Nat) (a : Act) (w : World) (o : Oper) (v : AV) (h : List Blk) : Prop :=
  ∃ u w' M X, ((execOp a.eval o).run P w = .ok (.value u) w' ∨ ((execOp a.eval o).run P w = .ok .skip w' ∧ u = undef)) ∧ Inv C h w' M X ∧ Sl s a w' M X ∧ RdA w' X M v u ∧
    h.length = H.length ∧ ∀ j, getB H j = .res → (j = id ∧ lays o.op = true) ∨ getB h j = .res

section
variable {s : Slots} {a : Act} {w : World} {o : Oper} {M : Mp} {X : Nat → Prop} {H : List Blk}

theorem Stp.still {v : AV} {u : Value} (hI : Inv C H w M X) (hS : Sl s a w M X) (hr : (execOp a.eval o).run P w = .ok (.value u) w) (hv : RdA w X M v u) {id : Nat} : Stp P C s H id a w o v H :=
  ⟨u, w, M, X, .inl hr, hI, hS, hv, rfl, fun _ h => .inr h⟩

theorem ev_one {x : Operand} {l : L} (hS : Sl s a w M X) (h : ev s x = .one l) : RdL w X M l (a.eval x) := by
  have := hS.ev x
  rw [h] at this
  cases this; assumption
theorem ev_t {x : Operand} {t : T} (hS : Sl s a w M X) (h : ev s x = .one (.t t)) : RdT w X t (a.eval x) := by
  have := ev_one hS h
  cases this; assumption
theorem ev_int {x : Operand} {k : IntKind} {n : Int} (hS : Sl s a w M X) (h : ev s x = .one (.t (.int k n))) : a.eval x = .int k n := by
  have := ev_t hS h
  generalize a.eval x = v at this
  cases this; rfl
theorem ev_flt {x : Operand} {k : FloatKind} {n : Nat} (hS : Sl s a w M X) (h : ev s x = .one (.t (.flt k n))) : a.eval x = .float k n := by
  have := ev_t hS h
  generalize a.eval x = v at this
  cases this; rfl
theorem ev_tt {x : Operand} (hS : Sl s a w M X) (h : ev s x = .one .tt) : a.eval x = .bool true := by
  have := hS.ev x
  rw [h] at this
  generalize a.eval x = v at this
  cases this with | one h => cases h; rfl
theorem ev_ff {x : Operand} (hS : Sl s a w M X) (h : ev s x = .one .ff) : a.eval x = .bool false := by
  have := hS.ev x
  rw [h] at this
  generalize a.eval x = v at this
  cases this with | one h => cases h; rfl
theorem ev_bool {x : Operand} {b : Bool} (hS : Sl s a w M X) (h : ev s x = .one (.t (.bool b))) : a.eval x = .bool b := by
  have := ev_t hS h
  generalize a.eval x = v at this
  cases this; rfl
theorem ev_str {x : Operand} {b : ByteArray} (hS : Sl s a w M X) (h : ev s x = .one (.t (.str b))) : a.eval x = .string b := by
  have := ev_t hS h
  generalize a.eval x = v at this
  cases this; rfl
theorem ev_nil {x : Operand} (hS : Sl s a w M X) (h : ev s x = .one .nil) : a.eval x = .slice none 0 0 := by
  have := ev_one hS h
  generalize a.eval x = v at this
  cases this; rfl

theorem cells_rd {x : AV} {v : Value} (h : RdA w X M x v) (hx : ∀ xs, x ≠ .tup xs) (h1 : ∀ l, x = .one l → l = .any → v.cells = #[v]) : RdLs w X M (cellsOf x) v.cells.toList := by
  cases h with
  | one hl =>
    rename_i l
    have hc : v.cells = #[v] := by
      cases hl with
      | any => exact h1 _ rfl rfl
      | t ht => cases ht <;> rfl
      | _ => rfl
    rw [hc]
    refine ⟨rfl, fun j l' v' hl' hv' => ?_⟩
    cases j with
    | zero => simp [cellsOf] at hl' hv'; subst hl'; subst hv'; exact hl
    | succ j => simp [cellsOf] at hl'
  | agg hl => exact hl
  | tup _ _ => exact absurd rfl (hx _)

theorem getB_lt {id : Nat} (h : getB H id ≠ .dead) : id < H.length := by
  by_cases hl : id < H.length
  · exact hl
  · exact absurd (by simp [getB, List.getD_eq_getElem?_getD, List.getElem?_eq_none (Nat.le_of_not_lt hl)]) h

theorem Inv.has (hI : Inv C H w M X) {id : Nat} (h : getB H id ≠ .dead) : ∃ p, M[id]? = some p ∧ RdB w X M p (getB H id) := by
  have hl := getB_lt h
  rw [← hI.mlen] at hl
  exact ⟨M[id], by simp [hl], hI.blk id M[id] (by simp [hl])⟩

theorem getB_set {id j : Nat} {B : Blk} (hid : id < H.length) : getB (H.set id B) j = if j = id then B else getB H j := by
  simp only [getB, List.getD_eq_getElem?_getD, List.getElem?_set]
  by_cases hj : id = j
  · subst hj; simp [hid]
  · simp [hj, Ne.symm hj]

theorem ext_set {id : Nat} {p : Pm} (h : M[id]? = some .res) : Ext M (M.set id p) := by
  intro j p' hj hne
  by_cases hji : id = j
  · subst hji; rw [h] at hj; cases hj; exact absurd rfl hne
  · rw [List.getElem?_set_ne hji]; exact hj

theorem Inv.lay (hI : Inv C H w M X) {id : Nat} (hid : M[id]? = some .res) (ob : Obj) (p : Pl) (hp : p.b = w.heap.size) (B : Blk) (hl : B.live = true)
    (hB : RdB (w.alloc ob) X (M.set id (.at p)) (.at p) B) :
    Inv C (H.set id B) (w.alloc ob) (M.set id (.at p)) X ∧ Same w (w.alloc ob) X ∧ Ext M (M.set id (.at p)) := by
  have hs : Same w (w.alloc ob) X := fun b hb => Below.heap_alloc_ w ob b (hI.xlt b hb)
  have he := ext_set (p := .at p) hid
  have hlt : id < M.length := (List.getElem?_eq_some_iff.1 hid).1
  have hltH : id < H.length := hI.mlen ▸ hlt
  refine ⟨⟨hI.os, hI.tape, hI.output, by have := hI.size; simp; omega, fun b hb hn => ?_, fun b hb => by have := hI.xlt b hb; simp; omega, hI.xsub, hI.x0, by simp [hI.mlen], ⟨by simpa using hI.pin.1, hI.pin.2.trans he⟩, ?_, ?_, ?_⟩, hs, he⟩
  · rw [Below.heap_alloc_ w ob b (by have := hI.size; omega)]; exact hI.frame b hb hn
  · intro j pj hj hlj
    rw [getB_set hltH] at hlj
    by_cases hji : id = j
    · subst hji
      simp [List.getElem?_set, hlt] at hj
      subst hj
      refine ⟨.inr (by rw [hp]; exact hI.size), by rw [hp]; simp, fun hx => ?_⟩
      have := hI.xlt _ hx
      omega
    · rw [List.getElem?_set_ne hji] at hj
      rw [if_neg (Ne.symm hji)] at hlj
      obtain ⟨a, b, c⟩ := hI.live j pj hj hlj
      exact ⟨a, by simp; omega, c⟩
  · intro j j' pj pj' hj hj' hlj hlj' hb
    rw [getB_set hltH] at hlj hlj'
    by_cases hji : id = j
    · by_cases hji' : id = j'
      · omega
      · subst hji
        rw [List.getElem?_set_ne hji'] at hj'
        rw [if_neg (Ne.symm hji')] at hlj'
        simp [List.getElem?_set, hlt] at hj
        subst hj
        have := (hI.live j' pj' hj' hlj').2.1
        omega
    · rw [List.getElem?_set_ne hji] at hj
      rw [if_neg (Ne.symm hji)] at hlj
      by_cases hji' : id = j'
      · subst hji'
        simp [List.getElem?_set, hlt] at hj'
        subst hj'
        have := (hI.live j pj hj hlj).2.1
        omega
      · rw [List.getElem?_set_ne hji'] at hj'
        rw [if_neg (Ne.symm hji')] at hlj'
        exact hI.inj j j' pj pj' hj hj' hlj hlj' hb
  · intro j pj hj
    rw [getB_set hltH]
    by_cases hji : id = j
    · subst hji
      simp [List.getElem?_set, hlt] at hj
      subst hj
      simpa using hB
    · rw [List.getElem?_set_ne hji] at hj
      rw [if_neg (Ne.symm hji)]
      refine (hI.blk j pj hj).mono hs (fun _ h => h) he (fun pl hpl hlv => ?_)
      subst hpl
      exact Below.heap_alloc_ w ob _ (hI.live j pl hj hlv).2.1
where
  Below.heap_alloc_ (w : World) (o : Obj) (k : Nat) (h : k < w.heap.size) : (w.alloc o).heap[k]? = w.heap[k]? := Go.RowKit.Below.heap_alloc w o k h

theorem Inv.push (hI : Inv C H w M X) (ob : Obj) : Inv C H (w.alloc ob) M X ∧ Same w (w.alloc ob) X := by
  have hs : Same w (w.alloc ob) X := fun b hb => Go.RowKit.Below.heap_alloc w ob b (hI.xlt b hb)
  refine ⟨⟨hI.os, hI.tape, hI.output, by have := hI.size; simp; omega, fun b hb hn => ?_, fun b hb => by have := hI.xlt b hb; simp; omega, hI.xsub, hI.x0, hI.mlen, hI.pin, ?_, hI.inj, ?_⟩, hs⟩
  · rw [Go.RowKit.Below.heap_alloc w ob b (by have := hI.size; omega)]; exact hI.frame b hb hn
  · intro j pj hj hlj
    obtain ⟨a, b, c⟩ := hI.live j pj hj hlj
    exact ⟨a, by simp; omega, c⟩
  · intro j pj hj
    refine (hI.blk j pj hj).mono hs (fun _ h => h) (Ext.refl M) (fun pl hpl hlv => ?_)
    subst hpl
    exact Go.RowKit.Below.heap_alloc w ob _ (hI.live j pl hj hlv).2.1

theorem Inv.write (hI : Inv C H w M X) {id : Nat} {p : Pl} (hid : M[id]? = some (.at p)) (hlv : (getB H id).live = true) (cs : Array Value) (B : Blk)
    (hB : RdB (w.setRow p.b cs) X M (.at p) B) (hl : B.live = true) :
    Inv C (H.set id B) (w.setRow p.b cs) M X ∧ Same w (w.setRow p.b cs) X := by
  obtain ⟨hb0, hblt, hnx⟩ := hI.live id p hid hlv
  have hs : Same w (w.setRow p.b cs) X := fun b hb => setRow_other w p.b b cs (fun e => hnx (e ▸ hb))
  have hlt : id < M.length := (List.getElem?_eq_some_iff.1 hid).1
  have hltH : id < H.length := hI.mlen ▸ hlt
  have hlive : ∀ j, (getB (H.set id B) j).live = true → (getB H j).live = true := fun j hj => by
    rw [getB_set hltH] at hj
    split at hj
    · rename_i e; subst e; exact hlv
    · exact hj
  refine ⟨⟨hI.os, hI.tape, hI.output, by simpa using hI.size, fun b hb hn => ?_, fun b hb => by simpa using hI.xlt b hb, hI.xsub, hI.x0, by simp [hI.mlen], hI.pin, ?_, ?_, ?_⟩, hs⟩
  · rw [setRow_other w p.b b cs ?_]
    · exact hI.frame b hb hn
    · rintro rfl
      rcases hb0 with h | h
      · exact hn h
      · omega
  · intro j pj hj hlj
    obtain ⟨a, b, c⟩ := hI.live j pj hj (hlive j hlj)
    exact ⟨a, by simpa using b, c⟩
  · intro j j' pj pj' hj hj' hlj hlj' hb
    exact hI.inj j j' pj pj' hj hj' (hlive j hlj) (hlive j' hlj') hb
  · intro j pj hj
    rw [getB_set hltH]
    by_cases hji : j = id
    · subst hji
      rw [hid] at hj
      cases hj
      simpa using hB
    · rw [if_neg hji]
      refine (hI.blk j pj hj).mono hs (fun _ h => h) (Ext.refl M) (fun pl hpl hl' => ?_)
      subst hpl
      refine setRow_other w p.b pl.b cs (fun e => hji ?_)
      exact hI.inj j id pl p hj hid hl' hlv e

theorem Inv.drop (hI : Inv C H w M X) (id : Nat) : Inv C (H.set id .dead) w M X := by
  by_cases hid : id < H.length
  · have hlive : ∀ j, (getB (H.set id .dead) j).live = true → (getB H j).live = true := fun j hj => by
      rw [getB_set hid] at hj
      split at hj
      · cases hj
      · exact hj
    refine ⟨hI.os, hI.tape, hI.output, hI.size, hI.frame, hI.xlt, hI.xsub, hI.x0, by simp [hI.mlen], hI.pin, fun j pj hj hl => hI.live j pj hj (hlive j hl),
      fun j j' pj pj' hj hj' hl hl' hb => hI.inj j j' pj pj' hj hj' (hlive j hl) (hlive j' hl') hb, fun j pj hj => ?_⟩
    rw [getB_set hid]
    split
    · exact .dead
    · exact hI.blk j pj hj
  · rw [List.set_eq_of_length_le (by omega)]
    exact hI
end
end Sx
end
