/- A part of the proof of PolyReadsSaid: texts SxTab SxTau SxUse. -/
import Derived.Test.YtlnpmgmpakjhgaaGreatSxAR
import Derived.Test.YtlnpmgmpakjhgaaGreatProg
set_option linter.all false
section
namespace Sx
open Go
variable {P : Program}

def zeroL : Value → L
  | .int k n => .t (.int k n)
  | .bool true => .tt
  | .bool false => .ff
  | .string s => .t (.str s)
  | .float k b => .t (.flt k b)
  | .slice none 0 0 => .nil
  | _ => .any
def fieldsOf (P : Program) (size : Nat) : List Field → Option (List (Nat × Nat × Bool))
  | [] => some []
  | f :: r => match P.info? f.type, P.underlying f.type with
    | some i, some d => if 0 < i.size ∧ f.offset + i.size ≤ size then (match fieldsOf P size r with | some l => some ((f.offset, i.size, aggD d) :: l) | none => none) else none
    | _, _ => none
def undOf (P : Program) (size : Nat) : TypeDesc → Option UT
  | .int k => some (.int k)
  | .float k => some (.flt k)
  | .bool => some .bool
  | .string => some .string
  | .slice e => some (.slice e)
  | .struct fields => match fieldsOf P size fields.toList with | some l => some (.struct l) | none => none
  | .map k e => some (.map k e)
  | .pointer _ => some .ptr
  | .func .. => some .func
  | _ => some .other

def tauOf (P : Program) (t : TypeId) : Option TI :=
  match P.info? t, P.underlying t with
  | some i, some d => (match i.zero, undOf P i.size d with
    | some z, some u => if z.cells.size = i.size ∧ 0 < i.size ∧ 0 < i.bytes then some ⟨i.size, i.bytes, aggD d, z.cells.toList.map zeroL, u⟩ else none
    | _, _ => none)
  | _, _ => none

theorem zeroL_rd (w : World) (X : Nat → Prop) (M : Mp) (v : Value) : RdL w X M (zeroL v) v := by
  unfold zeroL
  split
  · exact .t .int
  · exact .tt
  · exact .ff
  · exact .t .str
  · exact .t .flt
  · exact .nil
  · exact .any
theorem fieldsOf_spec {size : Nat} : ∀ {fs : List Field} {l : List (Nat × Nat × Bool)}, fieldsOf P size fs = some l → l.length = fs.length ∧ ∀ (j : Nat) (f : Field) (o s : Nat) (ag : Bool), fs[j]? = some f → l[j]? = some (o, s, ag) →
      f.offset = o ∧ o + s ≤ size ∧ (∃ i, P.info? f.type = some i ∧ i.size = s ∧ 0 < s) ∧ (∃ d', P.underlying f.type = some d' ∧ ag = aggD d')
  | [], l, h => by
    simp only [fieldsOf, Option.some.injEq] at h
    subst h
    exact ⟨rfl, fun j f o s ag hj => by simp at hj⟩
  | f :: r, l, h => by
    simp only [fieldsOf] at h
    split at h
    · rename_i i d hi hd
      split at h
      · rename_i hc
        split at h
        · rename_i l' hl
          cases h
          obtain ⟨e, hs⟩ := fieldsOf_spec hl
          refine ⟨by simp [e], fun j f' o s ag hj hj' => ?_⟩
          cases j with
          | zero =>
            simp at hj hj'
            subst hj
            obtain ⟨rfl, rfl, rfl⟩ := hj'
            exact ⟨rfl, hc.2, ⟨i, hi, rfl, hc.1⟩, ⟨d, hd, rfl⟩⟩
          | succ j => exact hs j f' o s ag (by simpa using hj) (by simpa using hj')
        · cases h
      · cases h
    · cases h
theorem tauOf_ok : TabOk P (tauOf P) := by
  intro t ti h
  unfold tauOf at h
  split at h
  · rename_i i d hi hd
    split at h
    · rename_i z u hz hu
      split at h
      · rename_i hc
        cases h
        refine ⟨⟨i, z, hi, rfl, rfl, hz, hc.1, fun w X M => ⟨by simp, fun j l v hl hv => ?_⟩⟩, hc.2.1, hc.2.2, fun fs hfs k o s ag hk => ?_, ⟨d, hd, rfl, ?_⟩⟩
        · simp only [List.getElem?_map, Option.map_eq_some_iff] at hl
          obtain ⟨v', hv', rfl⟩ := hl
          rw [hv'] at hv
          cases hv
          exact zeroL_rd w X M _
        · simp only at hfs
          subst hfs
          unfold undOf at hu
          split at hu <;> try (cases hu; done)
          rename_i fields
          split at hu
          · rename_i l hl
            cases hu
            obtain ⟨e, hs⟩ := fieldsOf_spec hl
            have hlt : k < fields.toList.length := by rw [← e]; exact (List.getElem?_eq_some_iff.1 hk).1
            exact (hs k fields.toList[k] o s ag (by simp [hlt]) hk).2.1
          · cases hu
        · simp only
          unfold undOf at hu
          split at hu
          case h_6 =>
            rename_i fields
            split at hu
            · rename_i l hl
              cases hu
              obtain ⟨e, hs⟩ := fieldsOf_spec hl
              refine ⟨fields, rfl, by simpa using e, fun j f o s ag hj hj' => ?_⟩
              obtain ⟨a, b, c, d⟩ := hs j f o s ag (by simpa using hj) hj'
              exact ⟨a, c, d⟩
            · cases hu
          all_goals (cases hu; first | rfl | trivial)
      · cases h
    · cases h
  · cases h

def lookT : List (Nat × TI) → Nat → Option TI
  | [], _ => none
  | (k, v) :: r, t => bif k == t then some v else lookT r t
def TabIs (P : Program) : List (Nat × TI) → Prop
  | [] => True
  | (k, v) :: r => tauOf P k = some v ∧ TabIs P r
theorem TabIs.ok : ∀ {l : List (Nat × TI)}, TabIs P l → TabOk P (lookT l)
  | [], _, t, ti, h => by cases h
  | (k, v) :: r, h, t, ti, ht => by
    simp only [lookT] at ht
    cases hk : k == t with
    | true =>
      rw [hk] at ht
      simp only [cond_true, Option.some.injEq] at ht
      subst ht
      have : k = t := by simpa using hk
      subst this
      exact tauOf_ok _ _ h.1
    | false =>
      rw [hk] at ht
      exact TabIs.ok h.2 t ti ht
end Sx
end

section
set_option maxRecDepth 100000
namespace Sx
open Go Go.Proofs
def tauL : List (Nat × TI) := [
  (3, { sz := 1, bytes := 8, agg := false, zero := [L.t (T.int IntKind.i64 (Int.ofNat 0))], und := UT.int IntKind.i64 }),
  (47, { sz := 1, bytes := 24, agg := false, zero := [L.nil], und := UT.slice 196 }),
  (37, { sz := 1, bytes := 24, agg := false, zero := [L.nil], und := UT.slice 3 }),
  (49, { sz := 3, bytes := 56, agg := true, zero := [L.ff, L.nil, L.nil], und := UT.struct [(0, 1, false), (1, 1, false), (2, 1, false)] }),
  (40, { sz := 3, bytes := 40, agg := true, zero := [L.t (T.int IntKind.i64 (Int.ofNat 0)), L.t (T.int IntKind.i64 (Int.ofNat 0)), L.nil], und := UT.struct [(0, 1, false), (1, 1, false), (2, 1, false)] }),
  (196, { sz := 1, bytes := 4, agg := false, zero := [L.t (T.int IntKind.u32 (Int.ofNat 0))], und := UT.int IntKind.u32 }),
  (24, { sz := 1, bytes := 24, agg := false, zero := [L.nil], und := UT.slice 40 }),
  (195, { sz := 1, bytes := 8, agg := false, zero := [L.t (T.int IntKind.u64 (Int.ofNat 0))], und := UT.int IntKind.u64 }),
  (42, { sz := 8, bytes := 128, agg := true, zero := [L.t (T.int IntKind.i64 (Int.ofNat 0)), L.t (T.int IntKind.i64 (Int.ofNat 0)), L.nil, L.nil, L.nil, L.t (T.int IntKind.i64 (Int.ofNat 0)), L.t (T.int IntKind.i64 (Int.ofNat 0)), L.nil], und := UT.struct [(0, 1, false), (1, 1, false), (2, 1, false), (3, 1, false), (4, 1, false), (5, 3, true)] }),
  (2, { sz := 1, bytes := 8, agg := false, zero := [L.t (T.int IntKind.i64 (Int.ofNat 0))], und := UT.int IntKind.i64 }),
  (9, { sz := 1, bytes := 16, agg := false, zero := [L.t (T.str { data := { toList := [] } })], und := UT.string }),
  (85, { sz := 2, bytes := 48, agg := true, zero := [L.nil, L.nil], und := UT.struct [(0, 1, false), (1, 1, false)] }),
  (53, { sz := 1, bytes := 24, agg := false, zero := [L.nil], und := UT.slice 187 }),
  (55, { sz := 2, bytes := 32, agg := true, zero := [L.t (T.int IntKind.i64 (Int.ofNat 0)), L.nil], und := UT.struct [(0, 1, false), (1, 1, false)] }),
  (83, { sz := 1, bytes := 24, agg := false, zero := [L.nil], und := UT.slice 177 }),
  (4, { sz := 1, bytes := 1, agg := false, zero := [L.ff], und := UT.bool }),
  (82, { sz := 1, bytes := 24, agg := false, zero := [L.nil], und := UT.slice 168 }),
  (52, { sz := 2, bytes := 32, agg := true, zero := [L.t (T.int IntKind.i64 (Int.ofNat 0)), L.nil], und := UT.struct [(0, 1, false), (1, 1, false)] }),
  (22, { sz := 1, bytes := 24, agg := false, zero := [L.nil], und := UT.slice 160 }),
  (177, { sz := 3, bytes := 40, agg := true, zero := [L.t (T.int IntKind.i64 (Int.ofNat 0)), L.nil, L.t (T.int IntKind.i64 (Int.ofNat 0))], und := UT.struct [(0, 2, true), (2, 1, false)] }),
  (46, { sz := 5, bytes := 88, agg := true, zero := [L.nil, L.nil, L.t (T.int IntKind.i64 (Int.ofNat 0)), L.t (T.int IntKind.i64 (Int.ofNat 0)), L.nil], und := UT.struct [(0, 1, false), (1, 1, false), (2, 3, true)] }),
  (96, { sz := 5, bytes := 104, agg := true, zero := [L.ff, L.nil, L.nil, L.nil, L.nil], und := UT.struct [(0, 3, true), (3, 2, true)] }),
  (168, { sz := 3, bytes := 40, agg := true, zero := [L.t (T.int IntKind.i64 (Int.ofNat 0)), L.t (T.int IntKind.i64 (Int.ofNat 0)), L.nil], und := UT.struct [(0, 1, false), (1, 2, true)] }),
  (5, { sz := 1, bytes := 1, agg := false, zero := [L.t (T.int IntKind.u8 (Int.ofNat 0))], und := UT.int IntKind.u8 }),
  (133, { sz := 7, bytes := 112, agg := true, zero := [L.t (T.str { data := { toList := [] } }), L.nil, L.nil, L.t (T.int IntKind.i64 (Int.ofNat 0)), L.t (T.int IntKind.i64 (Int.ofNat 0)), L.nil, L.t (T.int IntKind.i64 (Int.ofNat 0))], und := UT.struct [(0, 1, false), (1, 1, false), (2, 1, false), (3, 3, true), (6, 1, false)] }),
  (220, { sz := 8, bytes := 192, agg := true, zero := [L.nil, L.nil, L.nil, L.nil, L.nil, L.nil, L.nil, L.nil], und := UT.struct [(0, 4, true), (4, 1, false), (5, 1, false), (6, 1, false), (7, 1, false)] }),
  (27, { sz := 4, bytes := 96, agg := true, zero := [L.nil, L.nil, L.nil, L.nil], und := UT.struct [(0, 1, false), (1, 1, false), (2, 1, false), (3, 1, false)] }),
  (30, { sz := 1, bytes := 24, agg := false, zero := [L.nil], und := UT.slice 37 }),
  (60, { sz := 1, bytes := 24, agg := false, zero := [L.nil], und := UT.slice 96 }),
  (187, { sz := 2, bytes := 16, agg := true, zero := [L.t (T.int IntKind.i64 (Int.ofNat 0)), L.t (T.int IntKind.i64 (Int.ofNat 0))], und := UT.struct [(0, 1, false), (1, 1, false)] }),
  (384, { sz := 3, bytes := 32, agg := true, zero := [L.t (T.int IntKind.i64 (Int.ofNat 0)), L.t (T.str { data := { toList := [] } }), L.t (T.int IntKind.i64 (Int.ofNat 0))], und := UT.struct [(0, 1, false), (1, 1, false), (2, 1, false)] }),
  (50, { sz := 1, bytes := 24, agg := false, zero := [L.nil], und := UT.slice 52 }),
  (25, { sz := 1, bytes := 24, agg := false, zero := [L.nil], und := UT.slice 42 }),
  (160, { sz := 3, bytes := 48, agg := true, zero := [L.t (T.str { data := { toList := [] } }), L.t (T.int IntKind.i64 (Int.ofNat 0)), L.nil], und := UT.struct [(0, 1, false), (1, 1, false), (2, 1, false)] }),
  (218, { sz := 1, bytes := 8, agg := false, zero := [L.any], und := UT.ptr }),
  (23, { sz := 1, bytes := 24, agg := false, zero := [L.nil], und := UT.slice 133 }),
  (158, { sz := 1, bytes := 24, agg := false, zero := [L.nil], und := UT.slice 248 }),
  (404, { sz := 1, bytes := 8, agg := false, zero := [L.t (T.int IntKind.u64 (Int.ofNat 0))], und := UT.int IntKind.u64 }),
  (221, { sz := 1, bytes := 8, agg := false, zero := [L.any], und := UT.func }),
  (137, { sz := 1, bytes := 8, agg := false, zero := [L.any], und := UT.ptr }),
  (248, { sz := 2, bytes := 40, agg := true, zero := [L.t (T.str { data := { toList := [] } }), L.nil], und := UT.struct [(0, 1, false), (1, 1, false)] }),
  (104, { sz := 1, bytes := 24, agg := false, zero := [L.nil], und := UT.slice 4 }),
  (275, { sz := 1, bytes := 8, agg := false, zero := [L.t (T.int IntKind.u64 (Int.ofNat 0))], und := UT.int IntKind.u64 }),
  (307, { sz := 1, bytes := 8, agg := false, zero := [L.any], und := UT.map 9 4 }),
  (381, { sz := 1, bytes := 24, agg := false, zero := [L.nil], und := UT.slice 384 }),
  (217, { sz := 1, bytes := 8, agg := false, zero := [L.any], und := UT.func }),
  (409, { sz := 1, bytes := 8, agg := false, zero := [L.t (T.flt FloatKind.f64 0)], und := UT.flt FloatKind.f64 }),
  (313, { sz := 1, bytes := 8, agg := false, zero := [L.any], und := UT.func }),
  (34, { sz := 1, bytes := 8, agg := false, zero := [L.t (T.int IntKind.i64 (Int.ofNat 0))], und := UT.int IntKind.i64 }),
  (181, { sz := 1, bytes := 8, agg := false, zero := [L.any], und := UT.func }),
  (188, { sz := 1, bytes := 8, agg := false, zero := [L.any], und := UT.func }),
  (205, { sz := 1, bytes := 8, agg := false, zero := [L.any], und := UT.func }),
  (344, { sz := 1, bytes := 8, agg := false, zero := [L.t (T.int IntKind.i64 (Int.ofNat 0))], und := UT.int IntKind.i64 }),
  (265, { sz := 1, bytes := 8, agg := false, zero := [L.any], und := UT.func }),
  (267, { sz := 1, bytes := 8, agg := false, zero := [L.any], und := UT.func }),
  (341, { sz := 1, bytes := 8, agg := false, zero := [L.any], und := UT.func })]
theorem tauL_is : TabIs Tryz.prog tauL := ⟨
  by kernel_rfl,
  by kernel_rfl,
  by kernel_rfl,
  by kernel_rfl,
  by kernel_rfl,
  by kernel_rfl,
  by kernel_rfl,
  by kernel_rfl,
  by kernel_rfl,
  by kernel_rfl,
  by kernel_rfl,
  by kernel_rfl,
  by kernel_rfl,
  by kernel_rfl,
  by kernel_rfl,
  by kernel_rfl,
  by kernel_rfl,
  by kernel_rfl,
  by kernel_rfl,
  by kernel_rfl,
  by kernel_rfl,
  by kernel_rfl,
  by kernel_rfl,
  by kernel_rfl,
  by kernel_rfl,
  by kernel_rfl,
  by kernel_rfl,
  by kernel_rfl,
  by kernel_rfl,
  by kernel_rfl,
  by kernel_rfl,
  by kernel_rfl,
  by kernel_rfl,
  by kernel_rfl,
  by kernel_rfl,
  by kernel_rfl,
  by kernel_rfl,
  by kernel_rfl,
  by kernel_rfl,
  by kernel_rfl,
  by kernel_rfl,
  by kernel_rfl,
  by kernel_rfl,
  by kernel_rfl,
  by kernel_rfl,
  by kernel_rfl,
  by kernel_rfl,
  by kernel_rfl,
  by kernel_rfl,
  by kernel_rfl,
  by kernel_rfl,
  by kernel_rfl,
  by kernel_rfl,
  by kernel_rfl,
  by kernel_rfl,
  by kernel_rfl, trivial⟩
def tau : TypeId → Option TI := lookT tauL
theorem tau_ok : TabOk Tryz.prog tau := tauL_is.ok
end Sx
end

section
namespace Sx
open Go
variable {P : Program} {τ : TypeId → Option TI}

theorem w64 (x : Int) : IntKind.i64.wrap x = (x + 9223372036854775808) % 18446744073709551616 - 9223372036854775808 := by
  have e : IntKind.i64.wrap x = if (x % (2 ^ 64 : Int)) ≥ (2 ^ 63 : Int) then x % (2 ^ 64 : Int) - (2 ^ 64 : Int) else x % (2 ^ 64 : Int) := by
    unfold IntKind.wrap
    simp [IntKind.bits, IntKind.signed]
  rw [e]
  split <;> omega
theorem wu64 (x : Int) : IntKind.u64.wrap x = x % 18446744073709551616 := by
  unfold IntKind.wrap
  simp [IntKind.bits, IntKind.signed]
theorem wu32 (x : Int) : IntKind.u32.wrap x = x % 4294967296 := by
  unfold IntKind.wrap
  simp [IntKind.bits, IntKind.signed]
theorem wu8 (x : Int) : IntKind.u8.wrap x = x % 256 := by
  unfold IntKind.wrap
  simp [IntKind.bits, IntKind.signed]
theorem wi32 (x : Int) : IntKind.i32.wrap x = (x + 2147483648) % 4294967296 - 2147483648 := by
  have e : IntKind.i32.wrap x = if (x % (2 ^ 32 : Int)) ≥ (2 ^ 31 : Int) then x % (2 ^ 32 : Int) - (2 ^ 32 : Int) else x % (2 ^ 32 : Int) := by
    unfold IntKind.wrap
    simp [IntKind.bits, IntKind.signed]
  rw [e]
  split <;> omega

inductive TE : T → T → Prop
  | refl {t : T} : TE t t
  | sl {sz sz' : Nat} {n : Int} {g g' : Int → List T} : (0 < n → sz = sz') → (∀ i : Nat, (i : Int) < n → (g i).length = (g' i).length) → (∀ (i j : Nat) (a b : T), (i : Int) < n → (g i)[j]? = some a → (g' i)[j]? = some b → TE a b) → TE (.sl sz n g) (.sl sz' n g')
theorem RdT.te {w : World} {X : Nat → Prop} {t t' : T} (h : TE t t') : ∀ {v : Value}, RdT w X t v → RdT w X t' v := by
  induction h with
  | refl => exact fun h => h
  | sl hsz hlen hg ih =>
    rename_i sz sz' n g g'
    intro v hv
    cases hv with | sl ad cs h1 h2 h3 h4 h5 h6 h7 =>
    rename_i base len cap
    subst h1
    refine .sl ad cs rfl h2 h3 (fun i hi => ?_) h5 (fun i f hi hf => ?_) (fun i f t hi ht => ?_)
    · rw [← hlen i (by omega), h4 i hi]; exact hsz (by omega)
    · have e := hsz (by omega)
      rw [← e] at hf ⊢
      exact h6 i f hi hf
    · have hl := hlen i (by omega)
      have hlt := (List.getElem?_eq_some_iff.1 ht).1
      have : (g i)[f]? = some (g i)[f] := by rw [List.getElem?_eq_getElem (by omega)]
      exact ih i f _ _ (by omega) this ht (h7 i f _ hi this)
theorem TE.symm {t t' : T} (h : TE t t') : TE t' t := by
  induction h with
  | refl => exact .refl
  | sl hsz hlen hg ih => exact .sl (fun h => (hsz h).symm) (fun i hi => (hlen i hi).symm) (fun i j a b hi ha hb => ih i j b a hi hb ha)

inductive VE : TV → TV → Prop
  | refl {t : TV} : VE t t
  | one {t t' : T} : TE t t' → VE (.one t) (.one t')
  | agg {ts ts' : List T} : ts.length = ts'.length → (∀ (j : Nat) (a b : T), ts[j]? = some a → ts'[j]? = some b → TE a b) → VE (.agg ts) (.agg ts')
  | tup {xs xs' : List TV} : xs.length = xs'.length → (∀ (j : Nat) (a b : TV), xs[j]? = some a → xs'[j]? = some b → VE a b) → VE (.tup xs) (.tup xs')
theorem RdV.ve {w : World} {X : Nat → Prop} {t t' : TV} (h : VE t t') : ∀ {v : Value}, RdV w X t v → RdV w X t' v := by
  induction h with
  | refl => exact fun h => h
  | one h => intro v hv; cases hv with | one hv => exact .one (hv.te h)
  | agg hl h =>
    intro v hv
    rename_i ts ts'
    cases hv with | agg a b =>
    refine .agg (by rw [← hl]; exact a) (fun j t v ht hv => ?_)
    have hlt := (List.getElem?_eq_some_iff.1 ht).1
    have : ts[j]? = some ts[j] := by rw [List.getElem?_eq_getElem (by omega)]
    exact (b j _ v this hv).te (h j _ _ this ht)
  | tup hl h ih =>
    intro v hv
    rename_i ts ts'
    cases hv with | tup a b =>
    refine .tup (by rw [← hl]; exact a) (fun j t v ht hv => ?_)
    have hlt := (List.getElem?_eq_some_iff.1 ht).1
    have : ts[j]? = some ts[j] := by rw [List.getElem?_eq_getElem (by omega)]
    exact ih j _ _ this ht (b j _ v this hv)
theorem VE.symm {t t' : TV} (h : VE t t') : VE t' t := by
  induction h with
  | refl => exact .refl
  | one h => exact .one h.symm
  | agg hl h => exact .agg hl.symm (fun j a b ha hb => (h j b a hb ha).symm)
  | tup hl h ih => exact .tup hl.symm (fun j a b ha hb => ih j b a hb ha)
theorem PureC.res {g : FuncId} {ts : List TV} {R R' : TV → Prop} (h : PureC P g ts R) (hr : ∀ r, R r → ∃ r', R' r' ∧ VE r r') : PureC P g ts R' :=
  ⟨h.1, fun w X vs hX hv => (h.2 w X vs hX hv).mono fun e w' ⟨u, r, a, b, c, d⟩ => by
    obtain ⟨r', h1, h2⟩ := hr r b
    exact ⟨u, r', a, h1, c, d.ve h2⟩⟩
theorem PureC.args {g : FuncId} {ts ts' : List TV} {R : TV → Prop} (h : PureC P g ts R) (hl : ts.length = ts'.length) (ha : ∀ (j : Nat) (a b : TV), ts[j]? = some a → ts'[j]? = some b → VE a b) : PureC P g ts' R :=
  ⟨h.1, fun w X vs hX hv => h.2 w X vs hX ⟨by rw [hl]; exact hv.1, fun j x v hx hv' => by
    have hlt := (List.getElem?_eq_some_iff.1 hx).1
    have : ts'[j]? = some ts'[j] := by rw [List.getElem?_eq_getElem (by omega)]
    exact (hv.2 j _ v this hv').ve (ha j _ _ hx this).symm⟩⟩

def PureF (P : Program) (g : FuncId) (ts : Qt → List TV) (r : Qt → TV) : Prop := PureC P g (ts q0) (fun x => x = r q0)

theorem walkR (hm : P.follows .mixedOrders = true) (hτ : TabOk P τ) {g : FuncId} {c : Code} {n : Nat} {rs : List ResultVar} (hF : FnAt P g c n rs) {ts : Qt → List TV} {R : TV → Prop}
    (h : ∀ (CN DN : CNt) (q : Qt) (R' : TV → Prop), CN = CallN P → DN = CallD P → q = q0 → (∀ r r', R r' → VE r r' → R' r) →
      awp CN DN q τ 0 c ⟨startS n ((ts q).map ofTV), []⟩ (finK q τ rs R')) : PureC P g (ts q0) R :=
  (pureC_of_awp hm hτ hF (h _ _ _ (fun r => ∃ r', R r' ∧ VE r r') rfl rfl rfl (fun r r' h1 h2 => ⟨r', h1, h2⟩))).res (fun r h => h)
theorem walkF (hm : P.follows .mixedOrders = true) (hτ : TabOk P τ) {g : FuncId} {c : Code} {n : Nat} {rs : List ResultVar} (hF : FnAt P g c n rs) {ts : Qt → List TV} {r : Qt → TV}
    (h : ∀ (CN DN : CNt) (q : Qt) (R : TV → Prop), CN = CallN P → DN = CallD P → q = q0 → (∀ x, VE x (r q0) → R x) →
      awp CN DN q τ 0 c ⟨startS n ((ts q).map ofTV), []⟩ (finK q τ rs R)) : PureF P g ts r :=
  walkR hm hτ hF (fun CN DN q R' h1 h2 h3 h4 => h CN DN q R' h1 h2 h3 (fun x hx => h4 x _ rfl hx))

theorem call_fn {CN : CNt} {q : Qt} {g : FuncId} {ts : Qt → List TV} {r : Qt → TV} {args : List AV} {H : List Blk} {K : AV → List Blk → Prop} (hq : q = q0) (hCN : CN = CallN P)
    (hc : PureF P g ts r) (ht : tos H args = some (ts q)) (hK : K (ofTV (r q)) H) : CN g args H K := by
  subst hq; subst hCN
  exact CallN.pure ht hc (fun _ e => by rw [e]; exact hK)
theorem call_fd {DN : CNt} {q : Qt} {g : FuncId} {ts : Qt → List TV} {r : Qt → TV} {args : List AV} {H : List Blk} {K : AV → List Blk → Prop} (hq : q = q0) (hDN : DN = CallD P)
    (hc : PureF P g ts r) (ht : tos H args = some (ts q)) (hK : K (ofTV (r q)) H) : DN g args H K := by
  subst hq; subst hDN
  exact ⟨_, _, .inl ht, hc, hK⟩

theorem call_fl {CN : CNt} {q : Qt} {g : FuncId} {ts : Qt → List TV} {r : Qt → TV} {args : List AV} {H : List Blk} {K : AV → List Blk → Prop} (hq : q = q0) (hCN : CN = CallN P)
    (hc : PureF P g ts r) (ht : pks q H args = some (ts q)) (hs : scal (r q) = true) (hK : K (ofTV (r q)) H) : CN g args H K := by
  subst hq; subst hCN
  exact CallN.look ht hc (fun _ e => by rw [e]; exact ⟨hs, hK⟩)
theorem call_fld {DN : CNt} {q : Qt} {g : FuncId} {ts : Qt → List TV} {r : Qt → TV} {args : List AV} {H : List Blk} {K : AV → List Blk → Prop} (hq : q = q0) (hDN : DN = CallD P)
    (hc : PureF P g ts r) (ht : pks q H args = some (ts q)) (hs : scal (r q) = true) (hK : K (ofTV (r q)) H) : DN g args H K := by
  subst hq; subst hDN
  exact ⟨_, _, .inr ⟨ht, hs⟩, hc, hK⟩

theorem call_fz {CN : CNt} {g : FuncId} {args : List AV} {H : List Blk} {K : AV → List Blk → Prop} (hCN : CN = CallN P) (id : Nat) {ty : TypeId} {sz : Nat} {n : Int} {gg : Int → List T} (hb : getB H id = .sl ty sz n gg)
    (h : CN g args (H.set id (.fz sz n gg)) K) : CN g args H K := by
  subst hCN
  exact CallN.freeze id hb h

theorem w64_id {x : Int} (h : -9223372036854775808 ≤ x ∧ x ≤ 9223372036854775807) : IntKind.i64.wrap x = x := by rw [w64]; omega
theorem wu64_id {x : Int} (h : 0 ≤ x ∧ x < 18446744073709551616) : IntKind.u64.wrap x = x := by rw [wu64]; omega
theorem wu32_id {x : Int} (h : 0 ≤ x ∧ x < 4294967296) : IntKind.u32.wrap x = x := by rw [wu32]; omega
theorem wu8_id {x : Int} (h : 0 ≤ x ∧ x < 256) : IntKind.u8.wrap x = x := by rw [wu8]; omega

theorem nc (n : Nat) : @NatCast.natCast Int instNatCastInt n = (n : Int) := rfl







end Sx
end
