/- A part of the proof of PolyReadsSaid: texts SxSort. -/
import Derived.Test.YtlnpmgmpakjhgaaGreatSxAV
import Derived.Sort.Row
import Derived.Sort.Grow
set_option linter.all false
namespace Sx
open Go
variable {P : Program} {C : Ctx}
section
variable {w : World} {M : Mp} {X : Nat → Prop} {H : List Blk}

theorem Inv.put (hI : Inv C H w M X) {id : Nat} {p : Pl} {ty : TypeId} {n : Int} {g : Int → List T} (hid : M[id]? = some (.at p)) (hb : getB H id = .sl ty 1 n g) {d : Array Int} {V' : Int → Int} (hd : d.size = p.u) (hV : ∀ i : Nat, i < p.u → d[i]! = V' i)
    {w' : World} {q : Nat} {os : Array Obj} (hw : w' = Go.Sort.grow (Go.Sort.putRow (Value.int .i64) (Go.Sort.ahead w q) p.b 0 d) os) :
    ∃ X', Inv C (H.set id (.sl ty 1 n (fun i => [.int .i64 (V' i)]))) w' M X' ∧ Same w w' X ∧ (∀ b, X b → X' b) := by
  have hB := hI.blk id _ hid
  rw [hb] at hB
  cases hB with | sl h1 h2 h3 h4 h5 h6 h7 h8 =>
  rename_i arr
  have hheap : w'.heap = (w.setRow p.b (Go.Sort.putCells (Value.int .i64) 0 d arr)).heap ++ os := by
    rw [hw]
    unfold Go.Sort.grow Go.Sort.putRow Go.Sort.mapBlock Go.Sort.ahead World.setRow
    dsimp only
    congr 1
    apply Array.ext_getElem?
    intro k
    simp only [Array.getElem?_modify]
    by_cases hk : p.b = k
    · subst hk
      simp only [if_true, h6, Option.map_some, Go.Sort.onCells]
    · simp [hk]
  have hlt : p.b < w.heap.size := (hI.live id p hid (by rw [hb]; rfl)).2.1
  have hB' : RdB (w.setRow p.b (Go.Sort.putCells (Value.int .i64) 0 d arr)) X M (.at p) (.sl ty 1 n (fun i => [.int .i64 (V' i)])) := by
    refine .sl h1 h2 h3 h4 h5 (arr := Go.Sort.putCells (Value.int .i64) 0 d arr) ?_ ?_ (fun i hi => ⟨rfl, fun f t ht => ?_⟩)
    · show (w.heap.modify p.b _)[p.b]? = _
      rw [Array.getElem?_modify, if_pos rfl, h6]
      rfl
    · rw [← h7]
      simp [Go.Sort.putCells]
    · cases f with
      | zero =>
        simp at ht
        subst ht
        refine ⟨.int .i64 (V' i), ?_, .int⟩
        have hlt2 : i < arr.size := by rw [h7]; omega
        unfold Go.Sort.putCells
        rw [Array.getElem?_mapIdx, Nat.mul_one, Nat.add_zero, Array.getElem?_eq_getElem hlt2, Option.map_some, if_pos (by omega), Nat.sub_zero, hV i hi]
      | succ f => simp at ht
  obtain ⟨hI1, hs1⟩ := hI.write hid (by rw [hb]; rfl) (Go.Sort.putCells (Value.int .i64) 0 d arr) _ hB' rfl
  have hbel : Go.RowKit.Below (w.setRow p.b (Go.Sort.putCells (Value.int .i64) 0 d arr)).heap.size (w.setRow p.b (Go.Sort.putCells (Value.int .i64) 0 d arr)) w' := by
    refine ⟨by rw [hw]; rfl, by rw [hw]; rfl, by rw [hw]; rfl, by rw [hheap]; simp, fun b hb => ?_⟩
    rw [hheap, Array.getElem?_append, if_pos hb]
  obtain ⟨hI2, hs2, _⟩ := hI1.after hbel
  exact ⟨_, hI2, fun b hb => (hs2 b hb).trans (hs1 b hb), fun b hb => .inl hb⟩
theorem Inv.holds (hI : Inv C H w M X) {id : Nat} {p : Pl} {ty : TypeId} {n : Int} {V : Int → Int} (hid : M[id]? = some (.at p)) (hb : getB H id = .sl ty 1 n (fun i => [.int .i64 (V i)])) :
    n = (p.u : Int) ∧ p.u ≤ p.c ∧ p.b < w.heap.size ∧ Go.Sort.Holds (Value.int .i64) w p.b 0 ((List.range p.u).map fun i : Nat => V i).toArray := by
  have hB := hI.blk id _ hid
  rw [hb] at hB
  cases hB with | sl h1 h2 h3 h4 h5 h6 h7 h8 =>
  rename_i arr
  refine ⟨h1, h4, (hI.live id p hid (by rw [hb]; rfl)).2.1, fun j hj => ?_⟩
  have hj' : j < p.u := by simpa using hj
  obtain ⟨_, h9⟩ := h8 j hj'
  obtain ⟨v, hv, hr⟩ := h9 0 _ rfl
  cases hr
  refine ⟨?_, ?_⟩
  · unfold World.cell?
    rw [h6]
    simp only [Option.isSome_none, Bool.false_eq_true, if_false]
    rw [Nat.mul_one, Nat.add_zero] at hv
    rw [Nat.zero_add, hv]
    simp [hj']
  · unfold World.frozen?
    rw [h6]
    simp
end

theorem CallN.sortInts {g : FuncId} (hE : Ent P g) {id : Nat} {ty : TypeId} {n : Nat} {V : Int → Int} {H : List Blk} {K : AV → List Blk → Prop} (hb : getB H id = .sl ty 1 (n : Int) (fun i => [.int .i64 (V i)])) (hn : n < 4611686018427387904)
    (h0 : ∀ (base : Option Addr) (cap : Nat) (w : World), Calls P g #[.slice base 0 cap] w fun e w' => e = .returned (.tuple #[]) ∧ w' = w) {f : List Int → List Int} (hf : ∀ l, (f l).length = l.length)
    (hc : ∀ (blk off cap : Nat) (zs : List Int) (w : World), Go.Sort.Holds (Value.int .i64) w blk off zs.toArray → blk < w.heap.size → zs.length < 4611686018427387904 → Calls P g #[.slice (some ⟨blk, off, none⟩) zs.length cap] w fun e w' => e = .returned (.tuple #[]) ∧ ∃ q os, w' = Go.Sort.grow (Go.Sort.putRow (Value.int .i64) (Go.Sort.ahead w q) blk off (f zs).toArray) os)
    (hK : ∀ V' : Int → Int, ((List.range n).map fun i : Nat => V' i) = f ((List.range n).map fun i : Nat => V i) → K (.tup []) (H.set id (.sl ty 1 (n : Int) (fun i => [.int .i64 (V' i)])))) : CallN P g [.one (.row id (n : Int))] H K := by
  refine ⟨hE, fun C w M X vs hI hv => ?_⟩
  obtain ⟨v, rfl⟩ : ∃ v, vs = [v] := by
    have := hv.1
    rcases vs with _ | ⟨v, _ | ⟨u, r⟩⟩
    · simp at this
    · exact ⟨v, rfl⟩
    · simp at this
  have hr := hv.2 0 _ v rfl rfl
  have tup0 : ∀ {w' : World} {X' : Nat → Prop} {M' : Mp}, RdA w' X' M' (.tup []) (.tuple #[]) := fun {_ _ _} => .tup rfl (fun j x v hx => by simp at hx)
  have hlt := getB_lt (H := H) (id := id) (by rw [hb]; simp)
  cases hr with | one hr =>
  cases hr with
  | row0 hm =>
    rename_i base
    refine (h0 base 0 w).mono ?_
    rintro e w' ⟨rfl, rfl⟩
    have e : f [] = [] := List.length_eq_zero_iff.1 (by rw [hf]; rfl)
    have hk := hK V (by simp [e])
    have hset : H.set id (.sl ty 1 ((0 : Nat) : Int) (fun i => [.int .i64 (V i)])) = H := by
      rw [← hb]
      unfold getB
      rw [List.getD_eq_getElem?_getD]
      simp [hlt]
    rw [hset] at hk
    exact ⟨_, _, H, M, X, rfl, hI, fun _ _ => rfl, fun _ h => h, Ext.refl M, tup0, Nat.le_refl _, fun j hj => hj, hk⟩
  | row hm h1 h2 h3 h4 =>
    rename_i p len
    obtain ⟨hnu, huc, hblt, hH⟩ := hI.holds hm hb
    have hu : p.u = n := by omega
    have hl : len = n := by omega
    subst hl
    rw [hu] at hH
    have hcall := hc p.b 0 p.c ((List.range len).map fun i : Nat => V i) w hH hblt (by simpa using hn)
    have hlen : ((List.range len).map fun i : Nat => V i).length = len := by simp
    rw [hlen] at hcall
    refine hcall.mono ?_
    rintro e w' ⟨rfl, q, os, hw⟩
    have hfl : (f ((List.range len).map fun i : Nat => V i)).length = len := by rw [hf]; simp
    obtain ⟨X', hI', hs, hx⟩ := hI.put (V' := fun i => (f ((List.range len).map fun i : Nat => V i)).getD i.toNat 0) hm hb (d := (f ((List.range len).map fun i : Nat => V i)).toArray) (by simp [hfl, hu]) (fun i hi => by
      rw [hu] at hi
      have : i < (f ((List.range len).map fun i : Nat => V i)).length := by omega
      simp [this]) hw
    refine ⟨_, _, _, M, X', rfl, hI', hs, hx, Ext.refl M, tup0, by simp, fun j hj => ?_, hK _ ?_⟩
    · rw [getB_set hlt]
      split
      · rename_i e; subst e; rw [hb] at hj; cases hj
      · exact hj
    · apply List.ext_getElem
      · simp [hfl]
      · intro i h1 h2
        simp
        rw [List.getElem?_eq_getElem h2]
        rfl

theorem getD_arr (l : List Int) (i : Nat) : l.toArray[i]! = l.getD (i : Int).toNat 0 := by
  rw [Int.toNat_natCast, List.getD_eq_getElem?_getD]
  simp [getElem!_def]
  rfl

theorem CallN.compactInts {g : FuncId} (hE : Ent P g) {id : Nat} {ty : TypeId} {n : Nat} {V : Int → Int} {H : List Blk} {K : AV → List Blk → Prop} (hb : getB H id = .sl ty 1 (n : Int) (fun i => [.int .i64 (V i)])) (hn : n < 4611686018427387904)
    (h0 : ∀ (base : Option Addr) (cap : Nat) (w : World), Calls P g #[.slice base 0 cap] w fun e w' => e = .returned (.slice base 0 cap) ∧ w' = w) {f : List Int → List Int} (hf : ∀ l, (f l).length ≤ l.length)
    (hc : ∀ (blk off cap : Nat) (zs : List Int) (w : World), Go.Sort.Holds (Value.int .i64) w blk off zs.toArray → zs.length ≤ 9223372036854775807 → zs.length ≤ cap → Calls P g #[.slice (some ⟨blk, off, none⟩) zs.length cap] w fun e w' => e = .returned (.slice (some ⟨blk, off, none⟩) (f zs).length cap) ∧ ∃ q, w' = Go.Sort.putRow (Value.int .i64) (Go.Sort.ahead w q) blk off (f zs ++ List.replicate (zs.length - (f zs).length) 0).toArray)
    (hK : ∀ (m : Nat) (V' : Int → Int), m ≤ n → ((List.range m).map fun i : Nat => V' i) = f ((List.range n).map fun i : Nat => V i) → K (.one (.row id (m : Int))) (H.set id (.sl ty 1 (n : Int) (fun i => [.int .i64 (V' i)])))) : CallN P g [.one (.row id (n : Int))] H K := by
  refine ⟨hE, fun C w M X vs hI hv => ?_⟩
  obtain ⟨v, rfl⟩ : ∃ v, vs = [v] := by
    have := hv.1
    rcases vs with _ | ⟨v, _ | ⟨u, r⟩⟩
    · simp at this
    · exact ⟨v, rfl⟩
    · simp at this
  have hr := hv.2 0 _ v rfl rfl
  have hlt := getB_lt (H := H) (id := id) (by rw [hb]; simp)
  cases hr with | one hr =>
  cases hr with
  | row0 hm =>
    rename_i base
    refine (h0 base 0 w).mono ?_
    rintro e w' ⟨rfl, rfl⟩
    have e : f [] = [] := List.length_eq_zero_iff.1 (Nat.le_zero.1 (hf []))
    have hk := hK 0 V (Nat.le_refl _) (by simp [e])
    have hset : H.set id (.sl ty 1 ((0 : Nat) : Int) (fun i => [.int .i64 (V i)])) = H := by
      rw [← hb]
      unfold getB
      rw [List.getD_eq_getElem?_getD]
      simp [hlt]
    rw [hset] at hk
    exact ⟨_, _, H, M, X, rfl, hI, fun _ _ => rfl, fun _ h => h, Ext.refl M, .one (.row0 hm), Nat.le_refl _, fun j hj => hj, hk⟩
  | row hm h1 h2 h3 h4 =>
    rename_i p len
    obtain ⟨hnu, huc, hblt, hH⟩ := hI.holds hm hb
    have hu : p.u = n := by omega
    have hl : len = n := by omega
    subst hl
    rw [hu] at hH
    have hcall := hc p.b 0 p.c ((List.range len).map fun i : Nat => V i) w hH (by simp; omega) (by simp; omega)
    have hlen : ((List.range len).map fun i : Nat => V i).length = len := by simp
    have hfl : (f ((List.range len).map fun i : Nat => V i)).length ≤ len := by have := hf ((List.range len).map fun i : Nat => V i); rw [hlen] at this; exact this
    obtain ⟨F, hF⟩ : ∃ F, F = f ((List.range len).map fun i : Nat => V i) := ⟨_, rfl⟩
    rw [hlen, ← hF] at hcall
    rw [← hF] at hfl
    refine hcall.mono ?_
    rintro e w' ⟨rfl, q, hw⟩
    obtain ⟨L, hL⟩ : ∃ L, L = F ++ List.replicate (len - F.length) 0 := ⟨_, rfl⟩
    rw [← hL] at hw
    have hLl : L.length = p.u := by
      rw [hL, List.length_append, List.length_replicate]
      omega
    have hw' : w' = Go.Sort.grow (Go.Sort.putRow (Value.int .i64) (Go.Sort.ahead w q) p.b 0 L.toArray) #[] := by rw [Go.Sort.grow_empty]; exact hw
    have hd : L.toArray.size = p.u := by rw [List.size_toArray]; exact hLl
    have hgV : ∀ i : Nat, i < p.u → L.toArray[i]! = (fun i : Int => L.getD i.toNat 0) i := fun i _ => getD_arr L i
    obtain ⟨X', hI', hs, hx⟩ := hI.put (V' := fun i : Int => L.getD i.toNat 0) hm hb hd hgV hw'
    have hle : F.length ≤ p.u := by rw [hu]; exact hfl
    have hk := hK F.length (fun i => L.getD i.toNat 0) hfl (by
      rw [← hF]
      refine List.ext_getElem (by simp) (fun i h1 h2 => ?_)
      rw [List.getElem_map, List.getElem_range]
      show L.getD (i : Int).toNat 0 = F[i]
      rw [hL, Int.toNat_natCast, List.getD_eq_getElem?_getD, List.getElem?_append_left h2, List.getElem?_eq_getElem h2]
      rfl)
    have hr2 : RdA w' X' M (.one (.row id (F.length : Int))) (.slice (some ⟨p.b, 0, none⟩) F.length p.c) := .one (.row hm rfl hle h3 h4)
    refine ⟨_, _, _, M, X', rfl, hI', hs, hx, Ext.refl M, hr2, by rw [List.length_set]; exact Nat.le_refl _, fun j hj => ?_, hk⟩
    rw [getB_set hlt]
    split
    · rename_i e; subst e; rw [hb] at hj; cases hj
    · exact hj

theorem Inv.rowEq {w : World} {M : Mp} {X : Nat → Prop} {H : List Blk} (hI : Inv C H w M X) {id : Nat} {ty : TypeId} {sz : Nat} {n : Int} {g g' : Int → List T} (hb : getB H id = .sl ty sz n g) (hg : ∀ i : Nat, (i : Int) < n → g i = g' i) : Inv C (H.set id (.sl ty sz n g')) w M X := by
  have hlt := getB_lt (H := H) (id := id) (by rw [hb]; simp)
  have hlive : ∀ j, (getB (H.set id (.sl ty sz n g')) j).live = true → (getB H j).live = true := fun j hj => by
    rw [getB_set hlt] at hj
    split at hj
    · rename_i e; subst e; rw [hb]; rfl
    · exact hj
  refine ⟨hI.os, hI.tape, hI.output, hI.size, hI.frame, hI.xlt, hI.xsub, hI.x0, by simp [hI.mlen], hI.pin, fun j pj hj hl => hI.live j pj hj (hlive j hl), fun j j' pj pj' hj hj' hl hl' e => hI.inj j j' pj pj' hj hj' (hlive j hl) (hlive j' hl') e, fun j pj hj => ?_⟩
  rw [getB_set hlt]
  split
  · rename_i e
    subst e
    have hB := hI.blk j pj hj
    rw [hb] at hB
    cases hB with
    | sl0 => exact .sl0
    | sl h1 h2 h3 h4 h5 h6 h7 h8 =>
      refine .sl h1 h2 h3 h4 h5 h6 h7 (fun i hi => ?_)
      rw [← hg i (by omega)]
      exact h8 i hi
  · exact hI.blk j pj hj
theorem CallN.rowEq {g : FuncId} {args : List AV} {H : List Blk} {K : AV → List Blk → Prop} (id : Nat) {ty : TypeId} {sz : Nat} {n : Int} {gg gg' : Int → List T} (hb : getB H id = .sl ty sz n gg) (hg : ∀ i : Nat, (i : Int) < n → gg i = gg' i) (h : CallN P g args (H.set id (.sl ty sz n gg')) K) : CallN P g args H K :=
  ⟨h.1, fun C w M X vs hI hv => by
    have hlt := getB_lt (H := H) (id := id) (by rw [hb]; simp)
    refine (h.2 C w M X vs (hI.rowEq hb hg) hv).mono ?_
    rintro e w' ⟨u, v, h', M', X'', he, hI2, hs, hx2, hm, hu, hl, hres, hK⟩
    refine ⟨u, v, h', M', X'', he, hI2, hs, hx2, hm, hu, by simpa using hl, fun j hj => hres j ?_, hK⟩
    rw [getB_set hlt]
    split
    · rename_i e; subst e; rw [hb] at hj; cases hj
    · exact hj⟩
theorem call_eq {CN : CNt} {g : FuncId} {args : List AV} {H : List Blk} {K : AV → List Blk → Prop} (hCN : CN = CallN P) (id : Nat) {ty : TypeId} {sz : Nat} {n : Int} {gg : Int → List T} (gg' : Int → List T) (hb : getB H id = .sl ty sz n gg) (hg : ∀ i : Nat, (i : Int) < n → gg i = gg' i)
    (h : CN g args (H.set id (.sl ty sz n gg')) K) : CN g args H K := by
  subst hCN
  exact CallN.rowEq id hb hg h
end Sx
