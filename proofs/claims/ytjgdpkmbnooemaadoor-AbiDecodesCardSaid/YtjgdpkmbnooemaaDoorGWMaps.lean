import Derived.Test.YtjgdpkmbnooemaaDoorGWEqs
import Derived.Maps.Keyed
set_option linter.unusedVariables false
set_option linter.unusedSimpArgs false
set_option linter.unusedSectionVars false
namespace GW
open Go Go.RowKit Go.MapKept
section
variable {α β : Type} [DecidableEq α]
def aget : List (α × β) → α → Option β
 | [], _ => none
 | (k, v) :: r, x => if x = k then some v else aget r x
def aput : List (α × β) → α → β → List (α × β)
 | [], x, y => [(x, y)]
 | (k, v) :: r, x, y => if x = k then (k, y) :: r else (k, v) :: aput r x y
end
theorem encE_inj {a b : MapEntry} (h : encE a = encE b) : a = b := by
 unfold encE at h
 simp only [Value.tuple.injEq] at h
 obtain ⟨h1, h2, h3⟩ : a.key = b.key ∧ a.val = b.val ∧ (a.born : Int) = (b.born : Int) := by simpa using h
 have h4 : a.born = b.born := by omega
 cases a; cases b; simp_all
theorem encM_inj {es es' : Array MapEntry} {c c' : Nat} (h : encM es c = encM es' c') : es = es' ∧ c = c' := by
 unfold encM at h
 have h1 : es.toList.map encE = es'.toList.map encE ∧ (c : Int) = (c' : Int) := by simpa using h
 refine ⟨?_, Int.ofNat.inj h1.2⟩
 apply Array.toList_inj.1
 exact List.map_inj_right (fun a b => encE_inj) |>.1 h1.1
def Vl {α : Type} (m : Mem) (b : Bool) (ty : Ty α) (x : α) (v : Value) : Prop := ∃ c, v = pv (b, ty.segs x c) ∧ okS m (ty.segs x c)
theorem Vl.mono {α : Type} {m m' : Mem} (h : LeM m m') {b : Bool} {ty : Ty α} {x : α} {v : Value} (k : Vl m b ty x v) : Vl m' b ty x v := by
 obtain ⟨c, h1, h2⟩ := k
 exact ⟨c, h1, okS_mono h h2⟩
def lookE {α : Type} [DecidableEq α] (x : α) : List MapEntry → List α → Nat → Option (Nat × Value)
 | e :: es, k :: ks, i => if x = k then some (i, e.val) else lookE x es ks (i + 1)
 | _, _, _ => none
def KeysE {α : Type} (m : Mem) (b : Bool) (ty : Ty α) : List MapEntry → List α → Prop
 | [], [] => True
 | e :: es, k :: ks => Vl m b ty k e.key ∧ KeysE m b ty es ks
 | _, _ => False
structure KeyT {α : Type} [DecidableEq α] (P : Program) (kt : TypeId) (b : Bool) (ty : Ty α) : Prop where
 check : ∀ (em : Bool) (w : World) (m : Mem) (x : α) (v : Value), Vl m b ty x v → (Instr.checkKey em 10000 kt v).run P w = .ok () w
 stays : ∀ (w : World) (m m' : Mem) (x : α) (v v' : Value), Vl m b ty x v → Vl m' b ty x v' → (Instr.keyThatStays v v').run P w = .ok v' w
 find : ∀ (w : World) (m m' : Mem) (x : α) (v : Value) (es : List MapEntry) (ks : List α), Vl m b ty x v → KeysE m' b ty es ks → (Instr.findKey kt v es).run P w = .ok (lookE x es ks 0) w
def Ent {α β : Type} (m : Mem) (bk : Bool) (kt : Ty α) (bv : Bool) (vt : Ty β) : List MapEntry → List (α × β) → Prop
 | [], [] => True
 | e :: es, p :: xs => Vl m bk kt p.1 e.key ∧ Vl m bv vt p.2 e.val ∧ Ent m bk kt bv vt es xs
 | _, _ => False
section
variable {α β : Type} {m m' : Mem} {bk bv : Bool} {kt : Ty α} {vt : Ty β}
theorem Ent.mono (h : LeM m m') : ∀ {es : List MapEntry} {xs : List (α × β)}, Ent m bk kt bv vt es xs → Ent m' bk kt bv vt es xs
 | [], [], k => trivial
 | [], _ :: _, k => absurd k id
 | _ :: _, [], k => absurd k id
 | e :: es, p :: xs, k => ⟨k.1.mono h, k.2.1.mono h, Ent.mono h k.2.2⟩
theorem Ent.push {es : List MapEntry} {xs : List (α × β)} {e : MapEntry} {x : α} {y : β} [DecidableEq α] (h : Ent m bk kt bv vt es xs) (hk : Vl m bk kt x e.key) (hv : Vl m bv vt y e.val) (hn : aget xs x = none) : Ent m bk kt bv vt (es ++ [e]) (aput xs x y) := by
 induction xs generalizing es with
 | nil =>
  cases es with
  | nil => exact ⟨hk, hv, trivial⟩
  | cons => exact absurd h id
 | cons p xs ih =>
  obtain ⟨q, v⟩ := p
  cases es with
  | nil => exact absurd h id
  | cons e' es =>
   unfold aget at hn
   by_cases c : x = q
   ·rw [if_pos c] at hn; cases hn
   ·rw [if_neg c] at hn
    unfold aput
    rw [if_neg c]
    exact ⟨h.1, h.2.1, ih h.2.2 hn⟩
theorem Ent.modify [DecidableEq α] {es : List MapEntry} {xs : List (α × β)} {x : α} {y : β} {f : MapEntry → MapEntry} (h : Ent m bk kt bv vt es xs) (hk : ∀ e, Vl m bk kt x (f e).key) (hv : ∀ e, Vl m bv vt y (f e).val) (i j : Nat) {u : Value} (hj : lookE x es (xs.map Prod.fst) i = some (i + j, u)) : Ent m bk kt bv vt (es.modify j f) (aput xs x y) := by
 induction xs generalizing es i j with
 | nil => cases es <;> simp [lookE] at hj
 | cons p xs ih =>
  obtain ⟨q, v⟩ := p
  cases es with
  | nil => exact absurd h id
  | cons e es =>
   simp only [List.map_cons, lookE] at hj
   unfold aput
   by_cases c : x = q
   ·simp only [c, if_true, Option.some.injEq, Prod.mk.injEq] at hj
    obtain rfl : j = 0 := by omega
    rw [if_pos c]
    exact ⟨c ▸ hk e, hv e, h.2.2⟩
   ·simp only [c, if_false] at hj
    rw [if_neg c]
    have hlow : ∀ (es : List MapEntry) (ks : List α) (i a : Nat) (u : Value), lookE x es ks i = some (a, u) → i ≤ a := by
     intro es
     induction es with
     | nil => intro ks i a u h; cases ks <;> simp [lookE] at h
     | cons e es ih =>
      intro ks i a u h
      cases ks with
      | nil => simp [lookE] at h
      | cons k ks =>
       unfold lookE at h
       split at h
       ·simp only [Option.some.injEq, Prod.mk.injEq] at h; omega
       ·have := ih _ _ _ _ h; omega
    have := hlow _ _ _ _ _ hj
    obtain ⟨j, rfl⟩ : ∃ r, j = r + 1 := ⟨j - 1, by omega⟩
    exact ⟨h.1, h.2.1, ih h.2.2 (i + 1) j (by rw [hj]; congr 2; omega)⟩
end
def MapOk {α β : Type} (m : Mem) (bk : Bool) (kt : Ty α) (bv : Bool) (vt : Ty β) (es : Array MapEntry) (clock : Nat) (kvs : List (α × β)) : Prop :=
 Ent m bk kt bv vt es.toList kvs ∧ (kvs.map Prod.fst).Nodup ∧ (es.toList.map (·.born)).Nodup ∧ ∀ e ∈ es.toList, e.born < clock
theorem MapOk.mono {α β : Type} {m m' : Mem} {bk bv : Bool} {kt : Ty α} {vt : Ty β} {es : Array MapEntry} {clock : Nat} {kvs : List (α × β)} (h : LeM m m') (k : MapOk m bk kt bv vt es clock kvs) : MapOk m' bk kt bv vt es clock kvs := ⟨k.1.mono h, k.2⟩
def Res.map {α β : Type} (bk : Bool) (kt : Ty α) (bv : Bool) (vt : Ty β) (g : Nat) (kvs : List (α × β)) : Res where
 blk := fun k => some g = some k
 holds m w := ∃ es clock, w.heap[g]? = some (.map es clock) ∧ MapOk m bk kt bv vt es clock kvs
 frame m w w' h hh := by
  obtain ⟨es, clock, h1, h2⟩ := hh
  exact ⟨es, clock, (h g rfl).trans h1, h2⟩
 mono m m' w h hh := by
  obtain ⟨es, clock, h1, h2⟩ := hh
  exact ⟨es, clock, h1, h2.mono h⟩
 lt m w hh k hk := by
  obtain ⟨es, clock, h1, h2⟩ := hh
  obtain rfl : g = k := Option.some.inj hk
  exact (Array.getElem?_eq_some_iff.1 h1).1
def RdM {α β : Type} (bk : Bool) (kt : Ty α) (bv : Bool) (vt : Ty β) (g : Option Nat) (kvs : List (α × β)) (m : Mem) : Prop :=
 match g with
 | none => kvs = []
 | some g => ∃ es clock, m ⟨g, 0, some 0⟩ = some (encM es clock) ∧ MapOk m bk kt bv vt es clock kvs
theorem RdM.mono {α β : Type} (bk : Bool) (kt : Ty α) (bv : Bool) (vt : Ty β) (g : Option Nat) (kvs : List (α × β)) : Mono (RdM bk kt bv vt g kvs) := fun m m' hm h => by
 cases g with
 | none => exact h
 | some g =>
  obtain ⟨es, clock, h1, h2⟩ := h
  exact ⟨es, clock, hm _ _ h1, h2.mono hm⟩
theorem RdM.nil {α β : Type} (bk : Bool) (kt : Ty α) (bv : Bool) (vt : Ty β) (m : Mem) : RdM bk kt bv vt none ([] : List (α × β)) m := rfl
def MapAt {α β : Type} (m : Mem) (w : World) (bk : Bool) (kt : Ty α) (bv : Bool) (vt : Ty β) (g : Option Nat) (kvs : List (α × β)) : Prop :=
 match g with
 | none => kvs = []
 | some g => ∃ es clock, w.heap[g]? = some (.map es clock) ∧ MapOk m bk kt bv vt es clock kvs
theorem RdM.at_ {α β : Type} {m : Mem} {w : World} {bk : Bool} {kt : Ty α} {bv : Bool} {vt : Ty β} {g : Option Nat} {kvs : List (α × β)} (hf : Frz m w) (h : RdM bk kt bv vt g kvs m) : MapAt m w bk kt bv vt g kvs := by
 cases g with
 | none => exact h
 | some g =>
  obtain ⟨es, clock, h1, h2⟩ := h
  have h3 := hf _ _ h1
  unfold cellM at h3
  simp only [Option.isSome_some, if_true] at h3
  split at h3
  ·rename_i es' c' he
   obtain ⟨rfl, rfl⟩ := encM_inj (Option.some.inj h3)
   exact ⟨_, _, he, h2⟩
  ·cases h3
section
variable {P : Program} {n : Nat} {m : Mem} {w0 : Base} {l : List (Nat × D)} {H : List Res} {a : Act} {w : World}
variable {ops : Array Oper} {Q : Exit → Act → World → Prop} {rest : List Oper} {ty : TypeId} {ps : String} {af : Array Edge} {t : Nat}
variable {α β : Type} [DecidableEq α] {bk bv : Bool} {kt : Ty α} {vt : Ty β}
end
end GW
