import Derived.Test.YtnloindmiejbeaaGWAren
set_option linter.unusedVariables false
set_option linter.unusedSimpArgs false
namespace GW
open Go Go.RowKit
section
variable {P : Program} {n : Nat} {m : Mem} {w0 : Base} {l : List (Nat × D)} {H : List Res} {a : Act} {w : World}
variable {ops : Array Oper} {Q : Exit → Act → World → Prop} {rest : List Oper} {ty : TypeId} {ps : String} {af : Array Edge} {t : Nat}
end
theorem SubT.at_ {α : Type} {T T' : Ty α} (h : SubT T T') {p : Addr} {x : α} {m : Mem} (ha : At T p x m) : At T' p x m := by
  obtain ⟨c, h1, h2⟩ := ha
  obtain ⟨c', f1, f2⟩ := h.2 m x c h1
  exact ⟨c', f1, by rw [f2]; exact h2⟩
def Ty.ptr {α : Type} (R : Option Addr → α → Mem → Prop) : Ty α := ⟨1, Option Addr, fun x c => [.rf (.pointer c) (R c x)], fun _ _ => rfl⟩
theorem subT_ptr {α : Type} {R R' : Option Addr → α → Mem → Prop} (h : ∀ c x m, R c x m → R' c x m) (hm : ∀ c x, Mono (R' c x)) : SubT (Ty.ptr R) (Ty.ptr R') :=
  ⟨rfl, fun m x c hok => ⟨c, ⟨⟨rfl, h _ _ _ hok.1.2.1, hm _ _⟩, trivial⟩, rfl⟩⟩
section
variable {α β : Type} (nn : α → Bool) (to : α → β) (U : Ty α → Ty β)
def RPs (R : Option Addr → α → Mem → Prop) (c : Option Addr) (x : α) (m : Mem) : Prop := (nn x = false → c = none) ∧ (nn x = true → ∃ a, c = some a ∧ At (U (Ty.ptr R)) a (to x) m)
def RP (c : Option Addr) (x : α) (m : Mem) : Prop := ∀ R : Option Addr → α → Mem → Prop, (∀ c x, Mono (R c x)) → (∀ c x m, RPs nn to U R c x m → R c x m) → R c x m
theorem RP.mono (c : Option Addr) (x : α) : Mono (RP nn to U c x) := fun m m' hm h R h1 h2 => h1 c x m m' hm (h R h1 h2)
theorem RPs.mono (R : Option Addr → α → Mem → Prop) (c : Option Addr) (x : α) : Mono (RPs nn to U R c x) := fun m m' hm h => ⟨h.1, fun hn => by
  obtain ⟨a, h1, h2⟩ := h.2 hn
  exact ⟨a, h1, At.mono _ _ _ m m' hm h2⟩⟩
variable {nn to U}
theorem RPs.up (hU : ∀ T T' : Ty α, SubT T T' → SubT (U T) (U T')) {R R' : Option Addr → α → Mem → Prop} (h : ∀ c x m, R c x m → R' c x m) (hm : ∀ c x, Mono (R' c x)) {c : Option Addr} {x : α} {m : Mem} (k : RPs nn to U R c x m) : RPs nn to U R' c x m :=
  ⟨k.1, fun hn => by
    obtain ⟨a, h1, h2⟩ := k.2 hn
    exact ⟨a, h1, (hU _ _ (subT_ptr h hm)).at_ h2⟩⟩
theorem RP.fold (hU : ∀ T T' : Ty α, SubT T T' → SubT (U T) (U T')) {c : Option Addr} {x : α} {m : Mem} (h : RPs nn to U (RP nn to U) c x m) : RP nn to U c x m := fun R h1 h2 =>
  h2 _ _ _ (RPs.up hU (fun c x m k => k R h1 h2) h1 h)
theorem RP.unfold (hU : ∀ T T' : Ty α, SubT T T' → SubT (U T) (U T')) {c : Option Addr} {x : α} {m : Mem} (h : RP nn to U c x m) : RPs nn to U (RP nn to U) c x m :=
  h _ (RPs.mono nn to U _) (fun c x m k => RPs.up hU (fun c x m k => RP.fold hU k) (RP.mono nn to U) k)
theorem RP.nil (hU : ∀ T T' : Ty α, SubT T T' → SubT (U T) (U T')) {x : α} (hx : nn x = false) (m : Mem) : RP nn to U none x m := RP.fold hU ⟨fun _ => rfl, fun h => by rw [hx] at h; cases h⟩
end
section
variable {α β : Type} (un : α → β) (U : Ty (List α) → Ty β)
variable {un U}
end
section
variable {P : Program} {n : Nat} {m : Mem} {w0 : Base} {l : List (Nat × D)} {H : List Res} {a : Act} {w : World}
variable {ops : Array Oper} {Q : Exit → Act → World → Prop} {rest : List Oper} {ty : TypeId} {ps : String} {af : Array Edge} {t : Nat}
variable {α β : Type} {nn : α → Bool} {to : α → β} {U : Ty α → Ty β}
end
section
variable {P : Program} {n : Nat} {m : Mem} {w0 : Base} {l : List (Nat × D)} {H : List Res} {a : Act} {w : World}
variable {ops : Array Oper} {Q : Exit → Act → World → Prop} {rest : List Oper} {ty : TypeId} {ps : String} {af : Array Edge} {t : Nat}
end
section
variable {P : Program} {n : Nat} {m : Mem} {w0 : Base} {l : List (Nat × D)} {H : List Res} {a : Act} {w : World}
variable {ops : Array Oper} {Q : Exit → Act → World → Prop} {rest : List Oper} {ty : TypeId} {ps : String} {af : Array Edge} {t : Nat}
end
end GW
