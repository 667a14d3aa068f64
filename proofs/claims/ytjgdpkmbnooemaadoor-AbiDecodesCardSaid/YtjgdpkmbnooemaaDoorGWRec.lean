import Derived.Test.YtjgdpkmbnooemaaDoorGWAren
set_option linter.unusedVariables false
set_option linter.unusedSimpArgs false
namespace GW
open Go Go.RowKit
def bcut (s : ByteArray) (i j : Int) : ByteArray := ⟨⟨(s.data.toList.take j.toNat).drop i.toNat⟩⟩
theorem bcut_eq (s : ByteArray) (i j : Int) : s.extract i.toNat j.toNat = bcut s i j := by
 apply ByteArray.ext
 apply Array.toList_inj.1
 rw [ByteArray.data_extract]
 simp [bcut, List.extract_eq_drop_take', Array.toList_extract]
section
variable {P : Program} {n : Nat} {m : Mem} {w0 : Base} {l : List (Nat × D)} {H : List Res} {a : Act} {w : World}
variable {ops : Array Oper} {Q : Exit → Act → World → Prop} {rest : List Oper} {ty : TypeId} {ps : String} {af : Array Edge} {t : Nat}
theorem s_cutT (S : St n m w0 l H a w) {e : TypeId} {x : Operand} {lo hi : Option Operand} {s : ByteArray} {i j : Int} (hx : evo l x = some (.v (.string s))) (hu : P.underlying e = some .string)
  (hlo : (lo = none ∧ i = 0) ∨ ∃ o k, lo = some o ∧ evo l o = some (.v (.int k i))) (hhi : (hi = none ∧ j = s.size) ∨ ∃ o k, hi = some o ∧ evo l o = some (.v (.int k j)))
  (h0 : 0 ≤ i ∧ i ≤ j ∧ j ≤ s.size) (ht : Nat.blt t n = true)
  (K : ∀ a', St n m w0 ((t, .v (.string (bcut s i j))) :: l) H a' w → wpList P ops Q rest a' w) : wpList P ops Q (⟨some t, .slice e x lo hi none, ty, ps, af, none⟩ :: rest) a w := by
 refine s_run (dv := .v (.string (bcut s i j))) S ht rfl ?_ K
 have hx' : a.eval x = .string s := S.evo hx
 have hb := sliceBounds_run (P := P) (b := false) (len := s.size) (cap := s.size) S hlo hhi (by omega) (fun _ => by omega)
 simp only [execOp, hx', Option.map_none]
 simp [Instr.sliceAt, Instr.slice, run_underlying hu, hb, D.val, bcut_eq]
end
theorem subT_slice {α : Type} {T T' : Ty α} (h : SubT T T') : SubT (Ty.slice T) (Ty.slice T') := ⟨rfl, fun m xs c hok => by
 obtain ⟨⟨h1, h2, h3, h4⟩, -⟩ := hok
 refine ⟨c, ⟨⟨h1, h2, fun i hi => ?_, RdS.mono _ _ _⟩, trivial⟩, rfl⟩
 obtain ⟨ad, c', e1, e2, e3⟩ := h3 i hi
 obtain ⟨c2, f1, f2⟩ := h.2 m xs[i] c' e2
 exact ⟨ad, c2, e1, f1, by rw [f2, ← h.1]; exact e3⟩⟩
theorem SubT.at_ {α : Type} {T T' : Ty α} (h : SubT T T') {p : Addr} {x : α} {m : Mem} (ha : At T p x m) : At T' p x m := by
 obtain ⟨c, h1, h2⟩ := ha
 obtain ⟨c', f1, f2⟩ := h.2 m x c h1
 exact ⟨c', f1, by rw [f2]; exact h2⟩
def Ty.ptr {α : Type} (R : Option Addr → α → Mem → Prop) : Ty α := ⟨1, Option Addr, fun x c => [.rf (.pointer c) (R c x)], fun _ _ => rfl⟩
theorem subT_ptr {α : Type} {R R' : Option Addr → α → Mem → Prop} (h : ∀ c x m, R c x m → R' c x m) (hm : ∀ c x, Mono (R' c x)) : SubT (Ty.ptr R) (Ty.ptr R') :=
 ⟨rfl, fun m x c hok => ⟨c, ⟨⟨rfl, h _ _ _ hok.1.2.1, hm _ _⟩, trivial⟩, rfl⟩⟩
section
variable {α β : Type} (nn : α → Bool) (to : α → β) (U : Ty α → Ty β)
def RPs (R : Option Addr → α → Mem → Prop) (c : Option Addr) (x : α) (m : Mem) : Prop := (nn x = false → c = none) ∧ (nn x = true → ∃ a, c = some a ∧ At (U (Ty.ptr R)) a (to x) m)
def RP (c : Option Addr) (x : α) (m : Mem) : Prop := ∀ R : Option Addr → α → Mem → Prop, (∀ c x, Mono (R c x)) → (∀ c x m, RPs nn to U R c x m → R c x m) → R c x m
theorem RP.mono (c : Option Addr) (x : α) : Mono (RP nn to U c x) := fun m m' hm h R h1 h2 => h1 c x m m' hm (h R h1 h2)
theorem RPs.mono (R : Option Addr → α → Mem → Prop) (c : Option Addr) (x : α) : Mono (RPs nn to U R c x) := fun m m' hm h => ⟨h.1, fun hn => by
 obtain ⟨a, h1, h2⟩ := h.2 hn
 exact ⟨a, h1, At.mono _ _ _ m m' hm h2⟩⟩
variable {nn to U}
theorem RPs.up (hU : ∀ T T' : Ty α, SubT T T' → SubT (U T) (U T')) {R R' : Option Addr → α → Mem → Prop} (h : ∀ c x m, R c x m → R' c x m) (hm : ∀ c x, Mono (R' c x)) {c : Option Addr} {x : α} {m : Mem} (k : RPs nn to U R c x m) : RPs nn to U R' c x m :=
 ⟨k.1, fun hn => by
  obtain ⟨a, h1, h2⟩ := k.2 hn
  exact ⟨a, h1, (hU _ _ (subT_ptr h hm)).at_ h2⟩⟩
theorem RP.fold (hU : ∀ T T' : Ty α, SubT T T' → SubT (U T) (U T')) {c : Option Addr} {x : α} {m : Mem} (h : RPs nn to U (RP nn to U) c x m) : RP nn to U c x m := fun R h1 h2 =>
 h2 _ _ _ (RPs.up hU (fun c x m k => k R h1 h2) h1 h)
theorem RP.unfold (hU : ∀ T T' : Ty α, SubT T T' → SubT (U T) (U T')) {c : Option Addr} {x : α} {m : Mem} (h : RP nn to U c x m) : RPs nn to U (RP nn to U) c x m :=
 h _ (RPs.mono nn to U _) (fun c x m k => RPs.up hU (fun c x m k => RP.fold hU k) (RP.mono nn to U) k)
theorem RP.nil (hU : ∀ T T' : Ty α, SubT T T' → SubT (U T) (U T')) {x : α} (hx : nn x = false) (m : Mem) : RP nn to U none x m := RP.fold hU ⟨fun _ => rfl, fun h => by rw [hx] at h; cases h⟩
theorem okp_nil (hU : ∀ T T' : Ty α, SubT T T' → SubT (U T) (U T')) {x : α} (hx : nn x = false) {m : Mem} : (D.rf (.pointer none) (RP nn to U none x)).ok m := ⟨rfl, RP.nil hU hx m, RP.mono _ _ _ _ _⟩
end
section
variable {α β : Type} (un : α → β) (U : Ty (List α) → Ty β)
def Ty.iso {α β : Type} (un : α → β) (T : Ty β) : Ty α := ⟨T.size, T.Ch, fun x c => T.segs (un x) c, fun x c => T.len (un x) c⟩
def Ty.slR {α : Type} (R : Option Addr → List α → Mem → Prop) : Ty (List α) := ⟨1, Option Addr × Nat, fun xs c => [.sl c.1 xs.length c.2 (R c.1 xs)], fun _ _ => rfl⟩
theorem subT_slR {α : Type} {R R' : Option Addr → List α → Mem → Prop} (h : ∀ c x m, R c x m → R' c x m) (hm : ∀ c x, Mono (R' c x)) : SubT (Ty.slR R) (Ty.slR R') :=
 ⟨rfl, fun m x c hok => ⟨c, ⟨⟨hok.1.1, hok.1.2.1, h _ _ _ hok.1.2.2.1, hm _ _⟩, trivial⟩, rfl⟩⟩
theorem subT_iso {α β : Type} {un : α → β} {T T' : Ty β} (h : SubT T T') : SubT (Ty.iso un T) (Ty.iso un T') := ⟨h.1, fun m x c hok => h.2 m (un x) c hok⟩
theorem rdS_up {α : Type} {T T' : Ty α} (h : SubT T T') {A : Option Addr} {xs : List α} {m : Mem} (k : RdS T A xs m) : RdS T' A xs m := fun i hi => by
 obtain ⟨ad, c', e1, e2, e3⟩ := k i hi
 obtain ⟨c2, f1, f2⟩ := h.2 m xs[i] c' e2
 exact ⟨ad, c2, e1, f1, by rw [f2, ← h.1]; exact e3⟩
def RS (A : Option Addr) (xs : List α) (m : Mem) : Prop := ∀ R : Option Addr → List α → Mem → Prop, (∀ A xs, Mono (R A xs)) → (∀ A xs m, RdS (Ty.iso un (U (Ty.slR R))) A xs m → R A xs m) → R A xs m
theorem RS.mono (A : Option Addr) (xs : List α) : Mono (RS un U A xs) := fun m m' hm h R h1 h2 => h1 A xs m m' hm (h R h1 h2)
variable {un U}
theorem RS.eq (hU : ∀ T T' : Ty (List α), SubT T T' → SubT (U T) (U T')) : RS un U = fun A xs => RdS (Ty.iso un (U (Ty.slR (RS un U)))) A xs := by
 have up : ∀ {R R' : Option Addr → List α → Mem → Prop}, (∀ c x m, R c x m → R' c x m) → (∀ c x, Mono (R' c x)) → ∀ {A xs m}, RdS (Ty.iso un (U (Ty.slR R))) A xs m → RdS (Ty.iso un (U (Ty.slR R'))) A xs m :=
  fun h hm _ _ _ k => rdS_up (subT_iso (hU _ _ (subT_slR h hm))) k
 have fold : ∀ A xs m, RdS (Ty.iso un (U (Ty.slR (RS un U)))) A xs m → RS un U A xs m := fun A xs m h R h1 h2 => h2 _ _ _ (up (fun c x m k => k R h1 h2) h1 h)
 funext A xs m
 refine propext ⟨fun h => ?_, fold A xs m⟩
 exact h (fun A xs m => RdS (Ty.iso un (U (Ty.slR (RS un U)))) A xs m) (fun A xs => RdS.mono _ _ _) (fun A xs m k => up fold (RS.mono un U) k)
end
section
variable {P : Program} {n : Nat} {m : Mem} {w0 : Base} {l : List (Nat × D)} {H : List Res} {a : Act} {w : World}
variable {ops : Array Oper} {Q : Exit → Act → World → Prop} {rest : List Oper} {ty : TypeId} {ps : String} {af : Array Edge} {t : Nat}
variable {α β : Type} {nn : α → Bool} {to : α → β} {U : Ty α → Ty β}
def adr (c : Option Addr) : Addr := c.getD ⟨0, 0, none⟩
theorem s_nilQ (S : St n m w0 l H a w) {x : Operand} {c : Option Addr} {y : α} (hx : evo l x = some (.rf (.pointer c) (RP nn to U c y))) (hU : ∀ T T' : Ty α, SubT T T' → SubT (U T) (U T')) (hn : nn y = true) (ht : Nat.blt t n = true)
  (K : ∀ a', St n m w0 ((t, .pt (adr c) (At (U (Ty.ptr (RP nn to U))) (adr c) (to y))) :: l) H a' w → wpList P ops Q rest a' w) : wpList P ops Q (⟨some t, .nilCheck x, ty, ps, af, none⟩ :: rest) a w := by
 obtain ⟨_, hR, _⟩ := evo_ok S hx
 obtain ⟨p, rfl, hat⟩ := (RP.unfold hU hR).2 hn
 refine s_run (dv := .pt p (At (U (Ty.ptr (RP nn to U))) p (to y))) S ht ⟨hat, At.mono _ _ _⟩ ?_ K
 have hx' : a.eval x = .pointer (some p) := S.evo hx
 simp only [execOp, hx']; simp [D.val]
theorem h_nilQ {m' : Mem} {lq : List (Nat × D)} {HS : List Res} {lo : List Oper} {i : Nat} {r : Sch} {x : Operand} {c : Option Addr} {y : α} {g : Option (Nat × Bool)} (S : St n m' w0 l H a w) (C : Cls m w0 lq HS) (hc : WP_ m w0 HS w) (hle : LeM m m') (hsub : subF l lq)
  (hx : evo lq x = some (.rf (.pointer c) (RP nn to U c y))) (hU : ∀ T T' : Ty α, SubT T T' → SubT (U T) (U T')) (hn : nn y = true) (ht : Nat.blt t n = true) (hi : lo[i]? = some ⟨some t, .nilCheck x, ty, ps, af, g⟩) (hgd : GdOK lo l g)
  (K : ∀ a', St n m' w0 ((t, .pt (adr c) (At (U (Ty.ptr (RP nn to U))) (adr c) (to y))) :: l) H a' w → Cls m w0 ((t, .pt (adr c) (At (U (Ty.ptr (RP nn to U))) (adr c) (to y))) :: lq) HS → wpH P lo.toArray (NoPanic Q) (WP_ m w0 HS) r a' w) : wpH P lo.toArray (NoPanic Q) (WP_ m w0 HS) (.take i r) a w := by
 have S' := C.at_ S hsub hc
 obtain ⟨_, hR, _⟩ := evo_ok S' hx
 obtain ⟨p, rfl, hat⟩ := (RP.unfold hU hR).2 hn
 have hdv : (D.pt p (At (U (Ty.ptr (RP nn to U))) p (to y))).ok m := ⟨hat, At.mono _ _ _⟩
 refine ⟨_, .pointer (some p), (by simpa using hi), .inl ⟨hgd.wanted S, fun w' hw' => ?_⟩, K _ (S.put ht (D.ok_mono hle hdv)) ⟨fun u e hd => ?_, C.le, C.fresh, C.base, C.apart, C.frzH, C.stay⟩⟩
 ·have he : a.eval x = .pointer (some p) := S'.evo hx
  simp only [execOp, he]; simp
 ·rw [fnd_cons] at hd
  by_cases hk : t = u
  ·rw [if_pos hk] at hd
   obtain rfl := Option.some.inj hd
   exact hdv
  ·rw [if_neg hk] at hd
   exact C.ok u e hd
theorem s_eqQ (S : St n m w0 l H a w) {xt yt e : TypeId} {x y : Operand} {c : Option Addr} {z : α} (hx : evo l x = some (.rf (.pointer c) (RP nn to U c z))) (hy : evo l y = some (.v (.pointer none))) (hu : P.underlying xt = some (.pointer e)) (hU : ∀ T T' : Ty α, SubT T T' → SubT (U T) (U T')) (ht : Nat.blt t n = true)
  (K : ∀ a', St n m w0 ((t, .v (.bool (!nn z))) :: l) H a' w → wpList P ops Q rest a' w) : wpList P ops Q (⟨some t, .binOp .eql xt x y yt, ty, ps, af, none⟩ :: rest) a w := by
 have hb : c.isNone = !nn z := by
  obtain ⟨_, hR, _⟩ := evo_ok S hx
  have h := RP.unfold hU hR
  cases hn : nn z with
  | false => rw [h.1 hn]; rfl
  | true => obtain ⟨p, rfl, _⟩ := h.2 hn; rfl
 refine s_run (dv := .v (.bool (!nn z))) S ht rfl ?_ K
 have hx' : a.eval x = .pointer c := S.evo hx
 have hy' : a.eval y = .pointer none := S.evo hy
 have hp : P.underlying xt = some (.pointer (P.pointee xt)) := by rw [Program.pointee, hu]
 rw [← hb]
 simp only [execOp, hx', hy']
 simp [eqGuard_at_pointer, run_eql_pointer_nil w xt c hp, D.val]
theorem s_ldF0 {γ : Type} (S : St n m w0 l H a w) {e : TypeId} {x : Operand} {p : Addr} {ty' : Ty γ} {y : γ} {z : Nat} (vf : ty'.Ch → Value) (Rf : ty'.Ch → Mem → Prop) {c : ty'.Ch} (hC : okS m (ty'.segs y c) ∧ ∀ j v, (cellsOf (ty'.segs y c))[j]? = some v → m (p.add j) = some v) (hx : evo l x = some (.pt p (At ty' p y))) (hT : tyI P e = some (false, z))
  (hs : ∀ c, ty'.segs y c = [.rf (vf c) (Rf c)]) (ht : Nat.blt t n = true)
  (K : ∀ a', St n m w0 ((t, .rf (vf c) (Rf c)) :: l) H a' w → wpList P ops Q rest a' w) : wpList P ops Q (⟨some t, .load e x, ty, ps, af, none⟩ :: rest) a w := by
 obtain ⟨h2, h3⟩ := hC
 rw [hs] at h2 h3
 have hv : w.cell? p = some (vf c) := by
  have := S.frz.cell (h3 0 _ rfl) h2.1.1
  simpa [Addr.add] using this
 refine s_run (dv := .rf (vf c) (Rf c)) S ht h2.1 ?_ K
 have hx' : a.eval x = .pointer (some p) := S.evo hx
 simp only [execOp, hx', Instr.loadAt, Instr.sureAddr, Sem.run_bind, Sem.run_pure, Result.andThen_ok, run_loadVar_one hT hv]
 rfl
theorem s_ldF {γ : Type} (S : St n m w0 l H a w) {e : TypeId} {x : Operand} {p : Addr} {ty' : Ty γ} {y : γ} {z : Nat} (vf : ty'.Ch → Value) (Rf : ty'.Ch → Mem → Prop) (hx : evo l x = some (.pt p (At ty' p y))) (hT : tyI P e = some (false, z))
  (hs : ∀ c, ty'.segs y c = [.rf (vf c) (Rf c)]) (ht : Nat.blt t n = true)
  (K : ∀ c a', St n m w0 ((t, .rf (vf c) (Rf c)) :: l) H a' w → wpList P ops Q rest a' w) : wpList P ops Q (⟨some t, .load e x, ty, ps, af, none⟩ :: rest) a w := by
 obtain ⟨⟨c, hC⟩, _⟩ := evo_ok S hx
 exact s_ldF0 S vf Rf hC hx hT hs ht (K c)
theorem St.slotQ (S : St n m w0 l H a w) {u g : Nat} {te : TypeId} {y : α} {s : List Seg} (hU : ∀ T T' : Ty α, SubT T T' → SubT (U T) (U T')) (hn : nn y = true) (c : (U (Ty.ptr (RP nn to U))).Ch) (hr : Res.fro g te s ∈ H) (hs : s = (U (Ty.ptr (RP nn to U))).segs (to y) c) (hu : fnd l u = some (.v (.pointer (some ⟨g, 0, none⟩)))) :
  St n m w0 ((u, .rf (.pointer (some ⟨g, 0, none⟩)) (RP nn to U (some ⟨g, 0, none⟩) y)) :: l) H a w := by
 subst hs
 obtain ⟨h1, h2⟩ := S.holds _ hr
 have hf : RP nn to U (some ⟨g, 0, none⟩) y m := RP.fold hU ⟨fun h => absurd (hn.symm.trans h) (by decide), fun _ => ⟨_, rfl, c, h2, fun j v hv => ?_⟩⟩
 ·exact S.slot hu rfl ⟨rfl, hf, RP.mono _ _ _ _ _⟩
 have := h1 j v hv
 have ha : (⟨g, 0, none⟩ : Addr).add j = ⟨g, j, none⟩ := by unfold Addr.add; split <;> simp_all
 rw [ha]; exact this
theorem St.slotQ0 (S : St n m w0 l H a w) {u : Nat} {y : α} (hU : ∀ T T' : Ty α, SubT T T' → SubT (U T) (U T')) (hn : nn y = false) (hu : fnd l u = some (.v (.pointer none))) : St n m w0 ((u, .rf (.pointer none) (RP nn to U none y)) :: l) H a w :=
 S.slot hu rfl (okp_nil hU hn)
end
section
variable {P : Program} {n : Nat} {m : Mem} {w0 : Base} {l : List (Nat × D)} {H : List Res} {a : Act} {w : World}
variable {ops : Array Oper} {Q : Exit → Act → World → Prop} {rest : List Oper} {ty : TypeId} {ps : String} {af : Array Edge} {t : Nat}
theorem s_cutN (S : St n m w0 l H a w) {e et : TypeId} {x : Operand} {lo hi : Option Operand} {b : Bool} {z : Nat} (hx : evo l x = some (.v (.slice none 0 0))) (hu : P.underlying e = some (.slice et)) (hT : tyI P et = some (b, z))
  (hlo : lo = none ∨ ∃ o k, lo = some o ∧ evo l o = some (.v (.int k 0))) (hhi : hi = none ∨ ∃ o k, hi = some o ∧ evo l o = some (.v (.int k 0))) (ht : Nat.blt t n = true)
  (K : ∀ a', St n m w0 ((t, .v (.slice none 0 0)) :: l) H a' w → wpList P ops Q rest a' w) : wpList P ops Q (⟨some t, .slice e x lo hi none, ty, ps, af, none⟩ :: rest) a w := by
 have hx' : a.eval x = .slice none 0 0 := S.evo hx
 refine s_run (dv := .v (.slice none 0 0)) S ht rfl ?_ K
 have hb := sliceBounds_run (P := P) (b := true) (len := 0) (cap := 0) (i := 0) (j := 0) (lo := lo) (hi := hi) S (hlo.imp (fun h => ⟨h, rfl⟩) id) (hhi.imp (fun h => ⟨h, rfl⟩) id) (by omega) (fun _ => by omega)
 simp only [execOp, hx', Option.map_none]
 simp [Instr.sliceAt, Instr.slice, run_underlying hu, hb, run_sizeI hT, D.val]
theorem s_capN (S : St n m w0 l H a w) {e e' : TypeId} {x : Operand} (hx : evo l x = some (.v (.slice none 0 0))) (hu : P.underlying e = some (.slice e')) (ht : Nat.blt t n = true)
  (K : ∀ a', St n m w0 ((t, .v (.int .i64 0)) :: l) H a' w → wpList P ops Q rest a' w) : wpList P ops Q (⟨some t, .call ⟨.builtin .cap, #[x], #[e]⟩, ty, ps, af, none⟩ :: rest) a w :=
 s_run (dv := .v (.int .i64 0)) S ht rfl (by
  simp only [execOp, resolve]
  have hx' : a.eval x = .slice none 0 0 := S.evo hx
  simp [invoke, builtin, Builtin.cap_, hx', run_underlying hu, goInt, D.val]) K
theorem St.slotrR (S : St n m w0 l H a w) {u k cap : Nat} {A : Option Addr} {α : Type} {xs : List α} {R : Mem → Prop} (hu : fnd l u = some (.v (.slice A k cap))) (h : R m ∧ xs.length = k ∧ k ≤ cap ∧ cap ≤ maxLen) (hm : Mono R) : St n m w0 ((u, .sl A xs.length cap R) :: l) H a w := by
 obtain ⟨h1, h2, h3, h4⟩ := h
 subst h2
 exact S.slot hu rfl ⟨h3, h4, h1, hm⟩
end
def cpyG {α : Type} (xs : List α) (lo : Nat) (ys : List α) (n : Nat) : List α := xs.take lo ++ ys.take n ++ xs.drop (lo + n)
theorem cpyG_length {α : Type} (xs : List α) (lo : Nat) (ys : List α) (n : Nat) (h : lo + n ≤ xs.length) (h2 : n ≤ ys.length) : (cpyG xs lo ys n).length = xs.length := by
 simp [cpyG]; omega
section
variable {P : Program} {n : Nat} {m : Mem} {w0 : Base} {l : List (Nat × D)} {H : List Res} {a : Act} {w : World}
variable {ops : Array Oper} {Q : Exit → Act → World → Prop} {rest : List Oper} {ty : TypeId} {ps : String} {af : Array Edge} {t : Nat}
theorem segsL_split {α : Type} {T : Ty α} (xs : List α) (cs : List T.Ch) (h : cs.length = xs.length) (i : Nat) : segsL T xs cs = segsL T (xs.take i) (cs.take i) ++ segsL T (xs.drop i) (cs.drop i) := by
 rw [← segsL_append _ _ _ _ (by simp [h]), List.take_append_drop, List.take_append_drop]
theorem segsL_parts {α : Type} {T : Ty α} {xs : List α} {cs : List T.Ch} (h : cs.length = xs.length) (hok : okS m (segsL T xs cs)) (i : Nat) (hi : i ≤ xs.length) :
  okS m (segsL T (xs.take i) (cs.take i)) ∧ okS m (segsL T (xs.drop i) (cs.drop i)) ∧ (cellsOf (segsL T xs cs)).take (i * T.size) = cellsOf (segsL T (xs.take i) (cs.take i)) ∧ (cellsOf (segsL T xs cs)).drop (i * T.size) = cellsOf (segsL T (xs.drop i) (cs.drop i)) := by
 have e := segsL_split xs cs h i
 rw [e, okS_append] at hok
 have hl : (cellsOf (segsL T (xs.take i) (cs.take i))).length = i * T.size := by
  rw [segsL_len_mul _ _ (by simp [h]) hok.1, List.length_take, Nat.min_eq_left hi]
 refine ⟨hok.1, hok.2, ?_, ?_⟩
 ·rw [e, cellsOf_append, ← hl, List.take_left]
 ·rw [e, cellsOf_append, ← hl, List.drop_left]
theorem Res.row.srcV {α : Type} {T : Ty α} {e : TypeId} {A : Option Addr} {k cap lo dl : Nat} {xs : List α} (h : (Res.row T e A k cap xs).holds m w) (hd : lo + dl ≤ k) : Src m w T (atOf A cap lo T.size) ((xs.drop lo).take dl) := by
 have hk : xs.length = k := h.1
 have hc := Res.row.cap h
 rcases Nat.eq_zero_or_pos dl with h0 | h0
 ·subst h0
  refine ⟨[], by simp, trivial, ?_⟩
  have e0 : (xs.drop lo).take 0 = [] := by simp
  cases ha : atOf A cap lo T.size with
  | none => exact .inl ⟨rfl, e0⟩
  | some ad => exact .inr ⟨ad, rfl, fun j u hu => by rw [e0] at hu; simp [segsL, cellsOf] at hu⟩
 ·obtain ⟨g, cur, cs, rfl, _, c1, c2, c3, c4, c5, c6, c7⟩ := Res.row.at_ h (by omega)
  have hne : cap ≠ lo := by omega
  obtain ⟨-, p2, -, p4⟩ := segsL_parts c5 c6 lo (by omega)
  obtain ⟨q1, -, q3, -⟩ := segsL_parts (T := T) (xs := xs.drop lo) (cs := cs.drop lo) (by simp [c5]) p2 dl (by simp; omega)
  refine ⟨(cs.drop lo).take dl, by simp [c5], q1, .inr ⟨⟨g, lo * T.size, none⟩, ?_, fun j u hu => ?_⟩⟩
  ·simp only [atOf, if_neg hne, Option.map_some]; congr 1; unfold Addr.add; split <;> simp_all
  ·have ha : (⟨g, lo * T.size, none⟩ : Addr).add j = ⟨g, lo * T.size + j, none⟩ := by unfold Addr.add; split <;> simp_all
   rw [ha, cell_of_row w g _ cur e (0, 0) c1]
   have hj := (List.getElem?_eq_some_iff.1 hu).1
   rw [← q3, List.length_take] at hj
   rw [← q3, List.getElem?_take_of_lt (by omega), ← p4, List.getElem?_drop, ← c7] at hu
   have hlt : lo * T.size + j < (cur.toList.take (k * T.size)).length := (List.getElem?_eq_some_iff.1 hu).1
   rw [List.getElem?_take_of_lt (by rw [List.length_take] at hlt; omega)] at hu
   simpa using hu
theorem s_copyV {α : Type} (S : St n m w0 l H a w) {dT sT e ee : TypeId} {x y : Operand} {dl dc lo N c2 rk cap : Nat} {b : Bool} {T : Ty α} {xs ys : List α} {dy : D} {A A' A2 : Option Addr} {H' : List Res} (hx : evo l x = some (.v (.slice A' dl dc))) (hf : Foc H (Res.row T ee A rk cap xs) (Res.row T ee A rk cap (cpyG xs lo ys N)) H')
  (hA : A' = atOf A cap lo T.size ∨ (lo = 0 ∧ A' = A)) (hd : lo + dl ≤ rk) (hy : evo l y = some dy) (hyv : dy.val = .slice A2 ys.length c2) (hsrc : Src m w T A2 ys) (hN : min ys.length dl = N) (hu : P.underlying dT = some (.slice e)) (hT : tyI P e = some (b, T.size)) (ht : Nat.blt t n = true)
  (K : ∀ a' w', St n m w0 ((t, .v (.int .i64 (N : Int))) :: l) H' a' w' → wpList P ops Q rest a' w') : wpList P ops Q (⟨some t, .call ⟨.builtin .copy, #[x, y], #[dT, sT]⟩, ty, ps, af, none⟩ :: rest) a w := by
 have hr := S.holds _ hf.mem
 have hk : xs.length = rk := hr.1
 have hcap := Res.row.cap hr
 have hx' : a.eval x = .slice A' dl dc := S.evo hx
 have hy' : a.eval y = .slice A2 ys.length c2 := (S.evo hy).trans hyv
 obtain ⟨dd, inf, _, i1, _, i2⟩ := tyI_some hT
 have hse : (Go.sizeOf e).run P w = .ok T.size w := by rw [run_szOf i1, i2]
 have hmin : Nat.min ys.length dl = N := hN
 obtain ⟨ds, d1, d2, d3⟩ := hsrc
 rcases Nat.eq_zero_or_pos N with h0 | h0
 ·refine s_runw (dv := .v (.int .i64 (N : Int))) (w' := w) (m' := m) (H' := H') S ht rfl ?_ (S.same hf ?_ (fun k hk => .inl hk)) (K · w)
  ·simp only [execOp, resolve]
   have h0' : ∀ B : Option Addr, (Builtin.firstCells T.size 0 (.slice B ys.length c2)).run P w = .ok #[] w := fun B => by cases B <;> simp [Builtin.firstCells, loadCells, loadCellsFrom]
   subst h0
   cases A' <;> simp [invoke, builtin, hx', hy', D.val, Builtin.copy_, run_underlying hu, hse, hmin, Builtin.lenOf, h0', storeCells, goInt]
  ·have e0 : cpyG xs lo ys N = xs := by simp [cpyG, h0]
   rw [e0]; exact hr
 ·obtain ⟨g, cur, cs, rfl, _, c1, c2', c3, c4, c5, c6, c7⟩ := Res.row.at_ hr (by omega)
  have hA' : A' = some ⟨g, lo * T.size, none⟩ := by
   rcases hA with h | ⟨h, h'⟩
   ·have hne : cap ≠ lo := by omega
    rw [h]; simp only [atOf, if_neg hne, Option.map_some]; congr 1; unfold Addr.add; split <;> simp_all
   ·rw [h', h, Nat.zero_mul]
  subst hA'
  rcases d3 with ⟨-, rfl⟩ | ⟨ad, rfl, hcell⟩
  ·simp at hN; omega
  obtain ⟨s1, -, s3, -⟩ := segsL_parts d1 d2 N (by omega)
  obtain ⟨t1, -, t3, -⟩ := segsL_parts c5 c6 lo (by omega)
  obtain ⟨-, u2, -, u4⟩ := segsL_parts c5 c6 (lo + N) (by omega)
  have hvl : (cellsOf (segsL T (ys.take N) (ds.take N))).length = N * T.size := by
   rw [segsL_len_mul _ _ (by simp [d1]) s1, List.length_take, Nat.min_eq_left (by omega)]
  have hcl : cur.toList.length = cap * T.size := by rw [Array.length_toList]; exact c4
  have hcR : (lo + N) * T.size ≤ rk * T.size := Nat.mul_le_mul_right _ (by omega)
  have hrC : rk * T.size ≤ cap * T.size := Nat.mul_le_mul_right _ hcap.1
  have hmulA : (lo + N) * T.size = lo * T.size + N * T.size := Nat.add_mul _ _ _
  have c1' : w.heap[g]? = some (.cells cur.toList.toArray ee (0, 0)) := by rw [Array.toArray_toList]; exact c1
  obtain ⟨w', r1, r2, r3⟩ := run_storeCells (P := P) g ee (fun _ => True) (cellsOf (segsL T (ys.take N) (ds.take N))) (lo * T.size) 0 w cur.toList c1' (by rw [hvl]; omega) (fun v hv => plain_cells s1 v hv)
  have hld : (loadCells ad (N * T.size)).run P w = .ok (cellsOf (segsL T (ys.take N) (ds.take N))).toArray w := by
   have := loadCellsFrom_add (P := P) ad w (cellsOf (segsL T (ys.take N) (ds.take N))) 0 #[] (fun j v hv => by
    rw [Nat.zero_add]
    refine hcell j v ?_
    have hj := (List.getElem?_eq_some_iff.1 hv).1
    rw [← s3, List.length_take] at hj
    rw [← s3, List.getElem?_take_of_lt (by omega)] at hv
    exact hv)
   rw [hvl] at this
   simpa [loadCells] using this
  have hne0 : N ≠ 0 := by omega
  refine s_runw (dv := .v (.int .i64 (N : Int))) (w' := w') (m' := m) (H' := H') S ht rfl ?_ (S.turn hf r3 ?_ (fun k hk => .inl hk)) (K · w')
  ·simp only [execOp, resolve]
   simp [invoke, builtin, hx', hy', D.val, Builtin.copy_, run_underlying hu, hse, hmin, Builtin.lenOf, Builtin.firstCells, hld, r1, goInt, hne0]
  ·have hlenN : (cpyG xs lo ys N).length = xs.length := cpyG_length _ _ _ _ (by omega) (by omega)
   have hcsl : (cpyG cs lo ds N).length = (cpyG xs lo ys N).length := by rw [hlenN, cpyG_length _ _ _ _ (by omega) (by omega), c5]
   have hseg : segsL T (cpyG xs lo ys N) (cpyG cs lo ds N) = segsL T (xs.take lo) (cs.take lo) ++ segsL T (ys.take N) (ds.take N) ++ segsL T (xs.drop (lo + N)) (cs.drop (lo + N)) := by
    unfold cpyG
    rw [segsL_append _ _ _ _ (by simp [c5, d1]), segsL_append _ _ _ _ (by simp [c5])]
   have hcells : cellsOf (segsL T (cpyG xs lo ys N) (cpyG cs lo ds N)) = cellsOf (segsL T (xs.take lo) (cs.take lo)) ++ cellsOf (segsL T (ys.take N) (ds.take N)) ++ cellsOf (segsL T (xs.drop (lo + N)) (cs.drop (lo + N))) := by
    rw [hseg, cellsOf_append, cellsOf_append]
   have hokk : okS m (segsL T (cpyG xs lo ys N) (cpyG cs lo ds N)) := by rw [hseg, okS_append, okS_append]; exact ⟨⟨t1, s1⟩, u2⟩
   refine ⟨by rw [hlenN]; exact hk, _, hcsl, hokk, ?_, ?_⟩
   ·rw [segsL_len_mul _ _ hcsl hokk, hlenN, hk]
   ·refine .inr ⟨g, cap, _, rfl, Nat.zero_le _, r2, c2', c3, ?_, ?_⟩
    ·simp only [List.size_toArray, List.length_append, List.length_take, List.length_drop, hvl]
     omega
    ·rw [hcells]
     simp only [List.toList_toArray, Nat.add_zero]
     have e1 : cur.toList.take (lo * T.size) = cellsOf (segsL T (xs.take lo) (cs.take lo)) := by rw [← t3, ← c7, List.take_take, Nat.min_eq_left (by omega)]
     have e2 : (cur.toList.drop (lo * T.size + N * T.size)).take (rk * T.size - (lo * T.size + N * T.size)) = cellsOf (segsL T (xs.drop (lo + N)) (cs.drop (lo + N))) := by
      rw [← u4, ← c7, hmulA, List.drop_take]
     have e3 : (cellsOf (segsL T (xs.take lo) (cs.take lo))).length = lo * T.size := by rw [← e1, List.length_take]; omega
     rw [hvl, e1, List.take_append, List.take_of_length_le (by rw [List.length_append, e3, hvl]; omega)]
     congr 1
     rw [List.length_append, e3, hvl, e2]
end
end GW
