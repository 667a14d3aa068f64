import Derived.Test.YtdajnflppnlhiaaGreatGWRng
set_option linter.unusedVariables false
set_option linter.unusedSimpArgs false
set_option linter.unusedSectionVars false
namespace GW
open Go Go.RowKit Go.MapKept
section
variable {α β : Type} [DecidableEq α]
theorem aget_mem : ∀ {kvs : List (α × β)} {x : α}, aget kvs x = none → x ∉ kvs.map Prod.fst
  | [], x, _ => by simp
  | (k, v) :: r, x, h => by
    unfold aget at h
    by_cases c : x = k
    · rw [if_pos c] at h; cases h
    · rw [if_neg c] at h
      have := aget_mem h
      simp only [List.map_cons, List.mem_cons, not_or]
      exact ⟨c, this⟩
theorem lookE_low (x : α) : ∀ (es : List MapEntry) (ks : List α) (i a : Nat) (u : Value), lookE x es ks i = some (a, u) → i ≤ a
  | [], ks, i, a, u, h => by cases ks <;> simp [lookE] at h
  | e :: es, [], i, a, u, h => by simp [lookE] at h
  | e :: es, k :: ks, i, a, u, h => by
    unfold lookE at h
    split at h
    · simp only [Option.some.injEq, Prod.mk.injEq] at h; omega
    · have := lookE_low x es ks _ _ _ h; omega
theorem Ent.del {m : Mem} {bk bv : Bool} {kt : Ty α} {vt : Ty β} {x : α} {u : Value} : ∀ {es : List MapEntry} {xs : List (α × β)} (i j : Nat), Ent m bk kt bv vt es xs → (xs.map Prod.fst).Nodup → lookE x es (xs.map Prod.fst) i = some (i + j, u) → Ent m bk kt bv vt (es.eraseIdx j) (adel xs x)
  | [], [], i, j, h, hn, hl => by simp [lookE] at hl
  | [], _ :: _, i, j, h, hn, hl => absurd h id
  | _ :: _, [], i, j, h, hn, hl => absurd h id
  | e :: es, (k, v) :: xs, i, j, h, hn, hl => by
    simp only [List.map_cons, List.nodup_cons] at hn
    simp only [List.map_cons, lookE] at hl
    by_cases c : x = k
    · simp only [c, if_true, Option.some.injEq, Prod.mk.injEq] at hl
      obtain rfl : j = 0 := by omega
      subst c
      have h1 : adel ((x, v) :: xs) x = adel xs x := by simp [adel]
      rw [h1, adel_none hn.1]
      exact h.2.2
    · simp only [c, if_false] at hl
      have := lookE_low x _ _ _ _ _ hl
      obtain ⟨j, rfl⟩ : ∃ r, j = r + 1 := ⟨j - 1, by omega⟩
      have h1 : adel ((k, v) :: xs) x = (k, v) :: adel xs x := by simp [adel, Ne.symm c]
      rw [h1]
      exact ⟨h.1, h.2.1, Ent.del (i + 1) j h.2.2 hn.2 (by rw [hl]; congr 2; omega)⟩
theorem adel_nodup {kvs : List (α × β)} (h : (kvs.map Prod.fst).Nodup) (x : α) : ((adel kvs x).map Prod.fst).Nodup :=
  List.Sublist.nodup (List.Sublist.map _ List.filter_sublist) h
end
section
variable {P : Program} {n : Nat} {m : Mem} {w0 : Base} {l : List (Nat × D)} {H : List Res} {a : Act} {w : World}
variable {ops : Array Oper} {Q : Exit → Act → World → Prop} {rest : List Oper} {ty : TypeId} {ps : String} {af : Array Edge} {t : Nat}
variable {α β : Type} [DecidableEq α] {bk bv : Bool} {kt : Ty α} {vt : Ty β}
theorem run_delete {mt kt' et k2 : TypeId} {g : Nat} {kvs : List (α × β)} {x : α} {u : Value} {ty : TypeId} (hu : P.underlying mt = some (.map kt' et)) (hK : KeyT P kt' bk kt) (hr : (Res.map bk kt bv vt g kvs).holds m w) (hk : Vl m bk kt x u) :
    ∃ o, (Builtin.delete_ #[mt, k2] ty #[.map (some g), u]).run P w = .ok (.tuple #[]) { w with heap := w.heap.setIfInBounds g o } ∧ (Res.map bk kt bv vt g (adel kvs x)).holds m { w with heap := w.heap.setIfInBounds g o } := by
  obtain ⟨es, clock, h1, h2, h3, h4, h5⟩ := hr
  have hf := hK.find w m m x u es.toList _ hk h2.keys
  have hg : g < w.heap.size := (Array.getElem?_eq_some_iff.1 h1).1
  rcases Ent.look x 0 h2 with ⟨l1, l2⟩ | ⟨j, e, y', l1, l2, l3, l4, l6⟩
  · rw [l1] at hf
    refine ⟨.map es clock, ?_, es, clock, by simp [hg], ?_⟩
    · simp [Builtin.delete_, run_underlying hu, run_getObj_map h1, hK.check _ w m x u hk, hf, run_setObj_map _ h1, Result.andThen]
    · rw [adel_none (aget_mem l2)]; exact ⟨h2, h3, h4, h5⟩
  · rw [l1] at hf
    have hsub : (es.eraseIdxIfInBounds j).toList = es.toList.eraseIdx j := by
      have hj : j < es.size := by
        have := (List.getElem?_eq_some_iff.1 l3).1
        simpa using this
      unfold Array.eraseIdxIfInBounds
      rw [dif_pos hj, Array.toList_eraseIdx]
    refine ⟨.map (es.eraseIdxIfInBounds j) clock, ?_, es.eraseIdxIfInBounds j, clock, by simp [hg], ?_, adel_nodup h3 x, ?_, ?_⟩
    · have : 0 + j = j := by omega
      simp [Builtin.delete_, run_underlying hu, run_getObj_map h1, hK.check _ w m x u hk, hf, run_setObj_map _ h1, Result.andThen, this]
    · rw [hsub]; exact h2.del 0 j h3 l1
    · rw [hsub]; exact List.Sublist.nodup (List.Sublist.map _ (List.eraseIdx_sublist _ _)) h4
    · intro e' he'
      rw [hsub] at he'
      exact h5 e' ((List.eraseIdx_sublist _ _).subset he')
theorem s_delOn (S : St n m w0 l H a w) {mt kt' et k2 : TypeId} {x i : Operand} {di : D} {g : Nat} {kvs : List (α × β)} {k : α} {H' : List Res} (hx : evo l x = some (.v (.map (some g)))) (hf : Foc H (Res.map bk kt bv vt g kvs) (Res.map bk kt bv vt g (adel kvs k)) H') (hi : evo l i = some di) (hk : di.ok m → Vl m bk kt k di.val) (hu : P.underlying mt = some (.map kt' et)) (hK : KeyT P kt' bk kt)
    (K : ∀ w', St n m w0 l H' a w' → wpList P ops Q rest a w') : wpList P ops Q (⟨none, .call ⟨.builtin .delete, #[x, i], #[mt, k2]⟩, ty, ps, af, none⟩ :: rest) a w := by
  obtain ⟨o, h1, h2⟩ := run_delete (P := P) (k2 := k2) (ty := ty) hu hK (S.holds _ hf.mem) (hk (evo_ok S hi))
  refine wpList_plain rfl fun K' hK' => ?_
  have hx' : a.eval x = .map (some g) := S.evo hx
  have hrun : (execOp a.eval ⟨none, .call ⟨.builtin .delete, #[x, i], #[mt, k2]⟩, ty, ps, af, none⟩).run P w = .ok (.value (.tuple #[])) { w with heap := w.heap.setIfInBounds g o } := by
    simp only [execOp, resolve, Sem.run_bind, Sem.run_pure, Result.andThen_ok]
    simp [invoke, builtin, hx', S.evo hi, h1]
  unfold Oper.wp
  rw [hrun]
  exact hK' _ _ (K _ (S.turn hf (grownBy_putMap w g o) h2 (fun k hk => .inl hk)))
end
end GW
