import Derived.Test.YtdajnflppnlhiaaGreatGWMaps
import Derived.Laws.IdiomRangeMap
set_option linter.unusedVariables false
set_option linter.unusedSimpArgs false
set_option linter.unusedSectionVars false
namespace GW
open Go Go.RowKit Go.MapKept
section
variable {α β γ : Type} [DecidableEq α]
def adel (kvs : List (α × β)) (x : α) : List (α × β) := kvs.filter fun p => !decide (p.1 = x)
def remE (seen : Array Nat) : List MapEntry → List (α × β) → List (α × β)
  | e :: es, p :: xs => if seen.contains e.born then remE seen es xs else p :: remE seen es xs
  | _, _ => []
theorem remE_sub (seen : Array Nat) : ∀ (es : List MapEntry) (xs : List (α × β)), ∀ p ∈ remE seen es xs, p ∈ xs
  | [], xs, p, h => by unfold remE at h; cases h
  | e :: es, [], p, h => by unfold remE at h; cases h
  | e :: es, q :: xs, p, h => by
    unfold remE at h
    split at h
    · exact List.mem_cons_of_mem _ (remE_sub seen es xs p h)
    · rcases List.mem_cons.1 h with rfl | h
      · exact List.mem_cons_self
      · exact List.mem_cons_of_mem _ (remE_sub seen es xs p h)
theorem remE_push (seen : Array Nat) (b : Nat) : ∀ (es : List MapEntry) (xs : List (α × β)), b ∉ es.map (·.born) → remE (seen.push b) es xs = remE seen es xs
  | [], xs, h => by unfold remE; rfl
  | e :: es, [], h => by unfold remE; rfl
  | e :: es, p :: xs, h => by
    simp only [List.map_cons, List.mem_cons, not_or] at h
    have hc : (seen.push b).contains e.born = seen.contains e.born := by
      simp [Array.contains_push, Ne.symm h.1]
    unfold remE
    rw [hc, remE_push seen b es xs h.2]
theorem adel_none {R : List (α × β)} {x : α} (h : x ∉ R.map Prod.fst) : adel R x = R := by
  unfold adel
  refine List.filter_eq_self.2 fun p hp => ?_
  have : p.1 ≠ x := fun e => h (e ▸ List.mem_map.2 ⟨p, hp, rfl⟩)
  simp [this]
theorem Ent.pick {m : Mem} {bk bv : Bool} {kt : Ty α} {vt : Ty β} (seen : Array Nat) {e : MapEntry} : ∀ {es : List MapEntry} {xs : List (α × β)}, Ent m bk kt bv vt es xs → (xs.map Prod.fst).Nodup → (es.map (·.born)).Nodup → e ∈ es → seen.contains e.born = false →
    ∃ p ∈ remE seen es xs, Vl m bk kt p.1 e.key ∧ Vl m bv vt p.2 e.val ∧ remE (seen.push e.born) es xs = adel (remE seen es xs) p.1
  | [], xs, h, hk, hb, he, hs => by cases he
  | e' :: es, [], h, hk, hb, he, hs => absurd h id
  | e' :: es, p' :: xs, h, hk, hb, he, hs => by
    simp only [List.map_cons, List.nodup_cons] at hk hb
    by_cases hee : e = e'
    · subst hee
      refine ⟨p', ?_, h.1, h.2.1, ?_⟩
      · unfold remE; rw [if_neg (by rw [hs]; simp)]; exact List.mem_cons_self
      · have h1 : remE (seen.push e.born) (e :: es) (p' :: xs) = remE seen es xs := by
          rw [remE, if_pos (by simp [Array.contains_push]), remE_push seen _ es xs hb.1]
        have h2 : remE seen (e :: es) (p' :: xs) = p' :: remE seen es xs := by rw [remE, if_neg (by rw [hs]; simp)]
        rw [h1, h2]
        have h3 : adel (p' :: remE seen es xs) p'.1 = adel (remE seen es xs) p'.1 := by simp [adel]
        rw [h3, adel_none fun hm => ?_]
        obtain ⟨q, hq, hqe⟩ := List.mem_map.1 hm
        exact hk.1 (hqe ▸ List.mem_map.2 ⟨q, remE_sub seen es xs q hq, rfl⟩)
    · have he' : e ∈ es := by
        rcases List.mem_cons.1 he with h | h
        · exact absurd h hee
        · exact h
      obtain ⟨p, hp, v1, v2, hr⟩ := Ent.pick seen h.2.2 hk.2 hb.2 he' hs
      have hne : e'.born ≠ e.born := fun c => hb.1 (c ▸ List.mem_map.2 ⟨e, he', rfl⟩)
      have hc : (seen.push e.born).contains e'.born = seen.contains e'.born := by simp [Array.contains_push, hne]
      by_cases c : seen.contains e'.born = true
      · refine ⟨p, ?_, v1, v2, ?_⟩
        · rw [remE, if_pos c]; exact hp
        · rw [remE, if_pos (hc.trans c), remE, if_pos c]; exact hr
      · refine ⟨p, ?_, v1, v2, ?_⟩
        · rw [remE, if_neg c]; exact List.mem_cons_of_mem _ hp
        · rw [remE, if_neg (by rw [hc]; exact c), remE, if_neg c, hr]
          have : p'.1 ≠ p.1 := fun e => hk.1 (e ▸ List.mem_map.2 ⟨p, remE_sub seen es xs p hp, rfl⟩)
          simp [adel, this]
theorem Ent.len {m : Mem} {bk bv : Bool} {kt : Ty α} {vt : Ty β} : ∀ {es : List MapEntry} {xs : List (α × β)}, Ent m bk kt bv vt es xs → es.length = xs.length
  | [], [], _ => rfl
  | [], _ :: _, h => absurd h id
  | _ :: _, [], h => absurd h id
  | e :: es, p :: xs, h => by rw [List.length_cons, List.length_cons, Ent.len h.2.2]
end
section
variable {P : Program} {n : Nat} {m : Mem} {w0 : Base} {l : List (Nat × D)} {H : List Res} {a : Act} {w : World}
variable {ops : Array Oper} {Q : Exit → Act → World → Prop} {rest : List Oper} {ty : TypeId} {ps : String} {af : Array Edge} {t : Nat}
variable {α β : Type} [DecidableEq α] {bk bv : Bool} {kt : Ty α} {vt : Ty β}
end
end GW
