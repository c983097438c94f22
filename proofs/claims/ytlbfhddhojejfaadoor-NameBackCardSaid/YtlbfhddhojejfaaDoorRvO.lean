/- Operations in the order of the text. -/
import Derived.Test.YtlbfhddhojejfaaDoorRvN
import Derived.Tactics
import Derived.Deep.LoopGhost
set_option linter.all false
namespace Rv
open Go

section
variable {P : Program} {C : Ctx} {γ : Gam} {w : World} {R : Type} {r : R}

/-- What stays of a frame. -/
structure Good (E : Env R) (a : Act) : Prop where
  size : a.tmps.size = E.N
  defers : a.defers = []

theorem Good.put {E : Env R} {a : Act} (g : Good E a) (d : Option Nat) (v : Value) : Good E (a.put d v) := by
  cases d with
  | none => exact g
  | some d => exact ⟨by simpa [Act.put] using g.size, g.defers⟩

/-- What is to be shown behind: from whatever state that the continuation takes. -/
def NextOk (C : Ctx) (E : Env R) (r : R) (K : St → Option R) (Q : Act → World → Prop) : Prop :=
  ∀ γ st a w, Rel C γ w st a.tmps → Good E a → K st = some r → Q a w

theorem yielded_of {st : St} {a : Act} (R' : Rel C γ w st a.tmps) {ops : Array Oper} {j d : Nat} (hd : (ops[j]?).bind (·.dst) = some d) {v : V} (hs : st.s[d]? = some v) : ∃ u, a.tmps[d]? = some u ∧ RepV C γ st.h w v u ∧ yielded ops a.tmps j = (match u with | .bool b => some b | _ => none) := by
  have hlt : d < a.tmps.size := by rw [R'.size]; exact (List.getElem?_eq_some_iff.1 hs).1
  refine ⟨a.tmps[d], by simp [hlt], ?_, ?_⟩
  · have := R'.slot d v hs
    simpa [Array.getD, hlt] using this
  · unfold yielded
    rw [hd]
    simp only [Option.bind_some, Array.getElem?_eq_getElem hlt]
    cases a.tmps[d] <;> rfl

/-- A guard that is met. -/
theorem wanted_yes {st : St} {a : Act} (R' : Rel C γ w st a.tmps) {ops : Array Oper} {o : Oper} {j d : Nat} {want : Bool} (hg : o.guard = some (j, want)) (hd : (ops[j]?).bind (·.dst) = some d) (hs : st.s[d]? = some (.v (.c (.bool want)))) :
    Region.wanted o (yielded ops a.tmps) = true := by
  obtain ⟨u, hu, hr, hy⟩ := yielded_of R' hd hs
  have : u = .bool want := hr
  subst this
  simp [Region.wanted, hg, hy]

/-- A guard that is not met. -/
theorem wanted_no {st : St} {a : Act} (R' : Rel C γ w st a.tmps) {ops : Array Oper} {o : Oper} {j d : Nat} {want : Bool} (hg : o.guard = some (j, want)) (hd : (ops[j]?).bind (·.dst) = some d) (hs : st.s[d]? = some (.v (.c (.bool !want))) ∨ st.s[d]? = some (.tup [])) :
    Region.wanted o (yielded ops a.tmps) = false := by
  rcases hs with hs | hs
  · obtain ⟨u, hu, hr, hy⟩ := yielded_of R' hd hs
    have : u = .bool !want := hr
    subst this
    simp [Region.wanted, hg, hy]
  · obtain ⟨u, hu, hr, hy⟩ := yielded_of R' hd hs
    obtain ⟨vs, rfl, hv⟩ := hr
    simp [Region.wanted, hg, hy]

theorem St.put_same {st : St} {d : Nat} {v : V} (h : st.s[d]? = some v) : st.put (some d) v = st := by
  obtain ⟨hl, he⟩ := List.getElem?_eq_some_iff.1 h
  show (⟨st.s.set d v, st.h⟩ : St) = st
  have : st.s.set d v = st.s := by rw [← he]; exact List.set_getElem_self hl
  rw [this]

theorem rep_undef {h : Heap} : RepV C γ h w (.tup []) undef := ⟨[], rfl, trivial⟩

theorem evalOps_sound {E : Env R} (hE : EnvOk P C.L C.nl E) {ops : Array Oper} {Q : Exit → Act → World → Prop} : ∀ {l : List Oper} {st : St} {a : Act} {w : World} {γ : Gam} {K : St → Option R}, Rel C γ w st a.tmps → Good E a → evalOps E ops l st K = some r →
    NextOk C E r K (Q .normal) → wpList P ops Q l a w
  | [], st, a, w, γ, K, R', G, he, hK => hK γ st a w R' G he
  | o :: l, st, a, w, γ, K, R', G, he, hK => by
    have go : ∀ {K' : Dl → Option R}, evalF E st o K' = some r → (∀ x, K' x = evalOps E ops l (st.app o.dst x) K) → Region.wanted o (yielded ops a.tmps) = true → wpList P ops Q (o :: l) a w := by
      intro K' h1 h2 h3
      obtain ⟨x, hx, hok⟩ := evalF_sound hE R' h1
      unfold wpList
      rw [if_pos h3]
      refine .inl (hok _ _ fun γ' w' val R1 => ?_)
      rw [h2] at hx
      exact evalOps_sound hE R1 (G.put _ _) hx hK
    simp only [evalOps] at he
    split at he
    · rename_i hg
      exact go (K' := fun x => evalOps E ops l (st.app o.dst x) K) he (fun _ => rfl) (by simp [Region.wanted, hg])
    · rename_i j want hg
      split at he
      · cases he
      · rename_i d hd
        split at he
        · rename_i b hs
          split at he
          · rename_i hb
            subst hb
            rw [St.put_same hs] at he
            exact go (K' := fun x => evalOps E ops l (st.app o.dst x) K) he (fun _ => rfl) (wanted_yes R' hg hd hs)
          · rename_i hb
            have hb' : b = !want := by cases b <;> cases want <;> simp_all
            subst hb'
            rw [St.put_same hs] at he
            unfold wpList
            rw [if_neg (by rw [wanted_no R' hg hd (.inl hs)]; simp)]
            exact evalOps_sound hE (R'.put o.dst rep_undef) (G.put _ _) he hK
        · rename_i hs
          unfold wpList
          rw [if_neg (by rw [wanted_no R' hg hd (.inr hs)]; simp)]
          exact evalOps_sound hE (R'.put o.dst rep_undef) (G.put _ _) he hK
        · cases he

end
end Rv
