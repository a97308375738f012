/- A library of this session: what is read later is kept; cuts; loops. -/
import Derived.Test.YtoakchnegkmepaaM28
set_option linter.unusedVariables false
set_option linter.unusedSimpArgs false
namespace Go.Pv

def normG (keep : List Nat) (v : List (Nat × Ct)) : List Nat → List (Nat × Ct)
  | [] => []
  | k :: r => (k, keepC keep (lk v k)) :: normG keep v r

/-- The slots of a list, in its order. -/
def St.norm (st : St) (keep : List Nat) : St := ⟨normG keep st.v keep, st.B⟩

theorem lk_normG (keep : List Nat) (v : List (Nat × Ct)) : ∀ (l : List Nat) (s : Nat), lk (normG keep v l) s = if memN l s then keepC keep (lk v s) else .dead
  | [], s => by simp [normG, lk, memN]
  | k :: r, s => by
    simp only [normG, lk, memN]
    by_cases h : k = s
    · subst h; simp
    · simp only [h, if_false]; exact lk_normG keep v r s

theorem keepC_sh (keep : List Nat) (m : MV) : keepC keep (.sh m) = .sh m := rfl
theorem keepC_own (keep : List Nat) (sz : Nat) (m : MV) : keepC keep (.own sz m) = .own sz m := rfl
theorem keepC_dead (keep : List Nat) : keepC keep .dead = .dead := rfl
theorem keepC_als (keep : List Nat) (s : Nat) : keepC keep (.al (.slot s)) = if memN keep s then .al (.slot s) else .dead := rfl
theorem keepC_alc (keep : List Nat) (k o : Nat) : keepC keep (.al (.cell k o)) = .al (.cell k o) := rfl
theorem keepC_eas (keep : List Nat) (s i o : Nat) : keepC keep (.eadr (.slot s) i o) = if memN keep s then .eadr (.slot s) i o else .dead := rfl
theorem keepC_eac (keep : List Nat) (k c i o : Nat) : keepC keep (.eadr (.cell k c) i o) = .eadr (.cell k c) i o := rfl
theorem keepC_tupc (keep : List Nat) (cs : List (Option Nat × MV)) : keepC keep (.tupc cs) = .tupc cs := rfl

section
variable {P : Program} {nt : Nat} {st : St} {Q : PX → St → Prop}

theorem Rel.norm {γ : List Nat} {ω : Own} {w : World} {a : Act} (h : Rel γ ω w nt st a) (keep : List Nat) : Rel γ ω w nt (st.norm keep) a :=
  (h.keep keep).ext rfl (fun s => by
    show lk (normG keep st.v keep) s = lk (keepS keep st.v) s
    rw [lk_normG, lk_keepS])

theorem PW.weakN {c : Code} (keep : List Nat) (h : PW P nt c (st.norm keep) Q) : PW P nt c st Q := fun γ ω w a R hr hk => h γ ω w a R (hr.norm keep) hk

/-- Which slots are read behind a region. -/
def kpAt : List (Nat × List Nat) → Nat → List Nat
  | [], _ => []
  | (k, l) :: r, i => if k = i then l else kpAt r i

theorem PW.sregN (kt : List (Nat × List Nat)) (fz : List Nat) {id : Nat} {ops : Array Oper} {y : Code} (h : ∀ K : St → Prop, (∀ st', PW P nt y (st'.norm (kpAt kt id)) Q → K st') → runQ P nt fz (ops.toList.map (·.dst)) ops.toList st K) : PW P nt (.seq (.region id ops false) y) st Q :=
  PW.sregQ fz (fun K hK => h K (fun st' hp => hK st' (PW.weakN _ hp)))

theorem PW.sdrawM (kt : List (Nat × List Nat)) (fz : List Nat) {id : Nat} {ops : Array Oper} {y : Code} (hm : P.follows .mixedOrders = true) (hreg : regOk ops = true) (h : ∀ K : St → Prop, (∀ st', PW P nt y (st'.norm (kpAt kt id)) Q → K st') → DrN P nt fz ops 0 ops.toList [] st K) : PW P nt (.seq (.region id ops true) y) st Q :=
  PW.sdrawN fz hm hreg (fun K hK => h K (fun st' hp => hK st' (PW.weakN _ hp)))

/-- Every way through x ends here. -/
theorem PW.cut (keep : List Nat) (S : St) {x y : Code} (h : PW P nt x st (thenQ (fun st' => st'.norm keep = S) Q)) (h2 : PW P nt y S Q) : PW P nt (.seq x y) st Q := by
  refine PW.seq (fun K hK => h.mono (fun e st' he => ?_))
  cases e with
  | normal => exact hK st' (PW.weakN keep (by rw [show st'.norm keep = S from he]; exact h2))
  | _ => exact he

/-- The same, where the end has a name and a condition. -/
theorem PW.cutE {σ : Type} (keep : List Nat) (S : σ → St) (I : σ → Prop) {x y : Code} (h : PW P nt x st (thenQ (fun st' => ∃ s, st'.norm keep = S s ∧ I s) Q)) (h2 : ∀ s, I s → PW P nt y (S s) Q) : PW P nt (.seq x y) st Q := by
  refine PW.seq (fun K hK => h.mono (fun e st' he => ?_))
  cases e with
  | normal =>
    obtain ⟨s, e1, hs⟩ := he
    exact hK st' (PW.weakN keep (by rw [e1]; exact h2 s hs))
  | _ => exact he

/-- A loop: what its slots hold, by a ghost. -/
theorem PW.loopN {σ : Type} (keep : List Nat) (S : σ → St) (I : σ → Prop) (μ : σ → Nat) {c : Code} (s0 : σ) (h0 : st.norm keep = S s0) (hI : I s0)
    (round : ∀ s, I s → PW P nt c (S s) (thenQ (fun st' => ∃ s', st'.norm keep = S s' ∧ I s' ∧ μ s' < μ s) Q)) : PW P nt (.loop c) st Q := by
  refine PW.loop (fun s st' => st'.norm keep = S s ∧ I s) μ s0 ⟨h0, hI⟩ (fun s st' hs => ?_)
  obtain ⟨h1, h2⟩ := hs
  refine PW.weakN keep ?_
  rw [h1]
  refine (round s h2).mono (fun e st'' he => ?_)
  cases e with
  | normal =>
    obtain ⟨s', e1, e2, e3⟩ := he
    exact ⟨s', ⟨e1, e2⟩, e3⟩
  | _ => exact he

end
end Go.Pv
