/- A library of this session: one operation. -/
import Derived.Test.YtoakchnegkmepaaM19b
set_option linter.unusedVariables false
set_option linter.unusedSimpArgs false
namespace Go.Pv

def memN : List Nat → Nat → Bool
  | [], _ => false
  | a :: r, s => if a = s then true else memN r s

section
variable {P : Program} {γ : List Nat} {ω : Own} {w : World} {nt : Nat} {st : St} {a : Act}

/-- A call: by one of the contracts. -/
def calP (P : Program) (st : St) (dst : Option Tmp) (f : Operand) (xs : List Operand) (K : St → Prop) : Prop := callP P st dst f xs K ∨ callBP P st dst f xs K

theorem calP_lent {dst : Option Tmp} {f : Operand} {xs : List Operand} {K : St → Prop} {g : FuncId} {cs ms : List MV} {r : Res} (hf : fnOf st f = some (g, cs)) (hms : opvs st xs = some ms) (hs : Spec P g (ms ++ cs) r) (hfl : flatR r = true) (hK : K (putO st dst (resC r))) : calP P st dst f xs K := by
  refine .inl ?_
  unfold callP
  rw [hf]; simp only [hms]
  exact .inl ⟨r, hs, hfl, hK⟩

theorem calP_ret {dst : Option Tmp} {f : Operand} {xs : List Operand} {K : St → Prop} {g : FuncId} {cs ms ms' : List MV} {r : Res} (hf : fnOf st f = some (g, cs)) (hms : opvs st xs = some ms') (hsv : shvs (retOs st xs) xs = some ms) (hs : Spec P g (ms.map MV.top ++ cs) r) (hK : K (putO (retOs st xs) dst (resC r))) : calP P st dst f xs K := by
  refine .inl ?_
  unfold callP
  rw [hf]; simp only [hms, hsv]
  exact .inr ⟨r, hs, hK⟩

theorem calP_box {dst : Option Tmp} {f : Operand} {xs : List Operand} {K : St → Prop} {g : FuncId} {cs ms : List MV} {r : Res} {B' : List (Option (List Ct))} (hf : fnOf st f = some (g, cs)) (hsv : shvs (retOs st xs) xs = some ms) (hs : SpecB P g (ms.map MV.top ++ cs) (retOs st xs).B r B') (hK : K (putO ⟨killB (retOs st xs).v, B'⟩ dst (resC r))) : calP P st dst f xs K := by
  refine .inr ?_
  unfold callBP
  rw [hf]; simp only [hsv]
  exact ⟨r, B', hs, hK⟩

def stoP (P : Program) (st : St) (T : TypeId) (ad x : Operand) (K : St → Prop) : Prop :=
  match ad with
  | .tmp t => match lk st.v t with
    | .eadr p i off => stoE P st T p i off x K
    | .sh (.ptr _ _) => stoB P st T (.tmp t) x K
    | _ => False
  | _ => False

def opP (P : Program) (nt : Nat) (fz : List Nat) (o : Oper) (st : St) (K : St → Prop) : Prop :=
  dOk o.dst nt ∧ (match o.op with
    | .assign x => match o.dst with
      | some d => asgP P st o.type d x K
      | none => False
    | .call c => match c.callee with
      | .value f => calP P st o.dst f c.args.toList K
      | .builtin .append => match o.dst with
        | some d => appP P st d c K
        | none => False
      | _ => pureP P st (.call c) (fun ct => K (putO st o.dst ct))
    | .makeSlice T l c => match o.dst with
      | some d => mkP P st d T l c K
      | none => False
    | .buildSlice T len parts => match o.dst with
      | some d => bsP P st d T len parts.toList K
      | none => False
    | .build T parts => bldP P st o.dst T parts.toList K
    | .box T x => boxP (match o.dst with | some d => memN fz d | none => false) st o.dst x K
    | .alloc T => aloP P (match o.dst with | some d => memN fz d | none => false) st o.dst T K
    | .store T ad x => o.dst = none ∧ stoP P st T ad x K
    | .convert s T x => (match o.dst, opv st x, kdOf P T with
      | some d, some (.str _), .slice _ => strB P st d s T x K
      | _, _, _ => pureP P st (.convert s T x) (fun ct => K (putO st o.dst ct)))
    | op => pureP P st op (fun ct => K (putO st o.dst ct)))

theorem op_pure (h : Rel γ ω w nt st a) {o : Oper} (hd : dOk o.dst nt) {K : St → Prop} (hx : pureP P st o.op (fun ct => K (putO st o.dst ct))) (Q : Exit → Act → World → Prop) :
    o.wp P a w (fun a' w' => ∃ γ' ω' st', Chg NotOuter γ ω w γ' ω' w' ∧ Rel γ' ω' w' nt st' a' ∧ K st') Q := by
  obtain ⟨c, v, h1, h2, h3⟩ := pure_ok h hx
  unfold Oper.wp
  rw [h1, Oper.upon_value]
  exact ⟨γ, ω, _, Chg.refl _ _ _ _, h.putO (dOk_iff hd) (fun t _ => h2 _), h3⟩

theorem op_ok (h : Rel γ ω w nt st a) {fz : List Nat} {o : Oper} {K : St → Prop} (hx : opP P nt fz o st K) (Q : Exit → Act → World → Prop) :
    o.wp P a w (fun a' w' => ∃ γ' ω' st', Chg NotOuter γ ω w γ' ω' w' ∧ Rel γ' ω' w' nt st' a' ∧ K st') Q := by
  obtain ⟨hd, hx⟩ := hx
  have hdi := dOk_iff hd
  split at hx
  · rename_i x hop
    split at hx
    · rename_i d hdst
      have hdn : d < nt := hdi d hdst
      obtain ⟨ω', st', h1, h2, h3⟩ := asg_ok h hdn hx
      unfold Oper.wp
      have : (execOp a.eval o).run P w = .ok (.value (a.eval x)) w := by simp [execOp, hop]
      rw [this, Oper.upon_value, hdst]
      exact ⟨γ, ω', st', h1, h2, h3⟩
    · exact hx.elim
  · rename_i c hop
    split at hx
    · rename_i f hcal
      rcases hx with hx | hx
      · exact call_ok h hd hop hcal hx Q
      · exact callB_ok h hd hop hcal hx Q
    · rename_i hcal
      split at hx
      · rename_i d hdst
        have hdn : d < nt := hdi d hdst
        obtain ⟨v, w', hrun, γ', ω', st', h1, h2, h3⟩ := app_ok h hdn hx o.type
        unfold Oper.wp
        have : (execOp a.eval o).run P w = .ok (.value v) w' := by
          obtain ⟨callee, args, argTypes⟩ := c
          simp only at hcal; subst hcal
          simp only at hrun
          simp [execOp, hop, resolve, invoke, builtin, hrun]
        rw [this, Oper.upon_value, hdst]
        exact ⟨γ', ω', st', h1, h2, h3⟩
      · exact hx.elim
    · rw [← hop] at hx; exact op_pure h hd hx Q
  · rename_i T l c hop
    split at hx
    · rename_i d hdst
      obtain ⟨v, w', hrun, γ', ω', st', h1, h2, h3⟩ := mk_ok h (hdi d hdst) hx
      unfold Oper.wp
      have : (execOp a.eval o).run P w = .ok (.value v) w' := by simp [execOp, hop, hrun]
      rw [this, Oper.upon_value, hdst]
      exact ⟨γ', ω', st', h1, h2, h3⟩
    · exact hx.elim
  · rename_i T len parts hop
    split at hx
    · rename_i d hdst
      obtain ⟨v, w', hrun, γ', ω', st', h1, h2, h3⟩ := bs_ok h (hdi d hdst) hx
      unfold Oper.wp
      have : (execOp a.eval o).run P w = .ok (.value v) w' := by simp [execOp, hop, hrun]
      rw [this, Oper.upon_value, hdst]
      exact ⟨γ', ω', st', h1, h2, h3⟩
    · exact hx.elim
  · rename_i T parts hop
    obtain ⟨v, hrun, ω', st', h1, h2, h3⟩ := bld_ok h hdi hx
    unfold Oper.wp
    have : (execOp a.eval o).run P w = .ok (.value v) w := by simp [execOp, hop, hrun]
    rw [this, Oper.upon_value]
    exact ⟨γ, ω', st', h1, h2, h3⟩
  · rename_i T x hop
    obtain ⟨v, w', hrun, γ', ω', st', h1, h2, h3⟩ := box_ok (P := P) h hdi (T := T) hx
    unfold Oper.wp
    have : (execOp a.eval o).run P w = .ok (.value v) w' := by simp [execOp, hop, hrun]
    rw [this, Oper.upon_value]
    exact ⟨γ', ω', st', h1, h2, h3⟩
  · rename_i T hop
    obtain ⟨v, w', hrun, γ', ω', st', h1, h2, h3⟩ := alo_ok h hdi hx
    unfold Oper.wp
    have : (execOp a.eval o).run P w = .ok (.value v) w' := by simp [execOp, hop, hrun]
    rw [this, Oper.upon_value]
    exact ⟨γ', ω', st', h1, h2, h3⟩
  · rename_i T ad x hop
    obtain ⟨hdn, hx⟩ := hx
    have key : ∃ w', (Instr.storeAt T (a.eval ad) (a.eval x)).run P w = .ok () w' ∧ ∃ ω' st', Chg NotOuter γ ω w γ ω' w' ∧ Rel γ ω' w' nt st' a ∧ K st' := by
      unfold stoP at hx
      split at hx
      · rename_i t
        split at hx
        · rename_i p i off hc
          exact stoE_ok h hc hx
        · exact stoB_ok h hx
        · exact hx.elim
      · exact hx.elim
    obtain ⟨w', hrun, ω', st', h1, h2, h3⟩ := key
    unfold Oper.wp
    have : (execOp a.eval o).run P w = .ok .skip w' := by simp [execOp, hop, hrun]
    rw [this]
    simp only [Oper.upon, hdn]
    exact ⟨γ, ω', st', h1, h2, h3⟩
  · rename_i s T x hop
    split at hx
    · rename_i d _ _ hdst _ _
      obtain ⟨v, w', hrun, γ', ω', st', h1, h2, h3⟩ := strB_ok h (hdi d hdst) hx
      unfold Oper.wp
      have : (execOp a.eval o).run P w = .ok (.value v) w' := by simp [execOp, hop, hrun]
      rw [this, Oper.upon_value, hdst]
      exact ⟨γ', ω', st', h1, h2, h3⟩
    · rw [← hop] at hx; exact op_pure h hd hx Q
  · exact op_pure h hd hx Q

end
end Go.Pv
