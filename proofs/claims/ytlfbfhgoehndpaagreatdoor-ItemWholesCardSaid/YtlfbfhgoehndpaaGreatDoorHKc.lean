/- The library of this work, H texts, part K2: copy. -/
import Derived.Test.YtlfbfhgoehndpaaGreatDoorHK
import Derived.Laws.IdiomCopy
set_option linter.unusedVariables false
set_option linter.unusedSimpArgs false
noncomputable section
namespace Go.Pv

section
variable {α : Type} {E : Env} {P : Program} {x : α} {γ γ' : List Value} {ω ω' : Own} {w w' : World} {nt : Nat} {st : St} {a : Act} {K : St → Option α}

/-- copy into a row of one's own, of one cell an element. -/
def cpyF (E : Env) (st : St) (d : Option Tmp) (c : Call) (K : St → Option α) : Option α :=
  match c.args.toList, c.argTypes.toList with
  | [x, y], [T, _] => (match kdE E T with
    | .slice e => (match Nat.beq (szE E e) 1 with
      | true => (match shv st x with
        | some (.ref k) => (match st.B[k]? with
          | some (some (.row false 1 es [])) => (match opv st y with
            | some (.list ys) => sB (wid 1 ys) (K (putO ⟨st.v, st.B.set k (some (.row false 1 (ys.take es.length ++ es.drop ys.length) []))⟩ d (.int .i64 ((Nat.min ys.length es.length : Nat) : Int))))
            | _ => none)
          | _ => none)
        | _ => none)
      | false => none)
    | _ => none)
  | _, _ => none

theorem cells1 {R : Nat → Nat → MV → Value → Prop} {R2 : Nat → Nat → MV → Value → Prop} {es ys : List (List MV)} {xs news : List Value} (h : CellsP R 1 es xs) (k : CellsP R2 1 ys news) {R' : Nat → Nat → MV → Value → Prop} (h1 : ∀ j i c u, R j i c u → R' j i c u) (h2 : ∀ j i c u, R2 j i c u → R' j i c u) :
    CellsP R' 1 (ys.take es.length ++ es.drop ys.length) (news.take es.length ++ xs.drop ys.length) := by
  have hx : xs.length = es.length := by have := h.len; omega
  have hn : news.length = ys.length := by have := k.len; omega
  refine ⟨by simp [hx, hn], fun e he => ?_, fun v hv => ?_, fun j y hj i c hi => ?_⟩
  · rcases List.mem_append.1 he with he | he
    · exact k.wid e (List.mem_of_mem_take he)
    · exact h.wid e (List.mem_of_mem_drop he)
  · rcases List.mem_append.1 hv with hv | hv
    · exact k.one v (List.mem_of_mem_take hv)
    · exact h.one v (List.mem_of_mem_drop hv)
  · have hi0 : i = 0 := by
      have hy : y.length = 1 := by
        rcases List.mem_append.1 (List.mem_of_getElem? hj) with he | he
        · exact k.wid y (List.mem_of_mem_take he)
        · exact h.wid y (List.mem_of_mem_drop he)
      have := (List.getElem?_eq_some_iff.1 hi).1
      omega
    subst hi0
    have hl : (ys.take es.length).length = (news.take es.length).length := by simp [hn]
    rcases Nat.lt_or_ge j (ys.take es.length).length with hlt | hge
    · rw [List.getElem?_append_left hlt, List.getElem?_take] at hj
      split at hj
      · rename_i hj1
        obtain ⟨u, r1, r2⟩ := k.cell j y hj 0 c hi
        refine ⟨u, ?_, h2 _ _ _ _ r2⟩
        rw [List.getElem?_append_left (by omega), List.getElem?_take, if_pos (by omega)]; exact r1
      · exact absurd hj (by simp)
    · rw [List.getElem?_append_right hge, List.getElem?_drop] at hj
      have hmin : (ys.take es.length).length = Nat.min es.length ys.length := by simp [List.length_take]
      have hjl := (List.getElem?_eq_some_iff.1 hj).1
      have hle : ys.length ≤ es.length := by
        rcases Nat.le_total ys.length es.length with q | q
        · exact q
        · omega
      have e1 : (ys.take es.length).length = ys.length := by simp [List.length_take]; omega
      rw [e1] at hj
      rw [show ys.length + (j - ys.length) = j from by omega] at hj
      obtain ⟨u, r1, r2⟩ := h.cell j y hj 0 c hi
      refine ⟨u, ?_, h1 _ _ _ _ r2⟩
      rw [List.getElem?_append_right (by omega), List.getElem?_drop]
      rw [← hl, e1, show ys.length + (j * 1 + 0 - ys.length) = j * 1 + 0 from by omega]; exact r1

theorem cpy_ok (hE : E.Ok P) (h : Rel γ ω w nt st a) {d : Option Tmp} (hdn : ∀ t, d = some t → t < nt) {c : Call} (hx : cpyF E st d c K = some x) (ty : TypeId) :
    Does P nt γ ω w a d (Builtin.copy_ c.argTypes ty (c.args.map a.eval)) K x := by
  obtain ⟨callee, args, argTypes⟩ := c
  unfold cpyF at hx
  split at hx
  rotate_left
  · exact absurd hx (by simp)
  rename_i s y T T' hargs hats
  split at hx
  rotate_left
  · exact absurd hx (by simp)
  rename_i e hk
  split at hx
  rotate_left
  · exact absurd hx (by simp)
  rename_i hsz
  split at hx
  rotate_left
  · exact absurd hx (by simp)
  rename_i k hs
  split at hx
  rotate_left
  · exact absurd hx (by simp)
  rename_i es hB
  split at hx
  rotate_left
  · exact absurd hx (by simp)
  rename_i ys hy
  replace hx := sB_some hx
  obtain ⟨hw, hx⟩ := hx
  obtain ⟨dd, hd, hkd⟩ := und_of_kd (kdE_ok hE hk (by simp)) (by simp)
  have := tk_slice hkd; subst this
  have hsz1 := szE_ok hE (beq_nat hsz)
  obtain ⟨ti, hti, hts⟩ := szOf_ne (P := P) (T := e) (by omega)
  have hinfo : (P.info? e).map (·.size) = some 1 := by
    obtain ⟨i, z, hi, hi2, _⟩ := (ty_of hti).info
    rw [hi]; simp only [Option.map_some]; rw [hi2, hts, hsz1]
  have eA : args.map a.eval = #[a.eval s, a.eval y] := by
    have : args = #[s, y] := by have := congrArg List.toArray hargs; simpa using this
    rw [this]; simp
  have eT : argTypes = #[T, T'] := by have := congrArg List.toArray hats; simpa using this
  simp only [eA, eT]
  have hrs := h.shv hs
  generalize a.eval s = vs at hrs
  cases hrs with
  | ref _ _ hb _ _ =>
  obtain ⟨hd0, g1, e', xs, g2⟩ := h.objs k _ hB
  rw [hb] at g1; injection g1 with g1; subst g1
  have hv := h.val hy
  generalize a.eval y = vy at hv
  obtain ⟨A, cy, news, rfl, hcn, hsrc⟩ := val_cells hv (by omega) (wid_all hw)
  have hxl : xs.length = es.length := by have := g2.len; omega
  have hnl : news.length = ys.length := by have := hcn.len; omega
  rcases Nat.eq_zero_or_pos (Nat.min ys.length es.length) with h0 | hpos
  · -- nothing goes over
    obtain ⟨A', c', rfl⟩ : ∃ A' c', vs = .slice A' es.length c' := by
      have hv2 : Val γ ω w (.list es) vs := .inr (.inl ⟨k, 1, es, e', xs, rfl, g2⟩)
      obtain ⟨A', c', q⟩ := hv2.list; exact ⟨A', c', q⟩
    refine ⟨_, w, run_copy_none (P := P) w T T' ty e A' A es.length c' ys.length cy hd hinfo h0, γ, ω, _, Chg.refl _ _ _ _, ?_, hx⟩
    have e0 : ys.take es.length ++ es.drop ys.length = es := by
      rcases Nat.min_eq_zero_iff.1 h0 with q | q
      · rw [List.length_eq_zero_iff.1 q]; simp
      · rw [List.length_eq_zero_iff.1 q]; simp
    have hBe : st.B.set k (some (.row false 1 (ys.take es.length ++ es.drop ys.length) [])) = st.B := by
      rw [e0]
      refine List.ext_getElem? (fun j => ?_)
      rw [List.getElem?_set]
      by_cases ej : k = j
      · subst ej
        rw [if_pos rfl, if_pos (List.getElem?_eq_some_iff.1 hB).1, hB]
      · rw [if_neg ej]
    rw [hBe, h0]
    exact h.putO hdn (.int _ _)
  · have hes : 0 < es.length := Nat.lt_of_lt_of_le hpos (Nat.min_le_right _ _)
    have hys : 0 < ys.length := Nat.lt_of_lt_of_le hpos (Nat.min_le_left _ _)
    obtain ⟨blk, cap, hvb, rfl⟩ := g2.hasBlk hes
    obtain ⟨b0, o0, rfl, hcells⟩ := hsrc (by intro q; rw [q] at hys; simp at hys)
    rcases g2.own.2 with ⟨hn, _⟩ | ⟨g, cap', cur, heq, _, hg, hle, hmx, hcs, htk⟩
    · exact absurd hn (by simp)
    · injection heq with q1 q2 q3
      injection q1 with q1; injection q1 with q1; subst q1; subst q3
      let cs : List Value := news.take (Nat.min ys.length es.length)
      have hcl : cs.length = Nat.min ys.length es.length := by simp [cs, hnl]
      have hcle : cs.length ≤ cur.size := by rw [hcl]; exact Nat.le_trans (Nat.min_le_right _ _) (by rw [hcs]; omega)
      have hcap : es.length ≤ cur.size := by rw [hcs]; omega
      have hrun := run_copy_row (P := P) w T T' ty e blk 0 es.length cap ⟨b0, o0, none⟩ ys.length cy cur e' cs hd hinfo hg (by rw [hcl]) (fun j v hj => by
        have hjl := (List.getElem?_eq_some_iff.1 hj).1
        simp only [cs, List.getElem?_take] at hj
        split at hj
        · have := hcells j v hj
          rw [Addr.add_lit]; exact this
        · exact absurd hj (by simp)) (by rw [Nat.zero_add]; exact hcle) (fun v hv => hcn.one v (List.mem_of_mem_take hv))
      let w1 := w.setRow blk (cur.toList.take 0 ++ cs ++ cur.toList.drop (0 + cs.length)).toArray
      have hgb : ∀ b, b ≠ blk → w1.heap[b]? = w.heap[b]? := fun b hb => setRow_other w blk b _ hb
      have hsizew : w1.heap.size = w.heap.size := by simp [w1, World.setRow]
      have hog := g2.blk blk rfl
      have hc1 : Chg (fun o => o = .ob k []) γ ω w γ ω w1 := by
        refine ⟨rfl, rfl, rfl, by omega, fun _ _ h => h, fun b hb h0 => ⟨hgb b (fun e => ?_), h0⟩, fun b o hb h0 hn => ⟨hgb b (fun e => ?_), h0⟩⟩
        · subst e; rw [hog.1] at h0; exact absurd h0 (by simp)
        · subst e; rw [hog.1] at h0; injection h0 with h0; exact hn h0.symm
      have hcg : Chg (fun o => ∃ p, o = .ob k p) γ ω w γ ω w1 := hc1.mono (fun o e => ⟨[], e⟩)
      have hlt' : ∀ b, w1.heap.size ≤ b → ω b = none := fun b hb => h.lt b (by omega)
      have hR := h.inplace (o' := .row false 1 (ys.take es.length ++ es.drop ys.length) []) hB hcg hlt' (fun hd q1 _ => by
        rw [hb] at q1; injection q1 with q1; subst q1
        have hcc := cells1 (R' := CR γ ω w1 (.ob k) [] false) g2.cellsP hcn (fun j i c u hr => by
          simp only [CR, lkF] at hr ⊢
          exact ⟨hr.1, hr.2.moved hcg.keeps (fun p b hb h0 => hc1.keep b _ hb h0 (by simp))⟩) (fun j i c u hr => by
          simp only [CR, lkF]
          exact ⟨fun _ => hr.1, .rep _ c u hr.1 (hr.2.chg hcg)⟩)
        have hml : (ys.take es.length ++ es.drop ys.length).length = es.length := by simp; omega
        refine ⟨e', _, .of ⟨by rw [hcc.len], .inr ⟨blk, cap, _, by rw [hml], Nat.zero_le _, setRow_heap w blk cur _ e' _ hg, by rw [hml]; simpa using hle, hmx, ?_, ?_⟩⟩ hcc (fun b hb => ⟨(g2.blk b hb).1, by rw [hsizew]; exact (g2.blk b hb).2⟩)⟩
        · simp; omega
        · rw [hml]
          simp only [Nat.mul_one] at htk ⊢
          have hcl2 : cur.toList.length = cur.size := Array.length_toList
          rw [List.take_zero, List.nil_append, Nat.zero_add]
          rcases Nat.le_total ys.length es.length with q | q
          · have e1 : cs = news := List.take_of_length_le (by rw [hnl]; exact Nat.le_of_eq (Nat.min_eq_left q).symm)
            rw [e1, hnl, List.take_append, hnl, List.take_of_length_le (by omega), ← htk, List.drop_take]
          · have e1 : cs = news.take es.length := by show news.take (Nat.min ys.length es.length) = _; rw [show Nat.min ys.length es.length = es.length from Nat.min_eq_right q]
            rw [List.drop_of_length_le (l := xs) (by omega), List.append_nil, e1]
            rw [List.take_append, List.take_take, Nat.min_self]
            have : es.length - (news.take es.length).length = 0 := by simp; omega
            rw [this, List.take_zero, List.append_nil])
      refine ⟨_, w1, hrun, γ, ω, _, ob_notouter1 hcg, ?_, hx⟩
      rw [hcl]
      exact hR.putO hdn (.int _ _)
end
end Go.Pv
end
