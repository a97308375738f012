/- The library of this work, H texts, part K3: strings become rows of bytes. -/
import Derived.Test.YtlfbfhgoehndpaaGreatDoorHK
set_option linter.unusedVariables false
set_option linter.unusedSimpArgs false
noncomputable section
namespace Go.Pv

section
variable {α : Type} {E : Env} {P : Program} {x : α} {γ γ' : List Value} {ω ω' : Own} {w w' : World} {nt : Nat} {st : St} {a : Act} {K : St → Option α}

def isU8 : TK → Bool
  | .int .u8 => true
  | _ => false
def isStr : TK → Bool
  | .str => true
  | _ => false
def strF (E : Env) (st : St) (d : Option Tmp) (s e : TypeId) (y : Operand) (K : St → Option α) : Option α :=
  match isU8 (kdE E e) && isStr (kdE E s) with
  | true => (match opv st y with
    | some (.str b) => K (putO st d (.list (byteRow b)))
    | _ => none)
  | false => none

theorem str_ok (hE : E.Ok P) (h : Rel γ ω w nt st a) {d : Option Tmp} (hdn : ∀ t, d = some t → t < nt) {s T e : TypeId} (hkT : kdE E T = .slice e) {y : Operand} (hx : strF E st d s e y K = some x) :
    Does P nt γ ω w a d (convert s T (a.eval y)) K x := by
  unfold strF at hx
  split at hx
  · rename_i hk
    rw [Bool.and_eq_true] at hk
    have he : kdE E e = .int .u8 := by
      have := hk.1
      unfold isU8 at this
      split at this
      · assumption
      · exact absurd this (by simp)
    have hs : kdE E s = .str := by
      have := hk.2
      unfold isStr at this
      split at this
      · assumption
      · exact absurd this (by simp)
    obtain ⟨d1, hd1, hkd1⟩ := und_of_kd (kdE_ok hE hkT (by simp)) (by simp)
    have := tk_slice hkd1; subst this
    obtain ⟨d2, hd2, hkd2⟩ := und_of_kd (kdE_ok hE he (by simp)) (by simp)
    have := tk_int hkd2; subst this
    obtain ⟨d3, hd3, hkd3⟩ := und_of_kd (kdE_ok hE hs (by simp)) (by simp)
    have := tk_str hkd3; subst this
    split at hx
    · rename_i b hb
      have e1 := (h.val hb).str
      have hr := run_bytes_of_string (P := P) w s T e b hd3 hd1 hd2
      have hge := grownCap_ge w b.size 0 e
      generalize grownCap w b.size 0 e = cap at hr hge
      have hc0 : Chg (fun _ => False) γ ω w γ ω w.drew := ⟨rfl, rfl, rfl, Nat.le_refl _, fun _ _ h => h, fun _ _ h => ⟨rfl, h⟩, fun _ _ _ h _ => ⟨rfl, h⟩⟩
      obtain ⟨hcg, hlt'⟩ := alloc_chg γ ω w.drew h.lt (.cells (bytesRow b cap) e ((bytesRow b cap).size, (bytesRow b cap).size + 1)) none
      have hc := hc0.trans hcg
      have hR := h.grow hc hlt'
      refine ⟨_, _, by rw [e1]; exact hr, γ, _, _, hc.mono (fun _ h => h.elim), hR.putO hdn (c := .list (byteRow b)) ?_, hx⟩
      have hl := byteRow_len b
      show Rep γ _ _ (.list (byteRow b)) (.slice _ b.size _)
      rw [← hl]
      refine .list (byteRow b) 1 w.heap.size 0 _ (fun j i => .int .u8 ((b.data.getD j 0).toNat : Int)) ?_ ?_ (by simp) ?_ (fun e he => by simp only [byteRow, List.mem_map] at he; obtain ⟨_, _, rfl⟩ := he; rfl) ?_ ?_
      · rw [hl]; omega
      · exact if_pos rfl
      · intro x hx; simp [byteRow] at hx; obtain ⟨_, _, rfl⟩ := hx; rfl
      · intro j x hj i c hi
        rw [byteRow_get] at hj
        cases hb2 : b.data.toList[j]? with
        | none => rw [hb2] at hj; simp at hj
        | some y =>
          rw [hb2] at hj
          simp only [Option.map_some, Option.some.injEq] at hj
          subst hj
          cases i with
          | succ i => simp at hi
          | zero =>
            refine ⟨?_, rfl⟩
            have hlt := (List.getElem?_eq_some_iff.1 hb2).1
            rw [show (w.drew.alloc (.cells (bytesRow b cap) e ((bytesRow b cap).size, (bytesRow b cap).size + 1))).cell? ⟨w.heap.size, 0 + (j * 1 + 0), none⟩ = (bytesRow b cap)[0 + (j * 1 + 0)]? from World.cell?_alloc_mark w.drew _ _ _ _]
            simp only [Array.length_toList] at hlt
            have hy : b.data[j] = y := by
              have := (List.getElem?_eq_some_iff.1 hb2).2; simpa using this
            have hs2 : j < b.size := hlt
            simp [bytesRow, Array.getElem?_append, hlt, hy, hs2]
      · intro j x hj i c hi
        rw [byteRow_get] at hj
        cases hb2 : b.data.toList[j]? with
        | none => rw [hb2] at hj; simp at hj
        | some y =>
          rw [hb2] at hj
          simp only [Option.map_some, Option.some.injEq] at hj
          subst hj
          cases i with
          | succ i => simp at hi
          | zero =>
            simp at hi; subst hi
            have hlt := (List.getElem?_eq_some_iff.1 hb2).1
            simp only [Array.length_toList] at hlt
            have hy : b.data[j] = y := by
              have := (List.getElem?_eq_some_iff.1 hb2).2; simpa using this
            simp only [Array.getD_eq_getD_getElem?, Array.getElem?_eq_getElem hlt, Option.getD_some, hy]
            exact .int _ _
    · exact absurd hx (by simp)
  · exact absurd hx (by simp)
end
end Go.Pv
end
