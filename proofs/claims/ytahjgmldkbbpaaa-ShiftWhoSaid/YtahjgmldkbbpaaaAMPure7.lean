/- The operations that leave memory as it is, all of them: the theorem. -/
import Derived.Test.YtahjgmldkbbpaaaAMPure6
set_option linter.unusedSimpArgs false
set_option linter.unusedVariables false
namespace Go.AM
open Go

section
variable {P : Program} {h : List Blk} {s : St} {a : Act} {w : World} {L : Nat → Lc} {v : AV} {rs : List Nat} {drw : Option Nat}

theorem y_iaddr (hr : HR w (full h s) L) (ht : TR (envOf w (full h s) L) a s.t) {o : Oper} {t e : TypeId} {x i : Operand} {X I : Opd} {sz : Nat} (ho : o.op = .indexAddr t x i) (hu : P.underlying t = some (.slice e)) (hs : szT P e = some sz) (hx : cOpd x = some X) (hi : cOpd i = some I)
    (he : evP h s (.iaddr sz X I) = some (v, rs)) : Yl P (envOf w (full h s) L) o a v rs := by
  simp only [evP] at he
  have fin : (∃ cv, AR (envOf w (full h s) L) v cv ∧ ∀ w', (Instr.indexAt t (a.eval x) (a.eval i)).run P w' = .ok cv w') → Yl P (envOf w (full h s) L) o a v rs := by
    rintro ⟨cv, h1, h2⟩
    exact ⟨cv, h1, fun w' hw => by simp only [execOp, ho]; rw [Sem.run_bind, h2 w']; rfl⟩
  apply fin
  split at he
  · rename_i sz' els k n hX hI
    have hq := cOpd_ok ht hx hX
    have hn := (cOpd_ok ht hi hI).inv_g.inv_int
    split at he
    · rename_i hc
      obtain ⟨rfl, h0⟩ := hc
      cases hel : els[n.toNat]? with
      | none => simp [hel] at he
      | some el =>
        simp [hel] at he
        obtain ⟨rfl, rfl⟩ := he
        have hlt : n.toNat < els.length := (List.getElem?_eq_some_iff.1 hel).1
        rw [hn]
        generalize a.eval x = cx at hq ⊢
        cases hq with | g hq =>
        cases hq with
        | sl c hcap hb hO hsz hc hg =>
          refine ⟨_, .cp (c n.toNat) hb hO (fun j y hj => hc _ el j y hel hj) (fun j y hj => hg _ el j y hel hj), fun w' => ?_⟩
          rw [run_indexAt_slice hu hs _ _ _ _ _ h0 (by omega), add_none]
        | sl0 => simp at hlt
    · cases he
  · rename_i id g sz' off len k n hX hI
    have hq := cOpd_ok ht hx hX
    have hn := (cOpd_ok ht hi hI).inv_g.inv_int
    split at he
    · rename_i hc
      obtain ⟨rfl, h0, h1, hcur⟩ := hc
      simp at he
      obtain ⟨rfl, rfl⟩ := he
      obtain ⟨hid, hg0, hgen, hm⟩ := ms_ok hr hcur hq
      rw [hn]
      generalize a.eval x = cx at *
      unfold MsOk at hm
      cases hb : (L id).blk with
      | none => rw [hb] at hm; obtain ⟨_, _, rfl⟩ := hm; omega
      | some b =>
        rw [hb] at hm
        obtain ⟨A, c, rfl, h2, h3, h4⟩ := hm
        rcases h4 with rfl | h4
        · refine ⟨.pointer (some ⟨b, (off + n.toNat) * sz + 0, none⟩), .rp hid hg0 (by rw [hgen]; exact Nat.le_refl _) rfl (fun _ => ⟨b, hb, rfl⟩), fun w' => ?_⟩
          rw [run_indexAt_slice hu hs _ _ _ _ _ h0 h1, add_none, Nat.add_mul]; rfl
        · omega
    · cases he
  · cases he

theorem y_iaddrA (ht : TR (envOf w (full h s) L) a s.t) {o : Oper} {t e : TypeId} {x i : Operand} {X I : Opd} {sz len : Nat} (ho : o.op = .indexAddr t x i) (hu : P.underlying t = some (.array len e)) (hs : szT P e = some sz) (hx : cOpd x = some X) (hi : cOpd i = some I)
    (he : evP h s (.iaddrA len sz X I) = some (v, rs)) : Yl P (envOf w (full h s) L) o a v rs := by
  simp only [evP] at he
  have fin : (∃ cv, AR (envOf w (full h s) L) v cv ∧ ∀ w', (Instr.indexAt t (a.eval x) (a.eval i)).run P w' = .ok cv w') → Yl P (envOf w (full h s) L) o a v rs := by
    rintro ⟨cv, h1, h2⟩
    exact ⟨cv, h1, fun w' hw => by simp only [execOp, ho]; rw [Sem.run_bind, h2 w']; rfl⟩
  apply fin
  split at he
  · rename_i id off k n hX hI
    have hq := cOpd_ok ht hx hX
    have hn := (cOpd_ok ht hi hI).inv_g.inv_int
    split at he
    · rename_i hc
      obtain ⟨h0, h1⟩ := hc
      simp at he
      obtain ⟨rfl, rfl⟩ := he
      rw [hn]
      generalize a.eval x = cx at *
      cases hq with
      | ptr hid hgen hb => exact ⟨_, .ptr hid hgen hb, fun w' => by rw [run_indexAt_array hu hs _ _ _ h0 h1, add_none]⟩
    · cases he
  · rename_i cs k n hX hI
    have hq := cOpd_ok ht hx hX
    have hn := (cOpd_ok ht hi hI).inv_g.inv_int
    split at he
    · rename_i hc
      obtain ⟨h0, h1⟩ := hc
      simp at he
      obtain ⟨rfl, rfl⟩ := he
      rw [hn]
      generalize a.eval x = cx at *
      cases hq with
      | cp c hb hO hc hg =>
        refine ⟨_, .cp (fun j => c (n.toNat * sz + j)) hb hO (fun j y hj => ?_) (fun j y hj => ?_), fun w' => by rw [run_indexAt_array hu hs _ _ _ h0 h1, add_none]⟩
        · rw [List.getElem?_drop] at hj
          have := hc _ y hj
          rw [← this, Nat.add_assoc]
        · rw [List.getElem?_drop] at hj; exact hg _ y hj
    · cases he
  · cases he

theorem y_faddr (hr : HR w (full h s) L) (ht : TR (envOf w (full h s) L) a s.t) {o : Oper} {t : TypeId} {f n : Nat} {fl : Field} {x : Operand} {X : Opd} (ho : o.op = .fieldAddr t x f) (hf : fieldT P t f = some fl) (hs : szT P fl.type = some n) (hn : n ≠ 0) (hx : cOpd x = some X)
    (he : evP h s (.faddr fl.offset X) = some (v, rs)) : Yl P (envOf w (full h s) L) o a v rs := by
  simp only [evP] at he
  have fin : (∃ cv, AR (envOf w (full h s) L) v cv ∧ ∀ w', (Instr.fieldAt t (a.eval x) f).run P w' = .ok cv w') → Yl P (envOf w (full h s) L) o a v rs := by
    rintro ⟨cv, h1, h2⟩
    exact ⟨cv, h1, fun w' hw => by simp only [execOp, ho]; rw [Sem.run_bind, h2 w']; rfl⟩
  apply fin
  split at he
  · rename_i id off hX
    have hq := cOpd_ok ht hx hX
    cases he
    generalize a.eval x = cx at *
    cases hq with
    | ptr hid hgen hb => exact ⟨_, .ptr hid hgen hb, fun w' => run_fieldAt hf hs hn _ _ w'⟩
  · rename_i cs hX
    have hq := cOpd_ok ht hx hX
    cases he
    generalize a.eval x = cx at *
    cases hq with
    | cp c hb hO hc hg =>
      refine ⟨_, .cp (fun j => c (fl.offset + j)) hb hO (fun j y hj => ?_) (fun j y hj => ?_), fun w' => run_fieldAt hf hs hn _ _ w'⟩
      · rw [List.getElem?_drop] at hj
        have := hc _ y hj
        rw [← this, Nat.add_assoc]
      · rw [List.getElem?_drop] at hj; exact hg _ y hj
  · rename_i id g sz i off hX
    have hq := cOpd_ok ht hx hX
    split at he
    · rename_i hcur
      cases he
      generalize a.eval x = cx at *
      cases hq with
      | rp hid hg0 hle hone hm =>
        obtain ⟨b, hb, rfl⟩ := hm (cur_ok hr hcur)
        exact ⟨.pointer (some ⟨b, i * sz + off + fl.offset, none⟩), .rp hid hg0 hle rfl (fun _ => ⟨b, hb, by rw [Nat.add_assoc]⟩), fun w' => run_fieldAt hf hs hn _ _ w'⟩
    · cases he
  · cases he

end
end Go.AM
