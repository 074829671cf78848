/- The operations that act on memory: stores, rows. -/
import Derived.Test.YtahjgmldkbbpaaaAMActs3
set_option linter.unusedSimpArgs false
set_option linter.unusedVariables false
namespace Go.AM
open Go

/-- What a store of some cells makes of a row. -/
theorem setCells_heap (b : Nat) (T : TypeId) (fr : Nat × Nat) : ∀ (vs : List Value) (o : Nat) (w : World) (C : Array Value), w.heap[b]? = some (.cells C T fr) → o + vs.length ≤ C.size →
    ∃ C' : Array Value, (w.setCells b o vs).heap[b]? = some (.cells C' T fr) ∧ C'.size = C.size ∧ (∀ i, C'[i]? = if o ≤ i ∧ i < o + vs.length then vs[i - o]? else C[i]?) ∧
      (∀ b', b' ≠ b → (w.setCells b o vs).heap[b']? = w.heap[b']?) ∧ (w.setCells b o vs).os = w.os ∧ (w.setCells b o vs).tape = w.tape ∧ (w.setCells b o vs).output = w.output ∧ (w.setCells b o vs).heap.size = w.heap.size := by
  intro vs
  induction vs with
  | nil =>
    intro o w C hb _
    exact ⟨C, hb, rfl, fun i => by simp; intro h1 h2; omega, fun _ _ => rfl, rfl, rfl, rfl, rfl⟩
  | cons v vs ih =>
    intro o w C hb hle
    simp only [List.length_cons] at hle
    have h1 : (w.setCell ⟨b, o, none⟩ v).heap[b]? = some (.cells (C.setIfInBounds o v) T fr) := by
      simp [World.setCell, Array.getElem?_modify, hb]
    obtain ⟨C', k1, k2, k3, k4, k5, k6, k7, k8⟩ := ih (o + 1) _ _ h1 (by simp; omega)
    refine ⟨C', k1, by rw [k2]; simp, fun i => ?_, fun b' hb' => ?_, k5, k6, k7, by show ((w.setCell ⟨b, o, none⟩ v).setCells b (o + 1) vs).heap.size = _; rw [k8]; simp [World.setCell]⟩
    · rw [k3]
      by_cases hi : i = o
      · subst hi
        rw [if_neg (by omega), if_pos (by simp)]
        simp only [Nat.sub_self, List.getElem?_cons_zero]
        rw [Array.getElem?_setIfInBounds_self]
        simp; omega
      · by_cases hr : o + 1 ≤ i ∧ i < o + 1 + vs.length
        · rw [if_pos hr, if_pos (by simp; omega)]
          obtain ⟨j, hj⟩ : ∃ j, i - o = j + 1 := ⟨i - o - 1, by omega⟩
          rw [hj, List.getElem?_cons_succ]
          congr 1; omega
        · rw [if_neg hr, if_neg (by simp; omega), Array.getElem?_setIfInBounds_ne (by omega)]
    · rw [World.setCells, k4 b' hb']
      simp only [World.setCell, Array.getElem?_modify]
      rw [if_neg (by omega)]

theorem run_storeAll {P : Program} {w : World} {b o : Nat} {C : Array Value} {T : TypeId} {vs : List Value} (hb : w.heap[b]? = some (.cells C T (0, 0))) (hle : o + vs.length ≤ C.size) (h1 : ∀ v ∈ vs, v.oneCell' = true) :
    (storeCells ⟨b, o, none⟩ vs).run P w = .ok () (w.setCells b o vs) := by
  have := run_storeCells_cells (P := P) b o vs 0 w (fun j hj => by
    simp only [World.cell?, hb, Nat.add_zero, Option.isSome_none, Bool.false_eq_true, if_false]
    rw [Array.getElem?_eq_getElem (by omega)]; rfl) (fun j hj => by simp [World.frozen?, hb]) h1
  simpa using this

section
variable {P : Program} {h : List Blk} {s s' : St} {a : Act} {w : World} {L : Nat → Lc} {v : AV} {ws : List Nat} {drw : Option Nat} {nb : Nat}

/-- A row of the calls' own, after some of its cells were stored into. -/
theorem HR.storeInto {H : List Blk} (hr : HR w H L) {id b : Nat} {k k' : Blk} (hid : H[id]? = some k) (hl : k.live = true) (hbk : (L id).blk = some b) {C : Array Value} {T : TypeId} (hb : w.heap[b]? = some (.cells C T (0, 0))) {o : Nat} {vs : List Value} (hle : o + vs.length ≤ C.size)
    (hk : ∀ C' : Array Value, C'.size = C.size → (∀ i, C'[i]? = if o ≤ i ∧ i < o + vs.length then vs[i - o]? else C[i]?) → Ext (envOf w H L) (envOf (w.setCells b o vs) (H.set id k') (updL L id (L id))) →
      (w.setCells b o vs).heap[b]? = some (.cells C' T (0, 0)) → HB (envOf (w.setCells b o vs) (H.set id k') (updL L id (L id))) id k') :
    HR (w.setCells b o vs) (H.set id k') (updL L id (L id)) ∧ Ext (envOf w H L) (envOf (w.setCells b o vs) (H.set id k') (updL L id (L id))) ∧ Same w (w.setCells b o vs) H L (updL L id (L id)) [id] := by
  obtain ⟨C', k1, k2, k3, k4, k5, k6, k7, k8⟩ := setCells_heap b T (0, 0) vs o w C hb hle
  obtain ⟨e1, e2⟩ := hr.turn (w' := w.setCells b o vs) (k' := k') hid hl (L id) k5 k6 k7 (by rw [k8]; exact Nat.le_refl _) (fun b' hb' hne => k4 b' (fun e => hne (by rw [e]; exact hbk))) (.refl _ _) (fun b' hb' => .inl hb')
    (fun he => hk C' k2 k3 he k1)
  refine ⟨e1, e2, fun j hj hne => ⟨updL_ne _ _ _ (by simpa using hne), fun ⟨x, hx, lx⟩ b' hb' => k4 b' (fun e => ?_)⟩⟩
  subst e
  exact hne (by simp [hr.inj j id b' x k hx hid lx hl hb' hbk])

theorem updL_same (L : Nat → Lc) (id : Nat) : updL L id (L id) = L := by
  funext j; by_cases e : j = id
  · subst e; simp [updL]
  · simp [updL, e]

theorem i_store (hr : HR w (full h s) L) (ht : TR (envOf w (full h s) L) a s.t) {o : Oper} {t : TypeId} {p x : Operand} {Pp X : Opd} {n : Nat} (ho : o.op = .store t p x) (hs : szT P t = some n) (hp : cOpd p = some Pp) (hx : cOpd x = some X)
    (he : evI h nb s (.store n Pp X) = some (v, s', ws)) : Im w (full h s) L ((execOp a.eval o).run P w) v (full h s') ws ∧ s'.t = s.t := by
  simp only [evI] at he
  split at he
  · rename_i vp vx hP hX
    cases hcs : vx.cellsO with
    | none => simp [hcs] at he
    | some vs =>
      simp only [hcs] at he
      split at he
      · rename_i hlen
        cases hst : storeV h s vp vs with
        | none => simp [hst] at he
        | some r =>
          obtain ⟨s1, ws1⟩ := r
          simp [hst] at he
          obtain ⟨rfl, rfl, rfl⟩ := he
          obtain ⟨c1, c2⟩ := cells_ok (cOpd_ok ht hx hX) hcs
          have hq := cOpd_ok ht hp hP
          have hsz : (a.eval x).cells.toList.length = vs.length := by rw [c1.1]; simp
          -- the run, once the place is known
          have hrun : ∀ (b o' : Nat) (C : Array Value) (T : TypeId), w.heap[b]? = some (.cells C T (0, 0)) → o' + vs.length ≤ C.size → a.eval p = .pointer (some ⟨b, o', none⟩) →
              (execOp a.eval o).run P w = .ok .skip (w.setCells b o' (a.eval x).cells.toList) := by
            intro b o' C T hb hle hpe
            have hst := run_storeAll (P := P) (vs := (a.eval x).cells.toList) hb (by rw [hsz]; exact hle) (fun u hu => by
              obtain ⟨j, hj⟩ := List.getElem?_of_mem hu
              exact c2 j u (by simpa using hj))
            simp only [execOp, ho, hpe]
            unfold Instr.storeAt Instr.sureAddr storeVar
            have e0 : (a.eval x).cells.size = n := by rw [← c1.1]; exact hlen
            simp only [pure_bind, Sem.run_bind, run_sizeOf hs, Result.andThen_ok, e0, ne_eq, not_true_eq_false, if_false, Sem.run_ite, Sem.run_pure, hst]
          unfold storeV at hst
          split at hst
          · rename_i id off
            generalize hpe : a.eval p = cp at hq
            cases hq with
            | @ptr _ _ b hid hgen hbk =>
              cases hB : getB h s id with
              | none => simp [hB] at hst
              | some k =>
                cases k <;> simp [hB] at hst
                rename_i cs
                obtain ⟨⟨hle, hlt, hleaf⟩, rfl, rfl⟩ := hst
                refine ⟨?_, setB_t _ _ _ _⟩
                have hget : (full h s)[id]? = some (.cells cs) := by rw [getB_full]; exact hB
                obtain ⟨hst0, b', T, C, hb1, hb2, hb3, hb4⟩ := hr.blk id _ hget
                have : b' = b := by have h1 : (L id).blk = some b := hbk; have h2 : (L id).blk = some b' := hb1; rw [h1] at h2; cases h2; rfl
                subst this
                obtain ⟨e1, e2, e3⟩ := hr.storeInto (k' := .cells (cs.take off ++ (vs ++ cs.drop (off + vs.length)))) hget rfl hbk hb2 (o := off) (vs := (a.eval x).cells.toList) (by rw [hsz, hb3]; exact hle) (fun C' z1 z2 hext z3 => by
                  refine ⟨by rw [show (envOf _ _ _).L id = updL L id (L id) id from rfl, updL_self]; exact hst0, b', T, C', by rw [show (envOf _ _ _).L id = updL L id (L id) id from rfl, updL_self]; exact hbk, z3, by rw [z1, hb3]; simp; omega, fun j y hj => ?_⟩
                  have hl1 : (cs.take off).length = off := by simp; omega
                  by_cases hin : off ≤ j ∧ j < off + vs.length
                  · rw [List.getElem?_append_right (by omega), hl1, List.getElem?_append_left (by omega)] at hj
                    have hjl : j - off < (a.eval x).cells.size := by rw [← c1.1]; omega
                    refine ⟨(a.eval x).cells[j - off], ?_, (c1.2 _ y _ hj (Array.getElem?_eq_getElem hjl)).mono hext, c2 _ _ (Array.getElem?_eq_getElem hjl)⟩
                    rw [z2, if_pos (by rw [hsz]; exact hin)]; simp [Array.getElem?_eq_getElem hjl]
                  · have hcs : cs[j]? = some y := by
                      by_cases hlo : j < off
                      · rw [List.getElem?_append_left (by omega), List.getElem?_take_of_lt hlo] at hj; exact hj
                      · rw [List.getElem?_append_right (by omega), hl1, List.getElem?_append_right (by omega), List.getElem?_drop] at hj
                        rw [← hj]; congr 1; omega
                    obtain ⟨u, u1, u2, u3⟩ := hb4 j y hcs
                    exact ⟨u, by rw [z2, if_neg (by rw [hsz]; exact hin)]; exact u1, u2.mono hext, u3⟩)
                rw [full_setB]
                refine ⟨.skip, _, _, hrun b' off C T hb2 (by rw [hb3]; exact hle) hpe, .inr ⟨rfl, rfl⟩, e1, e2, e3⟩
          · rename_i id g sz i off
            generalize hpe : a.eval p = cp at hq
            cases hB : getB h s id with
            | none => simp [hB] at hst
            | some k =>
              cases k <;> simp [hB] at hst
              rename_i sz' g' els
              obtain ⟨⟨rfl, rfl⟩, hst⟩ := hst
              cases hi : els[i]? with
              | none => simp [hi] at hst
              | some el =>
                cases hgr : grounds vs with
                | none => simp [hi, hgr] at hst
                | some gs =>
                  simp [hi, hgr] at hst
                  obtain ⟨hle, rfl, rfl⟩ := hst
                  refine ⟨?_, setB_t _ _ _ _⟩
                  have hvs := grounds_ok (E := envOf w (full h s) L) hgr
                  have hget : (full h s)[id]? = some (.rows sz g els) := by rw [getB_full]; exact hB
                  obtain ⟨hg1, ⟨hg2, hg3⟩, hrow⟩ := hr.blk id _ hget
                  cases hq with
                  | rp hid hg0 hle' hone hm =>
                    obtain ⟨b, hbk, rfl⟩ := hm hg1.symm
                    rw [hbk] at hrow
                    obtain ⟨T, C, hb2, hC1, hC2, hC3⟩ := hrow
                    obtain ⟨hel, hel2⟩ := hC3 i el hi
                    have hil : i < els.length := (List.getElem?_eq_some_iff.1 hi).1
                    have hgl : gs.length = vs.length := by rw [hvs]; simp
                    have hbound : i * sz + off + vs.length ≤ C.size := by
                      rw [hC1]
                      have : (i + 1) * sz ≤ (L id).cap * sz := Nat.mul_le_mul_right _ (by have : els.length ≤ (L id).cap := hC2; omega)
                      rw [Nat.add_mul] at this
                      show _ ≤ (L id).cap * sz
                      omega
                    obtain ⟨e1, e2, e3⟩ := hr.storeInto (k' := .rows sz g (els.set i (el.take off ++ (gs ++ el.drop (off + gs.length))))) hget rfl hbk hb2 (o := i * sz + off) (vs := (a.eval x).cells.toList) (by rw [hsz]; exact hbound) (fun C' z1 z2 hext z3 => by
                      have hLid : (envOf (w.setCells b (i * sz + off) (a.eval x).cells.toList) ((full h s).set id (.rows sz g (els.set i (el.take off ++ (gs ++ el.drop (off + gs.length)))))) (updL L id (L id))).L id = L id := by show updL L id (L id) id = _; rw [updL_self]
                      refine ⟨by rw [hLid]; exact hg1, ⟨by rw [hLid]; exact hg2, hg3⟩, ?_⟩
                      rw [hLid, show (L id).blk = some b from hbk]
                      refine ⟨T, C', z3, by rw [z1]; exact hC1, by simp; exact hC2, fun i' el' hi' => ?_⟩
                      by_cases hii : i = i'
                      · subst hii
                        rw [List.getElem?_set_self hil] at hi'
                        simp at hi'
                        subst hi'
                        have hl1 : (el.take off).length = off := by simp; omega
                        refine ⟨by simp; omega, fun j y hj => ?_⟩
                        by_cases hin : off ≤ j ∧ j < off + gs.length
                        · rw [List.getElem?_append_right (by omega), hl1, List.getElem?_append_left (by omega)] at hj
                          have hjl : j - off < (a.eval x).cells.size := by rw [← c1.1]; omega
                          refine ⟨(a.eval x).cells[j - off], ?_, ((c1.2 (j - off) (.g y) _ (by rw [hvs]; simp [hj]) (Array.getElem?_eq_getElem hjl)).inv_g).mono hext⟩
                          rw [z2, if_pos (by rw [hsz]; omega)]
                          rw [show i * sz + j - (i * sz + off) = j - off by omega]
                          simp [Array.getElem?_eq_getElem hjl]
                        · have hcs : el[j]? = some y := by
                            by_cases hlo : j < off
                            · rw [List.getElem?_append_left (by omega), List.getElem?_take_of_lt hlo] at hj; exact hj
                            · rw [List.getElem?_append_right (by omega), hl1, List.getElem?_append_right (by omega), List.getElem?_drop] at hj
                              rw [← hj]; congr 1; omega
                          obtain ⟨u, u1, u2⟩ := hel2 j y hcs
                          exact ⟨u, by rw [z2, if_neg (by rw [hsz]; omega)]; exact u1, u2.mono hext⟩
                      · rw [List.getElem?_set_ne hii] at hi'
                        obtain ⟨q1, q2⟩ := hC3 i' el' hi'
                        refine ⟨q1, fun j y hj => ?_⟩
                        obtain ⟨u, u1, u2⟩ := q2 j y hj
                        have hjs : j < sz := by rw [← q1]; exact (List.getElem?_eq_some_iff.1 hj).1
                        refine ⟨u, ?_, u2.mono hext⟩
                        rw [z2, if_neg]
                        · exact u1
                        · rw [hsz]
                          rintro ⟨y1, y2⟩
                          have hij : i < i' ∨ i' < i := by omega
                          rcases hij with hij | hij
                          · have := Nat.mul_le_mul_right sz (show i + 1 ≤ i' by omega)
                            rw [Nat.add_mul] at this; omega
                          · have := Nat.mul_le_mul_right sz (show i' + 1 ≤ i by omega)
                            rw [Nat.add_mul] at this; omega)
                    rw [full_setB]
                    exact ⟨.skip, _, _, hrun b (i * sz + off) C T hb2 hbound hpe, .inr ⟨rfl, rfl⟩, e1, e2, e3⟩
          · cases hst
      · cases he
  · cases he

end
end Go.AM
