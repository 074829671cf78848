/- How the heap's meaning goes on, step by step. -/
import Derived.Test.YtahjgmldkbbpaaaAMPure9
set_option linter.unusedSimpArgs false
set_option linter.unusedVariables false
namespace Go.AM
open Go

theorem applyM_upd (h : List Blk) (id : Nat) (b : Blk) : ∀ m : List (Nat × Blk), applyM h (updM m id b) = (applyM h m).set id b
  | [] => rfl
  | (a, v) :: t => by
    simp only [updM]
    by_cases e : a = id
    · subst e; simp [applyM, List.set_set]
    · rw [if_neg e]
      simp only [applyM, applyM_upd h id b t]
      rw [List.set_comm _ _ (Ne.symm e)]

theorem full_setB (h : List Blk) (s : St) (id : Nat) (b : Blk) : full h (setB h s id b) = (full h s).set id b := by
  unfold setB full
  split
  · rename_i hi
    simp only [applyM_upd]
    rw [List.set_append_left _ _ (by rw [applyM_length]; exact hi)]
  · rename_i hi
    simp only
    rw [List.set_append_right _ _ (by rw [applyM_length]; omega), applyM_length]

theorem full_push (h : List Blk) (s : St) (b : Blk) : full h (s.push b) = full h s ++ [b] := by simp [full, St.push]

theorem setB_t (h : List Blk) (s : St) (id : Nat) (b : Blk) : (setB h s id b).t = s.t := by unfold setB; split <;> rfl

section
variable {w w' : World} {H H' : List Blk} {L L' : Nat → Lc}

/-- The general step: what has changed is shown anew. -/
theorem HR.step (hr : HR w H L) (he : Ext (envOf w H L) (envOf w' H' L')) (ch : Nat → Prop)
    (hold : ∀ id, id < H.length → ¬ ch id → H'[id]? = H[id]? ∧ L' id = L id ∧ (Live H id → ∀ b, (L id).blk = some b → w'.heap[b]? = w.heap[b]?))
    (hnew : ∀ id k, H'[id]? = some k → (ch id ∨ H.length ≤ id) → HB (envOf w' H' L') id k)
    (hinj : ∀ (i j b : Nat) (x y : Blk), H'[i]? = some x → H'[j]? = some y → x.live = true → y.live = true → (L' i).blk = some b → (L' j).blk = some b → i = j) : HR w' H' L' := by
  refine ⟨fun id k hk => ?_, hinj⟩
  by_cases hlt : id < H.length
  · by_cases hc : ch id
    · exact hnew id k hk (.inl hc)
    · obtain ⟨h1, h2, h3⟩ := hold id hlt hc
      rw [h1] at hk
      exact (hr.blk id k hk).mono he h2 (fun hl b hb => h3 ⟨k, hk, hl⟩ b hb)
  · exact hnew id k hk (.inr (by omega))

def updL (L : Nat → Lc) (id : Nat) (lc : Lc) : Nat → Lc := fun j => if j = id then lc else L j
theorem updL_self (L : Nat → Lc) (id : Nat) (lc : Lc) : updL L id lc id = lc := by simp [updL]
theorem updL_ne (L : Nat → Lc) (id : Nat) (lc : Lc) {j : Nat} (h : j ≠ id) : updL L id lc j = L j := by simp [updL, h]

/-- A world whose heap has grown, and is else as it was. -/
structure Grows (w w' : World) : Prop where
  os : w'.os = w.os
  tape : w'.tape = w.tape
  output : w'.output = w.output
  size : w.heap.size ≤ w'.heap.size
  old : ∀ b, b < w.heap.size → w'.heap[b]? = w.heap[b]?

theorem Grows.refl (w : World) : Grows w w := ⟨rfl, rfl, rfl, Nat.le_refl _, fun _ _ => rfl⟩
theorem Grows.trans {a b c : World} (h : Grows a b) (k : Grows b c) : Grows a c :=
  ⟨k.os.trans h.os, k.tape.trans h.tape, k.output.trans h.output, Nat.le_trans h.size k.size, fun i hi => (k.old i (Nat.lt_of_lt_of_le hi h.size)).trans (h.old i hi)⟩
theorem Grows.drew (w : World) (n : Nat) : Grows w { w with drawn := n } := ⟨rfl, rfl, rfl, Nat.le_refl _, fun _ _ => rfl⟩
theorem Grows.push (w : World) (o : Obj) : Grows w { w with heap := w.heap.push o } :=
  ⟨rfl, rfl, rfl, by simp, fun b hb => by simp [Array.getElem?_push]; omega⟩

/-- The world grows, the heap stays. -/
theorem HR.grow (hr : HR w H L) (hg : Grows w w') : HR w' H L ∧ Ext (envOf w H L) (envOf w' H L) := by
  have he : Ext (envOf w H L) (envOf w' H L) := ⟨hg.os, hg.tape, hg.output, hg.size, fun b hb hO => ⟨hg.old b hb, hO⟩, Nat.le_refl _, fun _ _ => .refl _ _, fun _ _ hv => hv⟩
  refine ⟨hr.step he (fun _ => False) (fun id hid _ => ⟨rfl, rfl, fun hl b hb => hg.old b (hr.blk id _ hl.choose_spec.1 |>.lt hl.choose_spec.2 hb)⟩) (fun id k hk hc => ?_) hr.inj, he⟩
  rcases hc with hc | hc
  · exact hc.elim
  · exact absurd (List.getElem?_eq_some_iff.1 hk).1 (by omega)

/-- A block that belongs to nobody yet is put behind the others. -/
theorem HR.add (hr : HR w H L) (hg : Grows w w') (k : Blk) (lc : Lc) (hb : ∀ b, lc.blk = some b → w.heap.size ≤ b)
    (hk : Ext (envOf w H L) (envOf w' (H ++ [k]) (updL L H.length lc)) → HB (envOf w' (H ++ [k]) (updL L H.length lc)) H.length k) :
    HR w' (H ++ [k]) (updL L H.length lc) ∧ Ext (envOf w H L) (envOf w' (H ++ [k]) (updL L H.length lc)) := by
  have hget : ∀ id x, (H ++ [k])[id]? = some x → (id < H.length ∧ H[id]? = some x) ∨ (id = H.length ∧ x = k) := by
    intro id x hx
    by_cases hlt : id < H.length
    · rw [List.getElem?_append_left hlt] at hx; exact .inl ⟨hlt, hx⟩
    · rw [List.getElem?_append_right (by omega)] at hx
      have : id - H.length = 0 := by
        cases hq : id - H.length with
        | zero => rfl
        | succ n => rw [hq] at hx; simp at hx
      rw [this] at hx
      simp at hx
      exact .inr ⟨by omega, hx.symm⟩
  have hown : ∀ b, b < w.heap.size → Own (H ++ [k]) (updL L H.length lc) b → Own H L b := by
    rintro b hlt ⟨id, x, h1, h2, h3⟩
    rcases hget id x h1 with ⟨e1, e2⟩ | ⟨rfl, rfl⟩
    · rw [updL_ne _ _ _ (by omega)] at h3; exact ⟨id, x, e2, h2, h3⟩
    · rw [updL_self] at h3; have := hb b h3; omega
  have he : Ext (envOf w H L) (envOf w' (H ++ [k]) (updL L H.length lc)) := by
    refine ⟨hg.os, hg.tape, hg.output, hg.size, fun b hlt hO => ⟨hg.old b hlt, fun ho => hO (hown b hlt ho)⟩, by simp [envOf], fun id hid => ?_, fun id hid hv => ?_⟩
    · show LcLe _ (L id) (updL L H.length lc id)
      rw [updL_ne _ _ _ (by simp [envOf] at hid; omega)]; exact .refl _ _
    · obtain ⟨x, h1, h2⟩ := hv
      simp [envOf] at hid
      rcases hget id x h1 with ⟨e1, e2⟩ | ⟨rfl, rfl⟩
      · exact ⟨x, e2, h2⟩
      · omega
  refine ⟨hr.step he (fun _ => False) (fun id hid _ => ⟨List.getElem?_append_left hid, updL_ne _ _ _ (by omega), fun hl b hb' => hg.old b (hr.blk id _ hl.choose_spec.1 |>.lt hl.choose_spec.2 hb')⟩) (fun id x hx hc => ?_) (fun i j b x y hx hy lx ly hbi hbj => ?_), he⟩
  · rcases hc with hc | hc
    · exact hc.elim
    · rcases hget id x hx with ⟨e1, _⟩ | ⟨rfl, rfl⟩
      · omega
      · exact hk he
  · rcases hget i x hx with ⟨e1, e2⟩ | ⟨rfl, rfl⟩ <;> rcases hget j y hy with ⟨e3, e4⟩ | ⟨rfl, rfl⟩
    · rw [updL_ne _ _ _ (by omega)] at hbi; rw [updL_ne _ _ _ (by omega)] at hbj; exact hr.inj i j b x y e2 e4 lx ly hbi hbj
    · rw [updL_ne _ _ _ (by omega)] at hbi; rw [updL_self] at hbj
      have := (hr.blk i x e2).lt lx hbi
      have := hb b hbj
      simp [envOf] at *; omega
    · rw [updL_self] at hbi; rw [updL_ne _ _ _ (by omega)] at hbj
      have := (hr.blk j y e4).lt ly hbj
      have := hb b hbi
      simp [envOf] at *; omega
    · rfl

/-- A live block turns: its place stays, or (a row) it is told anew with a greater number. -/
theorem HR.turn (hr : HR w H L) {id : Nat} {k k' : Blk} (hid : H[id]? = some k) (hl : k.live = true) (lc : Lc)
    (hos : w'.os = w.os) (htape : w'.tape = w.tape) (hout : w'.output = w.output) (hsize : w.heap.size ≤ w'.heap.size)
    (hold : ∀ b, b < w.heap.size → (L id).blk ≠ some b → w'.heap[b]? = w.heap[b]?)
    (hlc : LcLe True (L id) lc) (hb : ∀ b, lc.blk = some b → (L id).blk = some b ∨ w.heap.size ≤ b)
    (hk : Ext (envOf w H L) (envOf w' (H.set id k') (updL L id lc)) → HB (envOf w' (H.set id k') (updL L id lc)) id k') :
    HR w' (H.set id k') (updL L id lc) ∧ Ext (envOf w H L) (envOf w' (H.set id k') (updL L id lc)) := by
  have hlt : id < H.length := (List.getElem?_eq_some_iff.1 hid).1
  have hget : ∀ j x, (H.set id k')[j]? = some x → (j ≠ id ∧ H[j]? = some x) ∨ (j = id ∧ x = k') := by
    intro j x hx
    by_cases e : id = j
    · subst e; rw [List.getElem?_set_self hlt] at hx; simp at hx; exact .inr ⟨rfl, hx.symm⟩
    · rw [List.getElem?_set_ne e] at hx; exact .inl ⟨fun e' => e e'.symm, hx⟩
  have hother : ∀ j x b, j ≠ id → H[j]? = some x → x.live = true → (L j).blk = some b → b < w.heap.size ∧ (L id).blk ≠ some b := by
    intro j x b hne hx lx hbj
    exact ⟨(hr.blk j x hx).lt lx hbj, fun e => hne (hr.inj j id b x k hx hid lx hl hbj e)⟩
  have hown : ∀ b, b < w.heap.size → Own (H.set id k') (updL L id lc) b → Own H L b := by
    rintro b hlt' ⟨j, x, h1, h2, h3⟩
    rcases hget j x h1 with ⟨e1, e2⟩ | ⟨rfl, rfl⟩
    · rw [updL_ne _ _ _ e1] at h3; exact ⟨j, x, e2, h2, h3⟩
    · rw [updL_self] at h3
      rcases hb b h3 with e | e
      · exact ⟨j, k, hid, hl, e⟩
      · omega
  have he : Ext (envOf w H L) (envOf w' (H.set id k') (updL L id lc)) := by
    refine ⟨hos, htape, hout, hsize, fun b hlt' hO => ⟨hold b hlt' (fun e => hO ⟨id, k, hid, hl, e⟩), fun ho => hO (hown b hlt' ho)⟩, by simp [envOf], fun j hj => ?_, fun j hj hv => ?_⟩
    · show LcLe (Live H j) (L j) (updL L id lc j)
      by_cases e : j = id
      · subst e; rw [updL_self]
        rcases hlc with e | ⟨_, e1, e2⟩
        · exact .inl e
        · exact .inr ⟨⟨k, hid, hl⟩, e1, e2⟩
      · rw [updL_ne _ _ _ e]; exact .refl _ _
    · obtain ⟨x, h1, h2⟩ := hv
      rcases hget j x h1 with ⟨e1, e2⟩ | ⟨rfl, rfl⟩
      · exact ⟨x, e2, h2⟩
      · exact ⟨k, hid, hl⟩
  refine ⟨hr.step he (fun j => j = id) (fun j hj hne => ⟨List.getElem?_set_ne (fun e => hne e.symm), updL_ne _ _ _ hne, fun ⟨x, hx, lx⟩ b hbj => ?_⟩) (fun j x hx hc => ?_) (fun i j b x y hx hy lx ly hbi hbj => ?_), he⟩
  · obtain ⟨h1, h2⟩ := hother j x b hne hx lx hbj
    exact hold b h1 h2
  · rcases hc with rfl | hc
    · rcases hget j x hx with ⟨e1, _⟩ | ⟨_, rfl⟩
      · exact absurd rfl e1
      · exact hk he
    · have := (List.getElem?_eq_some_iff.1 hx).1
      simp at this; omega
  · rcases hget i x hx with ⟨e1, e2⟩ | ⟨rfl, rfl⟩ <;> rcases hget j y hy with ⟨e3, e4⟩ | ⟨rfl, rfl⟩
    · rw [updL_ne _ _ _ e1] at hbi; rw [updL_ne _ _ _ e3] at hbj; exact hr.inj i j b x y e2 e4 lx ly hbi hbj
    · rw [updL_ne _ _ _ e1] at hbi; rw [updL_self] at hbj
      obtain ⟨h1, h2⟩ := hother i x b e1 e2 lx hbi
      rcases hb b hbj with e | e
      · exact absurd e h2
      · omega
    · rw [updL_self] at hbi; rw [updL_ne _ _ _ e3] at hbj
      obtain ⟨h1, h2⟩ := hother j y b e3 e4 ly hbj
      rcases hb b hbi with e | e
      · exact absurd e h2
      · omega
    · rfl

end
end Go.AM
