/- The operations that act on memory: what the abstract machine says they do, the model's machine does. -/
import Derived.Test.YtahjgmldkbbpaaaAMActs2
import Derived.Laws.MakeOwn
set_option linter.unusedSimpArgs false
set_option linter.unusedVariables false
namespace Go.AM
open Go

def ZRel (z : List Z) (cs : List Value) : Prop :=
  z.length = cs.length ∧ ∀ (j : Nat) (x : Z) (c : Value), z[j]? = some x → cs[j]? = some c → (∃ v, x = .z v ∧ cVal c = some (.g v)) ∨ (∃ n, x = .s n ∧ c = .slice none 0 0)

theorem ZRel.tail {x : Z} {z : List Z} {c : Value} {cs : List Value} (h : ZRel (x :: z) (c :: cs)) : ZRel z cs :=
  ⟨by have := h.1; simpa using this, fun j y d hy hd => h.2 (j + 1) y d (by simpa using hy) (by simpa using hd)⟩

theorem Same.trans {w w1 w2 : World} {H H1 : List Blk} {L L1 L2 : Nat → Lc} {ws : List Nat} (h : Same w w1 H L L1 ws) (k : Same w1 w2 H1 L1 L2 ws) (hle : H.length ≤ H1.length) (hg : ∀ id, id < H.length → id ∉ ws → Live H id → Live H1 id) : Same w w2 H L L2 ws := by
  intro id hid hws
  obtain ⟨h1, h2⟩ := h id hid hws
  obtain ⟨k1, k2⟩ := k id (by omega) hws
  exact ⟨k1.trans h1, fun hl b hb => (k2 (hg id hid hws hl) b (by rw [h1]; exact hb)).trans (h2 hl b hb)⟩

theorem zres_ok {w : World} : ∀ (z : List Z) (cs : List Value) (H : List Blk) (L : Nat → Lc), ZRel z cs → HR w H L →
    ∃ L', HR w (H ++ (zres H.length z).2) L' ∧ Ext (envOf w H L) (envOf w (H ++ (zres H.length z).2) L') ∧ Same w w H L L' [] ∧ (zres H.length z).1.length = cs.length ∧
      ∀ (j : Nat) (x : AV) (c : Value), (zres H.length z).1[j]? = some x → cs[j]? = some c → AR (envOf w (H ++ (zres H.length z).2) L') x c := by
  intro z
  induction z with
  | nil =>
    intro cs H L hz hr
    have : cs = [] := by have := hz.1; simp at this; exact List.eq_nil_of_length_eq_zero this.symm
    subst this
    exact ⟨L, by simpa [zres] using hr, by simpa [zres] using Ext.refl _, fun id _ _ => ⟨rfl, fun _ _ _ => rfl⟩, rfl, by simp⟩
  | cons x z ih =>
    intro cs H L hz hr
    cases cs with
    | nil => have := hz.1; simp at this
    | cons c cs =>
      rcases hz.2 0 x c rfl rfl with ⟨v, rfl, hv⟩ | ⟨n, rfl, rfl⟩
      · obtain ⟨L', h1, h2, h3, h4, h5⟩ := ih cs H L hz.tail hr
        refine ⟨L', h1, h2, h3, by simp [zres, h4], fun j y d hy hd => ?_⟩
        cases j with
        | zero => simp [zres] at hy hd; subst hy hd; exact cVal_ok hv
        | succ j => exact h5 j y d (by simpa [zres] using hy) (by simpa using hd)
      · obtain ⟨L1, r1, r2, r3, r4⟩ := hr.reserve n []
        obtain ⟨L', h1, h2, h3, h4, h5⟩ := ih cs (H ++ [.rows n 1 []]) L1 hz.tail r1
        simp only [List.length_append, List.length_cons, List.length_nil] at h1 h2 h4 h5
        have e : H ++ [Blk.rows n 1 []] ++ (zres (H.length + (0 + 1)) z).2 = H ++ (zres H.length (.s n :: z)).2 := by simp [zres]
        rw [e] at h1 h2 h5
        refine ⟨L', h1, r2.trans h2, r3.trans h3 (by simp) (fun id hid _ hl => ?_), by simpa [zres] using h4, fun j y d hy hd => ?_⟩
        · obtain ⟨k, k1, k2⟩ := hl
          exact ⟨k, by rw [List.getElem?_append_left hid]; exact k1, k2⟩
        · cases j with
          | zero => simp [zres] at hy hd; subst hy hd; exact r4.mono h2
          | succ j => exact h5 j y d (by simpa [zres] using hy) (by simpa using hd)

theorem cZ_ok {P : Program} {t : TypeId} {zs : List Z} (h : cZ P t = some zs) : ∃ i z, P.info? t = some i ∧ i.zero = some z ∧ ZRel zs z.cells.toList ∧ ∀ (j : Nat) (u : Value), z.cells[j]? = some u → u.oneCell' = true := by
  unfold cZ at h
  split at h
  · rename_i as ks has hks
    split at h
    · rename_i hlen
      obtain ⟨i, z, hi, hz, hcr, h1⟩ := cZero_ok (E := ⟨default, fun _ => False, fun _ => ⟨none, 0, 0, false⟩, 0, fun _ => False⟩) has
      refine ⟨i, z, hi, hz, ?_, h1⟩
      obtain ⟨m1, m2⟩ := mapM_get h
      have hl2 : (as.zip ks).length = as.length := by simp [hlen]
      refine ⟨by rw [m1, hl2, hcr.1]; simp, fun j x c hx hc => ?_⟩
      have hj : j < as.length := by have := (List.getElem?_eq_some_iff.1 hx).1; omega
      have hjk : j < ks.length := by omega
      have hzip : (as.zip ks)[j]? = some (as[j], ks[j]) := by rw [List.getElem?_zip_eq_some]; exact ⟨List.getElem?_eq_getElem hj, List.getElem?_eq_getElem hjk⟩
      have hm := m2 j _ x hzip hx
      unfold cZero at has
      rw [hi] at has
      simp [hz] at has
      obtain ⟨n1, n2⟩ := mapM_get has
      have hcv := n2 j c as[j] hc (List.getElem?_eq_getElem hj)
      dsimp only at hm
      split at hm
      · rename_i heq _
        simp at hm
        subst hm
        refine .inr ⟨_, rfl, ?_⟩
        rw [heq] at hcv
        unfold cVal at hcv
        split at hcv <;> (first | (cases hcv; done) | rfl)
      · rename_i heq _
        simp at hm
        subst hm
        exact .inl ⟨_, rfl, by rw [hcv, heq]⟩
      · cases hm
    · cases h
  · cases h

/-- A value's cells and the kinds of blocks that are made of them. -/
theorem run_newVar {P : Program} (t : TypeId) (v : Value) (w : World) : (newVar t v).run P w = .ok ⟨w.heap.size, 0, none⟩ { w with heap := w.heap.push (.cells v.cells t) } := by
  simp [newVar, newRow]

section
variable {P : Program} {h : List Blk} {s s' : St} {a : Act} {w : World} {L : Nat → Lc} {v : AV} {ws : List Nat} {drw : Option Nat} {nb : Nat}

theorem im_value {w' : World} {L' : Nat → Lc} {r : Result Next} {H H' : List Blk} {cv : Value} (h1 : r = .ok (.value cv) w') (h2 : AR (envOf w' H' L') v cv) (h3 : HR w' H' L') (h4 : Ext (envOf w H L) (envOf w' H' L')) (h5 : Same w w' H L L' ws) :
    Im w H L r v H' ws := ⟨_, w', L', h1, .inl ⟨cv, rfl, h2⟩, h3, h4, h5⟩

theorem i_nres (hr : HR w (full h s) L) {o : Oper} {sz : Nat} (ho : o.op = .assign (.const (.slice none 0 0))) (he : evI h nb s (.nres sz) = some (v, s', ws)) :
    Im w (full h s) L ((execOp a.eval o).run P w) v (full h s') ws ∧ s'.t = s.t := by
  simp [evI] at he
  obtain ⟨rfl, rfl, rfl⟩ := he
  obtain ⟨L', h1, h2, h3, h4⟩ := hr.reserve sz []
  rw [full_length] at h4
  refine ⟨?_, rfl⟩
  rw [full_push]
  exact im_value (by simp [execOp, ho, Act.eval]) h4 h1 h2 h3

theorem i_alloc (hr : HR w (full h s) L) {o : Oper} {t : TypeId} {z : List Z} (ho : o.op = .alloc t) (hz : cZ P t = some z) (he : evI h nb s (.alloc z) = some (v, s', ws)) :
    Im w (full h s) L ((execOp a.eval o).run P w) v (full h s') ws ∧ s'.t = s.t := by
  simp [evI] at he
  obtain ⟨rfl, rfl, rfl⟩ := he
  refine ⟨?_, rfl⟩
  obtain ⟨i, zv, hi, hzz, hzr, hone⟩ := cZ_ok hz
  obtain ⟨L1, r1, r2, r3, r4, r5⟩ := zres_ok z zv.cells.toList (full h s) L hzr hr
  rw [full_length] at r1 r2 r4 r5
  obtain ⟨L', k1, k2, k3, k4⟩ := r1.newCells (Grows.push w (.cells zv.cells t)) (zres (s.next h) z).1 zv.cells t w.heap.size (Nat.le_refl _) (heap_push _ _) ⟨by rw [r4]; simp, fun j x c hx hc => r5 j x c hx (by simpa using hc)⟩ hone []
  have e : full h { s with o := s.o ++ ((zres (s.next h) z).2 ++ [Blk.cells (zres (s.next h) z).1]) } = full h s ++ (zres (s.next h) z).2 ++ [Blk.cells (zres (s.next h) z).1] := by simp [full]
  rw [e]
  have e2 : (full h s ++ (zres (s.next h) z).2).length = s.next h + (zres (s.next h) z).2.length := by rw [List.length_append, full_length]
  rw [e2] at k4
  refine im_value (cv := .pointer (some ⟨w.heap.size, 0, none⟩)) ?_ k4 k1 (r2.trans k2) (r3.trans k3 (by simp) fun id hid _ ⟨x, hx, lx⟩ => ⟨x, by rw [List.getElem?_append_left hid]; exact hx, lx⟩)
  simp only [execOp, ho, Instr.alloc]
  simp [zeroValue, typeInfo, hi, hzz, run_newVar]

theorem i_box (hr : HR w (full h s) L) (ht : TR (envOf w (full h s) L) a s.t) {o : Oper} {t : TypeId} {x : Operand} {X : Opd} (ho : o.op = .box t x) (hx : cOpd x = some X) (he : evI h nb s (.box X) = some (v, s', ws)) :
    Im w (full h s) L ((execOp a.eval o).run P w) v (full h s') ws ∧ s'.t = s.t := by
  simp only [evI] at he
  cases hX : val s X with
  | none => simp [hX] at he
  | some u =>
    simp only [hX] at he
    cases hcs : u.cellsO with
    | none => simp [hcs] at he
    | some cs =>
      simp [hcs] at he
      obtain ⟨rfl, rfl, rfl⟩ := he
      refine ⟨?_, rfl⟩
      obtain ⟨c1, c2⟩ := cells_ok (cOpd_ok ht hx hX) hcs
      obtain ⟨L', k1, k2, k3, k4⟩ := hr.newCells (Grows.push w (.cells (a.eval x).cells t)) cs (a.eval x).cells t w.heap.size (Nat.le_refl _) (heap_push _ _) c1 c2 []
      rw [full_push]
      rw [full_length] at k4
      exact im_value (cv := .pointer (some ⟨w.heap.size, 0, none⟩)) (by simp [execOp, ho, Instr.box, run_newVar]) k4 k1 k2 k3

theorem grounds_ok {E : Env} : ∀ {cs : List AV} {gs : List GV}, grounds cs = some gs → cs = gs.map .g := by
  intro cs
  induction cs with
  | nil => intro gs h; simp [grounds] at h; subst h; rfl
  | cons x cs ih =>
    intro gs h
    cases x with
    | g v =>
      simp only [grounds] at h
      cases hg : grounds cs with
      | none => simp [hg] at h
      | some vs => simp [hg] at h; subst h; simp [ih hg]
    | _ => simp [grounds] at h

theorem chunk_get {α : Type} (sz : Nat) : ∀ (n : Nat) (l : List α) (i : Nat) (el : List α), (chunk sz n l)[i]? = some el → i < n ∧ el = (l.drop (i * sz)).take sz := by
  intro n
  induction n with
  | zero => intro l i el h; simp [chunk] at h
  | succ n ih =>
    intro l i el h
    cases i with
    | zero => simp [chunk] at h; exact ⟨by omega, by simp [h]⟩
    | succ i =>
      simp [chunk] at h
      obtain ⟨h1, h2⟩ := ih _ i el h
      refine ⟨by omega, ?_⟩
      rw [h2, List.drop_drop]
      congr 2
      rw [Nat.add_mul]; omega
theorem chunk_length {α : Type} (sz : Nat) : ∀ (n : Nat) (l : List α), (chunk sz n l).length = n
  | 0, _ => rfl
  | n + 1, l => by simp [chunk, chunk_length sz n]

/-- A row of cells that nobody owns, as a slice that is only read. -/
theorem GR.ofRow {E : Env} {b : Nat} {C : Array Value} {T : TypeId} {fr : Nat × Nat} {gs : List GV} {sz n cap : Nat} (hb : E.w.heap[b]? = some (.cells C T fr)) (hO : ¬ E.O b) (hn : n ≤ cap) (hl : gs.length = n * sz)
    (hc : ∀ (j : Nat) (g : GV), gs[j]? = some g → ∃ u, C[j]? = some u ∧ GR E g u) : GR E (.sl sz (chunk sz n gs)) (.slice (some ⟨b, 0, none⟩) n cap) := by
  have hlt : b < E.w.heap.size := (Array.getElem?_eq_some_iff.1 hb).1
  have hget : ∀ (i : Nat) (el : List GV) (j : Nat) (x : GV), (chunk sz n gs)[i]? = some el → el[j]? = some x → gs[i * sz + j]? = some x ∧ j < sz := by
    intro i el j x hi hj
    obtain ⟨h1, rfl⟩ := chunk_get sz n gs i el hi
    rw [List.getElem?_take] at hj
    split at hj
    · rw [List.getElem?_drop] at hj; exact ⟨hj, by assumption⟩
    · cases hj
  have hlen := chunk_length sz n gs
  have key : GR E (.sl sz (chunk sz n gs)) (.slice (some ⟨b, 0, none⟩) (chunk sz n gs).length cap) := by
    refine .sl (fun i j => C.getD (i * sz + j) Go.undef) (by omega) hlt hO (fun i el hi => ?_) (fun i el j x hi hj => ?_) (fun i el j x hi hj => ?_)
    · obtain ⟨h1, rfl⟩ := chunk_get sz n gs i el hi
      simp only [List.length_take, List.length_drop, hl]
      have : i * sz + sz ≤ n * sz := by rw [← Nat.succ_mul]; exact Nat.mul_le_mul_right _ h1
      omega
    · obtain ⟨h1, _⟩ := hget i el j x hi hj
      obtain ⟨u, hu, _⟩ := hc _ _ h1
      simp [World.cell?, hb, Array.getD_eq_getD_getElem?, hu]
    · obtain ⟨h1, _⟩ := hget i el j x hi hj
      obtain ⟨u, hu, hg⟩ := hc _ _ h1
      simp [Array.getD_eq_getD_getElem?, hu, hg]
  rw [hlen] at key
  exact key

end
end Go.AM
