/- The operations that act on memory: what the abstract machine says they do, the model's machine does. -/
import Derived.Test.YtahjgmldkbbpaaaAMHeap
import Derived.Test.YtahjgmldkbbpaaaAMActs
set_option linter.unusedSimpArgs false
set_option linter.unusedVariables false
namespace Go.AM
open Go

def Same (w w' : World) (H : List Blk) (L L' : Nat → Lc) (ws : List Nat) : Prop :=
  ∀ id, id < H.length → id ∉ ws → L' id = L id ∧ (Live H id → ∀ b, (L id).blk = some b → w'.heap[b]? = w.heap[b]?)

/-- What an act comes to. -/
def Im (w : World) (H : List Blk) (L : Nat → Lc) (r : Result Next) (v : AV) (H' : List Blk) (ws : List Nat) : Prop :=
  ∃ nx w' L', r = .ok nx w' ∧ ((∃ cv, nx = .value cv ∧ AR (envOf w' H' L') v cv) ∨ (nx = .skip ∧ v = .undef)) ∧ HR w' H' L' ∧ Ext (envOf w H L) (envOf w' H' L') ∧ Same w w' H L L' ws

theorem same_grow {w w' : World} {H : List Blk} {L : Nat → Lc} (hr : HR w H L) (hg : Grows w w') (ws : List Nat) : Same w w' H L L ws :=
  fun id hid _ => ⟨rfl, fun ⟨x, hx, lx⟩ b hb => hg.old b ((hr.blk id x hx).lt lx hb)⟩

section
variable {w w' : World} {H : List Blk} {L : Nat → Lc}

theorem HR.add_same (hr : HR w H L) (hg : Grows w w') (k : Blk) (lc : Lc) (hb : ∀ b, lc.blk = some b → w.heap.size ≤ b)
    (hk : Ext (envOf w H L) (envOf w' (H ++ [k]) (updL L H.length lc)) → HB (envOf w' (H ++ [k]) (updL L H.length lc)) H.length k) (ws : List Nat) :
    HR w' (H ++ [k]) (updL L H.length lc) ∧ Ext (envOf w H L) (envOf w' (H ++ [k]) (updL L H.length lc)) ∧ Same w w' H L (updL L H.length lc) ws := by
  obtain ⟨h1, h2⟩ := hr.add hg k lc hb hk
  exact ⟨h1, h2, fun id hid hws => ⟨updL_ne _ _ _ (by omega), (same_grow hr hg ws id hid hws).2⟩⟩

/-- A row is kept ready. -/
theorem HR.reserve (hr : HR w H L) (sz : Nat) (ws : List Nat) : ∃ L', HR w (H ++ [.rows sz 1 []]) L' ∧ Ext (envOf w H L) (envOf w (H ++ [.rows sz 1 []]) L') ∧ Same w w H L L' ws ∧
    AR (envOf w (H ++ [.rows sz 1 []]) L') (.ms H.length 1 sz 0 0) (.slice none 0 0) := by
  obtain ⟨h1, h2, h3⟩ := hr.add_same (Grows.refl w) (.rows sz 1 []) ⟨none, 1, 0, false⟩ (by simp) (fun _ => by
    show ((updL L H.length _) H.length).gen = 1 ∧ _
    rw [updL_self]
    refine ⟨rfl, ⟨?_, by omega⟩, ?_⟩
    · show ((updL L H.length _) H.length).st = false; rw [updL_self]
    · show match ((updL L H.length _) H.length).blk with | none => _ | some b => _
      rw [updL_self]
      refine ⟨rfl, ?_⟩
      show ((updL L H.length _) H.length).cap = 0
      rw [updL_self]) ws
  refine ⟨_, h1, h2, h3, ?_⟩
  refine .ms (by simp [envOf]) ?_ ?_ rfl (fun _ => ?_)
  · show 0 < ((updL L H.length _) H.length).gen; rw [updL_self]; exact Nat.one_pos
  · show 1 ≤ ((updL L H.length _) H.length).gen; rw [updL_self]; exact Nat.le_refl _
  · show MsOk ((updL L H.length _) H.length) _ _ _ _; rw [updL_self]; exact ⟨rfl, rfl, rfl⟩

theorem heap_push (w : World) (o : Obj) : ({ w with heap := w.heap.push o } : World).heap[w.heap.size]? = some o := by simp

/-- A new variable. -/
theorem HR.newCells (hr : HR w H L) (hg : Grows w w') (cs : List AV) (C : Array Value) (T : TypeId) (b : Nat) (hlt : w.heap.size ≤ b) (hb : w'.heap[b]? = some (.cells C T (0, 0))) (hc : CRel (envOf w H L) cs C)
    (h1 : ∀ (j : Nat) (v : Value), C[j]? = some v → v.oneCell' = true) (ws : List Nat) :
    ∃ L', HR w' (H ++ [.cells cs]) L' ∧ Ext (envOf w H L) (envOf w' (H ++ [.cells cs]) L') ∧ Same w w' H L L' ws ∧ AR (envOf w' (H ++ [.cells cs]) L') (.ptr H.length 0) (.pointer (some ⟨b, 0, none⟩)) := by
  obtain ⟨k1, k2, k3⟩ := hr.add_same hg (.cells cs) ⟨some b, 0, 0, true⟩ (by simpa using hlt) (fun he => by
    refine ⟨?_, b, T, C, ?_, hb, hc.1.symm, fun j a hj => ?_⟩
    · show ((updL L H.length _) H.length).st = true; rw [updL_self]
    · show ((updL L H.length _) H.length).blk = some b; rw [updL_self]
    · have hlt : j < C.size := by rw [← hc.1]; exact (List.getElem?_eq_some_iff.1 hj).1
      refine ⟨C[j], Array.getElem?_eq_getElem hlt, (hc.2 j a _ hj (Array.getElem?_eq_getElem hlt)).mono he, h1 j _ (Array.getElem?_eq_getElem hlt)⟩) ws
  refine ⟨_, k1, k2, k3, .ptr (by simp [envOf]) ?_ ?_⟩
  · show ((updL L H.length _) H.length).st = true; rw [updL_self]
  · show ((updL L H.length _) H.length).blk = some b; rw [updL_self]

theorem rows_get {E : Env} {sz : Nat} {els : List (List GV)} {C : Array Value} (hlen : ∀ (i : Nat) (el : List GV), els[i]? = some el → el.length = sz) : True := trivial

/-- A new row. -/
theorem HR.newRows (hr : HR w H L) (hg : Grows w w') (sz : Nat) (els : List (List GV)) (cap : Nat) (C : Array Value) (T : TypeId) (b : Nat) (hlt : w.heap.size ≤ b) (hb : w'.heap[b]? = some (.cells C T (0, 0)))
    (hrow : RowsIn (envOf w H L) C sz cap els) (ws : List Nat) :
    ∃ L', HR w' (H ++ [.rows sz 1 els]) L' ∧ Ext (envOf w H L) (envOf w' (H ++ [.rows sz 1 els]) L') ∧ Same w w' H L L' ws ∧
      AR (envOf w' (H ++ [.rows sz 1 els]) L') (.ms H.length 1 sz 0 els.length) (.slice (some ⟨b, 0, none⟩) els.length cap) := by
  obtain ⟨k1, k2, k3⟩ := hr.add_same hg (.rows sz 1 els) ⟨some b, 1, cap, false⟩ (by simpa using hlt) (fun he => by
    refine ⟨?_, ⟨?_, by omega⟩, ?_⟩
    · show ((updL L H.length _) H.length).gen = 1; rw [updL_self]
    · show ((updL L H.length _) H.length).st = false; rw [updL_self]
    · show match ((updL L H.length _) H.length).blk with | none => _ | some b => ∃ T C, w'.heap[b]? = some (.cells C T (0, 0)) ∧ RowsIn _ C sz ((updL L H.length _) H.length).cap els
      rw [updL_self]
      exact ⟨T, C, hb, hrow.mono he⟩) ws
  refine ⟨_, k1, k2, k3, .ms (by simp [envOf]) ?_ ?_ rfl (fun _ => ?_)⟩
  · show 0 < ((updL L H.length _) H.length).gen; rw [updL_self]; exact Nat.one_pos
  · show 1 ≤ ((updL L H.length _) H.length).gen; rw [updL_self]; exact Nat.le_refl _
  · show MsOk ((updL L H.length _) H.length) _ _ _ _; rw [updL_self]
    exact ⟨_, cap, rfl, by simp, hrow.2.1, .inl (by simp)⟩

end
end Go.AM
