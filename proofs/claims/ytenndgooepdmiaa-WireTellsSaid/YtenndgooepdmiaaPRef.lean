/- The reference's reader reads what was written. -/
import Derived.Test.YtenndgooepdmiaaSRef4
namespace Go.Proofs.Ytenndgooepdmiaa
open Go Go.AM Go.Proofs
set_option maxRecDepth 20000
set_option maxHeartbeats 1000000
set_option linter.unusedSimpArgs false
set_option linter.unusedVariables false
def Good2 {α : Type} (it : Bs → R2 → α × R2) (enc : α → Bs) (ok : α → Prop) : Prop :=
  ∀ x, ok x → ∀ pre t : Bs, it (pre ++ (enc x ++ t)) (((pre.length : Nat) : Int), false) = (x, ((((pre ++ enc x).length : Nat) : Int), false))
theorem Good2.seq {α β : Type} {a : Bs → R2 → α × R2} {b : Bs → R2 → β × R2} {ea : α → Bs} {eb : β → Bs} {oa : α → Prop} {ob : β → Prop} (ha : Good2 a ea oa) (hb : Good2 b eb ob) :
    Good2 (fun s => seq2 (a s) (b s)) (fun p => ea p.1 ++ eb p.2) (fun p => oa p.1 ∧ ob p.2) := by
  rintro ⟨x, y⟩ ⟨h1, h2⟩ pre t
  have k1 := ha x h1 pre (eb y ++ t)
  have k2 := hb y h2 (pre ++ ea x) t
  simp only [List.append_assoc] at k1 k2 ⊢
  simp only [seq2, k1, k2]
theorem Good2.map {α β : Type} {a : Bs → R2 → α × R2} {ea : α → Bs} {oa : α → Prop} (ha : Good2 a ea oa) (f : α → β) (g : β → α) (eb : β → Bs) (ob : β → Prop) (hfg : ∀ y, f (g y) = y) (hgf : ∀ x, eb (f x) = ea x) (ho : ∀ y, ob y → oa (g y)) :
    Good2 (fun s st => (f (a s st).1, (a s st).2)) eb ob := by
  intro y hy pre t
  have h1 : eb y = ea (g y) := by rw [← hgf, hfg]
  simp only [h1, ha (g y) (ho y hy), hfg]
theorem readS_pre (n : Nat) (pre t : Bs) (h : n < 18446744073709551616) : readS (pre ++ (varB n ++ t)) pre.length = (n, (((pre ++ varB n).length : Nat) : Int), 0) := by
  unfold readS
  rw [if_pos ⟨by omega, by simp; omega⟩]
  have e : (pre ++ (varB n ++ t)).drop ((pre.length : Nat) : Int).toNat = varB n ++ t := by simp
  rw [e, read_var pre.length t n 0 0 (by simpa using h) (by omega) (by omega)]
  simp
theorem good2N : Good2 r2N encN (fun n => 0 ≤ n ∧ n ≤ 1099511627775) := by
  intro n ⟨h0, h1⟩ pre t
  obtain ⟨k, rfl⟩ : ∃ k : Nat, n = k := ⟨n.toNat, by omega⟩
  have hr := readS_pre k pre t (by omega)
  have e : encN (k : Int) = varB k := rfl
  unfold r2N
  simp only [e, hr]
  rw [if_neg (by simp; omega)]
theorem good2T : Good2 r2T encS (fun s => s.length ≤ 1099511627775) := by
  intro x hx pre t
  have h1 := good2N (x.length : Int) ⟨by omega, by omega⟩ pre (x ++ t)
  unfold r2T encS
  simp only [List.append_assoc] at h1 ⊢
  simp only [h1]
  rw [if_neg (by simp; omega)]
  have e1 : ((((pre ++ encN (x.length : Int)).length : Nat) : Int) + (x.length : Int)).toNat = (pre ++ (encN (x.length : Int) ++ x)).length := by simp; omega
  have e2 : ((((pre ++ encN (x.length : Int)).length : Nat) : Int)).toNat = (pre ++ encN (x.length : Int)).length := by omega
  rw [e1, e2]
  have e3 : pre ++ (encN (x.length : Int) ++ (x ++ t)) = (pre ++ (encN (x.length : Int) ++ x)) ++ t := by simp
  have e4 : List.take (pre ++ (encN (x.length : Int) ++ x)).length (pre ++ (encN (x.length : Int) ++ (x ++ t))) = pre ++ (encN (x.length : Int) ++ x) := by rw [e3, List.take_left]
  rw [e4]
  refine Prod.ext ?_ (Prod.ext ?_ rfl)
  · simp only
    rw [← List.append_assoc, List.drop_left]
  · simp; omega
theorem good2B : Good2 r2B encB (fun _ => True) := by
  intro b _ pre t
  have h1 := good2N 1 ⟨by omega, by omega⟩ pre t
  have h0 := good2N 0 ⟨by omega, by omega⟩ pre t
  rw [encN1] at h1
  rw [encN0] at h0
  cases b <;> simp only [r2B, encB, h1, h0, if_true, if_false, Bool.false_eq_true] <;> simp
theorem good2Cmp : Good2 r2Cmp encCmp (fun c => cmpOk c = true) := by
  have h := good2T.seq (good2N.seq (good2N.seq (good2N.seq good2T)))
  exact h.map (fun x => (⟨x.1, x.2.1, x.2.2.1, x.2.2.2.1, x.2.2.2.2⟩ : Cmp)) (fun c => (c.key, c.what, c.how, c.n, c.value)) encCmp _ (fun _ => rfl) (fun x => by simp [encCmp]) (fun c hc => by
    obtain ⟨⟨h1, h2⟩, h3, h4, h5, h6, h7, h8⟩ := cmpOk_iff.1 hc
    exact ⟨by simp only; omega, ⟨by simp only; omega, by simp only; omega⟩, ⟨by simp only; omega, by simp only; omega⟩, ⟨h7, h8⟩, by simp only; omega⟩)
theorem good2Mut : Good2 r2Mut encMut (fun c => mutOk c = true) := by
  have h := good2B.seq (good2T.seq (good2T.seq good2N))
  exact h.map (fun x => (⟨x.1, x.2.1, x.2.2.1, x.2.2.2⟩ : Mut)) (fun c => (c.gone, c.key, c.value, c.lease)) encMut _ (fun _ => rfl) (fun x => by simp [encMut]) (fun c hc => by
    obtain ⟨⟨h1, h2⟩, h3, h4⟩ := mutOk_iff.1 hc
    exact ⟨trivial, by simp only; omega, by simp only; omega, h3, h4⟩)
theorem good2KV : Good2 r2KV encKV (fun c => kvOk c = true) := by
  have h := good2T.seq (good2T.seq (good2N.seq (good2N.seq (good2N.seq good2N))))
  exact h.map (fun x => (⟨x.1, x.2.1, x.2.2.1, x.2.2.2.1, x.2.2.2.2.1, x.2.2.2.2.2⟩ : KV)) (fun c => (c.key, c.value, c.create, c.mod, c.version, c.lease)) encKV _ (fun _ => rfl) (fun x => by simp [encKV]) (fun c hc => by
    obtain ⟨⟨h1, h2⟩, h3, h4, h5, h6⟩ := kvOk_iff.1 hc
    exact ⟨by simp only; omega, by simp only; omega, h3, h4, h5, h6⟩)
theorem good2Ev : Good2 r2Ev encEv (fun c => evOk c = true) := by
  have h := good2N.seq (good2B.seq good2KV)
  exact h.map (fun x => (⟨x.1, x.2.1, x.2.2⟩ : Ev)) (fun c => (c.rev, c.gone, c.kv)) encEv _ (fun _ => rfl) (fun x => by simp [encEv]) (fun c hc => by
    obtain ⟨h1, h2, h3⟩ := evOk_iff.1 hc
    exact ⟨⟨h2, h3⟩, trivial, h1⟩)
/-- A list: its number, and its things. -/
def r2Li {α : Type} (it : Bs → R2 → α × R2) (d : Nat) (s : Bs) (st : R2) : List α × R2 := r2L (it s) (r2N s st).1 d [] (r2N s st).2
theorem r2L_r {α : Type} {it : Bs → R2 → α × R2} {enc : α → Bs} {ok : α → Prop} (h : Good2 it enc ok) (t : Bs) : ∀ (l : List α) (d : Nat) (out : List α) (pre : Bs), (∀ x ∈ l, ok x) → l.length ≤ d →
    r2L (it (pre ++ ((l.map enc).flatten ++ t))) ((out.length + l.length : Nat) : Int) d out (((pre.length : Nat) : Int), false) = (out ++ l, ((((pre ++ (l.map enc).flatten).length : Nat) : Int), false)) := by
  intro l
  induction l with
  | nil =>
    intro d out pre _ _
    cases d with
    | zero => simp [r2L]
    | succ d => simp [r2L]
  | cons x l ih =>
    intro d out pre hl hd
    obtain ⟨d', rfl⟩ : ∃ d', d = d' + 1 := ⟨d - 1, by simp at hd; omega⟩
    have k1 := h x (hl x (by simp)) pre ((l.map enc).flatten ++ t)
    have k2 := ih d' (out ++ [x]) (pre ++ enc x) (fun y hy => hl y (by simp [hy])) (by simp at hd; omega)
    unfold r2L
    rw [if_pos ⟨by simp only [List.length_cons]; omega, rfl⟩]
    simp only [List.map_cons, List.flatten_cons, List.append_assoc] at k1 k2 ⊢
    rw [k1]
    simp only [List.length_append, List.length_cons, List.length_nil] at k2 ⊢
    rw [show out.length + (l.length + 1) = out.length + (0 + 1) + l.length by omega]
    rw [k2]
    simp
theorem good2L {α : Type} {it : Bs → R2 → α × R2} {enc : α → Bs} {ok : α → Prop} (h : Good2 it enc ok) (d : Nat) (hd : d ≤ 1000) :
    Good2 (r2Li it d) (fun l => encN l.length ++ (l.map enc).flatten) (fun l => l.length ≤ d ∧ ∀ x ∈ l, ok x) := by
  intro l ⟨h1, h2⟩ pre t
  have hn := good2N (l.length : Int) ⟨by omega, by omega⟩ pre ((l.map enc).flatten ++ t)
  have hr := r2L_r h t l d [] (pre ++ encN (l.length : Int)) h2 h1
  unfold r2Li
  simp only [List.append_assoc, List.length_nil, Nat.zero_add, List.nil_append] at hn hr ⊢
  rw [hn]
  simp only
  rw [hr]
end Go.Proofs.Ytenndgooepdmiaa
