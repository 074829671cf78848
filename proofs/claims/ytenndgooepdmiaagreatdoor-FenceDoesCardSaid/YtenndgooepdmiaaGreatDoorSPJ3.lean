/- Part of the proof: what the functions answer, part 3 (PVar, PWire, PWire2, SRead, SRead2, SRead3, SAsk, SFence9, LLive20, SFenceR, SFenceR2, SRef1, SRef2). No conditions. -/
import Derived.Test.YtenndgooepdmiaaGreatDoorSPJ2
import Derived.Test.YtenndgooepdmiaaGreatDoorSPJ1
section
namespace Go.Proofs.YtenndgooepdmiaaGreatDoor
open Go Go.AM Go.Proofs
set_option maxRecDepth 4000
set_option linter.unusedSimpArgs false
set_option linter.unusedVariables false
theorem varB_small {n : Nat} (h : n < 128) : varB n = [UInt8.ofNat n] := by unfold varB; rw [varI, varL, if_pos h, if_pos h]; rfl
theorem varB_big {n : Nat} (h : ¬ n < 128) : varB n = UInt8.ofNat (n % 128 + 128) :: varB (n / 128) := by unfold varB; rw [varI, varL, if_neg h, if_neg h]; rfl
theorem toNat8 {n : Nat} (h : n < 256) : (UInt8.ofNat n).toNat = n := by simp; omega
theorem read_var (at_ : Int) (s : Bs) : ∀ (n k a : Nat), n * 128 ^ k < 18446744073709551616 → k ≤ 9 → (0 < k → n ≠ 0) → readG at_ k a (varB n ++ s) = (a + n * 128 ^ k, at_ + k + (varB n).length, 0) := by
  intro n
  induction n using Nat.strongRecOn with
  | _ n ih =>
    intro k a h1 h2 h3
    by_cases hn : n < 128
    · rw [varB_small hn]
      have hb : badB k (UInt8.ofNat n) = false := by
        simp only [badB, toNat8 (show n < 256 by omega)]
        by_cases h9 : k = 9
        · subst h9
          have : n ≠ 0 := h3 (by omega)
          simp; omega
        · by_cases h0 : 0 < k
          · have := h3 h0; simp [h9, this]
          · simp [h9, h0]
      simp only [List.cons_append, List.nil_append, readG, hb, Bool.false_eq_true, if_false, toNat8 (show n < 256 by omega), hn, if_true, Nat.mod_eq_of_lt hn]
      simp
    · rw [varB_big hn]
      have hk : k ≤ 8 := by
        rcases Nat.lt_or_ge k 9 with h | h
        · omega
        · have : k = 9 := by omega
          subst this; omega
      have ht := toNat8 (show n % 128 + 128 < 256 by omega)
      have hb : badB k (UInt8.ofNat (n % 128 + 128)) = false := by
        simp only [badB, ht]
        simp; omega
      have e1 : (n % 128 + 128) % 128 = n % 128 := by omega
      have e2 : n / 128 * 128 ^ (k + 1) + n % 128 * 128 ^ k = n * 128 ^ k := by
        rw [Nat.pow_succ, Nat.mul_comm (128 ^ k) 128, ← Nat.mul_assoc, ← Nat.add_mul]
        congr 1; omega
      have := ih (n / 128) (by omega) (k + 1) (a + n % 128 * 128 ^ k) (by omega) (by omega) (by omega)
      simp only [List.cons_append, readG, hb, Bool.false_eq_true, if_false, ht, show ¬ n % 128 + 128 < 128 by omega, e1, this, List.length_cons]
      refine Prod.ext (by simp only; omega) (Prod.ext (by simp only; omega) rfl)
theorem read_inv (at_ : Int) : ∀ (l : Bs) (k a : Nat), k ≤ 9 → a < 128 ^ k → ((readG at_ k a l).2.2 ≠ 0 ∧ (readG at_ k a l).1 = 0 ∧ (readG at_ k a l).2.1 = 0) ∨
    ∃ m r, l = varB m ++ r ∧ readG at_ k a l = (a + m * 128 ^ k, at_ + k + (varB m).length, 0) ∧ a + m * 128 ^ k < 18446744073709551616 ∧ (0 < k → m ≠ 0) := by
  intro l
  induction l with
  | nil => intro k a _ _; left; simp [readG]
  | cons b l ih =>
    intro k a hk ha
    cases hb : badB k b
    · by_cases h : b.toNat < 128
      · right
        have hs := sum_lt hk ha hb
        refine ⟨b.toNat, l, ?_, ?_, ?_, ?_⟩
        · rw [varB_small h]; simp
        · rw [varB_small h]
          simp only [readG, hb, Bool.false_eq_true, if_false, h, if_true, Nat.mod_eq_of_lt h]
          simp
        · rw [Nat.mod_eq_of_lt h] at hs; exact hs
        · intro h0 h1; simp [badB, h1, h0] at hb
      · have hs := stepOk hk ha hb h
        have hlt := b.toNat_lt
        simp only [readG, hb, Bool.false_eq_true, if_false, h]
        rcases ih (k + 1) _ (by omega) hs.2 with h1 | ⟨m, r, h1, h2, h3, h4⟩
        · exact .inl h1
        · right
          have hm : m ≠ 0 := h4 (by omega)
          have e2 : b.toNat % 128 * 128 ^ k + m * 128 ^ (k + 1) = (b.toNat % 128 + 128 * m) * 128 ^ k := by
            rw [Nat.pow_succ, Nat.add_mul, Nat.mul_comm 128 m, Nat.mul_assoc, Nat.mul_comm 128 (128 ^ k)]
          have e3 : varB (b.toNat % 128 + 128 * m) = b :: varB m := by
            rw [varB_big (by omega), show (b.toNat % 128 + 128 * m) % 128 + 128 = b.toNat by omega, show (b.toNat % 128 + 128 * m) / 128 = m by omega]
            simp
          refine ⟨b.toNat % 128 + 128 * m, r, ?_, ?_, ?_, ?_⟩
          · rw [e3, h1]; rfl
          · rw [h2, e3]
            refine Prod.ext (by simp only; omega) (Prod.ext (by simp only [List.length_cons]; omega) rfl)
          · omega
          · intro _; omega
    · left; simp [readG, hb]
end Go.Proofs.YtenndgooepdmiaaGreatDoor
end
section
namespace Go.Proofs.YtenndgooepdmiaaGreatDoor
open Go Go.AM Go.Proofs
set_option maxRecDepth 20000
set_option maxHeartbeats 1000000
set_option linter.unusedSimpArgs false
set_option linter.unusedVariables false
abbrev RS := Bs × Bool
theorem readS_zero (s : Bs) : readS s 0 = readG 0 0 0 s := by unfold readS; simp
theorem readS_cases (s : Bs) : (readS s 0).2.2 ≠ 0 ∨ ∃ m r, s = varB m ++ r ∧ readS s 0 = (m, ((varB m).length : Int), 0) ∧ m < 18446744073709551616 := by
  rw [readS_zero]
  rcases read_inv 0 s 0 0 (by omega) (by simp) with h | ⟨m, r, h1, h2, h3, _⟩
  · exact .inl h.1
  · right; refine ⟨m, r, h1, ?_, ?_⟩
    · rw [h2]; simp
    · simpa using h3
theorem readS_var (n : Nat) (t : Bs) (h : n < 18446744073709551616) : readS (varB n ++ t) 0 = (n, ((varB n).length : Int), 0) := by
  rw [readS_zero, read_var 0 t n 0 0 (by simpa using h) (by omega) (by omega)]; simp
structure GoodP {α : Type} (it : RS → α × RS) (enc : α → Bs) (ok : α → Prop) : Prop where
  r : ∀ x, ok x → ∀ t, it (enc x ++ t, false) = (x, (t, false))
  c : ∀ s w, (it (s, w)).2.2 = false → w = false ∧ s = enc (it (s, w)).1 ++ (it (s, w)).2.1
def seqP {α β : Type} (a : RS → α × RS) (b : RS → β × RS) (st : RS) : (α × β) × RS := (((a st).1, (b (a st).2).1), (b (a st).2).2)
theorem GoodP.seq {α β : Type} {a : RS → α × RS} {b : RS → β × RS} {ea : α → Bs} {eb : β → Bs} {oa : α → Prop} {ob : β → Prop} (ha : GoodP a ea oa) (hb : GoodP b eb ob) :
    GoodP (seqP a b) (fun p => ea p.1 ++ eb p.2) (fun p => oa p.1 ∧ ob p.2) := by
  constructor
  · rintro ⟨x, y⟩ ⟨h1, h2⟩ t
    simp only [seqP, List.append_assoc, ha.r x h1, hb.r y h2]
  · intro s w h
    simp only [seqP] at h ⊢
    obtain ⟨k1, k2⟩ := hb.c (a (s, w)).2.1 (a (s, w)).2.2 h
    obtain ⟨k3, k4⟩ := ha.c s w k1
    refine ⟨k3, ?_⟩
    rw [List.append_assoc, ← k2]
    exact k4
theorem GoodP.map {α β : Type} {a : RS → α × RS} {ea : α → Bs} {oa : α → Prop} (ha : GoodP a ea oa) (f : α → β) (g : β → α) (eb : β → Bs) (ob : β → Prop) (hfg : ∀ y, f (g y) = y) (hgf : ∀ x, eb (f x) = ea x) (ho : ∀ y, ob y → oa (g y)) :
    GoodP (fun st => (f (a st).1, (a st).2)) eb ob := by
  constructor
  · intro y hy t
    have h1 : eb y = ea (g y) := by rw [← hgf, hfg]
    simp only [h1, ha.r (g y) (ho y hy), hfg]
  · intro s w h
    obtain ⟨k1, k2⟩ := ha.c s w h
    exact ⟨k1, by simp only [hgf]; exact k2⟩
def rdN (st : RS) : Int × RS := if st.2 = true ∨ (readS st.1 0).2.2 ≠ 0 ∨ 1099511627775 < (readS st.1 0).1 then (0, (st.1, true)) else (((readS st.1 0).1 : Int), (st.1.drop (readS st.1 0).2.1.toNat, false))
def rdT (st : RS) : Bs × RS := if (rdN st).2.2 = true ∨ ((rdN st).2.1.length : Int) < (rdN st).1 then ([], ((rdN st).2.1, true)) else ((rdN st).2.1.take (rdN st).1.toNat, ((rdN st).2.1.drop (rdN st).1.toNat, false))
def rdB (st : RS) : Bool × RS := (decide ((rdN st).1 = 1), ((rdN st).2.1, (rdN st).2.2 || decide (1 < (rdN st).1)))
theorem goodN : GoodP rdN encN (fun n => 0 ≤ n ∧ n ≤ 1099511627775) := by
  constructor
  · intro n ⟨h0, h1⟩ t
    obtain ⟨k, rfl⟩ : ∃ k : Nat, n = k := ⟨n.toNat, by omega⟩
    have hr := readS_var k t (by omega)
    have e : encN (k : Int) = varB k := rfl
    unfold rdN
    simp only [e, hr]
    rw [if_neg (by simp; omega)]
    simp
  · intro s w h
    unfold rdN at h ⊢
    by_cases hc : w = true ∨ (readS s 0).2.2 ≠ 0 ∨ 1099511627775 < (readS s 0).1
    · simp only [if_pos hc] at h; cases h
    · simp only [if_neg hc]
      simp only [not_or] at hc
      obtain ⟨c1, c2, c3⟩ := hc
      refine ⟨by simpa using c1, ?_⟩
      rcases readS_cases s with h1 | ⟨m, r, h1, h2, h3⟩
      · exact absurd h1 c2
      · rw [h2]
        have e : encN (m : Int) = varB m := rfl
        simp only [e, h1]
        simp
theorem rdN_bd (st : RS) : 0 ≤ (rdN st).1 ∧ (rdN st).1 ≤ 1099511627775 := by
  unfold rdN
  split
  · simp
  · rename_i h; simp only [not_or] at h; simp; omega
theorem goodT : GoodP rdT encS (fun s => s.length ≤ 1099511627775) := by
  constructor
  · intro x hx t
    have h1 := goodN.r (x.length : Int) ⟨by omega, by omega⟩ (x ++ t)
    unfold rdT encS
    simp only [List.append_assoc, h1]
    rw [if_neg (by simp; omega)]
    simp
  · intro s w h
    unfold rdT at h ⊢
    by_cases hc : (rdN (s, w)).2.2 = true ∨ ((rdN (s, w)).2.1.length : Int) < (rdN (s, w)).1
    · simp only [if_pos hc] at h; cases h
    · simp only [if_neg hc]
      simp only [not_or] at hc
      obtain ⟨k1, k2⟩ := goodN.c s w (by simpa using hc.1)
      refine ⟨k1, ?_⟩
      have hb := rdN_bd (s, w)
      have hlen : ((rdN (s, w)).2.1.take (rdN (s, w)).1.toNat).length = (rdN (s, w)).1.toNat := by simp; omega
      unfold encS
      rw [hlen, show (((rdN (s, w)).1.toNat : Nat) : Int) = (rdN (s, w)).1 by omega, List.append_assoc, List.take_append_drop]
      exact k2
theorem encN_one : encN 1 = [1] := encN1
theorem goodB : GoodP rdB encB (fun _ => True) := by
  constructor
  · intro b _ t
    have h1 := goodN.r 1 ⟨by omega, by omega⟩ t
    have h0 := goodN.r 0 ⟨by omega, by omega⟩ t
    rw [encN1] at h1
    rw [encN0] at h0
    simp only [List.cons_append, List.nil_append] at h1 h0
    cases b <;> simp [rdB, encB, h1, h0]
  · intro s w h
    unfold rdB at h ⊢
    simp only [Bool.or_eq_false_iff, decide_eq_false_iff_not] at h
    obtain ⟨k1, k2⟩ := goodN.c s w h.1
    refine ⟨k1, ?_⟩
    have hb := rdN_bd (s, w)
    have hcase : (rdN (s, w)).1 = 1 ∨ (rdN (s, w)).1 = 0 := by omega
    rcases hcase with e | e
    · rw [e, encN1] at k2
      simpa [e, encB] using k2
    · rw [e, encN0] at k2
      simpa [e, encB] using k2
/-! ### Lists -/
def rdL {α : Type} (it : RS → α × RS) : Nat → List α → RS → List α × RS
  | 0, out, st => (out, st)
  | k + 1, out, st => if st.2 = true then ([], st) else rdL it k (out ++ [(it st).1]) (it st).2
def rdList {α : Type} (most : Int) (it : RS → α × RS) (st : RS) : List α × RS := rdL it (rdN st).1.toNat [] ((rdN st).2.1, (rdN st).2.2 || decide (most < (rdN st).1))
theorem rdL_r {α : Type} {it : RS → α × RS} {enc : α → Bs} {ok : α → Prop} (h : GoodP it enc ok) (t : Bs) : ∀ (l out : List α), (∀ x ∈ l, ok x) → rdL it l.length out ((l.map enc).flatten ++ t, false) = (out ++ l, (t, false)) := by
  intro l
  induction l with
  | nil => intro out _; simp [rdL]
  | cons x l ih =>
    intro out hl
    simp only [List.length_cons, rdL, List.map_cons, List.flatten_cons, List.append_assoc, Bool.false_eq_true, if_false, h.r x (hl x (by simp))]
    rw [ih _ (fun y hy => hl y (by simp [hy]))]
    simp
theorem rdL_c {α : Type} {it : RS → α × RS} {enc : α → Bs} {ok : α → Prop} (h : GoodP it enc ok) : ∀ (k : Nat) (out : List α) (st : RS), (rdL it k out st).2.2 = false →
    st.2 = false ∧ ∃ l, (rdL it k out st).1 = out ++ l ∧ l.length = k ∧ st.1 = (l.map enc).flatten ++ (rdL it k out st).2.1 := by
  intro k
  induction k with
  | zero => intro out st hf; exact ⟨hf, [], by simp [rdL], rfl, by simp [rdL]⟩
  | succ k ih =>
    intro out st hf
    unfold rdL at hf ⊢
    by_cases hw : st.2 = true
    · rw [if_pos hw, hw] at hf; cases hf
    · rw [if_neg hw] at hf ⊢
      obtain ⟨k1, l, k2, k3, k4⟩ := ih _ _ hf
      obtain ⟨k5, k6⟩ := h.c st.1 st.2 k1
      refine ⟨k5, (it st).1 :: l, ?_, by simp [k3], ?_⟩
      · rw [k2]; simp
      · simp only [List.map_cons, List.flatten_cons, List.append_assoc]
        rw [← k4]
        exact k6
theorem goodL {α : Type} {it : RS → α × RS} {enc : α → Bs} {ok : α → Prop} (h : GoodP it enc ok) (most : Int) (hm : most ≤ 1099511627775) :
    GoodP (rdList most it) (fun l => encN l.length ++ (l.map enc).flatten) (fun l => (l.length : Int) ≤ most ∧ ∀ x ∈ l, ok x) := by
  constructor
  · intro l ⟨h1, h2⟩ t
    have hn := goodN.r (l.length : Int) ⟨by omega, by omega⟩ ((l.map enc).flatten ++ t)
    unfold rdList
    simp only [List.append_assoc, hn]
    rw [show decide (most < (l.length : Int)) = false by simp; omega]
    have := rdL_r h t l [] h2
    simpa using this
  · intro s w hf
    unfold rdList at hf ⊢
    obtain ⟨k1, l, k2, k3, k4⟩ := rdL_c h _ _ _ hf
    simp only [Bool.or_eq_false_iff] at k1
    obtain ⟨k5, k6⟩ := goodN.c s w k1.1
    refine ⟨k5, ?_⟩
    have hb := rdN_bd (s, w)
    simp only at k4
    simp only [k2, List.nil_append, k3, show (((rdN (s, w)).1.toNat : Nat) : Int) = (rdN (s, w)).1 by omega, List.append_assoc]
    rw [← k4]
    exact k6
end Go.Proofs.YtenndgooepdmiaaGreatDoor
end
section
namespace Go.Proofs.YtenndgooepdmiaaGreatDoor
open Go Go.AM Go.Proofs
set_option maxRecDepth 20000
set_option maxHeartbeats 1000000
set_option linter.unusedSimpArgs false
set_option linter.unusedVariables false
set_option linter.defProp false
def rdCmp (st : RS) : Cmp × RS :=
  let x := seqP rdT (seqP rdN (seqP rdN (seqP rdN rdT))) st
  (⟨x.1.1, x.1.2.1, x.1.2.2.1, x.1.2.2.2.1, x.1.2.2.2.2⟩, x.2)
def rdMut (st : RS) : Mut × RS :=
  let x := seqP rdB (seqP rdT (seqP rdT rdN)) st
  (⟨x.1.1, x.1.2.1, x.1.2.2.1, x.1.2.2.2⟩, x.2)
def rdKV (st : RS) : KV × RS :=
  let x := seqP rdT (seqP rdT (seqP rdN (seqP rdN (seqP rdN rdN)))) st
  (⟨x.1.1, x.1.2.1, x.1.2.2.1, x.1.2.2.2.1, x.1.2.2.2.2.1, x.1.2.2.2.2.2⟩, x.2)
def rdEv (st : RS) : Ev × RS :=
  let x := seqP rdN (seqP rdB rdKV) st
  (⟨x.1.1, x.1.2.1, x.1.2.2⟩, x.2)
def encKV (x : KV) : Bs := encS x.key ++ encS x.value ++ encN x.create ++ encN x.mod ++ encN x.version ++ encN x.lease
def encEv (x : Ev) : Bs := encN x.rev ++ encB x.gone ++ encKV x.kv
def kvOk (x : KV) : Bool := txtOk x.key x.value && (numOk x.create && (numOk x.mod && (numOk x.version && numOk x.lease)))
def evOk (x : Ev) : Bool := kvOk x.kv && numOk x.rev
theorem kvOk_iff {x : KV} : kvOk x = true ↔ (x.key.length ≤ 40 ∧ x.value.length ≤ 20) ∧ (0 ≤ x.create ∧ x.create ≤ 1099511627775) ∧ (0 ≤ x.mod ∧ x.mod ≤ 1099511627775) ∧ (0 ≤ x.version ∧ x.version ≤ 1099511627775) ∧ (0 ≤ x.lease ∧ x.lease ≤ 1099511627775) := by
  simp only [kvOk, Bool.and_eq_true, txtOk_iff, numOk_iff]
theorem evOk_iff {x : Ev} : evOk x = true ↔ kvOk x.kv = true ∧ 0 ≤ x.rev ∧ x.rev ≤ 1099511627775 := by simp only [evOk, Bool.and_eq_true, numOk_iff]
theorem goodCmp : GoodP rdCmp encCmp (fun c => cmpOk c = true) := by
  have h := goodT.seq (goodN.seq (goodN.seq (goodN.seq goodT)))
  exact h.map (fun x => (⟨x.1, x.2.1, x.2.2.1, x.2.2.2.1, x.2.2.2.2⟩ : Cmp)) (fun c => (c.key, c.what, c.how, c.n, c.value)) encCmp _ (fun _ => rfl) (fun x => by simp [encCmp]) (fun c hc => by
    obtain ⟨⟨h1, h2⟩, h3, h4, h5, h6, h7, h8⟩ := cmpOk_iff.1 hc
    exact ⟨by simp only; omega, ⟨by simp only; omega, by simp only; omega⟩, ⟨by simp only; omega, by simp only; omega⟩, ⟨h7, h8⟩, by simp only; omega⟩)
theorem goodMut : GoodP rdMut encMut (fun c => mutOk c = true) := by
  have h := goodB.seq (goodT.seq (goodT.seq goodN))
  exact h.map (fun x => (⟨x.1, x.2.1, x.2.2.1, x.2.2.2⟩ : Mut)) (fun c => (c.gone, c.key, c.value, c.lease)) encMut _ (fun _ => rfl) (fun x => by simp [encMut]) (fun c hc => by
    obtain ⟨⟨h1, h2⟩, h3, h4⟩ := mutOk_iff.1 hc
    exact ⟨trivial, by simp only; omega, by simp only; omega, h3, h4⟩)
theorem goodKV : GoodP rdKV encKV (fun c => kvOk c = true) := by
  have h := goodT.seq (goodT.seq (goodN.seq (goodN.seq (goodN.seq goodN))))
  exact h.map (fun x => (⟨x.1, x.2.1, x.2.2.1, x.2.2.2.1, x.2.2.2.2.1, x.2.2.2.2.2⟩ : KV)) (fun c => (c.key, c.value, c.create, c.mod, c.version, c.lease)) encKV _ (fun _ => rfl) (fun x => by simp [encKV]) (fun c hc => by
    obtain ⟨⟨h1, h2⟩, h3, h4, h5, h6⟩ := kvOk_iff.1 hc
    exact ⟨by simp only; omega, by simp only; omega, h3, h4, h5, h6⟩)
theorem goodEv : GoodP rdEv encEv (fun c => evOk c = true) := by
  have h := goodN.seq (goodB.seq goodKV)
  exact h.map (fun x => (⟨x.1, x.2.1, x.2.2⟩ : Ev)) (fun c => (c.rev, c.gone, c.kv)) encEv _ (fun _ => rfl) (fun x => by simp [encEv]) (fun c hc => by
    obtain ⟨h1, h2, h3⟩ := evOk_iff.1 hc
    exact ⟨⟨h2, h3⟩, trivial, h1⟩)
def slN {α : Type} (l : List α) : Sl α := match l with
  | [] => .nil
  | x :: l => .of (x :: l)
@[simp] theorem slN_l {α : Type} (l : List α) : (slN l).l = l := by cases l <;> rfl
abbrev RawQ := Int × Int × Int × Int × Bool × Bs × Bs × Int × Int × Int × Int × List Cmp × List Mut × List Mut
def rdReq : RS → RawQ × RS := seqP rdN (seqP rdN (seqP rdN (seqP rdN (seqP rdB (seqP rdT (seqP rdT (seqP rdN (seqP rdN (seqP rdN (seqP rdN (seqP (rdList 4 rdCmp) (seqP (rdList 4 rdMut) (rdList 4 rdMut)))))))))))))
def mkReq (x : RawQ) : Req := ⟨x.2.1, x.2.2.1, x.2.2.2.1, x.2.2.2.2.1, x.2.2.2.2.2.1, x.2.2.2.2.2.2.1, x.2.2.2.2.2.2.2.1, x.2.2.2.2.2.2.2.2.1, x.2.2.2.2.2.2.2.2.2.1, x.2.2.2.2.2.2.2.2.2.2.1, slN x.2.2.2.2.2.2.2.2.2.2.2.1, slN x.2.2.2.2.2.2.2.2.2.2.2.2.1, slN x.2.2.2.2.2.2.2.2.2.2.2.2.2⟩
def unReq (q : Req) : RawQ := (1, q.kind, q.who, q.seq, q.once, q.key, q.value, q.lease, q.rev, q.ttl, q.token, q.iff.l, q.thn.l, q.els.l)
def goodReq := goodN.seq (goodN.seq (goodN.seq (goodN.seq (goodB.seq (goodT.seq (goodT.seq (goodN.seq (goodN.seq (goodN.seq (goodN.seq ((goodL goodCmp 4 (by omega)).seq ((goodL goodMut 4 (by omega)).seq (goodL goodMut 4 (by omega))))))))))))))
/-- The request that some bytes are. -/
def askedOk (s : Bs) : Bool := !(rdReq (s, false)).2.2 && (decide ((rdReq (s, false)).2.1 = []) && (decide ((rdReq (s, false)).1.1 = 1) && reqOk (mkReq (rdReq (s, false)).1)))
theorem asked_inv {s : Bs} (h : askedOk s = true) : reqOk (mkReq (rdReq (s, false)).1) = true ∧ encReq (mkReq (rdReq (s, false)).1) = s := by
  unfold askedOk at h
  simp only [Bool.and_eq_true, Bool.not_eq_true', decide_eq_true_eq] at h
  obtain ⟨h1, h2, h3, h4⟩ := h
  refine ⟨h4, ?_⟩
  obtain ⟨_, k⟩ := goodReq.c s false h1
  rw [show seqP rdN _ = rdReq from rfl] at k
  rw [h2, List.append_nil] at k
  simp only [h3, encN1] at k
  simp only [encReq, encHead, encMuts, mkReq, slN_l]
  refine Eq.trans ?_ k.symm
  simp only [List.append_assoc]
theorem asked_enc {q : Req} (h : reqOk q = true) : askedOk (encReq q) = true ∧ (rdReq (encReq q, false)).1 = unReq q := by
  have hk := reqOk_iff h
  obtain ⟨kk1, kk2, ht, n1, n2, n3, n4, n5, n6, i1, i2, m1, m2⟩ := hk
  obtain ⟨j1, j2⟩ := mutsOk_iff.1 m1
  obtain ⟨j3, j4⟩ := mutsOk_iff.1 m2
  have hr := goodReq.r (unReq q) ⟨⟨by simp [unReq], by simp [unReq]⟩, ⟨by simp only [unReq]; omega, by simp only [unReq]; omega⟩, n1, n2, trivial, by simp only [unReq]; omega, by simp only [unReq]; omega, n3, n4, n5, n6, ⟨by simp only [unReq]; omega, i2⟩, ⟨by simp only [unReq]; omega, j2⟩, ⟨by simp only [unReq]; omega, j4⟩⟩ []
  rw [show seqP rdN _ = rdReq from rfl] at hr
  simp only [unReq, encN1, List.append_nil] at hr
  have e : encReq q = [1] ++ (encN q.kind ++ (encN q.who ++ (encN q.seq ++ (encB q.once ++ (encS q.key ++ (encS q.value ++ (encN q.lease ++ (encN q.rev ++ (encN q.ttl ++ (encN q.token ++ ((encN q.iff.l.length ++ (q.iff.l.map encCmp).flatten) ++ ((encN q.thn.l.length ++ (q.thn.l.map encMut).flatten) ++ (encN q.els.l.length ++ (q.els.l.map encMut).flatten))))))))))))) := by
    simp only [encReq, encHead, encMuts, List.append_assoc]
  rw [← e] at hr
  unfold askedOk
  rw [hr]
  refine ⟨?_, rfl⟩
  have : reqOk (mkReq (unReq q)) = reqOk q := by
    simp only [reqOk, cmpsOk, mutsOk, mkReq, unReq, slN_l]
    rfl
  simp only [unReq] at this
  simp [this, h]
end Go.Proofs.YtenndgooepdmiaaGreatDoor
end
section
namespace Go.Proofs.YtenndgooepdmiaaGreatDoor
open Go Go.AM Go.Proofs
set_option maxRecDepth 20000
set_option maxHeartbeats 1000000
set_option linter.unusedSimpArgs false
set_option linter.unusedVariables false
def rC (st : RS) : Blk := .cells [T st.1, B st.2]
theorem rdN_len (st : RS) : (rdN st).2.1.length ≤ st.1.length := by unfold rdN; split <;> simp
theorem rn_ev {H : List Blk} {p : Nat} {st : RS} (hp : H[p]? = some (rC st)) (hl : st.1.length ≤ 9223372036854775807) :
    EvF tab 30 [.ptr p 0] H = some ⟨I (rdN st).1, [(p, rC (rdN st).2)], []⟩ := by
  obtain ⟨s, w⟩ := st
  simp only at hl
  have hpl : p < H.length := (List.getElem?_eq_some_iff.1 hp).1
  have hp2 := (List.getElem?_eq_some_iff.1 hp).2
  have hr := fun H => Read_ev s 0 hl H
  unfold rC at hp2 ⊢
  refine EvF_walk t30 (by simp) ?_
  unfold rdN
  simp only at hp2 ⊢
  cases w
  · rcases readS_cases s with h | ⟨m, r, h1, h2, h3⟩
    · rw [if_pos (.inr (.inl h))]
      generalize (readS s 0).1 = v1 at hr
      generalize (readS s 0).2.1 = v2 at hr
      generalize (readS s 0).2.2 = v3 at hr h
      simp -implicitDefEqProofs [hp2, hpl, getB_old, setB_old, orB, updM, hr, h]
    · rw [h2] at hr ⊢
      simp only at hr ⊢
      by_cases h4 : 1099511627775 < m
      · rw [if_pos (.inr (.inr h4))]
        simp -implicitDefEqProofs [hp2, hpl, getB_old, setB_old, orB, updM, hr, h4, show (1099511627775 : Int) < m by omega]
      · rw [if_neg (by simp; omega)]
        have hw : IntKind.i64.wrap (m : Int) = (m : Int) := wrap_i64 (by omega) (by omega)
        have hlen : (varB m).length ≤ s.length := by rw [h1]; simp
        have ht : List.take s.length s = s := List.take_length
        simp -implicitDefEqProofs [hp2, hpl, getB_old, setB_old, orB, updM, hr, h4, cutB, bnd, intOfA, hw, ht, hlen, show ¬ (1099511627775 : Int) < m by omega]
  · rw [if_pos (.inl rfl)]
    simp -implicitDefEqProofs [hp2, hpl, getB_old, setB_old, orB, updM, hr]
theorem rb_ev {H : List Blk} {p : Nat} {st : RS} (hp : H[p]? = some (rC st)) (hl : st.1.length ≤ 9223372036854775807) :
    EvF tab 31 [.ptr p 0] H = some ⟨B (rdB st).1, [(p, rC (rdB st).2)], []⟩ := by
  have hpl : p < H.length := (List.getElem?_eq_some_iff.1 hp).1
  have hn := rn_ev hp hl
  refine EvF_walk t31 (by simp) ?_
  unfold rdB
  generalize rdN st = x at hn ⊢
  obtain ⟨n, s, w⟩ := x
  unfold rC at hn ⊢
  simp only at hn ⊢
  by_cases h1 : n = 1
  · subst h1
    cases w <;> simp -implicitDefEqProofs [hn, hpl, getB_old, setB_old, orB, updM]
  · by_cases h2 : 1 < n <;> cases w <;> simp -implicitDefEqProofs [hn, hpl, getB_old, setB_old, orB, updM, h1, h2]
theorem rt_ev {H : List Blk} {p : Nat} {st : RS} (hp : H[p]? = some (rC st)) (hl : st.1.length ≤ 9223372036854775807) :
    EvF tab 32 [.ptr p 0] H = some ⟨T (rdT st).1, [(p, rC (rdT st).2)], []⟩ := by
  have hpl : p < H.length := (List.getElem?_eq_some_iff.1 hp).1
  have hn := rn_ev hp hl
  have hb := rdN_bd st
  refine EvF_walk t32 (by simp) ?_
  unfold rdT
  generalize rdN st = x at hn hb ⊢
  obtain ⟨n, s, w⟩ := x
  unfold rC at hn ⊢
  simp only at hn hb ⊢
  cases w
  · by_cases h : (s.length : Int) < n
    · rw [if_pos (.inr h)]
      simp -implicitDefEqProofs [hn, hpl, getB_old, setB_old, orB, updM, h]
    · rw [if_neg (by simp; omega)]
      obtain ⟨k, rfl⟩ : ∃ k : Nat, n = k := ⟨n.toNat, by omega⟩
      have hle : k ≤ s.length := by omega
      simp -implicitDefEqProofs [hn, hpl, getB_old, setB_old, orB, updM, h, cutB, bnd, intOfA, hle, show ¬ (s.length : Int) < (k : Int) by omega]
  · rw [if_pos (.inl rfl)]
    simp -implicitDefEqProofs [hn, hpl, getB_old, setB_old, orB, updM]
theorem rend_ev {H : List Blk} {p : Nat} {st : RS} (hp : H[p]? = some (rC st)) : EvF tab 37 [.ptr p 0] H = some ⟨B (!st.2 && decide (st.1 = [])), [], []⟩ := by
  have hpl : p < H.length := (List.getElem?_eq_some_iff.1 hp).1
  have hp2 := (List.getElem?_eq_some_iff.1 hp).2
  refine EvF_walk t37 (by simp) ?_
  obtain ⟨s, w⟩ := st
  unfold rC at hp2
  cases w
  · by_cases h : s = [] <;> simp -implicitDefEqProofs [hp2, hpl, getB_old, setB_old, orB, updM, h]
  · simp -implicitDefEqProofs [hp2, hpl, getB_old, setB_old, orB, updM]
theorem rC_set {H : List Blk} {p : Nat} {b : Blk} (hp : p < H.length) (st : RS) : (H.set p (rC st))[p]? = some (rC st) := List.getElem?_set_self hp
end Go.Proofs.YtenndgooepdmiaaGreatDoor
end
section
namespace Go.Proofs.YtenndgooepdmiaaGreatDoor
open Go Go.AM Go.Proofs
set_option maxRecDepth 20000
set_option maxHeartbeats 1000000
set_option linter.unusedSimpArgs false
set_option linter.unusedVariables false
@[simp] theorem rC_lt1 (n : Nat) (st : RS) : (rC st).lt1 n = true := by simp [rC, Blk.lt1, AV.lt1, AV.lt0]
theorem rC_set2 {H : List Blk} {p : Nat} (hp : p < H.length) (st : RS) (o : List Blk) : (H.set p (rC st) ++ o)[p]? = some (rC st) := by
  rw [List.getElem?_append_left (by simpa using hp)]; exact List.getElem?_set_self hp
theorem rC_app {H : List Blk} {p : Nat} {st : RS} (hp : H[p]? = some (rC st)) (o : List Blk) : (H ++ o)[p]? = some (rC st) := by
  rw [List.getElem?_append_left (List.getElem?_eq_some_iff.1 hp).1]; exact hp
theorem rdT_len (st : RS) : (rdT st).2.1.length ≤ st.1.length := by
  have := rdN_len st
  unfold rdT; split
  · exact this
  · simp; omega
theorem rdB_len (st : RS) : (rdB st).2.1.length ≤ st.1.length := rdN_len st
theorem rcmp_ev {H : List Blk} {p : Nat} {st : RS} (hp : H[p]? = some (rC st)) (hl : st.1.length ≤ 9223372036854775807) :
    EvF tab 34 [.ptr p 0] H = some ⟨A (rdCmp st).1.c, [(p, rC (rdCmp st).2)], []⟩ := by
  have hpl : p < H.length := (List.getElem?_eq_some_iff.1 hp).1
  obtain ⟨zs, ez⟩ : ∃ zs : Blk, zs = .cells [T [], I 0, I 0, I 0, T []] := ⟨_, rfl⟩
  have l1 := rdT_len st
  have l2 := rdN_len (rdT st).2
  have l3 := rdN_len (rdN (rdT st).2).2
  have l4 := rdN_len (rdN (rdN (rdT st).2).2).2
  have a1 := rt_ev (rC_app hp [zs]) hl
  have a2 := rn_ev (rC_set2 hpl (rdT st).2 [zs]) (by omega)
  have a3 := rn_ev (rC_set2 hpl (rdN (rdT st).2).2 [zs]) (by omega)
  have a4 := rn_ev (rC_set2 hpl (rdN (rdN (rdT st).2).2).2 [zs]) (by omega)
  have a5 := rt_ev (rC_set2 hpl (rdN (rdN (rdN (rdT st).2).2).2).2 [zs]) (by omega)
  refine EvF_walk t34 (by simp) ?_
  simp only [rdCmp, seqP]
  subst ez
  generalize rdT st = x1 at a1 a2 a3 a4 a5 ⊢; obtain ⟨v1, s1⟩ := x1; simp only at a1 a2 a3 a4 a5 ⊢
  generalize rdN s1 = x2 at a2 a3 a4 a5 ⊢; obtain ⟨v2, s2⟩ := x2; simp only at a2 a3 a4 a5 ⊢
  generalize rdN s2 = x3 at a3 a4 a5 ⊢; obtain ⟨v3, s3⟩ := x3; simp only at a3 a4 a5 ⊢
  generalize rdN s3 = x4 at a4 a5 ⊢; obtain ⟨v4, s4⟩ := x4; simp only at a4 a5 ⊢
  generalize rdT s4 = x5 at a5 ⊢; obtain ⟨v5, s5⟩ := x5; simp only at a5 ⊢
  simp -implicitDefEqProofs [zres, a1, a2, a3, a4, a5, hpl, setB_old, updM, A, Cmp.c]
theorem rmut_ev {H : List Blk} {p : Nat} {st : RS} (hp : H[p]? = some (rC st)) (hl : st.1.length ≤ 9223372036854775807) :
    EvF tab 36 [.ptr p 0] H = some ⟨A (rdMut st).1.c, [(p, rC (rdMut st).2)], []⟩ := by
  have hpl : p < H.length := (List.getElem?_eq_some_iff.1 hp).1
  obtain ⟨zs, ez⟩ : ∃ zs : Blk, zs = .cells [B false, T [], T [], I 0] := ⟨_, rfl⟩
  have l1 := rdB_len st
  have l2 := rdT_len (rdB st).2
  have l3 := rdT_len (rdT (rdB st).2).2
  have a1 := rb_ev (rC_app hp [zs]) hl
  have a2 := rt_ev (rC_set2 hpl (rdB st).2 [zs]) (by omega)
  have a3 := rt_ev (rC_set2 hpl (rdT (rdB st).2).2 [zs]) (by omega)
  have a4 := rn_ev (rC_set2 hpl (rdT (rdT (rdB st).2).2).2 [zs]) (by omega)
  refine EvF_walk t36 (by simp) ?_
  simp only [rdMut, seqP]
  subst ez
  generalize rdB st = x1 at a1 a2 a3 a4 ⊢; obtain ⟨v1, s1⟩ := x1; simp only at a1 a2 a3 a4 ⊢
  generalize rdT s1 = x2 at a2 a3 a4 ⊢; obtain ⟨v2, s2⟩ := x2; simp only at a2 a3 a4 ⊢
  generalize rdT s2 = x3 at a3 a4 ⊢; obtain ⟨v3, s3⟩ := x3; simp only at a3 a4 ⊢
  generalize rdN s3 = x4 at a4 ⊢; obtain ⟨v4, s4⟩ := x4; simp only at a4 ⊢
  simp -implicitDefEqProofs [zres, a1, a2, a3, a4, hpl, setB_old, updM, A, Mut.c]
end Go.Proofs.YtenndgooepdmiaaGreatDoor
end
section
namespace Go.Proofs.YtenndgooepdmiaaGreatDoor
open Go Go.AM Go.Proofs
set_option maxRecDepth 20000
set_option maxHeartbeats 1000000
set_option linter.unusedSimpArgs false
set_option linter.unusedVariables false
def rlL (n bytes : Nat) (z : List GV) : IC :=
 .seq (.reg [0, 2, 8, 23, 24, 25] [⟨(some 25), none, .bin .lss (.t 24) (.t 23)⟩]) <|
 .seq (.cond [0, 2, 8, 23, 24] (.t 25)
   (.skip)
   (.exit 0)) <|
 .seq (.block [0, 2, 8, 23, 24] 1 <|
  .seq (.seq (.reg [0, 2, 8, 23, 24, 29] [⟨(some 26), none, .mov (.t 0)⟩,
      ⟨(some 27), none, .nilchk (.t 26)⟩,
      ⟨(some 28), none, .faddr 1 (.t 27)⟩,
      ⟨(some 29), none, .load false 1 (.t 28)⟩]) <|
   .cond [0, 2, 8, 23, 24] (.t 29)
    (.seq (.reg [6] [⟨(some 6), none, .nres n⟩]) <|
     .ret)
    (.skip)) <|
  .reg [0, 2, 8, 23, 24] [⟨(some 30), none, .mov (.t 8)⟩,
    ⟨(some 31), none, .mov (.t 2)⟩,
    ⟨(some 32), none, .call (.t 31) []⟩,
    ⟨(some 33), none, .bslice n 1 z [(0, n, (.t 32))]⟩,
    ⟨(some 34), none, .app n bytes (.t 30) (.t 33)⟩,
    ⟨(some 8), none, .mov (.t 34)⟩]) <|
 .reg [0, 2, 8, 23, 24] [⟨(some 35), none, .bin .add (.t 24) (.c (.g (.int .i64 1)))⟩,
   ⟨(some 24), none, .mov (.t 35)⟩]
def rlF (n bytes : Nat) (z : List GV) : IFunc := ⟨3, 37, [.tmp 6], false,
 .seq (.reg [0, 1, 2] [⟨(some 6), none, .nres n⟩]) <|
 .seq (.reg [0, 1, 2, 7] [⟨(some 9), none, .mov (.t 0)⟩,
    ⟨(some 10), none, .call (.c (.g (.fn 30))) [(.t 9)]⟩,
    ⟨(some 7), none, .mov (.t 10)⟩]) <|
 .seq (.reg [0, 2, 7] [⟨(some 11), none, .mov (.t 0)⟩,
    ⟨(some 12), none, .mov (.t 0)⟩,
    ⟨(some 13), none, .nilchk (.t 12)⟩,
    ⟨(some 14), none, .faddr 1 (.t 13)⟩,
    ⟨(some 15), none, .load false 1 (.t 14)⟩,
    ⟨(some 16), none, .mov (.t 15)⟩,
    ⟨(some 17), (some (16, false)), .mov (.t 7)⟩,
    ⟨(some 18), (some (16, false)), .mov (.t 1)⟩,
    ⟨(some 19), (some (16, false)), .bin .gtr (.t 17) (.t 18)⟩,
    ⟨(some 20), none, .pick (.t 16) (.c (.g (.bool true))) (.t 19)⟩,
    ⟨(some 21), none, .nilchk (.t 11)⟩,
    ⟨(some 22), none, .faddr 1 (.t 21)⟩,
    ⟨none, none, .store 1 (.t 22) (.t 20)⟩]) <|
 .seq (.reg [0, 2, 7, 8] [⟨(some 8), none, .nres n⟩]) <|
 .seq (.seq (.reg [0, 2, 8, 23, 24] [⟨(some 23), none, .mov (.t 7)⟩,
     ⟨(some 24), none, .mov (.c (.g (.int .i64 0)))⟩]) <|
  .block [8] 0 <|
  .loop [0, 2, 8, 23, 24] [] (rlL n bytes z)) <|
 .seq (.reg [6] [⟨(some 36), none, .mov (.t 8)⟩,
    ⟨(some 6), none, .mov (.t 36)⟩]) <|
 .ret⟩
section
variable {α : Type} {c : α → List GV} {it : RS → α × RS} {n bytes : Nat} {z : List GV} {g p : Nat}
def stL (c : α → List GV) (n g p kk : Nat) (H : List Blk) (out : List α) (st : RS) : St :=
  ⟨[(0, .ptr p 0), (2, .bv g [.ptr p 0]), (8, .ms (H.length + 1) (out.length + 1) n 0 out.length), (23, I kk), (24, I out.length)], [(p, rC st)], [.rows n 1 [], .rows n (out.length + 1) (out.map c)]⟩
def resL (c : α → List GV) (it : RS → α × RS) (n g p kk : Nat) (H : List Blk) : Nat → List α → RS → Ex × St
  | 0, out, st => (.exit 0, ⟨[(0, .ptr p 0), (2, .bv g [.ptr p 0]), (8, .ms (H.length + 1) (out.length + 1) n 0 out.length), (23, I kk), (24, I out.length), (25, B false)], [(p, rC st)], [.rows n 1 [], .rows n (out.length + 1) (out.map c)]⟩)
  | k + 1, out, st => if st.2 = true then (.ret, ⟨[(6, .ms (H.length + 2) 1 n 0 0)], [(p, rC st)], [.rows n 1 [], .rows n (out.length + 1) (out.map c), .rows n 1 []]⟩) else resL c it n g p kk H k (out ++ [(it st).1]) (it st).2
theorem rl_loop {H : List Blk} (hpl : p < H.length) (hc : ∀ x, (c x).length = n) (hz : z.length = n) (hb : bytes ≤ 1000)
    (hone : ∀ (H : List Blk) (st : RS), H[p]? = some (rC st) → st.1.length ≤ 9223372036854775807 → EvF tab g [.ptr p 0] H = some ⟨A (c (it st).1), [(p, rC (it st).2)], []⟩) (hlen : ∀ st, (it st).2.1.length ≤ st.1.length) (kk : Nat) (hk63 : kk ≤ 9223372036854775807) :
    ∀ (d : Nat) (out : List α) (st : RS), out.length + d = kk → (st.2 = true ∨ kk ≤ 100) → st.1.length ≤ 9223372036854775807 →
      loopE (EvF tab) H (rlL n bytes z) [0, 2, 8, 23, 24] (stL c n g p kk H out st) = some (resL c it n g p kk H d out st) := by
  intro d
  induction d with
  | zero =>
    intro out st h1 h2 h3
    refine loopE_out _ _ _ _ _ _ (by simp [resL]) ?_
    simp only [resL]
    unfold stL
    delta rlL
    simp -implicitDefEqProofs [show ¬ (out.length : Int) < (kk : Int) by omega, show ¬ out.length < kk by omega]
  | succ d ih =>
    intro out st h1 h2 h3
    have hlt : (out.length : Int) < (kk : Int) := by omega
    have hlt' : out.length < kk := by omega
    by_cases hw : st.2 = true
    · refine loopE_out _ _ _ _ _ _ (by simp [resL, hw]) ?_
      simp only [resL, if_pos hw]
      unfold stL rC
      rw [hw]
      delta rlL
      simp -implicitDefEqProofs [hlt, hlt', hpl, getB_old, orB]
    · have hw' : st.2 = false := by simpa using hw
      have hk := h2.resolve_left hw
      have ho := hone (H.set p (rC st) ++ [.rows n 1 [], .rows n (out.length + 1) (out.map c)]) st (rC_set2 hpl st _) h3
      have e1 : IntKind.i64.wrap ((out.length : Int) + 1) = (out.length : Int) + 1 := wrap_i64 (by omega) (by omega)
      have hstep : kpN [0, 2, 8, 23, 24] (evCode (EvF tab) H (rlL n bytes z) (stL c n g p kk H out st)) = some (.normal, stL c n g p kk H (out ++ [(it st).1]) (it st).2) := by
        have hcl := hc (it st).1
        have hr1 : out.length + 1 ≤ 140737488355328 := by omega
        have hr2 : (out.length + 1) * bytes ≤ 140737488355328 := by
          have := Nat.mul_le_mul (show out.length + 1 ≤ 101 by omega) hb
          omega
        have hfl : (List.replicate 1 (z.map AV.g)).flatten = z.map AV.g := by simp
        have hch : chunk n 1 (c (it st).1) = [c (it st).1] := by simp [chunk, List.take_of_length_le (Nat.le_of_eq hcl)]
        have hgr : grounds (List.map AV.g (c (it st).1)) = some (c (it st).1) := by
          generalize c (it st).1 = l
          induction l with
          | nil => rfl
          | cons x l ih => simp [grounds, ih]
        have hcm : (List.map AV.g (c (it st).1)).length = n := by simp [hcl]
        unfold stL
        delta rlL
        generalize it st = x at ho hcl hch hgr hcm ⊢
        obtain ⟨v, s'⟩ := x
        simp only at ho hcl hch hgr hcm ⊢
        have hst : st = (st.1, false) := by rw [← hw']
        have hrC : rC st = .cells [T st.1, B false] := by rw [← hw']; rfl
        have hdz : List.drop n (List.map AV.g z) = [] := by rw [List.drop_eq_nil_iff]; simp [hz]
        rw [hrC] at ho
        simp only [A] at ho
        have htk : List.take out.length (List.map c out) = List.map c out := List.take_of_length_le (by simp)
        simp -implicitDefEqProofs [-grounds, ho, hlt, hlt', hpl, getB_old, setB_old, orB, updM, hrC, A, fillA, hcm, hcl, hz, hdz, hgr, hch, appV, room, hr1, hr2, e1, htk, Nat.not_succ_le_self]
      rw [loopE_kp _ _ _ _ _ _ hstep]
      simp only [resL, if_neg hw]
      have := hlen st
      exact ih _ _ (by simp; omega) (.inr hk) (by omega)
theorem rl_end {H : List Blk} (hpl : p < H.length) (kk : Nat) : ∀ (d : Nat) (out : List α) (st : RS),
      fnEnd H [.tmp 6] false (sk (bk [8] 0 (some (resL c it n g p kk H d out st))) fun s => evCode (EvF tab) H (.seq (.reg [6] [⟨(some 36), none, .mov (.t 8)⟩, ⟨(some 6), none, .mov (.t 36)⟩]) .ret) s) =
        some ⟨.g (Sl.g n c (slN (rdL it d out st).1)), [(p, rC (rdL it d out st).2)], []⟩ := by
  intro d
  induction d with
  | zero =>
    intro out st
    simp only [resL, rdL]
    have htk : List.take out.length (List.map c out) = List.map c out := List.take_of_length_le (by simp)
    cases out with
    | nil => simp -implicitDefEqProofs [slN, hpl]
    | cons x l =>
      simp only [List.map_cons, List.length_cons] at htk
      simp -implicitDefEqProofs [slN, hpl, htk]
  | succ d ih =>
    intro out st
    simp only [resL, rdL]
    by_cases hw : st.2 = true
    · simp only [if_pos hw]
      simp -implicitDefEqProofs [slN, hpl]
    · simp only [if_neg hw]
      exact ih _ _
theorem list_ev {f : FuncId} (hF : tab.T f = some (rlF n bytes z)) {H : List Blk} {st : RS} (hp : H[p]? = some (rC st)) (hl : st.1.length ≤ 9223372036854775807) (hc : ∀ x, (c x).length = n) (hz : z.length = n) (hb : bytes ≤ 1000)
    (hone : ∀ (H : List Blk) (st : RS), H[p]? = some (rC st) → st.1.length ≤ 9223372036854775807 → EvF tab g [.ptr p 0] H = some ⟨A (c (it st).1), [(p, rC (it st).2)], []⟩) (hlen : ∀ st, (it st).2.1.length ≤ st.1.length) (most : Int) (hm : most ≤ 100) :
    EvF tab f [.ptr p 0, I most, .bv g [.ptr p 0]] H = some ⟨.g (Sl.g n c (slN (rdList most it st).1)), [(p, rC (rdList most it st).2)], []⟩ := by
  have hpl : p < H.length := (List.getElem?_eq_some_iff.1 hp).1
  have hn := rn_ev (rC_app hp [.rows n 1 []]) hl
  have hbd := rdN_bd st
  have hln := rdN_len st
  have hw := rl_loop (c := c) (it := it) (z := z) (g := g) hpl hc hz hb hone hlen (rdN st).1.toNat (by omega) (rdN st).1.toNat [] ((rdN st).2.1, (rdN st).2.2 || decide (most < (rdN st).1)) (by simp) (by
    simp only [Bool.or_eq_true, decide_eq_true_eq]
    by_cases h : most < (rdN st).1
    · exact .inl (.inr h)
    · exact .inr (by omega)) (by simp only; omega)
  have he := rl_end (c := c) (it := it) (n := n) (g := g) hpl (rdN st).1.toNat (rdN st).1.toNat [] ((rdN st).2.1, (rdN st).2.2 || decide (most < (rdN st).1))
  unfold rdList
  refine EvF_walk hF (by simp [rlF]) ?_
  have hcast : (((rdN st).1.toNat : Nat) : Int) = (rdN st).1 := by omega
  rw [← he]
  unfold stL at hw
  rw [hcast] at hw
  generalize resL c it n g p (rdN st).1.toNat H (rdN st).1.toNat [] ((rdN st).2.1, (rdN st).2.2 || decide (most < (rdN st).1)) = R at hw ⊢
  generalize rdN st = x at hn hw
  obtain ⟨k, s, wr⟩ := x
  simp only [rC, List.length_nil, List.map_nil, Nat.zero_add, show ((0 : Nat) : Int) = 0 from rfl] at hn hw
  cases wr <;> simp only [Bool.true_or, Bool.false_or] at hw <;> simp -implicitDefEqProofs [hn, hpl, getB_old, setB_old, orB, updM, hw]
end
end Go.Proofs.YtenndgooepdmiaaGreatDoor
end
section
namespace Go.Proofs.YtenndgooepdmiaaGreatDoor
open Go Go.AM Go.Proofs
set_option maxRecDepth 20000
set_option maxHeartbeats 2000000
set_option linter.unusedSimpArgs false
set_option linter.unusedVariables false
theorem rdL_le {α : Type} (it : RS → α × RS) : ∀ (k : Nat) (out : List α) (st : RS), (rdL it k out st).1.length ≤ out.length + k := by
  intro k
  induction k with
  | zero => intro out st; simp [rdL]
  | succ k ih =>
    intro out st
    unfold rdL
    split
    · simp
    · have := ih (out ++ [(it st).1]) (it st).2
      simp only [List.length_append, List.length_cons, List.length_nil] at this
      omega
theorem rdList_le {α : Type} (it : RS → α × RS) (most : Nat) (st : RS) : (rdList most it st).1.length ≤ most := by
  unfold rdList
  have hb := rdN_bd st
  by_cases h : (most : Int) < (rdN st).1
  · obtain ⟨k, hk⟩ : ∃ k : Nat, (rdN st).1.toNat = k + 1 := ⟨(rdN st).1.toNat - 1, by omega⟩
    rw [hk]; simp [rdL, h]
  · have := rdL_le it (rdN st).1.toNat [] ((rdN st).2.1, (rdN st).2.2 || decide ((most : Int) < (rdN st).1))
    simp only [List.length_nil] at this
    omega
theorem rdL_len {α : Type} {it : RS → α × RS} (hlen : ∀ st, (it st).2.1.length ≤ st.1.length) : ∀ (k : Nat) (out : List α) (st : RS), (rdL it k out st).2.1.length ≤ st.1.length := by
  intro k
  induction k with
  | zero => intro out st; simp [rdL]
  | succ k ih =>
    intro out st
    unfold rdL
    split
    · simp
    · exact Nat.le_trans (ih _ _) (hlen st)
theorem rdList_len {α : Type} {it : RS → α × RS} (hlen : ∀ st, (it st).2.1.length ≤ st.1.length) (most : Int) (st : RS) : (rdList most it st).2.1.length ≤ st.1.length := by
  unfold rdList
  exact Nat.le_trans (rdL_len hlen _ _ _) (rdN_len st)
theorem rdCmp_len (st : RS) : (rdCmp st).2.1.length ≤ st.1.length := by
  simp only [rdCmp, seqP]
  have l1 := rdT_len st
  have l2 := rdN_len (rdT st).2
  have l3 := rdN_len (rdN (rdT st).2).2
  have l4 := rdN_len (rdN (rdN (rdT st).2).2).2
  have l5 := rdT_len (rdN (rdN (rdN (rdT st).2).2).2).2
  omega
theorem rdMut_len (st : RS) : (rdMut st).2.1.length ≤ st.1.length := by
  simp only [rdMut, seqP]
  have l1 := rdB_len st
  have l2 := rdT_len (rdB st).2
  have l3 := rdT_len (rdT (rdB st).2).2
  have l4 := rdN_len (rdT (rdT (rdB st).2).2).2
  omega
theorem rdKV_len (st : RS) : (rdKV st).2.1.length ≤ st.1.length := by
  simp only [rdKV, seqP]
  have l1 := rdT_len st
  have l2 := rdT_len (rdT st).2
  have l3 := rdN_len (rdT (rdT st).2).2
  have l4 := rdN_len (rdN (rdT (rdT st).2).2).2
  have l5 := rdN_len (rdN (rdN (rdT (rdT st).2).2).2).2
  have l6 := rdN_len (rdN (rdN (rdN (rdT (rdT st).2).2).2).2).2
  omega
theorem rdEv_len (st : RS) : (rdEv st).2.1.length ≤ st.1.length := by
  simp only [rdEv, seqP]
  have l1 := rdN_len st
  have l2 := rdB_len (rdN st).2
  have l3 := rdKV_len (rdB (rdN st).2).2
  omega
def reqZ : Req := ⟨0, 0, 0, false, [], [], 0, 0, 0, 0, .nil, .nil, .nil⟩
def askedQ (s : Bs) : Req := if askedOk s = true then mkReq (rdReq (s, false)).1 else reqZ
theorem rC_own (H : List Blk) (a b c d : Blk) (st : RS) (o : List Blk) : (H ++ a :: b :: c :: d :: rC st :: o)[H.length + 4]? = some (rC st) := by
  rw [List.getElem?_append_right (by omega)]; simp
theorem Asked_ev (s : Bs) (hl : s.length ≤ 9223372036854775807) (H : List Blk) : EvF tab 16 [T s] H = some ⟨.tup [A (askedQ s).c, B (askedOk s)], [], []⟩ := by
  obtain ⟨ZC, eZ⟩ : ∃ b : Blk, b = .cells [I 0, I 0, I 0, B false, T [], T [], I 0, I 0, I 0, I 0, .ms H.length 1 5 0 0, .ms (H.length + 1) 1 4 0 0, .ms (H.length + 2) 1 4 0 0] := ⟨_, rfl⟩
  obtain ⟨v1, s1, e1⟩ : ∃ v' t', rdN (s, false) = (v', t') := ⟨(rdN (s, false)).1, (rdN (s, false)).2, rfl⟩
  have l1 := rdN_len (s, false); rw [e1] at l1; try simp only at l1
  have a1 := rn_ev (rC_own H (.rows 5 1 []) (.rows 4 1 []) (.rows 4 1 []) ZC (s, false) []) (by first | omega | (simp only; omega)); rw [e1] at a1; try simp only at a1
  obtain ⟨v2, s2, e2⟩ : ∃ v' t', rdN s1 = (v', t') := ⟨(rdN s1).1, (rdN s1).2, rfl⟩
  have l2 := rdN_len s1; rw [e2] at l2; try simp only at l2
  have a2 := rn_ev (rC_own H (.rows 5 1 []) (.rows 4 1 []) (.rows 4 1 []) ZC s1 []) (by first | omega | (simp only; omega)); rw [e2] at a2; try simp only at a2
  obtain ⟨v3, s3, e3⟩ : ∃ v' t', rdN s2 = (v', t') := ⟨(rdN s2).1, (rdN s2).2, rfl⟩
  have l3 := rdN_len s2; rw [e3] at l3; try simp only at l3
  have a3 := rn_ev (rC_own H (.rows 5 1 []) (.rows 4 1 []) (.rows 4 1 []) ZC s2 []) (by first | omega | (simp only; omega)); rw [e3] at a3; try simp only at a3
  obtain ⟨v4, s4, e4⟩ : ∃ v' t', rdN s3 = (v', t') := ⟨(rdN s3).1, (rdN s3).2, rfl⟩
  have l4 := rdN_len s3; rw [e4] at l4; try simp only at l4
  have a4 := rn_ev (rC_own H (.rows 5 1 []) (.rows 4 1 []) (.rows 4 1 []) ZC s3 []) (by first | omega | (simp only; omega)); rw [e4] at a4; try simp only at a4
  obtain ⟨v5, s5, e5⟩ : ∃ v' t', rdB s4 = (v', t') := ⟨(rdB s4).1, (rdB s4).2, rfl⟩
  have l5 := rdB_len s4; rw [e5] at l5; try simp only at l5
  have a5 := rb_ev (rC_own H (.rows 5 1 []) (.rows 4 1 []) (.rows 4 1 []) ZC s4 []) (by first | omega | (simp only; omega)); rw [e5] at a5; try simp only at a5
  obtain ⟨v6, s6, e6⟩ : ∃ v' t', rdT s5 = (v', t') := ⟨(rdT s5).1, (rdT s5).2, rfl⟩
  have l6 := rdT_len s5; rw [e6] at l6; try simp only at l6
  have a6 := rt_ev (rC_own H (.rows 5 1 []) (.rows 4 1 []) (.rows 4 1 []) ZC s5 []) (by first | omega | (simp only; omega)); rw [e6] at a6; try simp only at a6
  obtain ⟨v7, s7, e7⟩ : ∃ v' t', rdT s6 = (v', t') := ⟨(rdT s6).1, (rdT s6).2, rfl⟩
  have l7 := rdT_len s6; rw [e7] at l7; try simp only at l7
  have a7 := rt_ev (rC_own H (.rows 5 1 []) (.rows 4 1 []) (.rows 4 1 []) ZC s6 []) (by first | omega | (simp only; omega)); rw [e7] at a7; try simp only at a7
  obtain ⟨v8, s8, e8⟩ : ∃ v' t', rdN s7 = (v', t') := ⟨(rdN s7).1, (rdN s7).2, rfl⟩
  have l8 := rdN_len s7; rw [e8] at l8; try simp only at l8
  have a8 := rn_ev (rC_own H (.rows 5 1 []) (.rows 4 1 []) (.rows 4 1 []) ZC s7 []) (by first | omega | (simp only; omega)); rw [e8] at a8; try simp only at a8
  obtain ⟨v9, s9, e9⟩ : ∃ v' t', rdN s8 = (v', t') := ⟨(rdN s8).1, (rdN s8).2, rfl⟩
  have l9 := rdN_len s8; rw [e9] at l9; try simp only at l9
  have a9 := rn_ev (rC_own H (.rows 5 1 []) (.rows 4 1 []) (.rows 4 1 []) ZC s8 []) (by first | omega | (simp only; omega)); rw [e9] at a9; try simp only at a9
  obtain ⟨v10, s10, e10⟩ : ∃ v' t', rdN s9 = (v', t') := ⟨(rdN s9).1, (rdN s9).2, rfl⟩
  have l10 := rdN_len s9; rw [e10] at l10; try simp only at l10
  have a10 := rn_ev (rC_own H (.rows 5 1 []) (.rows 4 1 []) (.rows 4 1 []) ZC s9 []) (by first | omega | (simp only; omega)); rw [e10] at a10; try simp only at a10
  obtain ⟨v11, s11, e11⟩ : ∃ v' t', rdN s10 = (v', t') := ⟨(rdN s10).1, (rdN s10).2, rfl⟩
  have l11 := rdN_len s10; rw [e11] at l11; try simp only at l11
  have a11 := rn_ev (rC_own H (.rows 5 1 []) (.rows 4 1 []) (.rows 4 1 []) ZC s10 []) (by first | omega | (simp only; omega)); rw [e11] at a11; try simp only at a11
  obtain ⟨v12, s12, e12⟩ : ∃ v' t', rdList 4 rdCmp s11 = (v', t') := ⟨(rdList 4 rdCmp s11).1, (rdList 4 rdCmp s11).2, rfl⟩
  have l12 := rdList_len rdCmp_len 4 s11; rw [e12] at l12; try simp only at l12
  have k12 := rdList_le rdCmp 4 s11; rw [show ((4 : Nat) : Int) = 4 from rfl, e12] at k12; simp only at k12
  obtain ⟨v13, s13, e13⟩ : ∃ v' t', rdList 4 rdMut s12 = (v', t') := ⟨(rdList 4 rdMut s12).1, (rdList 4 rdMut s12).2, rfl⟩
  have l13 := rdList_len rdMut_len 4 s12; rw [e13] at l13; try simp only at l13
  have k13 := rdList_le rdMut 4 s12; rw [show ((4 : Nat) : Int) = 4 from rfl, e13] at k13; simp only at k13
  obtain ⟨v14, s14, e14⟩ : ∃ v' t', rdList 4 rdMut s13 = (v', t') := ⟨(rdList 4 rdMut s13).1, (rdList 4 rdMut s13).2, rfl⟩
  have l14 := rdList_len rdMut_len 4 s13; rw [e14] at l14; try simp only at l14
  have k14 := rdList_le rdMut 4 s13; rw [show ((4 : Nat) : Int) = 4 from rfl, e14] at k14; simp only at k14
  have a12 := list_ev (z := [.str [], .int .i64 0, .int .i64 0, .int .i64 0, .str []]) (g := 34) t33 (rC_own H (.rows 5 1 []) (.rows 4 1 []) (.rows 4 1 []) ZC s11 [.rows 5 1 [], .rows 4 1 [], .rows 4 1 [], .cells [I v2, I v3, I v4, B v5, T v6, T v7, I v8, I v9, I v10, I v11, .g .nsl, .g .nsl, .g .nsl]]) (by omega) (fun x => rfl) rfl (by omega) (fun H st h1 h2 => rcmp_ev h1 h2) rdCmp_len 4 (by omega)
  have a13 := list_ev (z := [.bool false, .str [], .str [], .int .i64 0]) (g := 36) t35 (rC_own H (.rows 5 1 []) (.rows 4 1 []) (.rows 4 1 []) ZC s12 [.rows 5 1 [], .rows 4 1 [], .rows 4 1 [], .cells [I v2, I v3, I v4, B v5, T v6, T v7, I v8, I v9, I v10, I v11, .g (Sl.g 5 Cmp.c (slN v12)), .g .nsl, .g .nsl]]) (by omega) (fun x => rfl) rfl (by omega) (fun H st h1 h2 => rmut_ev h1 h2) rdMut_len 4 (by omega)
  have a14 := list_ev (z := [.bool false, .str [], .str [], .int .i64 0]) (g := 36) t35 (rC_own H (.rows 5 1 []) (.rows 4 1 []) (.rows 4 1 []) ZC s13 [.rows 5 1 [], .rows 4 1 [], .rows 4 1 [], .cells [I v2, I v3, I v4, B v5, T v6, T v7, I v8, I v9, I v10, I v11, .g (Sl.g 5 Cmp.c (slN v12)), .g (Sl.g 4 Mut.c (slN v13)), .g .nsl]]) (by omega) (fun x => rfl) rfl (by omega) (fun H st h1 h2 => rmut_ev h1 h2) rdMut_len 4 (by omega)
  have a15 := rend_ev (rC_own H (.rows 5 1 []) (.rows 4 1 []) (.rows 4 1 []) ZC s14 [.rows 5 1 [], .rows 4 1 [], .rows 4 1 [], .cells [I v2, I v3, I v4, B v5, T v6, T v7, I v8, I v9, I v10, I v11, .g (Sl.g 5 Cmp.c (slN v12)), .g (Sl.g 4 Mut.c (slN v13)), .g (Sl.g 4 Mut.c (slN v14))]])
  rw [e12] at a12
  rw [e13] at a13
  rw [e14] at a14
  simp only at a12 a13 a14
  have eR : rdReq (s, false) = ((v1, v2, v3, v4, v5, v6, v7, v8, v9, v10, v11, v12, v13, v14), s14) := by simp only [rdReq, seqP, e1, e2, e3, e4, e5, e6, e7, e8, e9, e10, e11, e12, e13, e14]
  have a16 := fun H => MayAsk_ev (mkReq (v1, v2, v3, v4, v5, v6, v7, v8, v9, v10, v11, v12, v13, v14)) ⟨by simp only [mkReq, slN_l]; omega, by simp only [mkReq, slN_l]; omega, by simp only [mkReq, slN_l]; omega⟩ H
  have hO : askedOk s = (!s14.2 && (decide (s14.1 = []) && (decide (v1 = 1) && reqOk (mkReq (v1, v2, v3, v4, v5, v6, v7, v8, v9, v10, v11, v12, v13, v14))))) := by unfold askedOk; rw [eR]
  unfold askedQ
  rw [eR]
  simp only
  generalize reqOk (mkReq (v1, v2, v3, v4, v5, v6, v7, v8, v9, v10, v11, v12, v13, v14)) = bm at a16 hO
  subst eZ
  generalize hg1 : Sl.g 5 Cmp.c (slN v12) = G1 at a12 a13 a14 a15
  generalize hg2 : Sl.g 4 Mut.c (slN v13) = G2 at a13 a14 a15
  generalize hg3 : Sl.g 4 Mut.c (slN v14) = G3 at a14 a15
  simp only [A, mkReq, Req.c, Cmps.g, Muts.g, List.map_cons, List.map_nil, hg1, hg2, hg3] at a16
  refine EvF_walk t16 (by simp) ?_
  have hO2 : askedOk s = ((!s14.2 && decide (s14.1 = [])) && (decide (v1 = 1) && bm)) := by rw [hO, Bool.and_assoc]
  generalize (!s14.2 && decide (s14.1 = [])) = be at a15 hO2
  unfold rC at a1 a2 a3 a4 a5 a6 a7 a8 a9 a10 a11 a12 a13 a14 a15
  cases be
  · simp only [Bool.false_and] at hO2
    simp -implicitDefEqProofs [zres, hO2, reqZ, A, Req.c, a1, a2, a3, a4, a5, a6, a7, a8, a9, a10, a11, a12, a13, a14, a15]
  · by_cases h1 : v1 = 1
    · cases bm
      · simp only [Bool.true_and, Bool.and_false] at hO2
        simp -implicitDefEqProofs [zres, hO2, reqZ, A, Req.c, a1, a2, a3, a4, a5, a6, a7, a8, a9, a10, a11, a12, a13, a14, a15, a16, h1]
      · simp only [h1, decide_true, Bool.true_and] at hO2
        simp -implicitDefEqProofs [zres, hO2, A, Req.c, mkReq, Cmps.g, Muts.g, hg1, hg2, hg3, a1, a2, a3, a4, a5, a6, a7, a8, a9, a10, a11, a12, a13, a14, a15, a16, h1]
    · simp only [h1, decide_false, Bool.true_and, Bool.false_and] at hO2
      simp -implicitDefEqProofs [zres, hO2, reqZ, A, Req.c, a1, a2, a3, a4, a5, a6, a7, a8, a9, a10, a11, a12, a13, a14, a15, h1]
end Go.Proofs.YtenndgooepdmiaaGreatDoor
end
section
namespace Go.Proofs.YtenndgooepdmiaaGreatDoor
open Go Go.AM Go.Proofs
set_option maxRecDepth 20000
set_option maxHeartbeats 2000000
set_option linter.unusedSimpArgs false
set_option linter.unusedVariables false
def qAcc (q : Req) : Acc := ⟨q.who, q.token, q.value⟩
def doOk (s : Bs) : Bool := askedOk s && decide ((askedQ s).kind = 8)
def doR (r : Rsc) (s : Bs) : Rsc := if doOk s = true then wrR r (qAcc (askedQ s)) else r
def doE (r : Rsc) (s : Bs) : Int := if doOk s = true then wrE r (qAcc (askedQ s)) else 3
theorem Do_ev {H : List Blk} (hG : Glb H) (r : Rsc) (s : Bs) (hs : s.length ≤ 9223372036854775807) : EvF tab 5 [A r.c, T s] H = some ⟨.tup [A (doR r s).c, I (doE r s)], [], []⟩ := by
  have m1 := fun H => Asked_ev s hs H
  have m2 := fun o => Write_ev (hG.app o) r (qAcc (askedQ s))
  refine EvF_walk t5 (by simp) ?_
  unfold doR doE doOk
  generalize askedQ s = q at *
  generalize askedOk s = b at *
  obtain ⟨p1, p2, p3, p4, p5, p6, p7, p8, p9, p10, p11, p12, p13⟩ := q
  obtain ⟨rh, rv, rl⟩ := r
  simp only [A, Req.c, List.map_cons, List.map_nil, qAcc] at m1 m2 ⊢
  generalize wrE ⟨rh, rv, rl⟩ ⟨p2, p10, p6⟩ = e at *
  obtain ⟨w, hw⟩ : ∃ w, wrR ⟨rh, rv, rl⟩ ⟨p2, p10, p6⟩ = w := ⟨_, rfl⟩
  rw [hw] at m2 ⊢
  obtain ⟨wh, wv, wl⟩ := w
  simp only [Rsc.c, List.map_cons, List.map_nil] at m1 m2 ⊢
  cases b
  · simp -implicitDefEqProofs [m1, m2, zres]
  · by_cases hk : p1 = 8
    · simp -implicitDefEqProofs [m1, m2, zres, hk]
    · simp -implicitDefEqProofs [m1, m2, zres, hk]
end Go.Proofs.YtenndgooepdmiaaGreatDoor
end
section
namespace Go.Proofs.YtenndgooepdmiaaGreatDoor
open Go Go.AM Go.Proofs
set_option maxRecDepth 20000
set_option maxHeartbeats 2000000
set_option linter.unusedSimpArgs false
set_option linter.unusedVariables false
theorem askedQ_of {q : Req} (h : reqOk q = true) : askedQ (encReq q) = mkReq (unReq q) := by
  unfold askedQ
  rw [(asked_enc h).1, (asked_enc h).2]; rfl
theorem enc_small (n : Int) (h : n.toNat < 128) : encN n = [UInt8.ofNat n.toNat] := by
  unfold encN varB
  rw [varI, varL, if_pos h, if_pos h]; rfl
def w1 : Acc := ⟨7, 3, [120]⟩
def w2 : Acc := ⟨8, 5, [121]⟩
def w3 : Acc := ⟨9, 5, [119]⟩
def r1 : Rsc := ⟨3, [120], .of [w1]⟩
def r2 : Rsc := ⟨5, [121], .of [w1, w2]⟩
def r3 : Rsc := ⟨5, [119], .of [w1, w2, w3]⟩
def req20 : Req := ⟨8, 9, 0, false, [], [119], 0, 0, 0, 5, .nil, .nil, .nil⟩
theorem req20_ok : reqOk req20 = true := by decide
theorem req20_enc : encReq req20 = [1, 8, 9, 0, 0, 0, 1, 119, 0, 0, 0, 5, 0, 0, 0] := by
  unfold encReq encHead encMuts encS encB req20
  simp [enc_small]
theorem asked_x : askedOk [120] = false := by
  cases h : askedOk [120]
  · rfl
  · have := asked_inv h
    simp only [encReq, encHead, List.append_assoc] at this
    have h2 := this.2
    simp at h2
theorem toks3 : upL (toks [w1, w2, w3]) = [3, 5] := by
  refine up_ext _ _ (upL_up _) (by simp) fun n => ?_
  rw [mem_upL]
  simp [toks, w1, w2, w3]
theorem owns3 : upL (owns 5 [w1, w2, w3]) = [8, 9] := by
  refine up_ext _ _ (upL_up _) (by simp) fun n => ?_
  rw [mem_upL]
  simp [owns, w1, w2, w3]
theorem wr_take {r : Rsc} {x : Acc} (h : ck r x = 0) : wrR r x = takeR r x ∧ wrE r x = 0 := by
  unfold wrR wrE; rw [if_pos h, h]; exact ⟨rfl, rfl⟩
theorem wr_not {r : Rsc} {x : Acc} {k : Nat} (h : ck r x = k + 1) : wrR r x = r ∧ wrE r x = codeN (k + 1) := by
  unfold wrR wrE; rw [if_neg (by omega), h]; exact ⟨rfl, rfl⟩
theorem do3 : doR r2 (encReq req20) = r3 ∧ doE r2 (encReq req20) = 0 := by
  have h1 : askedQ (encReq req20) = req20 := by rw [askedQ_of req20_ok]; rfl
  have h2 : doOk (encReq req20) = true := by unfold doOk; rw [(asked_enc req20_ok).1, h1]; decide
  unfold doR doE
  rw [if_pos h2, if_pos h2, h1]
  exact wr_take (r := r2) (x := w3) (by decide)
theorem dox : doR r2 [120] = r2 ∧ doE r2 [120] = 3 := by
  have h2 : doOk [120] = false := by unfold doOk; rw [asked_x]; rfl
  unfold doR doE
  rw [h2]; exact ⟨rfl, rfl⟩
theorem live20 {H : List Blk} (hG : Glb H) : EvF tab 4 [] H = some ⟨B true, [], []⟩ := by
  have a1 := Write_ev hG zR w1
  have a2 := fun o => Write_ev (hG.app o) r1 w2
  have a3 := fun o => Write_ev (hG.app o) r2 ⟨7, 4, [122]⟩
  have a4 := fun o => Write_ev (hG.app o) r2 ⟨7, 0, [122]⟩
  have a5 := fun H => Ask_ev req20 ⟨by simp [req20], by simp [req20], by simp [req20]⟩ H
  have a6 := fun o => Do_ev (hG.app o) r2 (encReq req20) (by rw [req20_enc]; simp)
  have a7 := fun o => Do_ev (hG.app o) r2 [120] (by simp)
  have a8 := fun H => Owners_ev r3 5 (by simp [r3]) H
  have a9 := fun H => Tokens_ev r3 (by simp [r3]) H
  have a10 := fun H => Ints_ev (.of [8, 9]) (by simp) H
  have a11 := fun H => Ints_ev (.of [3, 5]) (by simp) H
  have a12 := fun H => Same_ev r2 (by simp [r2]) H
  have a13 := fun o => May_ev (hG.app o) r3 (by simp [r3])
  have a14 := fun o => May_ev (hG.app o) ⟨1, [], .nil⟩ (by simp)
  rw [(wr_take (show ck zR w1 = 0 by decide)).1, (wr_take (show ck zR w1 = 0 by decide)).2] at a1
  rw [(wr_take (show ck r1 w2 = 0 by decide)).1, (wr_take (show ck r1 w2 = 0 by decide)).2] at a2
  rw [(wr_not (k := 1) (show ck r2 ⟨7, 4, [122]⟩ = 2 by decide)).1, (wr_not (k := 1) (show ck r2 ⟨7, 4, [122]⟩ = 2 by decide)).2] at a3
  rw [(wr_not (k := 0) (show ck r2 ⟨7, 0, [122]⟩ = 1 by decide)).1, (wr_not (k := 0) (show ck r2 ⟨7, 0, [122]⟩ = 1 by decide)).2] at a4
  rw [req20_ok] at a5
  rw [do3.1, do3.2] at a6
  rw [dox.1, dox.2] at a7
  rw [show r3.log.l = [w1, w2, w3] from rfl, owns3] at a8
  rw [show r3.log.l = [w1, w2, w3] from rfl, toks3] at a9
  rw [show mayR r3 = true by decide] at a13
  rw [show mayR ⟨1, [], .nil⟩ = false by decide] at a14
  rw [req20_enc] at a5 a6
  simp only [if_true] at a5
  simp [A, Rsc.c, Req.c, Acc.c, Accs.g, takeR, zR, w1, w2, w3, r1, r2, r3, req20, slI, Ints.c, codeN] at a1 a2 a3 a4 a5 a6 a7 a8 a9 a10 a11 a12 a13 a14
  refine EvF_walk t4 (by simp) ?_
  simp -implicitDefEqProofs [zres, chunk, a1, a2, a3, a4, a5, a6, a7, a8, a9, a10, a11, a12, a13, a14]
end Go.Proofs.YtenndgooepdmiaaGreatDoor
end
section
namespace Go.Proofs.YtenndgooepdmiaaGreatDoor
open Go Go.AM Go.Proofs
set_option maxRecDepth 20000
set_option maxHeartbeats 2000000
set_option linter.unusedSimpArgs false
set_option linter.unusedVariables false
inductive IOk (H : List Blk) (l : List Int) : AV → Prop
  | g (hne : l ≠ []) : IOk H l (.g (.sl 1 (l.map Ints.c)))
  | ms (id : Nat) (hl : l = []) (h : H[id]? = some (.rows 1 1 [])) : IOk H l (.ms id 1 1 0 0)
/-- Where a list is parted. -/
theorem part_at (n : Int) : ∀ l : List Int, ∃ A B, l = A ++ B ∧ (∀ x ∈ A, x < n) ∧ (∀ x, B.head? = some x → ¬ x < n) ∧ putL n l = A ++ (match B with
    | [] => [n]
    | x :: B' => if x = n then x :: B' else n :: x :: B') := by
  intro l
  induction l with
  | nil => exact ⟨[], [], rfl, by simp, by simp, rfl⟩
  | cons y l ih =>
    by_cases h : y < n
    · obtain ⟨A, B, h1, h2, h3, h4⟩ := ih
      refine ⟨y :: A, B, by rw [h1]; rfl, ?_, h3, ?_⟩
      · intro x hx
        rcases List.mem_cons.1 hx with rfl | hx
        · exact h
        · exact h2 x hx
      · simp only [putL, if_pos h, h4, List.cons_append]
    · refine ⟨[], y :: l, rfl, by simp, by simpa using h, ?_⟩
      simp only [putL, if_neg h, List.nil_append]
theorem put_loop {H : List Blk} (n : Int) (A B : List Int) (hl : (A ++ B).length ≤ 1000000) (hA : ∀ x ∈ A, x < n) (hB : ∀ x, B.head? = some x → ¬ x < n) (o : List Blk) :
    loopE (EvF tab) H L20_0 [0, 1, 5] ⟨[(0, .g (.sl 1 ((A ++ B).map Ints.c))), (1, I n), (5, I 0)], [], o⟩ = some (.exit 0, ⟨[(0, .g (.sl 1 ((A ++ B).map Ints.c))), (1, I n), (5, I A.length), (18, .g (.bool false))], [], o⟩) := by
  have hlen : (A ++ B).length = A.length + B.length := List.length_append
  have hw := loop_cnt (E := EvF tab) (h := H) (c := L20_0) (lv := [0, 1, 5]) A.length
    (fun k => ⟨[(0, .g (.sl 1 ((A ++ B).map Ints.c))), (1, I n), (5, I k)], [], o⟩) (.exit 0, ⟨[(0, .g (.sl 1 ((A ++ B).map Ints.c))), (1, I n), (5, I A.length), (18, .g (.bool false))], [], o⟩) (by simp) (fun k hk => ?_) ?_
  · simpa using hw
  · have hkl : k < (A ++ B).length := by omega
    have e2 := wrap_succ hkl (by omega)
    obtain ⟨x, hx⟩ : ∃ x, (A ++ B)[k] = x := ⟨_, rfl⟩
    have hxn : x < n := by
      rw [List.getElem_append_left hk] at hx
      rw [← hx]; exact hA _ (List.getElem_mem hk)
    have hkl2 : (k : Int) < ((A ++ B).length : Int) := by omega
    have q1 : ((A ++ B).map Ints.c)[k]? = some (Ints.c x) := by rw [List.getElem?_map, List.getElem?_eq_getElem hkl, hx]; rfl
    generalize A ++ B = l at *
    delta L20_0
    simp -implicitDefEqProofs [e2, hxn, hkl2, q1, Ints.c]
  · by_cases hB0 : B = []
    · subst hB0
      simp only [List.append_nil]
      delta L20_0
      simp -implicitDefEqProofs
    · obtain ⟨x, B', rfl⟩ := List.exists_cons_of_ne_nil hB0
      have hxn := hB x rfl
      have hkl : A.length < (A ++ x :: B').length := by rw [hlen]; simp
      have hkl2 : (A.length : Int) < ((A ++ x :: B').length : Int) := by omega
      have q1 : ((A ++ x :: B').map Ints.c)[A.length]? = some (Ints.c x) := by rw [List.getElem?_map, List.getElem?_append_right (Nat.le_refl _)]; simp
      generalize A ++ x :: B' = l at *
      generalize A.length = k at *
      delta L20_0
      simp -implicitDefEqProofs [hxn, hkl2, q1, Ints.c]
theorem put_nil {H : List Blk} (n : Int) (id : Nat) (h : H[id]? = some (.rows 1 1 [])) : EvF tab 20 [.ms id 1 1 0 0, I n] H = some ⟨.g (.sl 1 [[.int .i64 n]]), [], []⟩ := by
  have gB := getB_in h
  have hw : ∀ o, loopE (EvF tab) H L20_0 [0, 1, 5] ⟨[(0, .ms id 1 1 0 0), (1, I n), (5, I 0)], [], o⟩ = some (.exit 0, ⟨[(0, .ms id 1 1 0 0), (1, I n), (5, I 0), (18, .g (.bool false))], [], o⟩) := fun o => by
    refine loopE_out _ _ _ _ _ _ (by simp) ?_
    delta L20_0
    simp -implicitDefEqProofs [gB]
  refine EvF_walk t20 (by simp) ?_
  simp -implicitDefEqProofs [gB, hw, appV, room, chunk, cutB, bnd, intOfA]
theorem app2 {b0 : Blk} {g : Nat} {xs ys : List (List GV)} (h1 : xs.length + ys.length ≤ 2000000) (hg : 2 ≤ g) (H : List Blk) : ∃ g' w, 2 ≤ g' ∧ (∀ x ∈ w, x = H.length + 1) ∧ ∀ t m,
    appV H ⟨t, m, [b0, .rows 1 g xs]⟩ 1 8 (.ms (H.length + 1) g 1 0 xs.length) ys = some (.ms (H.length + 1) g' 1 0 (xs.length + ys.length), ⟨t, m, [b0, .rows 1 g' (xs ++ ys)]⟩, w) := by
  by_cases hy : ys = []
  · subst hy
    exact ⟨g, [], hg, by simp, fun t m => by simp [appV, cur]⟩
  · refine ⟨g + 1, [H.length + 1], by omega, by simp, fun t m => ?_⟩
    have := app_grow (sz := 1) (bytes := 8) (g := g) (xs := xs) (ys := ys) hy (by omega) (by omega) H t m [b0]
    exact this
theorem put_app {H : List Blk} (n : Int) (LA LB : List (List GV)) (hl : LA.length + LB.length ≤ 1000000) (b0 : Blk) : ∃ g1 g2 g3 w1 w2 w3, 2 ≤ g3 ∧
    (∀ t m, appV H ⟨t, m, [b0, .rows 1 2 []]⟩ 1 8 (.ms (H.length + 1) 2 1 0 0) LA = some (.ms (H.length + 1) g1 1 0 LA.length, ⟨t, m, [b0, .rows 1 g1 LA]⟩, w1)) ∧
    (∀ t m, appV H ⟨t, m, [b0, .rows 1 g1 LA]⟩ 1 8 (.ms (H.length + 1) g1 1 0 LA.length) [[.int .i64 n]] = some (.ms (H.length + 1) g2 1 0 (LA.length + 1), ⟨t, m, [b0, .rows 1 g2 (LA ++ [[.int .i64 n]])]⟩, w2)) ∧
    (∀ t m, appV H ⟨t, m, [b0, .rows 1 g2 (LA ++ [[.int .i64 n]])]⟩ 1 8 (.ms (H.length + 1) g2 1 0 (LA.length + 1)) LB = some (.ms (H.length + 1) g3 1 0 (LA.length + 1 + LB.length), ⟨t, m, [b0, .rows 1 g3 (LA ++ [.int .i64 n] :: LB)]⟩, w3)) := by
  obtain ⟨g1, w1, h1, _, k1⟩ := app2 (b0 := b0) (g := 2) (xs := []) (ys := LA) (by simp; omega) (by omega) H
  obtain ⟨g2, w2, h2, _, k2⟩ := app2 (b0 := b0) (g := g1) (xs := LA) (ys := [[.int .i64 n]]) (by simp; omega) h1 H
  obtain ⟨g3, w3, h3, _, k3⟩ := app2 (b0 := b0) (g := g2) (xs := LA ++ [[.int .i64 n]]) (ys := LB) (by simp; omega) h2 H
  refine ⟨g1, g2, g3, w1, w2, w3, h3, fun t m => ?_, fun t m => k2 t m, fun t m => ?_⟩
  · have := k1 t m
    simpa using this
  · have := k3 t m
    simpa using this
theorem put_g {H : List Blk} (n : Int) (l : List Int) (hne : l ≠ []) (hl : l.length ≤ 1000000) : EvF tab 20 [.g (.sl 1 (l.map Ints.c)), I n] H = some ⟨.g (.sl 1 ((putL n l).map Ints.c)), [], []⟩ := by
  obtain ⟨A, B, rfl, hA, hB, hp⟩ := part_at n l
  rw [hp]
  clear hp
  have hlen : (A ++ B).length = A.length + B.length := List.length_append
  have hw := fun o => put_loop (H := H) n A B hl hA hB o
  have j0 : (A.length : Int) ≤ ((A ++ B).length : Int) := by omega
  have tA : List.take A.length ((A ++ B).map Ints.c) = A.map Ints.c := by rw [← List.map_take, List.take_left' rfl]
  have tB : List.drop A.length ((A ++ B).map Ints.c) = B.map Ints.c := by rw [← List.map_drop, List.drop_left' rfl]
  have tT : List.take (A ++ B).length ((A ++ B).map Ints.c) = (A ++ B).map Ints.c := List.take_of_length_le (by simp)
  obtain ⟨g1, g2, g3, w1, w2, w3, hg3, a1, a2, a3⟩ := put_app (H := H) n (A.map Ints.c) (B.map Ints.c) (by simp only [List.length_map]; omega) (.rows 1 1 [])
  simp only [List.length_map] at a1 a2 a3
  have tZ : List.take (A.length + 1 + B.length) (A.map Ints.c ++ [.int .i64 n] :: B.map Ints.c) = A.map Ints.c ++ [.int .i64 n] :: B.map Ints.c := List.take_of_length_le (by simp; omega)
  have hg1 : ¬ g3 = 1 := by omega
  have hcz : A.length + 1 + B.length ≤ (A.map Ints.c ++ [.int .i64 n] :: B.map Ints.c).length := by simp; omega
  have hLl : ((A ++ B).map Ints.c).length = (A ++ B).length := List.length_map _
  have k0 : A.length ≤ (A ++ B).length := by omega
  have fin : ∀ (hc : ¬ ((A.length : Int) < ((A ++ B).length : Int) ∧ ((A ++ B).map Ints.c)[A.length]? = some (Ints.c n))) (hq : (A.length : Int) < ((A ++ B).length : Int) → ∃ x, ((A ++ B).map Ints.c)[A.length]? = some (Ints.c x)),
      EvF tab 20 [.g (.sl 1 ((A ++ B).map Ints.c)), I n] H = some ⟨.g (.sl 1 (A.map Ints.c ++ [.int .i64 n] :: B.map Ints.c)), [], []⟩ := by
    intro hc hq
    refine EvF_walk t20 (by simp) ?_
    generalize (A ++ B).map Ints.c = L at *
    generalize A.map Ints.c = LA at *
    generalize B.map Ints.c = LB at *
    generalize (A ++ B).length = z at *
    generalize LA ++ [.int .i64 n] :: LB = R at *
    generalize A.length = a at *
    by_cases hlt : (a : Int) < (z : Int)
    · obtain ⟨x, hx⟩ := hq hlt
      have hxn : ¬ x = n := fun e => hc ⟨hlt, by rw [hx, e]⟩
      simp -implicitDefEqProofs [hw, hlt, hx, hxn, hLl, Ints.c, a1, a2, a3, chunk, cutB, bnd, intOfA, tA, tB, tT, tZ, j0, k0, hg1, hcz]
    · simp -implicitDefEqProofs [hw, hlt, hLl, Ints.c, a1, a2, a3, chunk, cutB, bnd, intOfA, tA, tB, tT, tZ, j0, k0, hg1, hcz]
  cases B with
  | nil =>
    rw [fin (by simp) (by simp)]
    simp [Ints.c]
  | cons x B' =>
    have hkl2 : (A.length : Int) < ((A ++ x :: B').length : Int) := by simp only [List.length_cons] at hlen; omega
    have q1 : ((A ++ x :: B').map Ints.c)[A.length]? = some (Ints.c x) := by rw [List.getElem?_map, List.getElem?_append_right (Nat.le_refl _)]; simp
    by_cases hx : x = n
    · subst hx
      simp only [if_true]
      clear fin a1 a2 a3 tZ hcz tA tB
      refine EvF_walk t20 (by simp) ?_
      generalize A ++ x :: B' = l at *
      generalize A.length = k at *
      simp -implicitDefEqProofs [hw, hkl2, q1, Ints.c]
    · rw [fin (fun h => hx (by have := h.2; rw [q1] at this; simpa [Ints.c] using this)) (fun _ => ⟨x, q1⟩)]
      simp [hx, Ints.c]
end Go.Proofs.YtenndgooepdmiaaGreatDoor
end
section
namespace Go.Proofs.YtenndgooepdmiaaGreatDoor
open Go Go.AM Go.Proofs
set_option maxRecDepth 20000
set_option maxHeartbeats 2000000
set_option linter.unusedSimpArgs false
set_option linter.unusedVariables false
theorem putL_ne (n : Int) (l : List Int) : putL n l ≠ [] := by
  cases l with
  | nil => simp [putL]
  | cons x l =>
    simp only [putL]
    split
    · simp
    · split <;> simp
theorem putL_len (n : Int) : ∀ l : List Int, (putL n l).length ≤ l.length + 1 := by
  intro l
  induction l with
  | nil => simp [putL]
  | cons x l ih =>
    simp only [putL]
    split
    · simp; exact ih
    · split <;> simp
def outV (id : Nat) (r : List Int) : AV := if r = [] then .ms id 1 1 0 0 else .g (.sl 1 (r.map Ints.c))
theorem put_ev {H : List Blk} (n : Int) (l : List Int) (hl : l.length ≤ 1000000) (id : Nat) (h : H[id]? = some (.rows 1 1 [])) : EvF tab 20 [outV id l, I n] H = some ⟨outV id (putL n l), [], []⟩ := by
  have e : outV id (putL n l) = .g (.sl 1 ((putL n l).map Ints.c)) := by unfold outV; rw [if_neg (putL_ne n l)]
  rw [e]
  unfold outV
  split
  · rename_i h0
    subst h0
    exact put_nil n id h
  · rename_i h0
    exact put_g n l h0 hl
theorem Tokens2_ev (r : Rsc) (hl : r.log.l.length ≤ 1000000) (H : List Blk) : EvF tab 10 [A r.c] H = some ⟨.g (Ints.g (slI (upL (toks r.log.l)))), [], []⟩ := by
  obtain ⟨rh, rv, s⟩ := r
  simp only at hl ⊢
  have hv := fun h st => lenV_Sl h st 3 Acc.c s
  have hR : (H ++ [.cells [I rh, T rv, .g (Accs.g s)], .rows 1 1 [], .rows 1 1 []])[H.length + 2]? = some (.rows 1 1 []) := by
    rw [List.getElem?_append_right (by omega)]; simp
  have hw := loop_fold (E := EvF tab) (h := H) (c := L10_0) (lv := [1, 3, 4]) (l := s.l) (fun k r => r.length ≤ k) (fun o (x : Acc) => putL x.token o)
    (fun k r => ⟨[(1, .ptr H.length 0), (3, outV (H.length + 2) r), (4, I k)], [], [.cells [I rh, T rv, .g (Accs.g s)], .rows 1 1 [], .rows 1 1 []]⟩)
    (fun r => (.exit 0, ⟨[(1, .ptr H.length 0), (3, outV (H.length + 2) r), (4, I s.l.length), (9, B false)], [], [.cells [I rh, T rv, .g (Accs.g s)], .rows 1 1 [], .rows 1 1 []]⟩)) (by simp)
    (fun k x r hk hx hy hi => ?_) (fun r _ => by delta L10_0; simp -implicitDefEqProofs [hv]) [] (by simp)
  · have e : s.l.foldl (fun o (x : Acc) => putL x.token o) [] = upL (toks s.l) := by
      rw [← put_upL, toks, List.foldl_map]
    rw [e] at hw
    simp only [Int.ofNat_zero, Int.cast_ofNat_Int, Int.natCast_zero, outV, if_true] at hw
    refine EvF_walk t10 (by simp) ?_
    by_cases h0 : upL (toks s.l) = []
    · rw [h0] at hw ⊢
      simp only [if_true] at hw
      simp -implicitDefEqProofs [A, Rsc.c, hw, slI]
    · simp only [if_neg h0] at hw
      generalize upL (toks s.l) = u at *
      simp -implicitDefEqProofs [A, Rsc.c, hw, slI, h0]
  · have e2 := wrap_succ hk (by omega)
    have m1 := put_ev (H := H ++ [.cells [I rh, T rv, .g (Accs.g s)], .rows 1 1 [], .rows 1 1 []]) x.token r (by omega) (H.length + 2) hR
    refine ⟨Nat.le_trans (putL_len _ _) (by omega), ?_⟩
    generalize outV (H.length + 2) r = v1 at *
    generalize outV (H.length + 2) (putL x.token r) = v2 at *
    delta L10_0
    cases s with
    | nil => simp at hk
    | of l =>
      simp only [Sl.l_of] at hk hy hl hv e2
      simp only [Accs.g, Sl.g_of] at m1
      simp -implicitDefEqProofs [hk, hy, Acc.c, e2, m1, hv]
theorem owns_fold (t : Int) : ∀ (l : List Acc) (o : List Int), l.foldl (fun o (x : Acc) => if x.token = t then putL x.who o else o) o = (owns t l).foldl (fun o n => putL n o) o := by
  intro l
  induction l with
  | nil => intro o; rfl
  | cons x l ih =>
    intro o
    simp only [List.foldl_cons, ih, owns, List.filter_cons]
    by_cases h : x.token = t
    · simp [h]
    · simp [h]
theorem Owners2_ev (r : Rsc) (t : Int) (hl : r.log.l.length ≤ 1000000) (H : List Blk) : EvF tab 12 [A r.c, I t] H = some ⟨.g (Ints.g (slI (upL (owns t r.log.l)))), [], []⟩ := by
  obtain ⟨rh, rv, s⟩ := r
  simp only at hl ⊢
  have hv := fun h st => lenV_Sl h st 3 Acc.c s
  have hR : (H ++ [.cells [I rh, T rv, .g (Accs.g s)], .rows 1 1 [], .rows 1 1 []])[H.length + 2]? = some (.rows 1 1 []) := by
    rw [List.getElem?_append_right (by omega)]; simp
  have hw := loop_fold (E := EvF tab) (h := H) (c := L12_0) (lv := [1, 2, 5, 6]) (l := s.l) (fun k r => r.length ≤ k) (fun o (x : Acc) => if x.token = t then putL x.who o else o)
    (fun k r => ⟨[(1, I t), (2, .ptr H.length 0), (5, outV (H.length + 2) r), (6, I k)], [], [.cells [I rh, T rv, .g (Accs.g s)], .rows 1 1 [], .rows 1 1 []]⟩)
    (fun r => (.exit 0, ⟨[(1, I t), (2, .ptr H.length 0), (5, outV (H.length + 2) r), (6, I s.l.length), (11, B false)], [], [.cells [I rh, T rv, .g (Accs.g s)], .rows 1 1 [], .rows 1 1 []]⟩)) (by simp)
    (fun k x r hk hx hy hi => ?_) (fun r _ => by delta L12_0; simp -implicitDefEqProofs [hv]) [] (by simp)
  · rw [owns_fold, put_upL] at hw
    simp only [Int.ofNat_zero, Int.cast_ofNat_Int, Int.natCast_zero, outV, if_true] at hw
    refine EvF_walk t12 (by simp) ?_
    by_cases h0 : upL (owns t s.l) = []
    · rw [h0] at hw ⊢
      simp only [if_true] at hw
      simp -implicitDefEqProofs [A, Rsc.c, hw, slI]
    · simp only [if_neg h0] at hw
      generalize upL (owns t s.l) = u at *
      simp -implicitDefEqProofs [A, Rsc.c, hw, slI, h0]
  · have e2 := wrap_succ hk (by omega)
    have m1 := put_ev (H := H ++ [.cells [I rh, T rv, .g (Accs.g s)], .rows 1 1 [], .rows 1 1 []]) x.who r (by omega) (H.length + 2) hR
    have hpl := putL_len x.who r
    by_cases ht : x.token = t
    · simp only [if_pos ht]
      refine ⟨by omega, ?_⟩
      generalize outV (H.length + 2) r = v1 at *
      generalize outV (H.length + 2) (putL x.who r) = v2 at *
      delta L12_0
      cases s with
      | nil => simp at hk
      | of l =>
        simp only [Sl.l_of] at hk hy hl hv e2
        simp only [Accs.g, Sl.g_of] at m1
        simp -implicitDefEqProofs [hk, hy, Acc.c, e2, m1, hv, ht]
    · simp only [if_neg ht]
      refine ⟨by omega, ?_⟩
      generalize outV (H.length + 2) r = v1 at *
      delta L12_0
      cases s with
      | nil => simp at hk
      | of l =>
        simp only [Sl.l_of] at hk hy hl hv e2
        simp -implicitDefEqProofs [hk, hy, Acc.c, e2, hv, ht]
end Go.Proofs.YtenndgooepdmiaaGreatDoor
end
section
namespace Go.Proofs.YtenndgooepdmiaaGreatDoor
open Go Go.AM Go.Proofs
set_option maxRecDepth 20000
set_option maxHeartbeats 1000000
set_option linter.unusedSimpArgs false
set_option linter.unusedVariables false
abbrev R2 := Int × Bool
def r2N (s : Bs) (st : R2) : Int × R2 := if st.2 = true ∨ (readS s st.1).2.2 ≠ 0 ∨ 1099511627775 < (readS s st.1).1 then (0, (st.1, true)) else (((readS s st.1).1 : Int), ((readS s st.1).2.1, false))
def r2T (s : Bs) (st : R2) : Bs × R2 := if (r2N s st).2.2 = true ∨ (s.length : Int) - (r2N s st).2.1 < (r2N s st).1 then ([], ((r2N s st).2.1, true)) else ((s.take ((r2N s st).2.1 + (r2N s st).1).toNat).drop (r2N s st).2.1.toNat, ((r2N s st).2.1 + (r2N s st).1, false))
def r2B (s : Bs) (st : R2) : Bool × R2 := (decide ((r2N s st).1 = 1), ((r2N s st).2.1, (r2N s st).2.2 || decide (1 < (r2N s st).1)))
def Iv (s : Bs) (st : R2) : Prop := 0 ≤ st.1 ∧ st.1 ≤ s.length
def r2C (s : Bs) (st : R2) : Blk := .cells [T s, I st.1, B st.2]
theorem readS_at (s : Bs) (at_ : Int) (h0 : 0 ≤ at_) (h1 : at_ ≤ s.length) : (readS s at_).2.2 ≠ 0 ∨ ∃ m r, s.drop at_.toNat = varB m ++ r ∧ readS s at_ = (m, at_ + ((varB m).length : Int), 0) ∧ m < 18446744073709551616 := by
  have e : readS s at_ = readG at_ 0 0 (s.drop at_.toNat) := by unfold readS; rw [if_pos ⟨h0, h1⟩]
  rw [e]
  rcases read_inv at_ (s.drop at_.toNat) 0 0 (by omega) (by simp) with h | ⟨m, r, h1, h2, h3, _⟩
  · exact .inl h.1
  · right; refine ⟨m, r, h1, ?_, ?_⟩
    · rw [h2]; simp
    · simpa using h3
theorem r2N_iv {s : Bs} {st : R2} (h : Iv s st) : Iv s (r2N s st).2 ∧ 0 ≤ (r2N s st).1 ∧ (r2N s st).1 ≤ 1099511627775 := by
  unfold r2N
  split
  · exact ⟨h, by simp, by simp⟩
  · rename_i hc
    simp only [not_or] at hc
    rcases readS_at s st.1 h.1 h.2 with h1 | ⟨m, r, h1, h2, h3⟩
    · exact absurd h1 hc.2.1
    · rw [h2] at hc ⊢
      have := congrArg List.length h1
      simp at this
      obtain ⟨i1, i2⟩ := h
      simp only at hc
      refine ⟨⟨by simp only; omega, by simp only; omega⟩, by simp only; omega, by simp only; omega⟩
theorem r2n_ev {H : List Blk} {p : Nat} {s : Bs} {st : R2} (hp : H[p]? = some (r2C s st)) (hl : s.length ≤ 9223372036854775807) :
    EvF tab 38 [.ptr p 0] H = some ⟨I (r2N s st).1, [(p, r2C s (r2N s st).2)], []⟩ := by
  obtain ⟨a, w⟩ := st
  have hpl : p < H.length := (List.getElem?_eq_some_iff.1 hp).1
  have hp2 := (List.getElem?_eq_some_iff.1 hp).2
  have hr := fun H => Read2_ev s a hl H
  have hlv : isLiveB H p = true := by unfold isLiveB; rw [hp]; rfl
  unfold r2C at hp2 ⊢
  refine EvF_walk t38 (by simp) ?_
  unfold r2N
  simp only at hp2 ⊢
  generalize readS s a = R at hr ⊢
  obtain ⟨m, a2, e⟩ := R
  simp only at hr ⊢
  cases w
  · by_cases h : e = 0
    · subst h
      by_cases h4 : 1099511627775 < m
      · rw [if_pos (.inr (.inr h4))]
        simp -implicitDefEqProofs [hp2, hpl, getB_old, setB_old, orB, updM, hlv, hr, h4, show (1099511627775 : Int) < m by omega]
      · rw [if_neg (by simp; omega)]
        have hw : IntKind.i64.wrap (m : Int) = (m : Int) := wrap_i64 (by omega) (by omega)
        simp -implicitDefEqProofs [hp2, hpl, getB_old, setB_old, orB, updM, hlv, hr, h4, hw, show ¬ (1099511627775 : Int) < m by omega]
    · rw [if_pos (.inr (.inl h))]
      simp -implicitDefEqProofs [hp2, hpl, getB_old, setB_old, orB, updM, hlv, hr, h]
  · rw [if_pos (.inl rfl)]
    simp -implicitDefEqProofs [hp2, hpl, getB_old, setB_old, orB, updM, hlv, hr]
theorem r2b_ev {H : List Blk} {p : Nat} {s : Bs} {st : R2} (hp : H[p]? = some (r2C s st)) (hl : s.length ≤ 9223372036854775807) :
    EvF tab 39 [.ptr p 0] H = some ⟨B (r2B s st).1, [(p, r2C s (r2B s st).2)], []⟩ := by
  have hpl : p < H.length := (List.getElem?_eq_some_iff.1 hp).1
  have hn := r2n_ev hp hl
  refine EvF_walk t39 (by simp) ?_
  unfold r2B
  generalize r2N s st = x at hn ⊢
  obtain ⟨n, a, w⟩ := x
  unfold r2C at hn ⊢
  simp only at hn ⊢
  by_cases h1 : n = 1
  · subst h1
    cases w <;> simp -implicitDefEqProofs [hn, hpl, getB_old, setB_old, orB, updM]
  · by_cases h2 : 1 < n <;> cases w <;> simp -implicitDefEqProofs [hn, hpl, getB_old, setB_old, orB, updM, h1, h2]
theorem r2t_ev {H : List Blk} {p : Nat} {s : Bs} {st : R2} (hp : H[p]? = some (r2C s st)) (hl : s.length ≤ 9223372036854775807) (hi : Iv s st) :
    EvF tab 40 [.ptr p 0] H = some ⟨T (r2T s st).1, [(p, r2C s (r2T s st).2)], []⟩ := by
  have hpl : p < H.length := (List.getElem?_eq_some_iff.1 hp).1
  have hn := r2n_ev hp hl
  have hb := r2N_iv hi
  refine EvF_walk t40 (by simp) ?_
  unfold r2T
  generalize r2N s st = x at hn hb ⊢
  obtain ⟨n, a, w⟩ := x
  obtain ⟨⟨i1, i2⟩, b1, b2⟩ := hb
  unfold r2C at hn ⊢
  simp only at hn i1 i2 b1 b2 ⊢
  have e1 : IntKind.i64.wrap ((s.length : Int) - a) = (s.length : Int) - a := wrap_i64 (by omega) (by omega)
  have hsetl : (H.set p (Blk.cells [T s, I a, B w])).length = H.length := by simp
  have hlv : ∀ b : Blk, b.live = true → isLiveB (H.set p b) p = true := fun b hb => by unfold isLiveB; rw [List.getElem?_set_self hpl]; exact hb
  have hlv2 : ∀ w a, isLiveB (H.set p (Blk.cells [T s, I a, B w])) p = true := fun w a => hlv _ rfl
  cases w
  · by_cases h : (s.length : Int) - a < n
    · rw [if_pos (.inr h)]
      simp -implicitDefEqProofs [hn, hpl, getB_old, setB_old, orB, updM, hlv2, e1, h]
    · rw [if_neg (by simp; omega)]
      obtain ⟨k, rfl⟩ : ∃ k : Nat, n = k := ⟨n.toNat, by omega⟩
      obtain ⟨j, rfl⟩ : ∃ k : Nat, a = k := ⟨a.toNat, by omega⟩
      have e2 : IntKind.i64.wrap ((j : Int) + k) = (j : Int) + k := wrap_i64 (by omega) (by omega)
      have e3 : IntKind.i64.wrap ((j : Int) + k - k) = (j : Int) := by rw [wrap_i64 (by omega) (by omega)]; omega
      have e4 : ((j : Int) + (k : Int)).toNat = j + k := by omega
      have e5 : IntKind.i64.wrap (j : Int) = (j : Int) := wrap_i64 (by omega) (by omega)
      have hle : (j : Int) + k ≤ s.length := by omega
      have hle2 : (j : Int) ≤ j + k := by omega
      simp -implicitDefEqProofs [hn, hpl, getB_old, setB_old, orB, updM, hlv2, e1, e2, e3, e4, e5, h, cutB, bnd, intOfA, hle, hle2]
  · rw [if_pos (.inl rfl)]
    simp -implicitDefEqProofs [hn, hpl, getB_old, setB_old, orB, updM, hlv2, e1]
end Go.Proofs.YtenndgooepdmiaaGreatDoor
end
section
namespace Go.Proofs.YtenndgooepdmiaaGreatDoor
open Go Go.AM Go.Proofs
set_option maxRecDepth 20000
set_option maxHeartbeats 2000000
set_option linter.unusedSimpArgs false
set_option linter.unusedVariables false
@[simp] theorem r2C_lt1 (n : Nat) (s : Bs) (st : R2) : (r2C s st).lt1 n = true := by simp [r2C, Blk.lt1, AV.lt1, AV.lt0]
theorem r2C_set2 {H : List Blk} {p : Nat} (hp : p < H.length) (s : Bs) (st : R2) (o : List Blk) : (H.set p (r2C s st) ++ o)[p]? = some (r2C s st) := by
  rw [List.getElem?_append_left (by simpa using hp)]; exact List.getElem?_set_self hp
theorem r2C_app {H : List Blk} {p : Nat} {s : Bs} {st : R2} (hp : H[p]? = some (r2C s st)) (o : List Blk) : (H ++ o)[p]? = some (r2C s st) := by
  rw [List.getElem?_append_left (List.getElem?_eq_some_iff.1 hp).1]; exact hp
theorem r2T_iv {s : Bs} {st : R2} (h : Iv s st) : Iv s (r2T s st).2 := by
  have h1 := r2N_iv h
  unfold r2T
  split
  · exact h1.1
  · rename_i hc
    obtain ⟨⟨i1, i2⟩, i3, i4⟩ := h1
    refine ⟨by simp only; omega, by simp only; omega⟩
theorem r2B_iv {s : Bs} {st : R2} (h : Iv s st) : Iv s (r2B s st).2 := (r2N_iv h).1
def seq2 {α β : Type} (a : R2 → α × R2) (b : R2 → β × R2) (st : R2) : (α × β) × R2 := (((a st).1, (b (a st).2).1), (b (a st).2).2)
def r2Mut (s : Bs) (st : R2) : Mut × R2 :=
  let x := seq2 (r2B s) (seq2 (r2T s) (seq2 (r2T s) (r2N s))) st
  (⟨x.1.1, x.1.2.1, x.1.2.2.1, x.1.2.2.2⟩, x.2)
def r2Cmp (s : Bs) (st : R2) : Cmp × R2 :=
  let x := seq2 (r2T s) (seq2 (r2N s) (seq2 (r2N s) (seq2 (r2N s) (r2T s)))) st
  (⟨x.1.1, x.1.2.1, x.1.2.2.1, x.1.2.2.2.1, x.1.2.2.2.2⟩, x.2)
def r2KV (s : Bs) (st : R2) : KV × R2 :=
  let x := seq2 (r2T s) (seq2 (r2T s) (seq2 (r2N s) (seq2 (r2N s) (seq2 (r2N s) (r2N s))))) st
  (⟨x.1.1, x.1.2.1, x.1.2.2.1, x.1.2.2.2.1, x.1.2.2.2.2.1, x.1.2.2.2.2.2⟩, x.2)
def r2Ev (s : Bs) (st : R2) : Ev × R2 :=
  let x := seq2 (r2N s) (seq2 (r2B s) (r2KV s)) st
  (⟨x.1.1, x.1.2.1, x.1.2.2⟩, x.2)
theorem r2Mut_iv {s : Bs} {st : R2} (h : Iv s st) : Iv s (r2Mut s st).2 := (r2N_iv (r2T_iv (r2T_iv (r2B_iv h)))).1
theorem r2Cmp_iv {s : Bs} {st : R2} (h : Iv s st) : Iv s (r2Cmp s st).2 := r2T_iv (r2N_iv (r2N_iv (r2N_iv (r2T_iv h)).1).1).1
theorem r2KV_iv {s : Bs} {st : R2} (h : Iv s st) : Iv s (r2KV s st).2 := (r2N_iv (r2N_iv (r2N_iv (r2N_iv (r2T_iv (r2T_iv h))).1).1).1).1
theorem r2Ev_iv {s : Bs} {st : R2} (h : Iv s st) : Iv s (r2Ev s st).2 := by
  have := r2KV_iv (r2B_iv (r2N_iv h).1)
  unfold r2Ev
  simp only [seq2]
  exact this
def r2L {α : Type} (it : R2 → α × R2) (k : Int) : Nat → List α → R2 → List α × R2
  | 0, out, st => (out, st)
  | d + 1, out, st => if (out.length : Int) < k ∧ st.2 = false then r2L it k d (out ++ [(it st).1]) (it st).2 else (out, st)
theorem r2L_iv {α : Type} {it : R2 → α × R2} {s : Bs} (hi : ∀ st, Iv s st → Iv s (it st).2) (k : Int) : ∀ (d : Nat) (out : List α) (st : R2), Iv s st → Iv s (r2L it k d out st).2 := by
  intro d
  induction d with
  | zero => intro out st h; exact h
  | succ d ih =>
    intro out st h
    unfold r2L
    split
    · exact ih _ _ (hi _ h)
    · exact h
theorem r2L_le {α : Type} (it : R2 → α × R2) (k : Int) : ∀ (d : Nat) (out : List α) (st : R2), (r2L it k d out st).1.length ≤ out.length + d := by
  intro d
  induction d with
  | zero => intro out st; simp [r2L]
  | succ d ih =>
    intro out st
    unfold r2L
    split
    · have := ih (out ++ [(it st).1]) (it st).2
      simp only [List.length_append, List.length_cons, List.length_nil] at this
      omega
    · simp
theorem r2muts_loop {H : List Blk} {p : Nat} (hpl : p < H.length) {s : Bs} (hl : s.length ≤ 9223372036854775807) (k : Int) : ∀ (d : Nat) (out : List Mut) (st : R2) (o : List Blk), out.length + d = 5 → Iv s st →
    ∃ o', loopE (EvF tab) H L41_0 [0, 3, 4, 5] ⟨[(0, .ptr p 0), (3, .ms (H.length + 1) (out.length + 1) 4 0 out.length), (4, I k), (5, I out.length)], [(p, r2C s st)], .rows 4 1 [] :: .rows 4 (out.length + 1) (out.map Mut.c) :: o⟩ =
      some (.exit 0, ⟨[(0, .ptr p 0), (3, .ms (H.length + 1) ((r2L (r2Mut s) k d out st).1.length + 1) 4 0 (r2L (r2Mut s) k d out st).1.length), (4, I k), (5, I (r2L (r2Mut s) k d out st).1.length), (22, B false)], [(p, r2C s (r2L (r2Mut s) k d out st).2)], .rows 4 1 [] :: .rows 4 ((r2L (r2Mut s) k d out st).1.length + 1) ((r2L (r2Mut s) k d out st).1.map Mut.c) :: o'⟩) := by
  intro d
  induction d with
  | zero =>
    intro out st o h1 hi
    refine ⟨o, ?_⟩
    refine loopE_out _ _ _ _ _ _ (by simp) ?_
    simp only [r2L]
    delta L41_0
    have h5 : ¬ (out.length : Int) ≤ 4 := by omega
    have h5' : ¬ out.length ≤ 4 := by omega
    obtain ⟨a, w⟩ := st
    by_cases hk : (out.length : Int) < k <;> cases w <;> simp -implicitDefEqProofs [r2C, hk, h5, h5', hpl, getB_old, orB]
  | succ d ih =>
    intro out st o h1 hi
    by_cases hc : (out.length : Int) < k ∧ st.2 = false
    · obtain ⟨hk, hw⟩ := hc
      simp only [r2L, if_pos (And.intro hk hw)]
      have h4 : (out.length : Int) ≤ 4 := by omega
      have h4' : out.length ≤ 4 := by omega
      have i1 := r2B_iv hi
      have i2 := r2T_iv i1
      have i3 := r2T_iv i2
      have i4 := (r2N_iv i3).1
      have a1 := r2b_ev (r2C_set2 hpl s st (.rows 4 1 [] :: .rows 4 (out.length + 1) (out.map Mut.c) :: o)) hl
      have a2 := r2t_ev (r2C_set2 hpl s (r2B s st).2 (.rows 4 1 [] :: .rows 4 (out.length + 1) (out.map Mut.c) :: (o ++ [.cells [B (r2B s st).1, T [], T [], I 0]]))) hl i1
      have a3 := r2t_ev (r2C_set2 hpl s (r2T s (r2B s st).2).2 (.rows 4 1 [] :: .rows 4 (out.length + 1) (out.map Mut.c) :: (o ++ [.cells [B (r2B s st).1, T (r2T s (r2B s st).2).1, T [], I 0]]))) hl i2
      have a4 := r2n_ev (r2C_set2 hpl s (r2T s (r2T s (r2B s st).2).2).2 (.rows 4 1 [] :: .rows 4 (out.length + 1) (out.map Mut.c) :: (o ++ [.cells [B (r2B s st).1, T (r2T s (r2B s st).2).1, T (r2T s (r2T s (r2B s st).2).2).1, I 0]]))) hl
      have e1 : IntKind.i64.wrap ((out.length : Int) + 1) = (out.length : Int) + 1 := wrap_i64 (by omega) (by omega)
      obtain ⟨o', ho'⟩ := ih (out ++ [(r2Mut s st).1]) (r2Mut s st).2 (o ++ [.cells ((r2Mut s st).1.c.map .g)]) (by simp; omega) i4
      refine ⟨o', ?_⟩
      rw [loopE_kp _ _ _ _ _ _ (?_ : kpN [0, 3, 4, 5] (evCode (EvF tab) H L41_0 _) = some (.normal, ⟨[(0, .ptr p 0), (3, .ms (H.length + 1) ((out ++ [(r2Mut s st).1]).length + 1) 4 0 (out ++ [(r2Mut s st).1]).length), (4, I k), (5, I (out ++ [(r2Mut s st).1]).length)], [(p, r2C s (r2Mut s st).2)], .rows 4 1 [] :: .rows 4 ((out ++ [(r2Mut s st).1]).length + 1) ((out ++ [(r2Mut s st).1]).map Mut.c) :: (o ++ [.cells ((r2Mut s st).1.c.map .g)])⟩)), ho']
      clear ho' ih
      delta L41_0
      have hst : st = (st.1, false) := by rw [← hw]
      have hrC : r2C s st = .cells [T s, I st.1, B false] := by rw [← hw]; rfl
      have htk : List.take out.length (List.map Mut.c out) = List.map Mut.c out := List.take_of_length_le (by simp)
      have hr1 : out.length + 1 ≤ 140737488355328 := by omega
      have hr2 : (out.length + 1) * 48 ≤ 140737488355328 := by omega
      simp only [r2Mut, seq2]
      rw [hrC] at a1 ⊢
      generalize r2B s st = x1 at a1 a2 a3 a4 ⊢; obtain ⟨v1, s1⟩ := x1; simp only at a1 a2 a3 a4 ⊢
      generalize r2T s s1 = x2 at a2 a3 a4 ⊢; obtain ⟨v2, s2⟩ := x2; simp only at a2 a3 a4 ⊢
      generalize r2T s s2 = x3 at a3 a4 ⊢; obtain ⟨v3, s3⟩ := x3; simp only at a3 a4 ⊢
      generalize r2N s s3 = x4 at a4 ⊢; obtain ⟨v4, s4⟩ := x4; simp only at a4 ⊢
      simp -implicitDefEqProofs [zres, a1, a2, a3, a4, hk, h4, h4', hpl, getB_old, setB_old, orB, updM, Mut.c, chunk, appV, room, hr1, hr2, htk, e1, Nat.not_succ_le_self]
    · simp only [r2L, if_neg hc]
      refine ⟨o, ?_⟩
      refine loopE_out _ _ _ _ _ _ (by simp) ?_
      delta L41_0
      obtain ⟨a, w⟩ := st
      simp only at hc
      by_cases hk : (out.length : Int) < k
      · have hw : w = true := by cases w; exact absurd ⟨hk, rfl⟩ hc; rfl
        subst hw
        simp -implicitDefEqProofs [r2C, hk, hpl, getB_old, orB]
      · simp -implicitDefEqProofs [r2C, hk, hpl, getB_old, orB]
theorem r2muts_ev {H : List Blk} {p : Nat} {s : Bs} {st : R2} (hp : H[p]? = some (r2C s st)) (hl : s.length ≤ 9223372036854775807) (hi : Iv s st) :
    EvF tab 41 [.ptr p 0] H = some ⟨.g (Sl.g 4 Mut.c (slN (r2L (r2Mut s) (r2N s st).1 5 [] (r2N s st).2).1)), [(p, r2C s (r2L (r2Mut s) (r2N s st).1 5 [] (r2N s st).2).2)], []⟩ := by
  have hpl : p < H.length := (List.getElem?_eq_some_iff.1 hp).1
  have hn := r2n_ev (r2C_app hp [.rows 4 1 [], .rows 4 1 []]) hl
  obtain ⟨o', hw⟩ := r2muts_loop hpl hl (r2N s st).1 5 [] (r2N s st).2 [] rfl (r2N_iv hi).1
  refine EvF_walk t41 (by simp) ?_
  simp only [List.length_nil, List.map_nil, Nat.zero_add, show ((0 : Nat) : Int) = 0 from rfl] at hw
  generalize r2L (r2Mut s) (r2N s st).1 5 [] (r2N s st).2 = R at hw ⊢
  obtain ⟨l, s9⟩ := R
  simp only at hw ⊢
  cases l with
  | nil =>
    simp only [List.length_nil, List.map_nil, Nat.zero_add] at hw
    simp -implicitDefEqProofs [hn, hpl, getB_old, setB_old, orB, updM, hw, slN]
  | cons x l =>
    have htk : List.take (x :: l).length (List.map Mut.c (x :: l)) = List.map Mut.c (x :: l) := List.take_of_length_le (by simp)
    simp only [List.map_cons, List.length_cons] at htk hw
    simp -implicitDefEqProofs [hn, hpl, getB_old, setB_old, orB, updM, hw, slN, htk]
end Go.Proofs.YtenndgooepdmiaaGreatDoor
end
