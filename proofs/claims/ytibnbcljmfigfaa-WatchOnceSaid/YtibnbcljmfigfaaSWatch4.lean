/- Revision by revision: what watch.Since's rounds come to. -/
import Derived.Test.YtibnbcljmfigfaaSWatch3
namespace Go.Proofs.Ytibnbcljmfigfaa
open Go Go.AM Go.Proofs
set_option maxRecDepth 20000
set_option maxHeartbeats 2000000
set_option linter.unusedSimpArgs false
set_option linter.unusedVariables false
theorem loop_measE {E : FnS} {h : List Blk} {c : IC} {lv : List Nat} {β : Type} (m : β → Nat) (Inv : β → Prop) (S : β → St) (Q : Ex × St → Prop)
    (hstep : ∀ b, Inv b → (∃ b', m b' < m b ∧ Inv b' ∧ kpN lv (evCode E h c (S b)) = some (.normal, S b')) ∨ (∃ r, r.1 ≠ .normal ∧ Q r ∧ kpN lv (evCode E h c (S b)) = some r)) :
    ∀ (n : Nat) (b : β), m b ≤ n → Inv b → ∃ r, Q r ∧ loopE E h c lv (S b) = some r := by
  intro n
  induction n with
  | zero =>
    intro b hm hi
    rcases hstep b hi with ⟨b', h1, _⟩ | ⟨r, h1, h2, h3⟩
    · omega
    · exact ⟨r, h2, loopE_out E h c lv _ _ h1 h3⟩
  | succ n ih =>
    intro b hm hi
    rcases hstep b hi with ⟨b', h1, h2, h4⟩ | ⟨r, h1, h2, h3⟩
    · rw [loopE_kp E h c lv _ _ h4]
      exact ih b' (by omega) h2
    · exact ⟨r, h2, loopE_out E h c lv _ _ h1 h3⟩
def res0 (n : Nat) : AV := .ms (n + 2) 1 8 0 0
/-- The blocks behind the rounds. -/
def EndB (n : Nat) (s : Store) (most srev : Int) (all : List Ev) (L : List Blk) : Prop :=
  ∃ g G, (((cutP all most srev).2.2 = 0 ∧ (all.length : Int) ≤ most ∧ (g = 1 ↔ all = []) ∧ L = tenB n s most (res0 n) 0 0 g all G none) ∨
    (cutP all most srev = ([], 0, 4) ∧ L = tenB n s most (.g .nsl) 0 4 g [] G (some none)) ∨
    (∃ out nx, cutP all most srev = (out, nx, 0) ∧ ¬ (all.length : Int) ≤ most ∧ out ≠ [] ∧ g ≠ 1 ∧ L = tenB n s most (.ms (n + 6) g 8 0 out.length) nx 0 g out G (some none)))
structure RInv (n : Nat) (s : Store) (most : Int) (all : List Ev) (H h : List Blk) (b : List (Nat × Blk) × Nat × List Ev × Sl Ev) : Prop where
  keys : ∀ p ∈ b.1, n ≤ p.1 ∧ p.2.lt1 (n + 10) = true
  bl : applyM h b.1 = H ++ tenB n s most (res0 n) 0 0 b.2.1 b.2.2.1 (Evs.g b.2.2.2) none
  all : b.2.2.1 ++ b.2.2.2.l = all
  len : (b.2.2.1.length : Int) ≤ most
  lt : ∀ e ∈ b.2.2.1, ∀ x ∈ b.2.2.2.l, e.rev < x.rev
  g : b.2.1 = 1 ↔ b.2.2.1 = []
  gp : 1 ≤ b.2.1
theorem keys_upd {n : Nat} {m : List (Nat × Blk)} (h : ∀ p ∈ m, n ≤ p.1 ∧ p.2.lt1 (n + 10) = true) {id : Nat} (hid : n ≤ id) (b : Blk) (hb : b.lt1 (n + 10) = true) : ∀ p ∈ updM m id b, n ≤ p.1 ∧ p.2.lt1 (n + 10) = true := by
  induction m with
  | nil => intro p hp; rw [updM_nil] at hp; rw [List.mem_singleton.1 hp]; exact ⟨hid, hb⟩
  | cons q m ih =>
    obtain ⟨a, v⟩ := q
    intro p hp
    rw [updM_cons] at hp
    split at hp
    · rcases List.mem_cons.1 hp with rfl | hp
      · exact ⟨(h (a, v) (by simp)).1, hb⟩
      · exact h p (by simp [hp])
    · rcases List.mem_cons.1 hp with rfl | hp
      · exact h (a, v) (by simp)
      · exact ih (fun p hp => h p (by simp [hp])) p hp
theorem nn_mov (E : FnS) (h : List Blk) (s : St) (d : Option Nat) (g : Option (Nat × Bool)) (x : Opd) : evOneY E h s ⟨d, g, .mov x⟩ = ob (evOne E h 0 [] s ⟨d, g, .mov x⟩) fun p => some p.1 := evOneY_n _ _ _ _ rfl
theorem nn_load (E : FnS) (h : List Blk) (s : St) (d : Option Nat) (g : Option (Nat × Bool)) (a : Bool) (n : Nat) (x : Opd) : evOneY E h s ⟨d, g, .load a n x⟩ = ob (evOne E h 0 [] s ⟨d, g, .load a n x⟩) fun p => some p.1 := evOneY_n _ _ _ _ rfl
theorem nn_slc (E : FnS) (h : List Blk) (s : St) (d : Option Nat) (g : Option (Nat × Bool)) (n : Nat) (x : Opd) (a b : Option Opd) : evOneY E h s ⟨d, g, .slc n x a b⟩ = ob (evOne E h 0 [] s ⟨d, g, .slc n x a b⟩) fun p => some p.1 := evOneY_n _ _ _ _ rfl
theorem nn_un (E : FnS) (h : List Blk) (s : St) (d : Option Nat) (g : Option (Nat × Bool)) (o : UnOp) (x : Opd) : evOneY E h s ⟨d, g, .un o x⟩ = ob (evOne E h 0 [] s ⟨d, g, .un o x⟩) fun p => some p.1 := evOneY_n _ _ _ _ rfl
theorem idxR_evN (l : List Ev) (hne : l ≠ []) (hl : l.length ≤ 1000000) {H : List Blk} {p : Nat} (hp : H[p]? = some (.cells [.g (Evs.g (.of l))])) :
    EvF tab 78 [.g (.sl 8 (l.map Ev.c)), .fv 79 [.ptr p 0]] H = some ⟨I (idxG (fun e => decide (e.rev ≠ revAt l 0)) 0 l), [], []⟩ := by
  cases l with
  | nil => exact absurd rfl hne
  | cons x l => exact idxR_ev x l hl hp
theorem rounds_loop (s : Store) (most srev : Int) (all : List Ev) (hs : SrtE all) (h1 : 1 ≤ most) (hl : all.length ≤ 100000) (H h : List Blk) (hh : h.length = H.length + 10) (b : List (Nat × Blk) × Nat × List Ev × Sl Ev) (hb : RInv H.length s most all H h b) :
    ∃ m e t, (∀ p ∈ m, H.length ≤ p.1 ∧ p.2.lt1 (H.length + 10) = true) ∧ (∃ L, applyM h m = H ++ L ∧ EndB H.length s most srev all L) ∧ (e = .exit 0 ∨ e = .ret) ∧
      loopE (EvF tab) h L77_0 [0, 1] ⟨[(0, .yv (H.length + 9)), (1, .ptr (H.length + 8) 0)], b.1, []⟩ = some (e, ⟨t, m, []⟩) := by
  have hlt : ∀ k, k < 10 → H.length + k < h.length := fun k hk => by omega
  have key := loop_measE (E := EvF tab) (h := h) (c := L77_0) (lv := [0, 1]) (β := List (Nat × Blk) × Nat × List Ev × Sl Ev) (fun b => b.2.2.2.l.length) (RInv H.length s most all H h)
    (fun b => ⟨[(0, .yv (H.length + 9)), (1, .ptr (H.length + 8) 0)], b.1, []⟩)
    (fun r => ∃ m e t, (∀ p ∈ m, H.length ≤ p.1 ∧ p.2.lt1 (H.length + 10) = true) ∧ (∃ L, applyM h m = H ++ L ∧ EndB H.length s most srev all L) ∧ (e = .exit 0 ∨ e = .ret) ∧
      r = (e, ⟨t, m, []⟩)) (fun b hi => ?_) b.2.2.2.l.length b (Nat.le_refl _) hb
  · obtain ⟨r, ⟨m, e, t, k1, k2, k3, k4⟩, k5⟩ := key
    exact ⟨m, e, t, k1, k2, k3, by rw [k5, k4]⟩
  · obtain ⟨m, g, out, l⟩ := b
    obtain ⟨i1, i2, i3, i4, i5, i6, i7⟩ := hi
    simp only at i1 i2 i3 i4 i5 i6 i7 ⊢
    have hgb : ∀ t k, getB h ⟨t, m, []⟩ (H.length + k) = (tenB H.length s most (res0 H.length) 0 0 g out (Evs.g l) none)[k]? := fun t k => by
      rw [← getB_full]; unfold full; rw [i2, List.append_nil, get_app]
    have hg8 : ∀ t, getB h ⟨t, m, []⟩ (H.length + 8) = some (.cells [.g (Evs.g l)]) := fun t => hgb t 8
    have hg9 : ∀ t, getB h ⟨t, m, []⟩ (H.length + 9) = some (.lp rd16 (lpT H.length) none) := fun t => hgb t 9
    have hm : applyM h m = H ++ tenB H.length s most (res0 H.length) 0 0 g out (Evs.g l) none := i2
    rcases hll : l.l with _ | ⟨x, l'⟩
    · right
      refine ⟨_, ?_, ⟨m, .exit 0, [(0, .yv (H.length + 9)), (1, .ptr (H.length + 8) 0), (6, B false)], i1, ⟨_, i2, g, Evs.g l, .inl ?_⟩, .inl rfl, rfl⟩, ?_⟩
      · simp
      · rw [hll, List.append_nil] at i3
        subst i3
        exact ⟨by rw [cut_fits i4], i4, i6, rfl⟩
      · delta L77_0
        cases l with
        | nil => simp -implicitDefEqProofs [hg8]
        | of l => simp at hll; subst hll; simp -implicitDefEqProofs [hg8]
    · obtain ⟨l0, rfl⟩ : ∃ l0, l = .of l0 := by
        cases l with
        | nil => simp at hll
        | of l => exact ⟨l, rfl⟩
      simp only [Sl.l_of] at hll i3 i5 ⊢
      have hne0 : l0 ≠ [] := by rw [hll]; simp
      have hs0 : SrtE l0 := by rw [← i3] at hs; exact (List.pairwise_append.1 hs).2.1
      obtain ⟨grp, d, q1, q2, q3, q4, q5⟩ := grp_split hne0 hs0
      have hl0 : out.length + l0.length = all.length := by rw [← i3, List.length_append]
      have hgd : grp.length + d.length = l0.length := by rw [q1, List.length_append]
      have hgl : 0 < grp.length := List.length_pos_iff.2 q2
      have hidx := idxR_evN l0 hne0 (by omega) (H := H ++ tenB H.length s most (res0 H.length) 0 0 g out (Evs.g (.of l0)) none) (p := H.length + 8) (by rw [get_app]; rfl)
      unfold grpN at q5
      obtain ⟨r, hr⟩ : ∃ r, revAt l0 0 = r := ⟨_, rfl⟩
      rw [hr] at q3 q4 q5 hidx
      obtain ⟨j, hj⟩ : ∃ j, idxG (fun e => decide (e.rev ≠ r)) 0 l0 = j := ⟨_, rfl⟩
      rw [hj] at q5 hidx
      have et : List.take grp.length (List.map Ev.c l0) = List.map Ev.c grp := by rw [q1, List.map_append]; exact List.take_left' (by simp)
      have ed : List.drop grp.length (List.map Ev.c l0) = List.map Ev.c d := by rw [q1, List.map_append]; exact List.drop_left' (by simp)
      have ea : List.take l0.length (List.map Ev.c l0) = List.map Ev.c l0 := List.take_of_length_le (by simp)
      have hfu : ∀ t, full h ⟨t, m, []⟩ = H ++ tenB H.length s most (res0 H.length) 0 0 g out (Evs.g (.of l0)) none := fun t => by unfold full; rw [hm, List.append_nil]
      have hb1 : grp.length ≤ l0.length := by omega
      have hb2 : (grp.length : Int) ≤ (l0.length : Int) := by omega
      by_cases hfit : ((out.length + grp.length : Nat) : Int) ≤ most
      · left
        have hrd : EvF tab 0 [.yk rd16.key, .g (.sl 8 (grp.map Ev.c)), .yv (H.length + 9)] (H ++ tenB H.length s most (res0 H.length) 0 0 g out (.sl 8 (l0.map Ev.c)) none) = some _ := EvF_round (T := tab) (key := rd16.key) rfl tr16 (round_fits s most g out grp (Evs.g (.of l0)) q2 (by omega) hfit H)
        obtain ⟨m3, hm3⟩ : ∃ m3, updM (updM (updM m (H.length + 7) (.cells [.ms (H.length + 6) (g + 1) 8 0 (out ++ grp).length])) (H.length + 6) (.rows 8 (g + 1) ((out ++ grp).map Ev.c))) (H.length + 9) (.lp rd16 (lpT H.length) none) = m3 := ⟨_, rfl⟩
        have a3 : applyM h m3 = H ++ tenB H.length s most (res0 H.length) 0 0 (g + 1) (out ++ grp) (Evs.g (.of l0)) none := by
          rw [← hm3, applyM_upd, applyM_upd, applyM_upd, hm, set_app, set_app, set_app]; rfl
        have hg8' : ∀ t, getB h ⟨t, m3, []⟩ (H.length + 8) = some (.cells [.g (Evs.g (.of l0))]) := fun t => by
          rw [← getB_full]; unfold full; rw [a3, List.append_nil, get_app]; rfl
        refine ⟨(updM m3 (H.length + 8) (.cells [.g (Evs.g (.of d))]), g + 1, out ++ grp, .of d), ?_, ⟨?_, ?_, ?_, ?_, ?_, ?_, ?_⟩, ?_⟩
        · have hll2 := congrArg List.length hll
          simp only [List.length_cons, Sl.l_of] at hll2 ⊢
          omega
        · exact keys_upd (by rw [← hm3]; exact keys_upd (keys_upd (keys_upd i1 (by omega) _ (by simp [lpT, Blk.lt1])) (by omega) _ (by simp [lpT, Blk.lt1])) (by omega) _ (by simp [lpT, Blk.lt1])) (by omega) _ (by simp [lpT, Blk.lt1])
        · simp only
          rw [applyM_upd, a3, set_app]; rfl
        · simp only [Sl.l_of]; rw [List.append_assoc, ← q1]; exact i3
        · simp only [List.length_append]; exact hfit
        · simp only [Sl.l_of]
          intro e he x hx
          rcases List.mem_append.1 he with he | he
          · exact i5 e he x (by rw [q1]; simp [hx])
          · have := q3 e he; have := q4 x hx; omega
        · exact ⟨fun h => by exfalso; have h2 : g + 1 = 1 := h; omega, fun h => by simp [q2] at h⟩
        · simp only; omega
        · simp only [List.length_append, List.map_append] at hm3 hrd
          simp only [Sl.g_of, Evs.g] at hidx hrd hg8 hg8' hm a3 ⊢
          delta L77_0
          by_cases hj0 : j < 0
          · rw [if_pos hj0] at q5
            have hb3 : grp.length = l0.length := by omega
            have hd : d = [] := List.eq_nil_of_length_eq_zero (by omega)
            subst hd
            rw [List.append_nil] at q1
            subst q1
            simp -implicitDefEqProofs [nn_mov, nn_load, nn_slc, nn_un, hg8, hg9, hg8', hm, hidx, hrd, hm3, hne0, show 0 < l0.length by omega, hj0, cutB, bnd, intOfA, hb1, hb2, et, ea, ed, setB_old (hlt 6 (by omega)), setB_old (hlt 7 (by omega)), setB_old (hlt 8 (by omega)), setB_old (hlt 9 (by omega))]
            done
          · rw [if_neg hj0] at q5
            subst q5
            simp -implicitDefEqProofs [nn_mov, nn_load, nn_slc, nn_un, hg8, hg9, hg8', hm, hidx, hrd, hm3, hne0, show 0 < l0.length by omega, hj0, cutB, bnd, intOfA, hb1, hb2, et, ea, ed, setB_old (hlt 6 (by omega)), setB_old (hlt 7 (by omega)), setB_old (hlt 8 (by omega)), setB_old (hlt 9 (by omega))]
      · right
        have hcut := cut_full (srev := srev) (out := out) (g := grp) (d := d) h1 i4 (by omega) (fun e he => i5 e he l0[0] (List.getElem_mem (by omega))) (fun e he => by
          have hq := q3 e he
          rw [hq, ← hr]; unfold revAt; rw [List.getElem?_eq_getElem (by omega)]) (fun e he => by
          have hq := q4 e he
          rw [← hr] at hq; unfold revAt at hq; rw [List.getElem?_eq_getElem (by omega)] at hq; exact hq)
        rw [← q1, i3] at hcut
        have hr0 : l0[0].rev = r := by rw [← hr]; unfold revAt; rw [List.getElem?_eq_getElem (by omega)]
        rw [hr0] at hcut
        have hnl : ¬ (all.length : Int) ≤ most := by omega
        by_cases hout : out = []
        · subst hout
          rw [if_pos rfl] at hcut
          have hrd : EvF tab 0 [.yk rd16.key, .g (.sl 8 (grp.map Ev.c)), .yv (H.length + 9)] (H ++ tenB H.length s most (res0 H.length) 0 0 g [] (.sl 8 (l0.map Ev.c)) none) = some _ := EvF_round (T := tab) (key := rd16.key) rfl tr16 (round_full s most g grp (Evs.g (.of l0)) q2 (by omega) (by simp only [List.length_nil] at hfit; omega) H)
          obtain ⟨m3, hm3⟩ : ∃ m3, updM (updM (updM (updM m (H.length + 5) (.cells [I 4])) (H.length + 4) (.cells [I 0])) (H.length + 3) (.cells [.g .nsl])) (H.length + 9) (.lp rd16 (lpT H.length) (some none)) = m3 := ⟨_, rfl⟩
          have a3 : applyM h m3 = H ++ tenB H.length s most (.g .nsl) 0 4 g [] (Evs.g (.of l0)) (some none) := by
            rw [← hm3, applyM_upd, applyM_upd, applyM_upd, applyM_upd, hm, set_app, set_app, set_app, set_app]; rfl
          refine ⟨_, ?_, ⟨m3, .ret, [(0, .yv (H.length + 9)), (1, .ptr (H.length + 8) 0), (3, I grp.length), (19, B true)], ?_, ⟨_, a3, g, Evs.g (.of l0), .inr (.inl ⟨hcut, rfl⟩)⟩, .inr rfl, rfl⟩, ?_⟩
          · simp
          · rw [← hm3]; exact keys_upd (keys_upd (keys_upd (keys_upd i1 (by omega) _ (by simp [lpT, Blk.lt1])) (by omega) _ (by simp [lpT, Blk.lt1])) (by omega) _ (by simp [lpT, Blk.lt1])) (by omega) _ (by simp [lpT, Blk.lt1])
          · simp only [Sl.g_of, Evs.g] at hidx hrd hg8 hm a3 ⊢
            delta L77_0
            by_cases hj0 : j < 0
            · rw [if_pos hj0] at q5
              have hb3 : grp.length = l0.length := by omega
              rw [hb3] at et ⊢
              simp -implicitDefEqProofs [nn_mov, nn_load, nn_slc, nn_un, hg8, hg9, hm, hidx, hrd, hm3, hne0, show 0 < l0.length by omega, hj0, cutB, bnd, intOfA, hb1, hb2, et, ea, setB_old (hlt 3 (by omega)), setB_old (hlt 4 (by omega)), setB_old (hlt 5 (by omega)), setB_old (hlt 9 (by omega))]
            · rw [if_neg hj0] at q5
              subst q5
              simp -implicitDefEqProofs [nn_mov, nn_load, nn_slc, nn_un, hg8, hg9, hm, hidx, hrd, hm3, hne0, show 0 < l0.length by omega, hj0, cutB, bnd, intOfA, hb1, hb2, et, ea, setB_old (hlt 3 (by omega)), setB_old (hlt 4 (by omega)), setB_old (hlt 5 (by omega)), setB_old (hlt 9 (by omega))]
        · rw [if_neg hout] at hcut
          have hgr : revAt grp 0 = r := by
            obtain ⟨e, he, h2⟩ := revAt_mem hgl
            rw [h2]; exact q3 e he
          have hrd : EvF tab 0 [.yk rd16.key, .g (.sl 8 (grp.map Ev.c)), .yv (H.length + 9)] (H ++ tenB H.length s most (res0 H.length) 0 0 g out (.sl 8 (l0.map Ev.c)) none) = some _ := EvF_round (T := tab) (key := rd16.key) rfl tr16 (round_ends s most g out grp (Evs.g (.of l0)) q2 hout (by omega) (by omega) H)
          rw [hgr] at hrd
          obtain ⟨m3, hm3⟩ : ∃ m3, updM (updM (updM (updM m (H.length + 5) (.cells [I 0])) (H.length + 4) (.cells [I r])) (H.length + 3) (.cells [.ms (H.length + 6) g 8 0 out.length])) (H.length + 9) (.lp rd16 (lpT H.length) (some none)) = m3 := ⟨_, rfl⟩
          have a3 : applyM h m3 = H ++ tenB H.length s most (.ms (H.length + 6) g 8 0 out.length) r 0 g out (Evs.g (.of l0)) (some none) := by
            rw [← hm3, applyM_upd, applyM_upd, applyM_upd, applyM_upd, hm, set_app, set_app, set_app, set_app]; rfl
          refine ⟨_, ?_, ⟨m3, .ret, [(0, .yv (H.length + 9)), (1, .ptr (H.length + 8) 0), (3, I grp.length), (19, B true)], ?_, ⟨_, a3, g, Evs.g (.of l0), .inr (.inr ⟨out, r, hcut, hnl, hout, fun h => hout (i6.1 h), rfl⟩)⟩, .inr rfl, rfl⟩, ?_⟩
          · simp
          · rw [← hm3]; exact keys_upd (keys_upd (keys_upd (keys_upd i1 (by omega) _ (by simp [lpT, Blk.lt1])) (by omega) _ (by simp [lpT, Blk.lt1])) (by omega) _ (by simp [lpT, Blk.lt1])) (by omega) _ (by simp [lpT, Blk.lt1])
          · simp only [Sl.g_of, Evs.g] at hidx hrd hg8 hm a3 ⊢
            delta L77_0
            by_cases hj0 : j < 0
            · rw [if_pos hj0] at q5
              have hb3 : grp.length = l0.length := by omega
              rw [hb3] at et ⊢
              simp -implicitDefEqProofs [nn_mov, nn_load, nn_slc, nn_un, hg8, hg9, hm, hidx, hrd, hm3, hne0, show 0 < l0.length by omega, hj0, cutB, bnd, intOfA, hb1, hb2, et, ea, setB_old (hlt 3 (by omega)), setB_old (hlt 4 (by omega)), setB_old (hlt 5 (by omega)), setB_old (hlt 9 (by omega))]
            · rw [if_neg hj0] at q5
              subst q5
              simp -implicitDefEqProofs [nn_mov, nn_load, nn_slc, nn_un, hg8, hg9, hm, hidx, hrd, hm3, hne0, show 0 < l0.length by omega, hj0, cutB, bnd, intOfA, hb1, hb2, et, ea, setB_old (hlt 3 (by omega)), setB_old (hlt 4 (by omega)), setB_old (hlt 5 (by omega)), setB_old (hlt 9 (by omega))]
end Go.Proofs.Ytibnbcljmfigfaa
