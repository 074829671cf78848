/- The operations that leave memory as it is, all of them: the theorem. -/
import Derived.Test.YtahjgmldkbbpaaaAMPure7
set_option linter.unusedSimpArgs false
set_option linter.unusedVariables false
namespace Go.AM
open Go

section
variable {P : Program} {h : List Blk} {s : St} {a : Act} {w : World} {L : Nat → Lc} {v : AV} {rs : List Nat} {drw : Option Nat}

theorem evP_field (ht : TR (envOf w (full h s) L) a s.t) {o : Oper} {t : TypeId} {f n : Nat} {fl : Field} {b : Bool} {x : Operand} {X : Opd} (ho : o.op = .field t x f) (hf : fieldT P t f = some fl) (ha : aggT P fl.type = some b) (hs : szT P fl.type = some n) (hx : cOpd x = some X)
    (he : evP h s (.field b fl.offset n X) = some (v, rs)) : Yl P (envOf w (full h s) L) o a v rs := by
  simp only [evP] at he
  split at he
  · rename_i cs hX
    obtain ⟨hsub, rfl⟩ := one_map he
    obtain ⟨xs, e, hc, h1⟩ := (cOpd_ok ht hx hX).crel
    have hlen : ((cs.drop fl.offset).take n).length = n := by
      unfold sub at hsub; split at hsub
      · assumption
      · cases hsub
    have hle : fl.offset + n ≤ cs.length ∨ n = 0 := by simp at hlen; omega
    by_cases hn0 : n = 0
    · subst hn0
      have hb : b = true := (agg_pos (E := envOf w (full h s) L) hsub).resolve_right (by omega)
      subst hb
      have hv : v = .agg [] := by simp [sub, one] at hsub; exact hsub.symm
      subst hv
      refine ⟨.agg (xs.extract fl.offset (fl.offset + 0)), .agg (by first | (simp; done) | (simp; omega)) (fun j a' v' hj => by simp at hj) (fun j v' hj => ?_), fun w' hw => ?_⟩
      · rw [Array.getElem?_extract] at hj; split at hj
        · omega
        · cases hj
      · simp only [execOp, ho, e]; rw [Sem.run_bind, run_field hf, run_part ha hs]; rfl
    · have hcr := hc.extract fl.offset n (hle.resolve_right hn0)
      obtain ⟨hsz, hv⟩ := sub_ok hsub hcr (fun j u hj => by
        rw [Array.getElem?_extract] at hj
        split at hj
        · exact h1 _ _ hj
        · cases hj)
      refine ⟨_, hv, fun w' hw => ?_⟩
      simp only [execOp, ho, e]
      rw [Sem.run_bind]
      rw [run_field hf, read_run ha hs xs fl.offset w' hsz (agg_pos (E := envOf w (full h s) L) hsub)]
      rfl
  · cases he

theorem evP_indexA (ht : TR (envOf w (full h s) L) a s.t) {o : Oper} {t e : TypeId} {sz len : Nat} {b : Bool} {x i : Operand} {X I : Opd} (ho : o.op = .index t x i) (hu : P.underlying t = some (.array len e)) (ha : aggT P e = some b) (hs : szT P e = some sz) (hx : cOpd x = some X) (hi : cOpd i = some I)
    (he : evP h s (.indexA b len sz X I) = some (v, rs)) : Yl P (envOf w (full h s) L) o a v rs := by
  simp only [evP] at he
  split at he
  · rename_i cs k n hX hI
    have hn := (cOpd_ok ht hi hI).inv_g.inv_int
    split at he
    · rename_i hcond
      obtain ⟨h0, h1'⟩ := hcond
      obtain ⟨hsub, rfl⟩ := one_map he
      obtain ⟨xs, e', hc, h1⟩ := (cOpd_ok ht hx hX).crel
      have hlen : ((cs.drop (n.toNat * sz)).take sz).length = sz := by
        unfold sub at hsub; split at hsub
        · assumption
        · cases hsub
      have hpos := agg_pos (E := envOf w (full h s) L) hsub
      have hle : n.toNat * sz + sz ≤ cs.length ∨ sz = 0 := by simp at hlen; omega
      have hrun : ∀ w', (Instr.index t (.agg xs) (.int k n)).run P w' = (part e xs (n.toNat * sz)).run P w' := by
        intro w'
        unfold Instr.index
        simp only [asIntOf, pure_bind, Sem.run_bind, run_underlying hu, Result.andThen_ok]
        rw [if_pos ⟨h0, h1'⟩]
        simp [run_sizeOf hs]
      by_cases hn0 : sz = 0
      · subst hn0
        have hb : b = true := hpos.resolve_right (by omega)
        subst hb
        have hv : v = .agg [] := by simp [sub, one] at hsub; exact hsub.symm
        subst hv
        refine ⟨.agg (xs.extract (n.toNat * 0) (n.toNat * 0 + 0)), .agg (by first | (simp; done) | (simp; omega)) (fun j a' v' hj => by simp at hj) (fun j v' hj => ?_), fun w' hw => ?_⟩
        · rw [Array.getElem?_extract] at hj; split at hj
          · omega
          · cases hj
        · simp only [execOp, ho, e', hn]; rw [Sem.run_bind, hrun, run_part ha hs]; rfl
      · have hcr := hc.extract (n.toNat * sz) sz (hle.resolve_right hn0)
        obtain ⟨hsz, hv⟩ := sub_ok hsub hcr (fun j u hj => by
          rw [Array.getElem?_extract] at hj
          split at hj
          · exact h1 _ _ hj
          · cases hj)
        refine ⟨_, hv, fun w' hw => ?_⟩
        simp only [execOp, ho, e', hn]
        rw [Sem.run_bind, hrun, read_run ha hs xs _ w' hsz hpos]
        rfl
    · cases he
  · cases he

theorem evP_index (ht : TR (envOf w (full h s) L) a s.t) {o : Oper} {t : TypeId} {x i : Operand} {X I : Opd} (ho : o.op = .index t x i) (hu : P.underlying t = some .string) (hx : cOpd x = some X) (hi : cOpd i = some I)
    (he : evP h s (.index X I) = some (v, rs)) : Yl P (envOf w (full h s) L) o a v rs := by
  simp only [evP] at he
  split at he
  · rename_i b k n hX hI
    have hn := (cOpd_ok ht hi hI).inv_g.inv_int
    have hq := (cOpd_ok ht hx hX).inv_g.inv_str
    split at he
    · rename_i h0
      cases hc : b[n.toNat]? with
      | none => simp [hc] at he
      | some c =>
        simp [hc] at he
        obtain ⟨rfl, rfl⟩ := he
        refine ⟨_, .g (.int _ _), fun w' hw => ?_⟩
        have hlt : n.toNat < b.length := (List.getElem?_eq_some_iff.1 hc).1
        have hget : (ByteArray.mk b.toArray)[n.toNat]? = some c := by
          rw [ByteArray.getElem?_lt' _ _ (show n.toNat < b.toArray.size by simpa using hlt)]
          have := (List.getElem?_eq_some_iff.1 hc).2
          congr 1
        simp only [execOp, ho, hn, hq]
        rw [Sem.run_bind]
        unfold Instr.index
        simp only [asIntOf, pure_bind, Sem.run_bind, run_underlying hu, Result.andThen_ok, h0, if_true, hget, Sem.run_pure]
    · cases he
  · cases he

theorem evP_build (ht : TR (envOf w (full h s) L) a s.t) {o : Oper} {t : TypeId} {ps : Array (Nat × Operand)} {z : List AV} {pl : Nat → Option (Nat × Nat)} {l : List (Nat × Nat × Opd)} (ho : o.op = .build t ps) (hz : cZero P t = some z) (hp : places P t = some pl) (hl : cParts pl ps.toList = some l)
    (he : evP h s (.build z l) = some (v, rs)) : Yl P (envOf w (full h s) L) o a v rs := by
  simp only [evP] at he
  cases hf : fills s z l with
  | none => simp [hf] at he
  | some cs' =>
    simp [hf] at he
    obtain ⟨rfl, rfl⟩ := he
    obtain ⟨it, zv, hi, hzz, hcr, h1⟩ := cZero_ok (E := envOf w (full h s) L) hz
    obtain ⟨C', hfill, hcr', h1'⟩ := fills_ok ht pl ps.toList l z cs' zv.cells hl hf hcr h1
    refine ⟨.agg C', .agg hcr'.1 hcr'.2 h1', fun w' hw => ?_⟩
    simp only [execOp, ho]
    rw [Sem.run_bind]
    have hb : P.built t ((ps.map fun (i, x) => (i, a.eval x)).toList) = some C' := by
      unfold Program.built
      unfold places at hp
      cases hu : P.underlying t with
      | none => simp [hu] at hp
      | some u =>
        cases u <;> simp [hu] at hp
        case struct fs =>
          cases hm : fs.toList.mapM (fun f => (szT P f.type).map fun n => (f.offset, n)) with
          | none => simp [hm] at hp
          | some pls =>
            simp [hm] at hp
            have hm' : fs.toList.mapM (fun f => (P.info? f.type).map fun i => (f.offset, i.size)) = some pls := by
              rw [← hm]; congr 1; funext f; simp [szT, Function.comp_def]
            simp only [hi, hzz, hm']
            subst hp
            simpa using hfill
        case array n e =>
          obtain ⟨sz, hsz, rfl⟩ := hp
          have : ∃ ie, P.info? e = some ie ∧ ie.size = sz := by
            unfold szT at hsz
            cases hie : P.info? e with
            | none => simp [hie] at hsz
            | some ie => simp [hie] at hsz; exact ⟨ie, rfl, hsz⟩
          obtain ⟨ie, hie, rfl⟩ := this
          simp only [hi, hzz, hie]
          simpa using hfill
    rw [run_build w' t _ C' hb]
    rfl

theorem evP_slc (hr : HR w (full h s) L) (ht : TR (envOf w (full h s) L) a s.t) {o : Oper} {t e : TypeId} {x : Operand} {lo hi : Option Operand} {X : Opd} {Lo Hi : Option Opd} {k : Nat} (ho : o.op = .slice t x lo hi none) (hu : P.underlying t = some (.slice e)) (hs : szT P e = some k) (hx : cOpd x = some X) (hlo : cOpt lo = some Lo) (hhi : cOpt hi = some Hi)
    (he : evP h s (.slc k X Lo Hi) = some (v, rs)) : Yl P (envOf w (full h s) L) o a v rs := by
  have fin : (∃ cv, AR (envOf w (full h s) L) v cv ∧ ∀ w', (Instr.slice t (a.eval x) (lo.map a.eval) (hi.map a.eval) none).run P w' = .ok cv w') → Yl P (envOf w (full h s) L) o a v rs := by
    rintro ⟨cv, h1, h2⟩
    refine ⟨cv, h1, fun w' hw => ?_⟩
    simp only [execOp, ho]
    rw [Sem.run_bind]
    unfold Instr.sliceAt
    rw [Sem.run_bind, run_underlying hu]
    simp only [Result.andThen_ok, Option.map_none, h2]
    rfl
  apply fin
  have hrun : ∀ (A : Option Addr) (len cap l u : Nat) (w' : World), len ≤ cap → cutB s len Lo Hi = some (l, u) →
      (Instr.slice t (.slice A len cap) (lo.map a.eval) (hi.map a.eval) none).run P w' = .ok (.slice (if cap = l then A else A.map (·.add (l * k))) (u - l) (cap - l)) w' := by
    intro A len cap l u w' hle hcut
    unfold Instr.slice
    simp only [Sem.run_bind, run_underlying hu, Result.andThen_ok, run_sliceBounds ht hlo hhi hle hcut, run_sizeOf hs, Sem.run_pure]
  simp only [evP] at he
  split at he
  · rename_i sz els hX
    have hq := (cOpd_ok ht hx hX).inv_g
    split at he
    · rename_i hk
      subst hk
      cases hcut : cutB s els.length Lo Hi with
      | none => simp [hcut] at he
      | some lu =>
        obtain ⟨l, u⟩ := lu
        simp [hcut] at he
        obtain ⟨rfl, rfl⟩ := he
        obtain ⟨h1, h2, _⟩ := cutB_ok hcut
        obtain ⟨A, n, cap, e1, e2, e3, e4⟩ := hq.cut l u h1 h2
        subst e2
        rw [e1]
        exact ⟨_, .g e4, fun w' => hrun A _ cap l u w' e3 hcut⟩
    · cases he
  · rename_i hX
    have hq := (cOpd_ok ht hx hX).inv_g
    cases hcut : cutB s 0 Lo Hi with
    | none => simp [hcut] at he
    | some lu =>
      obtain ⟨l, u⟩ := lu
      simp [hcut] at he
      obtain ⟨rfl, rfl⟩ := he
      obtain ⟨h1, h2, _⟩ := cutB_ok hcut
      have hl : l = 0 := by omega
      have hu' : u = 0 := by omega
      subst hl hu'
      generalize a.eval x = cx at *
      cases hq
      exact ⟨_, .g .nsl, fun w' => by rw [hrun none 0 0 0 0 w' (Nat.le_refl _) hcut]; rfl⟩
  · rename_i id g sz off len hX
    have hq := cOpd_ok ht hx hX
    split at he
    · rename_i hk
      subst hk
      cases hcut : cutB s len Lo Hi with
      | none => simp [hcut] at he
      | some lu =>
        obtain ⟨l, u⟩ := lu
        simp [hcut] at he
        obtain ⟨hcur, rfl, rfl⟩ := he
        obtain ⟨h1, h2, _⟩ := cutB_ok hcut
        obtain ⟨hid, hg0, hgen, hm⟩ := ms_ok hr hcur hq
        obtain ⟨A, cap, e1, e2, e3⟩ := hm.cut l u h1 h2
        rw [e1]
        exact ⟨_, .ms hid hg0 (by rw [hgen]; exact Nat.le_refl _) rfl (fun _ => e3), fun w' => hrun A len cap l u w' e2 hcut⟩
    · cases he
  · cases he

theorem evP_slcS (ht : TR (envOf w (full h s) L) a s.t) {o : Oper} {t : TypeId} {x : Operand} {lo hi : Option Operand} {X : Opd} {Lo Hi : Option Opd} (ho : o.op = .slice t x lo hi none) (hu : P.underlying t = some .string) (hx : cOpd x = some X) (hlo : cOpt lo = some Lo) (hhi : cOpt hi = some Hi)
    (he : evP h s (.slcS X Lo Hi) = some (v, rs)) : Yl P (envOf w (full h s) L) o a v rs := by
  simp only [evP] at he
  split at he
  · rename_i b hX
    have hq := (cOpd_ok ht hx hX).inv_g.inv_str
    cases hcut : cutB s b.length Lo Hi with
    | none => simp [hcut] at he
    | some lu =>
      obtain ⟨l, u⟩ := lu
      simp [hcut] at he
      obtain ⟨rfl, rfl⟩ := he
      refine ⟨_, .g (.str _), fun w' hw => ?_⟩
      simp only [execOp, ho, hq]
      rw [Sem.run_bind]
      unfold Instr.sliceAt
      rw [Sem.run_bind, run_underlying hu]
      simp only [Result.andThen_ok, Option.map_none]
      unfold Instr.slice
      have hsb := run_sliceBounds (P := P) ht (isS := false) (cap := b.length) hlo hhi (Nat.le_refl _) hcut w'
      simp only [Sem.run_bind, run_underlying hu, Result.andThen_ok, Option.isSome_none, Bool.false_eq_true, if_false, pure_bind, ByteArray.size_mk', List.size_toArray, hsb, Sem.run_pure, toList_take_drop]
  · cases he

end
end Go.AM
