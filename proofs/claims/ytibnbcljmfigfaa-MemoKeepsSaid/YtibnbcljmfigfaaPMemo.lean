/- Replies that are kept: whose, which, and how many; plain. -/
import Derived.Test.YtibnbcljmfigfaaPHist
import Derived.Test.YtibnbcljmfigfaaAMJ4
namespace Go.Proofs.Ytibnbcljmfigfaa
open Go Go.AM Go.Proofs
set_option maxRecDepth 20000
set_option linter.unusedSimpArgs false
set_option linter.unusedVariables false
set_option linter.defProp false
structure Memo where
  who : Int
  seq : Int
  rep : Reply
def Memo.c (x : Memo) : List GV := [.int .i64 x.who, .int .i64 x.seq, .int .i64 x.rep.code, .int .i64 x.rep.who, .int .i64 x.rep.seq, .int .i64 x.rep.rev, .int .i64 x.rep.lease, .int .i64 x.rep.ttl, .bool x.rep.yes, x.rep.kvs.g, x.rep.events.g]
def Memo.wf (x : Memo) : Prop := I64 x.who ∧ I64 x.seq ∧ x.rep.wf
structure Floor where
  who : Int
  seq : Int
  deriving DecidableEq
def Floor.c (x : Floor) : List GV := [.int .i64 x.who, .int .i64 x.seq]
def Floor.wf (x : Floor) : Prop := I64 x.who ∧ I64 x.seq
abbrev MemoL.g (s : Sl Memo) : GV := Sl.g 11 Memo.c s
abbrev Floors.g (s : Sl Floor) : GV := Sl.g 2 Floor.c s
structure Memos where
  l : Sl Memo
  old : Sl Floor
def Memos.c (x : Memos) : List GV := [MemoL.g x.l, Floors.g x.old]
def Memos.wf (x : Memos) : Prop := ((∀ y ∈ x.l.l, y.wf) ∧ x.l.l.length ≤ 9223372036854775807) ∧ ((∀ y ∈ x.old.l, y.wf) ∧ x.old.l.length ≤ 9223372036854775807)
def mkey (x : Memo) : Int × Int := (x.who, x.seq)
/-! ### Numbers in order -/
def SrtI (l : List Int) : Prop := l.Pairwise (fun a b => a ≤ b)
theorem sortL_perm (l : List Int) : (sortL l).Perm l := List.mergeSort_perm l _
theorem sortL_srt (l : List Int) : SrtI (sortL l) := by
  have := List.pairwise_mergeSort (le := fun x y : Int => decide (x ≤ y)) (fun a b c h1 h2 => by simp at h1 h2 ⊢; omega) (fun a b => by simp; omega) l
  exact this.imp (by simp)
theorem srt_uniq {a b : List Int} (ha : SrtI a) (hb : SrtI b) (hp : a.Perm b) : a = b := List.Perm.eq_of_pairwise (le := fun a b => a ≤ b) (fun a b _ _ h1 h2 => by omega) ha hb hp
def insL (n : Int) : List Int → List Int
  | [] => [n]
  | y :: l => if y < n then y :: insL n l else n :: y :: l
theorem insL_perm (n : Int) : ∀ l, (insL n l).Perm (n :: l)
  | [] => List.Perm.refl _
  | y :: l => by
    unfold insL
    split
    · exact ((insL_perm n l).cons y).trans (List.Perm.swap n y l)
    · exact List.Perm.refl _
theorem insL_srt (n : Int) : ∀ {l : List Int}, SrtI l → SrtI (insL n l)
  | [], _ => List.pairwise_singleton _ _
  | y :: l, h => by
    obtain ⟨h1, h2⟩ := List.pairwise_cons.1 h
    unfold insL
    split
    · refine List.pairwise_cons.2 ⟨fun z hz => ?_, insL_srt n h2⟩
      rcases List.mem_cons.1 ((insL_perm n l).mem_iff.1 hz) with rfl | hz
      · omega
      · exact h1 z hz
    · refine List.pairwise_cons.2 ⟨fun z hz => ?_, h⟩
      rcases List.mem_cons.1 hz with rfl | hz
      · omega
      · have := h1 z hz; omega
theorem sortL_snoc (l : List Int) (n : Int) : sortL (l ++ [n]) = insL n (sortL l) := by
  refine srt_uniq (sortL_srt _) (insL_srt n (sortL_srt l)) ?_
  exact (sortL_perm _).trans ((List.perm_append_singleton n l).trans (((sortL_perm l).cons n).symm.trans (insL_perm n _).symm))
/-- Into a list that rises, once. -/
def putO (n : Int) : List Int → List Int
  | [] => [n]
  | y :: l => if y < n then y :: putO n l else if y = n then y :: l else n :: y :: l
theorem putO_in (n : Int) : ∀ {l : List Int}, SrtI l → n ∈ l → putO n l = l
  | [], _, h => by simp at h
  | y :: l, hs, h => by
    obtain ⟨h1, h2⟩ := List.pairwise_cons.1 hs
    unfold putO
    split
    · rename_i hlt
      rcases List.mem_cons.1 h with rfl | h
      · omega
      · rw [putO_in n h2 h]
    · rename_i hge
      rcases List.mem_cons.1 h with rfl | h
      · rw [if_pos rfl]
      · have := h1 n h
        rw [if_pos (by omega)]
theorem putO_out (n : Int) : ∀ {l : List Int}, n ∉ l → putO n l = insL n l
  | [], _ => rfl
  | y :: l, h => by
    simp only [List.mem_cons, not_or] at h
    unfold putO insL
    rw [if_neg (show ¬ y = n from fun e => h.1 e.symm), putO_out n h.2]
/-- The things of a list, each once. -/
def onceF (ks : List Int) (k : Int) : List Int := if k ∈ ks then ks else ks ++ [k]
def onceL (l : List Int) : List Int := l.foldl onceF []
theorem onceF_mem {ks : List Int} {k x : Int} : x ∈ onceF ks k ↔ x ∈ ks ∨ x = k := by
  unfold onceF
  split
  · rename_i h
    exact ⟨.inl, fun h2 => h2.elim id fun e => e ▸ h⟩
  · simp
theorem onceF_nodup {ks : List Int} (h : ks.Nodup) (k : Int) : (onceF ks k).Nodup := by
  unfold onceF
  split
  · exact h
  · rename_i hk
    rw [List.nodup_append]
    refine ⟨h, by simp, fun a ha b hb => ?_⟩
    rw [List.mem_singleton.1 hb]
    exact fun e => hk (e ▸ ha)
theorem onceFold_mem : ∀ {l ks : List Int} {x : Int}, x ∈ l.foldl onceF ks ↔ x ∈ ks ∨ x ∈ l
  | [], ks, x => by simp
  | y :: l, ks, x => by
    rw [List.foldl_cons, onceFold_mem, onceF_mem]
    simp only [List.mem_cons]
    constructor
    · rintro ((h | h) | h)
      · exact .inl h
      · exact .inr (.inl h)
      · exact .inr (.inr h)
    · rintro (h | h | h)
      · exact .inl (.inl h)
      · exact .inl (.inr h)
      · exact .inr h
theorem onceFold_nodup : ∀ {l ks : List Int}, ks.Nodup → (l.foldl onceF ks).Nodup
  | [], _, h => h
  | y :: l, ks, h => by rw [List.foldl_cons]; exact onceFold_nodup (onceF_nodup h y)
theorem onceFold_len : ∀ (l ks : List Int), (l.foldl onceF ks).length ≤ ks.length + l.length
  | [], ks => by simp
  | y :: l, ks => by
    have := onceFold_len l (onceF ks y)
    have h2 : (onceF ks y).length ≤ ks.length + 1 := by unfold onceF; split <;> simp
    rw [List.foldl_cons, List.length_cons]; omega
theorem onceL_mem {l : List Int} {x : Int} : x ∈ onceL l ↔ x ∈ l := by unfold onceL; rw [onceFold_mem]; simp
theorem onceL_nodup (l : List Int) : (onceL l).Nodup := onceFold_nodup (by simp)
theorem putO_fold : ∀ (l ks : List Int), l.foldl (fun s n => putO n s) (sortL ks) = sortL (l.foldl onceF ks)
  | [], ks => rfl
  | y :: l, ks => by
    rw [List.foldl_cons, List.foldl_cons, ← putO_fold l (onceF ks y)]
    congr 1
    unfold onceF
    split
    · rename_i h; exact putO_in y (sortL_srt ks) ((sortL_perm ks).mem_iff.2 h)
    · rename_i h
      rw [sortL_snoc, putO_out]
      exact fun h2 => h ((sortL_perm ks).mem_iff.1 h2)
theorem insL_fold : ∀ (l ks : List Int), l.foldl (fun s n => insL n s) (sortL ks) = sortL (ks ++ l)
  | [], ks => by simp
  | y :: l, ks => by
    rw [List.foldl_cons, ← sortL_snoc, insL_fold l (ks ++ [y])]; simp
theorem sortL_nil : sortL [] = [] := by simp [sortL]
/-! ### Whose -/
def floorP : List Floor → Int → Int
  | [], _ => -1
  | f :: l, w => if f.who = w then f.seq else floorP l w
def hasP (l : List Floor) (w : Int) : Bool := l.any fun f => decide (f.who = w)
def seqL (l : List Memo) (w : Int) : List Int := (l.filter fun x => decide (x.who = w)).map Memo.seq
def seqsP (l : List Memo) (w : Int) : List Int := sortL (seqL l w)
def whoL (l : List Memo) (old : List Floor) : List Int := onceL (l.map Memo.who ++ old.map Floor.who)
def whosP (l : List Memo) (old : List Floor) : List Int := sortL (whoL l old)
theorem whosP_mem {l : List Memo} {old : List Floor} {w : Int} : w ∈ whosP l old ↔ (∃ x ∈ l, x.who = w) ∨ (∃ f ∈ old, f.who = w) := by
  unfold whosP whoL
  rw [(sortL_perm _).mem_iff, onceL_mem, List.mem_append, List.mem_map, List.mem_map]
theorem whosP_len (l : List Memo) (old : List Floor) : (whosP l old).length ≤ l.length + old.length := by
  unfold whosP whoL onceL
  rw [sortL_len]
  have := onceFold_len (l.map Memo.who ++ old.map Floor.who) []
  simp only [List.length_append, List.length_map, List.length_nil] at this
  omega
theorem whosP_nodup (l : List Memo) (old : List Floor) : (whosP l old).Nodup := (sortL_perm _).nodup_iff.2 (onceL_nodup _)
def rep0 : Reply := ⟨0, 0, 0, 0, 0, 0, false, .nil, .nil⟩
/-- What is looked for: the reply, whether it is there, and the error. -/
def lookF (l : List Memo) (w s : Int) : Option Memo := l.find? fun x => decide (x.who = w) && decide (x.seq = s)
def lookP (l : List Memo) (old : List Floor) (w s : Int) : Reply × Bool × Int :=
  match lookF l w s with
  | some x => (x.rep, true, 0)
  | none => if s ≤ floorP old w then (rep0, false, 7) else if 8 ≤ (whosP l old).length ∧ w ∉ whosP l old then (rep0, false, 4) else (rep0, false, 0)
end Go.Proofs.Ytibnbcljmfigfaa
