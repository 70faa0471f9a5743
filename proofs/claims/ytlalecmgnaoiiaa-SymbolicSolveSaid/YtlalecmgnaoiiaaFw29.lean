/-
  The framework, part 29 (after 24): regions whose order is drawn: effects, what they touch, what they look at.
-/
import Derived.Test.YtlalecmgnaoiiaaFw24
namespace Go.Fw

/-- The same to all that looks. -/
structure SEq (s t : St) : Prop where
  g : ∀ k, gt s.g k = gt t.g k
  h : ∀ id, lk s.h id = lk t.h id

theorem SEq.refl (s : St) : SEq s s := ⟨fun _ => rfl, fun _ => rfl⟩
theorem SEq.symm {s t : St} (h : SEq s t) : SEq t s := ⟨fun k => (h.g k).symm, fun k => (h.h k).symm⟩
theorem SEq.trans {s t u : St} (h : SEq s t) (k : SEq t u) : SEq s u := ⟨fun i => (h.g i).trans (k.g i), fun i => (h.h i).trans (k.h i)⟩

theorem Eff.app_gt (e : Eff) (s : St) (k : Nat) : gt (e.app s).g k = match e.d with
    | some (d, av) => if d = k then av else kill1 e.S e.keep (gt s.g k)
    | none => kill1 e.S e.keep (gt s.g k) := by
  obtain ⟨d, S, keep, put⟩ := e
  cases d with
  | none =>
    show gt (killE S keep s.g) k = _
    rw [killE_eq, gt_kill]
  | some q =>
    obtain ⟨d, av⟩ := q
    show gt ((d, av) :: killE S keep s.g) k = _
    rw [gt_cons, killE_eq, gt_kill]

theorem Eff.app_lk (e : Eff) (s : St) (id : Nat) : lk (e.app s).h id = (lk e.put id).or (if id ∈ e.S then none else lk s.h id) := by
  show lk (e.put ++ delE e.S s.h) id = _
  rw [delE_eq, lk_append, lk_del]

theorem SEq.app {s t : St} (h : SEq s t) (e : Eff) : SEq (e.app s) (e.app t) :=
  ⟨fun k => by rw [Eff.app_gt, Eff.app_gt, h.g], fun k => by rw [Eff.app_lk, Eff.app_lk, h.h]⟩

theorem Rel.seq {C : Ctx} {s t : St} {tm : Array Value} {w : World} (h : SEq s t) (hr : Rel C s tm w) : Rel C t tm w := hr.less (fun k => .inr (h.g k).symm) (fun id => (h.h id).symm)

def dstOk : Option (Nat × AV) → Option Nat → Bool
  | some q, some d => Nat.beq q.1 d
  | none, none => true
  | _, _ => false

def notDead : AV → Bool
  | .dead => false
  | _ => true

def subB (l r : List Nat) : Bool := l.all fun i => memN i r
theorem subB.ok {l r : List Nat} (h : subB l r = true) : ∀ i ∈ l, i ∈ r := fun i hi => memN_iff.1 (List.all_eq_true.1 h i hi)

/-- What an operation looks at lies in ft, what it touches in mo. -/
def footOk (ft mo : List Nat) (g : Operand → AV) (o : Oper) (e : Eff) : Bool :=
  dstOk e.d o.dst && (o.op.operands.toList.all fun x => notDead (g x) && subB (g x).ids ft) && subB e.S mo && (e.put.all fun q => memN q.1 mo) && (match e.d with | some q => subB q.2.ids ft | none => true)

theorem cond_bind {α β : Type} (b : Bool) (x : Option α) (K : α → Option β) : (bif b then x else none).bind K = bif b then x.bind K else none := by cases b <;> rfl

theorem stoE_bind {β : Type} (tt : List (TypeId × Ty)) (h : List (Nat × Tree)) (T : TypeId) (x v : AV) (K : Eff → Option β) : stoE tt h T x v K = (stoE tt h T x v some).bind K := by
  unfold stoE
  split
  · rfl
  split
  case h_2 => rfl
  split
  · rfl
  rw [cond_bind]
  congr 1
  split
  · split
    case h_2 => rfl
    cases Nat.beq _ _
    · simp only [cond_false, Option.bind_assoc, Option.bind_some]
    · rfl
  · split
    case h_2 => rfl
    rw [cond_bind]
    simp only [Option.bind_assoc, Option.bind_some]
  · split
    · simp only [Option.bind_assoc, Option.bind_some]
    · rfl

theorem appE_bind {β : Type} (tt : List (TypeId × Ty)) (an : List (Nat × Ty)) (h : List (Nat × Tree)) (d : Nat) (T : TypeId) (x y : AV) (K : Eff → Option β) : appE tt an h d T x y K = (appE tt an h d T x y some).bind K := by
  unfold appE
  split
  · rfl
  split
  · split
    case h_2 => rfl
    rw [cond_bind]
    congr 1
    split
    · simp only [Option.bind_assoc, Option.bind_some]
    · split
      case h_2 => rfl
      split
      case h_2 => rfl
      split
      case h_2 => rfl
      cases Nat.beq _ _
      · simp only [cond_false, Option.bind_assoc, Option.bind_some]
      · rfl
  · split
    case h_2 => rfl
    split
    case h_2 => rfl
    rw [cond_bind]
    simp only [Option.bind_assoc, Option.bind_some]
  · split
    case h_2 => rfl
    rw [cond_bind]
    simp only [Option.bind_assoc, Option.bind_some]
  · rfl

theorem bldE_bind {β : Type} (tt : List (TypeId × Ty)) (h : List (Nat × Tree)) (g : Operand → AV) (d : Nat) (T : TypeId) (parts : List (Nat × Operand)) (K : Eff → Option β) : bldE tt h g d T parts K = (bldE tt h g d T parts some).bind K := by
  unfold bldE
  split
  · rfl
  rw [cond_bind]
  congr 1
  split
  · rfl
  split
  · rw [cond_bind]; rfl
  · rfl

theorem boxE_bind {β : Type} (tt : List (TypeId × Ty)) (an : List (Nat × Ty)) (h : List (Nat × Tree)) (d : Nat) (T : TypeId) (x : AV) (K : Eff → Option β) : boxE tt an h d T x K = (boxE tt an h d T x some).bind K := by
  unfold boxE
  split
  · split
    · rw [cond_bind]
      congr 1
      split <;> rfl
    · split
      · rw [cond_bind]; rfl
      · rfl
    · rfl
  · rfl

theorem bslE_bind {β : Type} (tt : List (TypeId × Ty)) (an : List (Nat × Ty)) (h : List (Nat × Tree)) (g : Operand → AV) (d : Nat) (T : TypeId) (n : Nat) (parts : List (Nat × Operand)) (K : Eff → Option β) : bslE tt an h g d T n parts K = (bslE tt an h g d T n parts some).bind K := by
  unfold bslE
  split
  · simp only
    rw [cond_bind]
    congr 1
    split
    · rfl
    · split
      · rw [cond_bind]; rfl
      · rfl
  · rfl

theorem e1q_bind {ic : IC} {β : Type} (g : Operand → AV) (h : List (Nat × Tree)) (o : Oper) (K : Eff → Option β) : e1 ic g h o K = (e1 ic g h o some).bind K := by
  unfold e1
  split
  · split
    · exact stoE_bind _ _ _ _ _ K
    · rfl
  rw [cond_bind]
  congr 1
  split
  · split
    case h_2 => rfl
    split
    · split <;> rfl
    · split <;> rfl
  · split
    · rfl
    rw [cond_bind]
    congr 1
    split
    · rfl
    simp only [Option.bind_assoc, cond_bind, Option.bind_some]
  · split
    case h_2 => rfl
    rw [cond_bind]
    congr 1
    exact appE_bind _ _ _ _ _ _ _ K
  · split
    · rfl
    · split
      · rfl
      · split
        · simp only [Option.bind_assoc, Option.bind_some]
        · simp only [Option.bind_assoc, Option.bind_some]
    · simp only [Option.bind_assoc, Option.bind_some]
  · exact bldE_bind _ _ _ _ _ _ K
  · exact boxE_bind _ _ _ _ _ _ K
  · exact bslE_bind _ _ _ _ _ _ _ _ K
  · split
    · rfl
    · simp only [Option.bind_assoc, Option.bind_some]
    · rw [cond_bind]; simp only [Option.bind_assoc, Option.bind_some]
    · split
      · rfl
      · simp only [Option.bind_assoc, Option.bind_some]
      · rfl

theorem eF_bind {ic : IC} {β : Type} (g : Operand → AV) (h : List (Nat × Tree)) (o : Oper) (K : Eff → Option β) : eF ic g h o K = (eF ic g h o some).bind K := by
  unfold eF
  split
  · exact e1q_bind g h o K
  · rw [cond_bind]
    congr 1
    refine (e1q_bind _ _ _ _).trans (Eq.trans ?_ (congrArg (fun z => Option.bind z K) (e1q_bind _ _ _ _)).symm)
    simp only [Option.bind_assoc, cond_bind, Option.bind_some]
end Go.Fw
