/-
  The framework, part 31 (after 29, before 30): an operation depends on its operands alone; those that compute do not depend on memory.
-/
import Derived.Test.YtlalecmgnaoiiaaFw29
namespace Go.Fw

theorem mkSt_congr {g g' : Operand → AV} {parts : List (Nat × Operand)} (hg : ∀ q ∈ parts, g q.2 = g' q.2) : ∀ (t : Ty) (n : Nat), mkSt g parts t n = mkSt g' parts t n
  | .pr a b, n => by
      simp only [mkSt, mkSt_congr hg b (n + 1)]
      cases hp : pk parts n with
      | none => rfl
      | some x =>
        have : g x = g' x := hg (n, x) (lk_mem' hp)
        simp only [this]
  | .nil, _ => rfl
  | .int _, _ => rfl
  | .bool, _ => rfl
  | .str, _ => rfl
  | .slc _ _, _ => rfl
  | .ptr _ _, _ => rfl
  | .osl _, _ => rfl
  | .optr _, _ => rfl
  | .st _, _ => rfl
  | .blk, _ => rfl

theorem mkO_congr {h : List (Nat × Tree)} {g g' : Operand → AV} {parts : List (Nat × Operand)} (hg : ∀ q ∈ parts, g q.2 = g' q.2) : ∀ (t : Ty) (n : Nat), mkO h g parts t n = mkO h g' parts t n
  | .pr a b, n => by
      simp only [mkO, mkO_congr hg b (n + 1)]
      cases hp : pk parts n with
      | none => rfl
      | some x =>
        have : g x = g' x := hg (n, x) (lk_mem' hp)
        simp only [this]
  | .nil, _ => rfl
  | .int _, _ => rfl
  | .bool, _ => rfl
  | .str, _ => rfl
  | .slc _ _, _ => rfl
  | .ptr _ _, _ => rfl
  | .osl _, _ => rfl
  | .optr _, _ => rfl
  | .st _, _ => rfl
  | .blk, _ => rfl

section
variable {tt : List (TypeId × Ty)} {an : List (Nat × Ty)} {h h' : List (Nat × Tree)} {d : Nat} {g g' : Operand → AV}

theorem optMap_congr {x : Option Operand} (hg : ∀ y ∈ x.toArray, g y = g' y) : x.map g = x.map g' := by
  cases x with
  | none => rfl
  | some y => simp only [Option.map_some, Option.some.injEq]; exact hg y (by simp)

theorem evalF_congr {op : Op} (hg : ∀ x ∈ op.operands, g x = g' x) : evalF tt an h g d op = evalF tt an h g' d op := by
  cases op
  case build T ps =>
    have : ∀ q ∈ ps.toList, g q.2 = g' q.2 := fun q hq => hg q.2 (by simp only [Op.operands, List.mem_toArray, List.mem_map]; exact ⟨q, hq, rfl⟩)
    simp only [evalF, bldF, mkSt_congr this]
  case buildSlice T n ps =>
    have : ∀ q ∈ ps.toList, g q.2 = g' q.2 := fun q hq => hg q.2 (by simp only [Op.operands, List.mem_toArray, List.mem_map]; exact ⟨q, hq, rfl⟩)
    simp only [evalF, bslF, List.map_congr_left this]
  case slice T x lo hi mx =>
    simp only [Op.operands] at hg
    have h1 : g x = g' x := hg x (by simp)
    have h2 : lo.map g = lo.map g' := optMap_congr (fun y hy => hg y (by simp at hy ⊢; simp [hy]))
    have h3 : hi.map g = hi.map g' := optMap_congr (fun y hy => hg y (by simp at hy ⊢; simp [hy]))
    cases mx
    · simp only [evalF, h1, h2, h3]
    · rfl
  case call c =>
    obtain ⟨callee, args, ts⟩ := c
    have hl : ∀ x ∈ args.toList, g x = g' x := fun x hx => hg x (by simp only [Op.operands, Call.operands]; exact Array.mem_append_right _ (by simpa using hx))
    clear hg
    simp only [evalF]
    split
    · rename_i x T e1 _; rw [e1] at hl; rw [hl x (by simp)]
    · rename_i x r e1; rw [e1] at hl; rw [hl x (by simp), List.map_congr_left (fun y hy => hl y (by simp [hy]))]
    · rename_i x r e1; rw [e1] at hl; rw [hl x (by simp), List.map_congr_left (fun y hy => hl y (by simp [hy]))]
    · rfl
  all_goals (simp only [Op.operands] at hg; simp only [evalF])
  all_goals (first | rfl | (simp_all; done))

theorem evalN_congr {op : Op} (hg : ∀ x ∈ op.operands, g x = g' x) : evalN tt an h g d op = evalN tt an h g' d op := by
  cases op
  case slice T x lo hi mx =>
    simp only [Op.operands] at hg
    have h1 : g x = g' x := hg x (by simp)
    have h2 : lo.map g = lo.map g' := optMap_congr (fun y hy => hg y (by simp at hy ⊢; simp [hy]))
    have h3 : hi.map g = hi.map g' := optMap_congr (fun y hy => hg y (by simp at hy ⊢; simp [hy]))
    cases mx
    · simp only [evalN, h1, h2, h3]
    · rfl
  case call c =>
    obtain ⟨callee, args, ts⟩ := c
    have hl : ∀ x ∈ args.toList, g x = g' x := fun x hx => hg x (by simp only [Op.operands, Call.operands]; exact Array.mem_append_right _ (by simpa using hx))
    clear hg
    simp only [evalN]
    split
    · rename_i x T e1 _; rw [e1] at hl; rw [hl x (by simp)]
    · rfl
  case unOp o T x =>
    have h1 : g x = g' x := hg x (by simp [Op.operands])
    cases o <;> simp only [evalN, h1]
  all_goals (simp only [Op.operands] at hg; simp only [evalN])
  all_goals (first | rfl | (simp_all; done))

theorem e1q_congr {ic : IC} {β : Type} {o : Oper} {K : Eff → Option β} (hg : ∀ x ∈ o.op.operands, g x = g' x) : e1 ic g h o K = e1 ic g' h o K := by
  have hN := fun (d : Nat) => evalN_congr (tt := ic.tt) (an := ic.an) (h := h) (d := d) hg
  have hF := fun (d : Nat) => evalF_congr (tt := ic.tt) (an := ic.an) (h := h) (d := d) hg
  unfold e1
  cases hd : o.dst with
  | none =>
    simp only
    split
    · rename_i T x v hop
      rw [hop] at hg
      rw [hg x (by simp [Op.operands]), hg v (by simp [Op.operands])]
    · rfl
  | some d =>
    simp only
    congr 1
    split
    · rename_i c x y hop
      rw [hop] at hg
      rw [hg c (by simp [Op.operands]), hg x (by simp [Op.operands]), hg y (by simp [Op.operands])]
    · rename_i f xs _ hop
      rw [hop] at hg
      have : xs.toList.map g = xs.toList.map g' := List.map_congr_left fun x hx => hg x (by simp only [Op.operands, Call.operands]; exact Array.mem_append_right _ (by simpa using hx))
      rw [this]
    · rename_i xs ts hop
      rw [hop] at hg
      split
      · rename_i x y T T' e1 _
        have hx : ∀ z ∈ xs.toList, g z = g' z := fun z hz => hg z (by simp only [Op.operands, Call.operands]; exact Array.mem_append_right _ (by simpa using hz))
        rw [e1] at hx
        rw [hx x (by simp), hx y (by simp)]
      · rfl
    · rename_i x hop
      rw [hop] at hg
      rw [hg x (by simp [Op.operands])]
    · rename_i T ps hop
      rw [hop] at hg
      have hp : ∀ q ∈ ps.toList, g q.2 = g' q.2 := fun q hq => hg q.2 (by simp only [Op.operands, List.mem_toArray, List.mem_map]; exact ⟨q, hq, rfl⟩)
      simp only [bldE, mkSt_congr hp, mkO_congr hp]
    · rename_i T x hop
      rw [hop] at hg
      rw [hg x (by simp [Op.operands])]
    · rename_i T n ps hop
      rw [hop] at hg
      have hp : ∀ q ∈ ps.toList, g q.2 = g' q.2 := fun q hq => hg q.2 (by simp only [Op.operands, List.mem_toArray, List.mem_map]; exact ⟨q, hq, rfl⟩)
      simp only [bslE, List.map_congr_left hp]
    · rw [hN, hF]


/-- What is known at the numbers that are named. -/
def LkOn (h h' : List (Nat × Tree)) (a : AV) : Prop := ∀ id ∈ a.ids, lk h id = lk h' id

theorem placeOf_loc {x : AV} (hx : LkOn h h' x) : placeOf h x = placeOf h' x := by
  cases x with
  | ref id p => simp only [placeOf, hx id (by simp [AV.ids])]
  | _ => rfl
theorem placeOf_ids {x : AV} {id : Nat} {p : List Step} (hp : placeOf h x = some (id, p)) : id ∈ x.ids := by
  unfold placeOf at hp
  split at hp
  · cases hp; simp [AV.ids]
  · split at hp
    · split at hp
      · cases hp; simp [AV.ids]
      · cases hp
    · cases hp
  · cases hp

theorem stoE_loc {T : TypeId} {x v : AV} {β : Type} {K : Eff → Option β} (hx : LkOn h h' x) (hv : LkOn h h' v) : stoE tt h T x v K = stoE tt h' T x v K := by
  unfold stoE
  rw [← placeOf_loc hx]
  split
  · rfl
  · rename_i id p hp
    rw [hx id (placeOf_ids hp)]
    cases v with
    | ref id2 p2 => simp only [hv id2 (by simp [AV.ids])]
    | _ => rfl

theorem ysN_loc {σ : Ty} {y : AV} (hy : LkOn h h' y) : ysN h σ y = ysN h' σ y := by
  cases y with
  | ref id p => simp only [ysN, hy id (by simp [AV.ids])]
  | view id p lo hi => simp only [ysN, hy id (by simp [AV.ids])]
  | val τ z => cases τ <;> rfl
  | cv v => unfold ysN; split <;> first | rfl | (split <;> first | rfl | simp_all)
  | _ => rfl

theorem appE_loc {T : TypeId} {x y : AV} {β : Type} {K : Eff → Option β} (hx : LkOn h h' x) (hy : LkOn h h' y) (hd : lk h d = lk h' d) : appE tt an h d T x y K = appE tt an h' d T x y K := by
  unfold appE
  split
  · rfl
  · have hys : ∀ σ : Ty, ysN h σ y = ysN h' σ y := fun σ => ysN_loc hy
    cases x with
    | ref id p =>
      cases p with
      | nil =>
        simp only [hx id (by simp [AV.ids]), hys]
        cases y with
        | ref id2 p2 =>
          cases p2 with
          | nil => simp only [hy id2 (by simp [AV.ids])]
          | cons s p2 => rfl
        | _ => rfl
      | cons s p => simp only [hx id (by simp [AV.ids]), hys, hd]
    | cv v => simp only [hys]; split <;> first | rfl | (split <;> first | rfl | simp_all)
    | _ => rfl

theorem asgE_loc {v : AV} (hv : LkOn h h' v) : asgE an h d v = asgE an h' d v := by
  cases v with
  | ref id p =>
    cases p with
    | nil => simp only [asgE, hv id (by simp [AV.ids])]
    | cons s p => rfl
  | view id p lo hi =>
    cases p with
    | nil => simp only [asgE, hv id (by simp [AV.ids])]
    | cons s p => rfl
  | cv v => unfold asgE; split <;> first | rfl | (split <;> first | rfl | simp_all)
  | _ => rfl

theorem partO_loc {a : Ty} {v : AV} (hv : LkOn h h' v) : partO h a v = partO h' a v := by
  cases v with
  | ref id p =>
    cases p with
    | nil => simp only [partO, hv id (by simp [AV.ids])]
    | cons s p => rfl
  | _ => rfl

theorem mkO_loc {parts : List (Nat × Operand)} (hg : ∀ q ∈ parts, LkOn h h' (g q.2)) : ∀ (t : Ty) (n : Nat), mkO h g parts t n = mkO h' g parts t n
  | .pr a b, n => by
      simp only [mkO, mkO_loc hg b (n + 1)]
      cases hp : pk parts n with
      | none => rfl
      | some x => simp only [partO_loc (hg (n, x) (lk_mem' hp))]
  | .nil, _ => rfl
  | .int _, _ => rfl
  | .bool, _ => rfl
  | .str, _ => rfl
  | .slc _ _, _ => rfl
  | .ptr _ _, _ => rfl
  | .osl _, _ => rfl
  | .optr _, _ => rfl
  | .st _, _ => rfl
  | .blk, _ => rfl

theorem coeO_loc {t : Ty} {v : AV} (hv : LkOn h h' v) : coeO h t v = coeO h' t v := by
  cases v with
  | ref id p =>
    cases p with
    | nil => simp only [coeO, hv id (by simp [AV.ids])]
    | cons s p => rfl
  | _ => rfl

theorem coesO_loc {t : Ty} : ∀ {l : List AV}, (∀ a ∈ l, LkOn h h' a) → coesO h t l = coesO h' t l
  | [], _ => rfl
  | x :: r, hl => by simp only [coesO, coeO_loc (hl x (by simp)), coesO_loc (l := r) (fun a ha => hl a (by simp [ha]))]

theorem argV_loc {S : List Nat} {τ : Ty} {v : AV} (hv : LkOn h h' v) : argV h S v τ = argV h' S v τ := by
  cases v with
  | ref id p => simp only [argV, hv id (by simp [AV.ids])]
  | _ => rfl

theorem getA_loc {S : List Nat} : ∀ {ps : List PM} {avs : List AV}, (∀ a ∈ avs, LkOn h h' a) → getA h S ps avs = getA h' S ps avs
  | [], [], _ => rfl
  | [], _ :: _, _ => rfl
  | p :: l, [], _ => by cases p <;> rfl
  | .v τ :: l, av :: as, hl => by simp only [getA, argV_loc (hl av (by simp)), getA_loc (ps := l) (avs := as) (fun a ha => hl a (by simp [ha]))]
  | .m τ :: l, av :: as, hl => by
      have ih := getA_loc (S := S) (ps := l) (avs := as) (fun a ha => hl a (by simp [ha]))
      cases av with
      | ref id p =>
        cases p with
        | nil => simp only [getA, hl (.ref id []) (by simp) id (by simp [AV.ids]), ih]
        | cons s p => rfl
      | _ => rfl
  | .o τ :: l, av :: as, hl => by
      have ih := getA_loc (S := S) (ps := l) (avs := as) (fun a ha => hl a (by simp [ha]))
      cases av with
      | ref id p =>
        cases p with
        | nil => simp only [getA, hl (.ref id []) (by simp) id (by simp [AV.ids]), ih]
        | cons s p => rfl
      | _ => rfl

theorem lenF_loc {T : TypeId} {x : AV} (hx : LkOn h h' x) : lenF tt h T x = lenF tt h' T x := by
  unfold lenF
  cases x with
  | ref id p => simp only [hx id (by simp [AV.ids])]
  | app id p τ ys own => simp only [hx id (by simp [AV.ids])]
  | val τ z => cases isSlcT tt T with | none => rfl | some u => cases τ <;> rfl
  | cv v => cases isSlcT tt T with | none => rfl | some u => simp only; split <;> first | rfl | (split <;> first | rfl | simp_all)
  | _ => rfl
theorem idxF_loc {T : TypeId} {x i : AV} (hx : LkOn h h' x) : idxF tt h T x i = idxF tt h' T x i := by
  unfold idxF
  cases x with
  | ref id p => simp only [hx id (by simp [AV.ids])]
  | view id p lo hi => simp only [hx id (by simp [AV.ids])]
  | val τ z => cases τ <;> rfl
  | cv v => rfl
  | _ => rfl
theorem loadF_loc {T : TypeId} {x : AV} (hx : LkOn h h' x) : loadF tt h T x = loadF tt h' T x := by
  unfold loadF
  cases x with
  | ref id p => simp only [hx id (by simp [AV.ids])]
  | addr id p => simp only [hx id (by simp [AV.ids])]
  | val τ z => cases τ <;> first | rfl | (cases z <;> rfl)
  | cv v => rfl
  | _ => rfl
theorem fldAF_loc {T : TypeId} {x : AV} {n : Nat} (hx : LkOn h h' x) : fldAF tt h T x n = fldAF tt h' T x n := by
  unfold fldAF
  cases x with
  | ref id p => simp only [hx id (by simp [AV.ids])]
  | addr id p => simp only [hx id (by simp [AV.ids])]
  | val τ z => cases τ <;> first | rfl | (rename_i m t; cases z <;> first | rfl | (cases t <;> rfl))
  | cv v => rfl
  | _ => rfl
theorem fldF_loc {T : TypeId} {x : AV} {n : Nat} (hx : LkOn h h' x) : Fw.fldF tt h T x n = Fw.fldF tt h' T x n := by
  unfold Fw.fldF
  cases x with
  | ref id p => simp only [hx id (by simp [AV.ids])]
  | val τ z => cases τ <;> rfl
  | cv v => rfl
  | _ => rfl
theorem nilF_loc {x : AV} (hx : LkOn h h' x) : nilF h x = nilF h' x := by
  unfold nilF
  cases x with
  | ref id p => simp only [hx id (by simp [AV.ids])]
  | val τ z => cases τ <;> rfl
  | cv v => rfl
  | _ => rfl
theorem slcF_loc {T : TypeId} {x : AV} {lo hi : Option AV} (hx : LkOn h h' x) : slcF tt h T x lo hi = slcF tt h' T x lo hi := by
  unfold slcF
  cases x with
  | ref id p => simp only [hx id (by simp [AV.ids])]
  | val τ z => cases τ <;> rfl
  | cv v => rfl
  | _ => rfl
theorem makeF_loc {T : TypeId} {l c : AV} (hd : lk h d = lk h' d) : makeF tt an h d T l c = makeF tt an h' d T l c := by
  unfold makeF; rw [hd]
theorem allocF_loc {T : TypeId} (hd : lk h d = lk h' d) : allocF tt an h d T = allocF tt an h' d T := by
  unfold allocF; rw [hd]

theorem evalF_loc {op : Op} (hg : ∀ x ∈ op.operands, LkOn h h' (g x)) (hd : lk h d = lk h' d) : evalF tt an h g d op = evalF tt an h' g d op := by
  cases op
  case box T x => simp only [evalF, boxF]; rw [hd]
  case buildSlice T n ps => simp only [evalF, bslF]; rw [hd]
  case alloc T => exact allocF_loc hd
  case makeSlice T l c => exact makeF_loc hd
  case load T x => exact loadF_loc (hg x (by simp [Op.operands]))
  case nilCheck x => exact nilF_loc (hg x (by simp [Op.operands]))
  case indexAddr T x i => exact idxF_loc (hg x (by simp [Op.operands]))
  case fieldAddr T x n => exact fldAF_loc (hg x (by simp [Op.operands]))
  case field T x n => exact fldF_loc (hg x (by simp [Op.operands]))
  case slice T x lo hi mx =>
    cases mx
    · exact slcF_loc (hg x (by simp [Op.operands]))
    · rfl
  case call c =>
    obtain ⟨callee, args, ts⟩ := c
    have hl : ∀ x ∈ args.toList, LkOn h h' (g x) := fun x hx => hg x (by simp only [Op.operands, Call.operands]; exact Array.mem_append_right _ (by simpa using hx))
    clear hg
    simp only [evalF]
    split
    · rename_i x T e1 _; rw [e1] at hl; exact lenF_loc (hl x (by simp))
    · rfl
    · rfl
    · rfl
  all_goals rfl

theorem evalN_loc {op : Op} (hg : ∀ x ∈ op.operands, LkOn h h' (g x)) (hd : lk h d = lk h' d) : evalN tt an h g d op = evalN tt an h' g d op := by
  cases op
  case makeSlice T l c => simp only [evalN, hd]
  case unOp o T x => cases o <;> rfl
  case indexAddr T x i =>
    have hx := hg x (by simp [Op.operands])
    simp only [evalN]
    revert hx
    cases g x with
    | ref id p => intro hx; simp only [hx id (by simp [AV.ids])]
    | val τ z => intro _; cases τ <;> rfl
    | _ => intro _; rfl
  case load T x =>
    have hx := hg x (by simp [Op.operands])
    simp only [evalN]
    revert hx
    cases g x with
    | ref id p => intro hx; simp only [hx id (by simp [AV.ids])]
    | addr id p => intro hx; simp only [hx id (by simp [AV.ids])]
    | _ => intro _; rfl
  case slice T x lo hi mx =>
    have hx := hg x (by simp [Op.operands])
    cases mx
    · simp only [evalN]
      revert hx
      cases g x with
      | ref id p => intro hx; simp only [hx id (by simp [AV.ids])]
      | val τ z => intro _; cases τ <;> rfl
      | _ => intro _; rfl
    · rfl
  case call c =>
    obtain ⟨callee, args, ts⟩ := c
    have hl : ∀ x ∈ args.toList, LkOn h h' (g x) := fun x hx => hg x (by simp only [Op.operands, Call.operands]; exact Array.mem_append_right _ (by simpa using hx))
    clear hg
    simp only [evalN]
    split
    · rename_i x T e1 _
      rw [e1] at hl
      have hx := hl x (by simp)
      cases isSlcT tt T with
      | none => rfl
      | some u =>
        revert hx
        cases g x with
        | ref id p => intro hx; simp only; rw [hx id (by simp [AV.ids])]
        | _ => intro _; rfl
    · rfl
  all_goals rfl

theorem mem_operands_args {callee : Callee} {args : Array Operand} {ts : Array TypeId} {x : Operand} (hx : x ∈ args.toList) : x ∈ (Op.call { callee := callee, args := args, argTypes := ts }).operands := by
  simp only [Op.operands, Call.operands]; exact Array.mem_append_right _ (by simpa using hx)

/-- An operation depends on memory at the numbers that its operands name, at its own, and at those that it makes. -/
theorem e1q_loc {ic : IC} {o : Oper} {e : Eff} (he : e1 ic g h o some = some e) (hg : ∀ x ∈ o.op.operands, LkOn h h' (g x)) (hd : ∀ d, o.dst = some d → lk h d = lk h' d) (hp : ∀ q ∈ e.put, lk h q.1 = lk h' q.1) : e1 ic g h' o some = some e := by
  unfold e1 at he ⊢
  cases hdst : o.dst with
  | none =>
    rw [hdst] at he
    simp only at he ⊢
    split at he
    · rename_i T x v hop
      rw [hop] at hg
      rw [← stoE_loc (hg x (by simp [Op.operands])) (hg v (by simp [Op.operands]))]; exact he
    · cases he
  | some d =>
    rw [hdst] at he
    have hd := hd d hdst
    simp only at he ⊢
    cases hs : slotOk ic.n ic.pin d with
    | false => rw [hs] at he; cases he
    | true =>
    rw [hs] at he
    simp only [cond_true] at he ⊢
    split at he
    · rename_i c x y hop
      exact he
    · rename_i f xs _ hop
      rw [hop] at hg
      have hl : ∀ a ∈ xs.toList.map g, LkOn h h' a := fun a ha => by
        obtain ⟨x, hx, rfl⟩ := List.mem_map.1 ha
        exact hg x (mem_operands_args hx)
      split at he
      · cases he
      rename_i F hF
      cases hb : Nat.beq F.f f with
      | false => rw [hb] at he; cases he
      | true =>
      rw [hb] at he
      simp only [cond_true] at he ⊢
      rw [← getA_loc hl]
      split at he
      · cases he
      rename_i a ha
      obtain ⟨b, hsem, he⟩ := Option.bind_eq_some_iff.1 he
      simp only [hsem, Option.bind_some]
      cases hc : callChk d ⟨[], h⟩ (xs.toList.map g) (mkA F.ps a b) (mkR F.rs (outR F.ps b)) with
      | false => rw [hc] at he; cases he
      | true =>
      rw [hc] at he
      have hc' : callChk d ⟨[], h'⟩ (xs.toList.map g) (mkA F.ps a b) (mkR F.rs (outR F.ps b)) = true := by
        rw [← hc]
        unfold callChk
        congr 1
        rw [Bool.eq_iff_iff, List.all_eq_true, List.all_eq_true]
        cases he
        have hq : ∀ q ∈ resTrees d (isSingle (mkR F.rs (outR F.ps b))) 0 (mkR F.rs (outR F.ps b)), lk h q.1 = lk h' q.1 := fun q hq => hp q (by simp only [List.mem_append]; exact .inr hq)
        exact ⟨fun hh q hq' => by rw [show lk (St.mk [] h).h q.1 = lk h q.1 from rfl, hq q hq']; exact hh q hq', fun hh q hq' => by rw [show lk (St.mk [] h').h q.1 = lk h' q.1 from rfl, ← hq q hq']; exact hh q hq'⟩
      rw [hc']
      exact he
    · rename_i xs ts hop
      rw [hop] at hg
      split at he
      case h_2 => cases he
      rename_i x y T T' e1 e2
      have hl : ∀ z ∈ xs.toList, LkOn h h' (g z) := fun z hz => hg z (mem_operands_args hz)
      rw [e1] at hl
      rw [← appE_loc (hl x (by simp)) (hl y (by simp)) hd]
      exact he
    · rename_i x hop
      rw [hop] at hg
      have hx := hg x (by simp [Op.operands])
      revert he hx
      cases g x with
      | val τ y => intro he _; exact he
      | cv v => intro he hx; simp only [← asgE_loc hx]; exact he
      | ref id p => intro he hx; simp only [← asgE_loc hx]; exact he
      | view id p lo hi => intro he hx; simp only [← asgE_loc hx]; exact he
      | _ => intro he _; exact he
    · rename_i T ps hop
      rw [hop] at hg
      have hp : ∀ q ∈ ps.toList, LkOn h h' (g q.2) := fun q hq => hg q.2 (by simp only [Op.operands, List.mem_toArray, List.mem_map]; exact ⟨q, hq, rfl⟩)
      rw [← he]
      simp only [bldE, mkO_loc hp, hd]
    · rename_i T x hop
      rw [hop] at hg
      have hx := hg x (by simp [Op.operands])
      rw [← he]
      simp only [boxE, hd]
      revert hx
      cases g x with
      | ref id p =>
        intro hx
        cases p with
        | nil => simp only [hx id (by simp [AV.ids])]
        | cons s p => rfl
      | _ => intro _; rfl
    · rename_i T n ps hop
      rw [hop] at hg
      have hp : ∀ a ∈ ps.toList.map (fun q => g q.2), LkOn h h' a := fun a ha => by
        obtain ⟨q, hq, rfl⟩ := List.mem_map.1 ha
        exact hg q.2 (by simp only [Op.operands, List.mem_toArray, List.mem_map]; exact ⟨q, hq, rfl⟩)
      rw [← he]
      simp only [bslE, coesO_loc hp, hd]
    · rw [evalN_loc hg hd, evalF_loc hg hd] at he
      exact he
end

theorem valOps_sub {op : Op} : ∀ x ∈ valOps op, x ∈ op.operands := by
  intro x hx
  cases op <;> simp only [valOps] at hx <;> first | (cases hx; done) | skip
  case assign y => simpa [Op.operands] using hx
  case box T y => simpa [Op.operands] using hx
  case build T ps => simpa [Op.operands] using hx
  case buildSlice T n ps => simpa [Op.operands] using hx
  case store T a v => simp at hx; simp [Op.operands, hx]
  case call c =>
    obtain ⟨callee, args, ts⟩ := c
    simp only at hx
    split at hx
    · exact mem_operands_args hx
    · exact mem_operands_args (List.mem_of_mem_drop hx)
    · cases hx

theorem frzIds_mem {fz : List (Nat × Nat)} {k : Nat} {g : Operand → AV} : ∀ {l : List Operand}, ∀ id ∈ frzIds fz k g l, ∃ x ∈ l, g x = .ref id []
  | [], id, h => by cases h
  | x :: l, id, h => by
      simp only [frzIds] at h
      split at h
      · rename_i i hx
        rw [Bool.cond_eq_ite] at h
        split at h
        · rcases List.mem_cons.1 h with rfl | h
          · exact ⟨x, by simp, hx⟩
          · obtain ⟨y, hy, e⟩ := frzIds_mem id h; exact ⟨y, by simp [hy], e⟩
        · obtain ⟨y, hy, e⟩ := frzIds_mem id h; exact ⟨y, by simp [hy], e⟩
      · obtain ⟨y, hy, e⟩ := frzIds_mem id h; exact ⟨y, by simp [hy], e⟩

theorem frzIds_congr {fz : List (Nat × Nat)} {k : Nat} {g g' : Operand → AV} : ∀ {l : List Operand}, (∀ x ∈ l, g x = g' x) → frzIds fz k g l = frzIds fz k g' l
  | [], _ => rfl
  | x :: l, hg => by simp only [frzIds, hg x (by simp), frzIds_congr (l := l) (fun y hy => hg y (by simp [hy]))]

theorem frzAV_loc {h h' : List (Nat × Tree)} {F : List Nat} (hF : ∀ id ∈ F, lk h id = lk h' id) (a : AV) : frzAV h F a = frzAV h' F a := by
  cases a with
  | ref id p =>
    cases p with
    | nil =>
      simp only [frzAV]
      cases hm : memN id F with
      | false => rfl
      | true => rw [hF id (memN_iff.1 hm)]
    | cons s p => rfl
  | _ => rfl

theorem frzAV_ids {h : List (Nat × Tree)} {F : List Nat} {a : AV} : ∀ id ∈ (frzAV h F a).ids, id ∈ a.ids := by
  intro id hid
  rcases frzAV_cases h F a with ⟨i, t, rfl, _, _, e⟩ | ⟨e, _⟩ | ⟨e, _⟩
  · rw [e] at hid; cases hid
  · rw [e] at hid; cases hid
  · rw [e] at hid; exact hid

theorem eF_loc {ic : IC} {g g' : Operand → AV} {h h' : List (Nat × Tree)} {o : Oper} {e : Eff} (he : eF ic g h o some = some e) (hgg : ∀ x ∈ o.op.operands, g x = g' x) (hg : ∀ x ∈ o.op.operands, LkOn h h' (g x)) (hd : ∀ d, o.dst = some d → lk h d = lk h' d)
    (hp : ∀ q ∈ e.put, lk h q.1 = lk h' q.1) : eF ic g' h' o some = some e := by
  unfold eF at he ⊢
  rw [← frzIds_congr (fun x hx => hgg x (valOps_sub x hx))]
  split
  · rename_i hF
    rw [hF] at he
    rw [← e1q_congr hgg]
    exact e1q_loc he hg hd hp
  · rename_i hne
    split at he
    · rename_i hF; exact (hne hF).elim
    have hF : ∀ id ∈ frzIds ic.fz (frzKey o) g (valOps o.op), lk h id = lk h' id := fun id hid => by
      obtain ⟨x, hx, e⟩ := frzIds_mem id hid
      exact hg x (valOps_sub x hx) id (by rw [e]; simp [AV.ids])
    generalize frzIds ic.fz (frzKey o) g (valOps o.op) = F at he hF ⊢
    have hc : canFrz h' F = canFrz h F := by
      unfold canFrz
      rw [Bool.eq_iff_iff, List.all_eq_true, List.all_eq_true]
      exact ⟨fun hh id hid => by rw [hF id hid]; exact hh id hid, fun hh id hid => by rw [← hF id hid]; exact hh id hid⟩
    rw [hc]
    cases hcc : canFrz h F with
    | false => rw [hcc] at he; cases he
    | true =>
    rw [hcc] at he
    simp only [cond_true] at he ⊢
    rw [e1q_bind] at he ⊢
    obtain ⟨e0, h1, h2⟩ := Option.bind_eq_some_iff.1 he
    have hput : e0.put = e.put := by
      cases hk : (e0.keep.all fun i => !memN i.1 F) with
      | false => rw [hk] at h2; cases h2
      | true => rw [hk] at h2; cases h2; rfl
    have h3 : e1 ic (fun x => frzAV h' F (g' x)) (del F h') o some = some e0 := by
      rw [← e1q_congr (g := fun x => frzAV h F (g x)) (fun x hx => by simp only [hgg x hx, frzAV_loc hF])]
      refine e1q_loc h1 (fun x hx id hid => ?_) (fun d hdd => ?_) (fun q hq => ?_)
      · rw [lk_del, lk_del, hg x hx id (frzAV_ids id hid)]
      · rw [lk_del, lk_del, hd d hdd]
      · rw [lk_del, lk_del, hp q (by rw [← hput]; exact hq)]
    rw [h3]
    exact h2
end Go.Fw
