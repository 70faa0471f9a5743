/-
  The framework, part 19: functions: what a call is asked and gives.
-/
import Derived.Test.YtlalecmgnaoiiaaFw18
namespace Go.Fw

/-- A value of type τ may be handed over at type υ for the length of a call: υ says no more than that nobody writes it meanwhile. -/
def mdOk : Md → Md → Bool
  | .imm, _ => true
  | .bor, .bor => true
  | .bor, .imm => false
def isBor : Md → Bool
  | .bor => true
  | .imm => false
def borOk : Ty → Ty → Bool
  | .int k, .int k' => if k = k' then true else false
  | .bool, .bool | .str, .str | .nil, .nil => true
  | .slc m t, .slc m' u => mdOk m m' && borOk t u
  | .osl t, .slc m u => isBor m && borOk t u
  | .ptr m t, .ptr m' u => mdOk m m' && borOk t u
  | .st t, .st u => borOk t u
  | .pr a b, .pr c d => borOk a c && borOk b d
  | _, _ => false

theorem mdOk.ok {I B B' : Nat → Prop} (hB : ∀ b, B b → B' b) {m m' : Md} (h : mdOk m m' = true) {b : Nat} (hb : md I B m b) : md I B' m' b := by
  cases m <;> cases m'
  · exact hb
  · exact .inl hb
  · cases h
  · exact hb.imp id (hB b)
theorem isBor.ok {m : Md} (h : isBor m = true) : m = .bor := by cases m; cases h; rfl

theorem borOk.den : ∀ {τ υ : Ty}, borOk τ υ = true → τ.den = υ.den := by
  intro τ
  induction τ with
  | slc m t ih =>
    intro υ h
    cases υ <;> simp only [borOk] at h <;> try (cases h; done)
    simp only [Bool.and_eq_true] at h
    exact congrArg List (ih h.2)
  | ptr m t ih =>
    intro υ h
    cases υ <;> simp only [borOk] at h <;> try (cases h; done)
    simp only [Bool.and_eq_true] at h
    exact congrArg Option (ih h.2)
  | osl t ih =>
    intro υ h
    cases υ <;> simp only [borOk] at h <;> try (cases h; done)
    simp only [Bool.and_eq_true] at h
    exact congrArg List (ih h.2)
  | st t ih =>
    intro υ h
    cases υ with
    | st u => exact ih (υ := u) (by simpa only [borOk] using h)
    | _ => simp only [borOk] at h; cases h
  | pr a b iha ihb =>
    intro υ h
    cases υ <;> simp only [borOk] at h <;> try (cases h; done)
    simp only [Bool.and_eq_true] at h
    show (a.den × b.den) = _
    rw [iha h.1, ihb h.2]
  | int k => intro υ h; cases υ <;> simp only [borOk] at h <;> first | rfl | cases h
  | bool => intro υ h; cases υ <;> simp only [borOk] at h <;> first | rfl | cases h
  | str => intro υ h; cases υ <;> simp only [borOk] at h <;> first | rfl | cases h
  | nil => intro υ h; cases υ <;> simp only [borOk] at h <;> first | rfl | cases h
  | optr t _ => intro υ h; cases υ <;> simp only [borOk] at h <;> cases h
  | blk => intro υ h; cases υ <;> simp only [borOk] at h <;> cases h

theorem borOk.size : ∀ {τ υ : Ty}, borOk τ υ = true → τ.size = υ.size := by
  intro τ
  induction τ with
  | st t ih => intro υ h; cases υ <;> simp only [borOk] at h <;> first | (simp only [Ty.size]; exact ih h) | cases h
  | pr a b iha ihb =>
    intro υ h
    cases υ <;> simp only [borOk] at h <;> try (cases h; done)
    simp only [Bool.and_eq_true] at h
    simp only [Ty.size]; rw [iha h.1, ihb h.2]
  | _ => intro υ h; cases υ <;> simp only [borOk] at h <;> first | rfl | cases h

theorem heq_list {α β : Type} (e : α = β) {l : List α} {l' : List β} (h : HEq l l') : l'.length = l.length ∧ ∀ (i : Nat) (b : β), l'[i]? = some b → ∃ a, l[i]? = some a ∧ HEq a b := by
  subst e; cases h; exact ⟨rfl, fun i b hb => ⟨b, hb, HEq.rfl⟩⟩
theorem heq_opt {α β : Type} (e : α = β) {l : Option α} {l' : Option β} (h : HEq l l') : (l = none ∧ l' = none) ∨ ∃ a b, l = some a ∧ l' = some b ∧ HEq a b := by
  subst e; cases h
  cases l with
  | none => exact .inl ⟨rfl, rfl⟩
  | some a => exact .inr ⟨a, a, rfl, rfl, HEq.rfl⟩
theorem heq_prod {α β γ δ : Type} (e : α = γ) (e' : β = δ) {x : α × β} {y : γ × δ} (h : HEq x y) : HEq x.1 y.1 ∧ HEq x.2 y.2 := by
  subst e; subst e'; cases h; exact ⟨HEq.rfl, HEq.rfl⟩

theorem Rep.bor {I B B' : Nat → Prop} {w : World} (hB : ∀ b, B b → B' b) : ∀ {τ υ : Ty} {cs : List Value} {x : τ.den} {y : υ.den} {f : List Nat}, borOk τ υ = true → HEq x y → Rep (md I B) w τ cs x f → (∀ b ∈ f, B' b) → Rep (md I B') w υ cs y [] := by
  intro τ
  induction τ with
  | int k =>
    intro υ cs x y f h he hr _
    cases υ <;> simp only [borOk] at h <;> try (cases h; done)
    split at h
    · rename_i e; subst e; cases he; exact ⟨rfl, hr.2⟩
    · cases h
  | bool => intro υ cs x y f h he hr _; cases υ <;> simp only [borOk] at h <;> first | (cases h; done) | (cases he; exact ⟨rfl, hr.2⟩)
  | str => intro υ cs x y f h he hr _; cases υ <;> simp only [borOk] at h <;> first | (cases h; done) | (cases he; exact ⟨rfl, hr.2⟩)
  | nil => intro υ cs x y f h he hr _; cases υ <;> simp only [borOk] at h <;> first | (cases h; done) | (cases he; exact ⟨rfl, hr.2⟩)
  | optr t _ => intro υ cs x y f h; cases υ <;> simp only [borOk] at h <;> cases h
  | blk => intro υ cs x y f h; cases υ <;> simp only [borOk] at h <;> cases h
  | st t ih =>
    intro υ cs x y f h he hr hf
    cases υ with
    | st u => exact ih (υ := u) (x := x) (y := y) (by simpa only [borOk] using h) he hr hf
    | _ => simp only [borOk] at h; cases h
  | pr a b iha ihb =>
    intro υ cs x y f h he hr hf
    cases υ <;> simp only [borOk] at h <;> try (cases h; done)
    rename_i c d
    simp only [Bool.and_eq_true] at h
    obtain ⟨f1, f2, rfl, h1, h2⟩ := hr
    obtain ⟨e1, e2⟩ := heq_prod (borOk.den h.1) (borOk.den h.2) he
    have hs := borOk.size h.1
    exact ⟨[], [], rfl, by rw [← hs]; exact iha h.1 e1 h1 (fun b hb => hf b (by simp [hb])), by rw [← hs]; exact ihb h.2 e2 h2 (fun b hb => hf b (by simp [hb]))⟩
  | slc m t ih =>
    intro υ cs x y f h he hr hf
    obtain ⟨rfl, ad, cap, rfl, q1, q2, q3⟩ := hr
    cases υ <;> simp only [borOk] at h <;> try (cases h; done)
    rename_i m' u
    simp only [Bool.and_eq_true] at h
    obtain ⟨hl, hx⟩ := heq_list (borOk.den h.2) he
    refine ⟨rfl, ad, cap, by rw [hl], by rw [hl]; exact q1, q2, ?_⟩
    rcases q3 with rfl | ⟨b, o, rfl, hMb, hel⟩
    · left; exact List.eq_nil_of_length_eq_zero (by rw [hl]; rfl)
    · right
      refine ⟨b, o, rfl, mdOk.ok hB h.1 hMb, fun i z hz => ?_⟩
      obtain ⟨z', h1, h2⟩ := hx i z hz
      obtain ⟨ds, d1, d2, d3⟩ := hel i z' h1
      rw [← borOk.size h.2]
      exact ⟨ds, d1, d2, ih h.2 h2 d3 (by simp)⟩
  | osl t ih =>
    intro υ cs x y f h he hr hf
    cases υ <;> simp only [borOk] at h <;> try (cases h; done)
    rename_i m' u
    simp only [Bool.and_eq_true] at h
    obtain rfl := isBor.ok h.1
    obtain ⟨ad, cap, rfl, hr⟩ := hr
    obtain ⟨hl, hx⟩ := heq_list (borOk.den h.2) he
    rcases hr with ⟨rfl, rfl, rfl, rfl⟩ | ⟨b, o, fps, rfl, rfl, q1, q2, q3, q4⟩
    · obtain rfl : y = [] := List.eq_nil_of_length_eq_zero (by rw [hl]; rfl)
      exact ⟨rfl, none, 0, rfl, Nat.le_refl _, fun _ => rfl, .inl rfl⟩
    · refine ⟨rfl, some ⟨b, o, none⟩, cap, by rw [hl], by rw [hl]; exact q2, (fun h => by cases h), .inr ⟨b, o, rfl, .inr (hf b (by simp)), fun i z hz => ?_⟩⟩
      obtain ⟨z', h1, h2⟩ := hx i z hz
      have hi : i < x.length := (List.getElem?_eq_some_iff.1 h1).1
      obtain ⟨ds, d1, d2, d3⟩ := q4 i z' (fps[i]'(by omega)) h1 (by simp)
      rw [← borOk.size h.2]
      exact ⟨ds, d1, d2, ih h.2 h2 d3 (fun c hc => hf c (List.mem_cons_of_mem _ (List.mem_flatten.2 ⟨_, List.getElem_mem (by omega), hc⟩)))⟩
  | ptr m t ih =>
    intro υ cs x y f h he hr hf
    obtain ⟨rfl, hr⟩ := hr
    cases υ <;> simp only [borOk] at h <;> try (cases h; done)
    rename_i m' u
    simp only [Bool.and_eq_true] at h
    refine ⟨rfl, ?_⟩
    rcases heq_opt (borOk.den h.2) he with ⟨rfl, rfl⟩ | ⟨a, b, rfl, rfl, hab⟩
    · exact hr
    · obtain ⟨bb, o, ds, r1, r2, r3, r4, r5⟩ := hr
      exact ⟨bb, o, ds, r1, mdOk.ok hB h.1 r2, by rw [← borOk.size h.2]; exact r3, r4, ih h.2 hab r5 (by simp)⟩

/-- What may be handed over as what. -/
inductive PassV : (τ : Ty) → τ.den → (υ : Ty) → υ.den → Prop
  | same {τ υ : Ty} {x : τ.den} {y : υ.den} (h : borOk τ υ = true) (he : HEq x y) : PassV τ x υ y
  | ptr {t u : Ty} {x : t.den} {y : u.den} (h : borOk t u = true) (he : HEq x y) : PassV (.optr t) x (.ptr .bor u) (some y)

theorem PassV.rep {I B B' : Nat → Prop} {w : World} (hB : ∀ b, B b → B' b) {τ υ : Ty} {cs : List Value} {x : τ.den} {y : υ.den} {f : List Nat} (h : PassV τ x υ y) (hr : Rep (md I B) w τ cs x f) (hf : ∀ b ∈ f, B' b) : Rep (md I B') w υ cs y [] := by
  cases h with
  | same h he => exact hr.bor hB h he hf
  | ptr h he =>
    obtain ⟨b, o, f', ds, rfl, rfl, q1, q2, q3, q4⟩ := hr
    exact ⟨rfl, b, o, ds, rfl, .inr (hf b (by simp)), by rw [← borOk.size h]; exact q1, q2, q4.bor hB h he (fun c hc => hf c (by simp [hc]))⟩

theorem PassV.st {τ υ : Ty} {x : τ.den} {y : υ.den} (h : PassV τ x υ y) (cs : List Value) : regV τ cs = regV υ cs := by
  cases h with
  | same h _ => cases τ <;> cases υ <;> first | rfl | (simp only [borOk] at h; cases h; done)
  | ptr h _ => rfl
end Go.Fw
