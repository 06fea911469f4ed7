/- HT: plane trees with a ring through their leaves, as a plain law. HR: the graph of a plane tree with a ring through its leaves; another root. HN: of a triangle just one is inner, the other two are leaves side by side of it. HW: a wide cut keeps a rim, both ways. HX: a wide cut keeps a rim, backward; a small cut keeps a rim, both ways. HY: a small cut keeps a rim, both ways. -/
import Init
set_option linter.unusedVariables false
set_option linter.unusedSimpArgs false
set_option linter.unnecessarySimpa false
namespace Go.Proofs.Ytnmocjhpbobahaa.H
/-- A row of plane trees: leaves and inner vertices, each with those behind it. -/
inductive F where
  | nil
  | leaf (v : Nat) (s : F)
  | node (v : Nat) (k s : F)
namespace F
def app : F → F → F
  | nil, g => g
  | leaf v s, g => leaf v (s.app g)
  | node v k s, g => node v k (s.app g)
def len : F → Nat
  | nil => 0
  | leaf _ s => s.len + 1
  | node _ _ s => s.len + 1
/-- All vertices. -/
def vs : F → List Nat
  | nil => []
  | leaf v s => v :: s.vs
  | node v k s => v :: (k.vs ++ s.vs)
/-- The leaves, in order. -/
def fr : F → List Nat
  | nil => []
  | leaf v s => v :: s.fr
  | node _ k s => k.fr ++ s.fr
/-- Each with the one above it. -/
def es (p : Nat) : F → List (Nat × Nat)
  | nil => []
  | leaf v s => (p, v) :: s.es p
  | node v k s => (p, v) :: (k.es v ++ s.es p)
/-- The inner ones. -/
def inn : F → List Nat
  | nil => []
  | leaf _ s => s.inn
  | node v k s => v :: (k.inn ++ s.inn)
def ok : F → Prop
  | nil => True
  | leaf _ s => s.ok
  | node _ k s => 2 ≤ k.len ∧ k.ok ∧ s.ok
@[simp] theorem app_nil : ∀ f : F, f.app nil = f
  | nil => rfl
  | leaf v s => by rw [app, app_nil s]
  | node v k s => by rw [app, app_nil s]
theorem app_assoc : ∀ f g h : F, (f.app g).app h = f.app (g.app h)
  | nil, _, _ => rfl
  | leaf v s, g, h => by simp only [app, app_assoc s]
  | node v k s, g, h => by simp only [app, app_assoc s]
@[simp] theorem app_len : ∀ f g : F, (f.app g).len = f.len + g.len
  | nil, g => by simp [app, len]
  | leaf v s, g => by simp only [app, len, app_len s]; omega
  | node v k s, g => by simp only [app, len, app_len s]; omega
@[simp] theorem app_vs : ∀ f g : F, (f.app g).vs = f.vs ++ g.vs
  | nil, g => rfl
  | leaf v s, g => by simp only [app, vs, app_vs s, List.cons_append]
  | node v k s, g => by simp only [app, vs, app_vs s, List.cons_append, List.append_assoc]
@[simp] theorem app_fr : ∀ f g : F, (f.app g).fr = f.fr ++ g.fr
  | nil, g => rfl
  | leaf v s, g => by simp only [app, fr, app_fr s, List.cons_append]
  | node v k s, g => by simp only [app, fr, app_fr s, List.append_assoc]
@[simp] theorem app_es (p : Nat) : ∀ f g : F, (f.app g).es p = f.es p ++ g.es p
  | nil, g => rfl
  | leaf v s, g => by simp only [app, es, app_es p s, List.cons_append]
  | node v k s, g => by simp only [app, es, app_es p s, List.cons_append, List.append_assoc]
@[simp] theorem app_inn : ∀ f g : F, (f.app g).inn = f.inn ++ g.inn
  | nil, g => rfl
  | leaf v s, g => by simp only [app, inn, app_inn s]
  | node v k s, g => by simp only [app, inn, app_inn s, List.cons_append, List.append_assoc]
@[simp] theorem app_ok : ∀ f g : F, (f.app g).ok ↔ f.ok ∧ g.ok
  | nil, g => by simp [app, ok]
  | leaf v s, g => by simp only [app, ok, app_ok s]
  | node v k s, g => by simp only [app, ok, app_ok s]; constructor
                        · rintro ⟨a, b, c, d⟩; exact ⟨⟨a, b, c⟩, d⟩
                        · rintro ⟨⟨a, b, c⟩, d⟩; exact ⟨a, b, c, d⟩
theorem fr_sub : ∀ {f : F} {v : Nat}, v ∈ f.fr → v ∈ f.vs
  | nil, v, h => h
  | leaf w s, v, h => by
    rcases List.mem_cons.1 h with h | h
    · rw [h]; exact List.mem_cons_self
    · exact List.mem_cons_of_mem _ (fr_sub h)
  | node w k s, v, h => by
    rcases List.mem_append.1 h with h | h
    · exact List.mem_cons_of_mem _ (List.mem_append_left _ (fr_sub h))
    · exact List.mem_cons_of_mem _ (List.mem_append_right _ (fr_sub h))
theorem inn_sub : ∀ {f : F} {v : Nat}, v ∈ f.inn → v ∈ f.vs
  | nil, v, h => h
  | leaf w s, v, h => List.mem_cons_of_mem _ (inn_sub (f := s) h)
  | node w k s, v, h => by
    rcases List.mem_cons.1 h with h | h
    · rw [h]; exact List.mem_cons_self
    · rcases List.mem_append.1 h with h | h
      · exact List.mem_cons_of_mem _ (List.mem_append_left _ (inn_sub h))
      · exact List.mem_cons_of_mem _ (List.mem_append_right _ (inn_sub h))
theorem vs_or : ∀ {f : F} {v : Nat}, v ∈ f.vs → v ∈ f.fr ∨ v ∈ f.inn
  | nil, v, h => .inl h
  | leaf w s, v, h => by
    rcases List.mem_cons.1 h with h | h
    · rw [h]; exact .inl List.mem_cons_self
    · exact (vs_or (f := s) h).imp (List.mem_cons_of_mem _) id
  | node w k s, v, h => by
    rcases List.mem_cons.1 h with h | h
    · rw [h]; exact .inr List.mem_cons_self
    · rcases List.mem_append.1 h with h | h
      · exact (vs_or (f := k) h).imp (List.mem_append_left _) (fun q => List.mem_cons_of_mem _ (List.mem_append_left _ q))
      · exact (vs_or (f := s) h).imp (List.mem_append_right _) (fun q => List.mem_cons_of_mem _ (List.mem_append_right _ q))
theorem fr_inn : ∀ {f : F} {v : Nat}, f.vs.Nodup → v ∈ f.fr → v ∈ f.inn → False
  | nil, v, _, h, _ => by cases h
  | leaf w s, v, hn, h, h' => by
    rw [vs, List.nodup_cons] at hn
    rcases List.mem_cons.1 h with e | e
    · subst e; exact hn.1 (inn_sub (f := s) h')
    · exact fr_inn (f := s) hn.2 e h'
  | node w k s, v, hn, h, h' => by
    rw [vs, List.nodup_cons, List.nodup_append] at hn
    obtain ⟨h1, h2, h3, h4⟩ := hn
    rcases List.mem_cons.1 h' with e | e
    · subst e
      exact h1 (by rcases List.mem_append.1 h with e | e
                   · exact List.mem_append_left _ (fr_sub e)
                   · exact List.mem_append_right _ (fr_sub e))
    · rcases List.mem_append.1 h with a | a <;> rcases List.mem_append.1 e with b | b
      · exact fr_inn (f := k) h2 a b
      · exact h4 _ (fr_sub a) _ (inn_sub b) rfl
      · exact h4 _ (inn_sub b) _ (fr_sub a) rfl
      · exact fr_inn (f := s) h3 a b
/-- Who is above is inner, or the root; who is below is one of all. -/
theorem es_mem : ∀ {f : F} {p : Nat} {e : Nat × Nat}, e ∈ f.es p → (e.1 = p ∨ e.1 ∈ f.inn) ∧ e.2 ∈ f.vs
  | nil, p, e, h => by cases h
  | leaf w s, p, e, h => by
    rcases List.mem_cons.1 h with h | h
    · subst h; exact ⟨.inl rfl, List.mem_cons_self⟩
    · have := es_mem (f := s) h
      exact ⟨this.1, List.mem_cons_of_mem _ this.2⟩
  | node w k s, p, e, h => by
    rcases List.mem_cons.1 h with h | h
    · subst h; exact ⟨.inl rfl, List.mem_cons_self⟩
    · rcases List.mem_append.1 h with h | h
      · have := es_mem (f := k) h
        refine ⟨.inr ?_, List.mem_cons_of_mem _ (List.mem_append_left _ this.2)⟩
        rcases this.1 with q | q
        · rw [q]; exact List.mem_cons_self
        · exact List.mem_cons_of_mem _ (List.mem_append_left _ q)
      · have := es_mem (f := s) h
        refine ⟨?_, List.mem_cons_of_mem _ (List.mem_append_right _ this.2)⟩
        rcases this.1 with q | q
        · exact .inl q
        · exact .inr (List.mem_cons_of_mem _ (List.mem_append_right _ q))
/-- The vertices at the top. -/
def tops : F → List Nat
  | nil => []
  | leaf v s => v :: s.tops
  | node v _ s => v :: s.tops
theorem tops_sub : ∀ {f : F} {v : Nat}, v ∈ f.tops → v ∈ f.vs
  | nil, v, h => h
  | leaf w s, v, h => by
    rcases List.mem_cons.1 h with h | h
    · rw [h]; exact List.mem_cons_self
    · exact List.mem_cons_of_mem _ (tops_sub h)
  | node w k s, v, h => by
    rcases List.mem_cons.1 h with h | h
    · rw [h]; exact List.mem_cons_self
    · exact List.mem_cons_of_mem _ (List.mem_append_right _ (tops_sub h))
theorem es_root : ∀ {f : F} {p v : Nat}, p ∉ f.vs → ((p, v) ∈ f.es p ↔ v ∈ f.tops)
  | nil, p, v, _ => by simp [es, tops]
  | leaf w s, p, v, hp => by
    have ih := es_root (f := s) (p := p) (v := v) (fun h => hp (List.mem_cons_of_mem _ h))
    simp only [es, tops, List.mem_cons, Prod.mk.injEq, true_and, ih]
  | node w k s, p, v, hp => by
    have ih := es_root (f := s) (p := p) (v := v) (fun h => hp (List.mem_cons_of_mem _ (List.mem_append_right _ h)))
    have hk : (p, v) ∉ k.es w := fun h => by
      rcases (es_mem h).1 with q | q
      · have q : p = w := q
        exact hp (by rw [q]; exact List.mem_cons_self)
      · exact hp (List.mem_cons_of_mem _ (List.mem_append_left _ (inn_sub q)))
    simp only [es, tops, List.mem_cons, Prod.mk.injEq, true_and, List.mem_append, ih, hk, false_or]
theorem len_fr : ∀ {f : F}, f.ok → f.len ≤ f.fr.length
  | nil, _ => Nat.zero_le _
  | leaf v s, h => by have := len_fr (f := s) h; simp only [len, fr, List.length_cons]; omega
  | node v k s, h => by
    have h1 := len_fr (f := k) h.2.1
    have h2 := len_fr (f := s) h.2.2
    have := h.1
    simp only [len, fr, List.length_append]; omega
theorem fr_nil {f : F} (h : f.ok) (hf : f.fr = []) : f = nil := by
  have := len_fr h
  rw [hf] at this
  cases f with
  | nil => rfl
  | leaf v s => simp [len] at this
  | node v k s => simp [len] at this
/-- A leaf at the top. -/
theorem top_leaf : ∀ {f : F} {x : Nat}, f.vs.Nodup → x ∈ f.tops → x ∈ f.fr → ∃ a b : F, f = a.app (leaf x b)
  | nil, x, _, h, _ => by cases h
  | leaf w s, x, hn, h, h' => by
    by_cases e : x = w
    · subst e; exact ⟨nil, s, rfl⟩
    · rw [vs, List.nodup_cons] at hn
      obtain ⟨a, b, rfl⟩ := top_leaf (f := s) hn.2 ((List.mem_cons.1 h).resolve_left e) ((List.mem_cons.1 h').resolve_left e)
      exact ⟨leaf w a, b, rfl⟩
  | node w k s, x, hn, h, h' => by
    have hn' := hn
    rw [vs, List.nodup_cons, List.nodup_append] at hn
    by_cases e : x = w
    · exact (fr_inn hn' h' (by rw [e]; exact List.mem_cons_self)).elim
    · have ht := (List.mem_cons.1 h).resolve_left e
      have hs : x ∈ s.fr := by
        rcases List.mem_append.1 h' with q | q
        · exact (hn.2.2.2 _ (fr_sub q) _ (tops_sub ht) rfl).elim
        · exact q
      obtain ⟨a, b, rfl⟩ := top_leaf (f := s) hn.2.2.1 ht hs
      exact ⟨node w k a, b, rfl⟩
theorem top_node : ∀ {f : F} {x : Nat}, f.vs.Nodup → x ∈ f.tops → x ∈ f.inn → ∃ a k b : F, f = a.app (node x k b)
  | nil, x, _, h, _ => by cases h
  | leaf w s, x, hn, h, h' => by
    by_cases e : x = w
    · exact (fr_inn hn (by rw [e]; exact List.mem_cons_self) h').elim
    · rw [vs, List.nodup_cons] at hn
      obtain ⟨a, k, b, rfl⟩ := top_node (f := s) hn.2 ((List.mem_cons.1 h).resolve_left e) h'
      exact ⟨leaf w a, k, b, rfl⟩
  | node w k s, x, hn, h, h' => by
    rw [vs, List.nodup_cons, List.nodup_append] at hn
    by_cases e : x = w
    · subst e; exact ⟨nil, k, s, rfl⟩
    · have ht := (List.mem_cons.1 h).resolve_left e
      have hs : x ∈ s.inn := by
        rcases List.mem_append.1 ((List.mem_cons.1 h').resolve_left e) with q | q
        · exact (hn.2.2.2 _ (inn_sub q) _ (tops_sub ht) rfl).elim
        · exact q
      obtain ⟨a, k', b, rfl⟩ := top_node (f := s) hn.2.2.1 ht hs
      exact ⟨node w k a, k', b, rfl⟩
end F
end Go.Proofs.Ytnmocjhpbobahaa.H
namespace Go.Proofs.Ytnmocjhpbobahaa.H
open F
/-! ### round a list -/
def Rot (l m : List Nat) : Prop := ∃ a b, l = a ++ b ∧ m = b ++ a
theorem Rot.symm {l m : List Nat} : Rot l m → Rot m l := fun ⟨a, b, h1, h2⟩ => ⟨b, a, h2, h1⟩
theorem Rot.trans {l m k : List Nat} : Rot l m → Rot m k → Rot l k := by
  rintro ⟨a, b, rfl, rfl⟩ ⟨c, d, h, rfl⟩
  rcases List.append_eq_append_iff.1 h with ⟨e, rfl, rfl⟩ | ⟨e, rfl, rfl⟩
  · exact ⟨e, d ++ b, by simp, by simp⟩
  · exact ⟨a ++ c, e, by simp, by simp⟩
/-- y comes behind x, round. -/
def nx (l : List Nat) (x y : Nat) : Prop := ∃ c, Rot l (x :: y :: c)
theorem nx_rot {l m : List Nat} (h : Rot l m) (x y : Nat) : nx l x y ↔ nx m x y :=
  ⟨fun ⟨c, q⟩ => ⟨c, h.symm.trans q⟩, fun ⟨c, q⟩ => ⟨c, h.trans q⟩⟩
theorem nx_mem {l : List Nat} {x y : Nat} : nx l x y → x ∈ l ∧ y ∈ l := by
  rintro ⟨c, a, b, rfl, h⟩
  have : ∀ v, v ∈ x :: y :: c → v ∈ a ++ b := fun v hv => by
    rw [h] at hv
    rcases List.mem_append.1 hv with q | q
    · exact List.mem_append_right _ q
    · exact List.mem_append_left _ q
  exact ⟨this x List.mem_cons_self, this y (List.mem_cons_of_mem _ List.mem_cons_self)⟩
def con (l : List Nat) (x y : Nat) : Prop := ∃ a b, l = a ++ x :: y :: b
theorem con_mem {l : List Nat} {x y : Nat} : con l x y → x ∈ l ∧ y ∈ l := by
  rintro ⟨a, b, rfl⟩; simp
theorem con_cons {z : Nat} {l : List Nat} {x y : Nat} : con (z :: l) x y ↔ (x = z ∧ l.head? = some y) ∨ con l x y := by
  constructor
  · rintro ⟨a, b, h⟩
    cases a with
    | nil => rw [List.nil_append, List.cons.injEq] at h; left; exact ⟨h.1.symm, by rw [h.2]; rfl⟩
    | cons c a => rw [List.cons_append, List.cons.injEq] at h; right; exact ⟨a, b, h.2⟩
  · rintro (⟨rfl, h⟩ | ⟨a, b, rfl⟩)
    · cases l with
      | nil => cases h
      | cons w l => obtain rfl := Option.some.inj h; exact ⟨[], l, rfl⟩
    · exact ⟨z :: a, b, rfl⟩
theorem nx_cons {z : Nat} {l : List Nat} {x y : Nat} : nx (z :: l) x y ↔ con (z :: l) x y ∨ (y = z ∧ l.getLast? = some x) := by
  constructor
  · rintro ⟨c, a, b, h1, h2⟩
    match b, h1, h2 with
    | [], h1, h2 =>
      rw [List.nil_append] at h2; subst h2
      rw [List.append_nil] at h1
      exact .inl ⟨[], c, h1⟩
    | [x'], h1, h2 =>
      simp only [List.cons_append, List.nil_append, List.cons.injEq] at h2
      obtain ⟨rfl, h2⟩ := h2
      subst h2
      simp only [List.cons_append, List.cons.injEq] at h1
      exact .inr ⟨h1.1.symm, by rw [h1.2]; simp⟩
    | x' :: y' :: b, h1, h2 =>
      simp only [List.cons_append, List.cons.injEq] at h2
      obtain ⟨rfl, rfl, _⟩ := h2
      exact .inl ⟨a, b, h1⟩
  · rintro (⟨a, b, h⟩ | ⟨rfl, h⟩)
    · exact ⟨b ++ a, a, x :: y :: b, h, by simp⟩
    · obtain ⟨m, rfl⟩ := List.getLast?_eq_some_iff.1 h
      exact ⟨m, y :: m, [x], by simp, by simp⟩
/-! ### the graph -/
def E (u : Nat) (f : F) (v w : Nat) : Prop := (v, w) ∈ f.es u ∨ (w, v) ∈ f.es u ∨ nx f.fr v w ∨ nx f.fr w v
theorem E_symm {u : Nat} {f : F} {v w : Nat} : E u f v w → E u f w v := by
  rintro (h | h | h | h)
  · exact .inr (.inl h)
  · exact .inl h
  · exact .inr (.inr (.inr h))
  · exact .inr (.inr (.inl h))
structure Hal (u : Nat) (f : F) : Prop where
  len : 3 ≤ f.len
  ok : f.ok
  nd : (u :: f.vs).Nodup
structure Sim (u : Nat) (f : F) (u' : Nat) (f' : F) : Prop where
  hal : Hal u' f'
  e : ∀ v w, E u f v w ↔ E u' f' v w
  vs : ∀ v, v ∈ u :: f.vs ↔ v ∈ u' :: f'.vs
  fr : ∀ v, v ∈ f.fr ↔ v ∈ f'.fr
theorem Sim.refl {u : Nat} {f : F} (h : Hal u f) : Sim u f u f := ⟨h, fun _ _ => Iff.rfl, fun _ => Iff.rfl, fun _ => Iff.rfl⟩
theorem Sim.trans {u u' u'' : Nat} {f f' f'' : F} (h : Sim u f u' f') (k : Sim u' f' u'' f'') : Sim u f u'' f'' :=
  ⟨k.hal, fun v w => (h.e v w).trans (k.e v w), fun v => (h.vs v).trans (k.vs v), fun v => (h.fr v).trans (k.fr v)⟩
theorem rot_sim {u : Nat} {f g : F} (h : Hal u (f.app g)) : Sim u (f.app g) u (g.app f) := by
  have hp : List.Perm (f.vs ++ g.vs) (g.vs ++ f.vs) := List.perm_append_comm
  refine ⟨⟨?_, ?_, ?_⟩, fun v w => ?_, fun v => ?_, fun v => ?_⟩
  · have := h.len; rw [app_len] at this ⊢; omega
  · have := h.ok; rw [app_ok] at this ⊢; exact this.symm
  · have := h.nd
    rw [app_vs] at this ⊢
    exact (hp.cons u).nodup_iff.1 this
  · have hr : Rot (f.fr ++ g.fr) (g.fr ++ f.fr) := ⟨_, _, rfl, rfl⟩
    unfold E
    rw [app_es, app_es, app_fr, app_fr, nx_rot hr, nx_rot hr, List.mem_append, List.mem_append, List.mem_append, List.mem_append, or_comm (a := (v, w) ∈ f.es u), or_comm (a := (w, v) ∈ f.es u)]
  · simp only [app_vs, List.mem_cons, List.mem_append]
    rw [or_comm (a := v ∈ f.vs)]
  · simp only [app_fr, List.mem_append]
    rw [or_comm]
theorem root_sim {u w : Nat} {k s : F} (h : Hal u (node w k s)) : Sim u (node w k s) w (k.app (node u s nil)) := by
  have hl := h.len
  have hk := h.ok
  have hp : List.Perm (u :: w :: (k.vs ++ s.vs)) (w :: (k.vs ++ u :: s.vs)) := by
    refine (List.Perm.swap w u _).trans (List.Perm.cons w ?_)
    exact List.perm_middle.symm
  refine ⟨⟨?_, ?_, ?_⟩, fun v x => ?_, fun v => ?_, fun v => ?_⟩
  · simp only [app_len, F.len] at hl ⊢
    have := hk.1
    omega
  · rw [app_ok]
    simp only [F.len] at hl
    exact ⟨hk.2.1, by omega, hk.2.2, trivial⟩
  · have := h.nd
    simp only [app_vs, F.vs, List.append_nil] at this ⊢
    exact hp.nodup_iff.1 this
  · unfold E
    simp only [app_fr, app_es, F.fr, F.es, List.append_nil, List.mem_append, List.mem_cons, Prod.mk.injEq]
    constructor
    · rintro ((⟨rfl, rfl⟩ | h | h) | (⟨rfl, rfl⟩ | h | h) | h | h)
      · exact .inr (.inl (.inr (.inl ⟨rfl, rfl⟩)))
      · exact .inl (.inl h)
      · exact .inl (.inr (.inr h))
      · exact .inl (.inr (.inl ⟨rfl, rfl⟩))
      · exact .inr (.inl (.inl h))
      · exact .inr (.inl (.inr (.inr h)))
      · exact .inr (.inr (.inl h))
      · exact .inr (.inr (.inr h))
    · rintro ((h | ⟨rfl, rfl⟩ | h) | (h | ⟨rfl, rfl⟩ | h) | h | h)
      · exact .inl (.inr (.inl h))
      · exact .inr (.inl (.inl ⟨rfl, rfl⟩))
      · exact .inl (.inr (.inr h))
      · exact .inr (.inl (.inr (.inl h)))
      · exact .inl (.inl ⟨rfl, rfl⟩)
      · exact .inr (.inl (.inr (.inr h)))
      · exact .inr (.inr (.inl h))
      · exact .inr (.inr (.inr h))
  · simp only [app_vs, F.vs, List.append_nil]
    exact hp.mem_iff
  · simp only [app_fr, F.fr, List.append_nil]
/-- An inner vertex with those below it. -/
def kid (w : Nat) (c : F) : F → Prop
  | nil => False
  | leaf _ s => kid w c s
  | node v k s => (v = w ∧ k = c) ∨ kid w c k ∨ kid w c s
theorem inn_kid : ∀ {f : F} {w : Nat}, w ∈ f.inn → ∃ c, kid w c f
  | nil, w, h => by cases h
  | leaf v s, w, h => inn_kid (f := s) h
  | node v k s, w, h => by
    rcases List.mem_cons.1 h with rfl | h
    · exact ⟨k, .inl ⟨rfl, rfl⟩⟩
    · rcases List.mem_append.1 h with h | h
      · obtain ⟨c, hc⟩ := inn_kid (f := k) h; exact ⟨c, .inr (.inl hc)⟩
      · obtain ⟨c, hc⟩ := inn_kid (f := s) h; exact ⟨c, .inr (.inr hc)⟩
/-- Any inner vertex may be the root, those below it first. -/
theorem any_root : ∀ (k : F) {u w : Nat} {g c : F}, Hal u (k.app g) → kid w c k → ∃ g', Sim u (k.app g) w (c.app g')
  | nil, _, _, _, _, _, h => h.elim
  | leaf v s, u, w, g, c, hh, h => by
    have h1 := rot_sim (f := leaf v nil) (g := s.app g) hh
    rw [app_assoc] at h1
    obtain ⟨g', h2⟩ := any_root s h1.hal h
    exact ⟨g', h1.trans h2⟩
  | node v k s, u, w, g, c, hh, h => by
    have h0 := root_sim (w := v) (k := k) (s := s.app g) hh
    rcases h with ⟨rfl, rfl⟩ | h | h
    · exact ⟨_, h0⟩
    · obtain ⟨g', h2⟩ := any_root k h0.hal h
      exact ⟨g', h0.trans h2⟩
    · have h1 := rot_sim (f := node v k nil) (g := s.app g) hh
      rw [app_assoc] at h1
      obtain ⟨g', h2⟩ := any_root s h1.hal h
      exact ⟨g', h1.trans h2⟩
theorem re_root {u w : Nat} {f : F} (h : Hal u f) (hw : w ∈ u :: f.vs) (hn : w ∉ f.fr) : ∃ f', Sim u f w f' := by
  rcases List.mem_cons.1 hw with rfl | hw
  · exact ⟨f, Sim.refl h⟩
  · obtain ⟨c, hc⟩ := inn_kid ((vs_or hw).resolve_left hn)
    have h' : Hal u (f.app nil) := by rw [app_nil]; exact h
    obtain ⟨g', hg⟩ := any_root f h' hc
    rw [app_nil] at hg
    exact ⟨_, hg⟩
/-! ### an inner vertex with leaves alone below it -/
theorem low_kid : ∀ {f : F}, f.ok → f.inn ≠ [] → ∃ w c, kid w c f ∧ c.inn = [] ∧ 2 ≤ c.len
  | nil, _, h => (h rfl).elim
  | leaf v s, ho, h => low_kid (f := s) ho h
  | node v k s, ho, _ => by
    by_cases hk : k.inn = []
    · exact ⟨v, k, .inl ⟨rfl, rfl⟩, hk, ho.1⟩
    · obtain ⟨w, c, h1, h2⟩ := low_kid (f := k) ho.2.1 hk
      exact ⟨w, c, .inr (.inl h1), h2⟩
theorem flat_two {c : F} (h : c.inn = []) (h2 : 2 ≤ c.len) : ∃ x y g, c = leaf x (leaf y g) := by
  match c, h, h2 with
  | nil, _, h2 => simp [F.len] at h2
  | node v k s, h, _ => simp [inn] at h
  | leaf x nil, _, h2 => simp [F.len] at h2
  | leaf x (node v k s), h, _ => simp [inn] at h
  | leaf x (leaf y g), _, _ => exact ⟨x, y, g, rfl⟩
theorem has_pair {u : Nat} {f : F} (h : Hal u f) : ∃ w x y g, Sim u f w (leaf x (leaf y g)) := by
  by_cases hi : f.inn = []
  · obtain ⟨x, y, g, rfl⟩ := flat_two hi (by have := h.len; omega)
    exact ⟨u, x, y, g, Sim.refl h⟩
  · obtain ⟨w, c, h1, h2, h3⟩ := low_kid h.ok hi
    have h' : Hal u (f.app nil) := by rw [app_nil]; exact h
    obtain ⟨g', hg⟩ := any_root f h' h1
    rw [app_nil] at hg
    obtain ⟨x, y, g, rfl⟩ := flat_two h2 h3
    exact ⟨w, x, y, g.app g', hg⟩
/-! ### who is whose neighbour -/
theorem Hal.root_fr {u : Nat} {f : F} (h : Hal u f) : u ∉ f.fr := fun q => (List.nodup_cons.1 h.nd).1 (fr_sub q)
theorem E_root {u : Nat} {f : F} (h : Hal u f) {x : Nat} : E u f u x ↔ x ∈ f.tops := by
  have hu := (List.nodup_cons.1 h.nd).1
  constructor
  · rintro (q | q | q | q)
    · exact (es_root hu).1 q
    · exact (hu (es_mem q).2).elim
    · exact (h.root_fr (nx_mem q).1).elim
    · exact (h.root_fr (nx_mem q).2).elim
  · exact fun q => .inl ((es_root hu).2 q)
theorem no_es {u : Nat} {f : F} (h : Hal u f) {v w : Nat} (hv : v ∈ f.fr) : (v, w) ∉ f.es u := fun q => by
  have hn := List.nodup_cons.1 h.nd
  rcases (es_mem q).1 with e | e
  · have e : v = u := e
    exact h.root_fr (e ▸ hv)
  · exact fr_inn hn.2 hv e
theorem E_leaves {u : Nat} {f : F} (h : Hal u f) {v w : Nat} (hv : v ∈ f.fr) (hw : w ∈ f.fr) : E u f v w ↔ nx f.fr v w ∨ nx f.fr w v := by
  constructor
  · rintro (q | q | q)
    · exact (no_es h hv q).elim
    · exact (no_es h hw q).elim
    · exact q
  · exact fun q => .inr (.inr q)
/-- The neighbours of the first leaf below the root. -/
theorem E_first {u x : Nat} {g : F} (h : Hal u (leaf x g)) {v : Nat} : E u (leaf x g) x v ↔ v = u ∨ g.fr.head? = some v ∨ g.fr.getLast? = some v := by
  have hn := List.nodup_cons.1 (List.nodup_cons.1 h.nd).2
  have hx : x ∉ g.fr := fun q => hn.1 (fr_sub q)
  have hxr : x ∈ (leaf x g).fr := List.mem_cons_self
  have hu : u ∉ (leaf x g).vs := (List.nodup_cons.1 h.nd).1
  have e1 : nx (x :: g.fr) x v ↔ g.fr.head? = some v := by
    rw [nx_cons, con_cons]
    constructor
    · rintro ((⟨_, q⟩ | q) | ⟨_, q⟩)
      · exact q
      · exact (hx (con_mem q).1).elim
      · exact (hx (List.mem_of_getLast? q)).elim
    · exact fun q => .inl (.inl ⟨rfl, q⟩)
  have e2 : nx (x :: g.fr) v x ↔ g.fr.getLast? = some v := by
    rw [nx_cons, con_cons]
    constructor
    · rintro ((⟨_, q⟩ | q) | ⟨_, q⟩)
      · exact (hx (List.mem_of_head? q)).elim
      · exact (hx (con_mem q).2).elim
      · exact q
    · exact fun q => .inr ⟨rfl, q⟩
  constructor
  · rintro (q | q | q | q)
    · exact (no_es h hxr q).elim
    · left
      have q' : (v, x) ∈ (u, x) :: g.es u := q
      rcases List.mem_cons.1 q' with e | e
      · exact (Prod.mk.inj e).1
      · exact (hn.1 (es_mem e).2).elim
    · exact .inr (.inl (e1.1 q))
    · exact .inr (.inr (e2.1 q))
  · rintro (rfl | q | q)
    · exact .inr (.inl List.mem_cons_self)
    · exact .inr (.inr (.inl (e1.2 q)))
    · exact .inr (.inr (.inr (e2.2 q)))
end Go.Proofs.Ytnmocjhpbobahaa.H
namespace Go.Proofs.Ytnmocjhpbobahaa.H
open F
theorem Sim.vlen {u u' : Nat} {f f' : F} (h : Hal u f) (s : Sim u f u' f') : f.vs.length = f'.vs.length := by
  have hp : List.Perm (u :: f.vs) (u' :: f'.vs) := (List.perm_ext_iff_of_nodup h.nd s.hal.nd).2 s.vs
  have := hp.length_eq
  simpa using this
theorem E_mem {u : Nat} {f : F} {v w : Nat} (h : E u f v w) : v ∈ u :: f.vs := by
  rcases h with q | q | q | q
  · rcases (es_mem q).1 with e | e
    · have e : v = u := e
      rw [e]; exact List.mem_cons_self
    · exact List.mem_cons_of_mem _ (inn_sub e)
  · exact List.mem_cons_of_mem _ (es_mem q).2
  · exact List.mem_cons_of_mem _ (fr_sub (nx_mem q).1)
  · exact List.mem_cons_of_mem _ (fr_sub (nx_mem q).2)
theorem es_up : ∀ {f : F} {p v : Nat}, v ∈ f.vs → ∃ w, (w, v) ∈ f.es p
  | nil, _, _, h => by cases h
  | leaf x s, p, v, h => by
    rcases List.mem_cons.1 h with rfl | h
    · exact ⟨p, List.mem_cons_self⟩
    · obtain ⟨w, hw⟩ := es_up (f := s) (p := p) h
      exact ⟨w, List.mem_cons_of_mem _ hw⟩
  | node x k s, p, v, h => by
    rcases List.mem_cons.1 h with rfl | h
    · exact ⟨p, List.mem_cons_self⟩
    · rcases List.mem_append.1 h with h | h
      · obtain ⟨w, hw⟩ := es_up (f := k) (p := x) h
        exact ⟨w, List.mem_cons_of_mem _ (List.mem_append_left _ hw)⟩
      · obtain ⟨w, hw⟩ := es_up (f := s) (p := p) h
        exact ⟨w, List.mem_cons_of_mem _ (List.mem_append_right _ hw)⟩
/-- A leaf at an inner vertex: that one as root, the leaf first. -/
theorem leaf_first {u : Nat} {f : F} (h : Hal u f) {w x : Nat} (hwn : w ∉ f.fr) (hx : x ∈ f.fr) (e : E u f w x) : ∃ g, Sim u f w (leaf x g) := by
  obtain ⟨f1, s1⟩ := re_root h (E_mem e) hwn
  have ht := (E_root s1.hal).1 ((s1.e w x).1 e)
  obtain ⟨a, b, rfl⟩ := top_leaf (List.nodup_cons.1 s1.hal.nd).2 ht ((s1.fr x).1 hx)
  exact ⟨b.app a, s1.trans (rot_sim s1.hal)⟩
theorem up_leaf {u : Nat} {f : F} (h : Hal u f) {x : Nat} (hx : x ∈ f.fr) : ∃ w g, w ∉ f.fr ∧ E u f w x ∧ Sim u f w (leaf x g) := by
  obtain ⟨w, hw⟩ := es_up (p := u) (fr_sub hx)
  have hwn : w ∉ f.fr := fun q => no_es h q hw
  have e : E u f w x := .inl hw
  obtain ⟨g, s⟩ := leaf_first h hwn hx e
  exact ⟨w, g, hwn, e, s⟩
theorem app_split {a b : F} {y : Nat} (hn : (a.app (leaf y b)).vs.Nodup) (ho : (a.app (leaf y b)).ok) : ((a.app (leaf y b)).fr.head? = some y → a = nil) ∧ ((a.app (leaf y b)).fr.getLast? = some y → b = nil) := by
  rw [app_vs, List.nodup_append] at hn
  rw [app_ok] at ho
  rw [app_fr]
  constructor
  · intro h
    refine fr_nil ho.1 ?_
    cases ha : a.fr with
    | nil => rfl
    | cons z l =>
      rw [ha] at h
      have e : z = y := by simpa using h
      exact (hn.2.2 z (fr_sub (by rw [ha]; exact List.mem_cons_self)) y List.mem_cons_self e).elim
  · intro h
    refine fr_nil ho.2 ?_
    cases hb : b.fr with
    | nil => rfl
    | cons z l =>
      have h' : (a.fr ++ y :: b.fr).getLast? = some y := h
      have hy : y ∈ b.fr := by
        rw [List.getLast?_append, hb, List.getLast?_cons_cons] at h'
        have : (z :: l).getLast? = some y := by
          cases hl : (z :: l).getLast? with
          | none => simp at hl
          | some q => rw [hl] at h'; simpa using h'
        rw [hb]; exact List.mem_of_getLast? this
      exact ((List.nodup_cons.1 hn.2.1).1 (fr_sub hy)).elim
/-- Two leaves that are neighbours, below the same inner vertex: they come first. -/
theorem pair_of {u : Nat} {f : F} (h : Hal u f) {w x y : Nat} (hwn : w ∉ f.fr) (hx : x ∈ f.fr) (hy : y ∈ f.fr) (hxy : x ≠ y) (ex : E u f w x) (ey : E u f w y) (exy : E u f x y) : ∃ g, Sim u f w (leaf x (leaf y g)) ∨ Sim u f w (leaf y (leaf x g)) := by
  obtain ⟨g0, s⟩ := leaf_first h hwn hx ex
  have hn := (List.nodup_cons.1 s.hal.nd).2
  have hn0 : g0.vs.Nodup := (List.nodup_cons.1 hn).2
  have ho : g0.ok := s.hal.ok
  have hyt : y ∈ g0.tops := (List.mem_cons.1 ((E_root s.hal).1 ((s.e w y).1 ey))).resolve_left (fun e => hxy e.symm)
  have hyf : y ∈ g0.fr := (List.mem_cons.1 ((s.fr y).1 hy)).resolve_left (fun e => hxy e.symm)
  obtain ⟨a, b, rfl⟩ := top_leaf hn0 hyt hyf
  obtain ⟨k1, k2⟩ := app_split hn0 ho
  rcases (E_first s.hal).1 ((s.e x y).1 exy) with e | e | e
  · exact (hwn (e ▸ hy)).elim
  · obtain rfl := k1 e
    exact ⟨b, .inl s⟩
  · obtain rfl := k2 e
    have r := rot_sim (u := w) (f := leaf x a) (g := leaf y nil) s.hal
    exact ⟨a, .inr (s.trans r)⟩
theorem two_inner {u : Nat} {f : F} (h : Hal u f) {p q r : Nat} (hp : p ∉ f.fr) (hq : q ∉ f.fr) (hpq : p ≠ q) (hpr : p ≠ r) (hqr : q ≠ r) (e1 : E u f p q) (e2 : E u f p r) (e3 : E u f q r) : False := by
  obtain ⟨f1, s1⟩ := re_root h (E_mem e1) hp
  have hq1 : q ∉ f1.fr := fun k => hq ((s1.fr q).2 k)
  have ht := (E_root s1.hal).1 ((s1.e p q).1 e1)
  have hn1 := (List.nodup_cons.1 s1.hal.nd).2
  obtain ⟨a, k, b, rfl⟩ := top_node hn1 ht ((vs_or (tops_sub ht)).resolve_left hq1)
  have s2 := rot_sim (f := a) (g := node q k b) s1.hal
  have s := s1.trans s2
  change Sim u f p (node q k (b.app a)) at s
  have hn := s.hal.nd
  rw [List.nodup_cons, vs, List.nodup_cons, List.nodup_append] at hn
  obtain ⟨n1, n2, n3, n4, n5⟩ := hn
  have hr : r ∈ (b.app a).tops := (List.mem_cons.1 ((E_root s.hal).1 ((s.e p r).1 e2))).resolve_left (fun e => hqr e.symm)
  have hrs := tops_sub hr
  have hqs : q ∉ k.vs ∧ q ∉ (b.app a).vs := ⟨fun e => n2 (List.mem_append_left _ e), fun e => n2 (List.mem_append_right _ e)⟩
  rcases (s.e q r).1 e3 with e | e | e | e
  · have e : (q, r) ∈ (p, q) :: (k.es q ++ (b.app a).es p) := e
    rcases List.mem_cons.1 e with e | e
    · exact hpq (Prod.mk.inj e).1.symm
    · rcases List.mem_append.1 e with e | e
      · exact n5 _ (es_mem e).2 _ hrs rfl
      · rcases (es_mem e).1 with e | e
        · exact hpq (show p = q from e.symm)
        · exact hqs.2 (inn_sub e)
  · have e : (r, q) ∈ (p, q) :: (k.es q ++ (b.app a).es p) := e
    rcases List.mem_cons.1 e with e | e
    · exact hpr (Prod.mk.inj e).1.symm
    · rcases List.mem_append.1 e with e | e
      · exact hqs.1 (es_mem e).2
      · exact hqs.2 (es_mem e).2
  · exact hq ((s.fr q).2 (nx_mem e).1)
  · exact hq ((s.fr q).2 (nx_mem e).2)
theorem len_flat : ∀ {f : F}, f.ok → f.fr.length ≤ f.len → f.vs = f.fr
  | nil, _, _ => rfl
  | leaf v s, ho, h => by
    have := len_flat (f := s) ho (by simpa [F.len, fr] using h)
    rw [vs, fr, this]
  | node v k s, ho, h => by
    have h1 := len_fr ho.2.1
    have h2 := len_fr ho.2.2
    have := ho.1
    simp only [F.len, fr, List.length_append] at h
    omega
theorem three_row {l : List Nat} {a b c : Nat} (hn : (a :: l).Nodup) (hab : a ≠ b) (hac : a ≠ c) (hbc : b ≠ c) (hb : l.head? = some b) (hc : l.getLast? = some c) (hx : nx (a :: l) b c ∨ nx (a :: l) c b) : l = [b, c] := by
  cases l with
  | nil => cases hb
  | cons b' m =>
    obtain rfl : b' = b := Option.some.inj hb
    rw [List.nodup_cons, List.nodup_cons] at hn
    obtain ⟨n1, n2, n3⟩ := hn
    cases m with
    | nil => exact (hbc (Option.some.inj hc)).elim
    | cons d m =>
      rw [List.getLast?_cons_cons] at hc
      have key : con (d :: m) b' c → False := fun q => n2 (con_mem q).1
      have key2 : con (d :: m) c b' → False := fun q => n2 (con_mem q).2
      rcases hx with hx | hx
      · rw [nx_cons, con_cons, con_cons] at hx
        rcases hx with (⟨e, _⟩ | ⟨_, e⟩ | e) | ⟨e, _⟩
        · exact (hab e.symm).elim
        · obtain rfl : d = c := Option.some.inj e
          cases m with
          | nil => rfl
          | cons z m =>
            rw [List.getLast?_cons_cons] at hc
            exact ((List.nodup_cons.1 n3).1 (List.mem_of_getLast? hc)).elim
        · exact (key e).elim
        · exact (hac e.symm).elim
      · rw [nx_cons, con_cons, con_cons] at hx
        rcases hx with (⟨e, _⟩ | ⟨e, _⟩ | e) | ⟨e, _⟩
        · exact (hac e.symm).elim
        · exact (hbc e.symm).elim
        · exact (key2 e).elim
        · exact (hab e.symm).elim
theorem all_leaves {u : Nat} {f : F} (h : Hal u f) {a b c : Nat} (ha : a ∈ f.fr) (hb : b ∈ f.fr) (hc : c ∈ f.fr) (hab : a ≠ b) (hac : a ≠ c) (hbc : b ≠ c) (e1 : E u f a b) (e2 : E u f a c) (e3 : E u f b c) : f.vs.length = 3 := by
  obtain ⟨w, g, hw, _, s⟩ := up_leaf h ha
  rw [s.vlen h]
  have hn := (List.nodup_cons.1 s.hal.nd).2
  have hnf : (a :: g.fr).Nodup := by
    have n1 := List.nodup_cons.1 hn
    have : ∀ {f : F}, f.vs.Nodup → f.fr.Nodup := by
      intro f
      induction f with
      | nil => exact id
      | leaf v t ih =>
        intro k
        rw [vs, List.nodup_cons] at k
        rw [fr, List.nodup_cons]
        exact ⟨fun q => k.1 (fr_sub q), ih k.2⟩
      | node v t t' ih ih' =>
        intro k
        rw [vs, List.nodup_cons, List.nodup_append] at k
        rw [fr, List.nodup_append]
        exact ⟨ih k.2.1, ih' k.2.2.1, fun x hx y hy => k.2.2.2 x (fr_sub hx) y (fr_sub hy)⟩
    rw [List.nodup_cons]
    exact ⟨fun q => n1.1 (fr_sub q), this n1.2⟩
  have f3 := (E_leaves s.hal ((s.fr b).1 hb) ((s.fr c).1 hc)).1 ((s.e b c).1 e3)
  have bw : b ≠ w := fun e => hw (e ▸ hb)
  have cw : c ≠ w := fun e => hw (e ▸ hc)
  have k1 := ((E_first s.hal).1 ((s.e a b).1 e1)).resolve_left bw
  have k2 := ((E_first s.hal).1 ((s.e a c).1 e2)).resolve_left cw
  have row : g.fr = [b, c] ∨ g.fr = [c, b] := by
    rcases k1 with k1 | k1 <;> rcases k2 with k2 | k2
    · rw [k1] at k2; exact (hbc (Option.some.inj k2)).elim
    · exact .inl (three_row hnf hab hac hbc k1 k2 f3)
    · exact .inr (three_row hnf hac hab (fun e => hbc e.symm) k2 k1 f3.symm)
    · rw [k1] at k2; exact (hbc (Option.some.inj k2)).elim
  have hl : g.fr.length = 2 := by rcases row with q | q <;> rw [q] <;> rfl
  have hlen := s.hal.len
  simp only [F.len] at hlen
  have hg : g.vs = g.fr := len_flat s.hal.ok (by omega)
  rw [vs, hg, List.length_cons, hl]
/-- Of a triangle just one is inner. -/
theorem tri_one {u : Nat} {f : F} (h : Hal u f) (h4 : f.vs.length ≠ 3) {a b c : Nat} (hab : a ≠ b) (hac : a ≠ c) (hbc : b ≠ c) (e1 : E u f a b) (e2 : E u f a c) (e3 : E u f b c) : (a ∉ f.fr ∧ b ∈ f.fr ∧ c ∈ f.fr) ∨ (b ∉ f.fr ∧ a ∈ f.fr ∧ c ∈ f.fr) ∨ (c ∉ f.fr ∧ a ∈ f.fr ∧ b ∈ f.fr) := by
  by_cases ha : a ∈ f.fr
  · by_cases hb : b ∈ f.fr
    · by_cases hc : c ∈ f.fr
      · exact (h4 (all_leaves h ha hb hc hab hac hbc e1 e2 e3)).elim
      · exact .inr (.inr ⟨hc, ha, hb⟩)
    · by_cases hc : c ∈ f.fr
      · exact .inr (.inl ⟨hb, ha, hc⟩)
      · exact (two_inner h hb hc hbc (fun e => hab e.symm) (fun e => hac e.symm) e3 (E_symm e1) (E_symm e2)).elim
  · by_cases hb : b ∈ f.fr
    · by_cases hc : c ∈ f.fr
      · exact .inl ⟨ha, hb, hc⟩
      · exact (two_inner h ha hc hac hab (fun e => hbc e.symm) e2 e1 (E_symm e3)).elim
    · exact (two_inner h ha hb hab hac hbc e1 e2 e3).elim
end Go.Proofs.Ytnmocjhpbobahaa.H
namespace Go.Proofs.Ytnmocjhpbobahaa.H
open F
structure Rep (V : Nat → Prop) (A : Nat → Nat → Prop) (L : Nat → Prop) (u : Nat) (f : F) : Prop where
  hal : Hal u f
  v : ∀ v, V v ↔ v ∈ u :: f.vs
  a : ∀ v w, A v w ↔ E u f v w
  l : ∀ v, L v ↔ v ∈ f.fr
theorem Rep.sim {V : Nat → Prop} {A : Nat → Nat → Prop} {L : Nat → Prop} {u u' : Nat} {f f' : F} (h : Rep V A L u f) (s : Sim u f u' f') : Rep V A L u' f' :=
  ⟨s.hal, fun v => (h.v v).trans (s.vs v), fun v w => (h.a v w).trans (s.e v w), fun v => (h.l v).trans (s.fr v)⟩
def Rim (V : Nat → Prop) (A : Nat → Nat → Prop) (L : Nat → Prop) : Prop := ∃ u f, Rep V A L u f
theorem last_cons {y : Nat} {l : List Nat} {s : Nat} (h : l.getLast? = some s) : (y :: l).getLast? = some s := by
  cases l with
  | nil => cases h
  | cons z l => rw [List.getLast?_cons_cons]; exact h
/-- One leaf less, the second. -/
theorem less2 {c x y s t : Nat} {g : F} (h : Hal c (leaf x (leaf y g))) (hh : g.fr.head? = some t) (hl : g.fr.getLast? = some s) (v w : Nat) : E c (leaf x g) v w ↔ (E c (leaf x (leaf y g)) v w ∧ v ≠ y ∧ w ≠ y) ∨ (v = x ∧ w = t) ∨ (v = t ∧ w = x) := by
  have nd := h.nd
  simp only [vs, List.nodup_cons, List.mem_cons, not_or] at nd
  obtain ⟨⟨cx, cy, cg⟩, ⟨xy, xg⟩, yg, _⟩ := nd
  have yf : y ∉ g.fr := fun q => yg (fr_sub q)
  have ty : t ≠ y := fun e => yf (e ▸ List.mem_of_head? hh)
  have sy : s ≠ y := fun e => yf (e ▸ List.mem_of_getLast? hl)
  have n1 : ∀ v w, nx (x :: y :: g.fr) v w ↔ (v = x ∧ w = y) ∨ (v = y ∧ w = t) ∨ con g.fr v w ∨ (v = s ∧ w = x) := fun v w => by
    rw [nx_cons, con_cons, con_cons, last_cons hl, hh]
    simp only [List.head?_cons, Option.some.injEq]
    grind
  have n2 : ∀ v w, nx (x :: g.fr) v w ↔ (v = x ∧ w = t) ∨ con g.fr v w ∨ (v = s ∧ w = x) := fun v w => by
    rw [nx_cons, con_cons, hl, hh]
    simp only [Option.some.injEq]
    grind
  have cn : ∀ v w, con g.fr v w → v ≠ y ∧ w ≠ y := fun v w q => ⟨fun e => yf (e ▸ (con_mem q).1), fun e => yf (e ▸ (con_mem q).2)⟩
  have en : ∀ v w, (v, w) ∈ g.es c → v ≠ y ∧ w ≠ y := fun v w q => by
    refine ⟨fun e => ?_, fun e => yg (e ▸ (es_mem q).2)⟩
    rcases (es_mem q).1 with k | k
    · exact cy (show c = y from (show v = c from k) ▸ e)
    · exact yg (e ▸ inn_sub k)
  unfold E
  simp only [es, fr, List.mem_cons, Prod.mk.injEq, n1, n2]
  have c1 := cn v w
  have c2 := cn w v
  have d1 := en v w
  have d2 := en w v
  grind
/-- One leaf less, the first. -/
theorem less1 {c x y s t : Nat} {g : F} (h : Hal c (leaf y (leaf x g))) (hh : g.fr.head? = some s) (hl : g.fr.getLast? = some t) (v w : Nat) : E c (leaf x g) v w ↔ (E c (leaf y (leaf x g)) v w ∧ v ≠ y ∧ w ≠ y) ∨ (v = x ∧ w = t) ∨ (v = t ∧ w = x) := by
  have nd := h.nd
  simp only [vs, List.nodup_cons, List.mem_cons, not_or] at nd
  obtain ⟨⟨cy, cx, cg⟩, ⟨yx, yg⟩, xg, _⟩ := nd
  have yf : y ∉ g.fr := fun q => yg (fr_sub q)
  have ty : t ≠ y := fun e => yf (e ▸ List.mem_of_getLast? hl)
  have sy : s ≠ y := fun e => yf (e ▸ List.mem_of_head? hh)
  have n1 : ∀ v w, nx (y :: x :: g.fr) v w ↔ (v = y ∧ w = x) ∨ (v = x ∧ w = s) ∨ con g.fr v w ∨ (v = t ∧ w = y) := fun v w => by
    rw [nx_cons, con_cons, con_cons, last_cons hl, hh]
    simp only [List.head?_cons, Option.some.injEq]
    grind
  have n2 : ∀ v w, nx (x :: g.fr) v w ↔ (v = x ∧ w = s) ∨ con g.fr v w ∨ (v = t ∧ w = x) := fun v w => by
    rw [nx_cons, con_cons, hl, hh]
    simp only [Option.some.injEq]
    grind
  have cn : ∀ v w, con g.fr v w → v ≠ y ∧ w ≠ y := fun v w q => ⟨fun e => yf (e ▸ (con_mem q).1), fun e => yf (e ▸ (con_mem q).2)⟩
  have en : ∀ v w, (v, w) ∈ g.es c → v ≠ y ∧ w ≠ y := fun v w q => by
    refine ⟨fun e => ?_, fun e => yg (e ▸ (es_mem q).2)⟩
    rcases (es_mem q).1 with k | k
    · exact cy (show c = y from (show v = c from k) ▸ e)
    · exact yg (e ▸ inn_sub k)
  unfold E
  simp only [es, fr, List.mem_cons, Prod.mk.injEq, n1, n2]
  have c1 := cn v w
  have c2 := cn w v
  have d1 := en v w
  have d2 := en w v
  grind
theorem fr_ends {g : F} (ho : g.ok) (hg : 1 ≤ g.len) : ∃ a b, g.fr.head? = some a ∧ g.fr.getLast? = some b := by
  have := len_fr ho
  cases hf : g.fr with
  | nil => rw [hf] at this; simp at this; omega
  | cons a l => exact ⟨a, (a :: l).getLast (by simp), rfl, List.getLast?_eq_some_getLast (by simp)⟩
theorem tops_one {g : F} (h : g.len = 1) : ∃ r, g.tops = [r] := by
  match g, h with
  | leaf r nil, _ => exact ⟨r, rfl⟩
  | node r k nil, _ => exact ⟨r, rfl⟩
  | leaf r (leaf _ s), h => simp [F.len] at h
  | leaf r (node _ _ s), h => simp [F.len] at h
  | node r _ (leaf _ s), h => simp [F.len] at h
  | node r _ (node _ _ s), h => simp [F.len] at h
theorem fr_nodup : ∀ {f : F}, f.vs.Nodup → f.fr.Nodup
  | nil, _ => List.nodup_nil
  | leaf v t, k => by
    rw [vs, List.nodup_cons] at k
    rw [fr, List.nodup_cons]
    exact ⟨fun q => k.1 (fr_sub q), fr_nodup (f := t) k.2⟩
  | node v t t', k => by
    rw [vs, List.nodup_cons, List.nodup_append] at k
    rw [fr, List.nodup_append]
    exact ⟨fr_nodup (f := t) k.2.1, fr_nodup (f := t') k.2.2.1, fun x hx y hy => k.2.2.2 x (fr_sub hx) y (fr_sub hy)⟩
theorem ends_ne {g : F} (hn : g.vs.Nodup) (ho : g.ok) (h2 : 2 ≤ g.len) {s t : Nat} (hh : g.fr.head? = some t) (hl : g.fr.getLast? = some s) : s ≠ t := by
  rintro rfl
  have h3 := len_fr ho
  have hn := fr_nodup hn
  cases hf : g.fr with
  | nil => rw [hf] at h3; simp at h3; omega
  | cons a l =>
    rw [hf] at hh hl hn h3
    obtain rfl : a = s := Option.some.inj hh
    cases l with
    | nil => simp at h3; omega
    | cons b l =>
      rw [List.getLast?_cons_cons] at hl
      exact (List.nodup_cons.1 hn).1 (List.mem_of_getLast? hl)
section
variable {V : Nat → Prop} {A : Nat → Nat → Prop} {L : Nat → Prop} {c x y s t : Nat}
/-- Wide: an apex c, two leaves x and y of it, their outer neighbours s and t. -/
structure Wd (V : Nat → Prop) (A : Nat → Nat → Prop) (c x y s t : Nat) : Prop where
  cx : c ≠ x
  cy : c ≠ y
  xy : x ≠ y
  sc : s ≠ c
  sx : s ≠ x
  sy : s ≠ y
  tc : t ≠ c
  tx : t ≠ x
  ty : t ≠ y
  ax : ∀ v, A x v ↔ v = c ∨ v = y ∨ v = s
  ay : ∀ v, A y v ↔ v = c ∨ v = x ∨ v = t
  sym : ∀ v w, A v w → A w v
  vy : V y
abbrev offV (V : Nat → Prop) (y : Nat) : Nat → Prop := fun v => V v ∧ v ≠ y
abbrev wdA (A : Nat → Nat → Prop) (x y t : Nat) : Nat → Nat → Prop := fun v w => (A v w ∧ v ≠ y ∧ w ≠ y) ∨ (v = x ∧ w = t) ∨ (v = t ∧ w = x)
theorem wide_fwd (h : Rim V A L) (hb : ∀ u f, Rep V A L u f → f.vs.length ≠ 3) (k : Wd V A c x y s t) (hc : ¬ ∃ r, ∀ v, A c v → v = x ∨ v = y ∨ v = r) (hcl : ¬ L c) : L x ∧ L y ∧ L s ∧ L t ∧ s ≠ t ∧ Rim (offV V y) (wdA A x y t) (offV L y) := by
  obtain ⟨u, f, h⟩ := h
  have ecx : A c x := k.sym _ _ ((k.ax c).2 (.inl rfl))
  have ecy : A c y := k.sym _ _ ((k.ay c).2 (.inl rfl))
  have exy : A x y := (k.ax y).2 (.inr (.inl rfl))
  have cn : c ∉ f.fr := fun q => hcl ((h.l c).2 q)
  have hxy : x ∈ f.fr ∧ y ∈ f.fr := by
    rcases tri_one h.hal (hb u f h) k.cx k.cy k.xy ((h.a _ _).1 ecx) ((h.a _ _).1 ecy) ((h.a _ _).1 exy) with q | q | q
    · exact q.2
    · exact (cn q.2.1).elim
    · exact (cn q.2.1).elim
  obtain ⟨g, hs⟩ := pair_of h.hal cn hxy.1 hxy.2 k.xy ((h.a _ _).1 ecx) ((h.a _ _).1 ecy) ((h.a _ _).1 exy)
  have lx := (h.l x).2 hxy.1
  have ly := (h.l y).2 hxy.2
  rcases hs with hs | hs
  · have r := h.sim hs
    have hlen := r.hal.len
    simp only [F.len] at hlen
    have nd := r.hal.nd
    simp only [vs, List.nodup_cons, List.mem_cons, not_or] at nd
    obtain ⟨⟨_, _, cg⟩, ⟨_, xg⟩, yg, gn⟩ := nd
    have g2 : 2 ≤ g.len := by
      rcases (by omega : g.len = 1 ∨ 2 ≤ g.len) with q | q
      · obtain ⟨r', hr'⟩ := tops_one q
        refine (hc ⟨r', fun v hv => ?_⟩).elim
        have := (E_root r.hal).1 ((r.a c v).1 hv)
        simp only [tops, List.mem_cons, hr', List.not_mem_nil, or_false] at this
        exact this
      · exact q
    have go : g.ok := r.hal.ok
    obtain ⟨t0, s0, hh, hl⟩ := fr_ends go (by omega)
    have e1 := (E_first r.hal).1 ((r.a x s).1 ((k.ax s).2 (.inr (.inr rfl))))
    have r2 := r.sim (rot_sim (u := c) (f := leaf x nil) (g := leaf y g) r.hal)
    have e2 := (E_first (x := y) (g := g.app (leaf x nil)) r2.hal).1 ((r2.a y t).1 ((k.ay t).2 (.inr (.inr rfl))))
    obtain rfl : s0 = s := by
      rcases e1 with e | e | e
      · exact (k.sc e).elim
      · exact (k.sy (Option.some.inj e).symm).elim
      · have e : (y :: g.fr).getLast? = some s := e
        rw [last_cons hl] at e; exact Option.some.inj e
    obtain rfl : t0 = t := by
      rcases e2 with e | e | e
      · exact (k.tc e).elim
      · rw [app_fr, List.head?_append, hh] at e; exact Option.some.inj e
      · rw [app_fr] at e
        simp only [fr, List.getLast?_append, List.getLast?_singleton, Option.some_or, Option.some.injEq] at e
        exact (k.tx e.symm).elim
    have st := ends_ne gn go g2 hh hl
    refine ⟨lx, ly, (r.l s0).2 (List.mem_cons_of_mem _ (List.mem_cons_of_mem _ (List.mem_of_getLast? hl))), (r.l t0).2 (List.mem_cons_of_mem _ (List.mem_cons_of_mem _ (List.mem_of_head? hh))), st, c, leaf x g, ⟨⟨by simp only [F.len]; omega, go, ?_⟩, fun v => ?_, fun v w => ?_, fun v => ?_⟩⟩
    · simp only [vs, List.nodup_cons, List.mem_cons, not_or]
      exact ⟨⟨k.cx, cg⟩, xg, gn⟩
    · show V v ∧ v ≠ y ↔ _
      rw [r.v]
      simp only [vs, List.mem_cons]
      have := k.cy; have := k.xy
      grind
    · show (A v w ∧ v ≠ y ∧ w ≠ y) ∨ _ ∨ _ ↔ _
      rw [less2 r.hal hh hl v w, r.a]
    · show L v ∧ v ≠ y ↔ _
      rw [r.l]
      simp only [fr, List.mem_cons]
      have := k.xy
      have : y ∉ g.fr := fun q => yg (fr_sub q)
      grind
  · have r := h.sim hs
    have hlen := r.hal.len
    simp only [F.len] at hlen
    have nd := r.hal.nd
    simp only [vs, List.nodup_cons, List.mem_cons, not_or] at nd
    obtain ⟨⟨_, _, cg⟩, ⟨_, yg⟩, xg, gn⟩ := nd
    have g2 : 2 ≤ g.len := by
      rcases (by omega : g.len = 1 ∨ 2 ≤ g.len) with q | q
      · obtain ⟨r', hr'⟩ := tops_one q
        refine (hc ⟨r', fun v hv => ?_⟩).elim
        have := (E_root r.hal).1 ((r.a c v).1 hv)
        simp only [tops, List.mem_cons, hr', List.not_mem_nil, or_false] at this
        grind
      · exact q
    have go : g.ok := r.hal.ok
    obtain ⟨s0, t0, hh, hl⟩ := fr_ends go (by omega)
    have e1 := (E_first r.hal).1 ((r.a y t).1 ((k.ay t).2 (.inr (.inr rfl))))
    have r2 := r.sim (rot_sim (u := c) (f := leaf y nil) (g := leaf x g) r.hal)
    have e2 := (E_first (x := x) (g := g.app (leaf y nil)) r2.hal).1 ((r2.a x s).1 ((k.ax s).2 (.inr (.inr rfl))))
    obtain rfl : t0 = t := by
      rcases e1 with e | e | e
      · exact (k.tc e).elim
      · exact (k.tx (Option.some.inj e).symm).elim
      · have e : (x :: g.fr).getLast? = some t := e
        rw [last_cons hl] at e; exact Option.some.inj e
    obtain rfl : s0 = s := by
      rcases e2 with e | e | e
      · exact (k.sc e).elim
      · rw [app_fr, List.head?_append, hh] at e; exact Option.some.inj e
      · rw [app_fr] at e
        simp only [fr, List.getLast?_append, List.getLast?_singleton, Option.some_or, Option.some.injEq] at e
        exact (k.sy e.symm).elim
    have st : s0 ≠ t0 := (ends_ne gn go g2 hh hl).symm
    refine ⟨lx, ly, (r.l s0).2 (List.mem_cons_of_mem _ (List.mem_cons_of_mem _ (List.mem_of_head? hh))), (r.l t0).2 (List.mem_cons_of_mem _ (List.mem_cons_of_mem _ (List.mem_of_getLast? hl))), st, c, leaf x g, ⟨⟨by simp only [F.len]; omega, go, ?_⟩, fun v => ?_, fun v w => ?_, fun v => ?_⟩⟩
    · simp only [vs, List.nodup_cons, List.mem_cons, not_or]
      exact ⟨⟨k.cx, cg⟩, xg, gn⟩
    · show V v ∧ v ≠ y ↔ _
      rw [r.v]
      simp only [vs, List.mem_cons]
      have := k.cy; have := k.xy
      grind
    · show (A v w ∧ v ≠ y ∧ w ≠ y) ∨ _ ∨ _ ↔ _
      rw [less1 r.hal hh hl v w, r.a]
    · show L v ∧ v ≠ y ↔ _
      rw [r.l]
      simp only [fr, List.mem_cons]
      have := k.xy
      have : y ∉ g.fr := fun q => yg (fr_sub q)
      grind
end
end Go.Proofs.Ytnmocjhpbobahaa.H
namespace Go.Proofs.Ytnmocjhpbobahaa.H
open F
section
variable {V : Nat → Prop} {A : Nat → Nat → Prop} {L : Nat → Prop} {c x y s t : Nat}
theorem wide_bwd (h : Rim (offV V y) (wdA A x y t) L) (k : Wd V A c x y s t) (st : s ≠ t) (xt : ¬ A x t) (lc : ¬ L c) (lx : L x) : Rim V A (fun v => L v ∨ v = y) := by
  obtain ⟨u, f, h⟩ := h
  have acx : wdA A x y t c x := .inl ⟨k.sym _ _ ((k.ax c).2 (.inl rfl)), k.cy, k.xy⟩
  obtain ⟨g, hs⟩ := leaf_first h.hal (fun q => lc ((h.l c).2 q)) ((h.l x).1 lx) ((h.a _ _).1 acx)
  have r := h.sim hs
  have hy : y ∉ c :: x :: g.vs := fun q => ((r.v y).2 q).2 rfl
  have go : g.ok := r.hal.ok
  have hlen := r.hal.len
  simp only [F.len] at hlen
  have nd := r.hal.nd
  simp only [vs, List.nodup_cons, List.mem_cons, not_or] at nd hy
  obtain ⟨⟨_, cg⟩, xg, gn⟩ := nd
  obtain ⟨_, _, yg⟩ := hy
  have e1 := (E_first r.hal).1 ((r.a x s).1 (.inl ⟨(k.ax s).2 (.inr (.inr rfl)), k.xy, k.sy⟩))
  have e2 := (E_first r.hal).1 ((r.a x t).1 (.inr (.inl ⟨rfl, rfl⟩)))
  have ends : (g.fr.head? = some t ∧ g.fr.getLast? = some s) ∨ (g.fr.head? = some s ∧ g.fr.getLast? = some t) := by
    rcases e1 with e | e | e
    · exact (k.sc e).elim
    · rcases e2 with e' | e' | e'
      · exact (k.tc e').elim
      · rw [e] at e'; exact (st (Option.some.inj e')).elim
      · exact .inr ⟨e, e'⟩
    · rcases e2 with e' | e' | e'
      · exact (k.tc e').elim
      · exact .inl ⟨e', e⟩
      · rw [e] at e'; exact (st (Option.some.inj e')).elim
  have cy := k.cy
  have cx := k.cx
  have xy := k.xy
  -- who is whose neighbour, but for y
  have key : ∀ (f' : F), (∀ v w, E c (leaf x g) v w ↔ (E c f' v w ∧ v ≠ y ∧ w ≠ y) ∨ (v = x ∧ w = t) ∨ (v = t ∧ w = x)) → ¬ E c f' x t → (∀ w, E c f' y w ↔ w = c ∨ w = x ∨ w = t) → ∀ v w, A v w ↔ E c f' v w := by
    intro f' h1 h2 h3 v w
    by_cases hv : v = y
    · subst hv; rw [h3, k.ay]
    · by_cases hw : w = y
      · subst hw
        constructor
        · intro q; exact E_symm ((h3 v).2 ((k.ay v).1 (k.sym _ _ q)))
        · intro q; exact k.sym _ _ ((k.ay v).2 ((h3 v).1 (E_symm q)))
      · have hh := (r.a v w).trans (h1 v w)
        have ha : (A v w ∧ v ≠ y ∧ w ≠ y) ∨ (v = x ∧ w = t) ∨ (v = t ∧ w = x) ↔ (E c f' v w ∧ v ≠ y ∧ w ≠ y) ∨ (v = x ∧ w = t) ∨ (v = t ∧ w = x) := hh
        have n1 : v = x → w = t → ¬ A v w ∧ ¬ E c f' v w := by rintro rfl rfl; exact ⟨xt, h2⟩
        have n2 : v = t → w = x → ¬ A v w ∧ ¬ E c f' v w := by rintro rfl rfl; exact ⟨fun q => xt (k.sym _ _ q), fun q => h2 (E_symm q)⟩
        grind
  rcases ends with ⟨hh, hl⟩ | ⟨hh, hl⟩
  · have hb : Hal c (leaf x (leaf y g)) := ⟨by simp only [F.len]; omega, go, by
      simp only [vs, List.nodup_cons, List.mem_cons, not_or]
      exact ⟨⟨cx, cy, cg⟩, ⟨xy, xg⟩, yg, gn⟩⟩
    have s2 := rot_sim (u := c) (f := leaf x nil) (g := leaf y g) hb
    refine ⟨c, leaf x (leaf y g), hb, fun v => ?_, key _ (less2 hb hh hl) ?_ ?_, fun v => ?_⟩
    · have := r.v v
      have vy := k.vy
      simp only [vs, List.mem_cons] at this ⊢
      have : V v ∧ v ≠ y ↔ v = c ∨ v = x ∨ v ∈ g.vs := this
      grind
    · intro q
      rcases (E_first hb).1 q with e | e | e
      · exact k.tc e
      · exact k.ty (Option.some.inj e).symm
      · have e : (y :: g.fr).getLast? = some t := e
        rw [last_cons hl] at e; exact st (Option.some.inj e)
    · intro w
      rw [show E c (leaf x (leaf y g)) y w ↔ E c (leaf y (g.app (leaf x nil))) y w from s2.e y w]
      rw [E_first (x := y) (g := g.app (leaf x nil)) s2.hal, app_fr, List.head?_append, hh]
      simp only [fr, List.getLast?_append, List.getLast?_singleton, Option.some_or, Option.some.injEq]
      grind
    · have := r.l v
      simp only [fr, List.mem_cons] at this ⊢
      grind
  · have hb : Hal c (leaf y (leaf x g)) := ⟨by simp only [F.len]; omega, go, by
      simp only [vs, List.nodup_cons, List.mem_cons, not_or]
      exact ⟨⟨cy, cx, cg⟩, ⟨fun e => xy e.symm, yg⟩, xg, gn⟩⟩
    have s2 := rot_sim (u := c) (f := leaf y nil) (g := leaf x g) hb
    refine ⟨c, leaf y (leaf x g), hb, fun v => ?_, key _ (less1 hb hh hl) ?_ ?_, fun v => ?_⟩
    · have := r.v v
      have vy := k.vy
      simp only [vs, List.mem_cons] at this ⊢
      have : V v ∧ v ≠ y ↔ v = c ∨ v = x ∨ v ∈ g.vs := this
      grind
    · intro q
      rw [show E c (leaf y (leaf x g)) x t ↔ E c (leaf x (g.app (leaf y nil))) x t from s2.e x t] at q
      rw [E_first (x := x) (g := g.app (leaf y nil)) s2.hal, app_fr, List.head?_append, hh] at q
      simp only [fr, List.getLast?_append, List.getLast?_singleton, Option.some_or, Option.some.injEq] at q
      rcases q with e | e | e
      · exact k.tc e
      · exact st e
      · exact k.ty e.symm
    · intro w
      rw [E_first hb]
      have e : (leaf x g).fr.getLast? = some t := last_cons hl
      rw [e]
      simp only [fr, List.head?_cons, Option.some.injEq]
      grind
    · have := r.l v
      simp only [fr, List.mem_cons] at this ⊢
      grind
end
/-! ### small cuts -/
section
variable {V : Nat → Prop} {A : Nat → Nat → Prop} {L : Nat → Prop} {a x y z p q o : Nat}
/-- Small: three that have three neighbours each: z with o outside, x with p, y with q; a is what stays of them. -/
structure Sm (V : Nat → Prop) (A : Nat → Nat → Prop) (a x y z p q o : Nat) : Prop where
  xy : x ≠ y
  xz : x ≠ z
  yz : y ≠ z
  px : p ≠ x
  py : p ≠ y
  pz : p ≠ z
  qx : q ≠ x
  qy : q ≠ y
  qz : q ≠ z
  ox : o ≠ x
  oy : o ≠ y
  oz : o ≠ z
  ax : ∀ v, A x v ↔ v = y ∨ v = z ∨ v = p
  ay : ∀ v, A y v ↔ v = x ∨ v = z ∨ v = q
  az : ∀ v, A z v ↔ v = x ∨ v = y ∨ v = o
  sym : ∀ v w, A v w → A w v
  vx : V x
  vy : V y
  vz : V z
  aa : a = x ∨ a = y ∨ a = z
abbrev smV (V : Nat → Prop) (a x y z : Nat) : Nat → Prop := fun v => (V v ∧ v ≠ x ∧ v ≠ y ∧ v ≠ z) ∨ v = a
abbrev smA (A : Nat → Nat → Prop) (a x y z p q o : Nat) : Nat → Nat → Prop := fun v w => (A v w ∧ (v ≠ x ∧ v ≠ y ∧ v ≠ z) ∧ w ≠ x ∧ w ≠ y ∧ w ≠ z) ∨ (v = a ∧ (w = p ∨ w = q ∨ w = o)) ∨ (w = a ∧ (v = p ∨ v = q ∨ v = o))
theorem Sm.swap (k : Sm V A a x y z p q o) : Sm V A a y x z q p o :=
  ⟨fun e => k.xy e.symm, k.yz, k.xz, k.qy, k.qx, k.qz, k.py, k.px, k.pz, k.oy, k.ox, k.oz, k.ay, k.ax, fun v => by rw [k.az]; grind, k.sym, k.vy, k.vx, k.vz, by have := k.aa; grind⟩
theorem Rim.congr {V V' : Nat → Prop} {A A' : Nat → Nat → Prop} {L L' : Nat → Prop} (h : Rim V A L) (hv : ∀ v, V v ↔ V' v) (ha : ∀ v w, A v w ↔ A' v w) (hl : ∀ v, L v ↔ L' v) : Rim V' A' L' := by
  obtain ⟨u, f, h⟩ := h
  exact ⟨u, f, h.hal, fun v => (hv v).symm.trans (h.v v), fun v w => (ha v w).symm.trans (h.a v w), fun v => (hl v).symm.trans (h.l v)⟩
theorem one_top {g : F} {o : Nat} (hn : g.vs.Nodup) (h1 : 1 ≤ g.len) (h : ∀ v ∈ g.tops, v = o) : g = leaf o nil ∨ ∃ k, g = node o k nil := by
  match g, hn, h1, h with
  | nil, _, h1, _ => simp [F.len] at h1
  | leaf v nil, _, _, h => left; rw [h v List.mem_cons_self]
  | node v k nil, _, _, h => right; exact ⟨k, by rw [h v List.mem_cons_self]⟩
  | leaf v (leaf w s), hn, _, h =>
    have e1 := h v List.mem_cons_self
    have e2 := h w (List.mem_cons_of_mem _ List.mem_cons_self)
    rw [vs, List.nodup_cons] at hn
    exact (hn.1 (by rw [e1, ← e2]; exact List.mem_cons_self)).elim
  | leaf v (node w k s), hn, _, h =>
    have e1 := h v List.mem_cons_self
    have e2 := h w (List.mem_cons_of_mem _ List.mem_cons_self)
    rw [vs, List.nodup_cons] at hn
    exact (hn.1 (by rw [e1, ← e2]; exact List.mem_cons_self)).elim
  | node v k (leaf w s), hn, _, h =>
    have e1 := h v List.mem_cons_self
    have e2 := h w (List.mem_cons_of_mem _ List.mem_cons_self)
    rw [vs, List.nodup_cons] at hn
    exact (hn.1 (by rw [e1, ← e2]; exact List.mem_append_right _ List.mem_cons_self)).elim
  | node v k (node w k' s), hn, _, h =>
    have e1 := h v List.mem_cons_self
    have e2 := h w (List.mem_cons_of_mem _ List.mem_cons_self)
    rw [vs, List.nodup_cons] at hn
    exact (hn.1 (by rw [e1, ← e2]; exact List.mem_append_right _ List.mem_cons_self)).elim
/-- The tree with the three, and with one leaf in their place. -/
theorem less3 {k : F} {h l : Nat} (hb : Hal o (k.app (node z (leaf x (leaf y nil)) nil))) (hh : k.fr.head? = some h) (hl : k.fr.getLast? = some l) (v w : Nat) :
    (E o (k.app (node z (leaf x (leaf y nil)) nil)) v w ↔ ((v, w) ∈ k.es o ∨ (w, v) ∈ k.es o ∨ con k.fr v w ∨ con k.fr w v) ∨ (v = o ∧ w = z) ∨ (w = o ∧ v = z) ∨ (v = z ∧ (w = x ∨ w = y)) ∨ (w = z ∧ (v = x ∨ v = y)) ∨ (v = x ∧ w = y) ∨ (w = x ∧ v = y) ∨ (v = y ∧ w = h) ∨ (w = y ∧ v = h) ∨ (v = l ∧ w = x) ∨ (w = l ∧ v = x)) ∧
    (E o (k.app (leaf a nil)) v w ↔ ((v, w) ∈ k.es o ∨ (w, v) ∈ k.es o ∨ con k.fr v w ∨ con k.fr w v) ∨ (v = o ∧ w = a) ∨ (w = o ∧ v = a) ∨ (v = a ∧ w = h) ∨ (w = a ∧ v = h) ∨ (v = l ∧ w = a) ∨ (w = l ∧ v = a)) := by
  have n1 : ∀ v w, nx (k.fr ++ [x, y]) v w ↔ (v = x ∧ w = y) ∨ (v = y ∧ w = h) ∨ con k.fr v w ∨ (v = l ∧ w = x) := fun v w => by
    rw [nx_rot (m := x :: y :: k.fr) ⟨k.fr, [x, y], rfl, rfl⟩, nx_cons, con_cons, con_cons, last_cons hl, hh]
    simp only [List.head?_cons, Option.some.injEq]
    grind
  have n2 : ∀ v w, nx (k.fr ++ [a]) v w ↔ (v = a ∧ w = h) ∨ con k.fr v w ∨ (v = l ∧ w = a) := fun v w => by
    rw [nx_rot (m := a :: k.fr) ⟨k.fr, [a], rfl, rfl⟩, nx_cons, con_cons, hl, hh]
    simp only [Option.some.injEq]
    grind
  unfold E
  simp only [app_es, app_fr, es, fr, List.append_nil, List.mem_append, List.mem_cons, List.not_mem_nil, or_false, Prod.mk.injEq, n1, n2]
  constructor
  · grind
  · grind
end
end Go.Proofs.Ytnmocjhpbobahaa.H
namespace Go.Proofs.Ytnmocjhpbobahaa.H
open F
section
variable {V : Nat → Prop} {A : Nat → Nat → Prop} {L : Nat → Prop} {a x y z p q o : Nat}
theorem Rep.congr {V V' : Nat → Prop} {A A' : Nat → Nat → Prop} {L L' : Nat → Prop} {u : Nat} {f : F} (h : Rep V A L u f) (hv : ∀ v, V v ↔ V' v) (ha : ∀ v w, A v w ↔ A' v w) (hl : ∀ v, L v ↔ L' v) : Rep V' A' L' u f :=
  ⟨h.hal, fun v => (hv v).symm.trans (h.v v), fun v w => (ha v w).symm.trans (h.a v w), fun v => (hl v).symm.trans (h.l v)⟩
theorem in_k {k : F} {o v w : Nat} : ((v, w) ∈ k.es o → (v = o ∨ v ∈ k.vs) ∧ w ∈ k.vs) ∧ (con k.fr v w → v ∈ k.vs ∧ w ∈ k.vs) := by
  constructor
  · intro h
    refine ⟨?_, (es_mem h).2⟩
    rcases (es_mem h).1 with e | e
    · exact .inl e
    · exact .inr (inn_sub e)
  · exact fun h => ⟨fr_sub (con_mem h).1, fr_sub (con_mem h).2⟩
theorem small_core {g : F} (r : Rep V A L z (leaf x (leaf y g))) (hb : (leaf x (leaf y g)).vs.length ≠ 3) (k : Sm V A a x y z p q o) : (L x ∧ L y ∧ L p ∧ L q ∧ ¬ L o ∧ p ≠ q ∧ o ≠ p ∧ o ≠ q) ∧ Rim (smV V a x y z) (smA A a x y z p q o) (smV L a x y z) := by
  have hlen := r.hal.len
  simp only [F.len] at hlen
  have nd := r.hal.nd
  simp only [vs, List.nodup_cons, List.mem_cons, not_or] at nd
  obtain ⟨⟨_, _, zg⟩, ⟨_, xg⟩, yg, gn⟩ := nd
  have hg := one_top gn (by omega) (o := o) (fun v hv => by
    have e := (r.a z v).2 ((E_root r.hal).2 (List.mem_cons_of_mem _ (List.mem_cons_of_mem _ hv)))
    rcases (k.az v).1 e with e | e | e
    · exact (xg (e ▸ tops_sub hv)).elim
    · exact (yg (e ▸ tops_sub hv)).elim
    · exact e)
  rcases hg with rfl | ⟨c, rfl⟩
  · exact (hb rfl).elim
  have ho : c.ok ∧ 2 ≤ c.len := by have := r.hal.ok; simp only [ok] at this; exact ⟨this.2.1, this.1⟩
  have s1 := rot_sim (u := z) (f := leaf x (leaf y nil)) (g := node o c nil) r.hal
  have s2 := root_sim (u := z) (w := o) (k := c) (s := leaf x (leaf y nil)) s1.hal
  have r3 : Rep V A L o (c.app (node z (leaf x (leaf y nil)) nil)) := (r.sim s1).sim s2
  obtain ⟨h, l, hh, hl⟩ := fr_ends ho.1 (by omega)
  have nd3 := r3.hal.nd
  simp only [app_vs, vs, List.append_nil, List.nodup_cons, List.mem_append, List.mem_cons, List.not_mem_nil, or_false, not_or, List.nodup_append, List.cons_append, List.nil_append] at nd3
  have hfh := fr_sub (List.mem_of_head? hh)
  have hfl := fr_sub (List.mem_of_getLast? hl)
  have ff := less3 (a := a) r3.hal hh hl
  have ik : ∀ v w, ((v, w) ∈ c.es o → (v = o ∨ v ∈ c.vs) ∧ w ∈ c.vs) ∧ (con c.fr v w → v ∈ c.vs ∧ w ∈ c.vs) := fun v w => in_k
  have n2 : o ∉ c.vs ∧ x ∉ c.vs ∧ y ∉ c.vs ∧ z ∉ c.vs := by grind
  have cn : c.vs.Nodup := by grind
  obtain ⟨no, nx', ny, nz⟩ := n2
  have kox := k.ox; have koy := k.oy; have koz := k.oz; have kxy := k.xy; have kxz := k.xz; have kyz := k.yz
  have kp := And.intro k.px (And.intro k.py k.pz)
  have kq := And.intro k.qx (And.intro k.qy k.qz)
  have lx : x ≠ l := fun e => nx' (e ▸ hfl)
  have xh : x ≠ h := fun e => nx' (e ▸ hfh)
  have yl : y ≠ l := fun e => ny (e ▸ hfl)
  have yh : y ≠ h := fun e => ny (e ▸ hfh)
  have zl : z ≠ l := fun e => nz (e ▸ hfl)
  have zh : z ≠ h := fun e => nz (e ▸ hfh)
  have hp : p = l := by
    have e := (ff x p).1.1 ((r3.a x p).1 ((k.ax p).2 (.inr (.inr rfl))))
    have i1 := ik x p; have i2 := ik p x
    grind
  have hq : q = h := by
    have e := (ff y q).1.1 ((r3.a y q).1 ((k.ay q).2 (.inr (.inr rfl))))
    have i1 := ik y q; have i2 := ik q y
    grind
  subst hp; subst hq
  have pq := ends_ne cn ho.1 ho.2 hh hl
  have pf := List.mem_of_getLast? hl
  have qf := List.mem_of_head? hh
  have hL : ∀ v, L v ↔ v ∈ c.fr ∨ v = x ∨ v = y := fun v => by
    rw [r3.l]; simp only [app_fr, fr, List.append_nil, List.mem_append, List.mem_cons, List.not_mem_nil, or_false]
  have of : o ∉ c.fr := fun e => no (fr_sub e)
  have oq : o ≠ q := fun e => of (e ▸ qf)
  have op : o ≠ p := fun e => of (e ▸ pf)
  refine ⟨⟨(hL x).2 (.inr (.inl rfl)), (hL y).2 (.inr (.inr rfl)), (hL p).2 (.inl pf), (hL q).2 (.inl qf), fun e => ?_, pq, op, oq⟩, o, c.app (leaf a nil), ⟨⟨?_, ?_, ?_⟩, fun v => ?_, fun v w => ?_, fun v => ?_⟩⟩
  · rcases (hL o).1 e with e | e | e
    · exact of e
    · exact kox e
    · exact koy e
  · simp only [app_len, F.len]; omega
  · rw [app_ok]; exact ⟨ho.1, trivial⟩
  · have aa := k.aa
    simp only [app_vs, vs, List.nodup_cons, List.mem_append, List.mem_cons, List.not_mem_nil, or_false, not_or, List.nodup_append, List.nodup_nil, and_true, not_false_eq_true, true_and]
    grind
  · have := r3.v v
    simp only [app_vs, vs, List.append_nil, List.mem_append, List.mem_cons, List.not_mem_nil, or_false, List.cons_append, List.nil_append] at this ⊢
    have aa := k.aa
    show (V v ∧ v ≠ x ∧ v ≠ y ∧ v ≠ z) ∨ v = a ↔ _
    grind
  · rw [(ff v w).2]
    have hA := (r3.a v w).trans (ff v w).1
    have i1 := ik v w; have i2 := ik w v
    have aa := k.aa
    show (A v w ∧ (v ≠ x ∧ v ≠ y ∧ v ≠ z) ∧ w ≠ x ∧ w ≠ y ∧ w ≠ z) ∨ (v = a ∧ (w = p ∨ w = q ∨ w = o)) ∨ (w = a ∧ (v = p ∨ v = q ∨ v = o)) ↔ _
    have hS : ((v, w) ∈ c.es o ∨ (w, v) ∈ c.es o ∨ con c.fr v w ∨ con c.fr w v) → (v ≠ x ∧ v ≠ y ∧ v ≠ z) ∧ w ≠ x ∧ w ≠ y ∧ w ≠ z := by grind
    revert hA hS
    clear i1 i2
    generalize ((v, w) ∈ c.es o ∨ (w, v) ∈ c.es o ∨ con c.fr v w ∨ con c.fr w v) = S
    intro hA hS
    have h1 : (v ≠ x ∧ v ≠ y ∧ v ≠ z) ∧ w ≠ x ∧ w ≠ y ∧ w ≠ z → (A v w ↔ S) := by
      rintro ⟨⟨v1, v2, v3⟩, w1, w2, w3⟩
      rw [hA]
      constructor
      · rintro (h | ⟨_, h⟩ | ⟨_, h⟩ | ⟨h, _⟩ | ⟨h, _⟩ | ⟨h, _⟩ | ⟨h, _⟩ | ⟨h, _⟩ | ⟨h, _⟩ | ⟨_, h⟩ | ⟨_, h⟩)
        · exact h
        all_goals exact (absurd h (by assumption))
      · exact .inl
    have hY : (A v w ∧ (v ≠ x ∧ v ≠ y ∧ v ≠ z) ∧ w ≠ x ∧ w ≠ y ∧ w ≠ z) ↔ S := ⟨fun h => (h1 h.2).1 h.1, fun s => ⟨(h1 (hS s)).2 s, hS s⟩⟩
    refine or_congr hY ?_
    constructor
    · rintro (⟨e, e' | e' | e'⟩ | ⟨e, e' | e' | e'⟩)
      · exact .inr (.inr (.inr (.inr (.inr ⟨e', e⟩))))
      · exact .inr (.inr (.inl ⟨e, e'⟩))
      · exact .inr (.inl ⟨e', e⟩)
      · exact .inr (.inr (.inr (.inr (.inl ⟨e', e⟩))))
      · exact .inr (.inr (.inr (.inl ⟨e, e'⟩)))
      · exact .inl ⟨e', e⟩
    · rintro (⟨e, e'⟩ | ⟨e, e'⟩ | ⟨e, e'⟩ | ⟨e, e'⟩ | ⟨e, e'⟩ | ⟨e, e'⟩)
      · exact .inr ⟨e', .inr (.inr e)⟩
      · exact .inl ⟨e', .inr (.inr e)⟩
      · exact .inl ⟨e, .inr (.inl e')⟩
      · exact .inr ⟨e, .inr (.inl e')⟩
      · exact .inr ⟨e', .inl e⟩
      · exact .inl ⟨e', .inl e⟩
  · have := hL v
    simp only [app_fr, fr, List.mem_append, List.mem_cons, List.not_mem_nil, or_false]
    have aa := k.aa
    have := fun q => nx' (fr_sub (f := c) (v := x) q)
    have := fun q => ny (fr_sub (f := c) (v := y) q)
    have := fun q => nz (fr_sub (f := c) (v := z) q)
    show (L v ∧ v ≠ x ∧ v ≠ y ∧ v ≠ z) ∨ v = a ↔ _
    grind
theorem small_fwd (h : Rim V A L) (hb : ∀ u f, Rep V A L u f → f.vs.length ≠ 3) (k : Sm V A a x y z p q o) (hz : ¬ L z) : (L x ∧ L y ∧ L p ∧ L q ∧ ¬ L o ∧ p ≠ q ∧ o ≠ p ∧ o ≠ q) ∧ Rim (smV V a x y z) (smA A a x y z p q o) (smV L a x y z) := by
  obtain ⟨u, f, h⟩ := h
  have exz : A z x := (k.az x).2 (.inl rfl)
  have eyz : A z y := (k.az y).2 (.inr (.inl rfl))
  have exy : A x y := (k.ax y).2 (.inl rfl)
  have zn : z ∉ f.fr := fun q => hz ((h.l z).2 q)
  have hxy : x ∈ f.fr ∧ y ∈ f.fr := by
    rcases tri_one h.hal (hb u f h) (fun e => k.xz e.symm) (fun e => k.yz e.symm) k.xy ((h.a _ _).1 exz) ((h.a _ _).1 eyz) ((h.a _ _).1 exy) with q | q | q
    · exact q.2
    · exact (zn q.2.1).elim
    · exact (zn q.2.1).elim
  obtain ⟨g, hs⟩ := pair_of h.hal zn hxy.1 hxy.2 k.xy ((h.a _ _).1 exz) ((h.a _ _).1 eyz) ((h.a _ _).1 exy)
  rcases hs with hs | hs
  · have r := h.sim hs
    exact small_core r (hb _ _ r) k
  · have r := h.sim hs
    obtain ⟨⟨h1, h2, h3, h4, h5, h6, h7, h8⟩, h9⟩ := small_core r (hb _ _ r) k.swap
    refine ⟨⟨h2, h1, h4, h3, h5, fun e => h6 e.symm, h8, h7⟩, h9.congr (fun v => ?_) (fun v w => ?_) (fun v => ?_)⟩
    · show (_ ∧ _) ∨ _ ↔ (_ ∧ _) ∨ _; grind
    · show (_ ∧ _) ∨ (_ ∧ _) ∨ (_ ∧ _) ↔ (_ ∧ _) ∨ (_ ∧ _) ∨ (_ ∧ _); grind
    · show (_ ∧ _) ∨ _ ↔ (_ ∧ _) ∨ _; grind
theorem small_bcore {g : F} (r : Rep (smV V a x y z) (smA A a x y z p q o) L o (g.app (leaf a nil))) (k : Sm V A a x y z p q o) (hh : g.fr.head? = some q) (hl : g.fr.getLast? = some p) : Rim V A (fun v => (L v ∧ v ≠ a) ∨ v = x ∨ v = y) := by
  have aa := k.aa
  have kox := k.ox; have koy := k.oy; have koz := k.oz; have kxy := k.xy; have kxz := k.xz; have kyz := k.yz
  have nd := r.hal.nd
  simp only [app_vs, vs, List.nodup_cons, List.mem_append, List.mem_cons, List.not_mem_nil, or_false, not_or, List.nodup_append, List.nodup_nil, and_true, not_false_eq_true, true_and] at nd
  have hv : ∀ v, ((V v ∧ v ≠ x ∧ v ≠ y ∧ v ≠ z) ∨ v = a) ↔ v = o ∨ v ∈ g.vs ∨ v = a := fun v => by
    have := r.v v
    simp only [app_vs, vs, List.mem_append, List.mem_cons, List.not_mem_nil, or_false] at this
    exact this
  have nx' : x ∉ g.vs := fun e => by have := hv x; grind
  have ny : y ∉ g.vs := fun e => by have := hv y; grind
  have nz : z ∉ g.vs := fun e => by have := hv z; grind
  have og : o ∉ g.vs := by grind
  have gn : g.vs.Nodup := by grind
  have go : g.ok := by have := r.hal.ok; rw [app_ok] at this; exact this.1
  have hlen := r.hal.len
  simp only [app_len, F.len] at hlen
  have hb : Hal o (g.app (node z (leaf x (leaf y nil)) nil)) := by
    refine ⟨by simp only [app_len, F.len]; omega, by rw [app_ok]; exact ⟨go, Nat.le_refl _, trivial, trivial⟩, ?_⟩
    simp only [app_vs, vs, List.append_nil, List.nodup_cons, List.mem_append, List.mem_cons, List.not_mem_nil, or_false, not_or, List.nodup_append, List.cons_append, List.nil_append, List.nodup_nil, and_true, not_false_eq_true]
    grind
  have ff := less3 (a := a) hb hh hl
  have ik : ∀ v w, ((v, w) ∈ g.es o → (v = o ∨ v ∈ g.vs) ∧ w ∈ g.vs) ∧ (con g.fr v w → v ∈ g.vs ∧ w ∈ g.vs) := fun v w => in_k
  refine ⟨o, _, hb, fun v => ?_, fun v w => ?_, fun v => ?_⟩
  · have h1 := hv v
    have vx := k.vx; have vy := k.vy; have vz := k.vz
    simp only [app_vs, vs, List.append_nil, List.mem_append, List.mem_cons, List.not_mem_nil, or_false, List.cons_append, List.nil_append]
    grind
  · rw [(ff v w).1]
    have hA := (r.a v w).trans (ff v w).2
    have hA : (A v w ∧ (v ≠ x ∧ v ≠ y ∧ v ≠ z) ∧ w ≠ x ∧ w ≠ y ∧ w ≠ z) ∨ (v = a ∧ (w = p ∨ w = q ∨ w = o)) ∨ (w = a ∧ (v = p ∨ v = q ∨ v = o)) ↔ _ := hA
    have hS : ((v, w) ∈ g.es o ∨ (w, v) ∈ g.es o ∨ con g.fr v w ∨ con g.fr w v) → (v ≠ x ∧ v ≠ y ∧ v ≠ z) ∧ w ≠ x ∧ w ≠ y ∧ w ≠ z := by
      have i1 := ik v w; have i2 := ik w v
      grind
    have kp := And.intro k.px (And.intro k.py k.pz)
    have kq := And.intro k.qx (And.intro k.qy k.qz)
    revert hA hS
    generalize ((v, w) ∈ g.es o ∨ (w, v) ∈ g.es o ∨ con g.fr v w ∨ con g.fr w v) = S
    intro hA hS
    by_cases v1 : v = x
    · subst v1; rw [k.ax]; grind
    by_cases v2 : v = y
    · subst v2; rw [k.ay]; grind
    by_cases v3 : v = z
    · subst v3; rw [k.az]; grind
    have sy : A v w ↔ A w v := ⟨k.sym _ _, k.sym _ _⟩
    by_cases w1 : w = x
    · subst w1; rw [sy, k.ax]; grind
    by_cases w2 : w = y
    · subst w2; rw [sy, k.ay]; grind
    by_cases w3 : w = z
    · subst w3; rw [sy, k.az]; grind
    grind
  · have h1 := r.l v
    simp only [app_fr, fr, List.append_nil, List.mem_append, List.mem_cons, List.not_mem_nil, or_false] at h1 ⊢
    have : a ∉ g.fr := fun e => by have := fr_sub e; grind
    grind
theorem small_bwd (h : Rim (smV V a x y z) (smA A a x y z p q o) L) (k : Sm V A a x y z p q o) (pq : p ≠ q) (la : L a) (lo : ¬ L o) (lp : L p) (lq : L q) : Rim V A (fun v => (L v ∧ v ≠ a) ∨ v = x ∨ v = y) := by
  obtain ⟨u, f, h⟩ := h
  have e0 : smA A a x y z p q o o a := .inr (.inr ⟨rfl, .inr (.inr rfl)⟩)
  have ep : smA A a x y z p q o a p := .inr (.inl ⟨rfl, .inl rfl⟩)
  have eq : smA A a x y z p q o a q := .inr (.inl ⟨rfl, .inr (.inl rfl)⟩)
  obtain ⟨g, s⟩ := leaf_first h.hal (fun e => lo ((h.l o).2 e)) ((h.l a).1 la) ((h.a _ _).1 e0)
  have r := h.sim s
  have e1 := ((E_first r.hal).1 ((r.a a p).1 ep)).resolve_left (fun e => lo (e ▸ lp))
  have e2 := ((E_first r.hal).1 ((r.a a q).1 eq)).resolve_left (fun e => lo (e ▸ lq))
  have r' := r.sim (rot_sim (u := o) (f := leaf a nil) (g := g) r.hal)
  rcases e1 with e1 | e1 <;> rcases e2 with e2 | e2
  · rw [e1] at e2; exact (pq (Option.some.inj e2)).elim
  · have r2 : Rep (smV V a y x z) (smA A a y x z q p o) L o (g.app (leaf a nil)) := r'.congr (fun v => by show (_ ∧ _) ∨ _ ↔ (_ ∧ _) ∨ _; grind) (fun v w => by show (_ ∧ _) ∨ (_ ∧ _) ∨ (_ ∧ _) ↔ (_ ∧ _) ∨ (_ ∧ _) ∨ (_ ∧ _); grind) (fun v => Iff.rfl)
    refine (small_bcore r2 k.swap e1 e2).congr (fun v => Iff.rfl) (fun v w => Iff.rfl) (fun v => ?_)
    show (_ ∧ _) ∨ _ ∨ _ ↔ (_ ∧ _) ∨ _ ∨ _; grind
  · exact small_bcore r' k e2 e1
  · rw [e1] at e2; exact (pq (Option.some.inj e2)).elim
end
end Go.Proofs.Ytnmocjhpbobahaa.H
