/- An interpreter of the model's code on abstract values, and the proof that what it comes to is what the model comes to (part 3 of 4: Pure Rng Leave Rec Main Draw DrawA DrawB DrawC DrawD). No condition of its own: each theorem states its own. -/
import Derived.Test.YtcgcmlgligfpdaaGreatDoorV1
import Derived.OrdersIn
set_option linter.unusedSectionVars false
set_option linter.unusedVariables false
set_option linter.unusedSimpArgs false
set_option linter.unnecessarySimpa false
namespace Go.VV
open Go.RowKit
open Classical

/-! ### what leaves a store of its own -/

/-- every cell of the store's blocks stays from now on -/
noncomputable def froze (w : World) (σ : S) (m : Mem) : St := fun g j =>
  if (∃ id cs, σ[id]? = some (.cells cs) ∧ m.loc id = g) then w.cell? ⟨g, j, none⟩ else m.st g j

section
variable {w : World} {σ : S} {m : Mem} (hi : Inv w σ m)
include hi

theorem froze_cell {g j : Nat} {c : Value} (h : froze w σ m g j = some c) : w.cell? ⟨g, j, none⟩ = some c := by
  unfold froze at h
  split at h
  · exact h
  · exact hi.st g j c h
theorem froze_le : ∀ g j c, m.st g j = some c → froze w σ m g j = some c := by
  intro g j c h
  unfold froze
  split
  · exact hi.st g j c h
  · exact h
theorem froze_le_withSt : m.Le (m.withSt (froze w σ m)) := m.le_withSt _ (froze_le hi)

/-- elements that lie in a row -/
theorem groups_ok : ∀ {n es : Nat} {cs : List V} {vs : List Value}, EncCs m cs vs → cs.length = n * (if es = 0 then 1 else es) →
    ∃ us : List Value, EncL m (groups n es cs) us ∧ (us.flatMap fun u => u.cells.toList) = vs
  | 0, es, cs, vs, h, hl => by
    have : cs = [] := List.eq_nil_of_length_eq_zero (by simpa using hl)
    subst this
    cases vs with
    | nil => exact ⟨[], by simp [groups, EncL], rfl⟩
    | cons _ _ => exact h.elim
  | n + 1, 0, cs, vs, h, hl => by
    cases cs with
    | nil => simp at hl
    | cons x cs =>
      cases vs with
      | nil => exact h.elim
      | cons v vs =>
        obtain ⟨us, h1, h2⟩ := groups_ok (n := n) (es := 0) h.2 (by simpa using hl)
        have hv : v.cells = #[v] := by
          have := h.1.2
          cases v <;> simp [Value.oneCell'] at this <;> rfl
        refine ⟨v :: us, ?_, by simp [List.flatMap_cons, hv, h2]⟩
        show EncL m (x :: groups n 0 cs) (v :: us)
        exact ⟨EncA_of_EncC h.1.1, h1⟩
  | n + 1, es + 1, cs, vs, h, hl => by
    have hlen := EncCs_length h
    simp only [Nat.add_eq_zero_iff, Nat.one_ne_zero, and_false, if_false] at hl
    obtain ⟨us, h1, h2⟩ := groups_ok (n := n) (es := es + 1) (EncCs_drop (es + 1) h) (by simp only [Nat.add_eq_zero_iff, Nat.one_ne_zero, and_false, if_false, List.length_drop, hl, Nat.add_mul]; omega)
    refine ⟨.agg (vs.take (es + 1)).toArray :: us, ?_, ?_⟩
    · show EncL m (.agg (cs.take (es + 1)) :: groups n (es + 1) (cs.drop (es + 1))) _
      exact ⟨⟨_, rfl, by simpa using EncCs_take (es + 1) h⟩, h1⟩
    · rw [List.flatMap_cons, h2]
      show vs.take (es + 1) ++ vs.drop (es + 1) = vs
      exact List.take_append_drop _ _

theorem rowElems_ok {id off len es : Nat} {xs : List V} (h : rowElems σ id off len es = some xs) (hl : m.live id) :
    xs.length = len ∧ (xs ≠ [] → EPs (froze w σ m) xs (m.loc id) off (if es = 0 then 1 else es)) := by
  unfold rowElems at h
  rw [nth_eq] at h
  simp only at h
  split at h
  · rename_i cs he
    simp only [Option.bind_eq_some_iff] at h
    obtain ⟨l, hr, hx⟩ := h
    unfold readCells at hr
    simp only [Option.ite_none_right_eq_some, Option.some.injEq] at hr
    obtain ⟨hle, rfl⟩ := hr
    obtain ⟨⟨vs, rest, t, h1, h2⟩, h3⟩ := hi.ent id _ he
    have hlen := EncCs_length h2
    have hsub := EncCs_take (len * (if es = 0 then 1 else es)) (EncCs_drop off h2)
    obtain ⟨us, k1, k2⟩ := groups_ok hi (n := len) (es := es) hsub (by rw [List.length_take, List.length_drop]; omega)
    have hflat := elemsV_flat hx k1
    have hxl := elemsV_length hx
    have hgl : ∀ (n es : Nat) (cs : List V), (groups n es cs).length = n := by
      intro n es
      induction n with
      | zero => intro cs; simp [groups]
      | succ n ih => intro cs; cases es <;> simp [groups, ih]
    refine ⟨by rw [hxl, hgl], fun _ => ?_⟩
    refine hflat.eps (fun g j c hc => froze_le hi g j c hc) fun j c hj => ?_
    rw [k2, List.getElem?_take, Option.ite_none_right_eq_some, List.getElem?_drop] at hj
    obtain ⟨_, hj⟩ := hj
    unfold froze
    rw [if_pos ⟨id, cs, he, rfl⟩]
    simp only [World.cell?, h1]
    rw [List.getElem?_toArray, List.getElem?_append_left (lt_of_some hj)]
    exact hj
  · cases h

theorem freeze1_ok {x y : V} {v : Value} (h : freeze1 σ x = some y) (hx : EncC m x v) : EncC (m.withSt (froze w σ m)) y v := by
  unfold freeze1 at h
  split at h
  · rename_i id off len cap es
    simp only [Option.map_eq_some_iff] at h
    obtain ⟨xs, hxs, rfl⟩ := h
    simp only [EncC, E1] at hx
    obtain ⟨hl, c, _, hlc, rfl⟩ := hx
    obtain ⟨h1, h2⟩ := rowElems_ok hi hxs hl
    refine ⟨?_, trivial⟩
    simp only [EP]
    exact ⟨trivial, _, c, by rw [h1], by omega, fun hne => ⟨m.loc id, off, _, rfl, h2 hne⟩⟩
  · simp only [Option.some.injEq] at h; subst h
    exact hx.mono (froze_le_withSt hi)

theorem freezeL_ok : ∀ {xs ys : List V} {vs : List Value}, freezeL σ xs = some ys → EncCs m xs vs → EncCs (m.withSt (froze w σ m)) ys vs
  | [], ys, [], h, _ => by simp [freezeL] at h; subst h; trivial
  | x :: xs, ys, v :: vs, h, k => by
    unfold freezeL at h
    split at h
    · rename_i y ys' h1 h2
      simp only [Option.some.injEq] at h; subst h
      exact ⟨⟨freeze1_ok hi h1 k.1.1, k.1.2⟩, freezeL_ok h2 k.2⟩
    · cases h
  | [], _, _ :: _, _, k => k.elim
  | _ :: _, _, [], _, k => k.elim

theorem freeze1_shape {x y : V} (h : freeze1 σ x = some y) : (∀ cs, x ≠ .agg cs) → ∀ cs, y ≠ .agg cs := by
  intro hx cs hy
  unfold freeze1 at h
  split at h
  · simp only [Option.map_eq_some_iff] at h
    obtain ⟨xs, _, rfl⟩ := h
    cases hy
  · simp only [Option.some.injEq] at h; subst h
    exact hx cs hy

theorem freezeV_ok {x y : V} {v : Value} (h : freezeV σ x = some y) (hx : EncA m x v) : EncA (m.withSt (froze w σ m)) y v := by
  unfold freezeV at h
  split at h
  · rename_i cs
    simp only [Option.map_eq_some_iff] at h
    obtain ⟨ys, hys, rfl⟩ := h
    obtain ⟨vs, rfl, h1⟩ := hx
    exact ⟨vs, rfl, freezeL_ok hi hys h1⟩
  · rename_i hno
    have hx' : EncC m x v := by
      unfold EncA at hx
      split at hx
      · rename_i cs; exact (hno cs rfl).elim
      · exact hx
    exact EncA_of_EncC (freeze1_ok hi h hx')

theorem freezeVs_ok : ∀ {xs ys : List V} {vs : List Value}, freezeVs σ xs = some ys → EncL m xs vs → EncL (m.withSt (froze w σ m)) ys vs
  | [], ys, [], h, _ => by simp [freezeVs] at h; subst h; trivial
  | x :: xs, ys, v :: vs, h, k => by
    unfold freezeVs at h
    split at h
    · rename_i y ys' h1 h2
      simp only [Option.some.injEq] at h; subst h
      exact ⟨freezeV_ok hi h1 k.1, freezeVs_ok h2 k.2⟩
    · cases h
  | [], _, _ :: _, _, k => k.elim
  | _ :: _, _, [], _, k => k.elim

theorem freezeT_ok {x y : V} {v : Value} (h : freezeT σ x = some y) (hx : Enc m x v) : Enc (m.withSt (froze w σ m)) y v := by
  unfold freezeT at h
  split at h
  · rename_i vs
    simp only [Option.map_eq_some_iff] at h
    obtain ⟨ys, hys, rfl⟩ := h
    obtain ⟨us, rfl, h1⟩ := hx
    exact ⟨us, rfl, freezeVs_ok hi hys h1⟩
  · rename_i hno
    exact Enc_of_EncA' (freezeV_ok hi h (EncA_notTup hx fun vs hh => hno vs hh))
end

/-! ### calls -/

def PrimsOk (P : Program) (pol : Pol) : Prop :=
  ∀ f p, pol.prim f = some p → ∀ args σ v σ', primV pol.E.P p args σ = some (v, σ') → ∀ w m (vargs : Array Value), Inv w σ m → GlobOk pol.E m.st → EncT m args vargs.toList →
    ∀ R : Ending → World → Prop, (∀ e w', OutR w σ m σ' (.ret v) e w' → R e w') → FnOk P f vargs w R

/-- an outcome that leads to nothing in the store -/
def EPout (st : St) : Out → Ending → Prop
  | .ret v, .returned u => EP st v u
  | .panic v, .panicked chain => ∃ u, chain = [{ v := u, recovered := false }] ∧ EP st v u
  | _, _ => False
theorem EPout.ok {m : Mem} {out : Out} {e : Ending} (h : EPout m.st out e) : OutOk m out e := by
  cases out <;> cases e <;> first | exact h.elim | skip
  · exact Enc_of_EP h
  · obtain ⟨u, h1, h2⟩ := h; exact ⟨u, h1, EncA_of_EP h2⟩

/-- nothing of the store is handed over -/
def Mem.bare (m : Mem) : Mem := { m with live := fun _ => False }

theorem Inv.bare {w : World} {σ : S} {m : Mem} (h : Inv w σ m) : Inv w [] m.bare :=
  ⟨fun _ h => h.elim, h.st, fun id e he => by simp at he, fun i j ei ej b _ h1 => by simp at h1⟩

theorem EncT_bare {m : Mem} : ∀ {xs : List V} {vs : List Value}, xs.all pureV = true → EncT m xs vs → EncT m.bare (xs.map er) vs
  | [], [], _, _ => trivial
  | x :: xs, v :: vs, hp, h => by
    simp only [List.all_cons, Bool.and_eq_true] at hp
    have hx : ∀ ds, x ≠ .tup ds := by
      rintro ds rfl
      simp [pureV, pure1, pure0] at hp
    exact ⟨Enc_of_EP (m := m.bare) (EP_er (m := m) hp.1 (EncA_notTup h.1 hx)), EncT_bare hp.2 h.2⟩
  | [], _ :: _, _, h => h.elim
  | _ :: _, [], _, h => h.elim

/-- a call on a store of its own: whatever the caller's store -/
def PureOk (P : Program) (E : Env) (f : FuncId) (args : List V) (out : Out) : Prop :=
  ∀ w σ m (vargs : Array Value), Inv w σ m → GlobOk E m.st → EncT m.bare args vargs.toList → ∀ R : Ending → World → Prop,
    (∀ e w' st, Inv w' σ (m.withSt st) → Ext w σ m w' σ (m.withSt st) → EPout st out e → R e w') →
    (callFunc f vargs).run P w = .ok (.enter f vargs) w ∧ ∀ n, CallsIn (Fw none) n P f vargs w R

def IntrOk (P : Program) (pol : Pol) : Prop := ∀ f args v, pol.intr f args = some v → PureOk P pol.E f args (.ret v)

/-- back from a store of its own: only cells that stay are left -/
theorem back {w w' : World} {σ : S} {m m1 : Mem} {σ' : S} {st : St} (hi : Inv w σ m) (h1 : Inv w' σ' m1) (h2 : Ext w [] m.bare w' σ' m1)
    (hs : ∀ g j c, m1.st g j = some c → st g j = some c) (hst : ∀ g j c, st g j = some c → w'.cell? ⟨g, j, none⟩ = some c) (hnew : ∀ g j c, st g j = some c → m1.st g j = some c ∨ Owned σ' m1 g) :
    Inv w' σ (m.withSt st) ∧ Ext w σ m w' σ (m.withSt st) := by
  have none_owned : ∀ {b}, ¬ Owned [] m.bare b := fun ⟨id, e, he, _⟩ => by simp at he
  refine hi.more (fun g j c hc => hs _ _ _ (h2.le.st g j c hc)) hst (fun k hk => h2.kept k hk none_owned) (fun g j c hc => ?_) h2.grow h2.os h2.tape h2.output
  rcases hnew g j c hc with h | h
  · rcases h2.newst g j c h with h | h | h
    · exact .inl h
    · exact .inr h
    · exact (none_owned h).elim
  · right
    rcases Nat.lt_or_ge g w.heap.size with hlt | hge
    · exact (none_owned (h2.own g hlt h)).elim
    · exact hge

section
variable {P : Program} {pol : Pol} {run : FuncId → List V → S → Option (Out × S)} {yl : Nat → List V → S → Option (Out × S)}

theorem pure_run (hR : RunOk P pol.E run) {f : FuncId} {args : List V} {out : Out} {σ' : S} (h : run f args [] = some (out, σ'))
    {out' : Out} (ho : (∃ v u, out = .ret v ∧ freezeT σ' v = some u ∧ pureT u = true ∧ out' = .ret (erT u)) ∨ (∃ v, out = .panic v ∧ pureV v = true ∧ out' = .panic (er v)))
    {w : World} {σ : S} {m : Mem} {vargs : Array Value} (hi : Inv w σ m) (hg : GlobOk pol.E m.st) (ha : EncT m.bare args vargs.toList) {R : Ending → World → Prop} (hR' : ∀ e w' st, Inv w' σ (m.withSt st) → Ext w σ m w' σ (m.withSt st) → EPout st out' e → R e w') :
    (callFunc f vargs).run P w = .ok (.enter f vargs) w ∧ ∀ n, CallsIn (Fw none) n P f vargs w R := by
  refine hR f args [] out σ' h w m.bare vargs hi.bare hg ha R fun e w' ⟨m1, k1, k2, k3⟩ => ?_
  rcases ho with ⟨v, u, rfl, hf, hp, rfl⟩ | ⟨v, rfl, hp, rfl⟩
  · cases e with
    | returned uv =>
      obtain ⟨b1, b2⟩ := back hi k1 k2 (froze_le k1) (fun g j c hc => froze_cell k1 hc) (fun g j c hc => by
        unfold froze at hc
        split at hc
        · rename_i hh
          obtain ⟨id, cs, he, hl⟩ := hh
          exact .inr ⟨id, _, he, by rw [← hl]; rfl⟩
        · exact .inl hc)
      exact hR' _ _ _ b1 b2 (EP_erT hp (freezeT_ok k1 hf k3))
    | panicked _ => exact k3.elim
    | outgrown => exact k3.elim
  · cases e with
    | returned _ => exact k3.elim
    | panicked chain =>
      obtain ⟨u, rfl, k4⟩ := k3
      obtain ⟨b1, b2⟩ := back (st := m1.st) hi k1 k2 (fun _ _ _ h => h) k1.st (fun _ _ _ h => .inl h)
      exact hR' _ _ _ b1 b2 ⟨u, rfl, EP_er hp k4⟩
    | outgrown => exact k3.elim

/-- the cells of a slice's elements -/
theorem flatV_ok {m : Mem} {sz g sz' : Nat} : ∀ {xs : List V} {o : Nat} {cs : List V}, flatV sz xs = some cs → EPs m.st xs g o sz' →
    ∃ vs, EncCs m cs vs ∧ vs.length = xs.length * sz ∧ ∀ j c, vs[j]? = some c → m.st g (o + j) = some c
  | [], o, cs, h, _ => by
    simp only [flatV, Option.some.injEq] at h; subst h
    exact ⟨[], trivial, by simp, fun j c hc => by simp at hc⟩
  | x :: xs, o, cs, h, k => by
    unfold flatV at h
    split at h
    · rename_i a b ha hb
      split at h
      · rename_i hl
        simp only [Option.some.injEq] at h; subst h
        simp only [EPs] at k
        obtain ⟨⟨u, k1, k2, k3⟩, k4⟩ := k
        have hea := cellsOf_ok (m := m) (EncA_of_EP k1) ha
        have hlen := EncCs_length hea
        have hsz : a.length = sz := Nat.eq_of_beq_eq_true hl
        have hu : u.cells.toList.length = u.cells.size := by simp
        have hss : sz' = sz := by omega
        subst hss
        obtain ⟨vs, h1, h2, h3⟩ := flatV_ok hb k4
        refine ⟨u.cells.toList ++ vs, EncCs_append hea h1, by simp [h2, Nat.add_mul]; omega, fun j c hc => ?_⟩
        by_cases hj : j < u.cells.toList.length
        · rw [List.getElem?_append_left hj] at hc
          exact (k3 j c (by simpa using hc)).1
        · rw [List.getElem?_append_right (by omega)] at hc
          have := h3 _ c hc
          rwa [show o + sz' + (j - u.cells.toList.length) = o + j by omega] at this
      · cases h
    · cases h

theorem flat0_ok {m m' : Mem} {x : V} {v : Value} (hx : flat0 x = true) (h : EncC m x v) : EncC m' x v := by
  cases x <;> simp only [flat0, Bool.false_eq_true] at hx <;> simp only [EncC, E1, EP] at h ⊢ <;> first | exact h | skip
  rename_i xs r
  cases xs with
  | nil =>
    have hr : r = 0 := Nat.eq_of_beq_eq_true hx
    subst hr
    obtain ⟨⟨_, a, cap, e, hl, _⟩, _⟩ := h
    exact ⟨⟨trivial, a, cap, e, hl, fun hh => (hh rfl).elim⟩, trivial⟩
  | cons _ _ => simp [flat0] at hx
theorem flats_ok {m m' : Mem} : ∀ {xs : List V} {vs : List Value}, xs.all flat0 = true → EncCs m xs vs → EncCs m' xs vs
  | [], [], _, _ => trivial
  | _ :: _, _ :: _, hx, h => by
    simp only [List.all_cons, Bool.and_eq_true] at hx
    exact ⟨⟨flat0_ok hx.1 h.1.1, h.1.2⟩, flats_ok hx.2 h.2⟩
  | [], _ :: _, _, h => h.elim
  | _ :: _, [], _, h => h.elim

/-- a row made by appends alone is a row that may be written -/
theorem thaw_ok (hR : RunOk P pol.E run) {f : FuncId} {args : List V} {σ : S} {out : Out} {σ' : S} (hall : args.all pureV = true) (h : thawK σ (run f (args.map er) []) = some (out, σ'))
    {w : World} {m : Mem} {vargs : Array Value} (hi : Inv w σ m) (hg : GlobOk pol.E m.st) (ha : EncT m args vargs.toList) {R : Ending → World → Prop} (hR' : ∀ e w', OutR w σ m σ' out e w' → R e w') :
    (callFunc f vargs).run P w = .ok (.enter f vargs) w ∧ ∀ n, CallsIn (Fw none) n P f vargs w R := by
  unfold thawK at h
  split at h
  · rename_i z zs k σ1 hrun
    rw [nth_eq] at h
    split at h
    · rename_i n sz et he
      split at h
      · rename_i hn
        have hn' : n = zs.length + 1 := Nat.eq_of_beq_eq_true hn
        split at h
        · rename_i cs hcs
          split at h
          · rename_i hflat
            simp only [spineK_eq, Option.some.injEq, Prod.mk.injEq] at h
            obtain ⟨rfl, rfl⟩ := h
            refine hR f _ [] _ σ1 hrun w m.bare vargs hi.bare hg (EncT_bare hall ha) R fun e w' ⟨m1, k1, k2, k3⟩ => ?_
            have none_owned : ∀ {b}, ¬ Owned [] m.bare b := fun ⟨id, e, he, _⟩ => by simp at he
            cases e with
            | panicked _ => exact k3.elim
            | outgrown => exact k3.elim
            | returned v =>
              have k3' : EncC m1 (.lit (z :: zs) (k + 2)) v := k3
              obtain ⟨hep, hlive, hle, hval⟩ := k3'
              obtain ⟨hown, hhn, _⟩ := k1.ent k _ he
              simp only [EP] at hep
              obtain ⟨_, a, cap, rfl, hcap, hel⟩ := hep
              obtain ⟨g, o, sz', rfl, heps⟩ := hel (by simp)
              have hv := hval (by rw [← hhn, hn']; simp)
              obtain ⟨hcl, hown⟩ := hown
              rw [← hv] at hown
              obtain ⟨g', cap', cur, e1, _, e3, e4, e5, e6, e7⟩ : ∃ g' cap' cur, Value.slice (some ⟨g, o, none⟩) (z :: zs).length cap = .slice (some ⟨g', 0, none⟩) n cap' ∧ 0 ≤ g' ∧ w'.heap[g']? = some (.cells cur et (0, 0)) ∧ n ≤ cap' ∧ cap' ≤ maxLen ∧ cur.size = cap' * sz ∧ cur.toList.take (n * sz) = (m1.hdr k).cs := by
                rcases hown with ⟨hh, _⟩ | hh
                · cases hh
                · exact hh
              simp only [Value.slice.injEq, Option.some.injEq, Addr.mk.injEq, and_true] at e1
              obtain ⟨⟨rfl, rfl⟩, _, rfl⟩ := e1
              obtain ⟨vs, hvs, hvl, hst⟩ := flatV_ok hcs heps
              have hge : w.heap.size ≤ g := by
                rcases Nat.lt_or_ge g w.heap.size with hlt | hge
                · exact (none_owned (k2.own g hlt ⟨k, _, he, by simp only [blk]; rw [← hv]; rfl⟩)).elim
                · exact hge
              have hheap : ∀ b, b < w.heap.size → w'.heap[b]? = w.heap[b]? := fun b hb => k2.kept b hb none_owned
              have hcell : ∀ j c, vs[j]? = some c → cur[j]? = some c := fun j c hc => by
                have h1 := k1.st g _ c (hst j c hc)
                rw [Nat.zero_add] at h1
                simpa [World.cell?, e3] using h1
              have hcur : vs ++ cur.toList.drop vs.length = cur.toList := by
                conv => rhs; rw [← List.take_append_drop vs.length cur.toList]
                congr 1
                apply List.ext_getElem?
                intro j
                rw [List.getElem?_take]
                split
                · rename_i hj
                  have := hcell j vs[j] (by simp [hj])
                  rw [List.getElem?_eq_getElem hj, ← this]
                  simp
                · rename_i hj
                  exact List.getElem?_eq_none (by omega)
              have hnl : ¬ m.live σ.length := hi.fresh
              obtain ⟨p1, p2⟩ := (hi.room).place (w' := w') (p := σ.length) (b := g) (h := m.hdr σ.length) (st := m.st) (e := .cells cs) (by simp) hnl (fun _ _ _ h => h)
                (fun b j c hc => by
                  have h1 := hi.st b j c hc
                  rw [World.cell?_of_block (w := w) (hheap b (hi.st_lt hc))]; exact h1)
                hheap (fun _ _ _ h => .inl h) k2.grow k2.os k2.tape k2.output
                ⟨⟨vs, cur.toList.drop vs.length, et, by simp only [Mem.push, if_true]; rw [hcur]; simpa using e3, flats_ok hflat hvs⟩, fun j => by
                  simp only [Mem.push, if_true]
                  cases hc : m.st g j with
                  | none => rfl
                  | some c => have := hi.st_lt hc; omega⟩
                (fun b hb => by simp only [blk, Mem.push, if_true, Option.some.injEq] at hb; omega)
              have hset : (σ ++ [Ent.dead]).set σ.length (.cells cs) = σ ++ [.cells cs] := by rw [List.set_append_right _ _ (Nat.le_refl _)]; simp
              rw [hset] at p1 p2
              refine hR' _ w' ⟨_, p1, p2.of_room (by simp), ?_⟩
              show EncC _ (.row σ.length 0 n 0 (thawEs sz z)) _
              refine ⟨.inl rfl, cap, fun hh => (hh rfl).elim, e4, ?_⟩
              simp only [Mem.push, if_true]
              rw [hn']; rfl
          · cases h
        · cases h
      · cases h
    · cases h
  · cases h

theorem callW_ok (hP : PrimsOk P pol) (hN : IntrOk P pol) (hR : RunOk P pol.E run) (hY : YldOk P pol.E yl) : CallOk P pol.E (callW pol run yl) := by
  intro tg args σ out σ' h w m vargs hi hg ha R hR'
  cases tg with
  | yl id => exact fun hl => hY id args σ out σ' h w m vargs hi hg ha hl R hR'
  | fn f =>
    simp only [callW] at h
    unfold callF at h
    split at h
    · split at h
      · rename_i hall
        exact .inl (thaw_ok hR hall h hi hg ha hR')
      · cases h
    · rename_i p _ hp
      simp only [Option.map_eq_some_iff, Prod.mk.injEq] at h
      obtain ⟨⟨v, σ2⟩, hv, rfl, rfl⟩ := h
      exact hP f p hp args σ v σ2 hv w m vargs hi hg ha R hR'
    · split at h
      · exact .inl (hR f args σ out σ' h w m vargs hi hg ha R hR')
      · rename_i hpure
        have hall : args.all pureV = true := by
          simp only [Bool.or_eq_true, Bool.not_eq_true', not_or, Bool.not_eq_false] at hpure
          exact hpure.2
        have hab := EncT_bare hall ha
        split at h
        · rename_i v hv
          simp only [Option.some.injEq, Prod.mk.injEq] at h
          obtain ⟨rfl, rfl⟩ := h
          exact .inl (hN f _ v hv w σ m vargs hi hg hab R fun e w' st k1 k2 k3 => hR' e w' ⟨_, k1, k2, EPout.ok (m := m.withSt st) k3⟩)
        · split at h
          · rename_i v σ2 hrun
            split at h
            · rename_i u hu
              split at h
              · rename_i hp
                simp only [Option.some.injEq, Prod.mk.injEq] at h
                obtain ⟨rfl, rfl⟩ := h
                exact .inl (pure_run hR hrun (.inl ⟨v, u, rfl, hu, hp, rfl⟩) hi hg hab fun e w' st k1 k2 k3 => hR' e w' ⟨_, k1, k2, EPout.ok (m := m.withSt st) k3⟩)
              · cases h
            · cases h
          · rename_i v σ2 hrun
            split at h
            · rename_i hp
              simp only [Option.some.injEq, Prod.mk.injEq] at h
              obtain ⟨rfl, rfl⟩ := h
              exact .inl (pure_run hR hrun (.inr ⟨v, rfl, hp, rfl⟩) hi hg hab fun e w' st k1 k2 k3 => hR' e w' ⟨_, k1, k2, EPout.ok (m := m.withSt st) k3⟩)
            · cases h
          · cases h
end
end Go.VV

namespace Go.VV
open Go.RowKit

theorem putPs_ok {m : Mem} : ∀ {ps : List Tmp} {args : List V} {tm ρ : List V} {vargs : List Value} {vs : Array Value}, putPs ps args tm = some ρ → EncT m args vargs → EncT m tm vs.toList →
    ps.length = vargs.length ∧ EncT m ρ ((ps.zip vargs).foldl (fun (t : Array Value) (x : Tmp × Value) => t.setIfInBounds x.1 x.2) vs).toList
  | [], [], tm, ρ, [], vs, h, _, ht => by simp only [putPs, Option.some.injEq] at h; subst h; exact ⟨rfl, ht⟩
  | p :: ps, x :: xs, tm, ρ, v :: vargs, vs, h, ha, ht => by
    simp only [putPs, putK_eq] at h
    obtain ⟨h1, h2⟩ := putPs_ok (vs := vs.setIfInBounds p v) h ha.2 (by rw [Array.toList_setIfInBounds]; exact EncT_set p ht ha.1)
    exact ⟨by simp [h1], by simpa using h2⟩
  | [], _ :: _, _, _, _, _, h, _, _ => by simp [putPs] at h
  | _ :: _, [], _, _, _, _, h, _, _ => by simp [putPs] at h
  | [], [], _, _, _ :: _, _, _, ha, _ => ha.elim
  | _ :: _, _ :: _, _, _, [], _, _, ha, _ => ha.elim

section
variable {P : Program} {pol : Pol} (hE : EOk P pol.E) {fns : Fns} (hX : ExecOk P pol.E fns.exec)

theorem loop_ent {w : World} {σ : S} {m : Mem} (hi : Inv w σ m) {id : Nat} {st : LoopState} {pend : Option Code} {ps : Array Tmp} {assign body : Code} {tm : List V} (he : σ[id]? = some (.loop st pend ps assign body tm)) :
    ∃ fn d vs, w.heap[m.loc id]? = some (.loop { state := st, pending := pend, fn := fn, tmps := vs, params := ps, assign := assign, body := body, defers := d }) ∧ EncT m tm vs.toList := hi.ent id _ he

theorem loop_put {w : World} {σ : S} {m : Mem} (hi : Inv w σ m) {id : Nat} {st : LoopState} {pend : Option Code} {ps : Array Tmp} {assign body : Code} {tm : List V} (he : σ[id]? = some (.loop st pend ps assign body tm))
    {fn : FuncId} {d : Nat} {vs : Array Value} (h : w.heap[m.loc id]? = some (.loop { state := st, pending := pend, fn := fn, tmps := vs, params := ps, assign := assign, body := body, defers := d })) (ht : EncT m tm vs.toList) (st' : LoopState) (pend' : Option Code) :
    Inv (w.putObj (m.loc id) (.loop { state := st', pending := pend', fn := fn, tmps := vs, params := ps, assign := assign, body := body, defers := d })) (σ.set id (.loop st' pend' ps assign body tm)) m ∧
    Ext w σ m (w.putObj (m.loc id) (.loop { state := st', pending := pend', fn := fn, tmps := vs, params := ps, assign := assign, body := body, defers := d })) (σ.set id (.loop st' pend' ps assign body tm)) m :=
  hi.putObj he rfl h (by intros; simp) (fun b hb => by simpa [blk] using hb.symm) ⟨fn, d, vs, World.putObj_heap_same (Array.getElem?_eq_some_iff.1 h).1, ht⟩

theorem loop_shut {w : World} {σ : S} {m : Mem} (hi : Inv w σ m) {id : Nat} {e : Ent} {o : Obj} (he : σ[id]? = some e) (hb : blk m id e = some (m.loc id)) (h : w.heap[m.loc id]? = some o) (ho : ∀ arr t f, o ≠ .cells arr t f) (o' : Obj) :
    Inv (w.putObj (m.loc id) o') (σ.set id .dead) m ∧ Ext w σ m (w.putObj (m.loc id) o') (σ.set id .dead) m :=
  hi.putObj he hb h ho (fun b hb => by simp [blk] at hb) trivial

include hE hX in
theorem stepYld_ok : YldOk P pol.E (stepYld fns) := by
  intro id args σ out σ' h w m vargs hi hg ha hl R hR
  unfold stepYld at h
  rw [nth_eq] at h
  split at h
  · rename_i pend ps assign body tm he
    split at h
    · rename_i ρ hρ
      obtain ⟨fn, d, vs, h1, h2⟩ := loop_ent hi he
      obtain ⟨k1, k2⟩ := putPs_ok (vargs := vargs.toList) hρ ha h2
      have hsz : vargs.size = ps.size := by simpa using k1.symm
      refine ⟨fn, _, assign, body, run_yield h1 hsz, fun n => ?_⟩
      cases hx1 : fns.exec assign ⟨ρ, none⟩ σ with
      | none => rw [hx1] at h; simp [roundK] at h
      | some p =>
        obtain ⟨x1, fr1, σ1⟩ := p
        rw [hx1] at h
        cases x1 with
        | normal =>
          simp only [roundK] at h
          cases hb : loopBusy id σ1 with
          | none => rw [hb] at h; simp at h
          | some σ2 =>
            rw [hb] at h
            simp only at h
            refine roundIn_of_wpIn trivial ?_
            have htm : EncT m ρ (Array.foldl (fun tmps (x : Tmp × Value) => tmps.setIfInBounds x.1 x.2) vs (ps.zip vargs)).toList := by
              rw [← Array.foldl_toList, Array.toList_zip]; exact k2
            refine hX assign ⟨ρ, none⟩ σ .normal fr1 σ1 hx1 n (some (m.loc id)) _ w m _ hi hg ⟨htm, rfl⟩ (then_ok hE (fun _ a1 w1 m1 j1 j2 j3 => ?_) fun hne => (hne rfl).elim)
            unfold loopBusy at hb
            rw [nth_eq] at hb
            split at hb
            · rename_i pend1 ps1 as1 bd1 tm1 he1
              rw [spineK_eq] at hb
              simp only [Option.some.injEq] at hb; subst hb
              have hloc1 := j2.le.loc id hl
              obtain ⟨fn1, d1, vs1, q1, q2⟩ := loop_ent j1 he1
              obtain ⟨b1, b2⟩ := loop_put j1 he1 q1 q2 .busy pend1
              rw [hloc1] at q1 b1 b2
              refine ⟨_, run_beginRound q1 rfl, ?_⟩
              cases hx2 : fns.exec body fr1 (σ1.set id (.loop .busy pend1 ps1 as1 bd1 tm1)) with
              | none => rw [hx2] at h; simp [roundEnd] at h
              | some p2 =>
                obtain ⟨x2, fr2, σ3⟩ := p2
                rw [hx2] at h
                have fin : ∀ (jump : Option Code), roundOut id jump σ3 = some (out, σ') → ∀ (w3 : World) (m3 : Mem), Inv w3 σ3 m3 → Ext (w1.putObj (m.loc id) (.loop { state := .busy, pending := pend1, fn := fn1, tmps := vs1, params := ps1, assign := as1, body := bd1, defers := d1 })) (σ1.set id (.loop .busy pend1 ps1 as1 bd1 tm1)) m1 w3 σ3 m3 →
                    ∃ v w', (Instr.endRound (m.loc id) jump).run P w3 = .ok v w' ∧ R (.returned v) w' := fun jump hj w3 m3 i3 e3 => by
                  unfold roundOut loopSet at hj
                  rw [nth_eq] at hj
                  split at hj
                  · rename_i σ4 hσ4
                    simp only [Option.some.injEq, Prod.mk.injEq] at hj
                    obtain ⟨rfl, rfl⟩ := hj
                    split at hσ4
                    · rename_i st3 pend3 ps3 as3 bd3 tm3 he3
                      rw [spineK_eq] at hσ4
                      simp only [Option.some.injEq] at hσ4; subst hσ4
                      have hloc3 : m3.loc id = m.loc id := (e3.le.loc id (j2.le.live id hl)).trans hloc1
                      obtain ⟨fn3, d3, vs3, r1, r2⟩ := loop_ent i3 he3
                      obtain ⟨c1, c2⟩ := loop_put i3 he3 r1 r2 (if jump.isNone then .ready else .done) jump
                      rw [hloc3] at r1 c1 c2
                      refine ⟨_, _, run_endRound jump r1, hR _ _ ⟨m3, c1, (j2.trans b2).trans (e3.trans c2), ?_⟩⟩
                      exact Enc_bool (m := m3) _
                    · cases hσ4
                  · cases hj
                refine hX body fr1 _ x2 fr2 σ3 hx2 n (some (m.loc id)) a1 _ m1 _ b1 (hg.mono j2.le.st) j3 fun e a3 w3 m3 i1 i2 i3 i4 => ?_
                cases x2 with
                | normal =>
                  have := XOk_normal i4
                  subst this
                  exact fin none h w3 m3 i1 i2
                | ret =>
                  cases e with
                  | ret => exact fin (some .ret) h w3 m3 i1 i2
                  | _ => all_goals exact i4.elim
                | exit j =>
                  cases e with
                  | exit j' =>
                    have : j = j' := i4
                    subst this
                    exact fin (some (.exit j)) h w3 m3 i1 i2
                  | _ => all_goals exact i4.elim
                | goto l => simp [roundEnd] at h
                | panic v => simp [roundEnd] at h
            · cases hb
        | _ => all_goals simp [roundK] at h
    · cases h
  · cases h

include hE hX in
theorem rangeK_ok (hR : RunOk P pol.E fns.run) {ps : Array Tmp} {assign body : Code} {fr : Fr} {σ : S} {g : Operand} {x : X} {fr' : Fr} {σ' : S} (h : rangeK fns ps assign body fr σ (pol.E.ev fr.t g) = some (x, fr', σ'))
    {n : Nat} {r : Option Nat} {a : Act} {w : World} {m : Mem} {Q : Exit → Act → World → Prop} (hI : Inv w σ m) (hG : GlobOk pol.E m.st) (hF : FrOk m r fr a) (hk : Comes' w σ m r x fr' σ' Q) : (Code.rangeFunc g ps assign body).wpIn (Fw r) n P Q a w := by
  have ev := ev_ok (a := a) hG hF.tmps g
  unfold rangeK at h
  split at h
  · rename_i gf caps hgv
    rw [hgv] at ev
    have hdf := hF.dfs
    split at h
    · rename_i ds hd
      rw [hd] at hdf
      obtain ⟨rfl, hds⟩ := hdf
      simp only [spineK_eq] at h
      simp only [Enc, EncA, EncC] at ev
      obtain ⟨fa, fb, hval, hfa, hfb⟩ := ev
      have hfa0 : fa = #[] := by
        have : fa.toList = [] := by cases hl : fa.toList with
          | nil => rfl
          | cons _ _ => rw [hl] at hfa; exact hfa.elim
        exact Array.toList_inj.1 this
      subst hfa0
      -- the two blocks
      obtain ⟨m1, i1, e1, l1, c1⟩ := hI.room.placeObj (p := σ.length) (e := .dfd) (o := .deferred (some [])) (by simp) hI.fresh
        (fun m' _ hl _ => by show (w.alloc _).heap[m'.loc σ.length]? = _; rw [hl]; exact World.alloc_heap_new w _) (fun m' b hb => by simpa [blk] using hb.symm)
      have hs1 : (σ ++ [Ent.dead]).set σ.length .dfd = σ ++ [.dfd] := by rw [List.set_append_right _ _ (Nat.le_refl _)]; simp
      rw [hs1] at i1 e1
      have e1' := e1.of_room (by simp)
      refine wpIn_rangeFunc fun fn _ => ?_
      obtain ⟨m2, i2, e2, l2, c2⟩ := i1.room.placeObj (p := (σ ++ [Ent.dfd]).length) (e := .loop .ready none ps assign body fr.t) (o := .loop { state := .ready, pending := none, fn := fn, tmps := a.tmps, params := ps, assign := assign, body := body, defers := w.heap.size }) (by simp) i1.fresh
        (fun m' hle hl _ => ⟨fn, w.heap.size, a.tmps, by rw [hl]; exact World.alloc_heap_new _ _, (hF.tmps.mono e1.le).mono hle⟩) (fun m' b hb => by simpa [blk] using hb.symm)
      have hs2 : ((σ ++ [Ent.dfd]) ++ [Ent.dead]).set (σ ++ [Ent.dfd]).length (.loop .ready none ps assign body fr.t) = σ ++ [.dfd, .loop .ready none ps assign body fr.t] := by
        rw [List.set_append_right _ _ (Nat.le_refl _)]; simp
      rw [hs2] at i2 e2
      have e2' := e2.of_room (by simp)
      have hlen : (σ ++ [Ent.dfd]).length = σ.length + 1 := by simp
      rw [hlen] at l2 c2
      rw [World.size_alloc] at c2
      have e12 := e1'.trans e2'
      have hdl : m2.live σ.length := e2'.le.live _ l1
      have hdc : m2.loc σ.length = w.heap.size := by rw [e2'.le.loc _ l1]; exact c1
      cases hrun : fns.run gf (.yld (σ.length + 1) :: caps) (σ ++ [.dfd, .loop .ready none ps assign body fr.t]) with
      | none => rw [hrun] at h; simp [rangeEnd] at h
      | some p =>
        obtain ⟨out, σ2⟩ := p
        rw [hrun] at h
        have hargs : EncT m2 (.yld (σ.length + 1) :: caps) ((#[Value.func (.yield (w.heap.size + 1)) #[] #[]] : Array Value) ++ fb).toList := by
          simp only [Array.toList_append]
          refine ⟨?_, EncT_E1L (hfb.mono e12.le)⟩
          rw [Enc_notTup (by rintro vs ⟨⟩)]
          exact ⟨l2, by rw [c2]⟩
        have mark : ∀ {m3 : Mem}, m2.Le m3 → FrOk m3 none ⟨fr.t, some (⟨.yield σ.length, [], []⟩ :: ds)⟩ { a with defers := [{ target := .collected w.heap.size, args := #[] }] ++ a.defers } := fun {m3} hle =>
          ⟨hF.tmps.mono (e12.le.trans hle), rfl, .inr ⟨σ.length, rfl, hle.live _ hdl, by rw [hle.loc _ hdl, hdc]⟩, hds.mono (e12.le.trans hle)⟩
        obtain ⟨hent, hcalls⟩ := hR gf _ _ out σ2 hrun _ m2 ((#[Value.func (.yield (w.heap.size + 1)) #[] #[]] : Array Value) ++ fb) i2 (hG.mono e12.le.st) hargs
          (rangePost (Fw none) n P (w.heap.size + 1) Q { a with defers := [{ target := .collected w.heap.size, args := #[] }] ++ a.defers }) (fun e w3 ⟨m3, i3, e3, o3⟩ => by
            have e123 := e12.trans e3
            cases out with
            | ret v =>
              cases e with
              | returned u =>
                simp only [rangeEnd] at h
                rw [nth_eq] at h
                have hl3 : m3.live (σ.length + 1) := e3.le.live _ l2
                have hc3 : m3.loc (σ.length + 1) = w.heap.size + 1 := by rw [e3.le.loc _ l2]; exact c2
                split at h
                · rename_i ps3 as3 bd3 tm3 he3
                  rw [spineK_eq] at h
                  simp only [Option.some.injEq, Prod.mk.injEq] at h
                  obtain ⟨rfl, rfl, rfl⟩ := h
                  obtain ⟨fn3, d3, vs3, r1, r2⟩ := loop_ent i3 he3
                  obtain ⟨b1, b2⟩ := loop_shut i3 he3 rfl r1 (by intros; simp) (.loop { state := .exhausted, pending := none, fn := fn3, tmps := vs3, params := ps3, assign := as3, body := bd3, defers := d3 })
                  rw [hc3] at r1 b1 b2
                  exact ⟨none, _, run_endLoop r1 (by simp), hk _ _ _ _ b1 (e123.trans b2) (mark e3.le) trivial⟩
                · rename_i c ps3 as3 bd3 tm3 he3
                  rw [spineK_eq] at h
                  obtain ⟨fn3, d3, vs3, r1, r2⟩ := loop_ent i3 he3
                  obtain ⟨b1, b2⟩ := loop_shut i3 he3 rfl r1 (by intros; simp) (.loop { state := .exhausted, pending := some c, fn := fn3, tmps := vs3, params := ps3, assign := as3, body := bd3, defers := d3 })
                  rw [hc3] at r1 b1 b2
                  exact ⟨some c, _, run_endLoop r1 (by simp), hX c _ _ _ _ _ h n none _ _ m3 Q b1 (hG.mono e123.le.st) (mark e3.le) (hk.later (e123.trans b2))⟩
                · cases h
              | panicked _ => exact o3.elim
              | outgrown => exact o3.elim
            | panic v =>
              cases e with
              | returned _ => exact o3.elim
              | panicked chain =>
                simp only [rangeEnd, Option.some.injEq, Prod.mk.injEq] at h
                obtain ⟨rfl, rfl, rfl⟩ := h
                exact hk _ _ _ _ i3 e123 (mark e3.le) o3
              | outgrown => exact o3.elim)
        refine ⟨w.heap.size + 1, [{ target := .collected w.heap.size, args := #[] }], _, { target := .fn (.func gf) fb, args := #[] ++ #[.func (.yield (w.heap.size + 1)) #[] #[]] }, ((w.alloc (.deferred (some []))).alloc (.loop { state := .ready, pending := none, fn, tmps := a.tmps, params := ps, assign, body, defers := w.heap.size })), gf, _, _, run_enterLoop_outer fn a.tmps ps assign body, ?_, fun _ _ => trivial, ?_, (fun hd => by cases hd), hcalls (n - 1)⟩
        · have hm : ∀ v : Value, Array.map a.eval #[Operand.const v] = #[v] := fun v => by simp [Act.eval]
          simp only [resolve, rangeCall, hval, Deferred.ofValue, hm]
          rfl
        · simp only [invoke, Array.empty_append]
          exact hent
    · cases h
  · cases h
end
end Go.VV

namespace Go.VV
open Go.RowKit

def resOne (tmps : Array Value) : ResultVar → Sem Value
  | .tmp t => pure (tmps.getD t undef)
  | .cell a t => do loadVar t (← asAddr (tmps.getD a undef))
theorem results_eq (fn : Func) (tmps : Array Value) : results fn tmps = (do let vs ← fn.results.mapM (resOne tmps); pure (if h : vs.size = 1 then vs[0] else .tuple vs)) := by
  unfold results
  congr 1

section
variable {P : Program} {T : Tab} (hT : TabOk P T) {w : World} {σ : S} {m : Mem} (hi : Inv w σ m)
include hT hi

theorem loadVar_ok {t : TypeId} {av : V} {v : Value} {x : V} (ha : Enc m av v) (h : loadV T σ t av = some x) :
    ∃ ad u, v = .pointer (some ad) ∧ (loadVar t ad).run P w = .ok u w ∧ Enc m x u := by
  obtain ⟨u, hu, he, _⟩ := load_ok hT hi ha h
  have hv : ∃ ad, v = .pointer (some ad) := by
    unfold loadV at h
    split at h
    · simp only [Enc, EncA, EncC, E1] at ha; exact ⟨_, ha.2⟩
    · simp only [Enc, EncA, EncC, E1, EP] at ha; obtain ⟨_, g, o, sz, e, _⟩ := ha; exact ⟨_, e⟩
    · cases h
  obtain ⟨ad, rfl⟩ := hv
  exact ⟨ad, u, rfl, by simpa [Instr.loadAt, Instr.sureAddr] using hu, Enc_of_EncA' he⟩

theorem resultsL_ok {ρ : List V} {tmps : Array Value} (ht : EncT m ρ tmps.toList) : ∀ {rs : List ResultVar} {vs : List V}, resultsV T ρ σ rs = some vs →
    ∃ us : List Value, (rs.mapM (resOne tmps)).run P w = .ok us w ∧ EncT m vs us
  | [], vs, h => by simp only [resultsV, Option.some.injEq] at h; subst h; exact ⟨[], by simp, trivial⟩
  | .tmp t :: rs, vs, h => by
    simp only [resultsV, Option.map_eq_some_iff] at h
    obtain ⟨l, hl, rfl⟩ := h
    obtain ⟨us, h1, h2⟩ := resultsL_ok ht hl
    refine ⟨tmps.getD t undef :: us, ?_, by simpa using EncT_nth t ht, h2⟩
    simp only [List.mapM_cons, Sem.run_bind, resOne, Sem.run_pure, Result.andThen_ok, h1]
  | .cell a t :: rs, vs, h => by
    simp only [resultsV] at h
    split at h
    · rename_i v vs' hv hl
      simp only [Option.some.injEq] at h; subst h
      obtain ⟨us, h1, h2⟩ := resultsL_ok ht hl
      obtain ⟨ad, u, ha, hu, he⟩ := loadVar_ok hT hi (v := tmps.getD a undef) (by simpa using EncT_nth a ht) hv
      refine ⟨u :: us, ?_, he, h2⟩
      have hone : (resOne tmps (.cell a t)).run P w = .ok u w := by simp only [resOne, ha, asAddr, Sem.run_bind, Sem.run_pure, Result.andThen_ok, hu]
      simp only [List.mapM_cons, Sem.run_bind, hone, Sem.run_pure, Result.andThen_ok, h1]
    · cases h

theorem results_ok {fn : Func} {ρ : List V} {tmps : Array Value} {v : V} (ht : EncT m ρ tmps.toList) (h : resultV T fn ρ σ = some v) : ∃ u, (results fn tmps).run P w = .ok u w ∧ Enc m v u := by
  have key : ∀ {vs : List V}, resultsV T ρ σ fn.results.toList = some vs → ∃ us : List Value, (results fn tmps).run P w = .ok (if h : us.toArray.size = 1 then us.toArray[0] else .tuple us.toArray) w ∧ EncT m vs us := fun {vs} hv => by
    obtain ⟨us, h1, h2⟩ := resultsL_ok hT hi ht hv
    refine ⟨us, ?_, h2⟩
    have : (fn.results.mapM (resOne tmps)).run P w = .ok us.toArray w := by
      rw [show fn.results = fn.results.toList.toArray from rfl, List.mapM_toArray]
      simp [h1]
    rw [results_eq, Sem.run_bind, this, Result.andThen_ok]
    rfl
  unfold resultV at h
  split at h
  · rename_i v' hv
    simp only [Option.some.injEq] at h; subst h
    obtain ⟨us, h1, h2⟩ := key hv
    cases us with
    | nil => exact h2.elim
    | cons u us =>
      cases us with
      | cons _ _ => exact h2.2.elim
      | nil => exact ⟨u, by simpa using h1, h2.1⟩
  · rename_i vs hno hv
    simp only [Option.ite_none_right_eq_some, Option.some.injEq] at h
    obtain ⟨hall, rfl⟩ := h
    obtain ⟨us, h1, h2⟩ := key hv
    have hl := EncT_length h2
    have hl1 : vs.length ≠ 1 := fun hh => by
      obtain ⟨x, rfl⟩ := List.length_eq_one_iff.1 hh
      exact hno x rfl
    have hus : ¬ us.toArray.size = 1 := by simp; omega
    rw [dif_neg hus] at h1
    refine ⟨.tuple us.toArray, h1, us.toArray, rfl, ?_⟩
    have conv : ∀ {vs : List V} {us : List Value}, (∀ x ∈ vs, ∀ ds, x ≠ .tup ds) → EncT m vs us → EncL m vs us := by
      intro vs
      induction vs with
      | nil => intro us _ h; cases us with
        | nil => trivial
        | cons _ _ => exact h.elim
      | cons x vs ih => intro us hx h; cases us with
        | nil => exact h.elim
        | cons u us => exact ⟨EncA_notTup h.1 (hx x (by simp)), ih (fun y hy => hx y (by simp [hy])) h.2⟩
    exact conv (fun x hx ds hh => by have := List.all_eq_true.1 hall x hx; rw [hh] at this; cases this) h2
  · cases h
end

def MdOk (m : Mem) : Md → FrameMode → Prop
  | .returning, u => u = .returning
  | .panicking v, u => ∃ uv, u = .panicking [{ v := uv, recovered := false }] ∧ EncA m v uv
def RcOk (m : Mem) : RC → FrameMode → Prop
  | .none, u => u = .returning
  | .pan v, u => ∃ uv, u = .panicking [{ v := uv, recovered := false }] ∧ EncA m v uv
  | .taken, u => ∃ uv, u = .panicking [{ v := uv, recovered := true }]

def RunROk (P : Program) (E : Env) (runR : FuncId → List V → RC → S → Option (RC × S)) : Prop :=
  ∀ g args rc σ rc' σ', runR g args rc σ = some (rc', σ') → ∀ w m (vargs : Array Value) u, Inv w σ m → GlobOk E m.st → EncT m args vargs.toList → RcOk m rc u →
    ∀ R : Ending → FrameMode → World → Prop, (∀ v u' w' m', Inv w' σ' m' → Ext w σ m w' σ' m' → RcOk m' rc' u' → R (.returned v) u' w') →
      (callFunc g vargs).run P w = .ok (.enter g vargs) w ∧ ∀ n, CallsDIn (Fw none) n P g vargs u w R
def LeaveOk (P : Program) (E : Env) (leave : Func → List V → List Df → Md → S → Option (Out × S)) : Prop :=
  ∀ fn ρ ds md σ out σ', leave fn ρ ds md σ = some (out, σ') → ∀ n w m (tmps : Array Value) defs u, Inv w σ m → GlobOk E m.st → EncT m ρ tmps.toList → DfsOk m ds defs → MdOk m md u →
    ∀ R : Ending → World → Prop, (∀ e w', OutR w σ m σ' out e w' → R e w') → LeavesInM (Fw none) n P fn tmps R defs u w

theorem MdOk.notRun {m : Mem} {md : Md} {u : FrameMode} (h : MdOk m md u) : u ≠ .run := by
  cases md with
  | returning => have : u = .returning := h; rw [this]; simp
  | panicking v => obtain ⟨uv, rfl, _⟩ := h; simp
theorem MdOk.rc {m : Mem} {md : Md} {u : FrameMode} (h : MdOk m md u) : RcOk m (rcOf md) u := by
  cases md with
  | returning => exact h
  | panicking v => exact h

section
variable {P : Program} {pol : Pol} (hE : EOk P pol.E) {fns : Fns}
include hE

theorem enter_ok {f : FuncId} {fn : Func} {c : Code} {vargs : Array Value} {w : World} (hf : pol.E.P.func f = some fn) (hb : fn.body = some c) : P.funcs[f]? = some fn ∧ (callFunc f vargs).run P w = .ok (.enter f vargs) w := by
  have h1 := hE.tab.fn f fn hf
  have h2 := hE.names f fn hf
  refine ⟨h1, ?_⟩
  have h3 : ¬ fn.name = "runtime.NumGoroutine" := by simpa using h2
  simp [callFunc, h1, h3, hb]

theorem stepLeave_ok (hL : LeaveOk P pol.E fns.leave) (hRR : RunROk P pol.E fns.runR) : LeaveOk P pol.E (stepLeave pol fns) := by
  intro fn ρ ds md σ out σ' h n w m tmps defs u hI hG hT hD hM R hR
  unfold stepLeave at h
  split at h
  · rename_i ds'
    cases defs with
    | cons _ _ => exact hD.elim
    | nil =>
      simp only [Option.map_eq_some_iff, Prod.mk.injEq] at h
      obtain ⟨v, hv, rfl, rfl⟩ := h
      have hu : u = .returning := hM
      subst hu
      obtain ⟨uv, h1, h2⟩ := results_ok hE.tab hI hT hv
      exact ⟨uv, h1, hR _ _ ⟨m, hI, .refl _ _ _, h2⟩⟩
  · rename_i v
    cases defs with
    | cons _ _ => exact hD.elim
    | nil =>
      simp only [Option.some.injEq, Prod.mk.injEq] at h
      obtain ⟨rfl, rfl⟩ := h
      obtain ⟨uv, rfl, h2⟩ := hM
      exact hR _ _ ⟨m, hI, .refl _ _ _, uv, rfl, h2⟩
  · rename_i d ds'
    cases defs with
    | nil => exact hD.elim
    | cons dd defs =>
      obtain ⟨hd, hD⟩ := hD
      refine ⟨hM.notRun, ?_⟩
      split at h
      · rename_i g hg
        rcases hd with ⟨g', caps, args, h1, rfl, h3, h4⟩ | ⟨k, h1, _⟩
        · rw [hg] at h1
          cases h1
          right
          cases hrun : fns.runR g (d.args ++ d.caps) (rcOf md) σ with
          | none => rw [hrun] at h; simp [takenK] at h
          | some p =>
            obtain ⟨rc', σ1⟩ := p
            rw [hrun] at h
            obtain ⟨hent, hcalls⟩ := hRR g _ _ _ _ _ hrun w m (args ++ caps) u hI hG (by rw [Array.toList_append]; exact EncT_append h4 h3) hM.rc
              (fun e u' w' => match e with
                | .returned _ => LeavesInM (Fw none) n P fn tmps R defs (settle u') w'
                | .panicked chain => LeavesInM (Fw none) n P fn tmps R defs (raised u' chain) w'
                | .outgrown => R .outgrown w') (fun v u' w' m' i1 i2 i3 => by
                have next : ∀ md', fns.leave fn ρ ds' md' σ1 = some (out, σ') → MdOk m' md' (settle u') → LeavesInM (Fw none) n P fn tmps R defs (settle u') w' := fun md' hl hm =>
                  hL fn ρ ds' md' σ1 out σ' hl n w' m' tmps defs _ i1 (hG.mono i2.le.st) (hT.mono i2.le) (hD.mono i2.le) hm R fun e w'' ⟨m'', j1, j2, j3⟩ => hR e w'' ⟨m'', j1, i2.trans j2, j3⟩
                cases rc' with
                | none =>
                  have : u' = .returning := i3
                  subst this
                  exact next .returning h rfl
                | pan v' =>
                  obtain ⟨uv, rfl, i4⟩ := i3
                  exact next (.panicking v') h ⟨uv, rfl, i4⟩
                | taken =>
                  obtain ⟨uv, rfl⟩ := i3
                  exact next .returning h rfl)
            refine ⟨(fun hd => by cases hd), .func g, caps, g, args ++ caps, rfl, by simp only [invoke]; exact hent, fun _ _ => trivial, ?_⟩
            have := hcalls (n - 1)
            refine ⟨this.1, fun c cs hc hr => ?_⟩
            obtain ⟨e, u', w', fr, hRR', rest⟩ := this.2 c cs hc hr
            exact ⟨e, u', w', fr, by cases e <;> exact hRR', rest⟩
        · rw [hg] at h1; cases h1
      · rename_i k hk
        rcases hd with ⟨g', caps, args, h1, _⟩ | ⟨k', h1, hl, rfl⟩
        · rw [hk] at h1; cases h1
        · rw [hk] at h1
          cases h1
          left
          rw [nth_eq] at h
          split at h
          · rename_i he
            rw [spineK_eq] at h
            have hent : w.heap[m.loc k]? = some (.deferred (some [])) := hI.ent k _ he
            obtain ⟨b1, b2⟩ := loop_shut hI he rfl hent (by intros; simp) (.deferred none)
            exact ⟨m.loc k, _, rfl, run_takeDeferred hent, hL fn ρ ds' md _ out σ' h n _ m tmps defs u b1 hG hT hD hM R fun e w'' ⟨m'', j1, j2, j3⟩ => hR e w'' ⟨m'', j1, b2.trans j2, j3⟩⟩
          · cases h
      · cases h

omit hE in
theorem enter_tmps {m : Mem} {fn : Func} {args : List V} {vargs : Array Value} (ha : EncT m args vargs.toList) :
    EncT m (args ++ List.replicate (fn.ntmps - args.length) (.tup [])) (vargs ++ Array.replicate (fn.ntmps - vargs.size) undef).toList := by
  have hl : args.length = vargs.size := by simpa using EncT_length ha
  simp only [Array.toList_append, Array.toList_replicate, hl]
  refine EncT_append ha ?_
  generalize fn.ntmps - vargs.size = k
  induction k with
  | zero => exact trivial
  | succ k ih => exact ⟨undef_ok, ih⟩

theorem stepRun_ok (hX : ExecOk P pol.E fns.exec) (hL : LeaveOk P pol.E fns.leave) : RunOk P pol.E (stepRun pol fns) := by
  intro g args σ out σ' h w m vargs hI hG ha R hR
  unfold stepRun at h
  split at h
  · rename_i fn hf
    unfold runK at h
    split at h
    · rename_i c hb
      obtain ⟨h1, hent⟩ := enter_ok hE hf hb (vargs := vargs) (w := w)
      refine ⟨hent, fun n => callsIn_of_wp_marks h1 hb trivial ?_⟩
      simp only [enterFr, spineK_eq] at h
      cases hx : fns.exec c ⟨args ++ List.replicate (fn.ntmps - args.length) (.tup []), some []⟩ σ with
      | none => rw [hx] at h; simp [bodyK] at h
      | some p =>
        obtain ⟨x, fr, σ1⟩ := p
        rw [hx] at h
        refine hX c _ σ x fr σ1 hx n none _ w m _ hI hG ⟨enter_tmps ha, rfl, trivial⟩ fun e a' w' m' i1 i2 i3 i4 => ?_
        have hdf := i3.dfs
        have hR' : ∀ e w'', OutR w' σ1 m' σ' out e w'' → R e w'' := fun e w'' ⟨m'', j1, j2, j3⟩ => hR e w'' ⟨m'', j1, i2.trans j2, j3⟩
        obtain ⟨ρ, d⟩ := fr
        cases d with
        | none => cases x <;> simp [bodyK] at h
        | some ds =>
          cases x with
          | normal =>
            have := XOk_normal i4
            subst this
            exact hL fn ρ ds .returning σ1 out σ' h n w' m' a'.tmps a'.defers .returning i1 (hG.mono i2.le.st) i3.tmps hdf.2 rfl R hR'
          | ret =>
            cases e with
            | ret => exact hL fn ρ ds .returning σ1 out σ' h n w' m' a'.tmps a'.defers .returning i1 (hG.mono i2.le.st) i3.tmps hdf.2 rfl R hR'
            | _ => all_goals exact i4.elim
          | panic v =>
            cases e with
            | panic chain =>
              obtain ⟨u, rfl, hu⟩ := i4
              exact hL fn ρ ds (.panicking v) σ1 out σ' h n w' m' a'.tmps a'.defers _ i1 (hG.mono i2.le.st) i3.tmps hdf.2 ⟨u, rfl, hu⟩ R hR'
            | _ => all_goals exact i4.elim
          | exit j => simp [bodyK] at h
          | goto l => simp [bodyK] at h
    · cases h
  · cases h
end
end Go.VV

namespace Go.VV
open Go.RowKit

/-- recover first, then the rest of the region -/
theorem wpSIn_recover {F : Fence} {n : Nat} {P : Program} {Q : Exit → Act → List Frame → World → Prop} {a : Act} {cs cs' : List Frame} {w : World} {id : Nat} {ops : Array Oper} {o : Oper} {l : List Oper} {v : Value}
    (hops : ops.toList = o :: l) (hg : o.guard = none) (hr : (execOp a.eval o).run P w = .ok .recover w) (hrec : recoverD cs = some (v, cs') ∨ (recoverD cs = none ∧ v = .nilIface ∧ cs' = cs)) (hro : F.round = none) (hab : ∀ f, o.about P w a.eval = some f → F.fn f)
    (hrest : wpListIn F n P ops (fun e a' w' => Q e a' cs' w') l (a.put o.dst v) w) : (Code.region id ops false).wpSIn F n P Q a cs w := by
  intro b k hb hbr hF hroom
  have ho : ops[0]? = some o := by
    have : ops.toList[0]? = some o := by rw [hops]; rfl
    simpa using this
  have hlen : cs'.length = cs.length := by
    rcases hrec with h | ⟨_, _, h⟩
    · exact recoverD_length h
    · rw [h]
  have hl : ∀ j, l[j]? = ops[1 + j]? := fun j => by
    have : ops.toList[1 + j]? = l[j]? := by rw [hops, Nat.add_comm]; rfl
    rw [← this]; simp
  rw [← wpOpsIn_eq_wpListIn l 1 hl] at hrest
  obtain ⟨e, a', w', hq, harr⟩ := wp_opsIn _ _ w hrest b k cs' (hbr.trans hro.symm) hF (hlen ▸ hroom)
  have hsize : List.range ops.size = 0 :: List.range' 1 l.length := by
    have : ops.size = l.length + 1 := by rw [← Array.length_toList, hops]; rfl
    rw [this, List.range_eq_range', List.range'_succ]
  have h0 : (lone (b.atR a (.inRegion ops (0 :: List.range' 1 l.length) :: k)) cs w).fenced P F := fenced_oper hF hroom ho hab
  have hw : Region.wanted o (yielded ops a.tmps) = true := by simp [Region.wanted, hg]
  have hst := stepGR_op (P := P) (b := b) (k := k) (cs := cs) (w := w) (rest := List.range' 1 l.length) ho hw
  rw [hbr, Oper.semAt_none] at hst
  have hfin : ∀ v, (b.atR a (.inRegion ops (0 :: List.range' 1 l.length) :: k)).finish v = b.atR (a.put o.dst v) (.inRegion ops (List.range' 1 l.length) :: k) := by
    intro v; rw [Frame.finish_atR, ho]; rfl
  have hk : (b.atR a (.inRegion ops (0 :: List.range' 1 l.length) :: k)).kind = .deferred := hb
  have htr := tryRecover_deferred hk cs
  have hreg := stepR_region (P := P) (b := b) (a := a) (id := id) (ops := ops) (k := k) (cs := cs) (w := w)
  rw [hsize] at hreg
  refine ⟨e, a', cs', w', hlen, hq, .of_steps (.head (fenced_calm hF hroom rfl) hreg (.one h0 (step_lone_go ?_))) harr⟩
  rw [hst, ← hfin]
  rcases hrec with hrec | ⟨hrec, rfl, rfl⟩
  · simp only [Frame.atR, hbr] at htr ⊢
    simp [stepG.apply, hr, htr, hrec]
  · simp only [Frame.atR, hbr] at htr ⊢
    simp [stepG.apply, hr, htr, hrec]

theorem RcOk.mono {m m' : Mem} (h : m.Le m') {rc : RC} {u : FrameMode} (hr : RcOk m rc u) : RcOk m' rc u := by
  cases rc with
  | none => exact hr
  | pan v => obtain ⟨uv, h1, h2⟩ := hr; exact ⟨uv, h1, h2.mono h⟩
  | taken => exact hr

def ExecROk (P : Program) (E : Env) (execR : Code → Fr → RC → S → Option (X × Fr × RC × S)) : Prop :=
  ∀ c fr rc σ x fr' rc' σ', execR c fr rc σ = some (x, fr', rc', σ') → ∀ n a (c₀ : Frame) cs w m Q, Inv w σ m → GlobOk E m.st → FrOk m none fr a → RcOk m rc c₀.mode →
    (∀ e a' u' w' m', Inv w' σ' m' → Ext w σ m w' σ' m' → FrOk m' none fr' a' → XOk m' x e → RcOk m' rc' u' → Q e a' ({ c₀ with mode := u' } :: cs) w') → c.wpSIn (Fw none) n P Q a (c₀ :: cs) w

section
variable {P : Program} {pol : Pol} (hE : EOk P pol.E) {fns : Fns}
include hE

theorem rec_same (hX : ExecOk P pol.E fns.exec) {c : Code} {fr : Fr} {rc : RC} {σ : S} {x : X} {fr' : Fr} {rc' : RC} {σ' : S} (h : withRC rc (fns.exec c fr σ) = some (x, fr', rc', σ')) {n : Nat} {a : Act} {c₀ : Frame} {cs : List Frame} {w : World} {m : Mem} {Q : Exit → Act → List Frame → World → Prop}
    (hI : Inv w σ m) (hG : GlobOk pol.E m.st) (hF : FrOk m none fr a) (hC : RcOk m rc c₀.mode)
    (hk : ∀ e a' u' w' m', Inv w' σ' m' → Ext w σ m w' σ' m' → FrOk m' none fr' a' → XOk m' x e → RcOk m' rc' u' → Q e a' ({ c₀ with mode := u' } :: cs) w') : c.wpSIn (Fw none) n P Q a (c₀ :: cs) w := by
  cases hx : fns.exec c fr σ with
  | none => rw [hx] at h; simp [withRC] at h
  | some p =>
    obtain ⟨x1, fr1, σ1⟩ := p
    rw [hx] at h
    simp only [withRC, Option.some.injEq, Prod.mk.injEq] at h
    obtain ⟨rfl, rfl, rfl, rfl⟩ := h
    exact wpSIn_of_wpIn rfl (hX c fr σ _ _ _ hx n none a w m _ hI hG hF fun e a' w' m' i1 i2 i3 i4 => hk e a' c₀.mode w' m' i1 i2 i3 i4 (hC.mono i2.le))

theorem stepExecR_ok (hX : ExecOk P pol.E fns.exec) (hXR : ExecROk P pol.E fns.execR) (hC' : CallOk P pol.E (callW pol fns.run fns.yld)) : ExecROk P pol.E (stepExecR pol fns) := by
  intro c fr rc σ x fr' rc' σ' h n a c₀ cs w m Q hI hG hF hC hk
  unfold stepExecR at h
  split at h
  · rename_i c1 c2
    refine wpSIn_seq ?_
    cases hx : fns.execR c1 fr rc σ with
    | none => rw [hx] at h; simp [seqR] at h
    | some p =>
      obtain ⟨x1, fr1, rc1, σ1⟩ := p
      rw [hx] at h
      refine hXR c1 fr rc σ x1 fr1 rc1 σ1 hx n a c₀ cs w m _ hI hG hF hC fun e a' u' w' m' i1 i2 i3 i4 i5 => ?_
      by_cases hn : x1 = .normal
      · subst hn
        have := XOk_normal i4
        subst this
        simp only [seqR] at h
        exact hXR c2 fr1 rc1 σ1 x fr' rc' σ' h n a' { c₀ with mode := u' } cs w' m' Q i1 (hG.mono i2.le.st) i3 i5 fun e a'' u'' w'' m'' j1 j2 j3 j4 j5 => hk e a'' u'' w'' m'' j1 (i2.trans j2) j3 j4 j5
      · have hh : x1 = x ∧ fr1 = fr' ∧ rc1 = rc' ∧ σ1 = σ' := by
          cases x1 <;> first | exact (hn rfl).elim | simpa only [seqR, Option.some.injEq, Prod.mk.injEq] using h
        obtain ⟨rfl, rfl, rfl, rfl⟩ := hh
        have := hk e a' u' w' m' i1 i2 i3 i4 i5
        cases e with
        | normal => cases x1 <;> first | exact (hn rfl).elim | exact i4.elim
        | _ => all_goals exact this
  · rename_i id ops
    cases hl : ops.toList with
    | nil =>
      rw [hl] at h
      simp only [recRegion, Option.some.injEq, Prod.mk.injEq] at h
      obtain ⟨rfl, rfl, rfl, rfl⟩ := h
      refine wpSIn_of_wpIn rfl (wpIn_region_list ?_)
      rw [hl]
      exact hk _ a c₀.mode w m hI (.refl _ _ _) hF trivial hC
    | cons o l =>
      rw [hl] at h
      simp only [recRegion] at h
      split at h
      · rename_i hrec
        rw [putD_eq] at h
        have hop : o.guard = none ∧ ∃ c, o.op = .call c ∧ c.callee = .builtin .recover := by
          unfold isRecover at hrec
          split at hrec
          · rename_i c ho
            simp only [Bool.and_eq_true] at hrec
            refine ⟨by simpa using hrec.2, c, ho, ?_⟩
            have := hrec.1.1
            unfold isRec at this
            split at this
            · assumption
            · cases this
          · cases hrec
        obtain ⟨hgd, ats, ho, hcal⟩ := hop
        have hrun : (execOp a.eval o).run P w = .ok .recover w := by simp [execOp, ho, resolve, hcal, invoke, builtin]
        have go : ∀ (v : V) (uv : Value) (rc1 : RC) (u1 : FrameMode), recV rc = (v, rc1) → Enc m v uv → RcOk m rc1 u1 → (recoverD (c₀ :: cs) = some (uv, { c₀ with mode := u1 } :: cs) ∨ (recoverD (c₀ :: cs) = none ∧ uv = .nilIface ∧ { c₀ with mode := u1 } :: cs = c₀ :: cs)) →
            (Code.region id ops false).wpSIn (Fw none) n P Q a (c₀ :: cs) w := fun v uv rc1 u1 hv he hrc hD => by
          rw [hv] at h
          simp only at h
          cases hx : execL pol.E (callW pol fns.run fns.yld) (o :: l) l ⟨putV fr.t o.dst v, fr.d⟩ σ with
          | none => rw [hx] at h; simp [withRC] at h
          | some p =>
            obtain ⟨x1, fr1, σ1⟩ := p
            rw [hx] at h
            simp only [withRC, Option.some.injEq, Prod.mk.injEq] at h
            obtain ⟨rfl, rfl, rfl, rfl⟩ := h
            refine wpSIn_recover hl hgd hrun hD rfl (fun _ _ => trivial) ?_
            rw [← hl] at hx
            exact execL_ok hE hC' l _ σ _ w m hx hI hG (hF.put he) fun e a' w' m' i1 i2 i3 i4 => hk e a' u1 w' m' i1 i2 i3 i4 (hrc.mono i2.le)
        cases rc with
        | none =>
          have hm : c₀.mode = .returning := hC
          exact go .nili .nilIface .none .returning rfl (by simp [Enc, EncA, EncC, E1, EP]) rfl (.inr ⟨by simp [recoverD, hm], rfl, by rw [← hm]⟩)
        | pan v =>
          obtain ⟨uv, hm, hv⟩ := hC
          exact go v uv .taken (.panicking [{ v := uv, recovered := true }]) rfl (Enc_of_EncA' hv) ⟨uv, rfl⟩ (.inl (by simp [recoverD, hm]))
        | taken =>
          obtain ⟨uv, hm⟩ := hC
          exact go .nili .nilIface .taken _ rfl (by simp [Enc, EncA, EncC, E1, EP]) ⟨uv, hm⟩ (.inr ⟨by simp [recoverD, hm], rfl, rfl⟩)
      · cases hx : execL pol.E (callW pol fns.run fns.yld) (o :: l) (o :: l) fr σ with
        | none => rw [hx] at h; simp [withRC] at h
        | some p =>
          obtain ⟨x1, fr1, σ1⟩ := p
          rw [hx] at h
          simp only [withRC, Option.some.injEq, Prod.mk.injEq] at h
          obtain ⟨rfl, rfl, rfl, rfl⟩ := h
          refine wpSIn_of_wpIn rfl (wpIn_region_list ?_)
          rw [← hl] at hx
          exact execL_ok hE hC' ops.toList _ σ _ w m hx hI hG hF fun e a' w' m' i1 i2 i3 i4 => hk e a' c₀.mode w' m' i1 i2 i3 i4 (hC.mono i2.le)
  · exact rec_same hE hX h hI hG hF hC hk

theorem stepRunR_ok (hXR : ExecROk P pol.E fns.execR) : RunROk P pol.E (stepRunR pol fns) := by
  intro g args rc σ rc' σ' h w m vargs u hI hG ha hC R hR
  unfold stepRunR at h
  split at h
  · rename_i fn hf
    split at h
    · rename_i c hb
      split at h
      · rename_i hres
        obtain ⟨h1, hent⟩ := enter_ok hE hf hb (vargs := vargs) (w := w)
        refine ⟨hent, fun n => callsDIn_of_wpSIn h1 hb trivial fun c₀ cs hm => ?_⟩
        simp only [enterFr, spineK_eq] at h
        cases hx : fns.execR c ⟨args ++ List.replicate (fn.ntmps - args.length) (.tup []), some []⟩ rc σ with
        | none => rw [hx] at h; simp [endR] at h
        | some p =>
          obtain ⟨x, ⟨ρ, d⟩, rc1, σ1⟩ := p
          rw [hx] at h
          refine hXR c _ rc σ x ⟨ρ, d⟩ rc1 σ1 hx n _ c₀ cs w m _ hI hG ⟨enter_tmps ha, rfl, trivial⟩ (hm ▸ hC) fun e a' u' w' m' i1 i2 i3 i4 i5 => ?_
          have hr : ∀ tm : Array Value, (results fn tm).run P w' = .ok (.tuple #[]) w' := fun tm => by
            have : fn.results = #[] := Array.eq_empty_of_size_eq_zero hres
            unfold results
            rw [this]
            simp
          have hdf := i3.dfs
          cases d with
          | none => cases x <;> simp [endR] at h
          | some ds =>
            cases ds with
            | cons _ _ => cases x <;> simp [endR] at h
            | nil =>
              have hde : a'.defers = [] := by
                have := hdf.2
                cases hd : a'.defers with
                | nil => rfl
                | cons _ _ => rw [hd] at this; exact this.elim
              cases x with
              | normal =>
                have := XOk_normal i4
                subst this
                simp only [endR, Option.some.injEq, Prod.mk.injEq] at h
                obtain ⟨rfl, rfl⟩ := h
                exact ⟨hde, u', rfl, _, hr _, hR _ _ _ _ i1 i2 i5⟩
              | ret =>
                simp only [endR, Option.some.injEq, Prod.mk.injEq] at h
                obtain ⟨rfl, rfl⟩ := h
                cases e with
                | ret => exact ⟨hde, u', rfl, _, hr _, hR _ _ _ _ i1 i2 i5⟩
                | _ => all_goals exact i4.elim
              | exit j => simp [endR] at h
              | goto l => simp [endR] at h
              | panic v => simp [endR] at h
      · cases h
    · cases h
  · cases h
end
end Go.VV

namespace Go.VV
open Go.RowKit

structure FnsOk (P : Program) (pol : Pol) (fns : Fns) : Prop where
  exec : ExecOk P pol.E fns.exec
  loop : LoopOk P pol.E fns.exec
  scope : ScopeOk P pol.E fns.scope
  run : RunOk P pol.E fns.run
  yld : YldOk P pol.E fns.yld
  leave : LeaveOk P pol.E fns.leave
  runR : RunROk P pol.E fns.runR
  execR : ExecROk P pol.E fns.execR

theorem fns0_ok (P : Program) (pol : Pol) : FnsOk P pol fns0 where
  exec := fun _ _ _ _ _ _ h => by cases h
  loop := fun _ _ _ _ _ _ h => by cases h
  scope := fun _ _ _ _ _ _ _ h => by cases h
  run := fun _ _ _ _ _ h => by cases h
  yld := fun _ _ _ _ _ h => by cases h
  leave := fun _ _ _ _ _ _ _ h => by cases h
  runR := fun _ _ _ _ _ _ h => by cases h
  execR := fun _ _ _ _ _ _ _ _ h => by cases h

theorem fns_ok {P : Program} {pol : Pol} (hE : EOk P pol.E) (hP : PrimsOk P pol) (hN : IntrOk P pol)
    (hD : ∀ run yl, CallOk P pol.E (callW pol run yl) → DrawOk P pol (callW pol run yl)) : ∀ n, FnsOk P pol (fns pol n)
  | 0 => fns0_ok P pol
  | n + 1 => by
    have ih := fns_ok hE hP hN hD n
    have hC := callW_ok hP hN ih.run ih.yld
    exact {
      exec := stepExec_ok hE ih.exec ih.scope ih.loop hC (hD _ _ hC) fun ps assign body fr σ g x fr' σ' h n r a w m Q hI hG hF hk => rangeK_ok hE ih.exec ih.run h hI hG hF hk
      loop := stepLoop_ok hE ih.exec ih.loop
      scope := stepScope_ok hE ih.exec ih.scope
      run := stepRun_ok hE ih.exec ih.leave
      yld := stepYld_ok hE ih.exec
      leave := stepLeave_ok hE ih.leave ih.runR
      runR := stepRunR_ok hE ih.execR
      execR := stepExecR_ok hE ih.exec ih.execR hC }

/-- V's run is the program's, on a store of its own. -/
theorem pure_of_run {P : Program} {pol : Pol} (hE : EOk P pol.E) (hP : PrimsOk P pol) (hN : IntrOk P pol)
    (hD : ∀ run yl, CallOk P pol.E (callW pol run yl) → DrawOk P pol (callW pol run yl)) {n : Nat} {f : FuncId} {args : List V} {v u : V} {σ' : S}
    (h : run pol n f args [] = some (.ret v, σ')) (hf : freezeT σ' v = some u) (hp : pureT u = true) : PureOk P pol.E f args (.ret (erT u)) :=
  fun w σ m vargs hI hG ha R hR => pure_run (fns_ok hE hP hN hD n).run h (.inl ⟨v, u, rfl, hf, hp, rfl⟩) hI hG ha hR
end Go.VV

namespace Go.VV
open Go.RowKit

/-! ### masks -/
theorem maskOf_bit {acc : List Nat} {i : Nat} : ∀ {es : List Edge}, (maskOf acc es).testBit i = true → ∃ e ∈ es, Region.binds .any e = true ∧ (i = e.on ∨ (nthN acc e.on).testBit i = true)
  | [], h => by simp [maskOf] at h
  | e :: es, h => by
    unfold maskOf at h
    split at h
    · rename_i hb
      have h' : ((((1 <<< e.on) ||| nthN acc e.on) ||| maskOf acc es)).testBit i = true := h
      simp only [Nat.testBit_or, Bool.or_eq_true] at h'
      rcases h' with (h1 | h1) | h1
      · refine ⟨e, by simp, hb, .inl ?_⟩
        rw [Nat.one_shiftLeft, Nat.testBit_two_pow] at h1
        simpa using (of_decide_eq_true h1).symm
      · exact ⟨e, by simp, hb, .inr h1⟩
      · obtain ⟨e', h2, h3, h4⟩ := maskOf_bit h1
        exact ⟨e', by simp [h2], h3, h4⟩
    · obtain ⟨e', h2, h3, h4⟩ := maskOf_bit h
      exact ⟨e', by simp [h2], h3, h4⟩

theorem nthN_append {l : List Nat} {x i : Nat} : nthN (l ++ [x]) i = if i = l.length then x else nthN l i := by
  induction l generalizing i with
  | nil => cases i <;> simp [nthN]
  | cons y l ih =>
    cases i with
    | zero => simp [nthN]
    | succ i => simp [nthN, ih]

/-- a set of numbers that holds what its members come behind -/
def Closed (ops : List Oper) (D : Nat → Prop) : Prop := ∀ j o, ops[j]? = some o → D j → ∀ e ∈ o.after.toList, Region.binds .any e = true → D e.on

theorem masks_closed {ops : List Oper} {D : Nat → Prop} (hD : Closed ops D) : ∀ (l : List Oper) (acc : List Nat), (∀ j o, l[j]? = some o → ops[acc.length + j]? = some o) →
    (∀ j i, D j → (nthN acc j).testBit i = true → D i) → ∀ j i, D j → (nthN (masksGo l acc) j).testBit i = true → D i
  | [], acc, _, h => h
  | o :: l, acc, hl, h => by
    unfold masksGo
    refine masks_closed hD l _ (fun j o' hj => by have := hl (j + 1) o' (by simpa using hj); simpa [Nat.add_assoc, Nat.add_comm 1 j] using this) fun j i hj hb => ?_
    rw [nthN_append] at hb
    split at hb
    · rename_i hjl
      subst hjl
      obtain ⟨e, h1, h2, h3⟩ := maskOf_bit hb
      have he := hD _ o (by simpa using hl 0 o (by simp)) hj e h1 h2
      rcases h3 with rfl | h3
      · exact he
      · exact h _ _ he h3
    · exact h _ _ hj hb

theorem masks_bit {ops : List Oper} {D : Nat → Prop} (hD : Closed ops D) {j i : Nat} (hj : D j) (h : (nthN (masks ops) j).testBit i = true) : D i :=
  masks_closed hD ops [] (fun j o hj => by simpa using hj) (fun j i _ hb => by simp [nthN] at hb) j i hj h

/-! ### slots -/
theorem slotsTo_ok {ops : List Oper} {y : Oper} {mask : Nat} : ∀ {l : List Oper} {i j : Nat}, slotsTo ops y mask l i j = true → ∀ k x, l[k]? = some x → i + k < j → clashT ops x y = true → mask.testBit (i + k) = true
  | [], _, _, _, k, x, hx, _, _ => by simp at hx
  | z :: l, i, j, h, k, x, hx, hlt, hc => by
    unfold slotsTo at h
    simp only [Bool.and_eq_true] at h
    cases k with
    | zero =>
      simp at hx; subst hx
      have h1 := h.1
      have : Nat.blt i j = true := by simpa using hlt
      rw [if_pos this] at h1
      simp only [Bool.or_eq_true, Bool.not_eq_true'] at h1
      rcases h1 with h1 | h1
      · rw [hc] at h1; cases h1
      · simpa using h1
    | succ k =>
      have := slotsTo_ok h.2 k x (by simpa using hx) (by omega) hc
      rwa [show i + 1 + k = i + (k + 1) by omega] at this
theorem slotsGo_ok {ops : List Oper} : ∀ {l : List Oper} {mks : List Nat} {j : Nat}, slotsGo ops l mks j = true → ∀ k y, l[k]? = some y → slotsTo ops y (nthN mks k) ops 0 (j + k) = true
  | [], _, _, _, k, y, hy => by simp at hy
  | z :: l, mk :: mks, j, h, k, y, hy => by
    unfold slotsGo at h
    simp only [Bool.and_eq_true] at h
    cases k with
    | zero => simp at hy; subst hy; simpa [nthN] using h.2.1
    | succ k =>
      have := slotsGo_ok h.2.2 k y (by simpa using hy)
      rwa [show j + 1 + k = j + (k + 1) by omega] at this
  | _ :: _, [], _, h, _, _, _ => by simp [slotsGo] at h
theorem slotsGo_low {ops : List Oper} : ∀ {l : List Oper} {mks : List Nat} {j : Nat}, slotsGo ops l mks j = true → ∀ k y, l[k]? = some y → nthN mks k >>> (j + k) = 0
  | [], _, _, _, k, y, hy => by simp at hy
  | z :: l, mk :: mks, j, h, k, y, hy => by
    unfold slotsGo at h
    simp only [Bool.and_eq_true] at h
    cases k with
    | zero => exact Nat.eq_of_beq_eq_true h.1
    | succ k =>
      have := slotsGo_low h.2.2 k y (by simpa using hy)
      rwa [show j + 1 + k = j + (k + 1) by omega] at this
  | _ :: _, [], _, h, _, _, _ => by simp [slotsGo] at h
theorem mask_lt {ops : List Oper} (h : slotsOk ops = true) {j i : Nat} {y : Oper} (hy : ops[j]? = some y) (hb : (nthN (masks ops) j).testBit i = true) : i < j := by
  have h1 := slotsGo_low h j y hy
  rw [Nat.zero_add] at h1
  rcases Nat.lt_or_ge i j with h2 | h2
  · exact h2
  · exfalso
    have h3 : (nthN (masks ops) j >>> j).testBit (i - j) = true := by rw [Nat.testBit_shiftRight, show j + (i - j) = i by omega]; exact hb
    rw [h1] at h3
    simp at h3
/-- of two that clash the later comes behind the earlier -/
theorem slots_ok {ops : List Oper} (h : slotsOk ops = true) {i j : Nat} {x y : Oper} (hx : ops[i]? = some x) (hy : ops[j]? = some y) (hij : i < j) (hc : clashT ops x y = true) : (nthN (masks ops) j).testBit i = true := by
  have h1 := slotsGo_ok h j y hy
  simpa using slotsTo_ok h1 i x hx (by simpa using hij) hc

/-! ### temporaries, where the set D has been carried out -/
noncomputable def rhoD (D : Nat → Prop) : List (Oper × Rec) → Nat → List V → List V
  | [], _, ρ => ρ
  | (o, r) :: l, i, ρ => rhoD D l (i + 1) (open Classical in if D i then putV ρ o.dst r.v else ρ)

theorem nthD_set_ne {ρ : List V} {d t : Nat} {v : V} (h : d ≠ t) : nthD (ρ.set d v) t = nthD ρ t := by
  induction ρ generalizing d t with
  | nil => simp [nthD]
  | cons x ρ ih =>
    cases d with
    | zero => cases t with
      | zero => exact (h rfl).elim
      | succ t => simp [nthD]
    | succ d => cases t with
      | zero => simp [nthD]
      | succ t => simpa [nthD] using ih (by omega)
theorem nthD_putV_ne {ρ : List V} {d : Option Tmp} {t : Nat} {v : V} (h : d ≠ some t) : nthD (putV ρ d v) t = nthD ρ t := by
  cases d with
  | none => rfl
  | some d => exact nthD_set_ne fun e => h (by rw [e])

/-- a temporary that no member writes -/
theorem rhoD_keep {D : Nat → Prop} {t : Nat} : ∀ {l : List (Oper × Rec)} {i : Nat} {ρ : List V}, (∀ k o r, l[k]? = some (o, r) → D (i + k) → o.dst ≠ some t) → nthD (rhoD D l i ρ) t = nthD ρ t
  | [], _, _, _ => rfl
  | (o, r) :: l, i, ρ, h => by
    unfold rhoD
    rw [rhoD_keep fun k o' r' hk hd => h (k + 1) o' r' (by simpa using hk) (by rwa [show i + (k + 1) = i + 1 + k by omega])]
    split
    · rename_i hd
      exact nthD_putV_ne (h 0 o r (by simp) (by simpa using hd))
    · rfl
end Go.VV

namespace Go.VV
open Go.RowKit

/-! ### what an operation reads -/

theorem opK_congr {E : Env} {call : CallF} {ev ev' : Operand → V} {σ : S} {op : Op} (h : ∀ x ∈ op.operands, ev x = ev' x) : opK E call ev σ op = opK E call ev' σ op := by
  have pairs : ∀ ps : Array (Nat × Operand), (∀ x ∈ (ps.toList.map (·.2)).toArray, ev x = ev' x) → evParts ev ps = evParts ev' ps := fun ps hp =>
    List.map_congr_left fun p hm => by
      have : ev p.2 = ev' p.2 := hp p.2 (by simp; exact ⟨p.1, by simpa using hm⟩)
      rw [this]
  have margs : ∀ xs : Array Operand, (∀ x ∈ xs, ev x = ev' x) → xs.toList.map ev = xs.toList.map ev' := fun xs hx =>
    List.map_congr_left fun x hm => hx x (by simpa using hm)
  cases op <;> simp only [Op.operands] at h <;> simp only [opK]
  case build t ps => rw [pairs ps h]
  case buildSlice t n ps => rw [pairs ps h]
  case makeFunc fn first captured =>
    unfold evs
    rw [margs first fun x hx => h x (by simp [hx]), margs captured fun x hx => h x (by simp [hx])]
  case call c =>
    have ha := margs c.args fun x hx => h x (by simp [Call.operands, hx])
    unfold opCall
    cases hc : c.callee with
    | value f => simp only [ha, h f (by simp [Call.operands, hc])]
    | invoke r m => rfl
    | builtin b => simp only [ha]
  case defer c =>
    have ha := margs c.args fun x hx => h x (by simp [Call.operands, hx])
    unfold opDefer
    cases hc : c.callee with
    | value f => simp only [ha, h f (by simp [Call.operands, hc])]
    | invoke r m => rfl
    | builtin b => rfl
  case slice t x lo hi mx => cases lo <;> cases hi <;> cases mx <;> simp_all
  case pick c a b => unfold opPick; rw [h c (by simp), h a (by simp), h b (by simp)]
  all_goals (first | rfl | (simp_all; done))

theorem newA_congr {T : Tab} {ev ev' : Operand → V} {op : Op} (h : ∀ x ∈ op.operands, ev x = ev' x) : newA T ev op = newA T ev' op := by
  cases op <;> simp only [Op.operands] at h <;> simp only [newA]
  case box t x => rw [h x (by simp)]
  case makeSlice t l c => rw [h l (by simp), h c (by simp)]

theorem ev_congr {E : Env} {ρ ρ' : List V} {ops : List Oper} {o : Oper} (h : ∀ t, (readsOf ops o).contains t = true → nthD ρ t = nthD ρ' t) : ∀ x ∈ o.op.operands, E.ev ρ x = E.ev ρ' x := by
  intro x hx
  cases x with
  | tmp t =>
    refine h t ?_
    unfold readsOf
    simp only [List.contains_eq_mem, List.mem_append, decide_eq_true_eq]
    exact .inl (List.mem_filterMap.2 ⟨.tmp t, by simpa using hx, rfl⟩)
  | _ => rfl

theorem wantV_congr {ρ ρ' : List V} {ops : List Oper} {o : Oper} (h : ∀ t, (readsOf ops o).contains t = true → nthD ρ t = nthD ρ' t) : wantV ops ρ o.guard = wantV ops ρ' o.guard := by
  unfold wantV
  split
  · rfl
  · rename_i j want hg
    split
    · rename_i oj hoj
      split
      · rename_i d hd
        rw [h d]
        unfold readsOf
        simp only [hg, hoj, List.contains_eq_mem, List.mem_append, decide_eq_true_eq]
        right
        simp [hd]
      · rfl
    · rfl

/-! ### equality of abstract values -/
mutual
theorem beqV_eq : ∀ (x y : V), beqV x y = true → x = y
  | .bool a, y, h => by cases y <;> simp_all [beqV]
  | .int k a, y, h => by cases y <;> simp_all [beqV]
  | .str a, y, h => by cases y <;> simp_all [beqV]
  | .nilp, y, h => by cases y <;> simp_all [beqV]
  | .nilf, y, h => by cases y <;> simp_all [beqV]
  | .nili, y, h => by cases y <;> simp_all [beqV]
  | .nilm, y, h => by cases y <;> simp_all [beqV]
  | .nils, y, h => by cases y <;> simp_all [beqV]
  | .lit xs r, y, h => by
    cases y <;> simp only [beqV, Bool.and_eq_true, Bool.false_eq_true, beq_iff_eq] at h
    rw [h.1, beqL_eq xs _ h.2]
  | .eptr xs i o, y, h => by
    cases y <;> simp only [beqV, Bool.and_eq_true, Bool.false_eq_true, beq_iff_eq] at h
    rw [h.1.1, h.1.2, beqL_eq xs _ h.2]
  | .bptr i o, y, h => by cases y <;> simp_all [beqV]
  | .row a b c d e, y, h => by cases y <;> simp_all [beqV]
  | .map i, y, h => by cases y <;> simp_all [beqV]
  | .agg xs, y, h => by
    cases y <;> simp only [beqV, Bool.false_eq_true] at h
    rw [beqL_eq xs _ h]
  | .tup xs, y, h => by
    cases y <;> simp only [beqV, Bool.false_eq_true] at h
    rw [beqL_eq xs _ h]
  | .fn .., y, h => by cases y <;> simp_all [beqV]
  | .yld _, y, h => by cases y <;> simp_all [beqV]
  | .iface .., y, h => by cases y <;> simp_all [beqV]
  | .undef, y, h => by cases y <;> simp_all [beqV]
theorem beqL_eq : ∀ (x y : List V), beqL x y = true → x = y
  | [], y, h => by cases y <;> simp_all [beqL]
  | a :: x, y, h => by
    cases y with
    | nil => simp [beqL] at h
    | cons b y =>
      simp only [beqL, Bool.and_eq_true] at h
      rw [beqV_eq a b h.1, beqL_eq x y h.2]
end

/-! ### the classes -/
theorem val_val {v? : Option V} {res : OR} (h : val v? = some res) : ∃ v, v? = some v ∧ res = .val v := by
  unfold val at h
  split at h
  · rename_i v; simp only [Option.some.injEq] at h; exact ⟨v, rfl, h.symm⟩
  · cases h

section
variable {pol : Pol} {run : FuncId → List V → S → Option (Out × S)} {yl : Nat → List V → S → Option (Out × S)} {ρ : List V} {σ : S} {o : Oper} {res : OR}

theorem callF_p {f : FuncId} {args : List V} {out : Out} {σ' : S} (hc : (match pol.prim f with | some .thaw => true | some _ => false | none => pol.sh f || !(args.all pureV)) = false)
    (h : callF pol run f args σ = some (out, σ')) : σ' = σ ∧ ∀ σ2, callF pol run f args σ2 = some (out, σ2) := by
  unfold callF at h ⊢
  cases hp : pol.prim f with
  | some p =>
    rw [hp] at h hc
    cases p with
    | thaw => simp at hc
    | count =>
      simp only [Option.map_eq_some_iff] at h ⊢
      obtain ⟨⟨v, s⟩, h1, h2⟩ := h
      simp only [Prod.mk.injEq] at h2
      obtain ⟨rfl, rfl⟩ := h2
      unfold primV at h1
      split at h1 <;> first | (rename_i heq; cases heq; done) | skip
      · simp only [Option.some.injEq, Prod.mk.injEq] at h1
        obtain ⟨rfl, rfl⟩ := h1
        exact ⟨rfl, fun σ2 => ⟨(_, σ2), rfl, rfl⟩⟩
      · cases h1
    | indexByte =>
      simp only [Option.map_eq_some_iff] at h ⊢
      obtain ⟨⟨v, s⟩, h1, h2⟩ := h
      simp only [Prod.mk.injEq] at h2
      obtain ⟨rfl, rfl⟩ := h2
      unfold primV at h1
      split at h1 <;> first | (rename_i heq; cases heq; done) | skip
      · simp only [Option.some.injEq, Prod.mk.injEq] at h1
        obtain ⟨rfl, rfl⟩ := h1
        exact ⟨rfl, fun σ2 => ⟨(_, σ2), rfl, rfl⟩⟩
      · cases h1
  | none =>
    rw [hp] at h hc
    simp only at h hc ⊢
    rw [hc] at h
    simp only [Bool.false_eq_true, if_false] at h
    simp only [hc, Bool.false_eq_true, if_false]
    split at h
    · rename_i v hv
      simp only [Option.some.injEq, Prod.mk.injEq] at h
      obtain ⟨rfl, rfl⟩ := h
      exact ⟨rfl, fun σ2 => rfl⟩
    · rename_i hv
      split at h
      · rename_i v s' hrun
        split at h
        · rename_i u hu
          split at h
          · rename_i hpu
            simp only [Option.some.injEq, Prod.mk.injEq] at h
            obtain ⟨rfl, rfl⟩ := h
            exact ⟨rfl, fun σ2 => by simp only [hpu, if_true]⟩
          · cases h
        · cases h
      · rename_i v s' hrun
        split at h
        · rename_i hpu
          simp only [Option.some.injEq, Prod.mk.injEq] at h
          obtain ⟨rfl, rfl⟩ := h
          exact ⟨rfl, fun σ2 => by simp only [hpu, if_true]⟩
        · cases h
      · cases h

/-- no change of the store, no reading of it -/
def Free (pol : Pol) (call : CallF) (ρ : List V) (σ : S) (o : Oper) : OR → Prop
  | .val v => ∀ σ2, opV pol.E call ρ σ2 o = some (.val v)
  | .upd v σ' => σ' = σ ∧ ∀ σ2, opV pol.E call ρ σ2 o = some (.upd v σ2)
  | .pan _ _ => True
  | .dfr _ => True

theorem lenV_free {P : Tab} {σ σ2 : S} {t : TypeId} {x : V} (hx : ∀ id, x ≠ .map id) : lenV P σ2 t x = lenV P σ t x := by
  unfold lenV
  cases hu : P.underlying t with
  | none => rfl
  | some d => cases d <;> cases x <;> first | rfl | exact absurd rfl (hx _)
theorem lenV_at {P : Tab} {σ σ2 : S} {t : TypeId} {id : Nat} {v : V} (h2 : ∀ e, nth σ id = some e → nth σ2 id = some e) (h : lenV P σ t (.map id) = some v) : lenV P σ2 t (.map id) = some v := by
  unfold lenV at h ⊢
  cases hu : P.underlying t with
  | none => rw [hu] at h; exact h
  | some d =>
    rw [hu] at h
    cases d <;> first | exact h | skip
    simp only at h ⊢
    split at h
    · rename_i es he; rw [h2 _ he]; exact h
    · cases h

theorem lookupV_at {P : Tab} {σ σ2 : S} {t : TypeId} {id : Nat} {k v : V} {ok : Bool} (h2 : ∀ e, nth σ id = some e → nth σ2 id = some e) (h : lookupV P σ t (.map id) k ok = some v) : lookupV P σ2 t (.map id) k ok = some v := by
  unfold lookupV at h ⊢
  simp only at h ⊢
  cases hn : nth σ id with
  | some e => rw [hn] at h; rw [h2 e hn]; exact h
  | none =>
    rw [hn] at h
    simp only at h
    split at h
    · split at h <;> cases h
    · cases h
theorem builtin_min {P : Tab} {σ : S} {ats : Array TypeId} {xs : List V} : builtinV P σ .min ats xs = val (minV xs) := by
  unfold builtinV
  cases ats[0]? <;> rfl

theorem free_of_const {call : CallF} (hk : ∀ σ2, opV pol.E call ρ σ2 o = opV pol.E call ρ σ o) (hv : ∀ v σ', res ≠ .upd v σ') (h : opV pol.E call ρ σ o = some res) : Free pol call ρ σ o res := by
  cases res with
  | val v => exact fun σ2 => (hk σ2).trans h
  | upd v σ' => exact (hv v σ' rfl).elim
  | pan _ _ => trivial
  | dfr _ => trivial

theorem class_p (hc : clsV pol ρ o = .p) (h : opV pol.E (callW pol run yl) ρ σ o = some res) : Free pol (callW pol run yl) ρ σ o res := by
  have hh := h
  unfold opV at hh
  unfold clsV at hc
  cases hop : o.op <;> simp only [hop] at hc <;> simp only [hop, opK] at hh <;> first | (cases hc; done) | (cases hh; done) | skip
  case call c =>
    cases hcal : c.callee with
    | value f =>
      simp only [hcal, opCall] at hc hh
      unfold opCallV at hh
      split at hc
      · rename_i g first caps hf
        have hcond : (match pol.prim g with | some .thaw => true | some _ => false | none => pol.sh g || !((first ++ c.args.toList.map (pol.E.ev ρ) ++ caps).all pureV)) = false := by
          cases hp : pol.prim g with
          | none =>
            rw [hp] at hc
            simp only at hc ⊢
            split at hc
            · cases hc
            · rename_i hb; exact Bool.eq_false_iff.2 hb
          | some p =>
            rw [hp] at hc
            cases p with
            | thaw => simp at hc
            | count => rfl
            | indexByte => rfl
        simp only [hf, callW] at hh
        cases hcf : callF pol run g (first ++ List.map (pol.E.ev ρ) c.args.toList ++ caps) σ with
        | none => rw [hcf] at hh; simp [ofOut] at hh
        | some p =>
          obtain ⟨out, σ'⟩ := p
          obtain ⟨rfl, k⟩ := callF_p hcond hcf
          rw [hcf] at hh
          cases out with
          | ret v =>
            simp only [ofOut, Option.some.injEq] at hh; subst hh
            exact ⟨rfl, fun σ2 => by simp only [opV, hop, opK, opCall, hcal, opCallV, hf, callW, k σ2, ofOut]⟩
          | panic v =>
            simp only [ofOut, Option.some.injEq] at hh; subst hh
            trivial
      · cases hc
    | invoke r mth => simp only [hcal, opCall] at hh; cases hh
    | builtin b =>
      simp only [hcal, opCall] at hc hh
      cases b <;> simp only at hc <;> first | (cases hc; done) | skip
      case len =>
        unfold builtinV at hh
        split at hh
        · rename_i heq _ _; cases heq
        · rename_i t x _ hat hax
          obtain ⟨v, hv, rfl⟩ := val_val hh
          refine fun σ2 => ?_
          simp only [opV, hop, opK, opCall, hcal, builtinV, hat, hax]
          have : lenV pol.E.P σ2 t (nrm x) = lenV pol.E.P σ t (nrm x) := lenV_free fun id hx => by
            have hx : x = .map id := by cases x <;> simp [nrm] at hx ⊢ <;> exact hx
            rw [hax, hx] at hc
            cases hc
          rw [this, hv]; rfl
        · rename_i heq; cases heq
        · cases hh
      case min =>
        rw [builtin_min] at hh
        obtain ⟨v, hv, rfl⟩ := val_val hh
        refine fun σ2 => ?_
        simp only [opV, hop, opK, opCall, hcal, builtin_min, hv]; rfl
  case load t a =>
    obtain ⟨v, hv, rfl⟩ := val_val hh
    refine fun σ2 => ?_
    simp only [opV, hop, opK]
    have : loadV pol.E.P σ2 t (pol.E.ev ρ a) = loadV pol.E.P σ t (pol.E.ev ρ a) := by
      unfold loadV
      cases hx : pol.E.ev ρ a <;> first | rfl | skip
      rw [hx] at hc; cases hc
    rw [this, hv]; rfl
  case lookup t x ix ok =>
    obtain ⟨v, hv, rfl⟩ := val_val hh
    refine fun σ2 => ?_
    simp only [opV, hop, opK]
    have : lookupV pol.E.P σ2 t (pol.E.ev ρ x) (pol.E.ev ρ ix) ok = lookupV pol.E.P σ t (pol.E.ev ρ x) (pol.E.ev ρ ix) ok := by
      unfold lookupV
      cases hx : pol.E.ev ρ x <;> first | rfl | skip
      rw [hx] at hc; cases hc
    rw [this, hv]; rfl
  all_goals
    refine free_of_const (fun σ2 => by simp only [opV, hop, opK]) ?_ h
    rintro v σ' rfl
    first
      | (obtain ⟨_, _, hx⟩ := val_val hh; cases hx; done)
      | (simp only [Option.some.injEq] at hh; cases hh; done)
      | (unfold opPick at hh; split at hh <;> cases hh; done)
      | (unfold opNilCheck at hh; split at hh <;> cases hh; done)
      | (unfold opIface at hh; split at hh <;> first | (cases hh; done) | (obtain ⟨_, _, hx⟩ := val_val hh; cases hx; done); done)
      | (unfold opMakeFunc at hh; split at hh <;> cases hh; done)
      | (unfold opExtract at hh; split at hh <;> first | (cases hh; done) | (obtain ⟨_, _, hx⟩ := val_val hh; cases hx; done); done)

theorem class_a {call : CallF} (hc : clsV pol ρ o = .a) (h : opV pol.E call ρ σ o = some res) : ∃ nw, newA pol.E.P (pol.E.ev ρ) o.op = some nw ∧ res = .upd (nw.v σ.length) (σ ++ [nw.e]) := by
  have putOf : ∀ {nw? : Option New}, putA σ nw? = some res → ∃ nw, nw? = some nw ∧ res = .upd (nw.v σ.length) (σ ++ [nw.e]) := fun {nw?} hh => by
    unfold putA at hh
    split at hh
    · rename_i nw; simp only [Option.some.injEq] at hh; exact ⟨nw, rfl, hh.symm⟩
    · cases hh
  have callNo : ∀ c : Call, o.op = .call c → False := fun c hop => by
    unfold clsV at hc
    simp only [hop] at hc
    split at hc
    · split at hc
      · rename_i g _ _ _
        cases hp : pol.prim g with
        | none => rw [hp] at hc; simp only at hc; split at hc <;> cases hc
        | some p => rw [hp] at hc; cases p <;> simp at hc
      · cases hc
    · split at hc <;> cases hc
    · cases hc
    · cases hc
  unfold opV at h
  cases hop : o.op <;> simp only [hop, opK] at h <;> first | exact putOf h | skip
  case call c => exact (callNo c hop).elim
  all_goals
    unfold clsV at hc
    simp only [hop] at hc
    first | (cases hc; done) | (split at hc <;> cases hc; done)

/-- it reads entry id alone -/
theorem class_r {call : CallF} {id : Nat} (hc : clsV pol ρ o = .r id) (h : opV pol.E call ρ σ o = some res) :
    (∃ v, res = .val v ∧ ∀ σ2, (∀ e, nth σ id = some e → nth σ2 id = some e) → opV pol.E call ρ σ2 o = some (.val v)) ∧ ∃ x ∈ o.op.operands, (∃ off, pol.E.ev ρ x = .bptr id off) ∨ pol.E.ev ρ x = .map id := by
  unfold opV at h
  unfold clsV at hc
  cases hop : o.op <;> simp only [hop] at hc <;> simp only [hop, opK] at h <;> first | (cases hc; done) | (cases h; done) | skip
  case load t a =>
    obtain ⟨v, hv, rfl⟩ := val_val h
    split at hc
    · rename_i id' off hx
      simp only [Cls.r.injEq] at hc; subst hc
      refine ⟨⟨v, rfl, fun σ2 h2 => ?_⟩, a, by simp [Op.operands], .inl ⟨off, hx⟩⟩
      simp only [opV, hop, opK]
      have : loadV pol.E.P σ2 t (pol.E.ev ρ a) = some v := by
        unfold loadV at hv ⊢
        rw [hx] at hv ⊢
        simp only at hv ⊢
        split at hv
        · rename_i cs he; rw [h2 _ he]; exact hv
        · cases hv
      rw [this]; rfl
    · cases hc
  case lookup t x ix ok =>
    obtain ⟨v, hv, rfl⟩ := val_val h
    split at hc
    · rename_i id' hx
      simp only [Cls.r.injEq] at hc; subst hc
      refine ⟨⟨v, rfl, fun σ2 h2 => ?_⟩, x, by simp [Op.operands], .inr hx⟩
      simp only [opV, hop, opK]
      have : lookupV pol.E.P σ2 t (pol.E.ev ρ x) (pol.E.ev ρ ix) ok = some v := by
        rw [hx] at hv ⊢
        exact lookupV_at h2 hv
      rw [this]; rfl
    · cases hc
  case call c =>
    cases hcal : c.callee with
    | value f =>
      simp only [hcal] at hc
      split at hc
      · rename_i g _ _ _
        cases hp : pol.prim g with
        | none => rw [hp] at hc; simp only at hc; split at hc <;> cases hc
        | some p => rw [hp] at hc; cases p <;> simp at hc
      · cases hc
    | invoke r mth => simp only [hcal] at hc; cases hc
    | builtin b =>
      simp only [hcal, opCall] at hc h
      cases b <;> simp only at hc <;> first | (cases hc; done) | skip
      split at hc
      · rename_i id' hax
        simp only [Cls.r.injEq] at hc; subst hc
        unfold builtinV at h
        split at h
        · rename_i heq _ _; cases heq
        · rename_i t x _ hat hax'
          rw [hax] at hax'
          simp only [List.cons.injEq, and_true] at hax'
          subst hax'
          obtain ⟨v, hv, rfl⟩ := val_val h
          refine ⟨⟨v, rfl, fun σ2 h2 => ?_⟩, ?_⟩
          · simp only [opV, hop, opK, opCall, hcal, builtinV, hat, hax]
            have : lenV pol.E.P σ2 t (.map id') = some v := lenV_at h2 hv
            show val (lenV pol.E.P σ2 t (.map id')) = _
            rw [this]; rfl
          · cases ha : c.args.toList with
            | nil => rw [ha] at hax; simp at hax
            | cons x0 rest =>
              rw [ha] at hax
              simp only [List.map_cons, List.cons.injEq] at hax
              refine ⟨x0, ?_, .inr hax.1⟩
              have : x0 ∈ c.args := by rw [← Array.mem_toList_iff, ha]; simp
              simp [Op.operands, Call.operands, this]
        · rename_i heq; cases heq
        · cases h
      · cases hc
end
end Go.VV

namespace Go.VV
open Go.RowKit

/-! ### the canonical way -/
/-- one operation's record tells what it did -/
def RecOk (pol : Pol) (call : CallF) (ops : List Oper) (o : Oper) (r : Rec) : Prop :=
  (wantV ops r.ρ o.guard = some false ∧ r.c = .p ∧ r.v = .tup [] ∧ r.σ' = r.σ) ∨
  (wantV ops r.ρ o.guard = some true ∧ r.c = clsV pol r.ρ o ∧ ((opV pol.E call r.ρ r.σ o = some (.val r.v) ∧ r.σ' = r.σ) ∨ opV pol.E call r.ρ r.σ o = some (.upd r.v r.σ')))

def Chain (pol : Pol) (call : CallF) (ops : List Oper) : List (Oper × Rec) → List V → S → List V → S → Prop
  | [], ρ, σ, ρ', σ' => ρ = ρ' ∧ σ = σ'
  | (o, r) :: l, ρ, σ, ρ', σ' => r.ρ = ρ ∧ r.σ = σ ∧ RecOk pol call ops o r ∧ Chain pol call ops l (putV r.ρ o.dst r.v) r.σ' ρ' σ'

section
variable {pol : Pol} {call : CallF} {ops : List Oper}

theorem Chain.append : ∀ {z1 z2 : List (Oper × Rec)} {ρ : List V} {σ : S} {ρ2 : List V} {σ2 : S}, Chain pol call ops (z1 ++ z2) ρ σ ρ2 σ2 → ∃ ρ1 σ1, Chain pol call ops z1 ρ σ ρ1 σ1 ∧ Chain pol call ops z2 ρ1 σ1 ρ2 σ2
  | [], z2, ρ, σ, _, _, h => ⟨ρ, σ, ⟨rfl, rfl⟩, h⟩
  | (o, r) :: z1, z2, ρ, σ, ρ2, σ2, h => by
    obtain ⟨h1, h2, h3, h4⟩ := h
    obtain ⟨ρ1, σ1, k1, k2⟩ := Chain.append h4
    exact ⟨ρ1, σ1, ⟨h1, h2, h3, k1⟩, k2⟩

/-- cut at one of them -/
theorem Chain.cut {z1 z2 : List (Oper × Rec)} {o : Oper} {r : Rec} {ρ : List V} {σ : S} {ρ2 : List V} {σ2 : S} (h : Chain pol call ops (z1 ++ (o, r) :: z2) ρ σ ρ2 σ2) :
    Chain pol call ops z1 ρ σ r.ρ r.σ ∧ RecOk pol call ops o r ∧ Chain pol call ops z2 (putV r.ρ o.dst r.v) r.σ' ρ2 σ2 := by
  obtain ⟨ρ1, σ1, h1, h2, h3, h4, h5⟩ := Chain.append h
  subst h2; subst h3
  exact ⟨h1, h4, h5⟩

def FinOk (pol : Pol) (call : CallF) (ops l : List Oper) (fr : Fr) (σ : S) (rs : List Rec) : Fin' → Prop
  | .done fr' σ' => rs.length = l.length ∧ fr'.d = fr.d ∧ Chain pol call ops (l.zip rs) fr.t σ fr'.t σ'
  | .pan v fr' σ' => ∃ o σ1, l[rs.length]? = some o ∧ fr'.d = fr.d ∧ Chain pol call ops (l.zip rs) fr.t σ fr'.t σ1 ∧ wantV ops fr'.t o.guard = some true ∧ opV pol.E call fr'.t σ1 o = some (.pan v σ')

theorem recsT_ok : ∀ {l : List Oper} {fr : Fr} {σ : S} {rs : List Rec} {fin : Fin'}, recsT pol call ops l fr σ = some (rs, fin) → FinOk pol call ops l fr σ rs fin
  | [], fr, σ, rs, fin, h => by
    simp only [recsT, Option.some.injEq, Prod.mk.injEq] at h
    obtain ⟨rfl, rfl⟩ := h
    exact ⟨rfl, rfl, rfl, rfl⟩
  | o :: l, fr, σ, rs, fin, h => by
    have cons : ∀ {r : Rec} {fr1 : Fr} {σ1 : S}, consRec r (recsT pol call ops l fr1 σ1) = some (rs, fin) → ∃ rs', rs = r :: rs' ∧ recsT pol call ops l fr1 σ1 = some (rs', fin) := fun {r fr1 σ1} hh => by
      unfold consRec at hh
      split at hh
      · rename_i l' f heq
        simp only [Option.some.injEq, Prod.mk.injEq] at hh
        obtain ⟨rfl, rfl⟩ := hh
        exact ⟨l', rfl, heq⟩
      · cases hh
    have fin' : ∀ {r : Rec} {fr1 : Fr} {σ1 : S}, r.ρ = fr.t → r.σ = σ → RecOk pol call ops o r → fr1 = ⟨putV r.ρ o.dst r.v, fr.d⟩ → σ1 = r.σ' → consRec r (recsT pol call ops l fr1 σ1) = some (rs, fin) → FinOk pol call ops (o :: l) fr σ rs fin := fun {r fr1 σ1} h1 h2 h3 h4 h5 hh => by
      obtain ⟨rs', rfl, hr⟩ := cons hh
      subst h4; subst h5
      have ih := recsT_ok hr
      cases fin with
      | done fr' σ' => exact ⟨by simp [ih.1], ih.2.1, h1, h2, h3, ih.2.2⟩
      | pan v fr' σ' =>
        obtain ⟨o', σ1, k1, k2, k3, k4, k5⟩ := ih
        exact ⟨o', σ1, by simpa using k1, k2, ⟨h1, h2, h3, k3⟩, k4, k5⟩
    unfold recsT at h
    cases hw : wantV ops fr.t o.guard with
    | none => rw [hw] at h; simp [oneT] at h
    | some b =>
      rw [hw] at h
      cases b with
      | false =>
        simp only [oneT, putD_eq] at h
        exact fin' (r := ⟨fr.t, σ, σ, .p, .tup []⟩) rfl rfl (.inl ⟨hw, rfl, rfl, rfl⟩) rfl rfl h
      | true =>
        simp only [oneT] at h
        cases hop : opV pol.E call fr.t σ o with
        | none => rw [hop] at h; simp [afterT] at h
        | some res =>
          rw [hop] at h
          cases res with
          | val v =>
            simp only [afterT, putD_eq] at h
            exact fin' (r := ⟨fr.t, σ, σ, clsV pol fr.t o, v⟩) rfl rfl (.inr ⟨hw, rfl, .inl ⟨hop, rfl⟩⟩) rfl rfl h
          | upd v σ' =>
            simp only [afterT, putD_eq, spineK_eq] at h
            exact fin' (r := ⟨fr.t, σ, σ', clsV pol fr.t o, v⟩) rfl rfl (.inr ⟨hw, rfl, .inr hop⟩) rfl rfl h
          | pan v σ' =>
            simp only [afterT, Option.some.injEq, Prod.mk.injEq] at h
            obtain ⟨rfl, rfl⟩ := h
            exact ⟨o, σ, by simp, rfl, ⟨rfl, rfl⟩, hw, hop⟩
          | dfr d => simp [afterT] at h
end

/-! ### the store, where the set D has been carried out -/
section
variable {run : FuncId → List V → S → Option (Out × S)} {yl : Nat → List V → S → Option (Out × S)} {pol : Pol} {ops : List Oper}

/-- does it turn the store? -/
def isE (c : Cls) : Bool := match c with | .e => true | _ => false
def isA (c : Cls) : Bool := match c with | .a => true | _ => false

theorem RecOk.quiet {o : Oper} {r : Rec} (h : RecOk pol (callW pol run yl) ops o r) (he : isE r.c = false) (ha : isA r.c = false) : r.σ' = r.σ := by
  rcases h with ⟨_, _, _, h⟩ | ⟨_, hc, ⟨_, h⟩ | h⟩
  · exact h
  · exact h
  · cases hcl : r.c with
    | e => rw [hcl] at he; simp [isE] at he
    | a => rw [hcl] at ha; simp [isA] at ha
    | p => exact (class_p (hc.symm.trans hcl) h).1
    | r id =>
      obtain ⟨⟨v, hv, _⟩, _⟩ := class_r (hc.symm.trans hcl) h
      cases hv
theorem RecOk.new {o : Oper} {r : Rec} (h : RecOk pol (callW pol run yl) ops o r) (ha : r.c = .a) : wantV ops r.ρ o.guard = some true ∧ ∃ nw, newA pol.E.P (pol.E.ev r.ρ) o.op = some nw ∧ r.v = nw.v r.σ.length ∧ r.σ' = r.σ ++ [nw.e] := by
  rcases h with ⟨_, h, _, _⟩ | ⟨hw, hc, ⟨h, _⟩ | h⟩
  · rw [ha] at h; cases h
  · obtain ⟨nw, h1, h2⟩ := class_a (hc.symm.trans ha) h
    cases h2
  · obtain ⟨nw, h1, h2⟩ := class_a (hc.symm.trans ha) h
    simp only [OR.upd.injEq] at h2
    exact ⟨hw, nw, h1, h2.1, h2.2⟩

open Classical in
noncomputable def stD (D : Nat → Prop) : List (Oper × Rec) → Nat → S → S
  | [], _, σ => σ
  | (_, r) :: l, i, σ =>
    if isE r.c then (if D i then stD D l (i + 1) r.σ' else σ)
    else if isA r.c then stD D l (i + 1) (σ ++ [if D i then r.σ'.getLastD .dead else .dead])
    else stD D l (i + 1) σ

/-- all that turn the store (of a list from number i on) are members -/
def AllE (D : Nat → Prop) (z : List (Oper × Rec)) (i : Nat) : Prop := ∀ k o r, z[k]? = some (o, r) → isE r.c = true → D (i + k)
def NoE (D : Nat → Prop) (z : List (Oper × Rec)) (i : Nat) : Prop := ∀ k o r, z[k]? = some (o, r) → isE r.c = true → ¬ D (i + k)
def AllA (D : Nat → Prop) (z : List (Oper × Rec)) (i : Nat) : Prop := ∀ k o r, z[k]? = some (o, r) → isA r.c = true → D (i + k)
def NoA (D : Nat → Prop) (z : List (Oper × Rec)) (i : Nat) : Prop := ∀ k o r, z[k]? = some (o, r) → isA r.c = true → ¬ D (i + k)

theorem shift {p : Nat → Prop} {Z : Cls → Bool} {x : Oper × Rec} {z : List (Oper × Rec)} {i : Nat} (h : ∀ k o r, (x :: z)[k]? = some (o, r) → Z r.c = true → p (i + k)) : ∀ k o r, z[k]? = some (o, r) → Z r.c = true → p (i + 1 + k) := fun k o r hk hz => by
  have := h (k + 1) o r (by simpa using hk) hz
  rwa [show i + (k + 1) = i + 1 + k by omega] at this
theorem AllE.tail {D : Nat → Prop} {x : Oper × Rec} {z : List (Oper × Rec)} {i : Nat} (h : AllE D (x :: z) i) : AllE D z (i + 1) := shift h
theorem NoE.tail {D : Nat → Prop} {x : Oper × Rec} {z : List (Oper × Rec)} {i : Nat} (h : NoE D (x :: z) i) : NoE D z (i + 1) := shift (p := fun k => ¬ D k) h
theorem AllA.tail {D : Nat → Prop} {x : Oper × Rec} {z : List (Oper × Rec)} {i : Nat} (h : AllA D (x :: z) i) : AllA D z (i + 1) := shift h
theorem NoA.tail {D : Nat → Prop} {x : Oper × Rec} {z : List (Oper × Rec)} {i : Nat} (h : NoA D (x :: z) i) : NoA D z (i + 1) := shift (p := fun k => ¬ D k) h
theorem AllE.head {D : Nat → Prop} {o : Oper} {r : Rec} {z : List (Oper × Rec)} {i : Nat} (h : AllE D ((o, r) :: z) i) (he : isE r.c = true) : D i := by simpa using h 0 o r (by simp) he
theorem NoE.head {D : Nat → Prop} {o : Oper} {r : Rec} {z : List (Oper × Rec)} {i : Nat} (h : NoE D ((o, r) :: z) i) (he : isE r.c = true) : ¬ D i := by simpa using h 0 o r (by simp) he
theorem AllA.head {D : Nat → Prop} {o : Oper} {r : Rec} {z : List (Oper × Rec)} {i : Nat} (h : AllA D ((o, r) :: z) i) (he : isA r.c = true) : D i := by simpa using h 0 o r (by simp) he
theorem NoA.head {D : Nat → Prop} {o : Oper} {r : Rec} {z : List (Oper × Rec)} {i : Nat} (h : NoA D ((o, r) :: z) i) (he : isA r.c = true) : ¬ D i := by simpa using h 0 o r (by simp) he

theorem stD_cons {D : Nat → Prop} {o : Oper} {r : Rec} {l : List (Oper × Rec)} {i : Nat} {σ : S} : stD D ((o, r) :: l) i σ =
    open Classical in if isE r.c then (if D i then stD D l (i + 1) r.σ' else σ)
    else if isA r.c then stD D l (i + 1) (σ ++ [if D i then r.σ'.getLastD .dead else .dead])
    else stD D l (i + 1) σ := rfl

theorem stD_append {D : Nat → Prop} : ∀ {z1 z2 : List (Oper × Rec)} {i : Nat} {σ : S}, AllE D z1 i → stD D (z1 ++ z2) i σ = stD D z2 (i + z1.length) (stD D z1 i σ)
  | [], _, _, _, _ => rfl
  | (o, r) :: z1, z2, i, σ, h => by
    have e : i + ((o, r) :: z1).length = i + 1 + z1.length := by simp; omega
    rw [List.cons_append, e, stD_cons, stD_cons]
    split
    · rename_i he
      rw [if_pos (h.head he), if_pos (h.head he)]
      exact stD_append h.tail
    · split
      · exact stD_append h.tail
      · exact stD_append h.tail

theorem stD_stop {D : Nat → Prop} {z1 z2 : List (Oper × Rec)} {o : Oper} {r : Rec} {i : Nat} {σ : S} (h : AllE D z1 i) (he : isE r.c = true) (hn : ¬ D (i + z1.length)) : stD D (z1 ++ (o, r) :: z2) i σ = stD D z1 i σ := by
  rw [stD_append h]
  rw [stD_cons, if_pos he, if_neg hn]

theorem stD_congr {D D' : Nat → Prop} : ∀ {z : List (Oper × Rec)} {i : Nat} {σ : S}, (∀ k o r, z[k]? = some (o, r) → (isE r.c || isA r.c) = true → (D (i + k) ↔ D' (i + k))) → stD D z i σ = stD D' z i σ
  | [], _, _, _ => rfl
  | (o, r) :: z, i, σ, h => by
    have ht : ∀ σ, stD D z (i + 1) σ = stD D' z (i + 1) σ := fun σ => stD_congr fun k o r hk hz => by
      have := h (k + 1) o r (by simpa using hk) hz
      rwa [show i + (k + 1) = i + 1 + k by omega] at this
    rw [stD_cons, stD_cons]
    split
    · rename_i he
      have h0 : D i ↔ D' i := by simpa using h 0 o r (by simp) (by simp [he])
      by_cases hd : D i
      · rw [if_pos hd, if_pos (h0.1 hd), ht]
      · rw [if_neg hd, if_neg fun hh => hd (h0.2 hh)]
    · split
      · rename_i ha
        have h0 : D i ↔ D' i := by simpa using h 0 o r (by simp) (by simp [ha])
        by_cases hd : D i
        · rw [if_pos hd, if_pos (h0.1 hd), ht]
        · rw [if_neg hd, if_neg fun hh => hd (h0.2 hh), ht]
      · exact ht σ

theorem stD_tail {D : Nat → Prop} : ∀ (z : List (Oper × Rec)) (i : Nat), NoE D z i → ∃ t, ∀ σ, stD D z i σ = σ ++ t
  | [], _, _ => ⟨[], fun σ => by simp [stD]⟩
  | (o, r) :: z, i, h => by
    obtain ⟨t, ht⟩ := stD_tail z (i + 1) h.tail
    cases he : isE r.c with
    | true => exact ⟨[], fun σ => by rw [stD_cons, if_pos he, if_neg (h.head he)]; simp⟩
    | false =>
      cases ha : isA r.c with
      | true =>
        refine ⟨(open Classical in [if D i then r.σ'.getLastD .dead else .dead]) ++ t, fun σ => ?_⟩
        rw [stD_cons, if_neg (by simp [he]), if_pos ha, ht, List.append_assoc]
      | false =>
        refine ⟨t, fun σ => ?_⟩
        rw [stD_cons, if_neg (by simp [he]), if_neg (by simp [ha]), ht]

theorem stD_dead {D : Nat → Prop} : ∀ (z : List (Oper × Rec)) (i : Nat), NoE D z i → NoA D z i → ∃ n, ∀ σ, stD D z i σ = σ ++ List.replicate n .dead
  | [], _, _, _ => ⟨0, fun σ => by simp [stD]⟩
  | (o, r) :: z, i, h, k => by
    obtain ⟨n, ht⟩ := stD_dead z (i + 1) h.tail k.tail
    cases he : isE r.c with
    | true => exact ⟨0, fun σ => by rw [stD_cons, if_pos he, if_neg (h.head he)]; simp⟩
    | false =>
      cases ha : isA r.c with
      | true =>
        refine ⟨n + 1, fun σ => ?_⟩
        rw [stD_cons, if_neg (by simp [he]), if_pos ha, ht, if_neg (k.head ha), List.append_assoc]
        rfl
      | false =>
        refine ⟨n, fun σ => ?_⟩
        rw [stD_cons, if_neg (by simp [he]), if_neg (by simp [ha]), ht]

section chain

theorem stD_near {D U : Nat → Prop} : ∀ {z : List (Oper × Rec)} {i : Nat} {s : S} {ρ : List V} {σ : S} {ρ1 : List V} {σ1 : S}, AllE D z i → Chain pol (callW pol run yl) ops z ρ σ ρ1 σ1 → s.length = σ.length → (∀ id, s[id]? = σ[id]? ∨ U id) →
    (∀ k o r, z[k]? = some (o, r) → isA r.c = true → ¬ D (i + k) → (∀ j o' r', j < k → z[j]? = some (o', r') → isE r'.c = true → D (i + j)) → U r.σ.length) → (stD D z i s).length = σ1.length ∧ ∀ id, (stD D z i s)[id]? = σ1[id]? ∨ U id
  | [], i, s, ρ, σ, ρ1, σ1, _, hc, hl, hn, _ => by
    obtain ⟨_, rfl⟩ := hc
    exact ⟨hl, hn⟩
  | (o, r) :: z, i, s, ρ, σ, ρ1, σ1, h, hc, hl, hn, hU => by
    obtain ⟨h1, h2, h3, h4⟩ := hc
    have hU' : ∀ k o r, z[k]? = some (o, r) → isA r.c = true → ¬ D (i + 1 + k) → (∀ j o' r', j < k → z[j]? = some (o', r') → isE r'.c = true → D (i + 1 + j)) → U r.σ.length := fun k o' r' hk ha hd hj =>
      hU (k + 1) o' r' (by simpa using hk) ha (by rwa [show i + (k + 1) = i + 1 + k by omega]) fun j o2 r2 hlt hz he => by
        cases j with
        | zero => simp at hz; obtain ⟨rfl, rfl⟩ := hz; exact h.head he
        | succ j =>
          have := hj j o2 r2 (by omega) (by simpa using hz) he
          rwa [show i + (j + 1) = i + 1 + j by omega]
    rw [stD_cons]
    cases he : isE r.c with
    | true =>
      rw [if_pos rfl, if_pos (h.head he)]
      exact stD_near h.tail h4 rfl (fun _ => .inl rfl) hU'
    | false =>
      rw [if_neg (by simp)]
      cases ha : isA r.c with
      | true =>
        rw [if_pos rfl]
        have hca : r.c = .a := by cases hh : r.c <;> rw [hh] at ha <;> simp [isA] at ha
        obtain ⟨_, nw, _, _, hnew⟩ := h3.new hca
        refine stD_near h.tail h4 (by rw [hnew]; simp [hl, h2]) (fun id => ?_) hU'
        rw [hnew]
        rcases Nat.lt_trichotomy id s.length with hid | hid | hid
        · rw [List.getElem?_append_left hid, List.getElem?_append_left (by rw [h2]; omega), h2]
          exact hn id
        · subst hid
          by_cases hd : D i
          · left
            rw [if_pos hd]
            rw [List.getElem?_append_right (Nat.le_refl _), List.getElem?_append_right (by rw [h2]; omega), h2, hl]
            simp
          · right
            have := hU 0 o r (by simp) ha (by simpa using hd) (fun j _ _ hj => by omega)
            rwa [h2, ← hl] at this
        · left
          rw [List.getElem?_eq_none (by simp; omega), List.getElem?_eq_none (by simp [h2]; omega)]
      | false =>
        rw [if_neg (by simp)]
        have hq := h3.quiet he ha
        refine stD_near h.tail h4 (by rw [hq, h2]; exact hl) (fun id => by rw [hq, h2]; exact hn id) hU'

theorem stD_full {D : Nat → Prop} {z : List (Oper × Rec)} {i : Nat} {ρ : List V} {σ : S} {ρ1 : List V} {σ1 : S} (h : AllE D z i) (k : AllA D z i) (hc : Chain pol (callW pol run yl) ops z ρ σ ρ1 σ1) : stD D z i σ = σ1 := by
  obtain ⟨h1, h2⟩ := stD_near (U := fun _ => False) h hc rfl (fun _ => .inl rfl) fun j o r hj ha hd _ => hd (k j o r hj ha)
  exact List.ext_getElem? fun id => (h2 id).resolve_right fun hf => hf

/-- without turning ones between: what was there is there -/
theorem chain_grow {z : List (Oper × Rec)} : ∀ {ρ : List V} {σ : S} {ρ1 : List V} {σ1 : S}, (∀ (k : Nat) (o : Oper) (r : Rec), z[k]? = some (o, r) → isE r.c = false) → Chain pol (callW pol run yl) ops z ρ σ ρ1 σ1 → σ.length ≤ σ1.length := by
  induction z with
  | nil => rintro ρ σ ρ1 σ1 _ ⟨_, rfl⟩; exact Nat.le_refl _
  | cons x z ih =>
    obtain ⟨o, r⟩ := x
    rintro ρ σ ρ1 σ1 hn ⟨h1, h2, h3, h4⟩
    have := ih (fun k o' r' hk => hn (k + 1) o' r' (by simpa using hk)) h4
    have he := hn 0 o r (by simp)
    cases ha : isA r.c with
    | true =>
      have hca : r.c = .a := by cases hh : r.c <;> rw [hh] at ha <;> simp [isA] at ha
      obtain ⟨_, nw, _, _, hnew⟩ := h3.new hca
      rw [hnew] at this
      simp at this
      rw [← h2]; omega
    | false => rw [h3.quiet he ha, h2] at this; exact this

/-- a value read at the start is read at the end, where those that turn the store between the two leave it -/
theorem read_on {id : Nat} {ρ0 : List V} {ox : Oper} {v : V} (hr : ∀ σ, opV pol.E (callW pol run yl) ρ0 σ ox = some (.val v) → ∀ σ2, (∀ e, nth σ id = some e → nth σ2 id = some e) → opV pol.E (callW pol run yl) ρ0 σ2 ox = some (.val v)) :
    ∀ {z : List (Oper × Rec)} {ρ : List V} {σ : S} {ρ1 : List V} {σ1 : S}, Chain pol (callW pol run yl) ops z ρ σ ρ1 σ1 → (∀ (k : Nat) (o : Oper) (r : Rec), z[k]? = some (o, r) → isE r.c = true → opV pol.E (callW pol run yl) ρ0 r.σ' ox = some (.val v)) → opV pol.E (callW pol run yl) ρ0 σ ox = some (.val v) → opV pol.E (callW pol run yl) ρ0 σ1 ox = some (.val v)
  | [], _, _, _, _, hc, _, h => by obtain ⟨_, rfl⟩ := hc; exact h
  | (o, r) :: z, ρ, σ, ρ1, σ1, hc, hs, h => by
    obtain ⟨h1, h2, h3, h4⟩ := hc
    refine read_on hr h4 (fun k o' r' hk he => hs (k + 1) o' r' (by simpa using hk) he) ?_
    cases he : isE r.c with
    | true => exact hs 0 o r (by simp) he
    | false =>
      cases ha : isA r.c with
      | true =>
        have hca : r.c = .a := by cases hh : r.c <;> rw [hh] at ha <;> simp [isA] at ha
        obtain ⟨_, nw, _, _, hnew⟩ := h3.new hca
        refine hr σ h _ fun e he => ?_
        rw [nth_eq] at he ⊢
        rw [hnew, h2, List.getElem?_append_left (lt_of_some he)]
        exact he
      | false => rw [h3.quiet he ha, h2]; exact h
end chain
end
end Go.VV

namespace Go.VV
open Go.RowKit

/-! ### temporaries -/
theorem EncT_of_nth {m : Mem} : ∀ {xs : List V} {vs : List Value}, xs.length = vs.length → (∀ i, Enc m (nthD xs i) (vs.getD i undef)) → EncT m xs vs
  | [], [], _, _ => trivial
  | _ :: _, _ :: _, hl, h => ⟨by simpa [nthD] using h 0, EncT_of_nth (by simpa using hl) fun i => by simpa [nthD] using h (i + 1)⟩
  | [], _ :: _, hl, _ => by simp at hl
  | _ :: _, [], hl, _ => by simp at hl

theorem putV_length {ρ : List V} {d : Option Tmp} {v : V} : (putV ρ d v).length = ρ.length := by cases d <;> simp [putV]
theorem nthD_set_self {v : V} : ∀ {ρ ρ' : List V} {t : Nat}, ρ.length = ρ'.length → nthD (ρ.set t v) t = nthD (ρ'.set t v) t
  | [], [], _, _ => rfl
  | _ :: _, _ :: _, 0, _ => by simp [nthD]
  | _ :: _, _ :: _, t + 1, h => by simpa [nthD] using nthD_set_self (t := t) (by simpa using h)
  | [], _ :: _, _, h => by simp at h
  | _ :: _, [], _, h => by simp at h
theorem nthD_undef : ∀ {ρ : List V} {t : Nat}, nthD (ρ.set t .undef) t = .undef
  | [], _ => by simp [nthD]
  | _ :: _, 0 => by simp [nthD]
  | _ :: ρ, t + 1 => by simpa [nthD] using nthD_undef (ρ := ρ) (t := t)

theorem rhoD_cons {D : Nat → Prop} {o : Oper} {r : Rec} {l : List (Oper × Rec)} {i : Nat} {ρ : List V} : rhoD D ((o, r) :: l) i ρ = rhoD D l (i + 1) (open Classical in if D i then putV ρ o.dst r.v else ρ) := rfl
theorem rhoD_append {D : Nat → Prop} : ∀ {z1 z2 : List (Oper × Rec)} {i : Nat} {ρ : List V}, rhoD D (z1 ++ z2) i ρ = rhoD D z2 (i + z1.length) (rhoD D z1 i ρ)
  | [], _, _, _ => rfl
  | (o, r) :: z1, z2, i, ρ => by
    have e : i + ((o, r) :: z1).length = i + 1 + z1.length := by simp; omega
    rw [List.cons_append, e, rhoD_cons, rhoD_cons]
    exact rhoD_append
theorem rhoD_length {D : Nat → Prop} : ∀ {z : List (Oper × Rec)} {i : Nat} {ρ : List V}, (rhoD D z i ρ).length = ρ.length
  | [], _, _ => rfl
  | (o, r) :: z, i, ρ => by
    rw [rhoD_cons, rhoD_length]
    split
    · exact putV_length
    · rfl
theorem rhoD_congr {D D' : Nat → Prop} : ∀ {z : List (Oper × Rec)} {i : Nat} {ρ : List V}, (∀ j, j < z.length → (D (i + j) ↔ D' (i + j))) → rhoD D z i ρ = rhoD D' z i ρ
  | [], _, _, _ => rfl
  | (o, r) :: z, i, ρ, h => by
    have h0 : D i ↔ D' i := by simpa using h 0 (by simp)
    have ht : ∀ ρ, rhoD D z (i + 1) ρ = rhoD D' z (i + 1) ρ := fun ρ => rhoD_congr fun j hj => by
      have := h (j + 1) (by simpa using hj)
      rwa [show i + (j + 1) = i + 1 + j by omega] at this
    rw [rhoD_cons, rhoD_cons, ht]
    by_cases hd : D i
    · rw [if_pos hd, if_pos (h0.1 hd)]
    · rw [if_neg hd, if_neg fun hh => hd (h0.2 hh)]
theorem rhoD_none {D : Nat → Prop} : ∀ {z : List (Oper × Rec)} {i : Nat} {ρ : List V}, (∀ j, ¬ D (i + j)) → rhoD D z i ρ = ρ
  | [], _, _, _ => rfl
  | (o, r) :: z, i, ρ, h => by
    rw [rhoD_cons, if_neg (by simpa using h 0)]
    exact rhoD_none fun j => by have := h (j + 1); rwa [show i + (j + 1) = i + 1 + j by omega] at this
theorem putV_comm {ρ : List V} {d d' : Option Tmp} {v v' : V} (h : ∀ t, d = some t → d' ≠ some t) : putV (putV ρ d v) d' v' = putV (putV ρ d' v') d v := by
  cases d with
  | none => rfl
  | some t =>
    cases d' with
    | none => rfl
    | some t' =>
      have : t ≠ t' := fun e => h t rfl (by rw [e])
      simp only [putV]
      rw [List.set_comm _ _ this]
theorem rhoD_put {D : Nat → Prop} {d : Option Tmp} {v : V} : ∀ {z : List (Oper × Rec)} {i : Nat} {ρ : List V}, (∀ j o r, z[j]? = some (o, r) → D (i + j) → ∀ t, d = some t → o.dst ≠ some t) → rhoD D z i (putV ρ d v) = putV (rhoD D z i ρ) d v
  | [], _, _, _ => rfl
  | (o, r) :: z, i, ρ, h => by
    have ht : ∀ ρ, rhoD D z (i + 1) (putV ρ d v) = putV (rhoD D z (i + 1) ρ) d v := fun ρ => rhoD_put fun j o' r' hj hd => h (j + 1) o' r' (by simpa using hj) (by rwa [show i + (j + 1) = i + 1 + j by omega])
    rw [rhoD_cons, rhoD_cons]
    by_cases hd : D i
    · rw [if_pos hd, if_pos hd, ← ht]
      rw [putV_comm fun t e => h 0 o r (by simp) (by simpa using hd) t e]
    · rw [if_neg hd, if_neg hd, ht]

section
variable {pol : Pol} {call : CallF} {ops : List Oper}
theorem rho_chain {D : Nat → Prop} {t : Nat} : ∀ {z : List (Oper × Rec)} {i : Nat} {ρ ρ' : List V} {σ : S} {ρ1 : List V} {σ1 : S}, Chain pol call ops z ρ' σ ρ1 σ1 → ρ.length = ρ'.length → nthD ρ t = nthD ρ' t →
    (∀ k o r, z[k]? = some (o, r) → o.dst = some t → D (i + k)) → nthD (rhoD D z i ρ) t = nthD ρ1 t
  | [], _, _, _, _, _, _, hc, _, h, _ => by obtain ⟨rfl, _⟩ := hc; exact h
  | (o, r) :: z, i, ρ, ρ', σ, ρ1, σ1, hc, hl, h, hw => by
    obtain ⟨h1, h2, h3, h4⟩ := hc
    subst h1
    have hw' : ∀ k o r, z[k]? = some (o, r) → o.dst = some t → D (i + 1 + k) := fun k o' r' hk hd => by
      have := hw (k + 1) o' r' (by simpa using hk) hd
      rwa [show i + (k + 1) = i + 1 + k by omega] at this
    rw [rhoD_cons]
    by_cases hd : o.dst = some t
    · have : D i := by simpa using hw 0 o r (by simp) hd
      rw [if_pos this]
      refine rho_chain h4 (by rw [putV_length, putV_length, hl]) ?_ hw'
      rw [hd]
      exact nthD_set_self hl
    · refine rho_chain h4 ?_ ?_ hw'
      · rw [putV_length, ← hl]
        split
        · exact putV_length
        · rfl
      · rw [nthD_putV_ne hd]
        split
        · rw [nthD_putV_ne hd, h]
        · exact h
end

theorem forget_at {ops : List Oper} {t : Nat} : ∀ {ρ : List V}, (nthD ρ t = .undef ∨ ∃ o ∈ ops, o.dst = some t) → nthD (forget ops ρ) t = .undef := by
  induction ops with
  | nil =>
    intro ρ h
    rcases h with h | ⟨o, ho, _⟩
    · exact h
    · cases ho
  | cons x ops ih =>
    intro ρ h
    show nthD (forget ops (putV ρ x.dst .undef)) t = .undef
    by_cases hx : x.dst = some t
    · exact ih (.inl (by rw [hx]; exact nthD_undef))
    · refine ih ?_
      rcases h with h | ⟨o, ho, hd⟩
      · left; rw [nthD_putV_ne hx]; exact h
      · right
        rcases List.mem_cons.1 ho with rfl | ho
        · exact (hx hd).elim
        · exact ⟨o, ho, hd⟩
theorem forget_keep {ops : List Oper} {t : Nat} : ∀ {ρ : List V}, (∀ o ∈ ops, o.dst ≠ some t) → nthD (forget ops ρ) t = nthD ρ t := by
  induction ops with
  | nil => intro ρ _; rfl
  | cons x ops ih =>
    intro ρ h
    show nthD (forget ops (putV ρ x.dst .undef)) t = nthD ρ t
    rw [ih fun o ho => h o (by simp [ho]), nthD_putV_ne (h x (by simp))]
theorem forget_length {ops : List Oper} : ∀ {ρ : List V}, (forget ops ρ).length = ρ.length := by
  induction ops with
  | nil => intro ρ; rfl
  | cons x ops ih => intro ρ; show (forget ops (putV ρ x.dst .undef)).length = _; rw [ih, putV_length]

/-! ### rooms -/
theorem Inv.rooms {w : World} {m : Mem} : ∀ {n : Nat} {σ : S}, Inv w σ m → Inv w (σ ++ List.replicate n .dead) m
  | 0, σ, h => by simpa using h
  | n + 1, σ, h => by
    have := Inv.rooms (n := n) h.room
    rwa [List.append_assoc] at this
theorem owned_rooms {m : Mem} {b : Nat} : ∀ {n : Nat} {σ : S}, Owned (σ ++ List.replicate n .dead) m b ↔ Owned σ m b
  | 0, σ => by simp
  | n + 1, σ => by
    have := owned_rooms (m := m) (b := b) (n := n) (σ := σ ++ [.dead])
    rw [List.append_assoc] at this
    exact this.trans owned_room
theorem Ext.rooms {w w' : World} {σ σ' : S} {m m' : Mem} {n : Nat} (h : Ext w σ m w' σ' m') : Ext w σ m w' (σ' ++ List.replicate n .dead) m' :=
  ⟨h.le, h.os, h.tape, h.output, h.grow, h.kept, fun b hb ho => h.own b hb (owned_rooms.1 ho), h.newst, h.fresh, by have := h.len; simp; omega⟩
theorem Ext.place {w1 w2 w3 : World} {σ1 σ2 σ3 : S} {m1 m2 m3 : Mem} {p : Nat} (h : Ext w1 σ1 m1 w2 σ2 m2) (k : ExtP p w2 σ2 m2 w3 σ3 m3) (hp : σ1.length ≤ p) (hl : σ3.length = σ2.length) : Ext w1 σ1 m1 w3 σ3 m3 where
  le := h.le.trans k.le
  os := k.os.trans h.os
  tape := k.tape.trans h.tape
  output := k.output.trans h.output
  grow := Nat.le_trans h.grow k.grow
  kept b hb hn := (k.kept b (Nat.lt_of_lt_of_le hb h.grow) fun ho => hn (h.own b hb ho)).trans (h.kept b hb hn)
  own b hb ho := h.own b hb (k.own b (Nat.lt_of_lt_of_le hb h.grow) ho)
  newst g j c hc := by
    rcases k.newst g j c hc with h1 | h1 | h1
    · exact h.newst g j c h1
    · exact .inr (.inl (Nat.le_trans h.grow h1))
    · by_cases hg : g < w1.heap.size
      · exact .inr (.inr (h.own g hg h1))
      · exact .inr (.inl (by omega))
  fresh id hid := by
    rcases (k.live id).1 hid with rfl | h1
    · exact .inr hp
    · exact h.fresh id h1
  len := by rw [hl]; exact h.len

/-! ### orders -/
section
variable {pol : Pol} {call : CallF}
theorem stableAt_ok {o : Oper} {r : Rec} {σ : S} (h : againstOk.stableAt pol o r σ = true) : opV pol.E call r.ρ σ o = some (.val r.v) := by
  unfold againstOk.stableAt at h
  split at h
  · rename_i t a hop
    split at h
    · rename_i v hv
      have := beqV_eq _ _ h
      subst this
      simp only [opV, hop, opK, hv]; rfl
    · cases h
  · cases h

/-- what two operations that no edge orders must be -/
structure PairOk (pol : Pol) (call : CallF) (ox : Oper) (x : Rec) (oy : Oper) (y : Rec) : Prop where
  ee : isE x.c = true → isE y.c = false ∧ isA y.c = false
  ae : isA x.c = true → isE y.c = false
  re : ∀ id, x.c = .r id → isE y.c = true → opV pol.E call x.ρ y.σ ox = some (.val x.v) ∧ opV pol.E call x.ρ y.σ' ox = some (.val x.v)
  er : ∀ id, y.c = .r id → isE x.c = true → opV pol.E call y.ρ x.σ oy = some (.val y.v) ∧ opV pol.E call y.ρ x.σ' oy = some (.val y.v)

theorem againstOk_ok {ops : List Oper} {base : Nat} {y : Rec} {mask : Nat} {oy : Oper} : ∀ {l : List (Oper × Rec)} {i j : Nat}, againstOk pol ops base y mask l i j oy = true →
    ∀ k ox x, l[k]? = some (ox, x) → i + k < j → mask.testBit (i + k) = true ∨ PairOk pol call ox x oy y
  | [], _, _, _, k, _, _, hk, _ => by simp at hk
  | (oz, z) :: l, i, j, h, k, ox, x, hk, hlt => by
    unfold againstOk at h
    simp only [Bool.and_eq_true] at h
    cases k with
    | zero =>
      simp only [List.getElem?_cons_zero, Option.some.injEq, Prod.mk.injEq] at hk
      obtain ⟨rfl, rfl⟩ := hk
      have h1 := h.1
      rw [if_pos (by simpa using hlt)] at h1
      simp only [Bool.or_eq_true] at h1
      rcases h1 with h1 | h1
      · exact .inl (by simpa using h1)
      · right
        cases hx : z.c <;> cases hy : y.c <;> rw [hx, hy] at h1 <;> simp only [Bool.and_eq_true, Bool.false_eq_true] at h1 <;>
          refine ⟨?_, ?_, ?_, ?_⟩ <;> (try rw [hx]) <;> (try rw [hy]) <;> simp only [isE, isA] <;> intros <;> first
            | (simp_all; done)
            | exact ⟨stableAt_ok h1.1.2, stableAt_ok h1.2⟩
    | succ k =>
      have := againstOk_ok h.2 k ox x (by simpa using hk) (by omega)
      rwa [show i + 1 + k = i + (k + 1) by omega] at this

theorem drawGo_ok {ops : List Oper} {base : Nat} {all : List (Oper × Rec)} : ∀ {l : List (Oper × Rec)} {mks : List Nat} {j : Nat}, drawGo pol ops base all l mks j = true →
    ∀ k oy y, l[k]? = some (oy, y) → againstOk pol ops base y (nthN mks k) all 0 (j + k) oy = true
  | [], _, _, _, k, _, _, hk => by simp at hk
  | (oz, z) :: l, mk :: mks, j, h, k, oy, y, hk => by
    unfold drawGo at h
    simp only [Bool.and_eq_true] at h
    cases k with
    | zero =>
      simp only [List.getElem?_cons_zero, Option.some.injEq, Prod.mk.injEq] at hk
      obtain ⟨rfl, rfl⟩ := hk
      simpa [nthN] using h.1
    | succ k =>
      have := drawGo_ok h.2 k oy y (by simpa using hk)
      rwa [show j + 1 + k = j + (k + 1) by omega] at this
  | _ :: _, [], _, h, _, _, _, _ => by simp [drawGo] at h

theorem pair_ok {ops : List Oper} {base : Nat} {zs : List (Oper × Rec)} (h : drawGo pol ops base zs zs (masks ops) 0 = true) {i j : Nat} {ox oy : Oper} {x y : Rec} (hx : zs[i]? = some (ox, x)) (hy : zs[j]? = some (oy, y)) (hij : i < j)
    (hb : ¬ (nthN (masks ops) j).testBit i = true) : PairOk pol call ox x oy y := by
  have := againstOk_ok (call := call) (drawGo_ok h j oy y hy) i ox x hx (by omega)
  simpa [hb] using this
end

/-- edges are in the masks -/
theorem maskOf_edge {acc : List Nat} : ∀ {es : List Edge} {e : Edge}, e ∈ es → Region.binds .any e = true → (maskOf acc es).testBit e.on = true
  | [], _, h, _ => by cases h
  | x :: es, e, h, hb => by
    unfold maskOf
    rcases List.mem_cons.1 h with rfl | h
    · rw [if_pos hb]
      show ((1 <<< e.on ||| nthN acc e.on) ||| maskOf acc es).testBit e.on = true
      simp [Nat.testBit_or, Nat.one_shiftLeft, Nat.testBit_two_pow]
    · have ih := maskOf_edge (acc := acc) h hb
      split
      · show ((1 <<< x.on ||| nthN acc x.on) ||| maskOf acc es).testBit e.on = true
        simp [Nat.testBit_or, ih]
      · exact ih
theorem masksGo_keep : ∀ {l : List Oper} {acc : List Nat} {i : Nat}, i < acc.length → nthN (masksGo l acc) i = nthN acc i
  | [], _, _, _ => rfl
  | o :: l, acc, i, h => by
    unfold masksGo
    rw [masksGo_keep (by simp; omega), nthN_append, if_neg (by omega)]
theorem masksGo_edge : ∀ {l : List Oper} {acc : List Nat} {j : Nat} {o : Oper} {e : Edge}, l[j]? = some o → e ∈ o.after.toList → Region.binds .any e = true → (nthN (masksGo l acc) (acc.length + j)).testBit e.on = true
  | [], _, j, _, _, h, _, _ => by simp at h
  | x :: l, acc, j, o, e, h, he, hb => by
    unfold masksGo
    cases j with
    | zero =>
      simp at h; subst h
      rw [masksGo_keep (by simp), nthN_append, if_pos (by simp)]
      exact maskOf_edge he hb
    | succ j =>
      have := masksGo_edge (acc := acc ++ [maskOf acc x.after.toList]) (j := j) (by simpa using h) he hb
      simpa [Nat.add_assoc, Nat.add_comm 1 j] using this
theorem mask_edge {ops : List Oper} {j : Nat} {o : Oper} {e : Edge} (h : ops[j]? = some o) (he : e ∈ o.after.toList) (hb : Region.binds .any e = true) : (nthN (masks ops) j).testBit e.on = true := by
  have := masksGo_edge (acc := []) h he hb
  simpa [masks] using this
end Go.VV

namespace Go.VV
open Go.RowKit

section
variable {run : FuncId → List V → S → Option (Out × S)} {yl : Nat → List V → S → Option (Out × S)} {pol : Pol} {ops : Array Oper}

/-- where the set D has been carried out -/
structure DInv (zs : List (Oper × Rec)) (ρ0 : List V) (σ0 : S) (w0 : World) (m0 : Mem) (a0 : Act) (D : Nat → Prop) (a : Act) (w : World) (m : Mem) : Prop where
  inv : Inv w (stD D zs 0 σ0) m
  ext : Ext w0 σ0 m0 w (stD D zs 0 σ0) m
  tmps : EncT m (rhoD D zs 0 ρ0) a.tmps.toList
  dfs : a.defers = a0.defers
  fresh : ∀ k o r, zs[k]? = some (o, r) → isA r.c = true → ¬ D k → (∀ j o' r', j < k → zs[j]? = some (o', r') → isE r'.c = true → D j) → ¬ m.live r.σ.length ∧ σ0.length ≤ r.σ.length
  mem : ∀ i, D i → i < zs.length

theorem split_at {α : Type} {l : List α} {k : Nat} {x : α} (h : l[k]? = some x) : ∃ l1 l2, l = l1 ++ x :: l2 ∧ l1.length = k := by
  have hlt := lt_of_some h
  refine ⟨l.take k, l.drop (k + 1), ?_, by rw [List.length_take]; omega⟩
  have e : l[k] = x := by rw [List.getElem?_eq_getElem hlt] at h; simpa using h
  rw [← e, ← List.drop_eq_getElem_cons hlt, List.take_append_drop]
theorem get_left {α : Type} {l1 l2 : List α} {k : Nat} {x : α} (h : l1[k]? = some x) : (l1 ++ l2)[k]? = some x := by rw [List.getElem?_append_left (lt_of_some h)]; exact h
theorem get_right {α : Type} {l1 l2 : List α} {x : α} {k : Nat} {y : α} (h : l2[k]? = some y) : (l1 ++ x :: l2)[l1.length + (k + 1)]? = some y := by
  rw [List.getElem?_append_right (by omega)]
  rw [show l1.length + (k + 1) - l1.length = k + 1 by omega]
  simpa using h

variable {zs : List (Oper × Rec)} {ρ0 : List V} {σ0 : S} {ρ1 : List V} {σ1 : S} {w0 : World} {m0 : Mem} {a0 : Act}

section step
variable {P : Program} (hE : EOk P pol.E) (hC : CallOk P pol.E (callW pol run yl)) (hch : Chain pol (callW pol run yl) ops.toList zs ρ0 σ0 ρ1 σ1)
  (hops : ∀ (k : Nat) (o : Oper) (r : Rec), zs[k]? = some (o, r) → ops.toList[k]? = some o) (hslots : slotsOk ops.toList = true) (hord : drawGo pol ops.toList σ0.length zs zs (masks ops.toList) 0 = true)
  {D : Nat → Prop} (hcl : ∀ j i, D j → (nthN (masks ops.toList) j).testBit i = true → D i)
  {a : Act} {w : World} {m : Mem} (hD : DInv zs ρ0 σ0 w0 m0 a0 D a w m) (hG : GlobOk pol.E m.st)

/-- what an operation that may come next reads is what it read on the canonical way -/
theorem reads_at {z1 z2 : List (Oper × Rec)} {o : Oper} {ρk : List V} {σk : S} (hz : zs = z1 ++ z2) (ho : ops.toList[z1.length]? = some o) (hk : Chain pol (callW pol run yl) ops.toList z1 ρ0 σ0 ρk σk)
    (hops : ∀ (k : Nat) (o : Oper) (r : Rec), zs[k]? = some (o, r) → ops.toList[k]? = some o) (hslots : slotsOk ops.toList = true) (hcl : ∀ j i, D j → (nthN (masks ops.toList) j).testBit i = true → D i)
    (hn : ¬ D z1.length) (hr : ∀ i, (nthN (masks ops.toList) z1.length).testBit i = true → D i) : ∀ t, (readsOf ops.toList o).contains t = true → nthD (rhoD D zs 0 ρ0) t = nthD ρk t := by
  intro t ht
  subst hz
  rw [rhoD_append, rhoD_keep]
  · refine rho_chain hk rfl rfl fun k o' r' hk' hd => ?_
    rw [Nat.zero_add]
    have hlt := lt_of_some hk'
    refine hr k (slots_ok hslots (hops k o' r' (get_left hk')) ho hlt ?_)
    unfold clashT
    rw [hd]
    simp only [ht, Bool.true_or]
  · intro k o' r' hk' hd hdst
    rw [Nat.zero_add] at hd
    cases k with
    | zero => exact hn (by simpa using hd)
    | succ k =>
      refine hn (hcl _ _ hd (slots_ok hslots ho (hops (z1.length + (k + 1)) o' r' ?_) (by omega) ?_))
      · rw [List.getElem?_append_right (by omega), show z1.length + (k + 1) - z1.length = k + 1 by omega]; exact hk'
      · unfold clashT
        rw [hdst]
        simp only [ht, Bool.or_true]

include hE hC hch hops hslots hord hcl hD hG
theorem step_ok {rnd : Option Nat} {n : Nat} {Q : Exit → Act → World → Prop} {K : Act → World → Prop} {k : Nat} {o : Oper} {r : Rec} (hk : zs[k]? = some (o, r)) (hn : ¬ D k) (hr : ∀ i, (nthN (masks ops.toList) k).testBit i = true → D i)
    (hK : ∀ a' w' m', DInv zs ρ0 σ0 w0 m0 a0 (fun i => i = k ∨ D i) a' w' m' → m.Le m' → K a' w') : wpOpIn (Fw rnd) n P ops Q k K a w := by
  have hko := hops k o r hk
  obtain ⟨z1, z2, hz, hlen⟩ := split_at hk
  subst hlen
  have hcut := Chain.cut (hz ▸ hch)
  obtain ⟨hc1, hrec, hc2⟩ := hcut
  have hreads := reads_at (z2 := (o, r) :: z2) hz hko hc1 hops hslots hcl hn hr
  have hev := ev_congr (E := pol.E) hreads
  have hwv := wantV_congr hreads
  have hopv : ∀ σ, opV pol.E (callW pol run yl) (rhoD D zs 0 ρ0) σ o = opV pol.E (callW pol run yl) r.ρ σ o := fun σ => opK_congr hev
  have lt1 : ∀ j o' r', z1[j]? = some (o', r') → zs[j]? = some (o', r') := fun j o' r' h => by rw [hz]; exact get_left h
  have gt2 : ∀ j o' r', z2[j]? = some (o', r') → zs[z1.length + (j + 1)]? = some (o', r') := fun j o' r' h => by rw [hz]; exact get_right h
  -- one before it that no edge orders is no member
  have pairL : ∀ {j o' r'}, z1[j]? = some (o', r') → ¬ D j → PairOk pol (callW pol run yl) o' r' o r := fun {j o' r'} h hd =>
    pair_ok hord (lt1 j o' r' h) hk (lt_of_some h) fun hb => hd (hr j hb)
  have pairR : ∀ {j o' r'}, z2[j]? = some (o', r') → D (z1.length + (j + 1)) → PairOk pol (callW pol run yl) o r o' r' := fun {j o' r'} h hd =>
    pair_ok hord hk (gt2 j o' r' h) (by omega) fun hb => hn (hcl _ _ hd hb)
  have hst1 : rhoD (fun i => i = z1.length ∨ D i) zs 0 ρ0 = putV (rhoD D zs 0 ρ0) o.dst r.v := by
    rw [hz, rhoD_append, rhoD_append]
    have e1 : rhoD (fun i => i = z1.length ∨ D i) z1 0 ρ0 = rhoD D z1 0 ρ0 := rhoD_congr fun j hj => ⟨fun h => h.resolve_left (by omega), .inr⟩
    rw [e1]
    simp only [Nat.zero_add]
    rw [rhoD_cons, rhoD_cons]
    rw [if_pos (.inl rfl), if_neg hn]
    have e2 : ∀ ρ, rhoD (fun i => i = z1.length ∨ D i) z2 (z1.length + 1) ρ = rhoD D z2 (z1.length + 1) ρ := fun ρ => rhoD_congr fun j hj => ⟨fun h => h.resolve_left (by omega), .inr⟩
    rw [e2]
    refine rhoD_put fun j o' r' hj hd t ht hdst => ?_
    rw [show z1.length + 1 + j = z1.length + (j + 1) by omega] at hd
    refine hn (hcl _ _ hd (slots_ok hslots hko (hops _ o' r' (gt2 j o' r' hj)) (by omega) ?_))
    unfold clashT
    rw [ht, hdst]
    simp
  have tmps' : ∀ {m' : Mem} {u : Value}, m.Le m' → Enc m' r.v u → EncT m' (rhoD (fun i => i = z1.length ∨ D i) zs 0 ρ0) (a.put o.dst u).tmps.toList := fun hle hu => by
    rw [hst1]; exact putTmps (hD.tmps.mono hle) hu
  have dfs' : ∀ {u : Value}, (a.put o.dst u).defers = a0.defers := fun {u} => by rw [put_defers]; exact hD.dfs
  have mem' : ∀ i, (i = z1.length ∨ D i) → i < zs.length := fun i h => by
    rcases h with rfl | h
    · exact lt_of_some hk
    · exact hD.mem i h
  have hko' : ops[z1.length]? = some o := by simpa using hko
  -- nothing turns
  have quiet : ∀ {a' : Act} {w' : World} {m' : Mem} {u : Value}, isE r.c = false → isA r.c = false → Inv w' (stD D zs 0 σ0) m' → Ext w (stD D zs 0 σ0) m w' (stD D zs 0 σ0) m' → Enc m' r.v u → K (a.put o.dst u) w' := fun {a' w' m' u} he ha h1 h2 h3 => by
    have hs : stD (fun i => i = z1.length ∨ D i) zs 0 σ0 = stD D zs 0 σ0 := stD_congr fun j o' r' hj hz' => by
      simp only [Nat.zero_add]
      refine ⟨fun h => h.resolve_left ?_, .inr⟩
      rintro rfl
      rw [hk] at hj
      simp only [Option.some.injEq, Prod.mk.injEq] at hj
      rw [← hj.2, he, ha] at hz'
      cases hz'
    refine hK _ w' m' ⟨by rw [hs]; exact h1, by rw [hs]; exact hD.ext.trans h2, tmps' h2.le h3, dfs', fun j o' r' hj ha' hd hall => ?_, mem'⟩ h2.le
    have hd' : ¬ D j := fun h => hd (.inr h)
    have := hD.fresh j o' r' hj ha' hd' fun i o2 r2 hi hz2 he2 => (hall i o2 r2 hi hz2 he2).resolve_left fun h => by
      subst h; rw [hk] at hz2; simp only [Option.some.injEq, Prod.mk.injEq] at hz2; rw [← hz2.2, he] at he2; cases he2
    refine ⟨fun hl => ?_, this.2⟩
    rcases h2.fresh _ hl with h | h
    · exact this.1 h
    · have := h1.size _ hl; omega
  unfold wpOpIn
  rw [hko']
  simp only
  rcases hrec with ⟨hw, hcp, hv, hq⟩ | ⟨hw, hcls, hval⟩
  · rw [wanted_ok hD.tmps (hwv.trans hw)]
    simp only [Bool.false_eq_true, if_false]
    refine ⟨fun _ _ => trivial, ?_⟩
    exact quiet (a' := a) (m' := m) (by rw [hcp]; rfl) (by rw [hcp]; rfl) hD.inv (.refl _ _ _) (by rw [hv]; exact undef_ok)
  · rw [wanted_ok hD.tmps (hwv.trans hw)]
    simp only [if_true]
    have hfree : isE r.c = false → isA r.c = false → opV pol.E (callW pol run yl) r.ρ (stD D zs 0 σ0) o = some (.val r.v) ∨ opV pol.E (callW pol run yl) r.ρ (stD D zs 0 σ0) o = some (.upd r.v (stD D zs 0 σ0)) → o.wpIn (Fw rnd) n P a w K Q := fun he ha h => by
      rcases h with h | h
      · exact op_ok hE hD.inv hG hD.tmps hC ((hopv _).trans h) (.inr fun d => by simp) fun w' m' u h1 h2 h3 => quiet (a' := a) he ha h1 h2 h3
      · exact op_ok hE hD.inv hG hD.tmps hC ((hopv _).trans h) (.inr fun d => by simp) fun w' m' u h1 h2 h3 => quiet (a' := a) he ha h1 h2 h3
    cases hc : r.c with
    | p =>
      have hcp := hcls.symm.trans hc
      refine hfree (by rw [hc]; rfl) (by rw [hc]; rfl) ?_
      rcases hval with ⟨h, _⟩ | h
      · exact .inl (class_p hcp h _)
      · exact .inr ((class_p hcp h).2 _)
    | r id =>
      have hcr := hcls.symm.trans hc
      have hval' : opV pol.E (callW pol run yl) r.ρ r.σ o = some (.val r.v) := by
        rcases hval with ⟨h, _⟩ | h
        · exact h
        · obtain ⟨⟨v, hv, _⟩, _⟩ := class_r hcr h; cases hv
      obtain ⟨_, x, hx, hxv⟩ := class_r hcr hval'
      have hread : ∀ σ, opV pol.E (callW pol run yl) r.ρ σ o = some (.val r.v) → ∀ σ2, (∀ e, nth σ id = some e → nth σ2 id = some e) → opV pol.E (callW pol run yl) r.ρ σ2 o = some (.val r.v) := fun σ h σ2 h2 => by
        obtain ⟨⟨v, hv, k⟩, _⟩ := class_r hcr h
        cases hv
        exact k σ2 h2
      have hlive : m.live id := by
        have := ev_ok (a := a) hG hD.tmps x
        rw [hev x hx] at this
        rcases hxv with ⟨off, hxv⟩ | hxv <;> rw [hxv] at this
        · simp only [Enc, EncA, EncC, E1] at this; exact this.1
        · simp only [Enc, EncA, EncC, E1] at this; exact this.1
      refine hfree (by rw [hc]; rfl) (by rw [hc]; rfl) (.inl ?_)
      -- the store's value at the end of a prefix
      have near : ∀ {y1 y2 : List (Oper × Rec)} {ρe : List V} {σe : S}, zs = y1 ++ y2 → AllE D y1 0 → Chain pol (callW pol run yl) ops.toList y1 ρ0 σ0 ρe σe → (∃ t, stD D zs 0 σ0 = stD D y1 0 σ0 ++ t) → opV pol.E (callW pol run yl) r.ρ σe o = some (.val r.v) → opV pol.E (callW pol run yl) r.ρ (stD D zs 0 σ0) o = some (.val r.v) := fun {y1 y2 ρe σe} hy hall hcy ht hv => by
        obtain ⟨t, ht⟩ := ht
        obtain ⟨_, hnear⟩ := stD_near (run := run) (yl := yl) (U := fun id => ¬ m.live id) hall hcy rfl (fun _ => .inl rfl) fun j o' r' hj ha hd hb =>
          (hD.fresh j o' r' (by rw [hy]; exact get_left hj) ha (by simpa using hd) fun i o2 r2 hi hz2 he2 => by
            have hi' : i < y1.length := by have := lt_of_some hj; omega
            rw [hy, List.getElem?_append_left hi'] at hz2
            simpa using hb i o2 r2 hi hz2 he2).1
        refine hread σe hv _ fun e he => ?_
        rw [nth_eq] at he ⊢
        have := (hnear id).resolve_right fun h => h hlive
        rw [ht, List.getElem?_append_left (lt_of_some (this.trans he)), this]
        exact he
      -- the first that turns the store and is no member
      by_cases hall : AllE D z1 0
      · -- all before it are members
        have : ∃ y2a y2b, z2 = y2a ++ y2b ∧ AllE D y2a (z1.length + 1) ∧ (y2b = [] ∨ ∃ o' r' l, y2b = (o', r') :: l ∧ isE r'.c = true ∧ ¬ D (z1.length + 1 + y2a.length)) := by
          clear quiet hfree hst1 tmps' pairR gt2 hc2 hk hko hz mem' near
          generalize z1.length + 1 = i
          induction z2 generalizing i with
          | nil => exact ⟨[], [], rfl, fun k _ _ h => by simp at h, .inl rfl⟩
          | cons y z2 ih =>
            obtain ⟨o', r'⟩ := y
            by_cases hy : isE r'.c = true ∧ ¬ D i
            · exact ⟨[], (o', r') :: z2, rfl, fun k _ _ h => by simp at h, .inr ⟨o', r', z2, rfl, hy.1, by simpa using hy.2⟩⟩
            · obtain ⟨ya, yb, h1, h2, h3⟩ := ih (i + 1)
              refine ⟨(o', r') :: ya, yb, by rw [h1]; rfl, fun k o2 r2 h he => ?_, ?_⟩
              · cases k with
                | zero =>
                  simp only [List.getElem?_cons_zero, Option.some.injEq, Prod.mk.injEq] at h
                  obtain ⟨rfl, rfl⟩ := h
                  by_cases hd : D i
                  · simpa using hd
                  · exact (hy ⟨he, hd⟩).elim
                | succ k =>
                  have := h2 k o2 r2 (by simpa using h) he
                  rwa [show i + (k + 1) = i + 1 + k by omega]
              · rcases h3 with h3 | ⟨o2, r2, l, h4, h5, h6⟩
                · exact .inl h3
                · refine .inr ⟨o2, r2, l, h4, h5, ?_⟩
                  rwa [show i + ((o', r') :: ya).length = i + 1 + ya.length by simp; omega]
        obtain ⟨ya, yb, hy, hally, hstop⟩ := this
        have hallz : AllE D (z1 ++ (o, r) :: ya) 0 := fun j o' r' hj he => by
          rw [Nat.zero_add]
          rcases Nat.lt_trichotomy j z1.length with hlt | heq | hgt
          · rw [List.getElem?_append_left hlt] at hj
            simpa using hall j o' r' hj he
          · subst heq
            rw [List.getElem?_append_right (Nat.le_refl _)] at hj
            simp at hj
            rw [← hj.2, hc] at he
            cases he
          · rw [List.getElem?_append_right (by omega)] at hj
            obtain ⟨i, hi⟩ : ∃ i, j - z1.length = i + 1 := ⟨j - z1.length - 1, by omega⟩
            rw [hi] at hj
            have := hally i o' r' (by simpa using hj) he
            rwa [show z1.length + 1 + i = j by omega] at this
        have hzz : zs = (z1 ++ (o, r) :: ya) ++ yb := by rw [hz, hy]; simp
        obtain ⟨ρe, σe, hca, hcb⟩ := Chain.append (hzz ▸ hch)
        obtain ⟨_, _, hca2⟩ := Chain.cut hca
        refine near hzz hallz hca ?_ ?_
        · refine ⟨[], ?_⟩
          rw [List.append_nil]
          rcases hstop with rfl | ⟨o2, r2, l, rfl, h5, h6⟩
          · rw [hzz, List.append_nil]
          · rw [hzz]
            exact stD_stop hallz h5 (by simpa [Nat.add_assoc, Nat.add_comm 1] using h6)
        · have hq := RecOk.quiet (run := run) (yl := yl) (.inr ⟨hw, hcls, hval⟩) (by rw [hc]; rfl) (by rw [hc]; rfl)
          refine read_on (run := run) (yl := yl) hread hca2 (fun j o' r' hj he => ?_) (by rw [hq]; exact hval')
          have hj' : z2[j]? = some (o', r') := by rw [hy]; exact get_left hj
          have hd := hally j o' r' hj he
          exact ((pairR hj' (by rwa [show z1.length + (j + 1) = z1.length + 1 + j by omega])).re id hc he).2
      · -- one before it is no member
        have : ∃ y1 o' r' y2, z1 = y1 ++ (o', r') :: y2 ∧ AllE D y1 0 ∧ isE r'.c = true ∧ ¬ D y1.length := by
          have gen : ∀ (z : List (Oper × Rec)) (i : Nat), ¬ AllE D z i → ∃ y1 o' r' y2, z = y1 ++ (o', r') :: y2 ∧ AllE D y1 i ∧ isE r'.c = true ∧ ¬ D (i + y1.length) := by
            intro z
            induction z with
            | nil => intro i h; exact (h fun k _ _ hh => by simp at hh).elim
            | cons y z ih =>
              obtain ⟨o', r'⟩ := y
              intro i h
              by_cases hy : isE r'.c = true ∧ ¬ D i
              · exact ⟨[], o', r', z, rfl, fun k _ _ h => by simp at h, hy.1, by simpa using hy.2⟩
              · have hh : ¬ AllE D z (i + 1) := fun hall => h fun k o2 r2 hk he => by
                  cases k with
                  | zero =>
                    simp only [List.getElem?_cons_zero, Option.some.injEq, Prod.mk.injEq] at hk
                    obtain ⟨rfl, rfl⟩ := hk
                    by_cases hd : D i
                    · simpa using hd
                    · exact (hy ⟨he, hd⟩).elim
                  | succ k =>
                    have := hall k o2 r2 (by simpa using hk) he
                    rwa [show i + (k + 1) = i + 1 + k by omega]
                obtain ⟨y1, o2, r2, y2, h1, h2, h3, h4⟩ := ih (i + 1) hh
                refine ⟨(o', r') :: y1, o2, r2, y2, by rw [h1]; rfl, fun k o3 r3 hk he => ?_, h3, by rwa [show i + ((o', r') :: y1).length = i + 1 + y1.length by simp; omega]⟩
                cases k with
                | zero =>
                  simp only [List.getElem?_cons_zero, Option.some.injEq, Prod.mk.injEq] at hk
                  obtain ⟨rfl, rfl⟩ := hk
                  by_cases hd : D i
                  · simpa using hd
                  · exact (hy ⟨he, hd⟩).elim
                | succ k =>
                  have := h2 k o3 r3 (by simpa using hk) he
                  rwa [show i + (k + 1) = i + 1 + k by omega]
          have := gen z1 0 hall
          simpa using this
        obtain ⟨y1, o', r', y2, hy, hally, he', hd'⟩ := this
        have hy1 : z1[y1.length]? = some (o', r') := by rw [hy]; simp
        have hzz : zs = y1 ++ ((o', r') :: y2 ++ (o, r) :: z2) := by rw [hz, hy]; simp
        obtain ⟨hcy, _, _⟩ := Chain.cut (hy ▸ hc1)
        refine near hzz hally hcy ⟨[], ?_⟩ ?_
        · rw [List.append_nil, hzz]
          exact stD_stop hally he' (by simpa using hd')
        · exact ((pairL hy1 hd').er id hc he').1
    | a =>
      obtain ⟨_, nw, hnw, hv, hnew⟩ := RecOk.new (run := run) (yl := yl) (.inr ⟨hw, hcls, hval⟩) hc
      have hall : AllE D z1 0 := fun j o' r' hj he => by
        rw [Nat.zero_add]
        by_cases hd : D j
        · exact hd
        · have := ((pairL hj hd).ee he).2
          rw [hc] at this; cases this
      have hno : NoE D z2 (z1.length + 1) := fun j o' r' hj he hd => by
        have := (pairR hj (by rwa [show z1.length + (j + 1) = z1.length + 1 + j by omega])).ae (by rw [hc]; rfl)
        rw [he] at this; cases this
      obtain ⟨t, ht⟩ := stD_tail z2 (z1.length + 1) hno
      obtain ⟨hl1, _⟩ := stD_near (run := run) (yl := yl) (U := fun _ => True) hall hc1 rfl (fun _ => .inl rfl) fun _ _ _ _ _ _ _ => trivial
      have hs : stD D zs 0 σ0 = stD D z1 0 σ0 ++ [.dead] ++ t := by
        rw [hz, stD_append hall]
        simp only [Nat.zero_add]
        rw [stD_cons, if_neg (by rw [hc]; simp [isE]), if_pos (by rw [hc]; rfl), if_neg hn, ht]
      have hD1 : stD (fun i => i = z1.length ∨ D i) z1 0 σ0 = stD D z1 0 σ0 := stD_congr fun j o' r' hj _ => ⟨fun h => h.resolve_left (by have := lt_of_some hj; omega), .inr⟩
      have hD2 : ∀ σ, stD (fun i => i = z1.length ∨ D i) z2 (z1.length + 1) σ = stD D z2 (z1.length + 1) σ := fun σ => stD_congr fun j o' r' hj _ => ⟨fun h => h.resolve_left (by omega), .inr⟩
      have hs' : stD (fun i => i = z1.length ∨ D i) zs 0 σ0 = stD D z1 0 σ0 ++ [nw.e] ++ t := by
        rw [hz, stD_append (fun j o' r' hj he => .inr (hall j o' r' hj he)), hD1]
        simp only [Nat.zero_add]
        rw [stD_cons, if_neg (by rw [hc]; simp [isE]), if_pos (by rw [hc]; rfl), if_pos (.inl rfl), hD2, ht, hnew]
        simp
      have hset : (stD D zs 0 σ0).set r.σ.length nw.e = stD (fun i => i = z1.length ∨ D i) zs 0 σ0 := by
        rw [hs, hs', ← hl1, List.append_assoc, List.set_append_right _ _ (Nat.le_refl _)]
        simp
      have hfr := hD.fresh z1.length o r hk (by rw [hc]; rfl) hn fun j o' r' hj hj2 he => by
        have : z1[j]? = some (o', r') := by rw [hz, List.getElem?_append_left hj] at hj2; exact hj2
        simpa using hall j o' r' this he
      obtain ⟨ho, w', m', u, h1, h2, h3, h4⟩ := new_ok (p := r.σ.length) hE hD.inv hG hD.tmps (by rw [hs, ← hl1]; simp) hfr.1 ((newA_congr hev).trans hnw)
      rw [hset] at h2 h3
      refine wp_value ho h1 (hK _ w' m' ⟨h2, hD.ext.place h3 hfr.2 (by rw [hs, hs']; simp), tmps' h3.le (by rw [hv]; exact h4), dfs', fun j o' r' hj ha' hd hb => ?_, mem'⟩ h3.le)
      have hd' : ¬ D j := fun h => hd (.inr h)
      have hb' : ∀ i o2 r2, i < j → zs[i]? = some (o2, r2) → isE r2.c = true → D i := fun i o2 r2 hi hz2 he2 => (hb i o2 r2 hi hz2 he2).resolve_left fun h => by
        subst h; rw [hk] at hz2; simp only [Option.some.injEq, Prod.mk.injEq] at hz2; rw [← hz2.2, hc] at he2; cases he2
      have hfj := hD.fresh j o' r' hj ha' hd' hb'
      refine ⟨fun hl => ?_, hfj.2⟩
      rcases (h3.live _).1 hl with heq | hl
      · have hne : j ≠ z1.length := fun h => hd (.inl h)
        have hca : r'.c = .a := by cases hh : r'.c <;> rw [hh] at ha' <;> simp [isA] at ha'
        rcases Nat.lt_or_ge j z1.length with hlt | hge
        · have hj1 : z1[j]? = some (o', r') := by rw [hz, List.getElem?_append_left hlt] at hj; exact hj
          obtain ⟨y1, y2, hy, hyl⟩ := split_at hj1
          subst hyl
          obtain ⟨_, hrj, hcj⟩ := Chain.cut (hy ▸ hc1)
          obtain ⟨_, nj, _, _, hnj⟩ := hrj.new hca
          have := chain_grow (run := run) (yl := yl) (fun i o2 r2 hi => by
            cases he2 : isE r2.c with
            | false => rfl
            | true =>
              exfalso
              have hi1 : z1[y1.length + (i + 1)]? = some (o2, r2) := by rw [hy]; exact get_right hi
              have hdi : D (y1.length + (i + 1)) := by simpa using hall _ o2 r2 hi1 he2
              have hp := pair_ok (call := callW pol run yl) hord hj (lt1 _ o2 r2 hi1) (by omega) fun hbit => hd' (hcl _ _ hdi hbit)
              have := hp.ae ha'
              rw [he2] at this; cases this) hcj
          rw [hnj] at this
          simp at this
          omega
        · obtain ⟨i, hi⟩ : ∃ i, j = z1.length + (i + 1) := ⟨j - z1.length - 1, by omega⟩
          subst hi
          have hj2 : z2[i]? = some (o', r') := by
            rw [hz, List.getElem?_append_right (by omega), show z1.length + (i + 1) - z1.length = i + 1 by omega] at hj
            simpa using hj
          obtain ⟨y1, y2, hy, hyl⟩ := split_at hj2
          subst hyl
          obtain ⟨hcj, _, _⟩ := Chain.cut (hy ▸ hc2)
          have := chain_grow (run := run) (yl := yl) (fun q o2 r2 hq => by
            cases he2 : isE r2.c with
            | false => rfl
            | true =>
              exfalso
              have hq2 : z2[q]? = some (o2, r2) := by rw [hy]; exact get_left hq
              have hdq := hb' _ o2 r2 (by have := lt_of_some hq; omega) (gt2 q o2 r2 hq2) he2
              exact hno q o2 r2 hq2 he2 (by rwa [show z1.length + 1 + q = z1.length + (q + 1) by omega])) hcj
          rw [hnew] at this
          simp at this
          omega
      · exact hfj.1 hl
    | e =>
      have hall : AllE D z1 0 := fun j o' r' hj he => by
        rw [Nat.zero_add]
        by_cases hd : D j
        · exact hd
        · have := ((pairL hj hd).ee he).1
          rw [hc] at this; cases this
      have hallA : AllA D z1 0 := fun j o' r' hj he => by
        rw [Nat.zero_add]
        by_cases hd : D j
        · exact hd
        · have := (pairL hj hd).ae he
          rw [hc] at this; cases this
      have hno : NoE D z2 (z1.length + 1) := fun j o' r' hj he hd => by
        have := ((pairR hj (by rwa [show z1.length + (j + 1) = z1.length + 1 + j by omega])).ee (by rw [hc]; rfl)).1
        rw [he] at this; cases this
      have hnoA : NoA D z2 (z1.length + 1) := fun j o' r' hj he hd => by
        have := ((pairR hj (by rwa [show z1.length + (j + 1) = z1.length + 1 + j by omega])).ee (by rw [hc]; rfl)).2
        rw [he] at this; cases this
      have hs : stD D zs 0 σ0 = r.σ := by
        rw [hz, stD_stop hall (by rw [hc]; rfl) (by simpa using hn)]
        exact stD_full (run := run) (yl := yl) hall hallA hc1
      have no' : ∀ i, (z1.length + 1 + i = z1.length ∨ D (z1.length + 1 + i)) → D (z1.length + 1 + i) := fun i h => h.resolve_left (by omega)
      obtain ⟨q, hq⟩ := stD_dead (D := fun i => i = z1.length ∨ D i) z2 (z1.length + 1) (fun j o' r' hj he hd => hno j o' r' hj he (no' j hd)) (fun j o' r' hj he hd => hnoA j o' r' hj he (no' j hd))
      have hs' : stD (fun i => i = z1.length ∨ D i) zs 0 σ0 = r.σ' ++ List.replicate q .dead := by
        rw [hz, stD_append (fun j o' r' hj he => .inr (hall j o' r' hj he))]
        simp only [Nat.zero_add]
        rw [stD_cons, if_pos (by rw [hc]; rfl), if_pos (.inl rfl), hq]
      have hinv := hD.inv
      have hext := hD.ext
      rw [hs] at hinv hext
      have fin : ∀ {w' : World} {m' : Mem} {u : Value}, Inv w' r.σ' m' → Ext w r.σ m w' r.σ' m' → Enc m' r.v u → K (a.put o.dst u) w' := fun {w' m' u} h1 h2 h3 => by
        have hx := hext.trans h2
        refine hK _ w' m' ⟨by rw [hs']; exact h1.rooms, by rw [hs']; exact hx.rooms, tmps' h2.le h3, dfs', fun j o' r' hj ha' hd hb => ?_, mem'⟩ h2.le
        have hd' : ¬ D j := fun h => hd (.inr h)
        have hne : j ≠ z1.length := fun h => hd (.inl h)
        rcases Nat.lt_or_ge j z1.length with hlt | hge
        · have hj1 : z1[j]? = some (o', r') := by rw [hz, List.getElem?_append_left hlt] at hj; exact hj
          exact (hd' (by simpa using hallA j o' r' hj1 ha')).elim
        · obtain ⟨i, hi⟩ : ∃ i, j = z1.length + (i + 1) := ⟨j - z1.length - 1, by omega⟩
          subst hi
          have hj2 : z2[i]? = some (o', r') := by
            rw [hz, List.getElem?_append_right (by omega), show z1.length + (i + 1) - z1.length = i + 1 by omega] at hj
            simpa using hj
          obtain ⟨y1, y2, hy, hyl⟩ := split_at hj2
          subst hyl
          obtain ⟨hcj, _, _⟩ := Chain.cut (hy ▸ hc2)
          have hgrow := chain_grow (run := run) (yl := yl) (fun q o2 r2 hq => by
            cases he2 : isE r2.c with
            | false => rfl
            | true =>
              exfalso
              have hq2 : z2[q]? = some (o2, r2) := by rw [hy]; exact get_left hq
              have hdq := (hb _ o2 r2 (by have := lt_of_some hq; omega) (gt2 q o2 r2 hq2) he2).resolve_left (by omega)
              exact hno q o2 r2 hq2 he2 (by rwa [show z1.length + 1 + q = z1.length + (q + 1) by omega])) hcj
          have hlen0 := hx.len
          exact ⟨fun hl => by have := h1.size _ hl; omega, by omega⟩
      rcases hval with ⟨h, hsame⟩ | h
      · exact op_ok hE hinv hG hD.tmps hC ((hopv _).trans h) (.inr fun d => by simp) fun w' m' u h1 h2 h3 => fin (by rw [hsame]; exact h1) (by rw [hsame]; exact h2) h3
      · exact op_ok hE hinv hG hD.tmps hC ((hopv _).trans h) (.inr fun d => by simp) fun w' m' u h1 h2 h3 => fin h1 h2 h3
end step
end
end Go.VV
