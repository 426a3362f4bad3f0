/- An interpreter of the model's code on abstract values, and the proof that what it comes to is what the model comes to (part 2 of 4: Ops5 Ops6 Ops7 Ops8 Ops9 Ops10 Reg Ctl). No condition of its own: each theorem states its own. -/
import Derived.Test.YtcgcmlgligfpdaaGreatDoorV0
import Derived.Laws.Tables
import Derived.Great.FillDense
import Derived.Great.BuildSlice
import Derived.Laws.BytesString
import Derived.Lib.IndexBytes
import Derived.RangeFuncRecord
import Derived.MapKept
import Derived.Laws.MakeOwn
import Derived.CallsIn
import Derived.RangeFuncCalls
import Derived.TacticsIn
import Derived.LoopNIn
import Derived.RecoverIn
import Derived.RangeFuncLeaves
set_option linter.unusedSectionVars false
set_option linter.unusedVariables false
set_option linter.unusedSimpArgs false
set_option linter.unnecessarySimpa false
namespace Go.VV
open Go.RowKit

theorem set_many (off : Nat) (ys : List Value) (cells : List Value) (h : off + ys.length ≤ cells.length) :
    (ys.zipIdx 0).foldl (fun cs (x : Value × Nat) => cs.setIfInBounds (off + x.2) x.1) cells.toArray = (cells.take off ++ ys ++ cells.drop (off + ys.length)).toArray := by
  obtain ⟨g1, g2⟩ := Great.foldl_set off ys 0 cells.toArray
  apply Array.ext_getElem?
  intro k
  rw [g2 k]
  simp only [Nat.add_zero, List.getElem?_toArray]
  by_cases h1 : off ≤ k ∧ k < off + ys.length
  · rw [if_pos ⟨h1.1, h1.2, by simp; omega⟩, List.append_assoc, List.getElem?_append_right (by simp; omega), List.length_take, List.getElem?_append_left (by omega)]
    congr 1
    omega
  · rw [if_neg (fun hh => h1 ⟨hh.1, hh.2.1⟩)]
    by_cases h2 : k < off
    · rw [List.append_assoc, List.getElem?_append_left (by simp; omega), List.getElem?_take, if_pos h2]
    · rw [List.getElem?_append_right (by simp; omega), List.getElem?_drop]
      congr 1
      simp; omega

theorem ba_ext {a b : ByteArray} (h : a.data.toList = b.data.toList) : a = b := by
  cases a; cases b; simp only [ByteArray.mk.injEq]; exact Array.toList_inj.1 h

/-- parts, abstract and as they are -/
def PartsOk (m : Mem) : List (Nat × V) → List (Nat × Value) → Prop
  | [], [] => True
  | (i, x) :: xs, (j, v) :: vs => (i = j ∧ Enc m x v) ∧ PartsOk m xs vs
  | [], _ :: _ => False
  | _ :: _, [] => False

section
variable {m : Mem}

theorem fill_ok {place placeM : Nat → Option (Nat × Nat)} (hpl : ∀ i p, place i = some p → placeM i = some p) : ∀ {parts : List (Nat × V)} {vals : List (Nat × Value)} {cells r : List V} {vs : List Value},
    fillV place cells parts = some r → EncCs m cells vs → PartsOk m parts vals → ∃ us : List Value, Instr.fill placeM vs.toArray vals = some us.toArray ∧ EncCs m r us
  | [], [], cells, r, vs, h, hc, _ => by
    simp only [fillV, Option.some.injEq] at h; subst h
    exact ⟨vs, rfl, hc⟩
  | (i, x) :: parts, (j, v) :: vals, cells, r, vs, h, hc, hp => by
    obtain ⟨⟨rfl, hx⟩, hp⟩ := hp
    unfold fillV at h
    split at h
    · rename_i off size ys hi hys
      split at h
      · rename_i hl
        simp only [Option.bind_eq_some_iff] at h
        obtain ⟨cs, hw, hf⟩ := h
        rw [Enc_notTup (cellsOf_notTup hys)] at hx
        have hxc := cellsOf_ok hx hys
        have l1 := EncCs_length hxc
        obtain ⟨hle, hcs⟩ := writeCells_ok hc hxc hw
        have l2 : v.cells.toList.length = v.cells.size := by simp
        obtain ⟨us, h1, h2⟩ := fill_ok hpl hf hcs hp
        refine ⟨us, ?_, h2⟩
        unfold Instr.fill
        rw [hpl _ _ hi]
        simp only
        rw [if_neg (by simp only [List.size_toArray, ne_eq, gt_iff_lt, Bool.decide_or, Bool.or_eq_true, decide_eq_true_eq]; omega)]
        rw [← h1]
        congr 1
        rw [← set_many off v.cells.toList vs hle, ← Array.foldl_toList, Array.toList_zipIdx]
      · cases h
    · cases h
  | [], _ :: _, _, _, _, _, _, hp => hp.elim
  | _ :: _, [], _, _, _, _, _, hp => hp.elim
end

section
variable {P : Program} {T : Tab} (hT : TabOk P T) {w : World} {σ : S} {m : Mem} (hi : Inv w σ m)
include hT

theorem places_some : ∀ {fs : List Field}, fs.all (fun f => (sizeT T f.type).isSome) = true → ∃ places : List (Nat × Nat), fs.mapM (fun f => (P.info? f.type).map fun i => (f.offset, i.size)) = some places ∧
    ∀ i p, (match nth fs i with | some f => (sizeT T f.type).map fun s => (f.offset, s) | none => none) = some p → places[i]? = some p
  | [], _ => ⟨[], rfl, by simp [nth]⟩
  | f :: fs, h => by
    simp only [List.all_cons, Bool.and_eq_true] at h
    obtain ⟨n, hn⟩ := Option.isSome_iff_exists.1 h.1
    obtain ⟨inf, h1, h2⟩ := hT.size hn
    obtain ⟨places, h3, h4⟩ := places_some h.2
    refine ⟨(f.offset, n) :: places, by simp [List.mapM_cons, h1, h2, h3], fun i p hp => ?_⟩
    cases i with
    | zero => simp [nth, hn] at hp; simp [hp]
    | succ i => simp only [nth] at hp; simpa using h4 i p hp

theorem zeroT_some {t : TypeId} {z : Value} (h : zeroT T t = some z) : ∃ i, P.info? t = some i ∧ i.zero = some z := by
  simp only [zeroT, Option.bind_eq_some_iff] at h
  obtain ⟨i, h1, h2⟩ := h
  exact ⟨i, hT.ty _ _ h1, h2⟩

theorem build_ok {t : TypeId} {parts : List (Nat × V)} {vals : Array (Nat × Value)} {v : V} (hp : PartsOk m parts vals.toList) (h : buildV T t parts = some v) :
    ∃ u, (Instr.build t vals).run P w = .ok u w ∧ Enc m v u := by
  unfold buildV at h
  split at h
  · rename_i z fields hz hu
    split at h
    · rename_i cs hcs
      split at h
      · rename_i hall
        simp only [Option.map_eq_some_iff] at h
        obtain ⟨l, hl, rfl⟩ := h
        obtain ⟨places, h1, h2⟩ := places_some hT hall
        obtain ⟨us, h3, h4⟩ := fill_ok (placeM := (places.toArray[·]?)) (fun i p hh => by simpa using h2 i p hh) hl (cellsV_ok hcs) hp
        obtain ⟨i, hi1, hi2⟩ := zeroT_some hT hz
        refine ⟨.agg us.toArray, run_build w t vals _ ?_, ?_⟩
        · have h3' : Instr.fill (fun x => places[x]?) z.cells vals.toList = some us.toArray := by simpa using h3
          simp [Program.built, hi1, hT.und hu, hi2, h1, h3']
        · rw [Enc_notTup (by rintro vs ⟨⟩)]
          exact ⟨_, rfl, h4⟩
      · cases h
    · cases h
  · cases h

theorem inOrder_ok : ∀ {k : Nat} {parts : List (Nat × V)} {vals : List (Nat × Value)} {xs : List V}, inOrder k parts = some xs → PartsOk m parts vals →
    ∃ us : List Value, vals = (us.zipIdx k).map (fun x => (x.2, x.1)) ∧ us.length = xs.length ∧ ∀ (i : Nat) (x : V) (u : Value), xs[i]? = some x → us[i]? = some u → Enc m x u
  | _, [], [], xs, h, _ => by
    simp only [inOrder, Option.some.injEq] at h; subst h
    exact ⟨[], rfl, rfl, by simp⟩
  | k, (i, x) :: parts, (j, v) :: vals, xs, h, hp => by
    obtain ⟨⟨rfl, hx⟩, hp⟩ := hp
    unfold inOrder at h
    split at h
    · rename_i hik
      subst hik
      simp only [Option.map_eq_some_iff] at h
      obtain ⟨l, hl, rfl⟩ := h
      obtain ⟨us, h1, h2, h3⟩ := inOrder_ok hl hp
      refine ⟨v :: us, by simp [h1, List.zipIdx_cons], by simp [h2], fun n y u hy hu => ?_⟩
      cases n with
      | zero => simp at hy hu; subst hy; subst hu; exact hx
      | succ n => simp at hy hu; exact h3 n y u hy hu
    · cases h
  | _, [], _ :: _, _, _, hp => hp.elim
  | _, _ :: _, [], _, _, hp => hp.elim

/-- the cells of block g beside st -/
def stAt (st : St) (g : Nat) (vs : List Value) : St := fun b j => if b = g then vs[j]? else st b j

theorem EncL_of_each {sz : Nat} : ∀ {xs ys : List V} {us : List Value}, elemsV sz xs = some ys → us.length = xs.length → (∀ (i : Nat) (x : V) (u : Value), xs[i]? = some x → us[i]? = some u → Enc m x u) → EncL m xs us
  | [], _, [], _, _, _ => trivial
  | x :: xs, ys, u :: us, h, hl, hh => by
    unfold elemsV at h
    split at h
    · rename_i y ys' h1 h2
      have h0 := hh 0 x u (by simp) (by simp)
      rw [Enc_notTup (elemV_notTup h1)] at h0
      exact ⟨h0, EncL_of_each h2 (by simpa using hl) fun i y v hy hv => hh (i + 1) y v (by simpa using hy) (by simpa using hv)⟩
    · cases h
  | [], _, _ :: _, _, hl, _ => by simp at hl
  | _ :: _, _, [], _, hl, _ => by simp at hl
theorem EncL_elems {sz : Nat} : ∀ {xs ys : List V} {us : List Value}, elemsV sz xs = some ys → EncL m xs us → ∀ u ∈ us, u.cells.size = sz
  | [], _, [], _, _ => by simp
  | x :: xs, ys, u :: us, h, hh => by
    unfold elemsV at h
    split at h
    · rename_i y ys' h1 h2
      intro v hv
      rcases List.mem_cons.1 hv with rfl | hv
      · exact (elemV_ok h1 hh.1).2.1
      · exact EncL_elems h2 hh.2 v hv
    · cases h
  | [], _, _ :: _, _, hh => hh.elim
  | _ :: _, _, [], _, hh => hh.elim

theorem flatMap_length {sz : Nat} : ∀ {us : List Value}, (∀ u ∈ us, u.cells.size = sz) → (us.flatMap fun v => v.cells.toList).length = us.length * sz
  | [], _ => by simp
  | u :: us, h => by
    rw [List.flatMap_cons, List.length_append, flatMap_length fun v hv => h v (by simp [hv])]
    have : u.cells.toList.length = sz := by simpa using h u (by simp)
    rw [this, List.length_cons, Nat.add_mul]; omega

omit hT in
/-- a new block, all of whose cells stay -/
theorem new_stay (hi : Inv w σ m) (vs : List Value) (t : TypeId) :
    Inv (w.alloc (.cells vs.toArray t)) σ (m.withSt (stAt m.st w.heap.size vs)) ∧ Ext w σ m (w.alloc (.cells vs.toArray t)) σ (m.withSt (stAt m.st w.heap.size vs)) := by
  have hne : ∀ {g j c}, m.st g j = some c → g ≠ w.heap.size := fun h e => by have := hi.st_lt h; omega
  refine hi.more (fun g j c hc => by simp [stAt, hne hc, hc]) (fun g j c hc => ?_) (fun k hk => Below.heap_alloc _ _ _ hk) (fun g j c hc => ?_) (by simp) rfl rfl rfl
  · unfold stAt at hc
    split at hc
    · rename_i hg; subst hg
      have : (w.alloc (.cells vs.toArray t)).heap[w.heap.size]? = some (.cells vs.toArray t (0, 0)) := by show (w.heap.push _)[w.heap.size]? = _; simp
      simp only [World.cell?, this]
      simpa using hc
    · rw [World.cell?_alloc_lt _ _ _ (hi.st_lt hc)]; exact hi.st g j c hc
  · unfold stAt at hc
    split at hc
    · rename_i hg; exact .inr (by omega)
    · exact .inl hc

theorem buildSlice_ok (hi : Inv w σ m) {t : TypeId} {len : Nat} {parts : List (Nat × V)} {vals : Array (Nat × Value)} {v : V} (hp : PartsOk m parts vals.toList) (h : buildSliceV T t len parts = some v) :
    ∃ w' m' u, (Instr.buildSlice t len vals).run P w = .ok u w' ∧ Inv w' σ m' ∧ Ext w σ m w' σ m' ∧ Enc m' v u := by
  unfold buildSliceV at h
  split at h
  · rename_i elem hu
    split at h
    · rename_i sz xs hsz hin
      split at h
      · rename_i hc
        obtain ⟨hxl, h0, hs0, hmax⟩ := hc
        split at h
        · rename_i z ys hz hys
          split at h
          · rename_i hzs
            simp only [Option.some.injEq] at h; subst h
            obtain ⟨us, e1, e2, e3⟩ := inOrder_ok hT hin hp
            have hL := EncL_of_each hT hys e2 e3
            have hsizes := EncL_elems hT hys hL
            have hflat := elemsV_flat hys hL
            obtain ⟨ie, hie, hiz⟩ := zeroT_some hT hz
            obtain ⟨ie', hie', his⟩ := hT.size hsz
            rw [hie] at hie'
            simp only [Option.some.injEq] at hie'; subst hie'
            have hlen : us.length = len := by omega
            have hfill : Instr.fill (fun i => some (i * ie.size, ie.size)) ((Array.range (len * ie.size)).map (z.cells[· % z.cells.size]!)) vals.toList = some (us.flatMap fun v => v.cells.toList).toArray := by
              rw [e1, his]
              exact Great.fill_whole hs0 us _ hsizes (by simp [hlen])
            have hpos : 0 < len * sz := Nat.mul_pos h0 hs0
            have hrun := run_buildSlice (P := P) w t elem len vals _ ie z (hT.und hu) hie hiz (by rw [his]; omega) (by rw [his]; omega) hfill
            obtain ⟨g1, g2⟩ := new_stay hi (us.flatMap fun v => v.cells.toList) elem
            refine ⟨_, _, _, hrun, g1, g2, ?_⟩
            rw [Enc_notTup (by rintro vs ⟨⟩)]
            have hyl := elemsV_length hys
            have hle : (m.withSt (stAt m.st w.heap.size (us.flatMap fun v => v.cells.toList))).st = stAt m.st w.heap.size (us.flatMap fun v => v.cells.toList) := rfl
            refine ⟨?_, some ⟨w.heap.size, 0, none⟩, by rw [hyl, hxl], by simp⟩
            simp only [EP]
            refine ⟨trivial, some ⟨w.heap.size, 0, none⟩, len, by rw [hyl, hxl], by omega, fun _ => ⟨w.heap.size, 0, sz, rfl, ?_⟩⟩
            refine hflat.eps (fun g j c hc => g2.le.st g j c hc) (fun j c hj => ?_)
            rw [hle]; simp [stAt, hj]
          · cases h
        · cases h
      · cases h
    · cases h
  · cases h

/-! ### values out of values -/

theorem partVal_ok {t : TypeId} {cs : List V} {vs : List Value} {off : Nat} {x : V} (hc : EncCs m cs vs) (h : partV T t cs off = some x) :
    ∃ u, (part t vs.toArray off).run P w = .ok u w ∧ Enc m x u := by
  unfold partV at h
  split at h
  · rename_i hA
    simp only [Option.bind_eq_some_iff, Option.map_eq_some_iff] at h
    obtain ⟨n, hn, l, hl, rfl⟩ := h
    unfold readCells at hl
    split at hl
    · rename_i hle
      simp only [Option.some.injEq] at hl; subst hl
      refine ⟨.agg ((vs.drop off).take n).toArray, ?_, ?_⟩
      · simp [part, hT.runIsAgg hA, hT.runSize hn]
      · rw [Enc_notTup (by rintro vs ⟨⟩)]
        exact ⟨_, rfl, by simpa using EncCs_take n (EncCs_drop off hc)⟩
    · cases hl
  · rename_i hA
    rw [nth_eq] at h
    obtain ⟨v, h1, h2, h3⟩ := EncCs_nth hc h
    refine ⟨v, ?_, ?_⟩
    · simp [part, hT.runIsAgg hA, h1]
    · rw [Enc_notTup (by
        rintro ds rfl
        simp only [EncC, E1, EP] at h2
        obtain ⟨us, rfl, _⟩ := h2
        simp [Value.oneCell'] at h3)]
      exact EncA_of_EncC h2
  · cases h

theorem field_ok {t : TypeId} {xv v : V} {x : Value} {f : Nat} (hx : Enc m xv x) (h : fieldV T t xv f = some v) : ∃ u, (Instr.field t x f).run P w = .ok u w ∧ Enc m v u := by
  unfold fieldV at h
  split at h
  · rename_i fields cs hu
    rw [nth_eq] at h
    obtain ⟨vs, rfl, h1⟩ := hx
    split at h
    · rename_i fd hfd
      have hfd' : fields[f]? = some fd := by simpa using hfd
      obtain ⟨u, hu1, hu2⟩ := partVal_ok hT h1 h (w := w)
      exact ⟨u, by simpa [Instr.field, hT.runUnd hu, hfd', asAgg] using hu1, hu2⟩
    · cases h
  · cases h

theorem index_ok {t : TypeId} {xv iv v : V} {x ix : Value} (hx : Enc m xv x) (hix : Enc m iv ix) (h : indexV T t xv iv = some v) : ∃ u, (Instr.index t x ix).run P w = .ok u w ∧ Enc m v u := by
  unfold indexV at h
  split at h
  · rename_i k i
    have hix := int_of hix
    subst hix
    split at h
    · rename_i n elem cs hu
      obtain ⟨vs, rfl, h1⟩ := hx
      split at h
      · rename_i sz hsz
        split at h
        · rename_i hin
          obtain ⟨h0, h2, h3⟩ := indexIn_spec hin
          obtain ⟨u, hu1, hu2⟩ := partVal_ok hT h1 h (w := w)
          exact ⟨u, by simpa [Instr.index, asIntOf, hT.runUnd hu, h0, h2, hT.runSize hsz] using hu1, hu2⟩
        · cases h
      · cases h
    · rename_i s hu
      have hx := str_of hx
      subst hx
      split at h
      · rename_i i
        simp only [nth_eq, Option.map_eq_some_iff] at h
        obtain ⟨b, hb, rfl⟩ := h
        refine ⟨_, ?_, Enc_int _ _⟩
        have hlt := lt_of_some hb
        have hb' : (⟨s.toArray⟩ : ByteArray)[i]? = some b := by
          simp only [getElem?_def, ByteArray.size, List.size_toArray, hlt, dite_true] at hb ⊢
          exact hb
        simp [Instr.index, asIntOf, hT.runUnd hu, hb']
      · cases h
    · cases h
  · cases h

theorem bound_ok {dflt most most' : Nat} (hmm : most ≤ most') {o : Option V} {ov : Option Value} {n : Nat} {code : BoundsCode} (ho : match o, ov with | none, none => True | some a, some b => Enc m a b | _, _ => False) (h : boundV dflt most o = some n) :
    (match ov with | some v => Instr.sliceBound v most' code | none => (pure dflt : Sem Nat)).run P w = .ok n w ∧ (o = none → n = dflt) ∧ (o ≠ none → n ≤ most) := by
  unfold boundV at h
  split at h
  · cases ov with
    | none => simp only [Option.some.injEq] at h; subst h; exact ⟨rfl, fun _ => rfl, fun hh => (hh rfl).elim⟩
    | some v => exact ho.elim
  · rename_i k i
    cases ov with
    | none => exact ho.elim
    | some v =>
      have ho := int_of ho
      subst ho
      split at h
      · rename_i hin
        obtain ⟨h0, h2, h3⟩ := indexIn_spec hin
        simp only [Option.some.injEq] at h; subst h
        refine ⟨?_, fun hh => by simp at hh, fun _ => by omega⟩
        have : i ≤ (most' : Int) := by omega
        simp [Instr.sliceBound, asIntOf, h0, this]
      · cases h
  · cases h

theorem Flat_split {st : St} {sz : Nat} : ∀ {xs : List V} {g o : Nat}, EPs st xs g o sz → ∀ h l, EPs st ((xs.take h).drop l) g (o + l * sz) sz
  | [], _, _, _, h, l => by simp [EPs]
  | x :: xs, g, o, he, 0, l => by simp [EPs]
  | x :: xs, g, o, he, h + 1, 0 => by
    simp only [EPs] at he
    have := Flat_split he.2 h 0
    simp only [List.take_succ_cons, List.drop_zero, Nat.zero_mul, Nat.add_zero, EPs] at this ⊢
    exact ⟨he.1, this⟩
  | x :: xs, g, o, he, h + 1, l + 1 => by
    simp only [EPs] at he
    have := Flat_split he.2 h l
    simp only [List.take_succ_cons, List.drop_succ_cons]
    rw [show o + (l + 1) * sz = o + sz + l * sz by rw [Nat.add_mul]; omega]
    exact this

theorem size_of_lit {xs : List V} {g o sz : Nat} {st : St} (he : EPs st xs g o sz) {x : V} (hx : xs[0]? = some x) {n : Nat} (hh : hasCells n x = true) : sz = n := by
  obtain ⟨u, h1, h2, _⟩ := EPs_nth hT he hx
  unfold hasCells at hh
  split at hh
  · rename_i cs hcs
    have e1 : cs.length = n := Nat.eq_of_beq_eq_true hh
    have e2 := EncCs_length (cellsOf_ok (m := ⟨st, fun _ => False, fun _ => 0, fun _ => hdr0⟩) (EncA_of_EP h1) hcs)
    have e3 : u.cells.toList.length = u.cells.size := by simp
    omega
  · cases hh

omit hT in
theorem Addr_add0 (a : Addr) : a.add 0 = a := by simp [Addr.add]

theorem sliceLit_ok {sz : Nat} {xs : List V} {r h l : Nat} {v : V} {a : Option Addr} {n cap : Nat} (hx : EncC m (.lit xs r) (.slice a n cap)) (hh : h ≤ xs.length) (hl : l ≤ h)
    (hv : sliceLit sz xs r h l = some v) : Enc m v (.slice (if cap = l then a else a.map (·.add (l * sz))) (h - l) (cap - l)) := by
  unfold sliceLit at hv
  split at hv
  · rename_i hf
    rw [spineK_eq] at hv
    simp only [Option.some.injEq] at hv; subst hv
    obtain ⟨hE, hR⟩ := hx
    simp only [EP] at hE
    obtain ⟨_, a', cap', e, hle, hs⟩ := hE
    simp only [Value.slice.injEq] at e
    obtain ⟨rfl, rfl, rfl⟩ := e
    have hlen : ((xs.take h).drop l).length = h - l := by simp; omega
    rw [Enc_notTup (by rintro vs ⟨⟩)]
    refine ⟨?_, ?_⟩
    · simp only [EP]
      refine ⟨trivial, _, _, by rw [hlen], by omega, fun hne => ?_⟩
      have hxs : xs ≠ [] := by rintro rfl; simp at hne
      obtain ⟨g, o, sz', rfl, hE⟩ := hs hxs
      have hpos : 0 < h - l := by rw [← hlen]; exact List.length_pos_iff.2 hne
      have hcl : ¬ cap = l := by omega
      have hsp := Flat_split hT hE h l
      refine ⟨g, o + l * sz', sz', ?_, hsp⟩
      rw [if_neg hcl]
      simp only [Option.map_some, Addr_add]
      simp only [Bool.or_eq_true, decide_eq_true_eq] at hf
      rcases hf with rfl | hf
      · simp
      · obtain ⟨y, ys, hys⟩ := List.exists_cons_of_ne_nil hne
        have : sz' = sz := by
          rw [hys] at hf
          exact size_of_lit hT hsp (x := y) (by rw [hys]; rfl) hf
        rw [this]
    · unfold sliceRight
      split
      · rename_i hhx
        subst hhx
        split
        · rename_i hl0
          subst hl0
          have e1 : (if cap = 0 then a else a.map (·.add (0 * sz))) = a := by
            split
            · rfl
            · cases a <;> simp [Addr_add0]
          simp only [e1, Nat.sub_zero, List.take_length, List.drop_zero]
          exact hR
        · split
          · rename_i hr1
            subst hr1
            obtain ⟨a2, e, hn⟩ := hR
            simp only [Value.slice.injEq] at e
            obtain ⟨rfl, _, rfl⟩ := e
            refine ⟨_, by rw [hlen], fun hnone => ?_⟩
            have : a = none := by
              split at hnone
              · exact hnone
              · cases a <;> simp at hnone ⊢
            rw [hn this]; simp
          · trivial
      · trivial
  · cases hv

theorem bounds_ok {isSlice : Bool} {len most cap : Nat} (hmm : most ≤ cap) {lo hi : Option V} {lov hiv : Option Value} {h' l : Nat}
    (hlo : match lo, lov with | none, none => True | some a, some b => Enc m a b | _, _ => False)
    (hhi : match hi, hiv with | none, none => True | some a, some b => Enc m a b | _, _ => False)
    (hb1 : boundV len most hi = some h') (hb2 : boundV 0 h' lo = some l) : (Instr.sliceBounds isSlice len cap lov hiv none).run P w = .ok (l, h', cap) w := by
  obtain ⟨r1, _, _⟩ := bound_ok (P := P) (w := w) (code := if isSlice then .sliceAcap else .sliceAlen) (most' := cap) hT hmm hhi hb1
  obtain ⟨q1, _, _⟩ := bound_ok (P := P) (w := w) (code := .sliceB) (most' := h') hT (Nat.le_refl _) hlo hb2
  have f : (none : Option Value).isSome = false := rfl
  unfold Instr.sliceBounds
  cases hiv with
  | none =>
    simp only [Sem.run_pure, Result.ok.injEq, and_true] at r1
    subst r1
    cases lov with
    | none => simp only [Sem.run_pure, Result.ok.injEq, and_true] at q1; subst q1; simp
    | some v => simp only [] at q1; simp [q1]
  | some u =>
    simp only [] at r1
    cases lov with
    | none => simp only [Sem.run_pure, Result.ok.injEq, and_true] at q1; subst q1; simp [r1]
    | some v => simp only [] at q1; simp [r1, q1]

theorem slice_ok {t : TypeId} {xv v : V} {x : Value} {lo hi mx : Option V} {lov hiv mxv : Option Value} (hx : Enc m xv x)
    (hlo : match lo, lov with | none, none => True | some a, some b => Enc m a b | _, _ => False)
    (hhi : match hi, hiv with | none, none => True | some a, some b => Enc m a b | _, _ => False)
    (hmx : match mx, mxv with | none, none => True | some a, some b => Enc m a b | _, _ => False)
    (h : sliceV T t xv lo hi mx = some v) : ∃ u, (Instr.sliceAt t x lov hiv mxv).run P w = .ok u w ∧ Enc m v u := by
  have noMax : mx = none → mxv = none := by rintro rfl; cases mxv <;> simp_all
  unfold sliceV at h
  split at h
  · rename_i s hu
    have := noMax rfl; subst this
    have hx := str_of hx
    subst hx
    split at h
    · rename_i h' hb1
      split at h
      · rename_i l hb2
        rw [spineK_eq] at h
        simp only [Option.some.injEq] at h; subst h
        have hsz : (⟨s.toArray⟩ : ByteArray).size = s.length := by simp [ByteArray.size]
        have hb := bounds_ok (P := P) (w := w) (isSlice := false) hT (Nat.le_refl _) hlo hhi hb1 hb2
        refine ⟨.string ((⟨s.toArray⟩ : ByteArray).extract l h'), ?_, ?_⟩
        · simp only [Instr.sliceAt, Instr.slice, Sem.run_bind, hT.runUnd hu, Result.andThen_ok, hsz, Option.isSome_none, Bool.false_eq_true, if_false, hb]
          rfl
        · have : (⟨s.toArray⟩ : ByteArray).extract l h' = ⟨((s.take h').drop l).toArray⟩ := by
            apply ba_ext
            rw [Lib.extract_data]
            simp [List.drop_take]
          rw [this]
          exact Enc_str _
      · cases h
    · cases h
  · rename_i elem xs r hu
    have := noMax rfl; subst this
    split at h
    · rename_i h' sz hb1 hsz
      split at h
      · rename_i l hb2
        obtain ⟨_, r2, r3⟩ := bound_ok (P := P) (w := w) (code := .sliceAcap) hT (Nat.le_refl _) hhi hb1
        obtain ⟨_, q2, q3⟩ := bound_ok (P := P) (w := w) (code := .sliceB) hT (Nat.le_refl _) hlo hb2
        have hx' := hx
        obtain ⟨hE, hR⟩ := hx
        simp only [EP] at hE
        obtain ⟨_, a, cap, rfl, hle, hs⟩ := hE
        have hb := bounds_ok (P := P) (w := w) (isSlice := true) hT hle hlo hhi hb1 hb2
        have hh' : h' ≤ xs.length := by
          by_cases hn : hi = none
          · rw [r2 hn]; exact Nat.le_refl _
          · exact r3 hn
        have hl' : l ≤ h' := by
          by_cases hn : lo = none
          · rw [q2 hn]; omega
          · exact q3 hn
        refine ⟨_, ?_, sliceLit_ok hT (sz := sz) hx' hh' hl' h⟩
        simp only [Instr.sliceAt, Instr.slice, Sem.run_bind, hT.runUnd hu, Result.andThen_ok, hb, hT.runSize hsz]
        rfl
      · cases h
    · cases h
  · rename_i elem id off len cap es hu
    have := noMax rfl; subst this
    split at h
    · rename_i h' sz hb1 hsz
      simp only [Option.some.injEq] at h; subst h
      have hlov : lov = none := by cases lov <;> simp_all
      subst hlov
      simp only [Enc, EncA, EncC, E1] at hx
      obtain ⟨hl, c, hc, hlc, rfl⟩ := hx
      have hcc : cap ≤ c := by
        by_cases h0 : cap = 0
        · omega
        · rw [hc h0]; exact Nat.le_refl _
      have hb := bounds_ok (P := P) (w := w) (isSlice := true) (lo := none) (lov := none) (l := 0) hT hcc trivial hhi hb1 rfl
      refine ⟨.slice (some ⟨m.loc id, off, none⟩) h' c, ?_, ?_⟩
      · simp only [Instr.sliceAt, Instr.slice, Sem.run_bind, hT.runUnd hu, Result.andThen_ok, hb, hT.runSize hsz]
        simp [Addr_add]
      · rw [Enc_notTup (by rintro vs ⟨⟩)]
        refine ⟨hl, c, hc, ?_, rfl⟩
        obtain ⟨_, r2, r3⟩ := bound_ok (P := P) (w := w) (code := .sliceAcap) hT (Nat.le_refl _) hhi hb1
        by_cases hn : hi = none
        · rw [r2 hn]; exact hlc
        · exact Nat.le_trans (r3 hn) hcc
    · cases h
  · cases h
end
end Go.VV

namespace Go.VV
open Go.RowKit

section
variable {m : Mem}

theorem Enc_of_E1 {x : V} {v : Value} (h : E1 m x v) : Enc m x v := by
  by_cases hx : ∃ vs, x = .tup vs
  · obtain ⟨vs, rfl⟩ := hx
    exact Enc_of_EP (by simpa only [E1] using h)
  · rw [Enc_notTup fun vs hh => hx ⟨vs, hh⟩]
    exact EncA_of_EncC (EncC_of_E1 h)
theorem EncA_of_E1 {x : V} {v : Value} (h : E1 m x v) : EncA m x v := EncA_of_EncC (EncC_of_E1 h)

theorem EncL_length : ∀ {xs : List V} {vs : List Value}, EncL m xs vs → xs.length = vs.length
  | [], [], _ => rfl
  | _ :: _, _ :: _, h => by simp [EncL_length h.2]
  | [], _ :: _, h => h.elim
  | _ :: _, [], h => h.elim
theorem EncL_nth : ∀ {xs : List V} {vs : List Value} {i : Nat} {x : V}, EncL m xs vs → xs[i]? = some x → ∃ v, vs[i]? = some v ∧ EncA m x v
  | [], [], _, _, _, h => by simp at h
  | _ :: _, v :: _, 0, _, h, e => by simp at e; subst e; exact ⟨v, by simp, h.1⟩
  | _ :: _, _ :: _, i + 1, _, h, e => by simp at e; obtain ⟨v, h1, h2⟩ := EncL_nth h.2 e; exact ⟨v, by simpa using h1, h2⟩
  | [], _ :: _, _, _, h, _ => h.elim
  | _ :: _, [], _, _, h, _ => h.elim

/-- is it told, and no tuple? -/
theorem EncA_notTup {x : V} {v : Value} (h : Enc m x v) (hx : ∀ vs, x ≠ .tup vs) : EncA m x v := by rwa [Enc_notTup hx] at h

theorem capV_ok {x y : V} {v : Value} (h : capV x = some y) (hx : Enc m x v) : E1 m y v := by
  have pure {z : V} (hz : (if pureV z then some (er z) else none) = some y) (hzt : ∀ vs, z ≠ .tup vs) (he : Enc m z v) : E1 m y v := by
    split at hz
    · rename_i hp
      simp only [Option.some.injEq] at hz; subst hz
      exact E1_of_EP (EP_er hp (EncA_notTup he hzt))
    · cases hz
  unfold capV at h
  split at h
  · simp only [Option.some.injEq] at h; subst h; simpa only [Enc, EncA, EncC] using hx
  · simp only [Option.some.injEq] at h; subst h; simpa only [Enc, EncA, EncC] using hx
  · simp only [Option.some.injEq] at h; subst h; simpa only [Enc, EncA, EncC] using hx
  · simp only [Option.some.injEq] at h; subst h; simpa only [Enc, EncA, EncC] using hx
  · cases h
  · cases h
  · cases h
  · rename_i h1 _ _
    refine pure h (fun vs hh => ?_) hx
    subst hh
    simp_all

theorem ifaceV_ok {t : TypeId} {x y : V} {v : Value} (h : ifaceV t x = some y) (hx : Enc m x v) : Enc m y (.iface t v) := by
  unfold ifaceV at h
  split at h
  · cases h
  · cases h
  · simp only [Option.some.injEq] at h; subst h
    rw [Enc_notTup (by rintro vs ⟨⟩)]
    exact ⟨v, rfl, by simpa only [Enc, EncA, EncC] using hx⟩
  · rename_i h1 h2 h3
    split at h
    · rename_i hp
      simp only [Option.some.injEq] at h; subst h
      rw [Enc_notTup (by rintro vs ⟨⟩)]
      exact ⟨v, rfl, E1_of_EP (EP_er hp (EncA_notTup hx fun vs hh => by subst hh; exact h2 _ rfl))⟩
    · cases h

theorem capsV_ok : ∀ {xs ys : List V} {vs : List Value}, capsV xs = some ys → (∀ (i : Nat) (x : V) (v : Value), xs[i]? = some x → vs[i]? = some v → Enc m x v) → vs.length = xs.length → E1L m ys vs
  | [], ys, [], h, _, _ => by simp [capsV] at h; subst h; trivial
  | x :: xs, ys, v :: vs, h, hh, hl => by
    unfold capsV at h
    split at h
    · rename_i y ys' h1 h2
      simp only [Option.some.injEq] at h; subst h
      exact ⟨capV_ok h1 (hh 0 x v (by simp) (by simp)), capsV_ok h2 (fun i y u hy hu => hh (i + 1) y u (by simpa using hy) (by simpa using hu)) (by simpa using hl)⟩
    · cases h
  | [], _, _ :: _, _, _, hl => by simp at hl
  | _ :: _, _, [], _, _, hl => by simp at hl

theorem makeFunc_ok {fn : Fn} {first caps : List V} {fv cv : Array Value} {v : V} (hf : ∀ (i : Nat) (x : V) (u : Value), first[i]? = some x → fv.toList[i]? = some u → Enc m x u) (hfl : fv.toList.length = first.length)
    (hc : ∀ (i : Nat) (x : V) (u : Value), caps[i]? = some x → cv.toList[i]? = some u → Enc m x u) (hcl : cv.toList.length = caps.length) (h : opMakeFunc fn first caps = some (.val v)) : Enc m v (.func fn fv cv) := by
  unfold opMakeFunc at h
  split at h
  · rename_i a b h1 h2
    simp only [Option.some.injEq, OR.val.injEq] at h; subst h
    rw [Enc_notTup (by rintro vs ⟨⟩)]
    exact ⟨fv, cv, rfl, capsV_ok h1 hf hfl, capsV_ok h2 hc hcl⟩
  · cases h
end

section
variable {P : Program} {T : Tab} (hT : TabOk P T) {w : World} {σ : S} {m : Mem}
include hT

theorem makeInterface_ok {t : TypeId} {x v : V} {xv : Value} (hx : Enc m x xv) (h : opIface T t x = some (.val v)) : ∃ u, (Instr.makeInterface t xv).run P w = .ok u w ∧ Enc m v u := by
  unfold opIface at h
  split at h
  · cases h
  · rename_i d hd hu
    unfold val at h
    split at h
    · rename_i y hy
      simp only [Option.some.injEq, OR.val.injEq] at h; subst h
      refine ⟨.iface t xv, ?_, ifaceV_ok hy hx⟩
      simp only [Instr.makeInterface, Sem.run_bind, hT.runUnd hu, Result.andThen_ok]
      rfl
    · cases h
  · cases h

omit hT in
theorem extract_ok {x v : V} {xv : Value} {ix : Nat} (hx : Enc m x xv) (h : opExtract x ix = some (.val v)) : ∃ u, (Instr.extract xv ix).run P w = .ok u w ∧ EncA m v u := by
  unfold opExtract at h
  split at h
  · rename_i vs
    obtain ⟨us, rfl, h1⟩ := hx
    unfold val at h
    split at h
    · rename_i y hy
      simp only [Option.some.injEq, OR.val.injEq] at h; subst h
      rw [nth_eq] at hy
      obtain ⟨u, h2, h3⟩ := EncL_nth h1 hy
      exact ⟨u, by simp [Instr.extract, show us[ix]? = some u by simpa using h2], h3⟩
    · cases h
  · cases h

theorem typeAssert_ok {x v : V} {xv : Value} {xt asserted : TypeId} {ok : Bool} (hx : Enc m x xv) (h : typeAssertV T x asserted ok = some v) : ∃ u, (Instr.typeAssert xv xt asserted ok).run P w = .ok u w ∧ Enc m v u := by
  unfold typeAssertV at h
  split at h
  · cases h
  · rename_i d t y hd hu
    simp only [Enc, EncA, EncC] at hx
    obtain ⟨u, rfl, h1⟩ := hx
    have hd' : ∀ ms, d ≠ .interface ms := fun ms hh => hd ms hh
    split at h
    · rename_i heq
      subst heq
      simp only [Option.some.injEq] at h; subst h
      cases ok with
      | true =>
        refine ⟨.tuple #[u, .bool true], ?_, ?_⟩
        · simp only [Instr.typeAssert, Sem.run_bind, hT.runUnd hu, Result.andThen_ok]
          cases d <;> first | exact (hd' _ rfl).elim | simp
        · exact ⟨_, rfl, EncA_of_E1 h1, by simp [EncA, EncC, E1, EP], trivial⟩
      | false =>
        refine ⟨u, ?_, Enc_of_E1 h1⟩
        simp only [Instr.typeAssert, Sem.run_bind, hT.runUnd hu, Result.andThen_ok]
        cases d <;> first | exact (hd' _ rfl).elim | simp
    · rename_i hne
      split at h
      · rename_i hok
        subst hok
        simp only [Option.map_eq_some_iff] at h
        obtain ⟨z, hz, rfl⟩ := h
        refine ⟨.tuple #[z, .bool false], ?_, ⟨_, rfl, ofVal_EncA z, by simp [EncA, EncC, E1, EP], trivial⟩⟩
        simp only [Instr.typeAssert, Sem.run_bind, hT.runUnd hu, Result.andThen_ok]
        cases d <;> first | exact (hd' _ rfl).elim | simp [hne, hT.runZero hz]
      · cases h
  · rename_i d hd hu
    simp only [Enc, EncA, EncC, E1, EP] at hx
    subst hx
    have hd' : ∀ ms, d ≠ .interface ms := fun ms hh => hd ms hh
    split at h
    · rename_i hok
      subst hok
      simp only [Option.map_eq_some_iff] at h
      obtain ⟨z, hz, rfl⟩ := h
      refine ⟨.tuple #[z, .bool false], ?_, ⟨_, rfl, ofVal_EncA z, by simp [EncA, EncC, E1, EP], trivial⟩⟩
      simp only [Instr.typeAssert, Sem.run_bind, hT.runUnd hu, Result.andThen_ok]
      cases d <;> first | exact (hd' _ rfl).elim | simp [hT.runZero hz]
    · cases h
  · cases h

theorem asBytes_ok {st : St} : ∀ {xs : List V} {s : List UInt8} {vs : List Value}, asBytes xs = some s → Flat st 1 xs vs → ∃ ns : List Int, vs = ns.map (Value.int .u8) ∧ s = ns.map fun n => UInt8.ofNat n.toNat
  | [], s, vs, h, hf => by
    simp [asBytes] at h; subst h
    cases hf
    exact ⟨[], rfl, rfl⟩
  | x :: xs, s, vs, h, hf => by
    cases hf with
    | cons h1 h2 h3 h4 =>
      unfold asBytes at h
      split at h
      · rename_i heq; cases heq
      · rename_i n xs' heq
        simp only [List.cons.injEq] at heq
        obtain ⟨rfl, rfl⟩ := heq
        simp only [Option.map_eq_some_iff] at h
        obtain ⟨s', hs', rfl⟩ := h
        obtain ⟨ns, rfl, rfl⟩ := asBytes_ok hs' h4
        simp only [EP] at h1; subst h1
        exact ⟨n :: ns, rfl, rfl⟩
      · cases h

theorem convert_ok (hi : Inv w σ m) {src dst : TypeId} {x v : V} {xv : Value} (hx : Enc m x xv) (h : convertV T src dst x = some v) : ∃ u, (convert src dst xv).run P w = .ok u w ∧ Enc m v u := by
  unfold convertV at h
  split at h
  · rename_i k0 k k1 n hu1 hu2
    have hx := int_of hx
    subst hx
    rw [mkInt_eq] at h
    simp only [Option.some.injEq] at h; subst h
    refine ⟨.int k (k.wrap n), ?_, by rw [wrapQ_eq]; exact Enc_int _ _⟩
    simp [convert, hT.runUnd hu1, hT.runUnd hu2, Conv.intToInt]
  · rename_i s hu1 hu2
    have hx := str_of hx
    subst hx
    simp only [Option.some.injEq] at h; subst h
    refine ⟨_, ?_, Enc_str _⟩
    simp [convert, hT.runUnd hu1, hT.runUnd hu2]
  · rename_i e xs r hu1 hu2
    split at h
    · rename_i hue
      split at h
      · rename_i s hs
        simp only [Option.some.injEq] at h; subst h
        simp only [Enc, EncA, EncC, EP] at hx
        obtain ⟨⟨_, a, cap, rfl, hle, hE⟩, _⟩ := hx
        rw [run_convert_bytes_string w src dst e a _ _ (hT.und hu1) (hT.und hue) (hT.und hu2)]
        refine ⟨.string ⟨s.toArray⟩, ?_, Enc_str _⟩
        by_cases hne : xs = []
        · subst hne
          simp [asBytes] at hs; subst hs
          cases a with
          | none => simp [Conv.bytesToString]; rfl
          | some a =>
            have := run_bytesToString (P := P) w a 0 cap [] (by simp [loadCells, loadCellsFrom])
            simp at this
            exact this
        · obtain ⟨g, o, sz, rfl, hEs⟩ := hE hne
          clear hE
          have hsz : sz = 1 := by
            cases xs with
            | nil => exact (hne rfl).elim
            | cons y ys =>
              unfold asBytes at hs
              split at hs
              · rename_i heq; cases heq
              · rename_i n _ heq
                simp only [List.cons.injEq] at heq
                obtain ⟨rfl, rfl⟩ := heq
                simp only [EPs, EP] at hEs
                obtain ⟨⟨u, rfl, h2, _⟩, _⟩ := hEs
                simpa [Value.cells] using h2.symm
              · cases hs
          subst hsz
          obtain ⟨vs, hf, hc⟩ := Flat.of_eps hEs
          obtain ⟨ns, rfl, rfl⟩ := asBytes_ok hT hs hf
          have hlen : xs.length = ns.length := by have := hf.length; simpa using this.symm
          have hload : (loadCells ⟨g, o, none⟩ ns.length).run P w = .ok (ns.map (Value.int .u8)).toArray w := by
            have := run_loadCells_at (P := P) (w := w) (g := g) (o := o) (vs := ns.map (Value.int .u8)) (fun j c hj => hi.st _ _ _ (hc j c hj))
            simpa using this
          rw [hlen, run_bytesToString w _ _ _ ns hload]
          congr 2
          have key : ∀ (ns : List Int) (b : ByteArray), (ns.foldl (fun r n => r.push (UInt8.ofNat n.toNat)) b).data.toList = b.data.toList ++ ns.map fun n => UInt8.ofNat n.toNat := by
            intro ns
            induction ns with
            | nil => intro b; simp
            | cons n ns ih => intro b; rw [List.foldl_cons, ih]; simp [ByteArray.push]
          apply ba_ext
          rw [key]
          simp
      · cases h
    · cases h
  · cases h

theorem min_ok {xs : List V} {v : V} {vs : List Value} (hl : vs.length = xs.length) (hx : ∀ (i : Nat) (x : V) (u : Value), xs[i]? = some x → vs[i]? = some u → Enc m x u) {ats : Array TypeId} {t : TypeId} (h : minV xs = some v) :
    ∃ u, (Builtin.min_ ats t vs.toArray).run P w = .ok u w ∧ Enc m v u := by
  have go : ∀ (rest : List V) (k : IntKind) (n : Int) (vs : List Value) (v : V), vs.length = rest.length → (∀ (i : Nat) (x : V) (u : Value), rest[i]? = some x → vs[i]? = some u → Enc m x u) → minGo k n rest = some v →
      ∃ u, (vs.foldlM Builtin.min2 (.int k n) : Sem Value).run P w = .ok u w ∧ Enc m v u := by
    intro rest
    induction rest with
    | nil =>
      intro k n vs v hl _ h
      cases vs with
      | nil => simp only [minGo, Option.some.injEq] at h; subst h; exact ⟨_, rfl, Enc_int _ _⟩
      | cons _ _ => simp at hl
    | cons y rest ih =>
      intro k n vs v hl hx h
      cases vs with
      | nil => simp at hl
      | cons u vs =>
        unfold minGo at h
        split at h
        · rename_i heq; cases heq
        · rename_i k' q rest' heq
          simp only [List.cons.injEq] at heq
          obtain ⟨rfl, rfl⟩ := heq
          split at h
          · rename_i hk
            subst hk
            have := int_of (hx 0 _ u rfl rfl); subst this
            obtain ⟨u', h1, h2⟩ := ih _ _ vs v (by simpa using hl) (fun i x u hx' hu => hx (i + 1) x u (by simpa using hx') (by simpa using hu)) h
            refine ⟨u', ?_, h2⟩
            simp only [List.foldlM_cons, Sem.run_bind, Builtin.min2, Sem.run_pure, Result.andThen_ok]
            exact h1
          · cases h
        · cases h
  unfold minV at h
  split at h
  · rename_i k n rest
    cases vs with
    | nil => simp at hl
    | cons u vs =>
      have := int_of (hx 0 _ u rfl rfl); subst this
      simp only [Builtin.min_]
      exact go rest k n vs v (by simpa using hl) (fun i x u hx' hu => hx (i + 1) x u (by simpa using hx') (by simpa using hu)) h
  · cases h
end
end Go.VV

namespace Go.VV
open Go.RowKit

section
variable {w : World} {σ : S} {m : Mem} (hi : Inv w σ m)
include hi

/-- An entry turns; its block may turn with it, or a new block is taken. -/
theorem Inv.update {w' : World} {k : Nat} {h : Hdr} {st : St} {e0 e1 : Ent} (he : σ[k]? = some e0) (hs : ∀ g j c, m.st g j = some c → st g j = some c)
    (hst : ∀ g j c, st g j = some c → w'.cell? ⟨g, j, none⟩ = some c)
    (hheap : ∀ b, b < w.heap.size → blk m k e0 ≠ some b → w'.heap[b]? = w.heap[b]?)
    (hnew : ∀ g j c, st g j = some c → m.st g j = some c ∨ w.heap.size ≤ g ∨ blk m k e0 = some g)
    (hsize : w.heap.size ≤ w'.heap.size) (hos : w'.os = w.os) (htape : w'.tape = w.tape) (hout : w'.output = w.output) (hle : (m.hdr k).Le h)
    (h1 : EntOk w' (m.setHdr k h st) k e1) (hb : ∀ b, blk (m.setHdr k h st) k e1 = some b → w.heap.size ≤ b ∨ blk m k e0 = some b) :
    Inv w' (σ.set k e1) (m.setHdr k h st) ∧ Ext w σ m w' (σ.set k e1) (m.setHdr k h st) := by
  have hmle := m.le_setHdr k h st hs hle
  have hlt := lt_of_some he
  have cases_ : ∀ {i : Nat} {x : Ent}, (σ.set k e1)[i]? = some x → (i = k ∧ x = e1) ∨ (i ≠ k ∧ σ[i]? = some x) := by
    intro i x hx
    rw [List.getElem?_set] at hx
    by_cases hii : k = i
    · subst hii
      simp [hlt] at hx
      exact .inl ⟨rfl, hx.symm⟩
    · simp [hii] at hx
      exact .inr ⟨fun e => hii e.symm, hx⟩
  have old : ∀ id x, id ≠ k → blk (m.setHdr k h st) id x = blk m id x := fun id x hne =>
    blk_congr (m := m) (m' := m.setHdr k h st) rfl (by simp [Mem.setHdr, hne]) x
  have oldlt : ∀ id x b, σ[id]? = some x → blk m id x = some b → b < w.heap.size := fun id x b hx hk => (hi.ent id x hx).blk_lt hk
  have other : ∀ {i : Nat} {x : Ent} {b : Nat}, i ≠ k → σ[i]? = some x → blk m i x = some b → blk m k e0 ≠ some b := fun {i x b} hne hx hb => hi.apart i k x _ b hne hx he hb
  refine ⟨⟨fun id hl => by simpa using hi.size id hl, hst, fun i x hx => ?_, fun i j ei ej b hij h1 h2 h3 h4 => ?_⟩, ⟨hmle, hos, htape, hout, hsize, fun b hb' hn => hheap b hb' fun hh => hn ⟨k, e0, he, hh⟩, fun b hb' ho => ?_, fun g j c hc => ?_, fun _ h => .inl h, by simp⟩⟩
  · rcases cases_ hx with ⟨rfl, rfl⟩ | ⟨hne, hx'⟩
    · exact h1
    · refine (hi.ent i x hx').keep hmle rfl (by simp [Mem.setHdr, hne]) (fun b hbb => hheap b (oldlt _ _ _ hx' hbb) (other hne hx' hbb)) (fun b hbb j c hc => ?_)
      rcases hnew b j c hc with h' | h' | h'
      · exact h'
      · have := oldlt _ _ _ hx' hbb; omega
      · exact (other hne hx' hbb h').elim
  · rcases cases_ h1 with ⟨rfl, rfl⟩ | ⟨hne1, h1'⟩ <;> rcases cases_ h2 with ⟨rfl, rfl⟩ | ⟨hne2, h2'⟩
    · exact hij rfl
    · rw [old _ _ hne2] at h4
      rcases hb b h3 with hh | hh
      · have := oldlt _ _ _ h2' h4; omega
      · exact other hne2 h2' h4 hh
    · rw [old _ _ hne1] at h3
      rcases hb b h4 with hh | hh
      · have := oldlt _ _ _ h1' h3; omega
      · exact other hne1 h1' h3 hh
    · rw [old _ _ hne1] at h3; rw [old _ _ hne2] at h4
      exact hi.apart i j ei ej b hij h1' h2' h3 h4
  · obtain ⟨i, x, hx, hbb⟩ := ho
    rcases cases_ hx with ⟨rfl, rfl⟩ | ⟨hne, hx'⟩
    · rcases hb b hbb with hh | hh
      · omega
      · exact ⟨i, e0, he, hh⟩
    · rw [old _ _ hne] at hbb; exact ⟨i, x, hx', hbb⟩
  · rcases hnew g j c hc with h' | h' | h'
    · exact .inl h'
    · exact .inr (.inl h')
    · exact .inr (.inr ⟨k, e0, he, h'⟩)

omit hi in
theorem setHdr_self (k : Nat) : m.setHdr k (m.hdr k) m.st = m := by
  have : (fun i => if i = k then m.hdr k else m.hdr i) = m.hdr := by
    funext i; split
    · rename_i h; rw [h]
    · rfl
  simp only [Mem.setHdr, this]

/-- no cell of an object that is no cells stays -/
theorem Inv.no_st {b : Nat} {o : Obj} (h : w.heap[b]? = some o) (ho : ∀ arr t f, o ≠ .cells arr t f) (j : Nat) : m.st b j = none := by
  cases hc : m.st b j with
  | none => rfl
  | some c =>
    have := hi.st b j c hc
    simp only [World.cell?, h] at this
    cases o <;> first | exact (ho _ _ _ rfl).elim | cases this

/-- An object that is no cells, put anew. -/
theorem Inv.putObj {id : Nat} {e0 e1 : Ent} {o o' : Obj} (he : σ[id]? = some e0) (hb0 : blk m id e0 = some (m.loc id)) (ho : w.heap[m.loc id]? = some o) (hno : ∀ arr t f, o ≠ .cells arr t f)
    (hb1 : ∀ b, blk m id e1 = some b → b = m.loc id) (h1 : EntOk (w.putObj (m.loc id) o') m id e1) :
    Inv (w.putObj (m.loc id) o') (σ.set id e1) m ∧ Ext w σ m (w.putObj (m.loc id) o') (σ.set id e1) m := by
  have := hi.update (w' := w.putObj (m.loc id) o') (k := id) (h := m.hdr id) (st := m.st) (e1 := e1) he (fun _ _ _ h => h) (fun g j c hc => by
      have hg : g ≠ m.loc id := by rintro rfl; rw [hi.no_st ho hno j] at hc; cases hc
      rw [World.cell?_of_block (w := w) (World.putObj_heap_other hg)]
      exact hi.st g j c hc)
    (fun b hb hne => World.putObj_heap_other fun hh => hne (by rw [hb0, hh])) (fun _ _ _ h => .inl h) (by simp) rfl rfl rfl (.refl _)
    (by rw [setHdr_self]; exact h1) (fun b hb => by rw [setHdr_self] at hb; exact .inr (by rw [hb1 b hb]; exact hb0))
  rw [setHdr_self] at this
  exact this

theorem Inv.placeObj {p : Nat} {e : Ent} {o : Obj} (hp : σ[p]? = some .dead) (hnl : ¬ m.live p)
    (he : ∀ m' : Mem, m.Le m' → m'.loc p = w.heap.size → (∀ j, m'.st w.heap.size j = none) → EntOk (w.alloc o) m' p e) (hb : ∀ (m' : Mem) b, blk m' p e = some b → b = m'.loc p) :
    ∃ m', Inv (w.alloc o) (σ.set p e) m' ∧ ExtP p w σ m (w.alloc o) (σ.set p e) m' ∧ m'.live p ∧ m'.loc p = w.heap.size := by
  have hle := m.le_push p w.heap.size hdr0 m.st hnl (fun _ _ _ h => h)
  have hloc : (m.push p w.heap.size hdr0 m.st).loc p = w.heap.size := by simp [Mem.push]
  have hq := hi.place (w' := w.alloc o) (b := w.heap.size) (h := hdr0) (st := m.st) (e := e) hp hnl (fun _ _ _ h => h)
    (fun g j c hcc => by
      have h1 := hi.st g j c hcc
      have h2 := hi.st_lt hcc
      rw [World.cell?_alloc_lt _ _ _ h2]; exact h1)
    (fun k hk => Below.heap_alloc _ _ _ hk) (fun _ _ _ h => .inl h) (by simp) rfl rfl rfl
    (he _ hle hloc fun j => by
      cases hcc : m.st w.heap.size j with
      | none => exact hcc
      | some c => have := hi.st_lt hcc; omega)
    (fun k hk => by have := hb _ k hk; rw [hloc] at this; omega)
  exact ⟨_, hq.1, hq.2, .inl rfl, hloc⟩
end

/-! ### maps, lengths -/
theorem ba_beq (s b : List UInt8) : (((⟨s.toArray⟩ : ByteArray) == ⟨b.toArray⟩) = true) ↔ s = b := by
  show ((s.toArray == b.toArray) = true) ↔ s = b
  simp
section
variable {P : Program} {T : Tab} (hT : TabOk P T) {w : World} {σ : S} {m : Mem}
include hT

omit hT in
theorem getObj_run {r : Nat} {es : Array MapEntry} {clock : Nat} (h : w.heap[r]? = some (.map es clock)) : (getObj r).run P w = .ok (.map es clock) w := by simp [getObj, Sem.run, h]

theorem EntsOk_length {st : St} : ∀ {es : List (V × V)} {l : List MapEntry}, EntsOk st es l → es.length = l.length
  | [], [], _ => rfl
  | (_, _) :: _, _ :: _, h => by simp [EntsOk_length h.2]
  | [], _ :: _, h => h.elim
  | (_, _) :: _, [], h => h.elim

theorem map_ent (hi : Inv w σ m) {id : Nat} {es : List (V × V)} (he : σ[id]? = some (.map es)) : ∃ ents clock, w.heap[m.loc id]? = some (.map ents clock) ∧ EntsOk m.st es ents.toList := hi.ent id _ he

theorem len_ok (hi : Inv w σ m) {t ty : TypeId} {x v : V} {xv : Value} (hx : Enc m x xv) (h : lenV T σ t x = some v) : ∃ u, (Builtin.len_ #[t] ty #[xv]).run P w = .ok u w ∧ Enc m v u := by
  unfold lenV at h
  split at h
  · rename_i s hu
    have hx := str_of hx
    subst hx
    simp only [Option.some.injEq] at h; subst h
    have hsz : (⟨s.toArray⟩ : ByteArray).size = s.length := by simp [ByteArray.size]
    exact ⟨_, by simp [Builtin.len_, hT.runUnd hu, hsz, goInt], Enc_int _ _⟩
  · rename_i n e hu
    simp only [Option.some.injEq] at h; subst h
    exact ⟨_, by simp [Builtin.len_, hT.runUnd hu, goInt], Enc_int _ _⟩
  · rename_i e xs r hu
    simp only [Option.some.injEq] at h; subst h
    simp only [Enc, EncA, EncC, EP] at hx
    obtain ⟨⟨_, a, cap, rfl, _⟩, _⟩ := hx
    exact ⟨_, by simp [Builtin.len_, hT.runUnd hu, goInt], Enc_int _ _⟩
  · rename_i e id off len cap es hu
    simp only [Option.some.injEq] at h; subst h
    simp only [Enc, EncA, EncC, E1] at hx
    obtain ⟨_, c, _, _, rfl⟩ := hx
    exact ⟨_, by simp [Builtin.len_, hT.runUnd hu, goInt], Enc_int _ _⟩
  · rename_i k e hu
    simp only [Option.some.injEq] at h; subst h
    simp only [Enc, EncA, EncC, E1, EP] at hx
    subst hx
    exact ⟨_, by simp [Builtin.len_, hT.runUnd hu, goInt], Enc_int _ _⟩
  · rename_i k e id hu
    rw [nth_eq] at h
    split at h
    · rename_i es he
      simp only [Option.some.injEq] at h; subst h
      simp only [Enc, EncA, EncC, E1] at hx
      obtain ⟨_, rfl⟩ := hx
      obtain ⟨ents, clock, h1, h2⟩ := map_ent hT hi he
      have hl := EntsOk_length hT h2
      refine ⟨.int .i64 es.length, ?_, Enc_int _ _⟩
      simp [Builtin.len_, hT.runUnd hu, goInt, getObj_run h1, hl]
    · cases h
  · cases h

/-- a key of its type -/
theorem keyT_ok {t : TypeId} {k : V} {kv : Value} (hk : Enc m k kv) (h : keyT T t k = true) :
    (∃ kk n, k = .int kk n ∧ kv = .int kk n ∧ T.underlying t = some (.int kk)) ∨ (∃ s, k = .str s ∧ kv = .string ⟨s.toArray⟩ ∧ T.underlying t = some .string) := by
  unfold keyT at h
  split at h
  · rename_i kk n
    split at h
    · rename_i k' hu
      have : kk = k' := by simpa using h
      subst this
      exact .inl ⟨kk, n, rfl, int_of hk, hu⟩
    · cases h
  · rename_i s
    split at h
    · rename_i hu
      exact .inr ⟨s, rfl, str_of hk, hu⟩
    · cases h
  · cases h

theorem checkKey_ok {t : TypeId} {k : V} {kv : Value} (hk : Enc m k kv) (h : keyT T t k = true) (e : Bool) : (Instr.checkKey e 10000 t kv).run P w = .ok () w := by
  have : ∀ n, (Instr.checkKey e (n + 1) t kv).run P w = .ok () w := fun n => by
    rcases keyT_ok hT hk h with ⟨kk, n', rfl, rfl, hu⟩ | ⟨s, rfl, rfl, hu⟩ <;> (unfold Instr.checkKey; simp [hT.runUnd hu])
  exact this 9999

/-- entry by entry -/
theorem find_ok {st : St} {kd : TypeDesc} {k : V} {kv : Value} (hs : (∃ kk n, k = .int kk n ∧ kv = .int kk n ∧ ∃ k', kd = .int k') ∨ (∃ s, k = .str s ∧ kv = .string ⟨s.toArray⟩ ∧ kd = .string)) :
    ∀ {es : List (V × V)} {l : List MapEntry} {i : Nat} {r : Option (Nat × V)}, EntsOk st es l → findV k es i = some r →
      match r with
      | none => Instr.findNow kd kv l i = some none
      | some (j, x) => ∃ u, Instr.findNow kd kv l i = some (some (j, u)) ∧ EP st x u ∧ i ≤ j ∧ (∃ e, l[j - i]? = some e ∧ e.val = u ∧ (e.key = kv))
  | [], [], i, r, _, h => by simp only [findV, Option.some.injEq] at h; subst h; rfl
  | (k', x) :: es, e :: l, i, r, he, h => by
    obtain ⟨⟨h1, h2, _⟩, h3⟩ := he
    unfold findV at h
    have same : ∀ b, keyEq k k' = some b → Instr.sameNow kd kv e.key = some b ∧ (b = true → e.key = kv) := fun b hb => by
      rcases hs with ⟨kk, n, rfl, rfl, k2, rfl⟩ | ⟨s, rfl, rfl, rfl⟩
      · unfold keyEq at hb
        split at hb
        · rename_i ka a kb b' heq
          cases heq
          split at hb
          · rename_i hkk
            subst hkk
            simp only [EP] at h1
            simp only [Option.some.injEq] at hb; subst hb
            refine ⟨by simp [Instr.sameNow, h1], fun hh => ?_⟩
            have : n = b' := by simpa using hh
            rw [h1, this]
          · cases hb
        · rename_i heq; cases heq
        · cases hb
      · unfold keyEq at hb
        split at hb
        · rename_i heq; cases heq
        · rename_i a b' heq
          cases heq
          simp only [EP] at h1
          simp only [Option.some.injEq] at hb; subst hb
          refine ⟨?_, fun hh => ?_⟩
          · rw [h1]
            simp only [Instr.sameNow, Option.some.injEq]
            rw [Bool.eq_iff_iff, ba_beq]
            simp
          · have : s = b' := by simpa using hh
            rw [h1, this]
        · cases hb
    split at h
    · rename_i hk
      simp only [Option.some.injEq] at h; subst h
      obtain ⟨g1, g2⟩ := same _ hk
      exact ⟨e.val, by simp [Instr.findNow, g1], h2, Nat.le_refl _, e, by simp, rfl, g2 rfl⟩
    · rename_i hk
      obtain ⟨g1, _⟩ := same _ hk
      have ih := find_ok hs h3 h
      cases r with
      | none => simp only [Instr.findNow, g1]; exact ih
      | some p =>
        obtain ⟨j, y⟩ := p
        obtain ⟨u, k1, k2, k3, e', k4, k5, k6⟩ := ih
        refine ⟨u, by simp only [Instr.findNow, g1]; exact k1, k2, by omega, e', ?_, k5, k6⟩
        have : j - i = (j - (i + 1)) + 1 := by omega
        rw [this, List.getElem?_cons_succ]
        exact k4
    · cases h
  | [], _ :: _, _, _, he, _ => he.elim
  | (_, _) :: _, [], _, _, he, _ => he.elim

theorem kd_of {t : TypeId} {k : V} {kv : Value} (hk : Enc m k kv) (h : keyT T t k = true) : ∃ kd, T.underlying t = some kd ∧
    ((∃ kk n, k = .int kk n ∧ kv = .int kk n ∧ ∃ k', kd = .int k') ∨ (∃ s, k = .str s ∧ kv = .string ⟨s.toArray⟩ ∧ kd = .string)) := by
  rcases keyT_ok hT hk h with ⟨kk, n, rfl, rfl, hu⟩ | ⟨s, rfl, rfl, hu⟩
  · exact ⟨_, hu, .inl ⟨kk, n, rfl, rfl, kk, rfl⟩⟩
  · exact ⟨_, hu, .inr ⟨s, rfl, rfl, rfl⟩⟩

theorem lookup_ok (hi : Inv w σ m) {t : TypeId} {mv k v : V} {mx kv : Value} {ok : Bool} (hm : Enc m mv mx) (hk : Enc m k kv) (h : lookupV T σ t mv k ok = some v) : ∃ u, (Instr.lookup t mx kv ok).run P w = .ok u w ∧ Enc m v u := by
  unfold lookupV at h
  split at h
  · rename_i kt et hu
    split at h
    · rename_i hkt
      obtain ⟨kd, hkd, hcase⟩ := kd_of hT hk hkt
      have hents : ∀ es, (match mv with
          | .nilm => some []
          | .map id => match nth σ id with
            | some (.map es) => some es
            | _ => none
          | _ => none) = some es → ∃ ents : Array MapEntry, EntsOk m.st es ents.toList ∧ ∀ (f : Array MapEntry → Sem Value) r, (f ents).run P w = .ok r w → (do
            let es ← match mx with
              | .map none => pure #[]
              | .map (some r) => do
                let .map es _ ← getObj r | stuck "Lookup: map expected"
                pure es
              | _ => stuck "Lookup: map expected"
            f es : Sem Value).run P w = .ok r w := fun es hes => by
        split at hes
        · simp only [Option.some.injEq] at hes; subst hes
          simp only [Enc, EncA, EncC, E1, EP] at hm; subst hm
          exact ⟨#[], trivial, fun f r hf => by simpa using hf⟩
        · rename_i id
          rw [nth_eq] at hes
          split at hes
          · rename_i es' he
            simp only [Option.some.injEq] at hes; subst hes
            simp only [Enc, EncA, EncC, E1] at hm
            obtain ⟨_, rfl⟩ := hm
            obtain ⟨ents, clock, h1, h2⟩ := map_ent hT hi he
            exact ⟨ents, h2, fun f r hf => by simpa [getObj_run h1] using hf⟩
          · cases hes
        · cases hes
      split at h
      · rename_i es hes
        obtain ⟨ents, h2, hrun⟩ := hents es hes
        have fin : ∀ (u : Value) (b : Bool), (∀ f : Value × Bool → Sem Value, ∀ r, (f (u, b)).run P w = .ok r w → (do
              let p ← match ← Instr.findKey kt kv ents.toList with
                | some (_, v) => pure (v, true)
                | none => pure (← zeroValue et, false)
              f p : Sem Value).run P w = .ok r w) → ∀ r, (pure (if ok then .tuple #[u, .bool b] else u) : Sem Value).run P w = .ok r w → (Instr.lookup t mx kv ok).run P w = .ok r w := fun u b hf r hr => by
          unfold Instr.lookup
          rw [Sem.run_bind, hT.runUnd hu, Result.andThen_ok]
          refine hrun _ _ ?_
          rw [Sem.run_bind, checkKey_ok hT hk hkt, Result.andThen_ok]
          exact hf (fun p => pure (if ok then .tuple #[p.1, .bool p.2] else p.1)) _ hr
        split at h
        · rename_i i x z hf
          obtain ⟨u, k1, k2, _⟩ := find_ok hT hcase h2 hf
          simp only [Option.some.injEq] at h
          refine ⟨if ok then .tuple #[u, .bool true] else u, fin u true (fun f r hr => ?_) _ rfl, ?_⟩
          · simpa [Instr.findKey, hT.runUnd hkd, k1] using hr
          · subst h
            cases ok with
            | true => exact ⟨_, rfl, EncA_of_EP k2, by simp [EncA, EncC, E1, EP], trivial⟩
            | false => exact Enc_of_EP k2
        · rename_i z hf hz
          have k1 := find_ok hT hcase h2 hf
          simp only [Option.some.injEq] at h
          refine ⟨if ok then .tuple #[z, .bool false] else z, fin z false (fun f r hr => ?_) _ rfl, ?_⟩
          · simpa [Instr.findKey, hT.runUnd hkd, k1, hT.runZero hz] using hr
          · subst h
            cases ok with
            | true => exact ⟨_, rfl, ofVal_EncA z, by simp [EncA, EncC, E1, EP], trivial⟩
            | false => exact ofVal_ok z
        · cases h
      · cases h
    · cases h
  · cases h

theorem EntsOk_push {st : St} {k x : V} {e : MapEntry} (hk : EP st k e.key) (hx : EP st x e.val) : ∀ {es : List (V × V)} {l : List MapEntry}, EntsOk st es l → EntsOk st (es ++ [(k, x)]) (l ++ [e])
  | [], [], _ => ⟨⟨hk, hx, rfl⟩, trivial⟩
  | (_, _) :: _, _ :: _, h => ⟨h.1, EntsOk_push hk hx h.2⟩
  | [], _ :: _, h => h.elim
  | (_, _) :: _, [], h => h.elim
theorem EntsOk_set {st : St} {k x : V} {f : MapEntry → MapEntry} (hf : ∀ e, EP st k (f e).key ∧ EP st x (f e).val) : ∀ {es : List (V × V)} {l : List MapEntry} (i : Nat), EntsOk st es l → EntsOk st (es.set i (k, x)) (l.modify i f)
  | [], [], _, _ => by simp [EntsOk]
  | (_, _) :: _, e :: _, 0, h => by
    simp only [List.set_cons_zero, List.modify_zero_cons]
    exact ⟨⟨(hf e).1, (hf e).2, rfl⟩, h.2⟩
  | (_, _) :: _, _ :: _, i + 1, h => by
    simp only [List.set_cons_succ, List.modify_succ_cons]
    exact ⟨h.1, EntsOk_set hf i h.2⟩
  | [], _ :: _, _, h => h.elim
  | (_, _) :: _, [], _, h => h.elim

theorem mapPut_ok (hi : Inv w σ m) {t : TypeId} {mv k x : V} {mx kv xv : Value} {σ' : S} (hm : Enc m mv mx) (hk : Enc m k kv) (hx : Enc m x xv) (h : mapPutV T σ t mv k x = some σ') :
    ∃ w', (Instr.mapUpdate t mx kv xv).run P w = .ok () w' ∧ Inv w' σ' m ∧ Ext w σ m w' σ' m := by
  unfold mapPutV at h
  split at h
  · rename_i kt et id hu
    split at h
    · rename_i hc
      simp only [Bool.and_eq_true] at hc
      obtain ⟨hkt, hp⟩ := hc
      obtain ⟨kd, hkd, hcase⟩ := kd_of hT hk hkt
      rw [nth_eq] at h
      split at h
      · rename_i es he
        simp only [Enc, EncA, EncC, E1] at hm
        obtain ⟨_, rfl⟩ := hm
        obtain ⟨ents, clock, h1, h2⟩ := map_ent hT hi he
        have hkE : EP m.st k kv := by
          rcases hcase with ⟨kk, n, rfl, rfl, _⟩ | ⟨s, rfl, rfl, _⟩ <;> simp [EP]
        have hxE : EP m.st (er x) xv := by
          refine EP_er hp (EncA_notTup hx ?_)
          rintro vs rfl
          simp [pureV, pure1, pure0] at hp
        have hset : ∀ o, (setObj (m.loc id) o).run P w = .ok () (w.putObj (m.loc id) o) := fun o => by simp [setObj, Sem.run, h1, World.putObj]
        have fin : ∀ (ents' : Array MapEntry) clock' es', EntsOk m.st es' ents'.toList →
            Inv (w.putObj (m.loc id) (.map ents' clock')) (σ.set id (.map es')) m ∧ Ext w σ m (w.putObj (m.loc id) (.map ents' clock')) (σ.set id (.map es')) m := fun ents' clock' es' hes =>
          hi.putObj he rfl h1 (by intros; simp) (fun b hb => by simpa [blk] using hb.symm) ⟨ents', clock', World.putObj_heap_same (Array.getElem?_eq_some_iff.1 h1).1, hes⟩
        split at h
        · rename_i i y hf
          obtain ⟨u, k1, k2, k3, e, k4, k5, k6⟩ := find_ok hT hcase h2 hf
          simp only [Option.some.injEq] at h; subst h
          simp only [Nat.sub_zero] at k4
          have hkeep : (Instr.keyThatStays (((ents[i]?).map (·.key)).getD kv) kv).run P w = .ok kv w := by
            have : ents[i]? = some e := by simpa using k4
            rw [this]
            simp only [Option.map_some, Option.getD_some, k6]
            unfold Instr.keyThatStays
            have hsb : Instr.sameBits 10000 kv kv = true := by
              rcases hcase with ⟨kk, n, rfl, rfl, _⟩ | ⟨s, rfl, rfl, _⟩
              · simp [Instr.sameBits]
              · simp only [Instr.sameBits]; exact (ba_beq s s).2 rfl
            rw [hsb]
            rfl
          refine ⟨_, ?_, fin (ents.modify i fun e => { e with key := kv, val := xv }) clock _ ?_⟩
          · simp only [Instr.mapUpdate, Sem.run_bind, hT.runUnd hu, Result.andThen_ok, getObj_run h1, checkKey_ok hT hk hkt, Instr.findKey, hT.runUnd hkd, k1, Sem.run_pure, hkeep, hset]
          · rw [Array.toList_modify]
            exact EntsOk_set hT (fun e => ⟨hkE, hxE⟩) i h2
        · rename_i hf
          have k1 := find_ok hT hcase h2 hf
          simp only [Option.some.injEq] at h; subst h
          refine ⟨_, ?_, fin (ents.push { key := kv, val := xv, born := clock }) (clock + 1) _ ?_⟩
          · simp only [Instr.mapUpdate, Sem.run_bind, hT.runUnd hu, Result.andThen_ok, getObj_run h1, checkKey_ok hT hk hkt, Instr.findKey, hT.runUnd hkd, k1, Sem.run_pure, hset]
          · rw [Array.toList_push]
            exact EntsOk_push hT hkE hxE h2
        · cases h
      · cases h
    · cases h
  · cases h

theorem makeMap_ok (hi : Inv w σ m) {o : Oper} {a : Act} {t : TypeId} {p : Nat} (ho : o.op = .makeMap t none) (hp : σ[p]? = some .dead) (hnl : ¬ m.live p) :
    Yields P o a w σ m p (.map p) (σ.set p (.map [])) := by
  obtain ⟨m', h1, h2, h3, h4⟩ := hi.placeObj (e := .map []) (o := .map #[] 0) hp hnl
    (fun m' _ hl _ => ⟨#[], 0, by rw [hl]; show (w.heap.push _)[w.heap.size]? = _; simp, trivial⟩) (fun m' b hb => by simpa [blk] using hb.symm)
  refine ⟨_, m', .map (some w.heap.size), .inl ?_, h1, h2, ?_⟩
  · simp [execOp, ho, Instr.makeMap, newObj, Sem.run]
  · rw [Enc_notTup (by rintro vs ⟨⟩)]
    exact ⟨h3, by rw [h4]⟩
end
end Go.VV

namespace Go.VV
open Go.RowKit

theorem stAt_le {st : St} {g : Nat} {vs : List Value} (h : ∀ j, st g j = none) : ∀ b j c, st b j = some c → stAt st g vs b j = some c := by
  intro b j c hc
  unfold stAt
  split
  · rename_i hb; subst hb; rw [h j] at hc; cases hc
  · exact hc

theorem owned_room {σ : S} {m : Mem} {b : Nat} : Owned (σ ++ [.dead]) m b ↔ Owned σ m b := by
  constructor
  · rintro ⟨id, e, he, hb⟩
    rcases getElem?_push_cases he with ⟨_, h⟩ | ⟨rfl, rfl⟩
    · exact ⟨id, e, h, hb⟩
    · cases hb
  · rintro ⟨id, e, he, hb⟩
    exact ⟨id, e, by rw [List.getElem?_append_left (lt_of_some he)]; exact he, hb⟩
theorem ExtP.of_room {w w' : World} {σ σ' : S} {m m' : Mem} (h : ExtP σ.length w (σ ++ [.dead]) m w' σ' m') (hl : σ.length ≤ σ'.length) : Ext w σ m w' σ' m' :=
  ⟨h.le, h.os, h.tape, h.output, h.grow, fun b hb hn => h.kept b hb fun ho => hn (owned_room.1 ho), fun b hb ho => owned_room.1 (h.own b hb ho), fun g j c hc => by
    rcases h.newst g j c hc with h1 | h1 | h1
    · exact .inl h1
    · exact .inr (.inl h1)
    · exact .inr (.inr (owned_room.1 h1)), fun id hid => by
    rcases (h.live id).1 hid with rfl | h1
    · exact .inr (Nat.le_refl _)
    · exact .inl h1, hl⟩

/-- the first n cells of block g, from vs; the others as they were -/
def stTo (st : St) (g : Nat) (vs : List Value) : St := fun b j => if b = g ∧ j < vs.length then vs[j]? else st b j

section
variable {P : Program} {T : Tab} (hT : TabOk P T) {w : World} {σ : S} {m : Mem} (hi : Inv w σ m)
include hi

theorem EPs_firstSize {xs : List V} {g o sz n : Nat} (he : EPs m.st xs g o sz) (hne : xs ≠ []) (h : firstCellsOk n xs = true) : sz = n := by
  cases xs with
  | nil => exact (hne rfl).elim
  | cons y ys =>
    simp only [EPs] at he
    obtain ⟨⟨u, h1, h2, _⟩, _⟩ := he
    unfold firstCellsOk hasCells at h
    simp only at h
    split at h
    · rename_i cs hcs
      have e1 : cs.length = n := Nat.eq_of_beq_eq_true h
      have e2 := EncCs_length (cellsOf_ok (m := m) (EncA_of_EP h1) hcs)
      have e3 : u.cells.toList.length = u.cells.size := by simp
      omega
    · cases h

theorem fresh_st (j : Nat) : m.st w.heap.size j = none := by
  cases hc : m.st w.heap.size j with
  | none => rfl
  | some c => have := hi.st_lt hc; omega

/-- A row laid anew: a new right. -/
theorem newRight {p sz et n cap : Nat} {cur : Array Value} {vs : List Value} (hp : σ[p]? = some .dead) (hnl : ¬ m.live p) (hcur : cur.toList.take (n * sz) = vs) (hvl : vs.length = n * sz) (hnc : n ≤ cap) (hcm : cap ≤ maxLen) (hcs : cur.size = cap * sz) (w0 : World)
    (hw0 : w0.heap = w.heap) (hos : w0.os = w.os) (htape : w0.tape = w.tape) (hout : w0.output = w.output) :
    ∃ m', Inv (w0.alloc (.cells cur et)) (σ.set p (.right n sz et)) m' ∧ ExtP p w σ m (w0.alloc (.cells cur et)) (σ.set p (.right n sz et)) m' ∧ m'.live p ∧ m'.st = stAt m.st w.heap.size vs ∧
      (m'.hdr p).n = n ∧ (m'.hdr p).val = .slice (some ⟨w.heap.size, 0, none⟩) n cap := by
  have hnew : (w0.alloc (.cells cur et)).heap[w.heap.size]? = some (.cells cur et (0, 0)) := by show (w0.heap.push _)[w.heap.size]? = _; rw [hw0]; simp
  have hold : ∀ k, k < w.heap.size → (w0.alloc (.cells cur et)).heap[k]? = w.heap[k]? := fun k hk => by
    rw [← hw0]; exact Below.heap_alloc _ _ _ (by rw [hw0]; exact hk)
  have hcell : ∀ j c, vs[j]? = some c → (w0.alloc (.cells cur et)).cell? ⟨w.heap.size, j, none⟩ = some c := fun j c hc => by
    rw [← hcur, List.getElem?_take] at hc
    split at hc
    · simp only [World.cell?, hnew]; simpa using hc
    · cases hc
  have hq := hi.place (w' := w0.alloc (.cells cur et)) (b := 0) (h := ⟨some ⟨w.heap.size, 0, none⟩, n, cap, vs⟩) (st := stAt m.st w.heap.size vs) (e := .right n sz et) hp hnl (stAt_le (fresh_st hi))
    (fun g j c hcc => by
      unfold stAt at hcc
      split at hcc
      · rename_i hg; subst hg; exact hcell j c hcc
      · rw [World.cell?_of_block (w := w) (hold g (hi.st_lt hcc))]; exact hi.st g j c hcc)
    hold (fun g j c hc => by
      unfold stAt at hc
      split at hc
      · rename_i hg; exact .inr (by omega)
      · exact .inl hc) (by simp [hw0]) hos htape hout
    (by
      simp only [EntOk, Mem.push, if_true]
      refine ⟨⟨hvl, .inr ⟨w.heap.size, cap, cur, rfl, Nat.zero_le _, hnew, hnc, hcm, hcs, hcur⟩⟩, trivial, fun g hg j hj => ?_⟩
      simp only [Hdr.val, Value.ownBlock, Option.some.injEq] at hg
      subst hg
      simp only [stAt, if_true]
      exact List.getElem?_eq_none (by omega))
    (fun k hk => by simp only [blk, Mem.push, if_true, Hdr.val, Value.ownBlock, Option.some.injEq] at hk; omega)
  exact ⟨_, hq.1, hq.2, .inl rfl, rfl, by simp [Mem.push], by simp [Mem.push, Hdr.val]⟩

/-- The right moves to a row laid anew. -/
theorem moveRight {k sz et n0 n cap : Nat} {cur : Array Value} {vs : List Value} (he : σ[k]? = some (.right n0 sz et)) (hlt : n0 < n) (hcur : cur.toList.take (n * sz) = vs) (hvl : vs.length = n * sz) (hnc : n ≤ cap) (hcm : cap ≤ maxLen) (hcs : cur.size = cap * sz) (w0 : World)
    (hw0 : w0.heap = w.heap) (hos : w0.os = w.os) (htape : w0.tape = w.tape) (hout : w0.output = w.output) :
    ∃ m', Inv (w0.alloc (.cells cur et)) (σ.set k (.right n sz et)) m' ∧ Ext w σ m (w0.alloc (.cells cur et)) (σ.set k (.right n sz et)) m' ∧ m'.live = m.live ∧ m'.st = stAt m.st w.heap.size vs ∧
      (m'.hdr k).n = n ∧ (m'.hdr k).val = .slice (some ⟨w.heap.size, 0, none⟩) n cap := by
  have hnew : (w0.alloc (.cells cur et)).heap[w.heap.size]? = some (.cells cur et (0, 0)) := by show (w0.heap.push _)[w.heap.size]? = _; rw [hw0]; simp
  have hold : ∀ k, k < w.heap.size → (w0.alloc (.cells cur et)).heap[k]? = w.heap[k]? := fun k hk => by
    rw [← hw0]; exact Below.heap_alloc _ _ _ (by rw [hw0]; exact hk)
  have hcell : ∀ j c, vs[j]? = some c → (w0.alloc (.cells cur et)).cell? ⟨w.heap.size, j, none⟩ = some c := fun j c hc => by
    rw [← hcur, List.getElem?_take] at hc
    split at hc
    · simp only [World.cell?, hnew]; simpa using hc
    · cases hc
  have hn0 : n0 = (m.hdr k).n := (hi.ent k _ he).2.1
  have hq := hi.update (w' := w0.alloc (.cells cur et)) (h := ⟨some ⟨w.heap.size, 0, none⟩, n, cap, vs⟩) (st := stAt m.st w.heap.size vs) (e1 := .right n sz et) he (stAt_le (fresh_st hi))
    (fun g j c hcc => by
      unfold stAt at hcc
      split at hcc
      · rename_i hg; subst hg; exact hcell j c hcc
      · rw [World.cell?_of_block (w := w) (hold g (hi.st_lt hcc))]; exact hi.st g j c hcc)
    (fun b hb _ => hold b hb) (fun g j c hc => by
      unfold stAt at hc
      split at hc
      · rename_i hg; exact .inr (.inl (by omega))
      · exact .inl hc) (by simp [hw0]) hos htape hout ⟨by simp only; omega, fun hh => by simp only at hh; omega⟩
    (by
      simp only [EntOk, Mem.setHdr, if_true]
      refine ⟨⟨hvl, .inr ⟨w.heap.size, cap, cur, rfl, Nat.zero_le _, hnew, hnc, hcm, hcs, hcur⟩⟩, trivial, fun g hg j hj => ?_⟩
      simp only [Hdr.val, Value.ownBlock, Option.some.injEq] at hg
      subst hg
      simp only [stAt, if_true]
      exact List.getElem?_eq_none (by omega))
    (fun b hb => by simp only [blk, Mem.setHdr, if_true, Hdr.val, Value.ownBlock, Option.some.injEq] at hb; exact .inl (by omega))
  exact ⟨_, hq.1, hq.2, rfl, rfl, by simp [Mem.setHdr], by simp [Mem.setHdr, Hdr.val]⟩

/-- The row grows in its place. -/
theorem growRight {k sz et n0 n cap g : Nat} {cur : Array Value} {vs news : List Value} (he : σ[k]? = some (.right n0 sz et)) (hv : (m.hdr k).val = .slice (some ⟨g, 0, none⟩) n0 cap) (hg : w.heap[g]? = some (.cells cur et (0, 0)))
    (hlt : n0 < n) (hnc : n ≤ cap) (hcm : cap ≤ maxLen) (hcs : cur.size = cap * sz) (hvs : cur.toList.take (n0 * sz) = vs) (hvl : vs.length = n0 * sz) (hnl : (vs ++ news).length = n * sz) :
    ∃ m', Inv (w.setRow g (cur.toList.take (n0 * sz) ++ news ++ cur.toList.drop (n0 * sz + news.length)).toArray) (σ.set k (.right n sz et)) m' ∧
      Ext w σ m (w.setRow g (cur.toList.take (n0 * sz) ++ news ++ cur.toList.drop (n0 * sz + news.length)).toArray) (σ.set k (.right n sz et)) m' ∧ m'.live = m.live ∧ (∀ j c, (vs ++ news)[j]? = some c → m'.st g j = some c) ∧
      (m'.hdr k).n = n ∧ (m'.hdr k).val = .slice (some ⟨g, 0, none⟩) n cap := by
  obtain ⟨hown, hn0, hno⟩ := hi.ent k _ he
  have hbk : blk m k (.right n0 sz et) = some g := by simp [blk, hv, Value.ownBlock]
  have hg' := setRow_heap w g cur (cur.toList.take (n0 * sz) ++ news ++ cur.toList.drop (n0 * sz + news.length)).toArray et (0, 0) hg
  have hcell : ∀ j c, (vs ++ news)[j]? = some c → (w.setRow g (cur.toList.take (n0 * sz) ++ news ++ cur.toList.drop (n0 * sz + news.length)).toArray).cell? ⟨g, j, none⟩ = some c := fun j c hc => by
    simp only [World.cell?, hg']
    rw [hvs]
    simp only [List.getElem?_toArray]
    rw [List.getElem?_append_left (lt_of_some hc)]
    exact hc
  have hstg : ∀ j c, m.st g j = some c → (vs ++ news)[j]? = some c := fun j c hc => by
    have hj : j < n0 * sz := by
      rcases Nat.lt_or_ge j (n0 * sz) with h | h
      · exact h
      · rw [hno g (by rw [hv]; rfl) j h] at hc; cases hc
    have h1 := hi.st g j c hc
    simp only [World.cell?, hg] at h1
    rw [List.getElem?_append_left (by omega), ← hvs, List.getElem?_take, if_pos hj]
    simpa using h1
  have hq := hi.update (w' := w.setRow g (cur.toList.take (n0 * sz) ++ news ++ cur.toList.drop (n0 * sz + news.length)).toArray) (h := ⟨some ⟨g, 0, none⟩, n, cap, vs ++ news⟩) (st := stAt m.st g (vs ++ news)) (e1 := .right n sz et) he
    (fun b j c hc => by
      unfold stAt
      split
      · rename_i hb; subst hb; exact hstg j c hc
      · exact hc)
    (fun b j c hcc => by
      unfold stAt at hcc
      split at hcc
      · rename_i hb; subst hb; exact hcell j c hcc
      · rename_i hb
        rw [World.cell?_of_block (w := w) (setRow_other _ _ _ _ hb)]; exact hi.st b j c hcc)
    (fun b hb hne => setRow_other _ _ _ _ fun hh => hne (by rw [hbk, hh])) (fun b j c hc => by
      unfold stAt at hc
      split at hc
      · rename_i hb; exact .inr (.inr (by rw [hbk, hb]))
      · exact .inl hc) (by simp) rfl rfl rfl ⟨by simp only; omega, fun hh => by simp only at hh; omega⟩
    (by
      simp only [EntOk, Mem.setHdr, if_true]
      refine ⟨⟨hnl, .inr ⟨g, cap, _, rfl, Nat.zero_le _, hg', hnc, hcm, ?_, ?_⟩⟩, trivial, fun b hb j hj => ?_⟩
      · have h2 : n * sz ≤ cap * sz := Nat.mul_le_mul_right _ hnc
        have h3 : cur.toList.length = cur.size := by simp
        have h4 : vs.length + news.length = n * sz := by simpa using hnl
        simp only [List.size_toArray, List.length_append, List.length_take, List.length_drop]
        omega
      · rw [hvs, ← hnl]
        simp only []
        exact List.take_left
      · simp only [Hdr.val, Value.ownBlock, Option.some.injEq] at hb
        subst hb
        simp only [stAt, if_true]
        exact List.getElem?_eq_none (by omega))
    (fun b hb => by simp only [blk, Mem.setHdr, if_true, Hdr.val, Value.ownBlock, Option.some.injEq] at hb; exact .inr (by rw [hbk, hb]))
  refine ⟨_, hq.1, hq.2, rfl, fun j c hc => ?_, by simp [Mem.setHdr], by simp [Mem.setHdr, Hdr.val]⟩
  simp [Mem.setHdr, stAt, hc]
end

section
variable {P : Program} {T : Tab} (hT : TabOk P T) {w : World} {σ : S} {m : Mem} (hi : Inv w σ m)
include hT hi

omit hT hi in
theorem lit_new {m' : Mem} {xs ys : List V} {g n cap sz k : Nat} {vs news : List Value} (hx : Flat m'.st sz xs vs) (hy : Flat m'.st sz ys news) (hst : ∀ j c, (vs ++ news)[j]? = some c → m'.st g j = some c) (hn : n = xs.length + ys.length) (hnc : n ≤ cap)
    (hl : m'.live k) (hhn : (m'.hdr k).n = n) (hhv : (m'.hdr k).val = .slice (some ⟨g, 0, none⟩) n cap) : Enc m' (.lit (xs ++ ys) (k + 2)) (.slice (some ⟨g, 0, none⟩) n cap) := by
  rw [Enc_notTup (by rintro vs ⟨⟩)]
  have hlen : (xs ++ ys).length = n := by simp [hn]
  refine ⟨?_, hl, by omega, fun _ => hhv.symm⟩
  simp only [EP]
  refine ⟨trivial, _, _, by rw [hlen], by omega, fun _ => ⟨g, 0, sz, rfl, ?_⟩⟩
  exact (hx.append hy).eps (fun _ _ _ h => h) fun j c hj => by rw [Nat.zero_add]; exact hst j c hj

theorem append_ok {t ty : TypeId} {s x v : V} {sv xv : Value} {σ' : S} (hs : Enc m s sv) (hx : Enc m x xv) (h : appendV T σ t s x = some (v, σ')) :
    ∃ w' m' u, (Builtin.append_ #[t, t] ty #[sv, xv]).run P w = .ok u w' ∧ Inv w' σ' m' ∧ Ext w σ m w' σ' m' ∧ Enc m' v u := by
  unfold appendV at h
  split at h
  · rename_i elem hu
    split at h
    · rename_i sz by_ z hsz hby hz
      split at h
      · rename_i xs r ys r'
        obtain ⟨ie, hie, hiz⟩ := zeroT_some hT hz
        obtain ⟨ie', hie', his⟩ := hT.size hsz
        rw [hie] at hie'
        simp only [Option.some.injEq] at hie'; subst hie'
        have hiby : ie.bytes = by_ := by
          simp only [bytesT, Option.map_eq_some_iff] at hby
          obtain ⟨i2, h1, h2⟩ := hby
          have := hT.ty _ _ h1
          rw [hie] at this
          simp only [Option.some.injEq] at this; subst this
          exact h2
        have hsv := hs
        simp only [Enc, EncA, EncC, EP] at hs hx
        obtain ⟨⟨_, a, cap, rfl, hle, hE⟩, hR⟩ := hs
        obtain ⟨⟨_, b, cap2, rfl, hle2, hE2'⟩, hR2⟩ := hx
        split at h
        · simp only [Option.some.injEq, Prod.mk.injEq] at h
          obtain ⟨rfl, rfl⟩ := h
          refine ⟨w, m, .slice a xs.length cap, ?_, hi, .refl _ _ _, hsv⟩
          have hz0 : ∀ ad : Addr, (loadCells ad 0).run P w = .ok #[] w := fun ad => by simp [loadCells, loadCellsFrom]
          cases a <;> cases b <;> simp [Builtin.append_, hT.runUnd hu, hT.runSize hsz, Builtin.lenOf, Builtin.firstCells, hle, hz0, storeCells]
        · rename_i y ys'
          split at h
          · rename_i hc
            simp only [Bool.and_eq_true, decide_eq_true_eq, beq_iff_eq] at hc
            obtain ⟨⟨⟨⟨hs0, hzs⟩, hcy⟩, hbytes⟩, hmax⟩ := hc
            obtain ⟨g2, o2, sz2, rfl, hE2⟩ := hE2' (by simp)
            have e2 := EPs_firstSize hi hE2 (by simp) (n := sz) (by simpa [firstCellsOk] using hcy)
            subst e2
            obtain ⟨news, hf2, hc2⟩ := Flat.of_eps hE2
            have hnl : news.length = (y :: ys').length * sz2 := hf2.length
            have hnews : ∀ j u, news[j]? = some u → w.cell? ((⟨g2, o2, none⟩ : Addr).add j) = some u := fun j u hj => by
              rw [Addr_add]; exact hi.st _ _ _ (hc2 j u hj)
            have hl0 : 0 < (y :: ys').length := by simp
            have hbytes' : (xs.length + (y :: ys').length) * ie.bytes ≤ 140737488355328 := by rw [hiby]; exact hbytes
            have h63 : xs.length + (y :: ys').length ≤ maxLen := by simp only [maxLen]; omega
            -- a row laid anew: what both grow laws leave
            have curOk : ∀ (olds : List Value) (old : Nat), olds.length = xs.length * sz2 → old < xs.length + (y :: ys').length →
                let cur := olds.toArray ++ news.toArray ++ Builtin.zeroCells z.cells (grownCap w (xs.length + (y :: ys').length) old elem - (xs.length + (y :: ys').length))
                cur.toList.take ((xs.length + (y :: ys').length) * sz2) = olds ++ news ∧ (olds ++ news).length = (xs.length + (y :: ys').length) * sz2 ∧
                xs.length + (y :: ys').length ≤ grownCap w (xs.length + (y :: ys').length) old elem ∧ grownCap w (xs.length + (y :: ys').length) old elem ≤ maxLen ∧
                cur.size = grownCap w (xs.length + (y :: ys').length) old elem * sz2 := fun olds old hol hold => by
              have hge := grownCap_ge w (xs.length + (y :: ys').length) old elem
              have hcm := grownCap_le_maxLen w (xs.length + (y :: ys').length) old elem h63
              have hl : (olds ++ news).length = (xs.length + (y :: ys').length) * sz2 := by rw [List.length_append, hol, hnl, Nat.add_mul]
              refine ⟨?_, hl, hge, hcm, ?_⟩
              · simp only [Array.toList_append, List.append_assoc]
                rw [← List.append_assoc, ← hl]
                exact List.take_left
              · simp only [Array.size_append, List.size_toArray, size_zeroCells, hzs, hol, hnl, ← Nat.add_mul]
                congr 1
                omega
            split at h
            · cases h
            · -- capacity = length
              split at h
              · rename_i hfx
                rw [spineK_eq] at h
                simp only [Option.some.injEq, Prod.mk.injEq] at h
                obtain ⟨rfl, rfl⟩ := h
                obtain ⟨a', e, hnone⟩ := hR
                simp only [Value.slice.injEq] at e
                obtain ⟨rfl, _, rfl⟩ := e
                have hroom := hi.room
                have hset : (σ ++ [Ent.dead]).set σ.length (.right (xs.length + (y :: ys').length) sz2 elem) = σ ++ [.right (xs.length + (y :: ys').length) sz2 elem] := by
                  rw [List.set_append_right _ _ (Nat.le_refl _)]; simp
                have fin : ∀ (olds : List Value) (old : Nat), Flat m.st sz2 xs olds → old < xs.length + (y :: ys').length →
                    (Builtin.append_ #[t, t] ty #[.slice a xs.length xs.length, .slice (some ⟨g2, o2, none⟩) (y :: ys').length cap2]).run P w =
                      .ok (.slice (some ⟨w.heap.size, 0, none⟩) (xs.length + (y :: ys').length) (grownCap w (xs.length + (y :: ys').length) old elem))
                        (w.drew.alloc (.cells (olds.toArray ++ news.toArray ++ Builtin.zeroCells z.cells (grownCap w (xs.length + (y :: ys').length) old elem - (xs.length + (y :: ys').length))) elem)) →
                    ∃ w' m' u, (Builtin.append_ #[t, t] ty #[.slice a xs.length xs.length, .slice (some ⟨g2, o2, none⟩) (y :: ys').length cap2]).run P w = .ok u w' ∧ Inv w' (σ ++ [.right (xs.length + (y :: ys').length) sz2 elem]) m' ∧
                      Ext w σ m w' (σ ++ [.right (xs.length + (y :: ys').length) sz2 elem]) m' ∧ Enc m' (.lit (xs ++ y :: ys') (σ.length + 2)) u := fun olds old hfo hold hrun => by
                  obtain ⟨c1, c2, c3, c4, c5⟩ := curOk olds old hfo.length hold
                  obtain ⟨m', k1, k2, k3, k4, k5, k6⟩ := newRight (et := elem) hroom (p := σ.length) (by simp) hi.fresh c1 c2 c3 c4 c5 w.drew rfl rfl rfl rfl
                  rw [hset] at k1 k2
                  have k2' := k2.of_room (by simp)
                  refine ⟨_, m', _, hrun, k1, k2', lit_new (hfo.mono k2.le.st) (hf2.mono k2.le.st) (fun j c hj => ?_) rfl c3 k3 k5 k6⟩
                  rw [k4]; simp [stAt, hj]
                cases a with
                | none =>
                  have hxs := hnone rfl
                  subst hxs
                  refine fin [] 0 .nil (by simp) ?_
                  have := run_append_nil (P := P) w t ty elem ie z (hT.und hu) hie hiz ⟨g2, o2, none⟩ (y :: ys').length cap2 news (by rw [his]; exact hnl) hnews hl0 (by simp only [maxLen] at h63; omega) (by simp only [List.length_nil, Nat.zero_add] at hbytes'; omega)
                  simpa using this
                | some ad =>
                  have old : ∃ olds : List Value, Flat m.st sz2 xs olds ∧ ∀ j u, olds[j]? = some u → w.cell? (ad.add j) = some u := by
                    by_cases hxs : xs = []
                    · subst hxs; exact ⟨[], .nil, by simp⟩
                    · obtain ⟨g1, o1, sz1, e, hE1⟩ := hE hxs
                      simp only [Option.some.injEq] at e; subst e
                      have e1 := EPs_firstSize hi hE1 hxs (n := sz2) hfx
                      subst e1
                      obtain ⟨olds, q1, q2⟩ := Flat.of_eps hE1
                      exact ⟨olds, q1, fun j u hj => by rw [Addr_add]; exact hi.st _ _ _ (q2 j u hj)⟩
                  obtain ⟨olds, q1, q2⟩ := old
                  exact fin olds xs.length q1 (by omega) (run_append_grow (P := P) w t ty elem ie z (hT.und hu) hie hiz ad xs.length xs.length olds (by rw [his]; exact q1.length) q2 ⟨g2, o2, none⟩ (y :: ys').length cap2 news (by rw [his]; exact hnl) hnews (by omega) (by simp only [maxLen] at h63; omega) (growslice_fits (by omega) hbytes'))
              · cases h
            · rename_i k
              rw [nth_eq] at h
              split at h
              · rename_i n sz' et he
                split at h
                · rename_i hk
                  obtain ⟨rfl, rfl, rfl, hfx⟩ := hk
                  rw [spineK_eq] at h
                  simp only [Option.some.injEq, Prod.mk.injEq] at h
                  obtain ⟨rfl, rfl⟩ := h
                  obtain ⟨hlive, hnle, hval⟩ := hR
                  obtain ⟨hown, hhn, hno⟩ := hi.ent k _ he
                  have hv := hval hhn
                  rw [← hv] at hown
                  have hlt : xs.length < xs.length + (y :: ys').length := by omega
                  rcases hown.2 with ⟨e, e0⟩ | ⟨g, cap', cur, e, _, hg, hnc, hcm, hcs, htake⟩
                  · simp only [Value.slice.injEq] at e
                    obtain ⟨rfl, _, rfl⟩ := e
                    have hxs : xs = [] := List.eq_nil_of_length_eq_zero e0
                    subst hxs
                    obtain ⟨c1, c2, c3, c4, c5⟩ := curOk [] 0 (by simp) (by simp)
                    obtain ⟨m', k1, k2, k3, k4, k5, k6⟩ := moveRight (cap := grownCap w (([] : List V).length + (y :: ys').length) 0 et) hi he hlt c1 c2 c3 c4 c5 w.drew rfl rfl rfl rfl
                    have hrun := run_append_nil (P := P) w t ty et ie z (hT.und hu) hie hiz ⟨g2, o2, none⟩ (y :: ys').length cap2 news (by rw [his]; exact hnl) hnews hl0 (by simp only [maxLen] at h63; omega) (by simp only [List.length_nil, Nat.zero_add] at hbytes'; omega)
                    refine ⟨_, m', _, by simpa using hrun, by simpa using k1, by simpa using k2, ?_⟩
                    have := lit_new (k := k) (xs := []) (ys := y :: ys') (.nil) (hf2.mono k2.le.st) (g := w.heap.size) (vs := []) (fun j c hj => by rw [k4]; simp [stAt] at hj ⊢; exact hj) rfl c3 (by rw [k3]; exact hlive) k5 k6
                    simpa using this
                  · simp only [Value.slice.injEq] at e
                    obtain ⟨rfl, _, rfl⟩ := e
                    have hvl : ∀ vs : List Value, cur.toList.take (xs.length * sz') = vs → vs.length = xs.length * sz' := fun vs hvs => by
                      rw [← hvs, List.length_take]
                      have : xs.length * sz' ≤ cap * sz' := Nat.mul_le_mul_right _ hnc
                      have : cur.toList.length = cur.size := by simp
                      omega
                    have holdc : ∀ j u, (cur.toList.take (xs.length * sz'))[j]? = some u → w.cell? ((⟨g, 0, none⟩ : Addr).add j) = some u := fun j u hj => by
                      rw [Addr_add, Nat.zero_add]
                      rw [List.getElem?_take] at hj
                      split at hj
                      · simp only [World.cell?, hg]; simpa using hj
                      · cases hj
                    have hflat : Flat m.st sz' xs (cur.toList.take (xs.length * sz')) := by
                      by_cases hxs : xs = []
                      · subst hxs; simp; exact .nil
                      · obtain ⟨g1, o1, sz1, e, hE1⟩ := hE hxs
                        simp only [Option.some.injEq, Addr.mk.injEq] at e
                        obtain ⟨rfl, rfl, _⟩ := e
                        obtain ⟨olds, q1, q2⟩ := Flat.of_eps hE1
                        have hs1 : sz1 = sz' := EPs_firstSize hi hE1 hxs hfx
                        subst hs1
                        have : cur.toList.take (xs.length * sz1) = olds := by
                          apply List.ext_getElem?
                          intro j
                          by_cases hj : j < olds.length
                          · have h1 := q2 j olds[j] (by simp)
                            have h2 := hi.st _ _ _ h1
                            rw [Nat.zero_add] at h2
                            simp only [World.cell?, hg] at h2
                            rw [List.getElem?_take, if_pos (by rw [← q1.length]; exact hj)]
                            simp only [List.getElem?_eq_getElem hj]
                            simpa using h2
                          · rw [List.getElem?_eq_none (by rw [hvl _ rfl, ← q1.length]; omega), List.getElem?_eq_none (by omega)]
                        rw [this]; exact q1
                    by_cases hroom : xs.length + (y :: ys').length ≤ cap
                    · have hfit : xs.length * ie.size + news.length ≤ cur.size := by rw [his, hnl, hcs, ← Nat.add_mul]; exact Nat.mul_le_mul_right _ hroom
                      have hrun := run_append_room (P := P) w t ty et ie (hT.und hu) hie g xs.length cap cur hg ⟨g2, o2, none⟩ (y :: ys').length cap2 news (by rw [his]; exact hnl) hnews hf2.oneCell hroom hfit
                      rw [his] at hrun
                      obtain ⟨m', k1, k2, k3, k4, k5, k6⟩ := growRight (n := xs.length + (y :: ys').length) (cap := cap) (news := news) hi he hv.symm hg hlt hroom hcm hcs rfl (hvl _ rfl) (by rw [List.length_append, hvl _ rfl, hnl, Nat.add_mul])
                      exact ⟨_, m', _, hrun, k1, k2, lit_new (hflat.mono k2.le.st) (hf2.mono k2.le.st) k4 rfl hroom (by rw [k3]; exact hlive) k5 k6⟩
                    · obtain ⟨c1, c2, c3, c4, c5⟩ := curOk (cur.toList.take (xs.length * sz')) cap (hvl _ rfl) (by omega)
                      obtain ⟨m', k1, k2, k3, k4, k5, k6⟩ := moveRight hi he hlt c1 c2 c3 c4 c5 w.drew rfl rfl rfl rfl
                      have hrun := run_append_grow (P := P) w t ty et ie z (hT.und hu) hie hiz ⟨g, 0, none⟩ xs.length cap (cur.toList.take (xs.length * sz')) (by rw [his]; exact hvl _ rfl) holdc ⟨g2, o2, none⟩ (y :: ys').length cap2 news (by rw [his]; exact hnl) hnews (by omega) (by simp only [maxLen] at h63; omega) (growslice_fits (by omega) hbytes')
                      refine ⟨_, m', _, hrun, k1, k2, lit_new (hflat.mono k2.le.st) (hf2.mono k2.le.st) (fun j c hj => ?_) rfl c3 (by rw [k3]; exact hlive) k5 k6⟩
                      rw [k4]; simp [stAt, hj]
                · cases h
              · cases h
          · cases h
      · cases h
    · cases h
  · cases h

theorem makeSlice_ok {o : Oper} {a : Act} {t : TypeId} {l c : Operand} {lv cv : V} {p : Nat} {n : New} (ho : o.op = .makeSlice t l c) (hl : Enc m lv (a.eval l)) (hc : Enc m cv (a.eval c))
    (hp : σ[p]? = some .dead) (hnl : ¬ m.live p) (h : makeSliceV T t lv cv = some n) : Yields P o a w σ m p (n.v p) (σ.set p n.e) := by
  unfold makeSliceV at h
  split at h
  · rename_i elem li ci hu
    split at h
    · rename_i sz by_ z hsz hby hz
      obtain ⟨ie, hie, hiz⟩ := zeroT_some hT hz
      obtain ⟨ie', hie', his⟩ := hT.size hsz
      rw [hie] at hie'
      simp only [Option.some.injEq] at hie'; subst hie'
      have hiby : ie.bytes = by_ := by
        simp only [bytesT, Option.map_eq_some_iff] at hby
        obtain ⟨i2, h1, h2⟩ := hby
        have := hT.ty _ _ h1
        rw [hie] at this
        simp only [Option.some.injEq] at this; subst this
        exact h2
      split at h
      · rename_i hcond
        obtain ⟨c0, c1, c2, c3, c4, c5, c6⟩ := hcond
        have hlv := int_of hl
        have hcv := int_of hc
        have hcells : ci.toNat * ie.size ≤ 16777216 := by
          rw [his]
          have : ci.toNat ≤ 1048576 := by omega
          calc ci.toNat * sz ≤ 1048576 * 16 := Nat.mul_le_mul this (by omega)
            _ ≤ 16777216 := by omega
        have hb : (ie.bytes : Int) * ci ≤ 281474976710656 := by rw [hiby, Int.mul_comm]; omega
        have hrun := run_makeSlice (P := P) w t elem ie z (hT.und hu) hie hiz .i64 .i64 li ci c0 c1 hcells hb (by omega)
        have hex : (execOp a.eval o).run P w = .ok (.value (.slice (some ⟨w.heap.size, 0, none⟩) li.toNat ci.toNat)) (w.alloc (.cells (madeCells z.cells (ci.toNat * ie.size)) elem)) := by
          simp only [execOp, ho, hlv, hcv, Sem.run_bind, hrun, Result.andThen_ok]
          rfl
        split at h
        · rename_i hl0
          simp only [Option.some.injEq] at h; subst h
          obtain ⟨m', k1, k2, k3, k4, k5, k6⟩ := newRight (sz := sz) (et := elem) (n := 0) (cap := ci.toNat) (cur := madeCells z.cells (ci.toNat * ie.size)) (vs := []) hi hp hnl (by simp) (by simp) (Nat.zero_le _) (by simp only [maxLen]; omega) (by rw [size_madeCells, his]) w rfl rfl rfl rfl
          subst hl0
          refine ⟨_, m', _, .inl hex, k1, k2, ?_⟩
          rw [Enc_notTup (by rintro vs ⟨⟩)]
          refine ⟨?_, k3, by simp [k5], fun _ => by rw [k6]; simp⟩
          simp only [EP]
          exact ⟨trivial, _, _, rfl, by simp, fun hh => (hh rfl).elim⟩
        · split at h
          · rename_i hlc
            subst hlc
            split at h
            · rename_i z0 hagg hcv2
              simp only [Option.some.injEq] at h; subst h
              have hz1 : ∃ z1, z.cells = #[z1] ∧ EncC m z0 z1 ∧ z1.oneCell' = true := by
                have hok := cellsV_ok (m := m) hcv2
                have hlen := EncCs_length hok
                cases hzl : z.cells.toList with
                | nil => rw [hzl] at hlen; simp at hlen
                | cons z1 rest =>
                  rw [hzl] at hok hlen
                  cases rest with
                  | nil => exact ⟨z1, Array.toList_inj.1 hzl, hok.1.1, hok.1.2⟩
                  | cons _ _ => simp at hlen
              obtain ⟨z1, hz1, hz2, hz3⟩ := hz1
              have hsz1 : sz = 1 := by rw [← c6, hz1]; rfl
              have hcur : (madeCells z.cells (li.toNat * ie.size)) = (List.replicate li.toNat z1 ++ []).toArray := by
                rw [his, hsz1, Nat.mul_one, hz1, List.append_nil, ← toList_madeCells_one, Array.toArray_toList]
              have henc : ∀ n, EncCs m (List.replicate n z0) (List.replicate n z1) := by
                intro n
                induction n with
                | zero => exact trivial
                | succ n ih => exact ⟨⟨hz2, hz3⟩, ih⟩
              rw [hcur] at hex
              obtain ⟨m', k1, k2, k3, k4⟩ := new_cells hT hi (rest := []) elem (henc li.toNat) hp hnl
              refine ⟨_, m', _, .inl hex, k1, k2, ?_⟩
              rw [Enc_notTup (by rintro vs ⟨⟩)]
              exact ⟨k3, li.toNat, fun _ => rfl, Nat.le_refl _, by rw [k4]⟩
            · cases h
          · cases h
      · cases h
    · cases h
  · cases h
end
end Go.VV

namespace Go.VV
open Go.RowKit

/-- every machine is let in; the frame is a round's, or none -/
def Fw (r : Option Nat) : Fence := { Fence.wide with round := r }

theorem Enc_of_EncA' {m : Mem} {x : V} {u : Value} (h : EncA m x u) : Enc m x u := by
  by_cases hx : ∃ vs, x = .tup vs
  · obtain ⟨vs, rfl⟩ := hx
    exact Enc_of_EP (by simpa only [EncA, EncC, E1] using h)
  · rw [Enc_notTup fun vs hh => hx ⟨vs, hh⟩]; exact h

def OutOk (m : Mem) : Out → Ending → Prop
  | .ret v, .returned u => Enc m v u
  | .panic v, .panicked chain => ∃ u, chain = [{ v := u, recovered := false }] ∧ EncA m v u
  | .ret _, .panicked _ => False
  | .ret _, .outgrown => False
  | .panic _, .returned _ => False
  | .panic _, .outgrown => False

def OutR (w : World) (σ : S) (m : Mem) (σ' : S) (out : Out) : Ending → World → Prop := fun e w' => ∃ m', Inv w' σ' m' ∧ Ext w σ m w' σ' m' ∧ OutOk m' out e

/-- a call of function g: it is entered, or carried out at once -/
def FnOk (P : Program) (g : FuncId) (args : Array Value) (w : World) (R : Ending → World → Prop) : Prop :=
  ((callFunc g args).run P w = .ok (.enter g args) w ∧ ∀ n, CallsIn (Fw none) n P g args w R) ∨ ∃ u w', (callFunc g args).run P w = .ok (.value u) w' ∧ R (.returned u) w'
def YlOk (P : Program) (l : Nat) (args : Array Value) (w : World) (R : Ending → World → Prop) : Prop :=
  ∃ fn tmps assign body, (Instr.yield l args).run P w = .ok (.round l fn tmps assign body) w ∧ ∀ n, RoundIn (Fw none) n P l fn tmps assign body w R

structure EOk (P : Program) (E : Env) : Prop where
  tab : TabOk P E.P
  flat : FlatOk P E.P
  names : ∀ f fn, E.P.func f = some fn → (fn.name == "runtime.NumGoroutine") = false

/-- calls as the interpreter has them are the program's -/
def CallOk (P : Program) (E : Env) (call : CallF) : Prop :=
  ∀ tg args σ out σ', call tg args σ = some (out, σ') → ∀ w m (vargs : Array Value), Inv w σ m → GlobOk E m.st → EncT m args vargs.toList →
    ∀ R : Ending → World → Prop, (∀ e w', OutR w σ m σ' out e w' → R e w') →
      match tg with
      | .fn g => FnOk P g vargs w R
      | .yl id => m.live id → YlOk P (m.loc id) vargs w R

def DfOk (m : Mem) (d : Df) (dd : Deferred) : Prop :=
  (∃ g caps args, d.f = .func g ∧ dd = { target := .fn (.func g) caps, args := args } ∧ EncT m d.caps caps.toList ∧ EncT m d.args args.toList) ∨
  (∃ k, d.f = .yield k ∧ m.live k ∧ dd = { target := .collected (m.loc k), args := #[] })

/-- what follows, by what an operation gave -/
def After (next : Act → World → Prop) (Q : Exit → Act → World → Prop) (dst : Option Tmp) (a : Act) (w : World) (σ : S) (m : Mem) : OR → Prop
  | .val v => ∀ w' m' u, Inv w' σ m' → Ext w σ m w' σ m' → Enc m' v u → next (a.put dst u) w'
  | .upd v σ' => ∀ w' m' u, Inv w' σ' m' → Ext w σ m w' σ' m' → Enc m' v u → next (a.put dst u) w'
  | .pan v σ' => ∀ w' m' u, Inv w' σ' m' → Ext w σ m w' σ' m' → EncA m' v u → Q (.panic [{ v := u, recovered := false }]) a w'
  | .dfr d => ∀ dd, DfOk m d dd → next ({ a with defers := dd :: a.defers }.put dst undef) w

theorem EncT_append {m : Mem} : ∀ {xs ys : List V} {vs us : List Value}, EncT m xs vs → EncT m ys us → EncT m (xs ++ ys) (vs ++ us)
  | [], _, [], _, _, k => k
  | _ :: _, _, _ :: _, _, h, k => ⟨h.1, EncT_append h.2 k⟩
  | [], _, _ :: _, _, h, _ => h.elim
  | _ :: _, _, [], _, h, _ => h.elim
theorem EncT_E1L {m : Mem} : ∀ {xs : List V} {vs : List Value}, E1L m xs vs → EncT m xs vs
  | [], [], _ => trivial
  | _ :: _, _ :: _, h => ⟨Enc_of_E1 h.1, EncT_E1L h.2⟩
  | [], _ :: _, h => h.elim
  | _ :: _, [], h => h.elim

section
variable {P : Program} {E : Env} (hE : EOk P E) {r : Option Nat} {n : Nat} {o : Oper} {a : Act} {w : World} {σ : S} {m : Mem} {next : Act → World → Prop} {Q : Exit → Act → World → Prop}
  {call : CallF} {ρ : List V} (hI : Inv w σ m) (hG : GlobOk E m.st) (hρ : EncT m ρ a.tmps.toList) (hC : CallOk P E call)

theorem wp_value {u : Value} {w' : World} (ho : ∀ c, o.op ≠ .defer c) (h : (execOp a.eval o).run P w = .ok (.value u) w') (hk : next (a.put o.dst u) w') : o.wpIn (Fw r) n P a w next Q := by
  refine ⟨fun _ _ => trivial, ?_⟩
  rw [Oper.semAt_eq _ _ _ ho, h]
  exact hk
theorem wp_skip {w' : World} (ho : ∀ c, o.op ≠ .defer c) (h : (execOp a.eval o).run P w = .ok .skip w') (hk : next (a.put o.dst undef) w') : o.wpIn (Fw r) n P a w next Q := by
  refine ⟨fun _ _ => trivial, ?_⟩
  rw [Oper.semAt_eq _ _ _ ho, h]
  exact hk
theorem wp_panic {u : Value} {w' : World} (ho : ∀ c, o.op ≠ .defer c) (h : (execOp a.eval o).run P w = .halt (.panic u) w') (hk : Q (.panic [{ v := u, recovered := false }]) a w') : o.wpIn (Fw r) n P a w next Q := by
  refine ⟨fun _ _ => trivial, ?_⟩
  rw [Oper.semAt_eq _ _ _ ho, h]
  exact hk
theorem undef_ok : Enc m (.tup []) undef := ⟨#[], rfl, trivial⟩

/-- a new entry, at its place -/
theorem new_ok {p : Nat} {nw : New} (hE : EOk P E) (hI : Inv w σ m) (hG : GlobOk E m.st) (hρ : EncT m ρ a.tmps.toList) (hp : σ[p]? = some .dead) (hnl : ¬ m.live p) (h : newA E.P (E.ev ρ) o.op = some nw) :
    (∀ c, o.op ≠ .defer c) ∧ ∃ w' m' u, (execOp a.eval o).run P w = .ok (.value u) w' ∧ Inv w' (σ.set p nw.e) m' ∧ ExtP p w σ m w' (σ.set p nw.e) m' ∧ Enc m' (nw.v p) u := by
  have ev := ev_ok (a := a) hG hρ
  have fin : ∀ {v : V} {σ' : S}, (o.op matches .alloc _ | .box _ _ | .makeMap _ _ | .makeSlice _ _ _) = true → Yields P o a w σ m p v σ' → ∃ w' m' u, (execOp a.eval o).run P w = .ok (.value u) w' ∧ Inv w' σ' m' ∧ ExtP p w σ m w' σ' m' ∧ Enc m' v u := fun hop ⟨w', m', u, h1, h2, h3, h4⟩ => by
    rcases h1 with h1 | ⟨h1, _⟩
    · exact ⟨w', m', u, h1, h2, h3, h4⟩
    · exfalso
      cases hop' : o.op <;> simp only [hop'] at hop <;> first | (cases hop; done) | skip
      all_goals
        simp only [execOp, hop', Sem.run_bind] at h1
        first
          | (generalize (Instr.alloc _ _ _).run P w = q at h1; cases q <;> simp [Result.andThen] at h1; done)
          | (generalize (Instr.box _ _).run P w = q at h1; cases q <;> simp [Result.andThen] at h1; done)
          | (generalize (Instr.makeMap _ _).run P w = q at h1; cases q <;> simp [Result.andThen] at h1; done)
          | (generalize (Instr.makeSlice _ _ _).run P w = q at h1; cases q <;> simp [Result.andThen] at h1; done)
  cases hop : o.op <;> rw [hop] at h <;> simp only [newA] at h
  case alloc elem =>
    refine ⟨by intro c; simp, ?_⟩
    unfold allocA at h
    split at h
    · rename_i z hz
      split at h
      · rename_i cs hcs
        simp only [Option.some.injEq] at h; subst h
        exact fin (by rw [hop]) (alloc_ok hE.tab hI hop hp hnl hz hcs)
      · cases h
    · cases h
  case box elem x =>
    refine ⟨by intro c; simp, ?_⟩
    unfold boxA at h
    split at h
    · rename_i cs hcs
      simp only [Option.some.injEq] at h; subst h
      exact fin (by rw [hop]) (box_ok hE.tab hI hop (ev x) hp hnl hcs)
    · cases h
  case makeMap t rs =>
    refine ⟨by intro c; simp, ?_⟩
    unfold makeMapA at h
    split at h
    · simp only [Option.some.injEq] at h; subst h
      exact fin (by rw [hop]) (makeMap_ok hE.tab hI hop hp hnl)
    · cases h
  case makeSlice t l c =>
    refine ⟨by intro c; simp, ?_⟩
    exact fin (by rw [hop]) (makeSlice_ok hE.tab hI hop (ev l) (ev c) hp hnl h)
  all_goals cases h
end
end Go.VV

namespace Go.VV
open Go.RowKit

theorem evs_ok {E : Env} {m : Mem} {ρ : List V} {a : Act} (ev : ∀ x, Enc m (E.ev ρ x) (a.eval x)) : ∀ (xs : List Operand), EncT m (xs.map (E.ev ρ)) (xs.map a.eval)
  | [] => trivial
  | x :: xs => ⟨ev x, evs_ok ev xs⟩
theorem parts_ok {E : Env} {m : Mem} {ρ : List V} {a : Act} (ev : ∀ x, Enc m (E.ev ρ x) (a.eval x)) : ∀ (ps : List (Nat × Operand)), PartsOk m (ps.map fun p => (p.1, E.ev ρ p.2)) (ps.map fun p => (p.1, a.eval p.2))
  | [] => trivial
  | p :: ps => ⟨⟨rfl, ev p.2⟩, parts_ok ev ps⟩
theorem EncT_get {m : Mem} : ∀ {xs : List V} {vs : List Value}, EncT m xs vs → ∀ (i : Nat) (x : V) (u : Value), xs[i]? = some x → vs[i]? = some u → Enc m x u
  | [], [], _, _, _, _, h, _ => by simp at h
  | _ :: _, _ :: _, h, 0, x, u, hx, hu => by simp at hx hu; subst hx; subst hu; exact h.1
  | _ :: _, _ :: _, h, i + 1, x, u, hx, hu => EncT_get h.2 i x u (by simpa using hx) (by simpa using hu)
  | [], _ :: _, h, _, _, _, _, _ => h.elim
  | _ :: _, [], h, _, _, _, _, _ => h.elim

section
variable {P : Program} {E : Env} (hE : EOk P E) {r : Option Nat} {n : Nat} {o : Oper} {a : Act} {w : World} {σ : S} {m : Mem} {next : Act → World → Prop} {Q : Exit → Act → World → Prop}
  {call : CallF} {ρ : List V} (hI : Inv w σ m) (hG : GlobOk E m.st) (hρ : EncT m ρ a.tmps.toList) (hC : CallOk P E call)
include hE hI hG hρ

/-- a value out of the values at hand -/
theorem give {v : V} {u : Value} (ho : ∀ c, o.op ≠ .defer c) (hr : (execOp a.eval o).run P w = .ok (.value u) w) (he : Enc m v u) (hk : After next Q o.dst a w σ m (.val v)) : o.wpIn (Fw r) n P a w next Q :=
  wp_value ho hr (hk w m u hI (.refl _ _ _) he)

theorem optEnc (ev : ∀ x, Enc m (E.ev ρ x) (a.eval x)) (x : Option Operand) : match x.map (E.ev ρ), x.map a.eval with | none, none => True | some p, some q => Enc m p q | _, _ => False := by
  cases x with
  | none => trivial
  | some x => exact ev x

include hC in
theorem callV_ok {args : List V} {vargs : Array Value} {f : V} {fv : Value} {res : OR} (hf : Enc m f fv) (ha : EncT m args vargs.toList) (h : opCallV call σ args f = some res)
    (ho : ∀ c, o.op ≠ .defer c) (hr : ∀ d, (Deferred.ofValue fv vargs).run P w = .ok d w → ∀ q, (invoke d.target d.args).run P w = q → (execOp a.eval o).run P w = q) (hk : After next Q o.dst a w σ m res) : o.wpIn (Fw r) n P a w next Q := by
  have key : ∀ (out : Out) (σ' : S), ofOut (some (out, σ')) = some res → ∀ e w', OutR w σ m σ' out e w' → (match e with
      | .returned v => fun w'' => next (a.put o.dst v) w''
      | .panicked chain => fun w'' => Q (.panic chain) a w''
      | .outgrown => fun _ => LetsOut Q) w' := fun out σ' hres e w' ⟨m', h1, h2, h3⟩ => by
    cases out with
    | ret v =>
      simp only [ofOut, Option.some.injEq] at hres; subst hres
      cases e with
      | returned u => exact hk w' m' u h1 h2 h3
      | panicked _ => exact h3.elim
      | outgrown => exact h3.elim
    | panic v =>
      simp only [ofOut, Option.some.injEq] at hres; subst hres
      cases e with
      | returned u => exact h3.elim
      | panicked chain =>
        obtain ⟨u, rfl, h4⟩ := h3
        exact hk w' m' u h1 h2 h4
      | outgrown => exact h3.elim
  unfold opCallV at h
  split at h
  · rename_i g first caps
    cases hcall : call (.fn g) (first ++ args ++ caps) σ with
    | none => rw [hcall] at h; cases h
    | some p =>
      obtain ⟨out, σ'⟩ := p
      rw [hcall] at h
      simp only [Enc, EncA, EncC] at hf
      obtain ⟨fa, fb, rfl, h1, h2⟩ := hf
      have hargs : EncT m (first ++ args ++ caps) ((fa ++ vargs) ++ fb).toList := by
        simp only [Array.toList_append]
        exact EncT_append (EncT_append (EncT_E1L h1) ha) (EncT_E1L h2)
      have := hC (.fn g) _ _ _ _ hcall w m ((fa ++ vargs) ++ fb) hI hG hargs _ (key out σ' h)
      have hex := hr { target := .fn (.func g) fb, args := fa ++ vargs } rfl _ rfl
      simp only [invoke] at hex
      refine ⟨fun _ _ => trivial, ?_⟩
      rw [Oper.semAt_eq _ _ _ ho, hex]
      rcases this with ⟨hent, hcalls⟩ | ⟨u, w', hrun, hR⟩
      · rw [hent]
        refine ⟨(fun hd => by cases hd), ?_⟩
        have hc2 : CallsIn (Fw r) (n - 1) P g ((fa ++ vargs) ++ fb) w _ := hcalls (n - 1)
        exact hc2.mono fun e w' he => by cases e <;> exact he
      · rw [hrun]; exact hR
  · rename_i id
    cases hcall : call (.yl id) args σ with
    | none => rw [hcall] at h; cases h
    | some p =>
      obtain ⟨out, σ'⟩ := p
      rw [hcall] at h
      simp only [Enc, EncA, EncC, E1] at hf
      obtain ⟨hl, rfl⟩ := hf
      obtain ⟨fn, tmps, assign, body, hy, hround⟩ := hC (.yl id) _ _ _ _ hcall w m vargs hI hG ha _ (key out σ' h) hl
      have hex := hr { target := .fn (.yield (m.loc id)) #[], args := #[] ++ vargs } rfl _ rfl
      simp only [invoke, Array.empty_append] at hex
      refine ⟨fun _ _ => trivial, ?_⟩
      rw [Oper.semAt_eq _ _ _ ho, hex, hy]
      refine ⟨(fun hd => by cases hd), ?_⟩
      have hc2 : RoundIn (Fw r) (n - 1) P (m.loc id) fn tmps assign body w _ := hround (n - 1)
      exact hc2.mono fun e w' he => by cases e <;> exact he
  · cases h

include hC in
theorem op_ok {res : OR} (h : opV E call ρ σ o = some res) (hr : r = none ∨ ∀ d, res ≠ .dfr d) (hk : After next Q o.dst a w σ m res) : o.wpIn (Fw r) n P a w next Q := by
  have ev := ev_ok (a := a) hG hρ
  have hT := hE.tab
  have valOf : ∀ {v? : Option V}, val v? = some res → ∃ v, v? = some v ∧ res = .val v := fun {v?} hh => by
    unfold val at hh
    split at hh
    · rename_i v; simp only [Option.some.injEq] at hh; exact ⟨v, rfl, hh.symm⟩
    · cases hh
  have val2Of : ∀ {v? : Option (V × S)}, val2 v? = some res → ∃ v σ', v? = some (v, σ') ∧ res = .upd v σ' := fun {v?} hh => by
    unfold val2 at hh
    split at hh
    · rename_i v σ'; simp only [Option.some.injEq] at hh; exact ⟨v, σ', rfl, hh.symm⟩
    · cases hh
  have skipOf : ∀ {s? : Option S}, skip s? = some res → ∃ σ', s? = some σ' ∧ res = .upd (.tup []) σ' := fun {s?} hh => by
    unfold skip at hh
    split at hh
    · rename_i σ'; simp only [Option.some.injEq] at hh; exact ⟨σ', rfl, hh.symm⟩
    · cases hh
  have newOf : ∀ {nw? : Option New}, putA σ nw? = some res → newA E.P (E.ev ρ) o.op = nw? → o.wpIn (Fw r) n P a w next Q := fun {nw?} hh hn => by
    unfold putA at hh
    split at hh
    · rename_i nw
      simp only [Option.some.injEq] at hh; subst hh
      obtain ⟨ho, w', m', u, h1, h2, h3, h4⟩ := new_ok (p := σ.length) hE hI.room hG hρ (by simp) hI.fresh hn
      have hset : (σ ++ [Ent.dead]).set σ.length nw.e = σ ++ [nw.e] := by rw [List.set_append_right _ _ (Nat.le_refl _)]; simp
      rw [hset] at h2 h3
      exact wp_value ho h1 (hk w' m' u h2 (h3.of_room (by simp)) h4)
    · cases hh
  unfold opV at h
  cases hop : o.op <;> rw [hop] at h <;> simp only [opK] at h
  case move x =>
    simp only [Option.some.injEq] at h; subst h
    exact give hE hI hG hρ (by intro c; simp [hop]) (by simp [execOp, hop]) (ev x) hk
  case assign x =>
    simp only [Option.some.injEq] at h; subst h
    exact give hE hI hG hρ (by intro c; simp [hop]) (by simp [execOp, hop]) (ev x) hk
  case pick c x y =>
    unfold opPick at h
    have hc := ev c
    split at h
    · rename_i hcv
      rw [hcv] at hc
      have := bool_of hc
      simp only [Option.some.injEq] at h; subst h
      exact give hE hI hG hρ (by intro c; simp [hop]) (by simp [execOp, hop, this, asBool]) (ev x) hk
    · rename_i hcv
      rw [hcv] at hc
      have := bool_of hc
      simp only [Option.some.injEq] at h; subst h
      exact give hE hI hG hρ (by intro c; simp [hop]) (by simp [execOp, hop, this, asBool]) (ev y) hk
    · cases h
  case alloc elem => exact newOf h (by rw [hop]; rfl)
  case box elem x => exact newOf h (by rw [hop]; rfl)
  case makeMap t rs => exact newOf h (by rw [hop]; rfl)
  case makeSlice t l c => exact newOf h (by rw [hop]; rfl)
  case build t parts =>
    obtain ⟨v, hv, rfl⟩ := valOf h
    have hp : PartsOk m (evParts (E.ev ρ) parts) (parts.map fun (i, x) => (i, a.eval x)).toList := by
      simp only [evParts, Array.toList_map]; exact parts_ok ev _
    obtain ⟨u, hu, he⟩ := build_ok hT (w := w) hp hv
    exact give hE hI hG hρ (by intro c; simp [hop]) (by simp only [execOp, hop, Sem.run_bind, hu, Result.andThen_ok]; rfl) he hk
  case buildSlice t len parts =>
    obtain ⟨v, hv, rfl⟩ := valOf h
    have hp : PartsOk m (evParts (E.ev ρ) parts) (parts.map fun (i, x) => (i, a.eval x)).toList := by
      simp only [evParts, Array.toList_map]; exact parts_ok ev _
    obtain ⟨w', m', u, hu, h1, h2, he⟩ := buildSlice_ok hT hI hp hv
    exact wp_value (by intro c; simp [hop]) (by simp only [execOp, hop, Sem.run_bind, hu, Result.andThen_ok]; rfl) (hk w' m' u h1 h2 he)
  case load t x =>
    obtain ⟨v, hv, rfl⟩ := valOf h
    obtain ⟨u, hu, he, _⟩ := load_ok hT hI (ev x) hv
    exact give hE hI hG hρ (by intro c; simp [hop]) (by simp only [execOp, hop, Sem.run_bind, hu, Result.andThen_ok]; rfl) (Enc_of_EncA' he) hk
  case store t x y =>
    obtain ⟨σ', hv, rfl⟩ := skipOf h
    obtain ⟨w', hu, h1, h2⟩ := store_ok hT hI (ev x) (ev y) hv
    exact wp_skip (by intro c; simp [hop]) (by simp only [execOp, hop, Sem.run_bind, hu, Result.andThen_ok]; rfl) (hk w' m undef h1 h2 undef_ok)
  case nilCheck x =>
    unfold opNilCheck at h
    have hx := ev x
    split at h
    · rename_i id off hxv
      rw [hxv] at hx
      simp only [Option.some.injEq] at h; subst h
      have hx' := hx
      simp only [Enc, EncA, EncC, E1] at hx'
      exact give hE hI hG hρ (by intro c; simp [hop]) (by simp [execOp, hop, hx'.2]) hx hk
    · rename_i xs i off hxv
      rw [hxv] at hx
      simp only [Option.some.injEq] at h; subst h
      have hx' := hx
      simp only [Enc, EncA, EncC, E1, EP] at hx'
      obtain ⟨_, g, oo, sz, hval, _⟩ := hx'
      exact give hE hI hG hρ (by intro c; simp [hop]) (by simp [execOp, hop, hval]) hx hk
    · cases h
  case binOp op t x y yt =>
    obtain ⟨v, hv, rfl⟩ := valOf h
    obtain ⟨u, hu, he⟩ := binOp_ok hT (w := w) hE.flat (ev x) (ev y) hv
    exact give hE hI hG hρ (by intro c; simp [hop]) (by simp only [execOp, hop]; rw [Sem.run_bind, hu, Result.andThen_ok]; rfl) he hk
  case unOp op t x =>
    obtain ⟨v, hv, rfl⟩ := valOf h
    obtain ⟨u, hu, he⟩ := unOp_ok hT (w := w) (ev x) hv
    exact give hE hI hG hρ (by intro c; simp [hop]) (by simp only [execOp, hop, Sem.run_bind, hu, Result.andThen_ok]; rfl) he hk
  case convert src dst x =>
    obtain ⟨v, hv, rfl⟩ := valOf h
    obtain ⟨u, hu, he⟩ := convert_ok hT hI (nrm_ok (ev x)) hv
    exact give hE hI hG hρ (by intro c; simp [hop]) (by simp only [execOp, hop, Sem.run_bind, hu, Result.andThen_ok]; rfl) he hk
  case makeInterface t x =>
    have : ∃ v, res = .val v := by
      unfold opIface at h
      split at h
      · cases h
      · obtain ⟨v, _, rfl⟩ := valOf h; exact ⟨v, rfl⟩
      · cases h
    obtain ⟨v, rfl⟩ := this
    obtain ⟨u, hu, he⟩ := makeInterface_ok hT (w := w) (ev x) h
    exact give hE hI hG hρ (by intro c; simp [hop]) (by simp only [execOp, hop, Sem.run_bind, hu, Result.andThen_ok]; rfl) he hk
  case makeFunc fn first caps =>
    have : ∃ v, res = .val v := by
      unfold opMakeFunc at h
      split at h
      · simp only [Option.some.injEq] at h; exact ⟨_, h.symm⟩
      · cases h
    obtain ⟨v, rfl⟩ := this
    have he := makeFunc_ok (m := m) (fv := first.map a.eval) (cv := caps.map a.eval)
      (EncT_get (by simp only [evs, Array.toList_map]; exact evs_ok ev first.toList)) (by simp [evs]) (EncT_get (by simp only [evs, Array.toList_map]; exact evs_ok ev caps.toList)) (by simp [evs]) h
    exact give hE hI hG hρ (by intro c; simp [hop]) (by simp only [execOp, hop, Instr.makeFunc]; rfl) he hk
  case slice t x lo hi mx =>
    obtain ⟨v, hv, rfl⟩ := valOf h
    obtain ⟨u, hu, he⟩ := slice_ok hT (w := w) (nrm_ok (ev x)) (optEnc hE hI hG hρ ev lo) (optEnc hE hI hG hρ ev hi) (optEnc hE hI hG hρ ev mx) hv
    exact give hE hI hG hρ (by intro c; simp [hop]) (by simp only [execOp, hop, Sem.run_bind, hu, Result.andThen_ok]; rfl) he hk
  case fieldAddr t x f =>
    obtain ⟨v, hv, rfl⟩ := valOf h
    obtain ⟨u, hu, he⟩ := fieldAddr_ok hT (w := w) (ev x) hv
    exact give hE hI hG hρ (by intro c; simp [hop]) (by simp only [execOp, hop, Sem.run_bind, hu, Result.andThen_ok]; rfl) he hk
  case field t x f =>
    obtain ⟨v, hv, rfl⟩ := valOf h
    obtain ⟨u, hu, he⟩ := field_ok hT (w := w) (ev x) hv
    exact give hE hI hG hρ (by intro c; simp [hop]) (by simp only [execOp, hop, Sem.run_bind, hu, Result.andThen_ok]; rfl) he hk
  case indexAddr t x ix =>
    obtain ⟨v, hv, rfl⟩ := valOf h
    obtain ⟨u, hu, he⟩ := indexAddr_ok hT (w := w) (ev x) (ev ix) hv
    exact give hE hI hG hρ (by intro c; simp [hop]) (by simp only [execOp, hop, Sem.run_bind, hu, Result.andThen_ok]; rfl) he hk
  case index t x ix =>
    obtain ⟨v, hv, rfl⟩ := valOf h
    obtain ⟨u, hu, he⟩ := index_ok hT (w := w) (ev x) (ev ix) hv
    exact give hE hI hG hρ (by intro c; simp [hop]) (by simp only [execOp, hop, Sem.run_bind, hu, Result.andThen_ok]; rfl) he hk
  case lookup t x ix ok =>
    obtain ⟨v, hv, rfl⟩ := valOf h
    obtain ⟨u, hu, he⟩ := lookup_ok hT hI (ev x) (ev ix) hv
    exact give hE hI hG hρ (by intro c; simp [hop]) (by simp only [execOp, hop, Sem.run_bind, hu, Result.andThen_ok]; rfl) he hk
  case mapUpdate t x k y =>
    obtain ⟨σ', hv, rfl⟩ := skipOf h
    obtain ⟨w', hu, h1, h2⟩ := mapPut_ok hT hI (ev x) (ev k) (ev y) hv
    exact wp_skip (by intro c; simp [hop]) (by simp only [execOp, hop, Sem.run_bind, hu, Result.andThen_ok]; rfl) (hk w' m undef h1 h2 undef_ok)
  case insert t x k y =>
    obtain ⟨σ', hv, rfl⟩ := skipOf h
    obtain ⟨w', hu, h1, h2⟩ := mapPut_ok hT hI (ev x) (ev k) (ev y) hv
    exact wp_skip (by intro c; simp [hop]) (by simp only [execOp, hop, Sem.run_bind, hu, Result.andThen_ok]; rfl) (hk w' m undef h1 h2 undef_ok)
  case typeAssert x xt asserted ok =>
    obtain ⟨v, hv, rfl⟩ := valOf h
    obtain ⟨u, hu, he⟩ := typeAssert_ok hT (w := w) (xt := xt) (ev x) hv
    exact give hE hI hG hρ (by intro c; simp [hop]) (by simp only [execOp, hop, Sem.run_bind, hu, Result.andThen_ok]; rfl) he hk
  case extract x ix =>
    have : ∃ v, res = .val v := by
      unfold opExtract at h
      split at h
      · obtain ⟨v, _, rfl⟩ := valOf h; exact ⟨v, rfl⟩
      · cases h
    obtain ⟨v, rfl⟩ := this
    obtain ⟨u, hu, he⟩ := extract_ok (P := P) (w := w) (ev x) h
    exact give hE hI hG hρ (by intro c; simp [hop]) (by simp only [execOp, hop, Sem.run_bind, hu, Result.andThen_ok]; rfl) (Enc_of_EncA' he) hk
  case panic x =>
    unfold opPanic at h
    have hx := ev x
    split at h
    · rename_i t y hxv
      rw [hxv] at hx
      simp only [Option.some.injEq] at h; subst h
      have hx' := hx
      simp only [Enc, EncA, EncC] at hx'
      obtain ⟨u, hu, _⟩ := hx'
      refine wp_panic (u := .iface t u) (w' := w) (by intro c; simp [hop]) (by simp [execOp, hop, hu, Instr.panic, goPanic]) (hk w m _ hI (.refl _ _ _) ?_)
      rw [← hu]; exact EncA_notTup hx (by rintro vs ⟨⟩)
    · cases h
  case defer c =>
    unfold opDefer at h
    split at h
    · rename_i f hcal
      have hf := ev f
      unfold opDeferV at h
      split at h
      · rename_i g first caps hfv
        rw [hfv] at hf
        simp only [Option.some.injEq] at h; subst h
        have hrn : r = none := by
          rcases hr with h | h
          · exact h
          · exact (h _ rfl).elim
        subst hrn
        simp only [Enc, EncA, EncC] at hf
        obtain ⟨fa, fb, hval, h1, h2⟩ := hf
        refine ⟨fun _ _ => trivial, ?_⟩
        have hrun : (o.semAt (Fw none).round a.eval).run P w = .ok (.defer { target := .fn (.func g) fb, args := fa ++ c.args.map a.eval }) w := by
          show (execOp a.eval o).run P w = _
          simp [execOp, hop, resolve, hcal, hval, Deferred.ofValue]
        rw [hrun]
        refine hk _ (.inl ⟨g, fb, _, rfl, rfl, EncT_E1L h2, ?_⟩)
        simp only [Array.toList_append, Array.toList_map]
        exact EncT_append (EncT_E1L h1) (evs_ok ev c.args.toList)
      · cases h
    · cases h
  case call c =>
    unfold opCall at h
    have ho : ∀ c, o.op ≠ .defer c := by intro c; simp [hop]
    have hargs : EncT m (c.args.toList.map (E.ev ρ)) (c.args.map a.eval).toList := by
      simp only [Array.toList_map]; exact evs_ok ev c.args.toList
    split at h
    · rename_i f hcal
      exact callV_ok hE hI hG hρ hC (ev f) hargs h ho (fun d hd q hq => by
        simp only [execOp, hop, resolve, hcal, Sem.run_bind, hd, Result.andThen_ok, hq]) hk
    · rename_i b hcal
      have hex : ∀ {u : Value} {w' : World}, (builtin b c.argTypes o.type (c.args.map fun | .const _ => true | _ => false) (c.args.map a.eval)).run P w = .ok (.value u) w' → (execOp a.eval o).run P w = .ok (.value u) w' := fun hh => by
        simp only [execOp, hop, resolve, hcal, Sem.run_bind, Sem.run_pure, Result.andThen_ok, invoke]
        exact hh
      have arr1 : ∀ {x : V}, c.args.toList.map (E.ev ρ) = [x] → ∃ u, c.args.map a.eval = #[u] ∧ Enc m x u := fun hx => by
        rw [hx] at hargs
        cases hl : (c.args.map a.eval).toList with
        | nil => rw [hl] at hargs; exact hargs.elim
        | cons u rest =>
          rw [hl] at hargs
          cases rest with
          | nil => exact ⟨u, Array.toList_inj.1 hl, hargs.1⟩
          | cons _ _ => exact hargs.2.elim
      have arr2 : ∀ {x y : V}, c.args.toList.map (E.ev ρ) = [x, y] → ∃ u v, c.args.map a.eval = #[u, v] ∧ Enc m x u ∧ Enc m y v := fun hx => by
        rw [hx] at hargs
        cases hl : (c.args.map a.eval).toList with
        | nil => rw [hl] at hargs; exact hargs.elim
        | cons u rest =>
          rw [hl] at hargs
          cases rest with
          | nil => exact hargs.2.elim
          | cons v rest =>
            cases rest with
            | nil => exact ⟨u, v, Array.toList_inj.1 hl, hargs.1, hargs.2.1⟩
            | cons _ _ => exact hargs.2.2.elim
      unfold builtinV at h
      split at h
      · rename_i t s x hat hax
        split at h
        · rename_i t2 ht2
          split at h
          · rename_i hc
            simp only [Bool.and_eq_true, decide_eq_true_eq, beq_iff_eq] at hc
            obtain ⟨rfl, hsz⟩ := hc
            obtain ⟨v, σ', hv, rfl⟩ := val2Of h
            obtain ⟨su, xu, ha, h1, h2⟩ := arr2 hax
            obtain ⟨w', m', u, hu, k1, k2, he⟩ := append_ok (ty := o.type) hT hI (nrm_ok h1) (nrm_ok h2) hv
            have hats : c.argTypes = #[t2, t2] := by
              apply Array.ext_getElem?
              intro i
              rcases i with _ | _ | i
              · rw [hat]; rfl
              · rw [ht2]; rfl
              · rw [Array.getElem?_eq_none (by omega), Array.getElem?_eq_none (by simp)]
            refine wp_value ho (hex ?_) (hk w' m' u k1 k2 he)
            simp only [builtin, ha, hats, Sem.run_bind, hu, Result.andThen_ok]
            rfl
          · cases h
        · cases h
      · rename_i t x hat hax
        obtain ⟨v, hv, rfl⟩ := valOf h
        obtain ⟨xu, ha, h1⟩ := arr1 hax
        obtain ⟨u, hu, he⟩ := len_ok (ty := o.type) hT hI (nrm_ok h1) hv
        refine give hE hI hG hρ ho (hex ?_) he hk
        have hu' : (Builtin.len_ c.argTypes o.type #[xu]).run P w = .ok u w := by
          have : (Builtin.len_ c.argTypes o.type #[xu]).run P w = (Builtin.len_ #[t] o.type #[xu]).run P w := by
            unfold Builtin.len_
            rw [hat]
            rfl
          rw [this]; exact hu
        simp only [builtin, ha, Sem.run_bind, hu', Result.andThen_ok]
        rfl
      · rename_i xs hat hax
        obtain ⟨v, hv, rfl⟩ := valOf h
        obtain ⟨u, hu, he⟩ := min_ok (P := P) (w := w) (m := m) (vs := (c.args.map a.eval).toList) (ats := c.argTypes) (t := o.type) hT (by simp) (EncT_get hargs) hv
        refine give hE hI hG hρ ho (hex ?_) he hk
        simp only [Array.toArray_toList] at hu
        simp only [builtin, Sem.run_bind, hu, Result.andThen_ok]
        rfl
      · cases h
    · cases h
  all_goals cases h
end
end Go.VV

namespace Go.VV
open Go.RowKit

def DfsOk (m : Mem) : List Df → List Deferred → Prop
  | [], [] => True
  | d :: ds, e :: es => DfOk m d e ∧ DfsOk m ds es
  | [], _ :: _ => False
  | _ :: _, [] => False

theorem DfOk.mono {m m' : Mem} (h : m.Le m') {d : Df} {e : Deferred} (hd : DfOk m d e) : DfOk m' d e := by
  rcases hd with ⟨g, caps, args, h1, h2, h3, h4⟩ | ⟨k, h1, h2, h3⟩
  · exact .inl ⟨g, caps, args, h1, h2, h3.mono h, h4.mono h⟩
  · exact .inr ⟨k, h1, h.live k h2, by rw [h3, h.loc k h2]⟩
theorem DfsOk.mono {m m' : Mem} (h : m.Le m') : ∀ {ds : List Df} {es : List Deferred}, DfsOk m ds es → DfsOk m' ds es
  | [], [], _ => trivial
  | _ :: _, _ :: _, hd => ⟨hd.1.mono h, DfsOk.mono h hd.2⟩
  | [], _ :: _, hd => hd.elim
  | _ :: _, [], hd => hd.elim

/-- an activation: r: the round that it is of -/
structure FrOk (m : Mem) (r : Option Nat) (fr : Fr) (a : Act) : Prop where
  tmps : EncT m fr.t a.tmps.toList
  dfs : match fr.d with
    | some ds => r = none ∧ DfsOk m ds a.defers
    | none => a.defers = []

theorem FrOk.mono {m m' : Mem} (h : m.Le m') {r : Option Nat} {fr : Fr} {a : Act} (hf : FrOk m r fr a) : FrOk m' r fr a := by
  refine ⟨hf.tmps.mono h, ?_⟩
  have := hf.dfs
  cases hd : fr.d with
  | none => rw [hd] at this; exact this
  | some ds => rw [hd] at this; exact ⟨this.1, this.2.mono h⟩

theorem putTmps {m : Mem} {t : List V} {a : Act} {dst : Option Tmp} {v : V} {u : Value} (ht : EncT m t a.tmps.toList) (hv : Enc m v u) : EncT m (putV t dst v) (a.put dst u).tmps.toList := by
  cases dst with
  | none => exact ht
  | some d =>
    simp only [putV, Act.put, Array.toList_setIfInBounds]
    exact EncT_set d ht hv
theorem put_defers {a : Act} {dst : Option Tmp} {u : Value} : (a.put dst u).defers = a.defers := by cases dst <;> rfl
theorem FrOk.put {m : Mem} {r : Option Nat} {fr : Fr} {a : Act} {dst : Option Tmp} {v : V} {u : Value} (h : FrOk m r fr a) (hv : Enc m v u) : FrOk m r ⟨putV fr.t dst v, fr.d⟩ (a.put dst u) :=
  ⟨putTmps h.tmps hv, by rw [put_defers]; exact h.dfs⟩

def XOk (m : Mem) : X → Exit → Prop
  | .normal, .normal => True
  | .exit i, .exit j => i = j
  | .goto i, .goto j => i = j
  | .ret, .ret => True
  | .panic v, .panic chain => ∃ u, chain = [{ v := u, recovered := false }] ∧ EncA m v u
  | _, _ => False

/-- what a walk must come to -/
def Comes' (w : World) (σ : S) (m : Mem) (r : Option Nat) (x : X) (fr' : Fr) (σ' : S) (Q : Exit → Act → World → Prop) : Prop :=
  ∀ e a' w' m', Inv w' σ' m' → Ext w σ m w' σ' m' → FrOk m' r fr' a' → XOk m' x e → Q e a' w'

theorem Comes'.later {w w1 : World} {σ σ1 : S} {m m1 : Mem} {r : Option Nat} {x : X} {fr' : Fr} {σ' : S} {Q : Exit → Act → World → Prop} (h : Comes' w σ m r x fr' σ' Q) (he : Ext w σ m w1 σ1 m1) : Comes' w1 σ1 m1 r x fr' σ' Q :=
  fun e a' w' m' h1 h2 h3 h4 => h e a' w' m' h1 (he.trans h2) h3 h4

theorem wanted_ok {m : Mem} {ops : Array Oper} {t : List V} {a : Act} (ht : EncT m t a.tmps.toList) {o : Oper} {b : Bool} (h : wantV ops.toList t o.guard = some b) : Region.wanted o (yielded ops a.tmps) = b := by
  unfold Region.wanted
  cases hg : o.guard with
  | none => rw [hg] at h; simp only [wantV, Option.some.injEq] at h; exact h
  | some p =>
    obtain ⟨j, want⟩ := p
    rw [hg] at h
    simp only [wantV] at h
    rw [nth_eq] at h
    split at h
    · rename_i oj hoj
      split at h
      · rename_i d hd
        have hoj' : ops[j]? = some oj := by simpa using hoj
        have hE := EncT_nth d ht
        have hlen := EncT_length ht
        unfold wantB at h
        split at h
        · rename_i b' hb'
          rw [hb'] at hE
          have hbv := bool_of hE
          have hdl : d < t.length := by
            rcases Nat.lt_or_ge d t.length with hlt | hge
            · exact hlt
            · exfalso
              have : ∀ (t : List V) (d : Nat), t.length ≤ d → nthD t d = .undef := by
                intro t
                induction t with
                | nil => intro d _; rfl
                | cons x t ih => intro d hd; cases d with
                  | zero => simp at hd
                  | succ d => exact ih d (by simpa using hd)
              rw [this t d hge] at hb'
              cases hb'
          have hdl2 : d < a.tmps.toList.length := by rw [← hlen]; exact hdl
          have hval : a.tmps[d]? = some (.bool b') := by
            have h1 : a.tmps.toList[d]? = some (a.tmps.toList.getD d undef) := by
              rw [List.getD_eq_getElem?_getD, List.getElem?_eq_getElem hdl2]; rfl
            rw [hbv] at h1
            simpa using h1
          have : yielded ops a.tmps j = some b' := by simp [yielded, hoj', hd, hval]
          simp only [this]
          cases b' <;> cases want <;> simp_all
        · rename_i hb'
          rw [hb'] at hE
          simp only [Option.some.injEq] at h; subst h
          obtain ⟨us, hu, hus⟩ := hE
          have : yielded ops a.tmps j = none := by
            simp only [yielded, hoj', Option.bind_some, hd]
            cases hx : a.tmps[d]? with
            | none => rfl
            | some x =>
              have : a.tmps.toList.getD d undef = x := by
                rw [List.getD_eq_getElem?_getD, show a.tmps.toList[d]? = some x by simpa using hx]; rfl
              rw [this] at hu
              subst hu
              rfl
          simp [this]
        · cases h
      · cases h
    · cases h

section
variable {P : Program} {E : Env} (hE : EOk P E) {call : CallF} (hC : CallOk P E call)
include hE hC

theorem execL_ok {n : Nat} {r : Option Nat} {ops : Array Oper} {Q : Exit → Act → World → Prop} {x : X} {fr' : Fr} {σ' : S} : ∀ (l : List Oper) (fr : Fr) (σ : S) (a : Act) (w : World) (m : Mem), execL E call ops.toList l fr σ = some (x, fr', σ') →
    Inv w σ m → GlobOk E m.st → FrOk m r fr a → Comes' w σ m r x fr' σ' Q → wpListIn (Fw r) n P ops Q l a w
  | [], fr, σ, a, w, m, h, hI, hG, hF, hk => by
    simp only [execL, Option.some.injEq, Prod.mk.injEq] at h
    obtain ⟨rfl, rfl, rfl⟩ := h
    exact hk _ a w m hI (.refl _ _ _) hF trivial
  | o :: l, fr, σ, a, w, m, h, hI, hG, hF, hk => by
    unfold execL at h
    cases hw : wantV ops.toList fr.t o.guard with
    | none => rw [hw] at h; simp [oneOp] at h
    | some b =>
      rw [hw] at h
      have hwanted := wanted_ok hF.tmps hw
      unfold wpListIn
      rw [hwanted]
      cases b with
      | false =>
        simp only [oneOp, putD_eq] at h
        simp only [Bool.false_eq_true, if_false]
        exact ⟨fun _ _ => trivial, execL_ok l _ σ _ w m h hI hG (hF.put undef_ok) hk⟩
      | true =>
        simp only [oneOp] at h
        simp only [if_true]
        cases hop : opV E call fr.t σ o with
        | none => rw [hop] at h; simp [afterOp] at h
        | some res =>
          rw [hop] at h
          refine op_ok hE hI hG hF.tmps hC hop ?_ ?_
          · cases res with
            | dfr d =>
              left
              simp only [afterOp] at h
              have := hF.dfs
              cases hd : fr.d with
              | none => rw [hd] at h; simp at h
              | some ds => rw [hd] at this; exact this.1
            | val v => right; intro d; simp
            | upd v σ => right; intro d; simp
            | pan v σ => right; intro d; simp
          · cases res with
            | val v =>
              simp only [afterOp, putD_eq] at h
              exact fun w' m' u h1 h2 h3 => execL_ok l _ σ _ w' m' h h1 (hG.mono h2.le.st) ((hF.mono h2.le).put h3) (hk.later h2)
            | upd v σ1 =>
              simp only [afterOp, putD_eq, spineK_eq] at h
              exact fun w' m' u h1 h2 h3 => execL_ok l _ σ1 _ w' m' h h1 (hG.mono h2.le.st) ((hF.mono h2.le).put h3) (hk.later h2)
            | pan v σ1 =>
              simp only [afterOp, Option.some.injEq, Prod.mk.injEq] at h
              obtain ⟨rfl, rfl, rfl⟩ := h
              exact fun w' m' u h1 h2 h3 => hk _ a w' m' h1 h2 (hF.mono h2.le) ⟨u, rfl, h3⟩
            | dfr d =>
              simp only [afterOp] at h
              have hdf := hF.dfs
              cases hd : fr.d with
              | none => rw [hd] at h; simp at h
              | some ds =>
                rw [hd] at h hdf
                simp only [putD_eq] at h
                intro dd hdd
                refine execL_ok l _ σ _ w m h hI hG ⟨putTmps (a := { a with defers := dd :: a.defers }) hF.tmps undef_ok, ?_⟩ hk
                rw [put_defers]
                exact ⟨hdf.1, hdd, hdf.2⟩
end
end Go.VV

namespace Go.VV
open Go.RowKit

/-! ### a scope's labels -/
section
variable {P : Program} {b : Frame} {a : Act} {k : List Item} {cs : List Frame} {w : World}
theorem stepR_scope {c : Code} : step P (lone (b.atR a (.code (.scope c) :: k)) cs w) = .next (lone (b.atR a (.code c :: .inScope c :: k)) cs w) :=
  step_lone_go (by simp [stepG, stepG.exec, Frame.atR])
theorem stepR_inScope {c : Code} : step P (lone (b.atR a (.inScope c :: k)) cs w) = .next (lone (b.atR a k) cs w) :=
  step_lone_go (by simp [stepG, stepG.exec, Frame.atR])
end

def ScopeIn (F : Fence) (n : Nat) (P : Program) (body : Code) (Q : Exit → Act → World → Prop) : Nat → Code → Act → World → Prop
  | 0, _, _, _ => False
  | m + 1, c, a, w => c.wpIn F n P (fun e a w => match e with
    | .goto l => match findLabel body l with
      | some rest => ScopeIn F n P body Q m rest a w
      | none => Q (.goto l) a w
    | e => Q e a w) a w

theorem wpIn_scope {F : Fence} {n : Nat} {P : Program} {body : Code} {Q : Exit → Act → World → Prop} {a : Act} {w : World} (m : Nat) (h : ScopeIn F n P body Q m body a w) : (Code.scope body).wpIn F n P Q a w := by
  intro b k cs hro hb hr
  have key : ∀ m c a w, ScopeIn F n P body Q m c a w →
      ∃ e a' w', Q e a' w' ∧ ArrivesIn (Machine.fenced P F) P (lone (b.atR a (.code c :: .inScope body :: k)) cs w) b k cs e a' w' := by
    intro m
    induction m with
    | zero => intro c a w h; exact h.elim
    | succ m ih =>
      intro c a w h
      obtain ⟨e, a₁, w₁, hq, harr⟩ := h b (.inScope body :: k) cs hro hb hr
      cases e with
      | normal => exact ⟨.normal, a₁, w₁, hq, StepsIn.trans harr (.one (fenced_calm hb hr rfl) stepR_inScope)⟩
      | exit id => exact ⟨_, a₁, w₁, hq, fun k' hk => harr.1 k' (by simpa [exitTo] using hk), fun hro hk => harr.2 hro (by simpa [exitTo] using hk)⟩
      | goto l =>
        simp only at hq
        split at hq
        · rename_i rest hf
          obtain ⟨e₂, a₂, w₂, hq₂, harr₂⟩ := ih rest a₁ w₁ hq
          have hs := harr.1 (.code rest :: .inScope body :: k) (by simp [gotoIn, hf])
          exact ⟨e₂, a₂, w₂, hq₂, .of_steps hs harr₂⟩
        · rename_i hf
          exact ⟨_, a₁, w₁, hq, fun k' hk => harr.1 k' (by simpa [gotoIn, hf] using hk), fun hro hk => harr.2 hro (by simpa [gotoIn, hf] using hk)⟩
      | ret => exact ⟨_, a₁, w₁, hq, harr⟩
      | panic ch => exact ⟨_, a₁, w₁, hq, harr⟩
      | outgrown => exact ⟨_, a₁, w₁, hq, harr⟩
  obtain ⟨e, a', w', hq, harr⟩ := key m body a w h
  exact ⟨e, a', w', hq, .of_steps (.one (fenced_calm hb hr rfl) stepR_scope) harr⟩

/-! ### code -/
def ExecOk (P : Program) (E : Env) (exec : Code → Fr → S → Option (X × Fr × S)) : Prop :=
  ∀ c fr σ x fr' σ', exec c fr σ = some (x, fr', σ') → ∀ n r a w m Q, Inv w σ m → GlobOk E m.st → FrOk m r fr a → Comes' w σ m r x fr' σ' Q → c.wpIn (Fw r) n P Q a w
def LoopOk (P : Program) (E : Env) (exec : Code → Fr → S → Option (X × Fr × S)) : Prop :=
  ∀ c fr σ x fr' σ', exec (.loop c) fr σ = some (x, fr', σ') → ∃ k, ∀ n r a w m Q, Inv w σ m → GlobOk E m.st → FrOk m r fr a → Comes' w σ m r x fr' σ' Q → Code.roundsIn (Fw r) n P c Q k a w
def ScopeOk (P : Program) (E : Env) (scope : Code → Code → Fr → S → Option (X × Fr × S)) : Prop :=
  ∀ body c fr σ x fr' σ', scope body c fr σ = some (x, fr', σ') → ∃ k, ∀ n r a w m Q, Inv w σ m → GlobOk E m.st → FrOk m r fr a → Comes' w σ m r x fr' σ' Q → ScopeIn (Fw r) n P body Q k c a w
def RunOk (P : Program) (E : Env) (run : FuncId → List V → S → Option (Out × S)) : Prop :=
  ∀ g args σ out σ', run g args σ = some (out, σ') → ∀ w m (vargs : Array Value), Inv w σ m → GlobOk E m.st → EncT m args vargs.toList → ∀ R : Ending → World → Prop, (∀ e w', OutR w σ m σ' out e w' → R e w') →
    (callFunc g vargs).run P w = .ok (.enter g vargs) w ∧ ∀ n, CallsIn (Fw none) n P g vargs w R
def YldOk (P : Program) (E : Env) (yld : Nat → List V → S → Option (Out × S)) : Prop :=
  ∀ id args σ out σ', yld id args σ = some (out, σ') → ∀ w m (vargs : Array Value), Inv w σ m → GlobOk E m.st → EncT m args vargs.toList → m.live id → ∀ R : Ending → World → Prop, (∀ e w', OutR w σ m σ' out e w' → R e w') → YlOk P (m.loc id) vargs w R

/-- a region that draws -/
def DrawOk (P : Program) (pol : Pol) (call : CallF) : Prop :=
  ∀ id ops fr σ x fr' σ', execD pol call ops fr σ = some (x, fr', σ') → ∀ n r a w m Q, Inv w σ m → GlobOk pol.E m.st → FrOk m r fr a → Comes' w σ m r x fr' σ' Q → (Code.region id ops true).wpIn (Fw r) n P Q a w

theorem XOk_normal {m : Mem} {e : Exit} (h : XOk m .normal e) : e = .normal := by cases e <;> first | rfl | exact h.elim

section
variable {P : Program} {pol : Pol} (hE : EOk P pol.E) {fns : Fns} (hX : ExecOk P pol.E fns.exec) (hS : ScopeOk P pol.E fns.scope) (hL : LoopOk P pol.E fns.exec)
  (hC : CallOk P pol.E (callW pol fns.run fns.yld)) (hD : DrawOk P pol (callW pol fns.run fns.yld))
  (hRange : ∀ ps assign body fr σ g x fr' σ', rangeK fns ps assign body fr σ (pol.E.ev fr.t g) = some (x, fr', σ') → ∀ n r a w m Q, Inv w σ m → GlobOk pol.E m.st → FrOk m r fr a → Comes' w σ m r x fr' σ' Q → (Code.rangeFunc g ps assign body).wpIn (Fw r) n P Q a w)
include hE

/-- what follows the first of two -/
theorem then_ok {w : World} {σ : S} {m : Mem} {r : Option Nat} {x1 : X} {fr1 : Fr} {σ1 : S} {K : Act → World → Prop} {Q : Exit → Act → World → Prop}
    (hn : x1 = .normal → ∀ a' w' m', Inv w' σ1 m' → Ext w σ m w' σ1 m' → FrOk m' r fr1 a' → K a' w')
    (ho : x1 ≠ .normal → Comes' w σ m r x1 fr1 σ1 Q) : Comes' w σ m r x1 fr1 σ1 (Exit.then K Q) := by
  intro e a' w' m' h1 h2 h3 h4
  by_cases hx : x1 = .normal
  · subst hx
    have := XOk_normal h4
    subst this
    exact hn rfl a' w' m' h1 h2 h3
  · have := ho hx e a' w' m' h1 h2 h3 h4
    cases e with
    | normal => cases x1 <;> first | exact (hx rfl).elim | exact h4.elim
    | _ => all_goals exact this

include hX hL in
theorem stepLoop_ok : LoopOk P pol.E (stepExec pol fns) := by
  intro body fr σ x fr' σ' h
  unfold stepExec at h
  simp only at h
  cases h1 : fns.exec body fr σ with
  | none => rw [h1] at h; simp [seqK] at h
  | some p =>
    obtain ⟨x1, fr1, σ1⟩ := p
    rw [h1] at h
    by_cases hx : x1 = .normal
    · subst hx
      obtain ⟨k, hk⟩ := hL _ _ _ _ _ _ h
      refine ⟨k + 1, fun n r a w m Q hI hG hF hc => ?_⟩
      exact hX _ _ _ _ _ _ h1 n r a w m _ hI hG hF (then_ok hE (fun _ a' w' m' k1 k2 k3 => hk n r a' w' m' Q k1 (hG.mono k2.le.st) k3 (hc.later k2)) fun hne => (hne rfl).elim)
    · refine ⟨1, fun n r a w m Q hI hG hF hc => hX _ _ _ _ _ _ h1 n r a w m _ hI hG hF (then_ok hE (fun hh => (hx hh).elim) fun _ => ?_)⟩
      cases x1 with
      | normal => exact (hx rfl).elim
      | _ =>
        all_goals
          simp only [seqK, Option.some.injEq, Prod.mk.injEq] at h
          obtain ⟨rfl, rfl, rfl⟩ := h
          exact hc

include hX hS in
theorem stepScope_ok : ScopeOk P pol.E (stepScope fns) := by
  intro body c fr σ x fr' σ' h
  unfold stepScope at h
  cases h1 : fns.exec c fr σ with
  | none => rw [h1] at h; simp at h
  | some p =>
    obtain ⟨x1, fr1, σ1⟩ := p
    rw [h1] at h
    have plain : x1 = x ∧ fr1 = fr' ∧ σ1 = σ' → (∀ l, x1 = .goto l → findLabel body l = none) → ∃ k, ∀ n r a w m Q, Inv w σ m → GlobOk pol.E m.st → FrOk m r fr a → Comes' w σ m r x fr' σ' Q → ScopeIn (Fw r) n P body Q k c a w := by
      rintro ⟨rfl, rfl, rfl⟩ hg
      refine ⟨1, fun n r a w m Q hI hG hF hc => hX _ _ _ _ _ _ h1 n r a w m _ hI hG hF fun e a' w' m' k1 k2 k3 k4 => ?_⟩
      have := hc e a' w' m' k1 k2 k3 k4
      cases e with
      | goto l =>
        simp only
        have hx1 : x1 = .goto l := by
          cases x1 with
          | goto l' => have : l' = l := k4; rw [this]
          | _ => all_goals exact k4.elim
        rw [hg l hx1]
        exact this
      | _ => all_goals exact this
    cases x1 with
    | goto l =>
      simp only [scopeK] at h
      cases hf : findLabel body l with
      | none =>
        rw [hf] at h
        simp only [Option.some.injEq, Prod.mk.injEq] at h
        exact plain h fun l' hl => by cases hl; exact hf
      | some rest =>
        rw [hf] at h
        simp only at h
        obtain ⟨k, hk⟩ := hS _ _ _ _ _ _ _ h
        refine ⟨k + 1, fun n r a w m Q hI hG hF hc => hX _ _ _ _ _ _ h1 n r a w m _ hI hG hF fun e a' w' m' k1 k2 k3 k4 => ?_⟩
        cases e with
        | goto l' =>
          have : l = l' := k4
          subst this
          simp only [hf]
          exact hk n r a' w' m' Q k1 (hG.mono k2.le.st) k3 (hc.later k2)
        | _ => all_goals exact k4.elim
    | _ =>
      all_goals
        simp only [Option.some.injEq, Prod.mk.injEq] at h
        exact plain h fun l' hl => by cases hl

include hX hS hL hC hD hRange in
theorem stepExec_ok : ExecOk P pol.E (stepExec pol fns) := by
  intro c fr σ x fr' σ' h n r a w m Q hI hG hF hk
  unfold stepExec at h
  split at h
  · simp only [Option.some.injEq, Prod.mk.injEq] at h
    obtain ⟨rfl, rfl, rfl⟩ := h
    exact wpIn_skip (hk _ a w m hI (.refl _ _ _) hF trivial)
  · simp only [Option.some.injEq, Prod.mk.injEq] at h
    obtain ⟨rfl, rfl, rfl⟩ := h
    exact wpIn_label (hk _ a w m hI (.refl _ _ _) hF trivial)
  · rename_i id ops draw
    cases draw with
    | false => exact wpIn_region_list (execL_ok hE hC _ _ _ _ _ _ h hI hG hF hk)
    | true => exact hD id ops fr σ x fr' σ' h n r a w m Q hI hG hF hk
  · rename_i c1 c2
    refine wpIn_seq ?_
    cases h1 : fns.exec c1 fr σ with
    | none => rw [h1] at h; simp [seqK] at h
    | some p =>
      obtain ⟨x1, fr1, σ1⟩ := p
      rw [h1] at h
      refine hX _ _ _ _ _ _ h1 n r a w m _ hI hG hF (then_ok hE (fun hx a' w' m' k1 k2 k3 => ?_) fun hx => ?_)
      · subst hx
        exact hX _ _ _ _ _ _ h n r a' w' m' Q k1 (hG.mono k2.le.st) k3 (hk.later k2)
      · cases x1 with
        | normal => exact (hx rfl).elim
        | _ =>
          all_goals
            simp only [seqK, Option.some.injEq, Prod.mk.injEq] at h
            obtain ⟨rfl, rfl, rfl⟩ := h
            exact hk
  · rename_i g c1 c2
    have ev := ev_ok (a := a) hG hF.tmps g
    unfold condK at h
    split at h
    · rename_i hc
      rw [hc] at ev
      exact wpIn_cond_true (bool_of ev) (hX _ _ _ _ _ _ h n r a w m Q hI hG hF hk)
    · rename_i hc
      rw [hc] at ev
      exact wpIn_cond_false (bool_of ev) (hX _ _ _ _ _ _ h n r a w m Q hI hG hF hk)
    · cases h
  · rename_i id body
    refine wpIn_block ?_
    cases h1 : fns.exec body fr σ with
    | none => rw [h1] at h; simp [blockK] at h
    | some p =>
      obtain ⟨x1, fr1, σ1⟩ := p
      rw [h1] at h
      refine hX _ _ _ _ _ _ h1 n r a w m _ hI hG hF fun e a' w' m' k1 k2 k3 k4 => ?_
      cases x1 with
      | exit id' =>
        simp only [blockK, Option.some.injEq, Prod.mk.injEq] at h
        obtain ⟨rfl, rfl, rfl⟩ := h
        cases e with
        | exit j =>
          have : id' = j := k4
          subst this
          simp only [Exit.inBlock]
          split
          · rename_i hid; exact hk _ _ _ _ k1 k2 k3 (by rw [if_pos hid]; trivial)
          · rename_i hid; exact hk _ _ _ _ k1 k2 k3 (by rw [if_neg hid]; rfl)
        | _ => all_goals exact k4.elim
      | _ =>
        all_goals
          simp only [blockK, Option.some.injEq, Prod.mk.injEq] at h
          obtain ⟨rfl, rfl, rfl⟩ := h
          have := hk _ _ _ _ k1 k2 k3 k4
          cases e <;> first | exact this | exact k4.elim
  · rename_i body
    obtain ⟨k, hk'⟩ := stepLoop_ok hE hX hL body fr σ x fr' σ' (by unfold stepExec; exact h)
    exact wpIn_loop_rounds k (hk' n r a w m Q hI hG hF hk)
  · rename_i body
    obtain ⟨k, hk'⟩ := hS _ _ _ _ _ _ _ h
    exact wpIn_scope k (hk' n r a w m Q hI hG hF hk)
  · simp only [Option.some.injEq, Prod.mk.injEq] at h
    obtain ⟨rfl, rfl, rfl⟩ := h
    exact wpIn_exit (hk _ a w m hI (.refl _ _ _) hF rfl)
  · simp only [Option.some.injEq, Prod.mk.injEq] at h
    obtain ⟨rfl, rfl, rfl⟩ := h
    exact wpIn_goto (hk _ a w m hI (.refl _ _ _) hF rfl)
  · simp only [Option.some.injEq, Prod.mk.injEq] at h
    obtain ⟨rfl, rfl, rfl⟩ := h
    exact wpIn_ret (hk _ a w m hI (.refl _ _ _) hF trivial)
  · exact hRange _ _ _ _ _ _ _ _ _ h n r a w m Q hI hG hF hk
  · cases h
end
end Go.VV
