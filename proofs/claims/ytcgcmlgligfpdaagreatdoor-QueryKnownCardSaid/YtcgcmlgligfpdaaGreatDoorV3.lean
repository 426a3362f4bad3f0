/- An interpreter of the model's code on abstract values, and the proof that what it comes to is what the model comes to (part 4 of 4: DrawE Top). No condition of its own: each theorem states its own. -/
import Derived.Test.YtcgcmlgligfpdaaGreatDoorV2
import Derived.Lib.Bytealg
import Derived.Laws.StructEq
set_option linter.unusedSectionVars false
set_option linter.unusedVariables false
set_option linter.unusedSimpArgs false
set_option linter.unnecessarySimpa false
namespace Go.VV
open Go.RowKit

section
variable {run : FuncId → List V → S → Option (Out × S)} {yl : Nat → List V → S → Option (Out × S)} {pol : Pol} {ops : Array Oper}
  {zs : List (Oper × Rec)} {ρ0 : List V} {σ0 : S} {ρ1 : List V} {σ1 : S} {w0 : World} {m0 : Mem} {a0 : Act}
  {P : Program} (hE : EOk P pol.E) (hC : CallOk P pol.E (callW pol run yl)) (hch : Chain pol (callW pol run yl) ops.toList zs ρ0 σ0 ρ1 σ1)
  (hops : ∀ (k : Nat) (o : Oper) (r : Rec), zs[k]? = some (o, r) → ops.toList[k]? = some o) (hslots : slotsOk ops.toList = true) (hord : drawGo pol ops.toList σ0.length zs zs (masks ops.toList) 0 = true)

/-- the set of those listed -/
def DL (listed : Array Bool) (i : Nat) : Prop := listed.getD i false = true

theorem DL_set {listed : Array Bool} {k : Nat} (hk : k < listed.size) (i : Nat) : DL (listed.setIfInBounds k true) i ↔ (i = k ∨ DL listed i) := by
  unfold DL
  by_cases h : k = i
  · subst h; simp [hk]
  · rw [getD_set_ne false h]
    exact ⟨.inr, fun hh => hh.resolve_left fun e => h e.symm⟩

theorem DL_false {listed : Array Bool} {k : Nat} (h : listed.getD k true = false) : k < listed.size ∧ ¬ DL listed k ∧ listed.toList[k]? = some false := by
  have hlt : k < listed.size := by
    rcases Nat.lt_or_ge k listed.size with h' | h'
    · exact h'
    · simp [Array.getElem?_eq_none h'] at h
  unfold DL
  simp [hlt] at h ⊢
  exact h

theorem count_dec {l : List Bool} : ∀ {k : Nat}, l[k]? = some false → (l.set k true).count false + 1 = l.count false := by
  induction l with
  | nil => intro k h; simp at h
  | cons x l ih =>
    intro k h
    cases k with
    | zero =>
      simp at h; subst h
      simp
    | succ k =>
      have := ih (k := k) (by simpa using h)
      simp only [List.set_cons_succ, List.count_cons]
      omega

include hE hC hch hops hslots hord
theorem any_ok {rnd : Option Nat} {n : Nat} {Q : Exit → Act → World → Prop} (hG0 : GlobOk pol.E m0.st)
    (hdone : ∀ D a w m, (∀ i, i < ops.size → D i) → DInv zs ρ0 σ0 w0 m0 a0 D a w m → Q .normal a w)
    (hlast : ∀ D a w m k, k < ops.size → zs[k]? = none → ¬ D k → (∀ j i, D j → (nthN (masks ops.toList) j).testBit i = true → D i) → (∀ i, (nthN (masks ops.toList) k).testBit i = true → D i) → DInv zs ρ0 σ0 w0 m0 a0 D a w m → ∀ K, wpOpIn (Fw rnd) n P ops Q k K a w) :
    ∀ (fuel : Nat) (listed : Array Bool) (a : Act) (w : World) (m : Mem), listed.size = ops.size → listed.toList.count false ≤ fuel → Closed ops.toList (DL listed) → DInv zs ρ0 σ0 w0 m0 a0 (DL listed) a w m → wpAnyIn (Fw rnd) n P .any ops Q fuel listed a w := by
  intro fuel
  -- nothing is ready: all are listed
  have all_of : ∀ (listed : Array Bool), listed.size = ops.size → Region.ready .any ops listed = [] → ∀ i, i < ops.size → DL listed i := by
    intro listed hsz hr i
    induction i using Nat.strongRecOn with
    | _ i ih =>
      intro hi
      by_cases hd : DL listed i
      · exact hd
      · exfalso
        have hmem : i ∈ Region.ready .any ops listed := by
          refine mem_ready.2 ⟨?_, ops[i], by simp [hi], fun e he hb => ?_⟩
          · unfold DL at hd
            simp [hsz, hi] at hd ⊢
            exact hd
          · have hio : ops.toList[i]? = some ops[i] := by simp [hi]
            have hbit := mask_edge hio (by simpa using he) hb
            have hlt := mask_lt hslots hio hbit
            exact ih e.on hlt (by omega)
        rw [hr] at hmem; cases hmem
  induction fuel with
  | zero =>
    intro listed a w m hsz hcnt hcl hD
    have hr : Region.ready .any ops listed = [] := by
      cases hre : Region.ready .any ops listed with
      | nil => rfl
      | cons j l =>
        exfalso
        have hj : j ∈ Region.ready .any ops listed := by rw [hre]; simp
        obtain ⟨h0, _⟩ := mem_ready.1 hj
        obtain ⟨_, _, h1⟩ := DL_false h0
        have := List.count_pos_iff.2 (List.mem_of_getElem? h1)
        omega
    exact ⟨hr, hdone _ a w m (all_of listed hsz hr) hD⟩
  | succ fuel ih =>
    intro listed a w m hsz hcnt hcl hD
    refine ⟨fun hr => hdone _ a w m (all_of listed hsz hr) hD, fun k hk => ?_⟩
    obtain ⟨h0, o, ho, hall⟩ := mem_ready.1 hk
    obtain ⟨hlt, hnd, hfalse⟩ := DL_false h0
    have hmask : ∀ j i, DL listed j → (nthN (masks ops.toList) j).testBit i = true → DL listed i := fun j i hj hb => masks_bit hcl hj hb
    have hko : ops.toList[k]? = some o := by simpa using ho
    have hcl' : Closed ops.toList (DL (listed.setIfInBounds k true)) := by
      intro j oj hj hd e he hb
      rcases (DL_set hlt j).1 hd with rfl | hd
      · rw [hko] at hj
        simp only [Option.some.injEq] at hj; subst hj
        exact (DL_set hlt _).2 (.inr (hall e (by simpa using he) hb))
      · exact (DL_set hlt _).2 (.inr (hcl j oj hj hd e he hb))
    have hr : ∀ i, (nthN (masks ops.toList) k).testBit i = true → DL listed i := fun i hb => by
      have h1 := masks_bit hcl' ((DL_set hlt k).2 (.inl rfl)) hb
      exact ((DL_set hlt i).1 h1).resolve_left fun h => by
        have := mask_lt hslots hko hb; omega
    cases hz : zs[k]? with
    | none => exact hlast _ a w m k (by omega) hz hnd hmask hr hD _
    | some p =>
      obtain ⟨o', r⟩ := p
      refine step_ok hE hC hch hops hslots hord hmask hD (hG0.mono hD.ext.le.st) hz hnd hr fun a' w' m' hD' _ => ?_
      have heq : (fun i => i = k ∨ DL listed i) = DL (listed.setIfInBounds k true) := funext fun i => propext (DL_set hlt i).symm
      rw [heq] at hD'
      refine ih _ a' w' m' (by simpa using hsz) ?_ hcl' hD'
      have := count_dec hfalse
      rw [Array.toList_setIfInBounds]
      omega
end

theorem allBehind_ok {q : Nat} : ∀ {l : List Nat} {j : Nat}, allBehind q l j = true → ∀ k, k < l.length → q < j + k → (nthN l k).testBit q = true
  | [], _, _, k, hk, _ => by simp at hk
  | x :: l, j, h, k, hk, hq => by
    unfold allBehind at h
    simp only [Bool.and_eq_true] at h
    cases k with
    | zero =>
      have h1 := h.1
      rw [if_pos (by simpa using hq)] at h1
      simpa [nthN] using h1
    | succ k => exact allBehind_ok h.2 k (by simpa using hk) (by omega)
theorem panBehind_ok {mask : Nat} : ∀ {l : List Rec} {i : Nat}, panBehind mask l i = true → ∀ k r, l[k]? = some r → (isE r.c || isA r.c) = true → mask.testBit (i + k) = true
  | [], _, _, k, _, hk, _ => by simp at hk
  | x :: l, i, h, k, r, hk, hc => by
    unfold panBehind at h
    simp only [Bool.and_eq_true] at h
    cases k with
    | zero =>
      simp at hk; subst hk
      have h1 := h.1
      cases hx : x.c <;> rw [hx] at h1 hc <;> simp [isE, isA] at hc <;> simpa using h1
    | succ k =>
      have := panBehind_ok h.2 k r (by simpa using hk) hc
      rwa [show i + 1 + k = i + (k + 1) by omega] at this
theorem masksGo_length : ∀ {l : List Oper} {acc : List Nat}, (masksGo l acc).length = acc.length + l.length
  | [], _ => rfl
  | o :: l, acc => by unfold masksGo; rw [masksGo_length]; simp; omega

section
variable {P : Program} {pol : Pol} {run : FuncId → List V → S → Option (Out × S)} {yl : Nat → List V → S → Option (Out × S)} (hE : EOk P pol.E) (hmix : P.follows .mixedOrders = true) (hC : CallOk P pol.E (callW pol run yl))
include hE hmix hC

theorem draw_ok : DrawOk P pol (callW pol run yl) := by
  intro id ops fr σ x fr' σ' h n r a w m Q hI hG hF hk
  unfold execD at h
  cases hrec : recsT pol (callW pol run yl) ops.toList ops.toList fr σ with
  | none => rw [hrec] at h; simp [finD] at h
  | some p =>
    obtain ⟨rs, fin⟩ := p
    rw [hrec] at h
    have hok := recsT_ok hrec
    refine wpIn_region_any hmix ?_
    have hops : ∀ (k : Nat) (o : Oper) (r : Rec), (ops.toList.zip rs)[k]? = some (o, r) → ops.toList[k]? = some o := fun k o r hk => (List.getElem?_zip_eq_some.1 hk).1
    have hD0 : ∀ i, ¬ DL (Array.replicate ops.size false) i := fun i => by
      unfold DL
      by_cases hi : i < ops.size <;> simp [hi]
    have hI' := hI.drew
    -- at the start
    have start : ∀ {ρ1 : List V} {σ1 : S}, Chain pol (callW pol run yl) ops.toList (ops.toList.zip rs) fr.t σ ρ1 σ1 → DInv (ops.toList.zip rs) fr.t σ w.drew m a (DL (Array.replicate ops.size false)) a w.drew m := fun {ρ1 σ1} hch => by
      obtain ⟨q, hq⟩ := stD_dead (D := DL (Array.replicate ops.size false)) (ops.toList.zip rs) 0 (fun k o r _ _ => hD0 _) (fun k o r _ _ => hD0 _)
      refine ⟨by rw [hq]; exact hI'.rooms, by rw [hq]; exact (Ext.refl _ _ _).rooms, by rw [rhoD_none fun j => hD0 _]; exact hF.tmps, rfl, fun k o r hk ha _ hall => ?_, fun i hi => (hD0 i hi).elim⟩
      obtain ⟨z1, z2, hz, hlen⟩ := split_at hk
      subst hlen
      obtain ⟨hc1, _, _⟩ := Chain.cut (hz ▸ hch)
      have := chain_grow (run := run) (yl := yl) (fun i o2 r2 hi => by
        cases he : isE r2.c with
        | false => rfl
        | true => exact (hD0 i (hall i o2 r2 (lt_of_some hi) (by rw [hz]; exact get_left hi) he)).elim) hc1
      exact ⟨fun hl => by have := hI'.size _ hl; omega, this⟩
    have hcl0 : Closed ops.toList (DL (Array.replicate ops.size false)) := fun j o _ hd => (hD0 j hd).elim
    have hcnt : (Array.replicate ops.size false).toList.count false ≤ ops.size := by
      rw [Array.toList_replicate, List.count_replicate_self]; exact Nat.le_refl _
    have defs : ∀ {a' : Act}, a'.defers = a.defers → ∀ {m' : Mem}, m.Le m' → (match fr.d with
        | some ds => r = none ∧ DfsOk m' ds a'.defers
        | none => a'.defers = []) := fun {a'} he {m'} hle => by
      have := hF.dfs
      rw [he]
      cases hd : fr.d with
      | none => rw [hd] at this; exact this
      | some ds => rw [hd] at this; exact ⟨this.1, this.2.mono hle⟩
    cases fin with
    | done fr1 σ1 =>
      obtain ⟨hlen, hfd, hch⟩ := hok
      simp only [finD] at h
      split at h
      · rename_i hchk
        simp only [Bool.and_eq_true] at hchk
        simp only [Option.some.injEq, Prod.mk.injEq] at h
        obtain ⟨rfl, rfl, rfl⟩ := h
        have hzl : (ops.toList.zip rs).length = ops.size := by rw [List.length_zip, hlen]; simp
        refine any_ok hE hC hch hops hchk.1 hchk.2 hG (fun D a' w' m' hall hD => ?_) (fun D a' w' m' k hk' hz => ?_) ops.size _ a _ m (by simp) hcnt hcl0 (start hch)
        · have hA : ∀ i, i < (ops.toList.zip rs).length → D (0 + i) := fun i hi => by rw [Nat.zero_add]; exact hall i (by omega)
          have hs : stD D (ops.toList.zip rs) 0 σ = σ1 := stD_full (run := run) (yl := yl) (fun k o r hk _ => hA k (lt_of_some hk)) (fun k o r hk _ => hA k (lt_of_some hk)) hch
          have hinv := hD.inv
          have hext := hD.ext
          rw [hs] at hinv hext
          refine hk .normal a' w' m' hinv hext.of_drew ⟨EncT_of_nth ?_ fun i => ?_, ?_⟩ trivial
          · rw [← EncT_length hD.tmps, rhoD_length]
            have gen : ∀ {z : List (Oper × Rec)} {ρ : List V} {σ : S} {ρ1 : List V} {σ1 : S}, Chain pol (callW pol run yl) ops.toList z ρ σ ρ1 σ1 → ρ1.length = ρ.length := by
              intro z
              induction z with
              | nil => rintro ρ σ ρ1 σ1 ⟨rfl, _⟩; rfl
              | cons y z ih =>
                obtain ⟨o, r⟩ := y
                rintro ρ σ ρ1 σ1 ⟨h1, _, _, h4⟩
                rw [ih h4, putV_length, h1]
            exact gen hch
          · have := EncT_nth i hD.tmps
            rwa [rho_chain hch rfl rfl fun k o r hk _ => hA k (lt_of_some hk)] at this
          · rw [hfd]; exact defs hD.dfs hext.le
        · rw [List.getElem?_eq_none_iff] at hz; omega
      · cases h
    | pan v fr1 σ2 =>
      obtain ⟨o, σ1, ho, hfd, hch, hw, hop⟩ := hok
      simp only [finD] at h
      split at h
      · rename_i hchk
        simp only [Bool.and_eq_true] at hchk
        simp only [Option.some.injEq, Prod.mk.injEq] at h
        obtain ⟨rfl, rfl, rfl⟩ := h
        obtain ⟨⟨⟨hs, hd⟩, hab⟩, hpb⟩ := hchk
        have hrl : rs.length < ops.size := by have := lt_of_some ho; simpa using this
        have hzl : (ops.toList.zip rs).length = rs.length := by rw [List.length_zip]; simp; omega
        refine any_ok hE hC hch hops hs hd hG (fun D a' w' m' hall hD => ?_) (fun D a' w' m' k hk' hz hnd hcl hr hD K => ?_) ops.size _ a _ m (by simp) hcnt hcl0 (start hch)
        · have := hD.mem _ (hall rs.length hrl); omega
        · -- it is the one that panics
          have hke : k = rs.length := by
            rw [List.getElem?_eq_none_iff] at hz
            rcases Nat.lt_or_ge rs.length k with hlt | hge
            · exfalso
              have := allBehind_ok hab k (by rw [masks, masksGo_length]; simp; omega) (by omega)
              have := hD.mem _ (hr _ this)
              omega
            · omega
          subst hke
          have hreads := reads_at (z1 := ops.toList.zip rs) (z2 := []) (by simp) (by rw [hzl]; exact ho) hch hops hs hcl (by rw [hzl]; exact hnd) (by rw [hzl]; exact hr)
          have hev := ev_congr (E := pol.E) hreads
          have hwv := wantV_congr hreads
          have turned : ∀ k' o' r', (ops.toList.zip rs)[k']? = some (o', r') → (isE r'.c || isA r'.c) = true → D (0 + k') := fun k' o' r' hk2 hc => by
            have := panBehind_ok hpb k' r' (List.getElem?_zip_eq_some.1 hk2).2 hc
            exact hr _ this
          have hs2 : stD D (ops.toList.zip rs) 0 σ = σ1 := stD_full (run := run) (yl := yl) (fun k o r hk he => turned k o r hk (by simp [he])) (fun k o r hk he => turned k o r hk (by simp [he])) hch
          have hinv := hD.inv
          have hext := hD.ext
          rw [hs2] at hinv hext
          have hko : ops[rs.length]? = some o := by simpa using ho
          unfold wpOpIn
          rw [hko]
          simp only
          rw [wanted_ok hD.tmps (hwv.trans hw)]
          simp only [if_true]
          have hop' : opV pol.E (callW pol run yl) (rhoD D (ops.toList.zip rs) 0 fr.t) σ1 o = some (.pan v σ2) := (opK_congr hev).trans hop
          refine op_ok hE hinv (hG.mono hext.le.st) hD.tmps hC hop' (.inr fun d => by simp) fun w2 m2 u h1 h2 h3 => ?_
          refine hk _ a' w2 m2 h1 (hext.trans h2).of_drew ⟨EncT_of_nth ?_ fun i => ?_, ?_⟩ ⟨u, rfl, h3⟩
          · rw [← EncT_length hD.tmps, rhoD_length, forget_length]
            have gen : ∀ {z : List (Oper × Rec)} {ρ : List V} {σ : S} {ρ1 : List V} {σ1 : S}, Chain pol (callW pol run yl) ops.toList z ρ σ ρ1 σ1 → ρ1.length = ρ.length := by
              intro z
              induction z with
              | nil => rintro ρ σ ρ1 σ1 ⟨rfl, _⟩; rfl
              | cons y z ih =>
                obtain ⟨o, r⟩ := y
                rintro ρ σ ρ1 σ1 ⟨h1, _, _, h4⟩
                rw [ih h4, putV_length, h1]
            exact gen hch
          · by_cases hwr : ∃ o' ∈ ops.toList, o'.dst = some i
            · simp only
              rw [forget_at (.inr hwr)]
              simp [Enc, EncA, EncC, E1, EP]
            · have hno : ∀ o' ∈ ops.toList, o'.dst ≠ some i := fun o' ho' hd' => hwr ⟨o', ho', hd'⟩
              have hmem : ∀ (k' : Nat) (o' : Oper) (r' : Rec), (ops.toList.zip rs)[k']? = some (o', r') → o'.dst ≠ some i := fun k' o' r' hk2 => hno o' (List.mem_of_getElem? (hops k' o' r' hk2))
              simp only
              rw [forget_keep hno]
              have e1 : nthD (rhoD D (ops.toList.zip rs) 0 fr.t) i = nthD fr.t i := rhoD_keep fun k' o' r' hk2 _ => hmem k' o' r' hk2
              have e2 : nthD (rhoD D (ops.toList.zip rs) 0 fr.t) i = nthD fr1.t i := rho_chain hch rfl rfl fun k' o' r' hk2 hd' => (hmem k' o' r' hk2 hd').elim
              have := EncT_nth i (hD.tmps.mono h2.le)
              rwa [e2] at this
          · show match fr1.d with
              | some ds => r = none ∧ DfsOk m2 ds a'.defers
              | none => a'.defers = []
            rw [hfd]; exact defs hD.dfs (hext.le.trans h2.le)
      · cases h
end
end Go.VV

namespace Go.VV
open Go.RowKit

/-! ### tables -/
def Tr.pairs {α : Type} : Tr α → List (Nat × α)
  | .leaf => []
  | .node l v r => (0, v) :: (l.pairs.map (fun p => (2 * p.1 + 1, p.2)) ++ r.pairs.map (fun p => (2 * p.1 + 2, p.2)))

theorem Tr.get_pairs {α : Type} : ∀ {n : Nat} {t : Tr α} {i : Nat} {v : α}, Tr.get n t i = some v → (i, v) ∈ t.pairs
  | 0, _, _, _, h => by simp [Tr.get] at h
  | _ + 1, .leaf, _, _, h => by simp [Tr.get] at h
  | n + 1, .node l x r, i, v, h => by
    unfold Tr.get at h
    unfold Tr.pairs
    split at h
    · rename_i hi
      simp only [Option.some.injEq] at h
      subst hi; subst h
      simp
    · split at h
      · rename_i hi
        refine List.mem_cons_of_mem _ (List.mem_append_left _ (List.mem_map.2 ⟨_, Tr.get_pairs h, ?_⟩))
        simp only [Prod.mk.injEq, and_true]; omega
      · refine List.mem_cons_of_mem _ (List.mem_append_right _ (List.mem_map.2 ⟨_, Tr.get_pairs h, ?_⟩))
        simp only [Prod.mk.injEq, and_true]; omega

theorem tabOk_of {P : Program} {T : Tab} (ht : T.ty.pairs.map (fun p => P.info? p.1) = T.ty.pairs.map (fun p => some p.2)) (hf : T.fn.pairs.map (fun p => P.funcs[p.1]?) = T.fn.pairs.map (fun p => some p.2)) : TabOk P T where
  ty := fun t i h => (List.map_inj_left.1 ht) (t, i) (Tr.get_pairs h)
  fn := fun t i h => (List.map_inj_left.1 hf) (t, i) (Tr.get_pairs h)

theorem eOk_of {P : Program} {E : Env} (hT : TabOk P E.P) (hF : FlatOk P E.P) (hn : E.P.fn.pairs.all (fun p => !(p.2.name == "runtime.NumGoroutine")) = true) : EOk P E where
  tab := hT
  flat := hF
  names := fun f fn h => by
    have := (List.all_eq_true.1 hn) (f, fn) (Tr.get_pairs h)
    simpa using this

def flatF (P : Program) : Nat → List Field → Bool
  | _, [] => true
  | i, f :: fs => f.name != "_" && Nat.beq f.offset i && (match P.underlying f.type with | some (.int _) => true | _ => false) && flatF P (i + 1) fs
/-- a struct of plain cells, each seen by '==' -/
def flatT (P : Program) (t : TypeId) : Bool := match P.underlying t with
  | some (.struct fs) => !P.stoodInHeld t && !P.eqGuardType P.depth t && flatF P 0 fs.toList
  | _ => false

theorem fields_run {P : Program} {m : Mem} {d : Nat} {w : World} : ∀ {fs : List Field} {i : Nat} {a b : List V} {r : Bool} {x y : List Value} {xs ys : Array Value}, flatF P i fs = true → a.length = fs.length → primsEq a b = some r → EncCs m a x → EncCs m b y →
    (∀ j, xs[i + j]? = x[j]?) → (∀ j, ys[i + j]? = y[j]?) → (Op.eqFields (d + 1) xs ys fs).run P w = .ok r w
  | [], i, a, b, r, x, y, xs, ys, _, hl, hp, _, _, _, _ => by
    have : a = [] := List.eq_nil_of_length_eq_zero hl
    subst this
    cases b with
    | nil => simp only [primsEq, Option.some.injEq] at hp; subst hp; rfl
    | cons _ _ => simp [primsEq] at hp
  | f :: fs, i, [], b, r, x, y, xs, ys, _, hl, _, _, _, _, _ => by simp at hl
  | f :: fs, i, p :: a, [], r, x, y, xs, ys, _, _, hp, _, _, _, _ => by simp [primsEq] at hp
  | f :: fs, i, p :: a, q :: b, r, [], y, xs, ys, _, _, _, hx, _, _, _ => hx.elim
  | f :: fs, i, p :: a, q :: b, r, u :: x, [], xs, ys, _, _, _, _, hy, _, _ => hy.elim
  | f :: fs, i, p :: a, q :: b, r, u :: x, v :: y, xs, ys, hf, hl, hp, hx, hy, hxs, hys => by
    unfold flatF at hf
    simp only [Bool.and_eq_true] at hf
    obtain ⟨⟨⟨hn, ho⟩, ht⟩, hf'⟩ := hf
    have ho' : f.offset = i := Nat.eq_of_beq_eq_true ho
    have hn' : f.name ≠ "_" := by simpa using hn
    unfold primsEq at hp
    split at hp
    · rename_i r1 r2 h1 h2
      simp only [Option.some.injEq] at hp
      have ih := fields_run (P := P) (d := d) (w := w) hf' (by simpa using hl) h2 hx.2 hy.2 (xs := xs) (ys := ys) (fun j => by have := hxs (j + 1); rw [show i + (j + 1) = i + 1 + j by omega] at this; simpa using this) (fun j => by have := hys (j + 1); rw [show i + (j + 1) = i + 1 + j by omega] at this; simpa using this)
      have hu := hxs 0
      have hv := hys 0
      simp only [Nat.add_zero, List.getElem?_cons_zero] at hu hv
      have hagg : (isAgg f.type).run P w = .ok false w := by
        simp only [isAgg, Sem.run_bind]
        cases hund : P.underlying f.type with
        | none => rw [hund] at ht; simp at ht
        | some dd =>
          rw [hund] at ht
          simp only [underlying, Sem.run_bind, run_program, Result.andThen_ok, hund]
          cases dd <;> simp at ht <;> rfl
      have hpart : ∀ {cs : Array Value} {c : Value}, cs[f.offset]? = some c → (part f.type cs f.offset).run P w = .ok c w := fun {cs c} hc => by
        simp [part, Sem.run_bind, hagg, hc]
      have heq : (Op.equalIn (d + 1) f.type u v).run P w = .ok r1 w := by
        have hxc := hx.1.1
        have hyc := hy.1.1
        unfold primEq at h1
        split at h1
        · rename_i k x1 k' x2
          simp only [EncC, E1, EP] at hxc hyc; subst hxc; subst hyc
          split at h1
          · rename_i hk; subst hk
            simp only [Option.some.injEq] at h1; subst h1
            cases hund : P.underlying f.type with
            | none => rw [hund] at ht; simp at ht
            | some dd =>
              rw [hund] at ht
              cases dd <;> simp at ht
              exact run_equalIn_int w d f.type _ _ _ _ hund
          · cases h1
        · cases h1
      unfold Op.eqFields
      rw [if_pos hn']
      simp only [Sem.run_bind, hpart (ho' ▸ hu), hpart (ho' ▸ hv), Result.andThen_ok, heq]
      cases r1 with
      | true => simp only [Bool.not_true, Bool.false_eq_true, if_false]; rw [ih]; simp at hp; rw [hp]
      | false => simp only [Bool.not_false, if_true]; simp at hp; rw [← hp]; rfl
    · cases hp

theorem flatOk_of {P : Program} {T : Tab} (hT : TabOk P T) (h : ∀ t, T.flat t = true → flatT P t = true) : FlatOk P T := by
  intro t fs ht hu a b r hl hp m x y w hx hy
  have h1 := h t ht
  unfold flatT at h1
  have hund := hT.und hu
  rw [hund] at h1
  simp only [Bool.and_eq_true, Bool.not_eq_true'] at h1
  obtain ⟨⟨h1, h2⟩, h3⟩ := h1
  have hfo : P.fieldsOf t = fs := by unfold Program.fieldsOf; rw [hund]
  refine ⟨run_eqGuard_agg w _ _ _ _ _ _ h2, ?_⟩
  show (Op.equalIn (9999 + 1) t _ _).run P w = _
  rw [run_equalIn_struct w 9999 t _ _ (by rw [hfo]; exact hund) h1, hfo]
  exact fields_run (d := 9998) h3 hl hp hx hy (fun j => by simp) (fun j => by simp)

/-! ### answers that were shown before -/
def intrL : List (FuncId × List V × V) → FuncId → List V → Option V
  | [], _, _ => none
  | (g, a, v) :: l, f, args => match Nat.beq f g with
    | true => match beqL a args with
      | true => some v
      | false => intrL l f args
    | false => intrL l f args

def FactsOk (P : Program) (E : Env) (l : List (FuncId × List V × V)) : Prop := ∀ x ∈ l, PureOk P E x.1 x.2.1 (.ret x.2.2)

theorem intrL_ok {P : Program} {E : Env} : ∀ {l : List (FuncId × List V × V)}, FactsOk P E l → ∀ f args v, intrL l f args = some v → PureOk P E f args (.ret v)
  | [], _, _, _, _, h => by cases h
  | (g, a, u) :: l, hl, f, args, v, h => by
    have ih := intrL_ok (l := l) fun x hx => hl x (by simp [hx])
    unfold intrL at h
    split at h
    · rename_i hf
      have hf' : f = g := Nat.eq_of_beq_eq_true hf
      subst hf'
      split at h
      · rename_i ha
        have := beqL_eq _ _ ha
        subst this
        simp only [Option.some.injEq] at h; subst h
        exact hl (f, a, u) (by simp)
      · exact ih _ _ _ h
    · exact ih _ _ _ h

/-- a function's answer, on a store of its own -/
def answer (pol : Pol) (n : Nat) (f : FuncId) (args : List V) : Option V :=
  match run pol n f args [] with
  | some (.ret v, σ') => match freezeT σ' v with
    | some u => if pureT u then some (erT u) else none
    | none => none
  | _ => none

def Pol.withF (pol : Pol) (l : List (FuncId × List V × V)) : Pol := { pol with intr := intrL l }

section
variable {P : Program} {pol : Pol} (hE : EOk P pol.E) (hmix : P.follows .mixedOrders = true) (hP : PrimsOk P pol)
include hE hmix hP

theorem PrimsOk.withF {l : List (FuncId × List V × V)} : PrimsOk P (pol.withF l) := hP

theorem run_ok {l : List (FuncId × List V × V)} (hl : FactsOk P pol.E l) (n : Nat) : FnsOk P (pol.withF l) (fns (pol.withF l) n) :=
  fns_ok (pol := pol.withF l) hE hP (intrL_ok hl) (fun run yl hC => draw_ok (pol := pol.withF l) hE hmix hC) n

theorem answer_ok {l : List (FuncId × List V × V)} (hl : FactsOk P pol.E l) {n : Nat} {f : FuncId} {args : List V} {v : V} (h : answer (pol.withF l) n f args = some v) : PureOk P pol.E f args (.ret v) := by
  unfold answer at h
  split at h
  · rename_i v' σ' hrun
    split at h
    · rename_i u hu
      split at h
      · rename_i hp
        simp only [Option.some.injEq] at h; subst h
        exact fun w σ m vargs hI hG ha R hR => pure_run (pol := pol.withF l) (run_ok hE hmix hP hl n).run hrun (.inl ⟨v', u, rfl, hu, hp, rfl⟩) hI hG ha hR
      · cases h
    · cases h
  · cases h

theorem facts_nil : FactsOk P pol.E [] := fun x hx => by cases hx
theorem facts_cons {l : List (FuncId × List V × V)} (hl : FactsOk P pol.E l) {n : Nat} {f : FuncId} {args : List V} {v : V} (h : answer (pol.withF l) n f args = some v) : FactsOk P pol.E ((f, args, v) :: l) := fun x hx => by
  rcases List.mem_cons.1 hx with rfl | hx
  · exact answer_ok hE hmix hP hl h
  · exact hl x hx
end

/-- all that lies in the world stays -/
def memAll (w : World) : Mem := ⟨fun g j => w.cell? ⟨g, j, none⟩, fun _ => False, fun _ => 0, fun _ => ⟨none, 0, 0, []⟩⟩

/-- a law without arguments: it tells true, and what was there stays -/
theorem law_of {P : Program} {E : Env} {f : FuncId} (h : PureOk P E f [] (.ret (.bool true))) (w : World) (hG : GlobOk E (memAll w).st) :
    Calls P f #[] w fun e w' => e = .returned (.bool true) ∧ Below w.heap.size w w' := by
  have hI : Inv w [] (memAll w) := ⟨fun _ h => h.elim, fun _ _ _ h => h, fun id e he => by simp at he, fun i j ei ej b _ h1 => by simp at h1⟩
  have none_owned : ∀ {b}, ¬ Owned [] (memAll w) b := fun ⟨id, e, he, _⟩ => by simp at he
  refine ((h w [] (memAll w) #[] hI hG trivial (fun e w' => e = .returned (.bool true) ∧ Below w.heap.size w w') fun e w' st _ h2 h3 => ?_).2 0).calls (fun k => room_wide k)
  refine ⟨?_, h2.os, h2.tape, h2.output, h2.grow, fun k hk => h2.kept k hk none_owned⟩
  cases e with
  | returned u =>
    have : u = .bool true := by simpa [EPout, EP] using h3
    rw [this]
  | panicked _ => exact h3.elim
  | outgrown => exact h3.elim

/-! ### the externs -/
theorem firstAt_eq (b : UInt8) : ∀ (s : List UInt8) (i : Nat), (match firstAt b s i with | some i => (i : Int) | none => -1) = (if Lib.indexByte s b = -1 then -1 else Lib.indexByte s b + i)
  | [], i => by simp [firstAt, Lib.indexByte]
  | x :: s, i => by
    unfold firstAt Lib.indexByte
    by_cases hx : (x == b) = true
    · simp [hx]
    · rw [if_neg hx, if_neg hx]
      have ih := firstAt_eq b s (i + 1)
      have hge := Lib.indexByte_ge s b
      rw [ih]
      by_cases hn : Lib.indexByte s b = -1
      · rw [hn]; simp
      · have hb : ¬ (Lib.indexByte s b == -1) = true := by simpa using hn
        rw [if_neg hb, if_neg hn, if_neg (by omega)]
        omega

theorem prims_of {P : Program} {pol : Pol}
    (hc : ∀ f, pol.prim f = some .count → ∃ fn, P.funcs[f]? = some fn ∧ (fn.name == "runtime.NumGoroutine") = false ∧ fn.body.isNone = true ∧ Extern.findNext fn = none ∧ Extern.find fn = some Extern.BytealgCount.count)
    (hi : ∀ f, pol.prim f = some .indexByte → ∃ fn, P.funcs[f]? = some fn ∧ (fn.name == "runtime.NumGoroutine") = false ∧ fn.body.isNone = true ∧ Extern.findNext fn = none ∧ Extern.find fn = some Extern.BytealgIndexByte.indexByte) : PrimsOk P pol := by
  intro f p hp args σ v σ' hv w m vargs hI hG ha R hR
  have two : ∀ {x y : V}, args = [x, y] → ∃ a b, vargs = #[a, b] ∧ Enc m x a ∧ Enc m y b := fun {x y} he => by
    subst he
    cases hl : vargs.toList with
    | nil => rw [hl] at ha; exact ha.elim
    | cons a r =>
      rw [hl] at ha
      cases r with
      | nil => exact ha.2.elim
      | cons b r =>
        cases r with
        | nil => exact ⟨a, b, Array.toList_inj.1 hl, ha.1, ha.2.1⟩
        | cons _ _ => exact ha.2.2.elim
  unfold primV at hv
  split at hv
  · rename_i s n
    simp only [Option.some.injEq, Prod.mk.injEq] at hv
    obtain ⟨rfl, rfl⟩ := hv
    obtain ⟨fn, h1, h2, h3, h4, h5⟩ := hc f hp
    obtain ⟨a, b, rfl, ha1, ha2⟩ := two rfl
    have ha1' : a = .string ⟨s.toArray⟩ := ha1
    have ha2' : b = .int .u8 n := ha2
    subst ha1'; subst ha2'
    refine .inr ⟨_, w, by rw [run_callFunc_extern h1 h2 h3 h4 h5, Lib.run_countString]; rfl, hR _ w ⟨m, hI, .refl _ _ _, ?_⟩⟩
    show Value.int .i64 _ = Value.int .i64 _
    congr 1
    simp only [Lib.countByte, List.count_eq_length_filter]
  · rename_i s n
    simp only [Option.some.injEq, Prod.mk.injEq] at hv
    obtain ⟨rfl, rfl⟩ := hv
    obtain ⟨fn, h1, h2, h3, h4, h5⟩ := hi f hp
    obtain ⟨a, b, rfl, ha1, ha2⟩ := two rfl
    have ha1' : a = .string ⟨s.toArray⟩ := ha1
    have ha2' : b = .int .u8 n := ha2
    subst ha1'; subst ha2'
    refine .inr ⟨_, w, by rw [run_callFunc_extern h1 h2 h3 h4 h5, Lib.run_indexByteString]; rfl, hR _ w ⟨m, hI, .refl _ _ _, ?_⟩⟩
    show Value.int .i64 _ = Value.int .i64 _
    congr 1
    refine Eq.trans ?_ (firstAt_eq (UInt8.ofNat n.toNat) s 0).symm
    have e : n.toNat.toUInt8 = UInt8.ofNat n.toNat := rfl
    rw [e]
    split
    · rename_i hh; exact hh
    · simp
  · cases hv
end Go.VV
