/- Maps: the model's own operations on keys that are plain. -/
import Derived.Test.YtgmeglodnhagdaaGreatDoorSxD
import Derived.WideKeyRuns
namespace Go.SX
open Go.RowKit
set_option linter.unusedVariables false
set_option linter.unusedSimpArgs false
set_option linter.unusedSectionVars false

theorem ba_eq {a b : ByteArray} (h : (a == b) = true) : a = b := by
  cases a with | mk x => cases b with | mk y =>
  have h' : (x == y) = true := h
  rw [eq_of_beq h']

theorem ba_refl (a : ByteArray) : (a == a) = true := by
  cases a with | mk x =>
  have h' : (x == x) = true := by simp
  exact h'

def kOfT (P : Program) (t : TypeId) : Option K := match P.underlying t with
  | some (.int k) => some (.int k)
  | some .bool => some .bool
  | some .string => some .str
  | _ => none

def fieldsK (P : Program) : List Field → Nat → Option (List K)
  | [], _ => some []
  | f :: fs, i => if f.name ≠ "_" ∧ f.offset = i then match kOfT P f.type, fieldsK P fs (i + 1) with
      | some k, some ks => some (k :: ks)
      | _, _ => none
    else none

def mkOf (P : Program) (t : TypeId) : Option MK := match P.underlying t with
  | some (.struct fs) => if P.stoodInHeld t then none else (fieldsK P fs.toList 0).map .many
  | _ => (kOfT P t).map .one

def keq1 : Value → Value → Bool
  | .int _ a, .int _ b => a == b
  | .bool a, .bool b => a == b
  | .string a, .string b => a == b
  | _, _ => false

def keqL : List Value → List Value → Bool
  | [], [] => true
  | x :: xs, y :: ys => bif keq1 x y then keqL xs ys else false
  | _, _ => false

def keq : Value → Value → Bool
  | .agg xs, .agg ys => keqL xs.toList ys.toList
  | x, y => keq1 x y

theorem kOfT_inv {P : Program} {t : TypeId} {k : K} (h : kOfT P t = some k) : (∃ q, P.underlying t = some (.int q) ∧ k = .int q) ∨ (P.underlying t = some .bool ∧ k = .bool) ∨ (P.underlying t = some .string ∧ k = .str) := by
  unfold kOfT at h
  split at h
  · rename_i q hu; cases h; exact .inl ⟨q, hu, rfl⟩
  · rename_i hu; cases h; exact .inr (.inl ⟨hu, rfl⟩)
  · rename_i hu; cases h; exact .inr (.inr ⟨hu, rfl⟩)
  · cases h

theorem part0 {P : Program} {t : TypeId} {k : K} (h : kOfT P t = some k) (cs : Array Value) (i : Nat) (v : Value) (hv : cs[i]? = some v) : run0 P (part t cs i) = some v := by
  rcases kOfT_inv h with ⟨q, hu, rfl⟩ | ⟨hu, rfl⟩ | ⟨hu, rfl⟩ <;>
    simp [part, isAgg, underlying, program, run0, Bind.bind, Sem.bind, Pure.pure, hu, hv]

theorem eqIn_one {P : Program} {t : TypeId} {k : K} (h : kOfT P t = some k) {x y : Value} (hx : k.fit x = true) (hy : k.fit y = true) (d : Nat) : eqIn P (d + 1) t x y = some (keq1 x y) := by
  rcases kOfT_inv h with ⟨q, hu, rfl⟩ | ⟨hu, rfl⟩ | ⟨hu, rfl⟩ <;> cases x <;> simp [K.fit] at hx <;> cases y <;> simp [K.fit] at hy
  · subst hx; subst hy; simp [eqIn, hu, keq1]
  · simp [eqIn, hu, keq1]
  · simp [eqIn, hu, keq1]

theorem eqFs_many {P : Program} (d : Nat) (xs ys : Array Value) : ∀ (fs : List Field) (i : Nat) (ks : List K), fieldsK P fs i = some ks → K.fitL ks (xs.toList.drop i) = true → K.fitL ks (ys.toList.drop i) = true →
    eqFs P (eqIn P (d + 1)) xs ys fs = some (keqL (xs.toList.drop i) (ys.toList.drop i))
  | [], i, ks, h, hx, hy => by
    cases h
    cases hx' : xs.toList.drop i with
    | nil => cases hy' : ys.toList.drop i with
      | nil => rfl
      | cons y l => rw [hy'] at hy; simp [K.fitL] at hy
    | cons x l => rw [hx'] at hx; simp [K.fitL] at hx
  | f :: fs, i, ks, h, hx, hy => by
    simp only [fieldsK] at h
    split at h
    · rename_i hc
      split at h
      · rename_i k ks' hk hks
        cases h
        cases hx' : xs.toList.drop i with
        | nil => rw [hx'] at hx; simp [K.fitL] at hx
        | cons x l =>
          cases hy' : ys.toList.drop i with
          | nil => rw [hy'] at hy; simp [K.fitL] at hy
          | cons y l' =>
            rw [hx'] at hx
            rw [hy'] at hy
            simp only [K.fitL, Bool.and_eq_true] at hx hy
            have ex : xs[i]? = some x := by
              have : (xs.toList.drop i)[0]? = some x := by rw [hx']; rfl
              simpa using this
            have ey : ys[i]? = some y := by
              have : (ys.toList.drop i)[0]? = some y := by rw [hy']; rfl
              simpa using this
            have el : xs.toList.drop (i + 1) = l := by
              have : (xs.toList.drop i).tail = l := by rw [hx']; rfl
              simpa using this
            have el' : ys.toList.drop (i + 1) = l' := by
              have : (ys.toList.drop i).tail = l' := by rw [hy']; rfl
              simpa using this
            have ih := eqFs_many d xs ys fs (i + 1) ks' hks (by rw [el]; exact hx.2) (by rw [el']; exact hy.2)
            simp only [eqFs]
            rw [if_pos hc.1, hc.2, part0 hk xs i x ex, part0 hk ys i y ey]
            simp only [eqIn_one hk hx.1 hy.1, ih, el, el', keqL]
      · cases h
    · cases h

theorem equal_run {P : Program} {t : TypeId} {kk : MK} (h : mkOf P t = some kk) {x y : Value} (hx : kk.fit x = true) (hy : kk.fit y = true) (w : World) : (Op.equal t x y).run P w = .ok (keq x y) w := by
  unfold mkOf at h
  split at h
  · rename_i fs hu
    split at h
    · cases h
    · rename_i hs
      simp only [Option.map_eq_some_iff] at h
      obtain ⟨ks, hks, rfl⟩ := h
      cases x <;> simp [MK.fit] at hx
      rename_i xs
      cases y <;> simp [MK.fit] at hy
      rename_i ys
      refine eqIn_run w 2 _ t _ _ _ (by decide) ?_
      have := eqFs_many (P := P) 0 xs ys fs.toList 0 ks hks (by simpa using hx) (by simpa using hy)
      have e2 : eqIn P 2 t (.agg xs) (.agg ys) = eqFs P (eqIn P 1) xs ys fs.toList := by
        rw [eqIn, if_neg hs]
        exact hu
      rw [e2]
      simpa only [keq, List.drop_zero] using this
  · simp only [Option.map_eq_some_iff] at h
    obtain ⟨k, hk, rfl⟩ := h
    have h1 : keq x y = keq1 x y := by
      cases x <;> cases y <;> first | rfl | skip
      simp only [MK.fit] at hx
      cases k <;> simp [K.fit] at hx
    rw [h1]
    exact eqIn_run w 1 _ t _ _ _ (by decide) (eqIn_one hk hx hy 0)

/-- The first entry with that key. -/
def findI (x : Value) : List MapEntry → Nat → Option (Nat × Value)
  | [], _ => none
  | e :: es, i => bif keq x e.key then some (i, e.val) else findI x es (i + 1)

theorem asking_run {P : Program} {t : TypeId} {kk : MK} (h : mkOf P t = some kk) {x : Value} (hx : kk.fit x = true) (w : World) : ∀ (es : List MapEntry) (i : Nat), (∀ e ∈ es, kk.fit e.key = true) → (Instr.findAsking t x es i).run P w = .ok (findI x es i) w
  | [], i, _ => by simp [Instr.findAsking, findI]
  | e :: es, i, he => by
    simp only [Instr.findAsking, findI, Sem.run_bind, equal_run h hx (he e List.mem_cons_self) w, Result.andThen_ok]
    cases keq x e.key with
    | true => simp
    | false => simpa using asking_run h hx w es (i + 1) fun y hy => he y (List.mem_cons_of_mem _ hy)

theorem now_find {d : TypeDesc} {k : K} (hd : (∃ q, d = .int q ∧ k = .int q) ∨ (d = .bool ∧ k = .bool) ∨ (d = .string ∧ k = .str)) {x : Value} (hx : k.fit x = true) : ∀ (es : List MapEntry) (i : Nat), (∀ e ∈ es, k.fit e.key = true) → Instr.findNow d x es i = some (findI x es i)
  | [], i, _ => by simp [Instr.findNow, findI]
  | e :: es, i, he => by
    have ih := now_find hd hx es (i + 1) fun y hy => he y (List.mem_cons_of_mem _ hy)
    have hf := he e List.mem_cons_self
    have key : Instr.sameNow d x e.key = some (keq x e.key) := by
      generalize e.key = y at hf
      rcases hd with ⟨q, rfl, rfl⟩ | ⟨rfl, rfl⟩ | ⟨rfl, rfl⟩ <;> cases x <;> simp [K.fit] at hx <;> cases y <;> simp [K.fit] at hf
      · subst hx; subst hf; simp [Instr.sameNow, keq, keq1]
      · simp [Instr.sameNow, keq, keq1]
      · simp [Instr.sameNow, keq, keq1]
    simp only [Instr.findNow, findI, key]
    cases keq x e.key with
    | true => rfl
    | false => exact ih

theorem find_run {P : Program} {t : TypeId} {kk : MK} (h : mkOf P t = some kk) {x : Value} (hx : kk.fit x = true) (w : World) (es : List MapEntry) (he : ∀ e ∈ es, kk.fit e.key = true) : (Instr.findKey t x es).run P w = .ok (findI x es 0) w := by
  have h' := h
  unfold mkOf at h
  split at h
  · rename_i fs hu
    rw [run_findKey_eq w (by rw [hu])]
    exact asking_run h' hx w es 0 he
  · simp only [Option.map_eq_some_iff] at h
    obtain ⟨k, hk, rfl⟩ := h
    rcases kOfT_inv hk with ⟨q, hu, rfl⟩ | ⟨hu, rfl⟩ | ⟨hu, rfl⟩
    · simp [Instr.findKey, run_underlying hu, now_find (d := .int q) (.inl ⟨q, rfl, rfl⟩) hx es 0 he]
    · simp [Instr.findKey, run_underlying hu, now_find (d := .bool) (.inr (.inl ⟨rfl, rfl⟩)) hx es 0 he]
    · simp [Instr.findKey, run_underlying hu, now_find (d := .string) (.inr (.inr ⟨rfl, rfl⟩)) hx es 0 he]

theorem check_one {P : Program} {t : TypeId} {k : K} (h : kOfT P t = some k) {x : Value} (w : World) (em : Bool) (d : Nat) : (Instr.checkKey em (d + 1) t x).run P w = .ok () w := by
  rcases kOfT_inv h with ⟨q, hu, rfl⟩ | ⟨hu, rfl⟩ | ⟨hu, rfl⟩ <;> simp [Instr.checkKey, run_underlying hu]

theorem check_run {P : Program} {t : TypeId} {kk : MK} (h : mkOf P t = some kk) {x : Value} (hx : kk.fit x = true) (w : World) (em : Bool) : (Instr.checkKey em 10000 t x).run P w = .ok () w := by
  unfold mkOf at h
  split at h
  · rename_i fs hu
    split at h
    · cases h
    · simp only [Option.map_eq_some_iff] at h
      obtain ⟨ks, hks, rfl⟩ := h
      cases x <;> simp [MK.fit] at hx
      rename_i xs
      rw [show (10000 : Nat) = 9998 + 1 + 1 from rfl, Instr.checkKey]
      simp only [Sem.run_bind, run_underlying hu, Result.andThen_ok]
      rw [← Array.forIn_toList]
      have hx' : K.fitL ks (xs.toList.drop 0) = true := by simpa using hx
      clear hx hu
      generalize hL : fs.toList = L at hks
      clear hL
      generalize 0 = i at hks hx'
      induction L generalizing i ks with
      | nil => simp
      | cons f L ih =>
        simp only [fieldsK] at hks
        split at hks
        · rename_i hc
          split at hks
          · rename_i k ks' hk hks'
            cases hks
            cases hxl : xs.toList.drop i with
            | nil => rw [hxl] at hx'; simp [K.fitL] at hx'
            | cons x l =>
              rw [hxl] at hx'
              simp only [K.fitL, Bool.and_eq_true] at hx'
              have ex : xs[i]? = some x := by
                have : (xs.toList.drop i)[0]? = some x := by rw [hxl]; rfl
                simpa using this
              have el : xs.toList.drop (i + 1) = l := by
                have : (xs.toList.drop i).tail = l := by rw [hxl]; rfl
                simpa using this
              have p1 := run0_run _ w (part0 hk xs i x ex)
              simp only [List.forIn_cons, Sem.run_bind, hc.1, hc.2, ne_eq, not_false_eq_true, if_true, Result.andThen_ok, p1, check_one hk, Sem.run_pure]
              exact ih _ _ hks' (by rw [el]; exact hx'.2)
          · cases hks
        · cases hks
  · simp only [Option.map_eq_some_iff] at h
    obtain ⟨k, hk, rfl⟩ := h
    exact check_one hk w em 9999

theorem keq1_eq {k : K} {x y : Value} (hx : k.fit x = true) (hy : k.fit y = true) (h : keq1 x y = true) : x = y := by
  cases k <;> cases x <;> simp [K.fit] at hx <;> cases y <;> simp [K.fit] at hy
  · simp [keq1] at h; subst hx; subst hy; rw [h]
  · simp [keq1] at h; rw [h]
  · rw [ba_eq h]

theorem keqL_eq : ∀ {ks : List K} {xs ys : List Value}, K.fitL ks xs = true → K.fitL ks ys = true → keqL xs ys = true → xs = ys
  | [], [], [], _, _, _ => rfl
  | [], _ :: _, _, h, _, _ => by simp [K.fitL] at h
  | [], [], _ :: _, _, h, _ => by simp [K.fitL] at h
  | _ :: _, [], _, h, _, _ => by simp [K.fitL] at h
  | _ :: _, _ :: _, [], _, h, _ => by simp [K.fitL] at h
  | k :: ks, x :: xs, y :: ys, hx, hy, h => by
    simp only [K.fitL, Bool.and_eq_true] at hx hy
    simp only [keqL] at h
    cases h1 : keq1 x y with
    | false => simp [h1] at h
    | true =>
      simp only [h1, cond_true] at h
      rw [keq1_eq hx.1 hy.1 h1, keqL_eq hx.2 hy.2 h]

theorem keq_eq {kk : MK} {x y : Value} (hx : kk.fit x = true) (hy : kk.fit y = true) (h : keq x y = true) : x = y := by
  cases kk with
  | one k =>
    have h1 : keq x y = keq1 x y := by
      cases x <;> cases y <;> first | rfl | skip
      simp only [MK.fit] at hx
      cases k <;> simp [K.fit] at hx
    rw [h1] at h
    exact keq1_eq hx hy h
  | many ks =>
    cases x <;> simp [MK.fit] at hx
    cases y <;> simp [MK.fit] at hy
    rename_i xs ys
    have := keqL_eq hx hy h
    rw [Array.ext' this]

theorem sameBits_one {k : K} {x : Value} (hx : k.fit x = true) (n : Nat) : Instr.sameBits n x x = true := by
  cases k <;> cases x <;> simp [K.fit] at hx <;> simp [Instr.sameBits, ba_refl]

theorem sameBits_fit {kk : MK} {x : Value} (hx : kk.fit x = true) (n : Nat) : Instr.sameBits (n + 1) x x = true := by
  cases kk with
  | one k => exact sameBits_one hx _
  | many ks =>
    cases x <;> simp [MK.fit] at hx
    rename_i xs
    simp only [Instr.sameBits, beq_self_eq_true, Bool.true_and, List.all_eq_true]
    generalize xs.toList = l at hx
    induction l generalizing ks with
    | nil => intro p hp; simp at hp
    | cons x l ih =>
      cases ks with
      | nil => simp [K.fitL] at hx
      | cons k ks =>
        simp only [K.fitL, Bool.and_eq_true] at hx
        intro p hp
        rw [List.zip_cons_cons] at hp
        cases hp with
        | head => exact sameBits_one hx.1 n
        | tail _ hm => exact ih ks hx.2 p hm

theorem stays_run {P : Program} {kk : MK} {x : Value} (hx : kk.fit x = true) (w : World) : (Instr.keyThatStays x x).run P w = .ok x w := by
  have := sameBits_fit hx 9999
  simp [Instr.keyThatStays, this]

mutual
def K.same : K → K → Bool
  | .int k, .int k' => decide (k = k')
  | .bool, .bool => true
  | .str, .str => true
  | .any, .any => true
  | .lst ks, .lst ks' => K.sames ks ks'
  | _, _ => false
def K.sames : List K → List K → Bool
  | [], [] => true
  | k :: ks, k' :: ks' => K.same k k' && K.sames ks ks'
  | _, _ => false
end
mutual
theorem K.same_eq : ∀ (a b : K), K.same a b = true → a = b
  | .int k, b, h => by cases b <;> simp [K.same] at h; rw [h]
  | .bool, b, h => by cases b <;> simp [K.same] at h; rfl
  | .str, b, h => by cases b <;> simp [K.same] at h; rfl
  | .any, b, h => by cases b <;> simp [K.same] at h; rfl
  | .lst ks, b, h => by cases b <;> simp [K.same] at h; rw [K.sames_eq ks _ h]
theorem K.sames_eq : ∀ (a b : List K), K.sames a b = true → a = b
  | [], b, h => by cases b <;> simp [K.sames] at h; rfl
  | k :: ks, b, h => by
    cases b with
    | nil => simp [K.sames] at h
    | cons k' ks' => simp only [K.sames, Bool.and_eq_true] at h; rw [K.same_eq k k' h.1, K.sames_eq ks ks' h.2]
end

def Q.k : Q → K
  | .c (.int k _) => .int k
  | .c (.bool _) => .bool
  | .c (.string _) => .str
  | .lst ks _ _ => .lst ks
  | _ => .any
theorem Q.k_ok (q : Q) : KOk q.k q := by
  unfold Q.k
  split
  · exact .int _ _
  · exact .bool _
  · exact .str _
  · exact .lst _ _ _
  · exact .any _

def kOk (k : K) (q : Q) : Bool := match k with
  | .any => true
  | k => K.same q.k k
theorem kOk_ok {k : K} {q : Q} (h : kOk k q = true) : KOk k q := by
  unfold kOk at h
  split at h
  · exact .any q
  · rw [← K.same_eq _ _ h]; exact q.k_ok

def V.cells? : V → Option (List V)
  | .agg l => some l
  | .q (.c (.agg _)) => none
  | .tup _ => none
  | .any => none
  | v => some [v]


def qsOf : List V → Option (List Q)
  | [] => some []
  | .q x :: l => (qsOf l).map (x :: ·)
  | .kb b :: l => (qsOf l).map (.c (.bool b) :: ·)
  | _ => none

def kOks : List K → List Q → Bool
  | [], [] => true
  | k :: ks, q :: qs => kOk k q && kOks ks qs
  | _, _ => false


/-! ### entries -/
def findE (key : Value) : List (Value × List Q) → Option (List Q)
  | [] => none
  | (k, q) :: es => bif keq key k then some q else findE key es

def putE (key : Value) (q : List Q) : List (Value × List Q) → List (Value × List Q)
  | [] => [(key, q)]
  | (k, q') :: es => bif keq key k then (key, q) :: es else (k, q') :: putE key q es

def nrmL : List K → List Q → List V
  | [], _ => []
  | k :: ks, qs => .q (nrm k (qs.headD default)) :: nrmL ks qs.tail

def outE (ag : Bool) (vk : List K) (qs : List Q) : V := if ag then .agg (nrmL vk qs) else match nrmL vk qs with
  | [x] => x
  | _ => .any

def zQs : List K → List Value → Option (List Q)
  | [], [] => some []
  | .lst ks :: r, .slice none 0 0 :: vs => (zQs r vs).map (.lst ks 0 (fun _ _ => default) :: ·)
  | k :: r, v :: vs => if kOk k (.c v) then (zQs r vs).map (.c v :: ·) else none
  | _, _ => none

def zOf (P : Program) (et : TypeId) (ag : Bool) (vk : List K) : Option (List Q) := match run0 P (zeroValue et) with
  | some (.agg cs) => if ag then zQs vk cs.toList else none
  | some z => if ag then none else zQs vk [z]
  | none => none

def MK.same : MK → MK → Bool
  | .one k, .one k' => K.same k k'
  | .many ks, .many ks' => K.sames ks ks'
  | _, _ => false

theorem MK.same_eq {a b : MK} (h : MK.same a b = true) : a = b := by
  cases a <;> cases b <;> simp [MK.same] at h
  · rw [K.same_eq _ _ h]
  · rw [K.sames_eq _ _ h]

mutual
/-- The kinds of a type's cells. -/
def kindsT (P : Program) : Nat → TypeId → List K
  | 0, _ => [.any]
  | n + 1, t => match P.underlying t with
    | some (.int k) => [.int k]
    | some .bool => [.bool]
    | some .string => [.str]
    | some (.slice e) => [.lst (kindsT P n e)]
    | some (.struct fs) => kindsFs P n fs.toList
    | _ => [.any]
def kindsFs (P : Program) : Nat → List Field → List K
  | 0, _ => []
  | _, [] => []
  | n + 1, f :: fs => kindsT P n f.type ++ kindsFs P n fs
end

/-- What a map holds. -/
def entsOf (s : St) : V → Option (MK × Bool × List K × List (Value × List Q))
  | .mp n => match s.lo[n]? with
    | some (some (.map kk ag vk es)) => some (kk, ag, vk, es)
    | _ => none
  | .q (.mp kk ag vk es) => some (kk, ag, vk, es)
  | _ => none

def lookV (P : Program) (t : TypeId) (s : St) (m k : V) (ok : Bool) : T V :=
  match P.underlying t, entsOf s m, k.val? with
  | some (.map kt et), some (kk', ag, vk, es), some kv => match mkOf P kt with
    | some kk => match zOf P et ag vk with
      | some zs => if MK.same kk kk' && kk.fit kv && (ag || decide (vk.length = 1)) then
          .leaf (if ok then .tup [outE ag vk ((findE kv es).getD zs), V.b (findE kv es).isSome] else outE ag vk ((findE kv es).getD zs))
        else .bad
      | none => .bad
    | _ => .bad
  | _, _, _ => .bad

section
variable {S L : Nat → Prop} {θ : Th} {w : World} {P : Program}

theorem ents_fit {kk : MK} {ag : Bool} {vk : List K} {es : List (Value × List Q)} {arr : List MapEntry} (h : EntsOK S w kk ag vk es arr) : ∀ e ∈ arr, kk.fit e.key = true := by
  induction h with
  | nil => intro e he; cases he
  | cons key qs us born es arr hf hd _ ih =>
    intro e he
    cases he with
    | head => exact hf
    | tail _ hm => exact ih e hm

theorem ents_find {kk : MK} {ag : Bool} {vk : List K} {key : Value} {es : List (Value × List Q)} {arr : List MapEntry} (h : EntsOK S w kk ag vk es arr) : ∀ i,
    (findI key arr i = none ∧ findE key es = none) ∨ ∃ j v qs us, findI key arr i = some (i + j, v) ∧ findE key es = some qs ∧ v = valOf ag us ∧ DenK S w vk qs us := by
  induction h with
  | nil => intro i; exact .inl ⟨rfl, rfl⟩
  | cons k qs us born es arr hf hd _ ih =>
    intro i
    simp only [findI, findE]
    cases keq key k with
    | true => exact .inr ⟨0, _, qs, us, rfl, rfl, rfl, hd⟩
    | false =>
      rcases ih (i + 1) with ⟨h1, h2⟩ | ⟨j, v, qs', us', h1, h2⟩
      · exact .inl ⟨h1, h2⟩
      · exact .inr ⟨j + 1, v, qs', us', by rw [show i + (j + 1) = i + 1 + j by omega]; exact h1, h2⟩

theorem ents_put {kk : MK} {ag : Bool} {vk : List K} {key : Value} {qs : List Q} {us : List Value} (hk : kk.fit key = true) (hd : DenK S w vk qs us) (clk : Nat) {es : List (Value × List Q)} {arr : List MapEntry} (h : EntsOK S w kk ag vk es arr) : ∀ i,
    (findI key arr i = none ∧ EntsOK S w kk ag vk (putE key qs es) (arr ++ [{ key, val := valOf ag us, born := clk }])) ∨
    ∃ j v e, findI key arr i = some (i + j, v) ∧ arr[j]? = some e ∧ e.key = key ∧ EntsOK S w kk ag vk (putE key qs es) (arr.modify j fun e => { e with key, val := valOf ag us }) := by
  induction h with
  | nil => intro i; exact .inl ⟨rfl, .cons _ _ _ _ _ _ hk hd .nil⟩
  | cons k qs' us' born es arr hf hd' hr ih =>
    intro i
    simp only [findI, putE]
    cases hq : keq key k with
    | true =>
      refine .inr ⟨0, _, _, rfl, rfl, (keq_eq hk hf hq).symm, ?_⟩
      simp only [cond_true, List.modify_zero_cons]
      exact .cons _ _ _ _ _ _ hk hd hr
    | false =>
      rcases ih (i + 1) with ⟨h1, h2⟩ | ⟨j, v, e, h1, h2, h3, h4⟩
      · exact .inl ⟨h1, .cons _ _ _ _ _ _ hf hd' h2⟩
      · refine .inr ⟨j + 1, v, e, by rw [show i + (j + 1) = i + 1 + j by omega]; exact h1, h2, h3, ?_⟩
        simp only [cond_false, List.modify_succ_cons]
        exact .cons _ _ _ _ _ _ hf hd' h4

theorem denK_nrm : ∀ {ks : List K} {qs : List Q} {us : List Value}, DenK S w ks qs us → DenL S L θ w (nrmL ks qs) us
  | _, _, _, .nil => .nil
  | _, _, _, .cons k q u ks qs us hk hd h => .cons _ _ _ _ (.q _ _ (by simp only [List.headD_cons]; rw [nrm_eq hk]; exact hd)) (denK_nrm h)

theorem denK_len {ks : List K} {qs : List Q} {us : List Value} (h : DenK S w ks qs us) : us.length = ks.length := by
  induction h with
  | nil => rfl
  | cons _ _ _ _ _ _ _ _ _ ih => simp [ih]

theorem outE_den {ag : Bool} {vk : List K} {qs : List Q} {us : List Value} (h : DenK S w vk qs us) (hl : (ag || decide (vk.length = 1)) = true) : Den S L θ w (outE ag vk qs) (valOf ag us) := by
  have hd := denK_nrm (L := L) (θ := θ) h
  unfold outE valOf
  cases ag with
  | true => exact .agg _ _ hd
  | false =>
    simp only [Bool.false_or, decide_eq_true_eq] at hl
    simp only [Bool.false_eq_true, if_false]
    generalize nrmL vk qs = l at hd
    cases hd with
    | nil => exact .any _
    | cons x v l vs h1 h2 =>
      cases h2 with
      | nil => exact h1
      | cons => exact .any _

theorem zQs_den : ∀ {ks : List K} {vs : List Value} {qs : List Q}, zQs ks vs = some qs → DenK S w ks qs vs
  | [], [], qs, h => by cases h; exact .nil
  | [], _ :: _, qs, h => by simp [zQs] at h
  | _ :: _, [], qs, h => by simp [zQs] at h
  | k :: r, v :: vs, qs, h => by
    unfold zQs at h
    split at h
    · rename_i h1 _; cases h1
    · rename_i h1 h2
      cases h1; cases h2
      simp only [Option.map_eq_some_iff] at h
      obtain ⟨qs', h', rfl⟩ := h
      exact .cons _ _ _ _ _ _ (.lst _ _ _) (.nil _ _ _ rfl) (zQs_den h')
    · rename_i h1 h2
      cases h1; cases h2
      split at h
      · rename_i hk
        simp only [Option.map_eq_some_iff] at h
        obtain ⟨qs', h', rfl⟩ := h
        exact .cons _ _ _ _ _ _ (kOk_ok hk) (.c _) (zQs_den h')
      · cases h
    · cases h

theorem zOf_den {et : TypeId} {ag : Bool} {vk : List K} {zs : List Q} (h : zOf P et ag vk = some zs) (w' : World) : ∃ us, (zeroValue et).run P w' = .ok (valOf ag us) w' ∧ DenK S w vk zs us := by
  unfold zOf at h
  split at h
  · rename_i cs hz
    split at h
    · rename_i ha
      subst ha
      exact ⟨cs.toList, by rw [run0_run _ w' hz]; simp [valOf], zQs_den h⟩
    · cases h
  · rename_i z hz0 hz
    split at h
    · cases h
    · rename_i ha
      have ha' : ag = false := by simpa using ha
      subst ha'
      exact ⟨[z], by rw [run0_run _ w' hz]; simp [valOf], zQs_den h⟩
  · cases h

end

section
variable [GW] {P : Program} {J : Jt P} {Am Mi : Nat → Prop} {w0 w : World} {s : St} {θ : Th} {a : Act}

theorem denK_fun {S : Nat → Prop} {ks : List SX.K} {qs : List SX.Q} {us : List Value} (h : DenK S w ks qs us) : ∃ u : Nat → Value, qs.length = ks.length ∧ us = (List.range ks.length).map u ∧ (∀ (j : Nat) k q, ks[j]? = some k → qs[j]? = some q → KOk k q) ∧ ∀ (j : Nat) q, qs[j]? = some q → DenQ S w q (u j) := by
  induction h with
  | nil => exact ⟨fun _ => undef, rfl, rfl, fun j k q h => by simp at h, fun j q h => by simp at h⟩
  | cons k q u ks qs us hk hd _ ih =>
    obtain ⟨f, h1, h2, h3, h4⟩ := ih
    refine ⟨fun j => if j = 0 then u else f (j - 1), by simp [h1], ?_, fun j k' q' hk' hq' => ?_, fun j q' hq' => ?_⟩
    · rw [List.length_cons, List.range_succ_eq_map, List.map_cons, List.map_map, h2]
      simp [Function.comp_def]
    · cases j with
      | zero => simp at hk' hq'; subst hk'; subst hq'; exact hk
      | succ j => exact h3 j k' q' (by simpa using hk') (by simpa using hq')
    · cases j with
      | zero => simp at hq'; subst hq'; simpa using hd
      | succ j => simpa using h4 j q' (by simpa using hq')

theorem fun_denK {S : Nat → Prop} : ∀ {ks : List SX.K} {qs : List SX.Q} (u : Nat → Value), qs.length = ks.length → (∀ (j : Nat) k q, ks[j]? = some k → qs[j]? = some q → KOk k q) → (∀ (j : Nat) q, qs[j]? = some q → DenQ S w q (u j)) → DenK S w ks qs ((List.range ks.length).map u)
  | [], [], u, _, _, _ => .nil
  | [], _ :: _, u, h, _, _ => by simp at h
  | _ :: _, [], u, h, _, _ => by simp at h
  | k :: ks, q :: qs, u, h, hk, hd => by
    rw [List.length_cons, List.range_succ_eq_map, List.map_cons, List.map_map]
    exact .cons _ _ _ _ _ _ (hk 0 k q rfl rfl) (hd 0 q rfl) (fun_denK (fun j => u (j + 1)) (by simpa using h) (fun j k' q' h1 h2 => hk (j + 1) k' q' (by simpa using h1) (by simpa using h2)) (fun j q' h1 => hd (j + 1) q' (by simpa using h1)))

theorem ents_fun {S : Nat → Prop} {kk : MK} {ag : Bool} {vk : List SX.K} {es : List (Value × List SX.Q)} {arr : List MapEntry} (h : EntsOK S w kk ag vk es arr) : ∃ u : Nat → Nat → Value, arr.length = es.length ∧
    (∀ (i : Nat) (key : Value) (qs : List SX.Q), es[i]? = some (key, qs) → kk.fit key = true ∧ qs.length = vk.length ∧ ∃ born : Nat, arr[i]? = some ({ key := key, val := valOf ag ((List.range vk.length).map (u i)), born := born } : MapEntry)) ∧
    (∀ (i : Nat) (key : Value) (qs : List SX.Q) (j : Nat) (k : SX.K) (q : SX.Q), es[i]? = some (key, qs) → vk[j]? = some k → qs[j]? = some q → KOk k q) ∧
    (∀ (i : Nat) (key : Value) (qs : List SX.Q) (j : Nat) (q : SX.Q), es[i]? = some (key, qs) → qs[j]? = some q → DenQ S w q (u i j)) := by
  induction h with
  | nil => exact ⟨fun _ _ => undef, rfl, fun i key qs h => by simp at h, fun i key qs j k q h => by simp at h, fun i key qs j q h => by simp at h⟩
  | cons key qs us born es arr hf hd _ ih =>
    obtain ⟨f, h1, h2, h3, h4⟩ := ih
    obtain ⟨u, g1, g2, g3, g4⟩ := denK_fun hd
    refine ⟨fun i => if i = 0 then u else f (i - 1), by simp [h1], fun i key' qs' he => ?_, fun i key' qs' j k q he => ?_, fun i key' qs' j q he => ?_⟩
    · cases i with
      | zero => simp at he; obtain ⟨rfl, rfl⟩ := he; exact ⟨hf, g1, born, by simp [g2]⟩
      | succ i => simpa using h2 i key' qs' (by simpa using he)
    · cases i with
      | zero => simp at he; obtain ⟨rfl, rfl⟩ := he; exact g3 j k q
      | succ i => exact h3 i key' qs' j k q (by simpa using he)
    · cases i with
      | zero => simp at he; obtain ⟨rfl, rfl⟩ := he; simpa using g4 j q
      | succ i => simpa using h4 i key' qs' j q (by simpa using he)

theorem fun_ents {S : Nat → Prop} {kk : MK} {ag : Bool} {vk : List SX.K} : ∀ {es : List (Value × List SX.Q)} {arr : List MapEntry} (u : Nat → Nat → Value), arr.length = es.length →
    (∀ (i : Nat) (key : Value) (qs : List SX.Q), es[i]? = some (key, qs) → kk.fit key = true ∧ qs.length = vk.length ∧ ∃ born : Nat, arr[i]? = some ({ key := key, val := valOf ag ((List.range vk.length).map (u i)), born := born } : MapEntry)) →
    (∀ (i : Nat) (key : Value) (qs : List SX.Q) (j : Nat) (k : SX.K) (q : SX.Q), es[i]? = some (key, qs) → vk[j]? = some k → qs[j]? = some q → KOk k q) →
    (∀ (i : Nat) (key : Value) (qs : List SX.Q) (j : Nat) (q : SX.Q), es[i]? = some (key, qs) → qs[j]? = some q → DenQ S w q (u i j)) → EntsOK S w kk ag vk es arr
  | [], [], u, _, _, _, _ => .nil
  | [], _ :: _, u, h, _, _, _ => by simp at h
  | _ :: _, [], u, h, _, _, _ => by simp at h
  | (key, qs) :: es, e :: arr, u, h, hf, hk, hd => by
    obtain ⟨h1, h2, born, h3⟩ := hf 0 key qs rfl
    simp at h3
    subst h3
    exact .cons _ _ _ _ _ _ h1 (fun_denK (u 0) h2 (fun j k q a b => hk 0 key qs j k q rfl a b) (fun j q a => hd 0 key qs j q rfl a))
      (fun_ents (fun i => u (i + 1)) (by simpa using h) (fun i k q a => by simpa using hf (i + 1) k q (by simpa using a)) (fun i k q j k' q' a => hk (i + 1) k q j k' q' (by simpa using a)) (fun i k q j q' a => hd (i + 1) k q j q' (by simpa using a)))

theorem DenQ.mp_inv {S : Nat → Prop} {kk : MK} {ag : Bool} {vk : List SX.K} {es : List (Value × List SX.Q)} {v : Value} (h : DenQ S w (.mp kk ag vk es) v) :
    ∃ b arr clk, v = .map (some b) ∧ S b ∧ w.heap[b]? = some (.map arr.toArray clk) ∧ EntsOK S w kk ag vk es arr := by
  cases h with
  | mp _ _ _ _ b arr clk u hS hb hl hf hk hd => exact ⟨b, arr, clk, rfl, hS, hb, fun_ents u hl hf hk hd⟩

theorem DenQ.of_ents {S : Nat → Prop} {kk : MK} {ag : Bool} {vk : List SX.K} {es : List (Value × List SX.Q)} {b : Nat} {arr : List MapEntry} {clk : Nat} (hS : S b) (hb : w.heap[b]? = some (.map arr.toArray clk)) (h : EntsOK S w kk ag vk es arr) :
    DenQ S w (.mp kk ag vk es) (.map (some b)) := by
  obtain ⟨u, h1, h2, h3, h4⟩ := ents_fun h
  exact .mp _ _ _ _ b arr clk u hS hb h1 h2 h3 h4

theorem entsOf_den (h : Rep J Am Mi w0 s θ a w) {m : V} {um : Value} (hm : Den (Stab Am s.lo θ w) (Liv s.lo) θ w m um) {kk : MK} {ag : Bool} {vk : List SX.K} {es : List (Value × List SX.Q)} (e : entsOf s m = some (kk, ag, vk, es)) :
    ∃ b arr clk, um = .map (some b) ∧ w.heap[b]? = some (.map arr.toArray clk) ∧ EntsOK (Stab Am s.lo θ w) w kk ag vk es arr := by
  cases hm with
  | mp n hl =>
    simp only [entsOf] at e
    split at e
    · rename_i hlo
      simp only [Option.some.injEq, Prod.mk.injEq] at e
      obtain ⟨rfl, rfl, rfl, rfl⟩ := e
      obtain ⟨arr, clk, h1, h2⟩ := h.lo n _ hlo
      exact ⟨_, arr, clk, rfl, h1, h2⟩
    · cases e
  | q y z hq =>
    cases y with
    | mp =>
      simp only [entsOf, Option.some.injEq, Prod.mk.injEq] at e
      obtain ⟨rfl, rfl, rfl, rfl⟩ := e
      obtain ⟨b, arr, clk, rfl, _, h1, h2⟩ := hq.mp_inv
      exact ⟨_, arr, clk, rfl, h1, h2⟩
    | _ => simp [entsOf] at e
  | _ => simp [entsOf] at e

theorem lookV_run (h : Rep J Am Mi w0 s θ a w) {t : TypeId} {m k x : V} {um uk : Value} (hm : Den (Stab Am s.lo θ w) (Liv s.lo) θ w m um) (hk : Den (Stab Am s.lo θ w) (Liv s.lo) θ w k uk) {ok : Bool} (e : (lookV P t s m k ok).pick = some x) :
    ∃ y, (Instr.lookup t um uk ok).run P w = .ok y w ∧ Den (Stab Am s.lo θ w) (Liv s.lo) θ w x y := by
  unfold lookV at e
  split at e
  · rename_i kt et kk' ag vk es kv hu hen hkv
    split at e
    · rename_i kk hmk
      split at e
      · rename_i zs hz
        split at e
        · rename_i hc
          simp only [Bool.and_eq_true] at hc
          obtain ⟨⟨hsame, hfit⟩, hl⟩ := hc
          obtain rfl := MK.same_eq hsame
          simp only [T.pick, Option.some.injEq] at e
          subst e
          obtain rfl := den_val hk hkv
          obtain ⟨mb, arr, clk, rfl, h1, h2⟩ := entsOf_den h hm hen
          obtain ⟨zus, hzr, hzd⟩ := zOf_den (S := Stab Am s.lo θ w) (w := w) hz w
          have hg : (getObj mb).run P w = .ok (.map arr.toArray clk) w := by simp [getObj, Sem.run, h1]
          have hck := fun em => check_run hmk hfit w em
          have hf := find_run hmk hfit w arr (ents_fit h2)
          rcases ents_find (key := uk) h2 0 with ⟨e1, e2⟩ | ⟨j, v, qs, us, e1, e2, rfl, hd⟩
          · rw [e1] at hf
            rw [e2]
            have hd := outE_den (L := Liv s.lo) (θ := θ) hzd hl
            cases ok with
            | false => exact ⟨_, by simp [Instr.lookup, run_underlying hu, hg, hck, hf, hzr, Result.andThen], hd⟩
            | true => exact ⟨_, by simp [Instr.lookup, run_underlying hu, hg, hck, hf, hzr, Result.andThen], .tup _ [_, _] (.cons _ _ _ _ hd (.cons _ _ _ _ (.q _ _ (.c _)) .nil))⟩
          · rw [e1] at hf
            rw [e2]
            have hd := outE_den (L := Liv s.lo) (θ := θ) hd hl
            cases ok with
            | false => exact ⟨_, by simp [Instr.lookup, run_underlying hu, hg, hck, hf, Result.andThen], hd⟩
            | true => exact ⟨_, by simp [Instr.lookup, run_underlying hu, hg, hck, hf, Result.andThen], .tup _ [_, _] (.cons _ _ _ _ hd (.cons _ _ _ _ (.q _ _ (.c _)) .nil))⟩
        · simp [T.pick] at e
      · simp [T.pick] at e
    · simp [T.pick] at e
  · simp [T.pick] at e

theorem qsOf_den {S L : Nat → Prop} : ∀ {l : List V} {us : List Value} {qs : List SX.Q}, DenL S L θ w l us → qsOf l = some qs → qs.length = us.length ∧ ∀ (j : Nat) (q : SX.Q), qs[j]? = some q → ∃ u, us[j]? = some u ∧ DenQ S w q u
  | _, _, qs, .nil, e => by cases e; exact ⟨rfl, fun j q h => by simp at h⟩
  | _, _, qs, .cons x v l us h hl, e => by
    have key : ∀ y, DenQ S w y v → (qsOf l).map (y :: ·) = some qs → qs.length = (v :: us).length ∧ ∀ (j : Nat) (q : SX.Q), qs[j]? = some q → ∃ u, (v :: us)[j]? = some u ∧ DenQ S w q u := fun y hy e => by
      simp only [Option.map_eq_some_iff] at e
      obtain ⟨r, hr, rfl⟩ := e
      obtain ⟨h1, h2⟩ := qsOf_den hl hr
      refine ⟨by simp [h1], fun j q hq => ?_⟩
      cases j with
      | zero => simp at hq; subst hq; exact ⟨v, rfl, hy⟩
      | succ j => exact h2 j q (by simpa using hq)
    cases h with
    | q y v hy => exact key y hy (by simpa [qsOf] using e)
    | kb b => exact key _ (.c _) (by simpa [qsOf] using e)
    | _ => simp [qsOf] at e

theorem kOks_len : ∀ {ks : List SX.K} {qs : List SX.Q}, kOks ks qs = true → ks.length = qs.length ∧ ∀ (j : Nat) k, ks[j]? = some k → ∃ q, qs[j]? = some q ∧ KOk k q
  | [], [], _ => ⟨rfl, fun j k h => by simp at h⟩
  | k :: ks, q :: qs, h => by
    simp only [kOks, Bool.and_eq_true] at h
    obtain ⟨h1, h2⟩ := kOks_len h.2
    refine ⟨by simp [h1], fun j k' hk => ?_⟩
    cases j with
    | zero => simp at hk; subst hk; exact ⟨q, rfl, kOk_ok h.1⟩
    | succ j => exact h2 j k' (by simpa using hk)
  | [], _ :: _, h => by simp [kOks] at h
  | _ :: _, [], h => by simp [kOks] at h


theorem den_cells {S L : Nat → Prop} {x : V} {u : Value} {cs : List V} (h : Den S L θ w x u) (e : x.cells? = some cs) : DenL S L θ w cs u.cells.toList := by
  cases h with
  | any v => simp [V.cells?] at e
  | q y v hq =>
    cases hq with
    | c z =>
      cases u <;> simp [V.cells?] at e <;> subst e <;> exact .cons _ _ _ _ (.q _ _ (.c _)) .nil
    | nil ks len get h0 => simp [V.cells?] at e; subst e; exact .cons _ _ _ _ (.q _ _ (.nil _ _ _ h0)) .nil
    | lst _ _ _ b off cap u hS hcap hc hk hd => simp [V.cells?] at e; subst e; exact .cons _ _ _ _ (.q _ _ (.lst _ _ _ b off cap u hS hcap hc hk hd)) .nil
    | sp _ _ b off u hS hc hd => simp [V.cells?] at e; subst e; exact .cons _ _ _ _ (.q _ _ (.sp _ _ b off u hS hc hd)) .nil
    | mp _ _ _ _ b arr clk u hS hb hl hf hk hd => simp [V.cells?] at e; subst e; exact .cons _ _ _ _ (.q _ _ (.mp _ _ _ _ b arr clk u hS hb hl hf hk hd)) .nil
    | clo f caps u hd => simp [V.cells?] at e; subst e; exact .cons _ _ _ _ (.q _ _ (.clo f caps u hd)) .nil
    | nn t v => simp [V.cells?] at e; subst e; exact .cons _ _ _ _ (.q _ _ (.nn t v)) .nil
  | lc ks len get cap a n hq => simp [V.cells?] at e; subst e; exact .cons _ _ _ _ (.lc _ _ _ _ a n hq) .nil
  | ptr n off h => simp [V.cells?] at e; subst e; exact .cons _ _ _ _ (.ptr _ _ h) .nil
  | ep n sz i j h => simp [V.cells?] at e; subst e; exact .cons _ _ _ _ (.ep _ _ _ _ h) .nil
  | kb b => simp [V.cells?] at e; subst e; exact .cons _ _ _ _ (.kb _) .nil
  | own n a len cap h e' => simp [V.cells?] at e; subst e; exact .cons _ _ _ _ (.own _ _ _ _ h e') .nil
  | mp n h => simp [V.cells?] at e; subst e; exact .cons _ _ _ _ (.mp _ h) .nil
  | yld n h => simp [V.cells?] at e; subst e; exact .cons _ _ _ _ (.yld _ h) .nil
  | clo f caps vs h => simp [V.cells?] at e; subst e; exact .cons _ _ _ _ (.clo _ _ _ h) .nil
  | agg l vs h => simp [V.cells?] at e; subst e; simpa [Value.cells] using h
  | tup l vs h => simp [V.cells?] at e


/-! ### lists made in place -/

end
end Go.SX
