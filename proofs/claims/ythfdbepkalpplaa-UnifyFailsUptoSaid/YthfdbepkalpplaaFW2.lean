/- Part of the proofs of the statements of this seat. -/
import Derived.Test.YthfdbepkalpplaaFW1
set_option maxRecDepth 10000
set_option linter.unusedVariables false
set_option linter.unusedSimpArgs false
namespace Go.Fr.T
open Go Go.RowKit Go.Fr
def PtB (F:Frz) (b o off:Nat) (vs:List Value):Prop :=
 ∃ base arr t fr,F b = some (.cells arr t fr) ∧ o = base + off ∧ ∀ (i:Nat) (v:Value),vs[i]? = some v → arr[base + i]? = some v
mutual
def Rel (F:Frz):Loc → C → Value → Prop
 | _,.int k n,v => v = .int k n ∧ (Lit.int k n).wf = true
 | _,.bool b,v => v = .bool b
 | _,.str s,v => v = .string s ∧ s.size ≤ maxLen
 | _,.sl els,v => ∃ a c,v = .slice a els.length c ∧ els.length ≤ c ∧ els.length ≤ maxLen ∧ (a = none → els = [] ∧ c = 0) ∧ ∃ sz,RelS F a sz 0 els
 | _,.slx els,v => ∃ a,v = .slice (some a) els.length els.length ∧ els.length ≤ maxLen ∧ ∃ sz,RelS F (some a) sz 0 els
 | _,.nils,v => v = .slice none 0 0
 | L,.rw k,v => ∃ a c t sz n xs,v = .slice a n c ∧ L.get k = some (.row v t sz n xs)
 | L,.own k off,v => ∃ g t cs,L.get k = some (.box g t cs) ∧ v = .pointer (some ⟨g,off,none⟩)
 | _,.pt es off,v => ∃ b o vs,v = .pointer (some ⟨b,o,none⟩) ∧ PtB F b o off vs ∧ onesL es = true ∧ Rels F [] es vs
 | L,.fn f fi ca,v => ∃ fi' ca',v = .func (.func f) fi'.toArray ca'.toArray ∧ Rels F L fi fi' ∧ Rels F L ca ca'
 | L,.agg cs,v => ∃ vs,v = .agg vs.toArray ∧ Rels F L cs vs
 | L,.tup cs,v => ∃ vs,v = .tuple vs.toArray ∧ Rels F L cs vs
 | _,.nilp,v => v = .pointer none
 | _,.nilf,v => v = .nilFunc
 | _,.ifc t c,v => ∃ u,v = .iface t u ∧ Rel F [] c u
 | _,.opq k,v => OpqRel k F v
 | _,.mval nm c,v => ∃ u,v = .func (.method nm) #[u] #[] ∧ Rel F [] c u
 | _,.mof t nm,v => v = .func (.methodOf t nm) #[] #[]
 | L,.mpr k,v => ∃ g cs,L.get k = some (.box g 0 cs) ∧ v = .map (some g)
 | _,.und,v => v = undef
 | _,.any,_ => True
 | _,.ownv _ _,_ => False
 | _,.elr _ _ _,_ => False
def Rels (F:Frz):Loc → List C → List Value → Prop
 | _,[],vs => vs = []
 | L,c :: cs,vs => ∃ v vs',vs = v :: vs' ∧ Rel F L c v ∧ Rels F L cs vs'
def RelS (F:Frz) (a:Option Addr) (sz:Nat):Nat → List (List C) → Prop
 | _,[] => True
 | i,es :: l => (∃ vs,vs.length = sz ∧ FCells F a (i * sz) vs ∧ onesL es = true ∧ Rels F [] es vs) ∧ RelS F a sz (i + 1) l
end
def RelRow (F:Frz) (sz:Nat):List (List C) → List Value → Prop
 | [],xs => xs = []
 | es :: l,xs => ∃ vs xs',xs = vs ++ xs' ∧ vs.length = sz ∧ onesL es = true ∧ Rels F [] es vs ∧ RelRow F sz l xs'
def tyOk (t g t':Nat):Prop:=t' < 1048576 ∧ (t = t' ∨ t = (g + 1) * 1048576 + t') ∧ t' ≠ 0
def RelE (F:Frz):List (C × C) → List Value → Prop
 | [],vs => vs = []
 | (k,c) :: l,vs => ∃ kv v vs',vs = .agg #[kv,v] :: vs' ∧ Rel F [] k kv ∧ Rel F [] c v ∧ RelE F l vs'
def RelO (F:Frz) (L:Loc):TO → Own → Prop
 | .box t cs,.box g t' vs => tyOk t g t' ∧ Rels F L cs vs
 | .row t sz els,.row v t' sz' n xs => t = t' ∧ sz = sz' ∧ n = els.length ∧ (n ≤ maxLen ∧ ∃ a c,v = .slice a n c ∧ (a = none → n = 0)) ∧ RelRow F sz els xs
 | .map es,.box g t' vs => t' = 0 ∧ RelE F es vs
 | _,_ => False
def RelK (F:Frz) (L:Loc):Option TO → Option Own → Prop
 | none,none => True
 | some to,some o => RelO F L to o
 | _,_ => False
def RelTL (F:Frz) (L:Loc) (M:TL):Prop:=∀ k,RelK F L (M.get k) (L.get k)
def SvV (sv:SV) (v:Value):Prop:=sv = .v v ∨ ∃ b o j,sv = .el (some ⟨b,o,none⟩) j ∧ v = .pointer (some ⟨b,o + j,none⟩)
def RelV (F:Frz) (L:Loc):C → SV → Prop
 | .own k off,sv => sv = .own k off ∧ ∃ g t cs,L.get k = some (.box g t cs)
 | .pt es off,sv => ∃ b o j vs,(sv = .v (.pointer (some ⟨b,o,none⟩)) ∧ j = 0 ∨ sv = .el (some ⟨b,o,none⟩) j) ∧ PtB F b (o + j) off vs ∧ onesL es = true ∧ Rels F [] es vs
 | .elr k j off,sv => ∃ ad t sz n c xs,sv = .el (some ad) (j * sz + off) ∧ L.get k = some (.row (.slice (some ad) n c) t sz n xs)
 | .ownv k off,sv => ∃ v,SvV sv v ∧ Rel F L (.own k off) v
 | .any,_ => True
 | c,sv => ∃ v,sv = .v v ∧ Rel F L c v
def Kp (G:Nat → Option (Nat × TypeId)) (L:Loc):Prop:=∀ k g t,G k = some (g,t) → ∃ cs,L.get k = some (.box g t cs)
structure TS (G:Nat → Option (Nat × TypeId)) (F:Frz) (L:Loc) (ρ:Env) (M:TL) (τ:TEnv):Prop where
 tl:RelTL F L M
 env:∀ j,RelV F L (τ j) (ρ j)
 kp:Kp G L
 glob:Glob F
def Own.like:Own → Own → Prop
 | .box g t _,.box g' t' _ => g = g' ∧ t = t'
 | .row v _ sz n _,.row v' _ sz' n' _ => v = v' ∧ sz = sz' ∧ n = n'
 | _,_ => False
theorem Own.like_refl:∀ o:Own,Own.like o o
 | .box .. => ⟨rfl,rfl⟩
 | .row .. => ⟨rfl,rfl,rfl⟩
theorem PtB.mono {F F':Frz} (h:F.le F') {b o off:Nat} {vs:List Value} (c:PtB F b o off vs):PtB F' b o off vs:=by
 obtain ⟨base,arr,t,fr,h1,h2⟩:=c
 exact ⟨base,arr,t,fr,h _ _ h1,h2⟩
mutual
theorem Rel.mono {F F':Frz} (h:F.le F'):∀ {L:Loc} {c:C} {v:Value},Rel F L c v → Rel F' L c v
 | _,.int k n,v,r => r
 | _,.bool b,v,r => r
 | _,.str s,v,r => r
 | _,.sl els,v,r => by
  simp only [Rel] at r ⊢
  obtain ⟨a,c,h1,h2,h3,h4,sz,h5⟩:=r
  exact ⟨a,c,h1,h2,h3,h4,sz,RelS.mono h h5⟩
 | _,.slx els,v,r => by
  simp only [Rel] at r ⊢
  obtain ⟨a,h1,h2,sz,h5⟩:=r
  exact ⟨a,h1,h2,sz,RelS.mono h h5⟩
 | _,.nils,v,r => r
 | L,.rw k,v,r => by simp only [Rel] at r ⊢; exact r
 | L,.own k off,v,r => by simp only [Rel] at r ⊢; exact r
 | _,.pt es off,v,r => by
  simp only [Rel] at r ⊢
  obtain ⟨b,o,vs,h1,h2,h3,h4⟩:=r
  exact ⟨b,o,vs,h1,h2.mono h,h3,Rels.mono h h4⟩
 | L,.fn f fi ca,v,r => by
  simp only [Rel] at r ⊢
  obtain ⟨fi',ca',h1,h2,h3⟩:=r
  exact ⟨fi',ca',h1,Rels.mono h h2,Rels.mono h h3⟩
 | L,.agg cs,v,r => by
  simp only [Rel] at r ⊢
  obtain ⟨vs,h1,h2⟩:=r
  exact ⟨vs,h1,Rels.mono h h2⟩
 | L,.tup cs,v,r => by
  simp only [Rel] at r ⊢
  obtain ⟨vs,h1,h2⟩:=r
  exact ⟨vs,h1,Rels.mono h h2⟩
 | _,.nilp,v,r => r
 | _,.nilf,v,r => r
 | _,.ifc t c,v,r => by
  simp only [Rel] at r ⊢
  obtain ⟨u,h1,h2⟩:=r
  exact ⟨u,h1,Rel.mono h h2⟩
 | _,.opq k,v,r => by
  simp only [Rel] at r ⊢
  exact r.mono h
 | _,.mval nm c,v,r => by
  simp only [Rel] at r ⊢
  obtain ⟨u,h1,h2⟩:=r
  exact ⟨u,h1,Rel.mono h h2⟩
 | _,.mof t nm,v,r => r
 | L,.mpr k,v,r => by simp only [Rel] at r ⊢; exact r
 | _,.und,v,r => r
 | _,.any,v,r => trivial
 | _,.ownv _ _,v,r => r
 | _,.elr _ _ _,v,r => r
theorem Rels.mono {F F':Frz} (h:F.le F'):∀ {L:Loc} {cs:List C} {vs:List Value},Rels F L cs vs → Rels F' L cs vs
 | _,[],vs,r => by simp only [Rels] at r ⊢; exact r
 | L,c :: cs,vs,r => by
  simp only [Rels] at r ⊢
  obtain ⟨v,vs',h1,h2,h3⟩:=r
  exact ⟨v,vs',h1,Rel.mono h h2,Rels.mono h h3⟩
theorem RelS.mono {F F':Frz} (h:F.le F') {a:Option Addr} {sz:Nat}:∀ {i:Nat} {l:List (List C)},RelS F a sz i l → RelS F' a sz i l
 | _,[],r => by simp only [RelS]
 | i,es :: l,r => by
  simp only [RelS] at r ⊢
  obtain ⟨⟨vs,h1,h2,h3,h4⟩,h5⟩:=r
  exact ⟨⟨vs,h1,h2.mono h,h3,Rels.mono h h4⟩,RelS.mono h h5⟩
end
theorem RelRow.mono {F F':Frz} (h:F.le F') {sz:Nat}:∀ {l:List (List C)} {xs:List Value},RelRow F sz l xs → RelRow F' sz l xs
 | [],xs,r => r
 | es :: l,xs,r => by
  simp only [RelRow] at r ⊢
  obtain ⟨vs,xs',h1,h2,h3,h4,h5⟩:=r
  exact ⟨vs,xs',h1,h2,h3,h4.mono h,RelRow.mono h h5⟩
theorem RelE.mono {F F':Frz} (h:F.le F'):∀ {l:List (C × C)} {vs:List Value},RelE F l vs → RelE F' l vs
 | [],vs,r => r
 | (k,c) :: l,vs,r => by
  simp only [RelE] at r ⊢
  obtain ⟨kv,v,vs',h1,h2,h3,h4⟩:=r
  exact ⟨kv,v,vs',h1,h2.mono h,h3.mono h,RelE.mono h h4⟩
theorem RelO.mono {F F':Frz} (h:F.le F') {L:Loc}:∀ {o:TO} {p:Own},RelO F L o p → RelO F' L o p
 | .box t cs,.box g t' vs,r => ⟨r.1,r.2.mono h⟩
 | .row t sz els,.row v t' sz' n xs,r => ⟨r.1,r.2.1,r.2.2.1,r.2.2.2.1,r.2.2.2.2.mono h⟩
 | .box _ _,.row ..,r => r.elim
 | .row ..,.box ..,r => r.elim
 | .map _,.row ..,r => r.elim
 | .map es,.box g t' vs,r => ⟨r.1,r.2.mono h⟩
theorem RelTL.mono {F F':Frz} (h:F.le F') {L:Loc} {M:TL} (r:RelTL F L M):RelTL F' L M:=by
 intro k
 have:=r k
 revert this
 cases M.get k <;> cases L.get k <;> simp only [RelK] <;> first | exact fun h => h | exact fun r => r.mono h
theorem RelV.mono {F F':Frz} (h:F.le F') {L:Loc} {c:C} {sv:SV} (r:RelV F L c sv):RelV F' L c sv:=by
 cases c <;> simp only [RelV] at r ⊢
 case own => exact r
 case pt =>
  obtain ⟨b,o,j,vs,h1,h2,h3,h4⟩:=r
  exact ⟨b,o,j,vs,h1,h2.mono h,h3,h4.mono h⟩
 case elr => exact r
 all_goals
  obtain ⟨v,h1,h2⟩:=r
  exact ⟨v,h1,h2.mono h⟩
theorem Rels_get {F:Frz} {L:Loc}:∀ {cs:List C} {vs:List Value},Rels F L cs vs ↔ vs.length = cs.length ∧ ∀ (i:Nat) c v,cs[i]? = some c → vs[i]? = some v → Rel F L c v
 | [],vs => by
  simp only [Rels]
  constructor
  ·rintro rfl; simp
  ·rintro ⟨h,_⟩; exact List.length_eq_zero_iff.1 (by simpa using h)
 | c :: cs,vs => by
  simp only [Rels,Rels_get (cs:=cs)]
  constructor
  ·rintro ⟨v,vs',rfl,h1,h2,h3⟩
   refine ⟨by simp [h2],fun i c' v' hc hv => ?_⟩
   cases i with
   | zero => simp only [List.getElem?_cons_zero,Option.some.injEq] at hc hv; subst hc hv; exact h1
   | succ i => exact h3 i c' v' (by simpa using hc) (by simpa using hv)
  ·rintro ⟨h1,h2⟩
   match vs,h1 with
   | v :: vs',h1 => exact ⟨v,vs',rfl,h2 0 c v (by simp) (by simp),by simpa using h1,fun i c' v' hc hv => h2 (i + 1) c' v' (by simpa using hc) (by simpa using hv)⟩
theorem Rels.len {F:Frz} {L:Loc} {cs:List C} {vs:List Value} (h:Rels F L cs vs):vs.length = cs.length:=(Rels_get.1 h).1
theorem Rels.at {F:Frz} {L:Loc} {cs:List C} {vs:List Value} (h:Rels F L cs vs) {i:Nat} {c:C} {v:Value} (hc:cs[i]? = some c) (hv:vs[i]? = some v):Rel F L c v:=(Rels_get.1 h).2 i c v hc hv
theorem Rels.append {F:Frz} {L:Loc} {cs ds:List C} {vs us:List Value} (h:Rels F L cs vs) (k:Rels F L ds us):Rels F L (cs ++ ds) (vs ++ us):=by
 induction cs generalizing vs with
 | nil => simp only [Rels] at h; subst h; exact k
 | cons c cs ih =>
  simp only [Rels] at h
  obtain ⟨v,vs',rfl,h1,h2⟩:=h
  simp only [List.cons_append,Rels]
  exact ⟨v,_,rfl,h1,ih h2⟩
theorem Rels.drop {F:Frz} {L:Loc} {cs:List C} {vs:List Value} (h:Rels F L cs vs) (n:Nat):Rels F L (cs.drop n) (vs.drop n):=by
 rw [Rels_get] at h ⊢
 refine ⟨by simp [h.1],fun i c v hc hv => ?_⟩
 rw [List.getElem?_drop] at hc hv
 exact h.2 _ _ _ hc hv
theorem Rels.take {F:Frz} {L:Loc} {cs:List C} {vs:List Value} (h:Rels F L cs vs) (n:Nat):Rels F L (cs.take n) (vs.take n):=by
 rw [Rels_get] at h ⊢
 refine ⟨by simp [h.1],fun i c v hc hv => ?_⟩
 rw [List.getElem?_take] at hc hv
 split at hc
 ·rw [if_pos (by assumption)] at hv; exact h.2 _ _ _ hc hv
 ·cases hc
theorem RelS_iff {F:Frz} {a:Option Addr} {sz:Nat}:∀ {l:List (List C)} {i:Nat},RelS F a sz i l ↔ ∀ (j:Nat) es,l[j]? = some es → ∃ vs,vs.length = sz ∧ FCells F a ((i + j) * sz) vs ∧ onesL es = true ∧ Rels F [] es vs
 | [],i => by simp [RelS]
 | x :: l,i => by
  simp only [RelS,RelS_iff (l:=l)]
  constructor
  ·rintro ⟨h1,h2⟩ j y hy
   cases j with
   | zero => simp only [List.getElem?_cons_zero,Option.some.injEq] at hy; subst hy; simpa using h1
   | succ j =>
    simp only [List.getElem?_cons_succ] at hy
    have:=h2 j y hy
    rwa [show i + 1 + j = i + (j + 1) by omega] at this
  ·intro h
   refine ⟨by simpa using h 0 x (by simp),fun j y hy => ?_⟩
   have:=h (j + 1) y (by simpa using hy)
   rwa [show i + (j + 1) = i + 1 + j by omega] at this
theorem RelRow_len {F:Frz} {sz:Nat}:∀ {l:List (List C)} {xs:List Value},RelRow F sz l xs → xs.length = l.length * sz
 | [],xs,h => by simp only [RelRow] at h; subst h; simp
 | es :: l,xs,h => by
  simp only [RelRow] at h
  obtain ⟨vs,xs',rfl,h2,_,_,h5⟩:=h
  simp only [List.length_append,RelRow_len h5,h2,List.length_cons,Nat.add_mul]
  omega
theorem RelRow.append {F:Frz} {sz:Nat}:∀ {l m:List (List C)} {xs ys:List Value},RelRow F sz l xs → RelRow F sz m ys → RelRow F sz (l ++ m) (xs ++ ys)
 | [],m,xs,ys,h,k => by simp only [RelRow] at h; subst h; exact k
 | es :: l,m,xs,ys,h,k => by
  simp only [RelRow] at h
  obtain ⟨vs,xs',rfl,h2,h3,h4,h5⟩:=h
  simp only [List.cons_append,RelRow]
  exact ⟨vs,xs' ++ ys,by simp,h2,h3,h4,RelRow.append h5 k⟩
theorem RelRow.at {F:Frz} {sz:Nat}:∀ {l:List (List C)} {xs:List Value},RelRow F sz l xs → ∀ {j:Nat} {es:List C},l[j]? = some es → ∃ vs,vs.length = sz ∧ onesL es = true ∧ Rels F [] es vs ∧ ∀ (i:Nat) v,vs[i]? = some v → xs[j * sz + i]? = some v
 | [],xs,h,j,es,e => by simp at e
 | x :: l,xs,h,j,es,e => by
  simp only [RelRow] at h
  obtain ⟨vs,xs',rfl,h2,h3,h4,h5⟩:=h
  cases j with
  | zero =>
   simp only [List.getElem?_cons_zero,Option.some.injEq] at e
   subst e
   refine ⟨vs,h2,h3,h4,fun i v hv => ?_⟩
   have:i < vs.length:=(List.getElem?_eq_some_iff.1 hv).1
   rw [Nat.zero_mul,Nat.zero_add,List.getElem?_append_left this]
   exact hv
  | succ j =>
   obtain ⟨us,k1,k2,k3,k4⟩:=RelRow.at h5 (by simpa using e)
   refine ⟨us,k1,k2,k3,fun i v hv => ?_⟩
   rw [List.getElem?_append_right (by rw [h2,Nat.add_mul]; omega),show (j + 1) * sz + i - vs.length = j * sz + i by rw [h2,Nat.add_mul]; omega]
   exact k4 i v hv
theorem RelRow.frz {F:Frz} {sz:Nat} {l:List (List C)} {xs:List Value} (h:RelRow F sz l xs) {a:Addr} (hf:FCells F (some a) 0 xs):RelS F (some a) sz 0 l:=by
 rw [RelS_iff]
 intro j es he
 obtain ⟨vs,h1,h2,h3,h4⟩:=h.at he
 refine ⟨vs,h1,?_,h2,h3⟩
 obtain ⟨ad,arr,t,fr,e,hb,hsp,hc⟩:=hf
 refine ⟨ad,arr,t,fr,e,hb,hsp,fun i v hv => ?_⟩
 have:=hc (j * sz + i) v (h4 i v hv)
 simpa [Nat.add_assoc] using this
theorem onesL_iff:∀ {l:List C},onesL l = true ↔ ∀ c ∈ l,c.one = true
 | [] => by simp [onesL]
 | c :: l => by
  simp only [onesL]
  cases h:c.one
  ·simp [h]
  ·simp [h,onesL_iff]
theorem puresL_iff:∀ {l:List C},puresL l = true ↔ ∀ c ∈ l,c.pure = true
 | [] => by simp [puresL]
 | c :: l => by
  simp only [puresL]
  cases h:c.pure
  ·simp [h]
  ·simp [h,puresL_iff]
theorem leavesPure_iff:∀ {l:List C},leavesPure l = true ↔ ∀ c ∈ l,c.leafPure = true
 | [] => by simp [leavesPure]
 | c :: l => by
  simp only [leavesPure]
  cases h:c.leafPure
  ·simp [h]
  ·simp [h,leavesPure_iff]
theorem Rel.one {F:Frz} {L:Loc} {c:C} {v:Value} (h:Rel F L c v) (hc:c.one = true):v.oneCell' = true:=by
 cases c <;> simp only [C.one,Bool.false_eq_true] at hc <;> simp only [Rel] at h
 case int => obtain ⟨rfl,_⟩:=h; rfl
 case bool => subst h; rfl
 case str => obtain ⟨rfl,_⟩:=h; rfl
 case sl => obtain ⟨a,c,rfl,_⟩:=h; rfl
 case slx => obtain ⟨a,rfl,_⟩:=h; rfl
 case nils => subst h; rfl
 case own => obtain ⟨g,t,cs,_,rfl⟩:=h; rfl
 case pt => obtain ⟨b,o,vs,rfl,_⟩:=h; rfl
 case fn => obtain ⟨a,b,rfl,_⟩:=h; rfl
 case nilp => subst h; rfl
 case nilf => subst h; rfl
 case ifc => obtain ⟨u,rfl,_⟩:=h; rfl
 case opq => exact h.one
 case mval => obtain ⟨u,rfl,_⟩:=h; rfl
 case mof => subst h; rfl
 case mpr => obtain ⟨g,cs,_,rfl⟩:=h; rfl
 case rw => obtain ⟨a,c,t,sz,n,xs,rfl,_⟩:=h; rfl
mutual
theorem Rel.wf {F:Frz}:∀ {L:Loc} {c:C} {v:Value},Rel F L c v → Wf c
 | _,.int k n,v,r => by simp only [Rel] at r; simp only [Wf]; exact r.2
 | _,.bool b,v,r => by simp only [Wf]
 | _,.str s,v,r => by simp only [Rel] at r; simp only [Wf]; exact r.2
 | _,.sl els,v,r => by
  simp only [Rel] at r
  obtain ⟨a,c,h1,h2,h3,h4,sz,h5⟩:=r
  simp only [Wf]
  exact ⟨h3,RelS.wf h5⟩
 | _,.slx els,v,r => by
  simp only [Rel] at r
  obtain ⟨a,h1,h2,sz,h5⟩:=r
  simp only [Wf]
  exact ⟨h2,RelS.wf h5⟩
 | _,.nils,v,r => by simp only [Wf]
 | L,.rw k,v,r => by simp only [Wf]
 | L,.own k off,v,r => by simp only [Wf]
 | _,.pt es off,v,r => by
  simp only [Rel] at r
  obtain ⟨b,o,vs,h1,h2,h3,h4⟩:=r
  simp only [Wf]
  exact Rels.wf h4
 | L,.fn f fi ca,v,r => by
  simp only [Rel] at r
  obtain ⟨fi',ca',h1,h2,h3⟩:=r
  simp only [Wf]
  exact ⟨Rels.wf h2,Rels.wf h3⟩
 | L,.agg cs,v,r => by
  simp only [Rel] at r
  obtain ⟨vs,h1,h2⟩:=r
  simp only [Wf]
  exact Rels.wf h2
 | L,.tup cs,v,r => by
  simp only [Rel] at r
  obtain ⟨vs,h1,h2⟩:=r
  simp only [Wf]
  exact Rels.wf h2
 | _,.nilp,v,r => by simp only [Wf]
 | _,.nilf,v,r => by simp only [Wf]
 | _,.ifc _ _,v,r => by simp only [Wf]
 | _,.opq _,v,r => by simp only [Wf]
 | _,.mval _ _,v,r => by simp only [Wf]
 | _,.mof _ _,v,r => by simp only [Wf]
 | _,.mpr _,v,r => by simp only [Wf]
 | _,.und,v,r => by simp only [Wf]
 | _,.any,v,r => by simp only [Wf]
 | _,.ownv _ _,v,r => by simp only [Wf]
 | _,.elr _ _ _,v,r => by simp only [Wf]
theorem Rels.wf {F:Frz}:∀ {L:Loc} {cs:List C} {vs:List Value},Rels F L cs vs → WfS cs
 | _,[],vs,r => by simp only [WfS]
 | L,c :: cs,vs,r => by
  simp only [Rels] at r
  obtain ⟨v,vs',h1,h2,h3⟩:=r
  simp only [WfS]
  exact ⟨Rel.wf h2,Rels.wf h3⟩
theorem RelS.wf {F:Frz} {a:Option Addr} {sz:Nat}:∀ {i:Nat} {l:List (List C)},RelS F a sz i l → WfSS l
 | _,[],r => by simp only [WfSS]
 | i,es :: l,r => by
  simp only [RelS] at r
  obtain ⟨⟨vs,h1,h2,h3,h4⟩,h5⟩:=r
  simp only [WfSS]
  exact ⟨Rels.wf h4,RelS.wf h5⟩
end
theorem RelRow.wf {F:Frz} {sz:Nat}:∀ {l:List (List C)} {xs:List Value},RelRow F sz l xs → WfSS l
 | [],xs,r => by simp only [WfSS]
 | es :: l,xs,r => by
  simp only [RelRow] at r
  obtain ⟨vs,xs',h1,h2,h3,h4,h5⟩:=r
  simp only [WfSS]
  exact ⟨h4.wf,h5.wf⟩
theorem RelE.wf {F:Frz}:∀ {l:List (C × C)} {vs:List Value},RelE F l vs → WfM l
 | [],vs,r => trivial
 | (k,c) :: l,vs,r => by
  simp only [RelE] at r
  obtain ⟨kv,v,vs',h1,h2,h3,h4⟩:=r
  exact ⟨h2.wf,h3.wf,RelE.wf h4⟩
theorem RelO.wf {F:Frz} {L:Loc}:∀ {o:TO} {p:Own},RelO F L o p → o.Wf
 | .box t cs,.box g t' vs,r => r.2.wf
 | .row t sz els,.row v t' sz' n xs,r => r.2.2.2.2.wf
 | .box _ _,.row ..,r => r.elim
 | .row ..,.box ..,r => r.elim
 | .map _,.row ..,r => r.elim
 | .map es,.box g t' vs,r => r.2.wf
def C.leaf:C → Bool
 | .fn _ _ _ => false
 | .agg _ => false
 | .tup _ => false
 | _ => true
theorem mp_leaf {g:C → C} {n:Nat} {c:C} (h:c.leaf = true):C.mp g n c = g c:=by
 cases c <;> first | (cases n <;> rfl; done) | cases h
theorem Rels.map {F F':Frz} {L L':Loc} {g:C → C}:∀ {cs:List C} {vs:List Value},(∀ c ∈ cs,∀ v,Rel F L c v → Rel F' L' (g c) v) → Rels F L cs vs → Rels F' L' (cs.map g) vs
 | [],vs,hg,h => by simp only [Rels] at h; subst h; simp only [List.map_nil,Rels]
 | c :: cs,vs,hg,h => by
  simp only [Rels] at h
  obtain ⟨v,vs',rfl,h1,h2⟩:=h
  simp only [List.map_cons,Rels]
  exact ⟨v,vs',rfl,hg c (by simp) v h1,Rels.map (fun c hc => hg c (by simp [hc])) h2⟩
theorem Rel.mp {F F':Frz} {L L':Loc} {g:C → C} (hg:∀ c v,c.leaf = true → Rel F L c v → Rel F' L' (g c) v):∀ (n:Nat) {c:C} {v:Value},Rel F L c v → Rel F' L' (C.mp g n c) v
 | 0,c,v,h => by
  cases hc:c.leaf
  ·cases c <;> simp only [C.leaf,Bool.true_eq_false] at hc <;> simp only [C.mp,Rel]
  ·rw [mp_leaf hc]; exact hg c v hc h
 | n + 1,c,v,h => by
  cases hc:c.leaf
  ·cases c <;> simp only [C.leaf,Bool.true_eq_false] at hc <;> simp only [Rel] at h <;> simp only [C.mp,Rel]
   ·obtain ⟨fi',ca',h1,h2,h3⟩:=h
    exact ⟨fi',ca',h1,h2.map fun c _ v => Rel.mp hg n,h3.map fun c _ v => Rel.mp hg n⟩
   ·obtain ⟨vs,h1,h2⟩:=h
    exact ⟨vs,h1,h2.map fun c _ v => Rel.mp hg n⟩
   ·obtain ⟨vs,h1,h2⟩:=h
    exact ⟨vs,h1,h2.map fun c _ v => Rel.mp hg n⟩
  ·rw [mp_leaf hc]; exact hg c v hc h
theorem RelV.mp {F F':Frz} {L L':Loc} {g:C → C} (hg:∀ c v,c.leaf = true → Rel F L c v → Rel F' L' (g c) v) (hs:∀ c sv,c.leaf = true → RelV F L c sv → RelV F' L' (g c) sv) (n:Nat) {c:C} {sv:SV}
  (h:RelV F L c sv):RelV F' L' (C.mp g n c) sv:=by
 cases hc:c.leaf
 ·have h':∃ v,sv = .v v ∧ Rel F L c v:=by cases c <;> simp only [C.leaf,Bool.true_eq_false] at hc <;> exact h
  obtain ⟨v,rfl,h1⟩:=h'
  have h2:=Rel.mp hg n h1
  cases n with
  | zero => cases c <;> simp only [C.leaf,Bool.true_eq_false] at hc <;> simp only [C.mp,RelV]
  | succ n => cases c <;> simp only [C.leaf,Bool.true_eq_false] at hc <;> exact ⟨v,rfl,h2⟩
 ·rw [mp_leaf hc]; exact hs c sv hc h
def Ext (L L':Loc):Prop:=∀ k o,L.get k = some o → ∃ o',L'.get k = some o' ∧ Own.like o o'
theorem Ext.refl (L:Loc):Ext L L:=fun k o h => ⟨o,h,Own.like_refl o⟩
theorem rel_leaf {F F':Frz} {L L':Loc} (hF:F.le F') {c:C} {v:Value} (hk:∀ k,(∃ off,c = .own k off) ∨ c = .rw k ∨ c = .mpr k → ∀ o,L.get k = some o → ∃ o',L'.get k = some o' ∧ Own.like o o') (hc:c.leaf = true) (h:Rel F L c v):Rel F' L' c v:=by
 cases c <;> simp only [C.leaf,Bool.false_eq_true] at hc
 case rw k =>
  simp only [Rel] at h ⊢
  obtain ⟨a,c,t,sz,n,xs,rfl,h⟩:=h
  obtain ⟨o',h1,h2⟩:=hk k (.inr (.inl rfl)) _ h
  cases o' with
  | box => exact h2.elim
  | row v' t' sz' n' xs' => obtain ⟨rfl,rfl,rfl⟩:=h2; exact ⟨_,_,_,_,_,_,rfl,h1⟩
 case mpr k =>
  simp only [Rel] at h ⊢
  obtain ⟨g,cs,h,rfl⟩:=h
  obtain ⟨o',h1,h2⟩:=hk k (.inr (.inr rfl)) _ h
  cases o' with
  | row => exact h2.elim
  | box g' t' cs' => obtain ⟨rfl,rfl⟩:=h2; exact ⟨_,_,h1,rfl⟩
 case own k off =>
  simp only [Rel] at h ⊢
  obtain ⟨g,t,cs,h,rfl⟩:=h
  obtain ⟨o',h1,h2⟩:=hk k (.inl ⟨off,rfl⟩) _ h
  cases o' with
  | row => exact h2.elim
  | box g' t' cs' => obtain ⟨rfl,rfl⟩:=h2; exact ⟨_,_,_,h1,rfl⟩
 case sl =>
  simp only [Rel] at h ⊢
  obtain ⟨a,c,h1,h2,h3,h4,sz,h5⟩:=h
  exact ⟨a,c,h1,h2,h3,h4,sz,h5.mono hF⟩
 case slx =>
  simp only [Rel] at h ⊢
  obtain ⟨a,h1,h2,sz,h5⟩:=h
  exact ⟨a,h1,h2,sz,h5.mono hF⟩
 case pt =>
  simp only [Rel] at h ⊢
  obtain ⟨b,o,vs,h1,h2,h3,h4⟩:=h
  exact ⟨b,o,vs,h1,h2.mono hF,h3,h4.mono hF⟩
 case ifc =>
  simp only [Rel] at h ⊢
  obtain ⟨u,h1,h2⟩:=h
  exact ⟨u,h1,h2.mono hF⟩
 case opq =>
  simp only [Rel] at h ⊢
  exact h.mono hF
 case mval =>
  simp only [Rel] at h ⊢
  obtain ⟨u,h1,h2⟩:=h
  exact ⟨u,h1,h2.mono hF⟩
 all_goals
  first
   | exact h
   | (simp only [Rel] at h ⊢; done)
mutual
theorem Rel.ext {F F':Frz} (hF:F.le F') {L L':Loc} (hk:Ext L L'):∀ {c:C} {v:Value},Rel F L c v → Rel F' L' c v
 | .fn f fi ca,v,r => by
  simp only [Rel] at r ⊢
  obtain ⟨fi',ca',h1,h2,h3⟩:=r
  exact ⟨fi',ca',h1,Rels.ext hF hk h2,Rels.ext hF hk h3⟩
 | .agg cs,v,r => by
  simp only [Rel] at r ⊢
  obtain ⟨vs,h1,h2⟩:=r
  exact ⟨vs,h1,Rels.ext hF hk h2⟩
 | .tup cs,v,r => by
  simp only [Rel] at r ⊢
  obtain ⟨vs,h1,h2⟩:=r
  exact ⟨vs,h1,Rels.ext hF hk h2⟩
 | .int _ _,v,r => rel_leaf hF (fun k _ => hk k) rfl r
 | .bool _,v,r => rel_leaf hF (fun k _ => hk k) rfl r
 | .str _,v,r => rel_leaf hF (fun k _ => hk k) rfl r
 | .sl _,v,r => rel_leaf hF (fun k _ => hk k) rfl r
 | .slx _,v,r => rel_leaf hF (fun k _ => hk k) rfl r
 | .nils,v,r => rel_leaf hF (fun k _ => hk k) rfl r
 | .rw _,v,r => rel_leaf hF (fun k _ => hk k) rfl r
 | .own _ _,v,r => rel_leaf hF (fun k _ => hk k) rfl r
 | .pt _ _,v,r => rel_leaf hF (fun k _ => hk k) rfl r
 | .nilp,v,r => rel_leaf hF (fun k _ => hk k) rfl r
 | .nilf,v,r => rel_leaf hF (fun k _ => hk k) rfl r
 | .ifc _ _,v,r => rel_leaf hF (fun k _ => hk k) rfl r
 | .opq _,v,r => rel_leaf hF (fun k _ => hk k) rfl r
 | .mval _ _,v,r => rel_leaf hF (fun k _ => hk k) rfl r
 | .mof _ _,v,r => rel_leaf hF (fun k _ => hk k) rfl r
 | .mpr _,v,r => rel_leaf hF (fun k _ => hk k) rfl r
 | .und,v,r => rel_leaf hF (fun k _ => hk k) rfl r
 | .any,v,r => by simp only [Rel]
 | .ownv _ _,v,r => r.elim
 | .elr _ _ _,v,r => r.elim
theorem Rels.ext {F F':Frz} (hF:F.le F') {L L':Loc} (hk:Ext L L'):∀ {cs:List C} {vs:List Value},Rels F L cs vs → Rels F' L' cs vs
 | [],vs,r => by simp only [Rels] at r ⊢; exact r
 | c :: cs,vs,r => by
  simp only [Rels] at r ⊢
  obtain ⟨v,vs',h1,h2,h3⟩:=r
  exact ⟨v,vs',h1,Rel.ext hF hk h2,Rels.ext hF hk h3⟩
end
theorem Ext.nil (L:Loc):Ext [] L:=fun k o h => by cases h
theorem Rels.lift {F:Frz} {L:Loc} {cs:List C} {vs:List Value} (h:Rels F [] cs vs):Rels F L cs vs:=h.ext (Frz.le_refl F) (Ext.nil L)
theorem Rel.lift {F:Frz} {L:Loc} {c:C} {v:Value} (h:Rel F [] c v):Rel F L c v:=h.ext (Frz.le_refl F) (Ext.nil L)
theorem relV_leaf {F F':Frz} {L L':Loc} (hF:F.le F') {c:C} {sv:SV} (hk:∀ k,(∃ off,c = .own k off) ∨ (∃ off,c = .ownv k off) ∨ c = .rw k ∨ (∃ j off,c = .elr k j off) ∨ c = .mpr k → ∀ o,L.get k = some o → ∃ o',L'.get k = some o' ∧ Own.like o o') (hc:c.leaf = true) (h:RelV F L c sv):RelV F' L' c sv:=by
 cases c <;> simp only [C.leaf,Bool.false_eq_true] at hc
 case own k off =>
  simp only [RelV] at h ⊢
  obtain ⟨rfl,g,t,cs,h⟩:=h
  obtain ⟨o',h1,h2⟩:=hk k (.inl ⟨off,rfl⟩) _ h
  cases o' with
  | row => exact h2.elim
  | box g' t' cs' => exact ⟨rfl,_,_,_,h1⟩
 case ownv k off =>
  simp only [RelV] at h ⊢
  obtain ⟨v,hv,h⟩:=h
  refine ⟨v,hv,rel_leaf hF (fun k' hk' => hk k' ?_) rfl h⟩
  rcases hk' with ⟨off',e⟩ | e | e
  ·injection e with e1 e2; subst e1; exact .inr (.inl ⟨off,rfl⟩)
  ·cases e
  ·cases e
 case pt =>
  simp only [RelV] at h ⊢
  obtain ⟨b,o,j,vs,h1,h2,h3,h4⟩:=h
  exact ⟨b,o,j,vs,h1,h2.mono hF,h3,h4.mono hF⟩
 case elr k j off =>
  simp only [RelV] at h ⊢
  obtain ⟨ad,t,sz,n,c,xs,rfl,h⟩:=h
  obtain ⟨o',h1,h2⟩:=hk k (.inr (.inr (.inr (.inl ⟨_,_,rfl⟩)))) _ h
  cases o' with
  | box => exact h2.elim
  | row v' t' sz' n' xs' =>
   obtain ⟨rfl,rfl,rfl⟩:=h2
   exact ⟨_,_,_,_,_,_,rfl,h1⟩
 all_goals first | (simp only [RelV]; done) | skip
 all_goals
  simp only [RelV] at h ⊢
  obtain ⟨v,rfl,h⟩:=h
  refine ⟨v,rfl,rel_leaf hF (fun k' hk' => hk k' ?_) rfl h⟩
  rcases hk' with ⟨off',e⟩ | e | e
  ·cases e
  ·first | cases e; exact .inr (.inr (.inl rfl)) | cases e
  ·first | cases e; exact .inr (.inr (.inr (.inr rfl))) | cases e
theorem RelV.ext {F F':Frz} {L L':Loc} (hF:F.le F') (hk:Ext L L') {c:C} {sv:SV} (h:RelV F L c sv):RelV F' L' c sv:=by
 cases hc:c.leaf
 ·have h':∃ v,sv = .v v ∧ Rel F L c v:=by cases c <;> simp only [C.leaf,Bool.true_eq_false] at hc <;> exact h
  obtain ⟨v,rfl,h1⟩:=h'
  have h2:=h1.ext hF hk
  cases c <;> simp only [C.leaf,Bool.true_eq_false] at hc <;> exact ⟨v,rfl,h2⟩
 ·exact relV_leaf hF (fun k _ => hk k) hc h
theorem RelO.ext {F F':Frz} {L L':Loc} (hF:F.le F') (hk:Ext L L'):∀ {o:TO} {p:Own},RelO F L o p → RelO F' L' o p
 | .box t cs,.box g t' vs,r => ⟨r.1,r.2.ext hF hk⟩
 | .row t sz els,.row v t' sz' n xs,r => ⟨r.1,r.2.1,r.2.2.1,r.2.2.2.1,r.2.2.2.2.mono hF⟩
 | .box _ _,.row ..,r => r.elim
 | .row ..,.box ..,r => r.elim
 | .map _,.row ..,r => r.elim
 | .map es,.box g t' vs,r => ⟨r.1,r.2.mono hF⟩
def ResA (Li:List Own) (R:List TO → C → Prop):Frz → List Own → Value → Prop:=fun F Lo v =>
 ∃ Mo c,Mo.length = Lo.length ∧ RelTL F (inp Lo) (tinp Mo) ∧ Rel F (inp Lo) c v ∧ (∀ (i:Nat) g t cs,Li[i]? = some (.box g t cs) → ∃ cs',Lo[i]? = some (.box g t cs')) ∧ R Mo c
structure CallsT (P:Program) (f:Nat) (args:List C) (Lin:List TO) (R:List TO → C → Prop):Prop where
 out:∀ (F:Frz) (Li:List Own) (vs:List Value),Li.length = Lin.length → RelTL F (inp Li) (tinp Lin) → Rels F (inp Li) args vs → CallsA P f vs.toArray F Li (ResA Li R)
structure CallsTX (P:Program) (f:Nat) (args:List C) (Lin:List TO) (R:List TO → C → Prop) (Pp:Value → Prop):Prop where
 out:∀ (F:Frz) (Li:List Own) (vs:List Value),Li.length = Lin.length → RelTL F (inp Li) (tinp Lin) → Rels F (inp Li) args vs → CallsX P f vs.toArray F Li (ResA Li R) Pp
theorem CallsT.toX {P:Program} {f:Nat} {args:List C} {Lin:List TO} {R:List TO → C → Prop} {Pp:Value → Prop} (h:CallsT P f args Lin R):CallsTX P f args Lin R Pp:=⟨fun F Li vs h1 h2 h3 => (h.out F Li vs h1 h2 h3).toX⟩
def boxesAt:List TO → List Nat → List Nat → Bool
 | .box _ _ :: l,k :: ks,k' :: ko => match Nat.beq k k' with | true => boxesAt l ks ko | false => false
 | .box _ _ :: _,_,_ => false
 | .map _ :: l,k :: ks,k' :: ko => match Nat.beq k k' with | true => boxesAt l ks ko | false => false
 | .map _ :: _,_,_ => false
 | .row _ _ _ :: l,_ :: ks,_ :: ko => boxesAt l ks ko
 | .row _ _ _ :: l,_ :: ks,[] => boxesAt l ks []
 | .row _ _ _ :: _,[],_ => false
 | [],_,_ => true
def koOk (L:TL) (ks:List Nat):List Nat → Bool
 | [] => true
 | k :: ko => match mem? ks k,L.get k with
  | true,_ => koOk L ks ko
  | false,none => koOk L ks ko
  | false,some _ => false
def covers:TL → TL → Bool
 | [],_ => true
 | (k,_) :: l,L1 => match L1.get k with | some _ => covers l L1 | none => false
def keepsT:TL → TL → Bool
 | [],_ => true
 | (k,.box _ _) :: l,L1 => match L1.get k with | some (.box _ _) => keepsT l L1 | _ => false
 | (k,.map _) :: l,L1 => match L1.get k with | some (.map _) => keepsT l L1 | _ => false
 | (_,.row _ _ _) :: l,L1 => keepsT l L1
def TL.kills (ks:List Nat) (L:TL):TL:=match ks with | [] => L | _ => L.mapC (C.kills ks)
def killsE (ks:List Nat) (ρ:TEnv):TEnv:=match ks with | [] => ρ | _ => fun j => (ρ j).kills ks
def rowsOf (L:TL):List Nat → List Nat
 | [] => []
 | k :: ks => match L.get k with
  | some (.row _ _ _) => k :: rowsOf L ks
  | _ => rowsOf L ks
def InPl (Li Lo:List Own):Prop:=Lo.length = Li.length ∧ ∀ (i:Nat) o,Li[i]? = some o → ∃ o',Lo[i]? = some o' ∧ Own.like o o'
structure CallsTI (P:Program) (f:Nat) (args:List C) (Lin:List TO) (R:List TO → C → Prop):Prop where
 out:∀ (F:Frz) (Li:List Own) (vs:List Value),Li.length = Lin.length → RelTL F (inp Li) (tinp Lin) → Rels F (inp Li) args vs → CallsA P f vs.toArray F Li (fun F' Lo v => ResA Li R F' Lo v ∧ InPl Li Lo)
inductive CallT (P:Program) (f:Nat) (args:List C) (L:TL) (ρ:TEnv) (K:TL → TEnv → C → Prop):Prop
 | mk (out:∃ (fz ks ko:List Nat),frzK fz L ρ args fun L ρ args =>
  ∃ (L1:TL) (Lin:List TO) (R:List TO → C → Prop),(L1 = L ∨ (gives L L1 L1 ∧ covers L L1 = true)) ∧ L1.sub ks = some Lin ∧ nodup? ks = true ∧ nodup? ko = true ∧ koOk L1 ks ko = true ∧ boxesAt Lin ks ko = true ∧
   CallsT P f (args.map fun c => c.canA.ren (toIn ks 1000)) (Lin.map (TO.mapC (C.ren (toIn ks 1000)))) R ∧
   ∀ v Mo,R Mo v → Wf v → (∀ o ∈ Mo,o.Wf) → ko.length = Mo.length ∧
    K (((L1.dels ks).kills (rowsOf L1 ks)).puts ko (Mo.map (TO.mapC (C.ren (fromIn ko))))) (killsE (rowsOf L1 ks) ρ) (v.ren (fromIn ko)).slt)
 | inpl (ks:List Nat) (Lin:List TO) (R:List TO → C → Prop) (hs:L.sub ks = some Lin) (hn:nodup? ks = true) (h:CallsTI P f (args.map fun c => c.canA.ren (toIn ks 1000)) (Lin.map (TO.mapC (C.ren (toIn ks 1000)))) R)
   (k:∀ v Mo,R Mo v → Wf v → (∀ o ∈ Mo,o.Wf) → ks.length = Mo.length ∧ K ((L.dels ks).puts ks (Mo.map (TO.mapC (C.ren (fromIn ks))))) ρ (v.ren (fromIn ks)).slt)
structure Pan where
 ps:Value → Prop
 hb:List (Nat × Nat):=[]
def hbOk (L:TL) (ks:List Nat):List (Nat × Nat) → Bool
 | [] => true
 | (k,n) :: l => match mem? ks k,L.get k with
  | false,some (.box _ cs) => match lenC? cs n with | true => hbOk L ks l | false => false
  | _,_ => false
structure CallXT (P:Program) (PS:Pan) (f:Nat) (args:List C) (L:TL) (ρ:TEnv) (K:TL → TEnv → C → Prop):Prop where
 out:∃ (fz ks ko:List Nat),frzK fz L ρ args fun L ρ args =>
  ∃ (L1:TL) (Lin:List TO) (R:List TO → C → Prop) (Pp:Value → Prop),(L1 = L ∨ (gives L L1 L1 ∧ covers L L1 = true)) ∧ L1.sub ks = some Lin ∧ nodup? ks = true ∧ nodup? ko = true ∧ koOk L1 ks ko = true ∧ boxesAt Lin ks ko = true ∧ hbOk L1 ks PS.hb = true ∧
   CallsTX P f (args.map fun c => c.canA.ren (toIn ks 1000)) (Lin.map (TO.mapC (C.ren (toIn ks 1000)))) R Pp ∧ (∀ v,Pp v → PS.ps v) ∧
   ∀ v Mo,R Mo v → Wf v → (∀ o ∈ Mo,o.Wf) → ko.length = Mo.length ∧
    K (((L1.dels ks).kills (rowsOf L1 ks)).puts ko (Mo.map (TO.mapC (C.ren (fromIn ko))))) (killsE (rowsOf L1 ks) ρ) (v.ren (fromIn ko)).slt
def cvalL:List C → Option (List Value)
 | [] => some []
 | .int k n :: l => match cvalL l with | some vs => some (.int k n :: vs) | none => none
 | .bool b :: l => match cvalL l with | some vs => some (.bool b :: vs) | none => none
 | .str s :: l => match cvalL l with | some vs => some (.string s :: vs) | none => none
 | _ => none
def ifcV:C → Option Value
 | .ifc t (.int k n) => some (.iface t (.int k n))
 | .ifc t (.bool b) => some (.iface t (.bool b))
 | .ifc t (.str s) => some (.iface t (.string s))
 | .ifc t (.agg cs) => match cvalL cs with | some vs => some (.iface t (.agg vs.toArray)) | none => none
 | _ => none
structure PanT (PS:Pan) (L:TL) (c:C):Prop where
 out:∃ v,ifcV c = some v ∧ hbOk L [] PS.hb = true ∧ PS.ps v
structure CallT0 (P:Program) (f:Nat) (args:List C) (L:TL) (ρ:TEnv) (K:TL → TEnv → C → Prop):Prop where
 out:∃ (ks ko:List Nat) (Lin:List TO) (R:List TO → C → Prop),L.sub ks = some Lin ∧ nodup? ks = true ∧ nodup? ko = true ∧ koOk L ks ko = true ∧ boxesAt Lin ks ko = true ∧
   CallsT P f (args.map fun c => c.canA.ren (toIn ks 1000)) (Lin.map (TO.mapC (C.ren (toIn ks 1000)))) R ∧
   ∀ v Mo,R Mo v → Wf v → (∀ o ∈ Mo,o.Wf) → ko.length = Mo.length ∧
    K (((L.dels ks).kills (rowsOf L ks)).puts ko (Mo.map (TO.mapC (C.ren (fromIn ko))))) (killsE (rowsOf L ks) ρ) (v.ren (fromIn ko)).slt
def disjB:List Nat → List Nat → Bool
 | [],_ => true
 | k :: ks,fb => match mem? fb k with | true => false | false => disjB ks fb
structure CallXDT (P:Program) (PS:Pan) (fb:List Nat) (f:Nat) (args:List C) (L:TL) (ρ:TEnv) (K:TL → TEnv → C → Prop):Prop where
 out:∃ (ks:List Nat) (Lin:List TO) (R:List TO → C → Prop) (Pp:Value → Prop),L.sub ks = some Lin ∧ nodup? ks = true ∧ disjB ks fb = true ∧ boxesAt Lin ks ks = true ∧ hbOk L ks PS.hb = true ∧
   CallsTX P f (args.map fun c => c.canA.ren (toIn ks 1000)) (Lin.map (TO.mapC (C.ren (toIn ks 1000)))) R Pp ∧ (∀ v,Pp v → PS.ps v) ∧
   ∀ v Mo,R Mo v → Wf v → (∀ o ∈ Mo,o.Wf) → ks.length = Mo.length ∧
    K (((L.dels ks).kills (rowsOf L ks)).puts ks (Mo.map (TO.mapC (C.ren (fromIn ks))))) (killsE (rowsOf L ks) ρ) (v.ren (fromIn ks)).slt
def entOk (P:Program) (f:Nat):Prop:=∃ fn,P.funcs[f]? = some fn ∧ fn.body.isSome = true ∧ (fn.name == "runtime.NumGoroutine") = false
structure LendT (P:Program) (f:Nat) (args:List C) (t sz:Nat) (els:List (List C)) (x:C):Prop where
 out:∀ (F:Frz) (rv:Value) (xs vs:List Value),RelO F (inp [.row rv t sz els.length xs]) (.row t sz els) (.row rv t sz els.length xs) → Rels F (inp [.row rv t sz els.length xs]) args vs →
  CallsA P f vs.toArray F [.row rv t sz els.length xs] (fun F' Lo v => Lo = [.row rv t sz els.length xs] ∧ Rel F' (inp []) x v)
inductive CallDT (P:Program) (f:Nat) (args:List C) (L:TL) (ρ:TEnv) (d:Option Nat) (K:TL → TEnv → C → Prop):Prop
 | frz (R:List TO → C → Prop) (h:CallsT P f (args.map fun c => c.canA.ren (toIn [] 1000)) [] R) (k:∀ v Mo,R Mo v → Wf v → Mo = [] ∧ K L ρ v.slt)
 | own (R:List TO → C → Prop) (k:Nat) (h:CallsT P f (args.map fun c => c.canA.ren (toIn [] 1000)) [] R) (hd:d = some k) (hk:L.get k = none)
   (kk:∀ v Mo,R Mo v → Wf v → (∀ o ∈ Mo,o.Wf) → ∃ o,Mo = [o] ∧ K (L.set k (o.mapC (C.ren (fromIn [k])))) ρ (v.ren (fromIn [k])).slt)
 | row (R:List TO → C → Prop) (kr t sz:Nat) (els:List (List C)) (he:entOk P f) (hk:L.get kr = some (.row t sz els)) (h:CallsT P f (args.map fun c => (c.frz kr els).canA.ren (toIn [] 1000)) [] R)
   (kk:∀ v Mo,R Mo v → Wf v → Mo = [] ∧ K ((L.mapC (C.kill kr)).set kr (.row t sz [])) (fun j => (ρ j).kill kr) v.slt)
 | lent (kr t sz:Nat) (els:List (List C)) (x:C) (hk:L.get kr = some (.row t sz els)) (h:LendT P f (args.map fun c => c.canA.ren (toIn [kr] 1000)) t sz els x) (k:Wf x → K L ρ x.slt)
def cvB:Value → C
 | .int k n => .int k n
 | .bool b => .bool b
 | .string s => .str s
 | _ => .any
def isNil:X → Bool
 | .c (.slice none 0 0) => true
 | _ => false
def isNilP:X → Bool
 | .c (.pointer none) => true
 | _ => false
def isNilF:X → Bool
 | .c .nilFunc => true
 | _ => false
def eqCs:List Bool → List C → List C → Bool → Option Bool
 | [],[],[],acc => some acc
 | true :: ks,.int k a :: l,.int k' b :: l',acc => match kindEq k k' with | true => eqCs ks l l' (acc && decide (a = b)) | false => none
 | false :: ks,.bool a :: l,.bool b :: l',acc => eqCs ks l l' (acc && decide (a = b))
 | _,_,_,_ => none
structure InvT (P:Program) (t:TypeId) (nm:String) (K:Nat → Prop):Prop where
 out:∃ f,methP P t nm = some f ∧ K f
def isIfc (P:Program) (t:TypeId):Bool:=match P.underlying t with | some (.interface _) => true | _ => false
def builtK (ρ:TEnv):List (Nat × Nat × X) → List C → (List C → Prop) → Prop
 | [],zs,K => K zs
 | (off,n,x) :: ps,zs,K => match (evT ρ x).okc,lenC? (tcells (evT ρ x)) n with
  | true,true => fl (tcells (evT ρ x)) fun vs => fl (spliceC zs off vs) fun zs => builtK ρ ps zs K
  | _,_ => False
theorem builtK_eq {ρ:TEnv}:∀ {ps:List (Nat × Nat × X)} {zs:List C} {K:List C → Prop},builtK ρ ps zs K → ∃ cs,builtT ρ zs ps = some cs ∧ K cs
 | [],zs,K,h => ⟨zs,rfl,h⟩
 | (off,n,x) :: ps,zs,K,h => by
  simp only [builtK] at h
  simp only [builtT]
  split at h
  ·rename_i h1 h2
   rw [fl_eq,fl_eq] at h
   first
   | exact builtK_eq h
   | (rw [h1,h2]; exact builtK_eq h)
  ·exact h.elim
structure OpqLen (k:Nat) (K:Nat → Prop):Prop where
 out:∃ n,opqLen k = some n ∧ n ≤ 9223372036854775807 ∧ K n
def tyB (t:Nat):Bool:=match Nat.beq t 0 with | true => false | false => Nat.ble t 1048575
def outT (o:SOp) (L:TL) (ρ:TEnv) (V:C → Prop):Prop :=
 match o with
 | .mov x => V (evT ρ x)
 | .pick c a b => match evT ρ c with
  | .bool t => brn t (V (evT ρ a)) (V (evT ρ b))
  | _ => False
 | .build zs ps => fl (zs.map cv0) fun zs => builtK ρ ps zs fun cs => V (.agg cs)
 | .load agg n x => match evT ρ x with
  | .own k off => match L.get k with
   | some (.box _ cs) => match lenC? ((cs.drop off).take n) n with
    | true => V (asC agg ((cs.drop off).take n))
    | false => False
   | _ => False
  | .pt es off => match lenC? ((es.drop off).take n) n with
   | true => V (asC agg ((es.drop off).take n))
   | false => False
  | .ownv k off => match L.get k with
   | some (.box _ cs) => match lenC? ((cs.drop off).take n) n with
    | true => V (asC agg ((cs.drop off).take n))
    | false => False
   | _ => False
  | .elr k j off => match L.get k with
   | some (.row _ _ els) => RowT els j off n fun cs => V (asC agg cs)
   | _ => False
  | _ => False
 | .loadR agg n x => match evT ρ x with
  | .own k off => match L.get k with
   | some (.box _ cs) => match lenC? ((cs.drop off).take n) n with
    | true => V (asC agg ((cs.drop off).take n))
    | false => False
   | _ => False
  | .pt es off => match lenC? ((es.drop off).take n) n with
   | true => V (asC agg ((es.drop off).take n))
   | false => False
  | .ownv k off => match L.get k with
   | some (.box _ cs) => match lenC? ((cs.drop off).take n) n with
    | true => V (asC agg ((cs.drop off).take n))
    | false => False
   | _ => False
  | .elr k j off => match L.get k with
   | some (.row _ _ els) => RowT els j off n fun cs => V (asC agg cs)
   | _ => False
  | _ => False
 | .loadD agg n x => match evT ρ x with
  | .own k off => match L.get k with
   | some (.box _ cs) => match lenC? ((cs.drop off).take n) n with
    | true => V (asC agg ((cs.drop off).take n))
    | false => False
   | _ => False
  | .pt es off => match lenC? ((es.drop off).take n) n with
   | true => V (asC agg ((es.drop off).take n))
   | false => False
  | _ => False
 | .gload g => match globOpq g with
  | some k => V (.opq k)
  | none => False
 | .loadF agg n x => match evT ρ x with
  | .pt es off => match lenC? ((es.drop off).take n) n with
   | true => V (asC agg ((es.drop off).take n))
   | false => False
  | _ => False
 | .loadK key agg n x => match evT ρ x with
  | .own k off => match Nat.beq k key with
   | true => match L.get k with
    | some (.box _ cs) => match lenC? ((cs.drop off).take n) n with
     | true => V (asC agg ((cs.drop off).take n))
     | false => False
    | _ => False
   | false => False
  | _ => False
 | .b2sD x => match (evT ρ x).can with
  | .sl els => BytesT els fun bs => V (.str ⟨bs.toArray⟩)
  | _ => False
 | .b2sR x => match evT ρ x with
  | .rw k => match L.get k with
   | some (.row _ sz els) => match Nat.beq sz 1 with
    | true => BytesT els fun bs => V (.str ⟨bs.toArray⟩)
    | false => False
   | _ => False
  | _ => False
 | .nilck x => match evT ρ x with
  | .own k off => V (.own k off)
  | .pt es off => V (.pt es off)
  | .ownv k off => V (.ownv k off)
  | .fn f fi ca => V (.fn f fi ca)
  | .mval nm c => match c with
   | .ifc t c => mOk mOkL t nm = true ∧ V (.mval nm (.ifc t c))
   | _ => False
  | _ => False
 | .mkmv nm x => match evT ρ x with
  | .ifc t c => V (.mval nm (.ifc t c))
  | _ => False
 | .bin op x y => match evT ρ x,evT ρ y with
  | .int k a,.int k' b => match isSh op with
   | true => shI op k a b fun v => V (cvB v)
   | false => match kindEq k k' with
    | true => binI op k a b fun v => V (cvB v)
    | false => False
  | .str a,.str b => binS op a b fun v => V (cvB v)
  | _,_ => False
 | .eqB neg x y => match evT ρ x,evT ρ y with
  | .bool a,.bool b => V (.bool (ngb neg (decide (a = b))))
  | _,_ => False
 | .eqP neg x y => match isNilP y,evT ρ x with
  | true,.own _ _ => V (.bool (ngb neg false))
  | true,.ownv _ _ => V (.bool (ngb neg false))
  | true,.pt _ _ => V (.bool (ngb neg false))
  | true,.nilp => V (.bool (ngb neg true))
  | _,_ => False
 | .eqS neg x y => match isNil y,evT ρ x with
  | true,.sl els => ∀ b,(els ≠ [] → b = false) → V (.bool (ngb neg b))
  | true,.slx _ => V (.bool (ngb neg false))
  | true,.nils => V (.bool (ngb neg true))
  | _,_ => False
 | .eqF neg x y => match isNilF y,evT ρ x with
  | true,.nilf => V (.bool (ngb neg true))
  | true,.fn _ _ _ => V (.bool (ngb neg false))
  | _,_ => False
 | .eqN neg x => match evT ρ x with
  | .ifc _ _ => V (.bool (ngb neg false))
  | .opq k => match opqNil k with
   | some b => V (.bool (ngb neg b))
   | none => False
  | _ => False
 | .eqA neg ks x y => match evT ρ x,evT ρ y with
  | .agg cs,.agg ds => match eqCs ks cs ds true with
   | some b => V (.bool (ngb neg b))
   | none => False
  | _,_ => False
 | .mkif t x => match evT ρ x with
  | .int k n => V (.ifc t (.int k n))
  | .bool b => V (.ifc t (.bool b))
  | .str s => V (.ifc t (.str s))
  | .pt es off => V (.ifc t (.pt es off))
  | .agg cs => match puresL cs with
   | true => fl cs fun cs => V (.ifc t (.agg cs))
   | false => False
  | _ => False
 | .un op x => match op,evT ρ x with
  | .not,.bool b => V (.bool (!b))
  | .neg,.int k n => Fit k (0 - n) fun m => V (.int k m)
  | .xor,.int k n => V (.int k (k.wrap (BitVec.ofInt k.bits (if k.signed then -1 else k.max) ^^^ BitVec.ofInt k.bits n).toNat))
  | _,_ => False
 | .conv k x => match evT ρ x with
  | .int _ n => Fit k n fun m => V (.int k m)
  | _ => False
 | .b2s x => match (evT ρ x).can with
  | .sl els => BytesT els fun bs => V (.str ⟨bs.toArray⟩)
  | _ => False
 | .mkfn f fi ca => V (.fn f (evalsT ρ fi) (evalsT ρ ca))
 | .slc sz x lo hi => match (evT ρ x).can with
  | .sl els => match optT ρ 0 lo,optT ρ els.length hi with
   | some l,some h => SlcT l h els sz fun l h => V (.sl ((els.drop l).take (h - l)))
   | _,_ => False
  | _ => False
 | .slcS x lo hi => match evT ρ x with
  | .str s => match optT ρ 0 lo,optT ρ s.size hi with
   | some l,some h => SlcPt l h s.size fun l h => V (.str (s.extract l h))
   | _,_ => False
  | _ => False
 | .fieldA off x => match evT ρ x with
  | .own k o => V (.own k (o + off))
  | .pt es o => V (.pt es (o + off))
  | .elr k j o => V (.elr k j (o + off))
  | .ownv k o => V (.ownv k (o + off))
  | _ => False
 | .fieldV agg off n x => match evT ρ x with
  | .agg cs => match lenC? ((cs.drop off).take n) n with
   | true => V (asC agg ((cs.drop off).take n))
   | false => False
  | _ => False
 | .idxA sz x i => match (evT ρ x).can,evT ρ i with
  | .sl els,.int _ i => IdxT els i sz fun es => V (.pt es 0)
  | .rw k,.int _ i => match L.get k with
   | some (.row _ sz' els) => match Nat.beq sz sz' with
    | true => InB i els.length (V (.elr k i.toNat 0))
    | false => False
   | _ => False
  | _,_ => False
 | .idxS x i => match evT ρ x,evT ρ i with
  | .str s,.int _ i => InB i s.size (V (.int .u8 ((s.data.toList.getD i.toNat 0).toNat)))
  | _,_ => False
 | .extr x i => match evT ρ x with
  | .tup vs => match vs[i]? with
   | some v => V v.slt
   | none => False
  | _ => False
 | .len x => match (evT ρ x).can with
  | .sl els => V (.int .i64 els.length)
  | .rw k => match L.get k with
   | some (.row _ _ els) => V (.int .i64 els.length)
   | _ => False
  | .opq k => OpqLen k fun n => V (.int .i64 n)
  | _ => False
 | .lenS x => match evT ρ x with
  | .str s => V (.int .i64 s.size)
  | _ => False
 | .mlook str ok z x i => match evT ρ x with
  | .mpr k => match L.get k with
   | some (.map es) => MLookT str es (evT ρ i) (fun v => match ok with | true => V (.tup [v,.bool true]) | false => V v.slt) (match ok with | true => V (.tup [cv z,.bool false]) | false => V (cv z))
   | _ => False
  | _ => False
 | .mlen x => match evT ρ x with
  | .mpr k => match L.get k with
   | some (.map es) => es.length ≤ maxLen ∧ V (.int .i64 es.length)
   | _ => False
  | _ => False
 | .mm mx args => match args.map (evT ρ) with
  | .int k a :: l => match mmT mx a l with
   | some m => (Lit.int k m).wf = true ∧ V (.int k m)
   | none => False
  | _ => False
 | _ => False
abbrev TK:=TL → TEnv → Prop
def storeT (dr:Bool) (n:Nat) (a x:X) (d:Option Nat) (L:TL) (ρ:TEnv) (K:TK):Prop :=
 match (evT ρ x).okc,lenC? (tcells (evT ρ x)) n,onesL (tcells (evT ρ x)),evT ρ a with
 | true,true,true,.own k off => match L.get k with
  | some (.box t cs) => match lenC? ((cs.drop off).take n) n with
   | true => fl (spliceC cs off (tcells (evT ρ x))) fun cs => K (L.set k (.box t cs)) (tput d .und ρ)
   | false => False
  | _ => False
 | true,true,true,.elr k j off => match dr,L.get k,puresL (tcells (evT ρ x)) with
  | false,some (.row t sz els),true => Nat.ble (off + n) sz = true ∧ RowT els j off n fun _ => ∀ es,els[j]? = some es → K (L.set k (.row t sz (els.set j (spliceC es off ((tcells (evT ρ x)).map C.can))))) (tput d .und ρ)
  | _,_,_ => False
 | _,_,_,_ => False
def appT (e sz bytes:Nat) (s x:C) (d:Option Nat) (L:TL) (ρ:TEnv) (K:TK):Prop :=
 match s,x.can,d with
 | .rw k,.sl news,_ => match L.get k with
  | some (.row e' sz' els) => match Nat.beq e e',Nat.beq sz sz' with
   | true,true => AppT els news sz bytes (fT ((L.mapC (C.kill k)).set k (.row e sz (els ++ news))) fun L => K L (tput d (.rw k) fun j => (ρ j).kill k))
   | _,_ => False
  | _ => False
 | .nils,.sl news,some k => match L.get k with
  | none => AppT [] news sz bytes (fT (L.set k (.row e sz news)) fun L => K L (tput d (.rw k) ρ))
  | some _ => False
 | .slx els,.sl news,some k => match L.get k with
  | none => 0 < news.length ∧ (∀ es ∈ els,es.length = sz) ∧ AppT els news sz bytes (fT (L.set k (.row e sz (els ++ news))) fun L => K L (tput d (.rw k) ρ))
  | some _ => False
 | .rw k,.rw k',_ => match L.get k,L.get k' with
  | some (.row e' sz' els),some (.row e'' sz'' news) => match Nat.beq e e',Nat.beq sz sz',Nat.beq sz sz'' with
   | true,true,true => AppT els news sz bytes (fT ((L.mapC (C.kill k)).set k (.row e sz (els ++ news))) fun L => K L (tput d (.rw k) fun j => (ρ j).kill k))
   | _,_,_ => False
  | _,_ => False
 | .nils,.rw k',some k => match L.get k,L.get k' with
  | none,some (.row e'' sz'' news) => match Nat.beq sz sz'' with
   | true => AppT [] news sz bytes (K (L.set k (.row e sz news)) (tput d (.rw k) ρ))
   | false => False
  | _,_ => False
 | _,_,_ => False
def evalTOp (P:Program) (o:SOp) (d:Option Nat) (L:TL) (ρ:TEnv) (K:TK):Prop :=
 match o with
 | .box t x => match d with
  | some k => match L.get k,(evT ρ x).okc,tyB t with
   | none,true,true => fl (tcells (evT ρ x)) fun cs => K (L.set k (.box t cs)) (tput d (.own k 0) ρ)
   | _,_,_ => False
  | none => False
 | .boxD t x => match d with
  | some k => match L.get k,(evT ρ x).okc,tyB t with
   | none,true,true => fl (tcells (evT ρ x)) fun cs => K (L.set k (.box t cs)) (tput d (.own k 0) ρ)
   | _,_,_ => False
  | none => False
 | .boxF t x => match (evT ρ x).okc,onesL (tcells (evT ρ x)),puresL (tcells (evT ρ x)) with
  | true,true,true => fl ((tcells (evT ρ x)).map C.can) fun cs => K L (tput d (.pt cs 0) ρ)
  | _,_,_ => False
 | .alloc t zs => match d with
  | some k => match L.get k,tyB t with
   | none,true => fl (zs.map cv0) fun cs => K (L.set k (.box t cs)) (tput d (.own k 0) ρ)
   | _,_ => False
  | none => False
 | .allocD t zs => match d with
  | some k => match L.get k,tyB t with
   | none,true => fl (zs.map cv0) fun cs => K (L.set k (.box t cs)) (tput d (.own k 0) ρ)
   | _,_ => False
  | none => False
 | .mkF e n sz xs => match partsT ρ sz xs,Nat.beq xs.length n,Nat.ble n 9223372036854775807 with
  | true,true,true => K L (tput d (.slx (elsT ρ xs)) ρ)
  | _,_,_ => False
 | .mkFD e n sz xs => match partsT ρ sz xs,Nat.beq xs.length n,Nat.ble n 9223372036854775807 with
  | true,true,true => K L (tput d (.slx (elsT ρ xs)) ρ)
  | _,_,_ => False
 | .mkR e n sz xs => match partsT ρ sz xs,Nat.beq xs.length n,Nat.ble n 9223372036854775807,d with
  | true,true,true,some k => match L.get k with
   | none => K (L.set k (.row e sz (elsT ρ xs))) (tput d (.rw k) ρ)
   | some _ => False
  | _,_,_,_ => False
 | .s2b _ x => match evT ρ x with
  | .str s => K L (tput d (.sl (bcells s.data.toList)) ρ)
  | _ => False
 | .makeS e sz bytes zs l c => match evT ρ l,evT ρ c,d with
  | .int _ n,.int _ m,some k => match L.get k,lenC? (zs.map cv0) sz,onesL (zs.map cv0) with
   | none,true,true => MakePt n m bytes fun n => K (L.set k (.row e sz (List.replicate n ((zs.map cv0).map C.can)))) (tput d (.rw k) ρ)
   | _,_,_ => False
  | _,_,_ => False
 | .makeSD e sz n zs => match d with
  | some k => match L.get k,lenC? (zs.map cv0) sz,(Nat.beq n 0 || onesL (zs.map cv0)),Nat.ble n 9223372036854775807 with
   | none,true,true,true => K (L.set k (.row e sz (List.replicate n ((zs.map cv0).map C.can)))) (tput d (.rw k) ρ)
   | _,_,_,_ => False
  | none => False
 | .storeK key n a x => match evT ρ a with
  | .own k _ => match Nat.beq k key with
   | true => storeT true n a x d L ρ K
   | false => False
  | _ => False
 | .copy _ _ _ _ => False
 | .copyX _ _ _ _ => False
 | .storeX n a x => storeT false n a x d L ρ K
 | .store n a x => storeT false n a x d L ρ K
 | .storeD n a x => storeT true n a x d L ρ K
 | .call f args => fl (evalsT ρ args) fun args => CallT P f args L ρ fun L' ρ' v => fT L' fun L' => fca v fun v => K L' (tput d v ρ')
 | .callV f args => match evT ρ f with
  | .fn f fi ca => fl (fi ++ evalsT ρ args ++ ca) fun args => CallT P f args L ρ fun L' ρ' v => fT L' fun L' => fca v fun v => K L' (tput d v ρ')
  | .mval nm c => match c with
   | .ifc t c => InvT P t nm fun f => fl (evalsT ρ args) fun args => CallT P f (c :: args) L ρ fun L' ρ' v => fT L' fun L' => fca v fun v => K L' (tput d v ρ')
   | _ => False
  | .mof t nm => match isIfc P t,evalsT ρ args with
   | true,.ifc t' c :: rest => InvT P t' nm fun f => fl rest fun rest => CallT P f (c :: rest) L ρ fun L' ρ' v => fT L' fun L' => fca v fun v => K L' (tput d v ρ')
   | _,_ => False
  | _ => False
 | .callD f args => fl (evalsT ρ args) fun args => CallDT P f args L ρ d fun L' ρ' v => fT L' fun L' => fca v fun v => K L' (tput d v ρ')
 | .callVD f args => match evT ρ f with
  | .fn f fi ca => fl (fi ++ evalsT ρ args ++ ca) fun args => CallDT P f args L ρ d fun L' ρ' v => fT L' fun L' => fca v fun v => K L' (tput d v ρ')
  | .mval nm c => match c with
   | .ifc t c => InvT P t nm fun f => fl (evalsT ρ args) fun args => CallDT P f (c :: args) L ρ d fun L' ρ' v => fT L' fun L' => fca v fun v => K L' (tput d v ρ')
   | _ => False
  | _ => False
 | .callO f args => fl (evalsT ρ args) fun args => CallT0 P f args L ρ fun L' ρ' v => fT L' fun L' => fca v fun v => K L' (tput d v ρ')
 | .callVO f args => match evT ρ f with
  | .fn f fi ca => fl (fi ++ evalsT ρ args ++ ca) fun args => CallT0 P f args L ρ fun L' ρ' v => fT L' fun L' => fca v fun v => K L' (tput d v ρ')
  | _ => False
 | .mkmap => match d with
  | some k => match L.get k with
   | none => K (L.set k (.map [])) (tput d (.mpr k) ρ)
   | some _ => False
  | none => False
 | .mupd str x i v => match evT ρ x with
  | .mpr k => match L.get k,keyC? str (evT ρ i),(evT ρ v).okc,puresL (tcells (evT ρ v)) with
   | some (.map es),true,true,true => MUpdT str es (evT ρ i) ((evT ρ v).cel.canA) fun es => K (L.set k (.map es)) (tput d .und ρ)
   | _,_,_,_ => False
  | _ => False
 | .look x i => match evT ρ x,evT ρ i with
  | .opq k,.int .i64 n => match opqLook k n with
   | some (r,b) => K L (tput d (.tup [.int .i64 r,.bool b]) ρ)
   | none => False
  | _,_ => False
 | .app e sz bytes _ s x => appT e sz bytes (evT ρ s) (evT ρ x) d L ρ K
 | .appX e sz bytes _ s x => appT e sz bytes (evT ρ s) (evT ρ x) d L ρ K
 | .appD e sz bytes _ s x => match evT ρ s,(evT ρ x).can,d with
  | .rw k,.sl news,_ => match L.get k with
   | some (.row e' sz' els) => match Nat.beq e e',Nat.beq sz sz' with
    | true,true => AppT els news sz bytes (fT ((L.mapC (C.kill k)).set k (.row e sz (els ++ news))) fun L => K L (tput d (.rw k) fun j => (ρ j).kill k))
    | _,_ => False
   | _ => False
  | .nils,.sl news,some k => match L.get k with
   | none => AppT [] news sz bytes (fT (L.set k (.row e sz news)) fun L => K L (tput d (.rw k) ρ))
   | some _ => False
  | .slx els,.sl news,some k => match L.get k with
   | none => 0 < news.length ∧ (∀ es ∈ els,es.length = sz) ∧ AppT els news sz bytes (fT (L.set k (.row e sz (els ++ news))) fun L => K L (tput d (.rw k) ρ))
   | some _ => False
  | _,_,_ => False
 | .appS e s x => match evT ρ s,evT ρ x,d with
  | .rw k,.str t,_ => match L.get k with
   | some (.row e' sz' els) => match Nat.beq e e',Nat.beq 1 sz' with
    | true,true => AppT els (bcells t.data.toList) 1 1 (fT ((L.mapC (C.kill k)).set k (.row e 1 (els ++ bcells t.data.toList))) fun L => K L (tput d (.rw k) fun j => (ρ j).kill k))
    | _,_ => False
   | _ => False
  | .nils,.str t,some k => match L.get k with
   | none => AppT [] (bcells t.data.toList) 1 1 (K (L.set k (.row e 1 (bcells t.data.toList))) (tput d (.rw k) ρ))
   | some _ => False
  | _,_,_ => False
 | .appZ e bytes ki s x => match evT ρ s,evT ρ x,d with
  | .rw k,.int _ i,_ => match L.get k with
   | some (.row e' sz' els) => match Nat.beq e e',Nat.beq 1 sz' with
    | true,true => ZerosT i fun m => AppT els (List.replicate m [.int ki 0]) 1 bytes (fT ((L.mapC (C.kill k)).set k (.row e 1 (els ++ List.replicate m [.int ki 0]))) fun L => K L (tput d (.rw k) fun j => (ρ j).kill k))
    | _,_ => False
   | _ => False
  | .nils,.int _ i,some k => match L.get k with
   | none => ZerosT i fun m => AppT [] (List.replicate m [.int ki 0]) 1 bytes (K (L.set k (.row e 1 (List.replicate m [.int ki 0]))) (tput d (.rw k) ρ))
   | some _ => False
  | _,_,_ => False
 | o => outT o L ρ fun v => fca v fun v => K L (tput d v ρ)
def evalTP (P:Program) (PS:Pan) (o:SOp) (d:Option Nat) (L:TL) (ρ:TEnv) (K:TK):Prop :=
 match o with
 | .call f args => fl (evalsT ρ args) fun args => CallXT P PS f args L ρ fun L' ρ' v => fT L' fun L' => fca v fun v => K L' (tput d v ρ')
 | .callV f args => match evT ρ f with
  | .fn f fi ca => fl (fi ++ evalsT ρ args ++ ca) fun args => CallXT P PS f args L ρ fun L' ρ' v => fT L' fun L' => fca v fun v => K L' (tput d v ρ')
  | _ => False
 | .pan x => PanT PS L (evT ρ x)
 | _ => False
def evalTX (P:Program) (PS:Pan) (fb:List Nat) (o:SOp) (d:Option Nat) (L:TL) (ρ:TEnv) (K:TK):Prop :=
 match o with
 | .call f args => fl (evalsT ρ args) fun args => CallXDT P PS fb f args L ρ fun L' ρ' v => fT L' fun L' => fca v fun v => K L' (tput d v ρ')
 | .callV f args => match evT ρ f with
  | .fn f fi ca => fl (fi ++ evalsT ρ args ++ ca) fun args => CallXDT P PS fb f args L ρ fun L' ρ' v => fT L' fun L' => fca v fun v => K L' (tput d v ρ')
  | _ => False
 | _ => False
def newsT:List SStep → TL → Bool
 | [],_ => true
 | s :: l,L => match newK s with
  | none => newsT l L
  | some k => match L.get k with | none => newsT l L | some _ => false
def normD (d:Option Nat) (ρ:TEnv):TEnv :=
 match d with
 | some k => fun j => match Nat.beq j k with | true => (ρ k).toOwn | false => ρ j
 | none => ρ
def normR (dr:Bool) (d:Option Nat) (ρ:TEnv):TEnv:=match dr with | true => ρ | false => normD d ρ
def stepT (P:Program) (PS:Pan) (dr:Bool) (s:SStep) (ih:TL → TEnv → TK → Prop) (L:TL) (ρ:TEnv) (K:TK):Prop :=
 match s with
 | .op d o none => evalTOp P o d L ρ fun L' ρ' => ih L' (normR dr d ρ') K
 | .op d o (some (s,want)) => match ρ s with
  | .bool b => brn b
    (match want with
     | true => evalTOp P o d L (tput (some s) (.bool true) ρ) fun L' ρ' => ih L' (normR dr d ρ') K
     | false => ih L (tput d .und (tput (some s) (.bool true) ρ)) K)
    (match want with
     | false => evalTOp P o d L (tput (some s) (.bool false) ρ) fun L' ρ' => ih L' (normR dr d ρ') K
     | true => ih L (tput d .und (tput (some s) (.bool false) ρ)) K)
  | .und => ih L (tput d .und ρ) K
  | _ => False
 | .frz k => match dr,L.get k with
  | false,some (.row _ _ els) => fT ((L.del k).mapC (C.frz k els)) fun L => ih L (fun j => (ρ j).frz k els) K
  | false,some (.box _ cs) => match onesL cs,puresL cs,Nat.blt k 1000,mem? (PS.hb.map (·.1)) k with
   | true,true,true,false => fT ((L.del k).mapC (C.frb k cs)) fun L => ih L (fun j => (ρ j).frb k cs) K
   | _,_,_,_ => False
  | _,_ => False
 | .pc d o none => match dr with
  | true => False
  | false => evalTP P PS o d L ρ fun L' ρ' => ih L' (normD d ρ') K
 | .pc d o (some (s,want)) => match dr,ρ s with
  | false,.bool b => brn b
    (match want with
     | true => evalTP P PS o d L (tput (some s) (.bool true) ρ) fun L' ρ' => ih L' (normD d ρ') K
     | false => ih L (tput d .und (tput (some s) (.bool true) ρ)) K)
    (match want with
     | false => evalTP P PS o d L (tput (some s) (.bool false) ρ) fun L' ρ' => ih L' (normD d ρ') K
     | true => ih L (tput d .und (tput (some s) (.bool false) ρ)) K)
  | false,.und => ih L (tput d .und ρ) K
  | _,_ => False
def stepX (P:Program) (PS:Pan) (fb:List Nat) (s:SStep) (ih:TL → TEnv → TK → Prop) (L:TL) (ρ:TEnv) (K:TK):Prop :=
 match s with
 | .pc d o none => evalTX P PS fb o d L ρ fun L' ρ' => ih L' ρ' K
 | s => stepT P PS true s ih L ρ K
noncomputable def evalTOps (P:Program) (PS:Pan) (dr:Bool) (ss:List SStep):TL → TEnv → TK → Prop :=
 List.rec (motive:=fun _ => TL → TEnv → TK → Prop) (fun L ρ K => K L ρ) (fun s _ ih L ρ K => stepT P PS dr s ih L ρ K) ss
noncomputable def evalTOpsX (P:Program) (PS:Pan) (fb:List Nat) (ss:List SStep):TL → TEnv → TK → Prop :=
 List.rec (motive:=fun _ => TL → TEnv → TK → Prop) (fun L ρ K => K L ρ) (fun s _ ih L ρ K => stepX P PS fb s ih L ρ K) ss
theorem evalTOpsX_cons {P:Program} {PS:Pan} {fb:List Nat} {s:SStep} {rest:List SStep} {L:TL} {ρ:TEnv} {K:TK}:evalTOpsX P PS fb (s :: rest) L ρ K = stepX P PS fb s (evalTOpsX P PS fb rest) L ρ K:=rfl
theorem evalTOps_cons {P:Program} {PS:Pan} {dr:Bool} {s:SStep} {rest:List SStep} {L:TL} {ρ:TEnv} {K:TK}:evalTOps P PS dr (s :: rest) L ρ K = stepT P PS dr s (evalTOps P PS dr rest) L ρ K:=rfl
def resT:List C → C
 | [v] => v
 | l => .tup l
def retT (L:TL) (ρ:TEnv):List RV → (List C → Prop) → Prop
 | [],K => K []
 | (t,none) :: l,K => retT L ρ l fun vs => K ((ρ t).cel :: vs)
 | (t,some (agg,n)) :: l,K => match ρ t with
  | .own k off => match L.get k with
   | some (.box _ cs) => match lenC? ((cs.drop off).take n) n with
    | true => retT L ρ l fun vs => K ((asC agg ((cs.drop off).take n)).cel :: vs)
    | false => False
   | _ => False
  | _ => False
structure RetT (Lin:List TO) (L:TL) (v:C) (R:List TO → C → Prop):Prop where
 out:∃ (fz ko:List Nat),frzK fz L (fun _ => .any) [v] fun L _ vs =>
  ∃ (L1:TL) (c c1:C) (Mo:List TO),vs = [c] ∧ ((L1 = L ∧ c1 = c) ∨ (gives L L1 L1 ∧ leC L L1 c c1)) ∧ L1.sub ko = some Mo ∧ nodup? ko = true ∧ boxesAt Lin (List.range' 1000 Lin.length) ko = true ∧
   (WfS [c1] → R (Mo.map (TO.mapC (C.ren (toIn ko 1000)))) (c1.canR.ren (toIn ko 1000)))
def headE (asg:List Nat) (ρ:TEnv):TEnv:=fun j => match mem? asg j with | true => .any | false => (ρ j).unrw
structure LoopT (body:TL → TEnv → TK → Prop) (asg:List Nat) (L:TL) (ρ:TEnv):Prop where
 out:∃ (σ:Type) (x0:σ) (Inv:σ → Prop) (ls:List Nat) (lv:σ → List C) (Lf:σ → TL) (μ:σ → Nat),
  Inv x0 ∧ holdsT L (Lf x0) ls (lv x0) ρ ∧ gives L (Lf x0) (Lf x0) ∧ (∀ x,keepsT L (Lf x) = true) ∧ (∀ x,(lv x).length = ls.length) ∧
  ∀ x,Inv x → WfS (lv x) → (∀ k o,(Lf x).get k = some o → o.Wf) → body (Lf x) (putsT ls (lv x) (headE asg ρ)) fun L' ρ' =>
   ∃ x',Inv x' ∧ holdsT L' (Lf x') ls (lv x') ρ' ∧ gives L' (Lf x') (Lf x') ∧ μ x' < μ x
def frzKeysS:List SStep → List Nat
 | [] => []
 | .frz k :: l => k :: frzKeysS l
 | .op _ _ _ :: l => frzKeysS l
 | .pc _ _ _ :: l => frzKeysS l
def frzKeys:SCode → List Nat
 | .reg ops => frzKeysS ops
 | .regD ops => frzKeysS ops
 | .regX ops => frzKeysS ops
 | .seq a b => frzKeys a ++ frzKeys b
 | .cond _ a b => frzKeys a ++ frzKeys b
 | .block _ c => frzKeys c
 | .loop _ c => frzKeys c
 | _ => []
def noBoxT (L:TL):List Nat → Bool
 | [] => true
 | k :: ks => match L.get k with | some (.box _ _) => false | some (.map _) => false | _ => noBoxT L ks
noncomputable def evalTC (P:Program) (PS:Pan) (c:SCode):(Nat → TK) → TK → TK → TK :=
 SCode.rec (motive:=fun _ => (Nat → TK) → TK → TK → TK)
  (fun _ _ N L ρ => N L ρ)
  (fun ops _ _ N L ρ => evalTOps P PS false ops L ρ N)
  (fun ops _ _ N L ρ => evalTOps P PS true ops L ρ N)
  (fun ops _ _ N L ρ => match newsT ops L with | true => evalTOpsX P PS (fbOf ops) ops L ρ N | false => False)
  (fun _ _ iha ihb E R N L ρ => iha E R (fun L ρ => ihb E R N L ρ) L ρ)
  (fun c _ _ iha ihb E R N L ρ => match evT ρ c with
   | .bool t => brn t (iha E R N L ρ) (ihb E R N L ρ)
   | _ => False)
  (fun id _ ih E R N L ρ => ih (fun j => match Nat.beq j id with | true => N | false => E j) R N L ρ)
  (fun asg c ih E R _ L ρ => match noBoxT L (frzKeys c) with | true => LoopT (fun L ρ K => ih E R K L ρ) asg L ρ | false => False)
  (fun id E _ _ L ρ => E id L ρ)
  (fun _ R _ L ρ => R L ρ) c
section
variable {P:Program} {PS:Pan} {E:Nat → TK} {R N:TK} {L:TL} {ρ:TEnv}
theorem evalTC_skip:evalTC P PS .skip E R N L ρ = N L ρ:=rfl
theorem evalTC_reg {ops:List SStep}:evalTC P PS (.reg ops) E R N L ρ = evalTOps P PS false ops L ρ N:=rfl
theorem evalTC_regD {ops:List SStep}:evalTC P PS (.regD ops) E R N L ρ = evalTOps P PS true ops L ρ N:=rfl
theorem evalTC_regX {ops:List SStep}:evalTC P PS (.regX ops) E R N L ρ = (match newsT ops L with | true => evalTOpsX P PS (fbOf ops) ops L ρ N | false => False):=rfl
theorem evalTC_seq {a b:SCode}:evalTC P PS (.seq a b) E R N L ρ = evalTC P PS a E R (fun L ρ => evalTC P PS b E R N L ρ) L ρ:=rfl
theorem evalTC_cond {c:X} {a b:SCode}:evalTC P PS (.cond c a b) E R N L ρ = (match evT ρ c with
   | .bool t => brn t (evalTC P PS a E R N L ρ) (evalTC P PS b E R N L ρ)
   | _ => False):=rfl
theorem evalTC_block {id:Nat} {c:SCode}:evalTC P PS (.block id c) E R N L ρ = evalTC P PS c (fun j => match Nat.beq j id with | true => N | false => E j) R N L ρ:=rfl
theorem evalTC_loop {asg:List Nat} {c:SCode}:evalTC P PS (.loop asg c) E R N L ρ = (match noBoxT L (frzKeys c) with | true => LoopT (fun L ρ K => evalTC P PS c E R K L ρ) asg L ρ | false => False):=rfl
theorem evalTC_exit {id:Nat}:evalTC P PS (.exit id) E R N L ρ = E id L ρ:=rfl
theorem evalTC_ret:evalTC P PS .ret E R N L ρ = R L ρ:=rfl
end
def argT:Nat → List C → TEnv
 | _,[] => fun _ => .und
 | k,v :: l => tput (some k) v (argT (k + 1) l)
theorem wf_wrap (k:IntKind) (n:Int):(Lit.int k (k.wrap n)).wf = true:=by
 cases k <;> simp [Lit.wf,IntKind.wrap,IntKind.min,IntKind.max,IntKind.bits,IntKind.signed] <;> (try split) <;> omega
theorem wf_iff (k:IntKind) (n:Int):(Lit.int k n).wf = true ↔ k.min ≤ n ∧ n ≤ k.max:=by simp [Lit.wf]
theorem kmin_le (k:IntKind):k.min ≤ 0:=by cases k <;> simp [IntKind.min,IntKind.bits,IntKind.signed]
theorem kmax_le (k:IntKind):127 ≤ k.max:=by cases k <;> simp [IntKind.max,IntKind.bits,IntKind.signed]
def okB:Value → Prop
 | .int k n => (Lit.int k n).wf = true
 | .bool _ => True
 | .string s => s.size ≤ maxLen
 | _ => False
section
variable {P:Program} {G:Nat → Option (Nat × TypeId)} {F:Frz} {L:Loc} {ρ:Env} {M:TL} {τ:TEnv}
theorem relV_cvB {v:Value} (h:okB v):RelV F L (cvB v) (.v v):=by
 cases v
 case int k n => exact ⟨.int k n,rfl,by simp only [cvB,Rel]; exact ⟨trivial,h⟩⟩
 case bool b => exact ⟨.bool b,rfl,by simp only [cvB,Rel]⟩
 case string b => exact ⟨.string b,rfl,by simp only [cvB,Rel]; exact ⟨trivial,h⟩⟩
 all_goals exact h.elim
theorem tmod_wf {k:IntKind} {a b:Int} (h:(Lit.int k a).wf = true):(Lit.int k (a.tmod b)).wf = true:=by
 rw [wf_iff] at h ⊢
 have h0:=kmin_le k
 have h1:=kmax_le k
 by_cases ha:0 ≤ a
 ·have:=Int.tmod_nonneg b ha
  have h2:a.tmod b ≤ a:=by
   have:(a.tmod b).natAbs ≤ a.natAbs:=by rw [Int.natAbs_tmod]; exact Nat.mod_le _ _
   omega
  omega
 ·have h2:(a.tmod b).natAbs ≤ a.natAbs:=by rw [Int.natAbs_tmod]; exact Nat.mod_le _ _
  have h3:a.tmod b ≤ 0:=by
   have:=Int.tmod_nonneg b (show 0 ≤ -a by omega)
   rw [Int.neg_tmod] at this
   omega
  omega
theorem fdiv_wf {k:IntKind} {a:Int} {m:Nat} (h:(Lit.int k a).wf = true):(Lit.int k (a.fdiv (2 ^ m))).wf = true:=by
 rw [wf_iff] at h ⊢
 have h0:=kmin_le k
 have h1:=kmax_le k
 have hp:(0:Int) < 2 ^ m:=Int.pow_pos (by omega)
 rw [Int.fdiv_eq_ediv_of_nonneg _ (by omega)]
 by_cases ha:0 ≤ a
 ·have h2:=Int.ediv_nonneg ha (Int.le_of_lt hp)
  have h3:=Int.ediv_le_self (2 ^ m) ha
  omega
 ·have h2:a / 2 ^ m < 0:=Int.ediv_neg_of_neg_of_pos (by omega) hp
  have h3:a ≤ a / 2 ^ m:=by
   have:a * 1 ≤ a / 2 ^ m:=by
    apply Int.le_ediv_of_mul_le hp
    rw [Int.mul_one]
    have:a * 2 ^ m ≤ a * 1:=Int.mul_le_mul_of_nonpos_left (by omega) (by omega)
    omega
   omega
  omega
theorem binI_mono {op:BinOp} {k:IntKind} {a b:Int} {K K':Value → Prop} (ha:(Lit.int k a).wf = true) (h:binI op k a b K) (hk:∀ v,okB v → K v → K' v):binI op k a b K':=by
 cases op <;> simp only [binI] at h ⊢ <;> first
  | exact h.elim
  | exact ⟨hk _ (wf_wrap _ _) h.out⟩
  | exact ⟨h.ne,⟨hk _ (wf_wrap _ _) h.out.out⟩⟩
  | exact ⟨h.ne,hk _ (tmod_wf ha) h.out⟩
  | exact hk _ (wf_wrap _ _) h
  | exact hk _ trivial h
theorem shI_mono {op:BinOp} {k:IntKind} {a b:Int} {K K':Value → Prop} (ha:(Lit.int k a).wf = true) (h:shI op k a b K) (hk:∀ v,okB v → K v → K' v):shI op k a b K':=by
 cases op <;> simp only [shI] at h ⊢ <;> first
  | exact h.elim
  | exact ⟨h.1,⟨hk _ (wf_wrap _ _) h.2.out⟩⟩
  | exact ⟨h.1,hk _ (fdiv_wf ha) h.2⟩
theorem binS_mono {op:BinOp} {a b:ByteArray} {K K':Value → Prop} (h:binS op a b K) (hk:∀ v,okB v → K v → K' v):binS op a b K':=by
 cases op <;> simp only [binS] at h ⊢ <;> first
  | exact h.elim
  | exact hk _ trivial h
  | exact ⟨h.1,hk _ (by
    have h1:=h.1
    simp [IntKind.max,IntKind.bits,IntKind.signed] at h1
    show (a ++ b).size ≤ maxLen
    rw [ByteArray.size_append]
    simp only [maxLen]
    omega) h.2⟩
theorem cv0_rel (v:Value):Rel F L (cv0 v) v:=by
 unfold cv0
 split
 ·split
  ·rename_i h; simp only [Rel]; exact ⟨trivial,h⟩
  ·simp only [Rel]
 ·simp only [Rel]
 ·split
  ·rename_i h; simp only [Rel]; exact ⟨trivial,Nat.le_of_ble_eq_true h⟩
  ·simp only [Rel]
 ·simp only [Rel]
 ·simp only [Rel]
 ·simp only [Rel]
 ·simp only [Rel]; exact opq_nil
 ·simp only [Rel]
 ·simp only [Rel]
theorem cv0s_rel:∀ vs:List Value,Rels F L (vs.map cv0) vs
 | [] => by simp only [List.map_nil,Rels]
 | v :: vs => by simp only [List.map_cons,Rels]; exact ⟨v,vs,rfl,cv0_rel v,cv0s_rel vs⟩
theorem cv0_v (v:Value):RelV F L (cv0 v) (.v v):=by
 have h:=cv0_rel (F:=F) (L:=L) v
 revert h
 unfold cv0
 split
 ·split
  ·exact fun h => ⟨_,rfl,h⟩
  ·exact fun h => trivial
 ·exact fun h => ⟨_,rfl,h⟩
 ·split
  ·exact fun h => ⟨_,rfl,h⟩
  ·exact fun h => trivial
 ·exact fun h => ⟨_,rfl,h⟩
 ·exact fun h => ⟨_,rfl,h⟩
 ·exact fun h => ⟨_,rfl,h⟩
 ·exact fun h => ⟨_,rfl,h⟩
 ·exact fun h => ⟨_,rfl,h⟩
 ·exact fun h => trivial
theorem cv_v (v:Value):RelV F L (cv v) (.v v):=by
 unfold cv
 split
 ·rename_i cs
  exact ⟨_,rfl,by simp only [Rel]; exact ⟨cs.toList,by simp,cv0s_rel _⟩⟩
 ·exact cv0_v v
theorem ev_rel (h:∀ j,RelV F L (τ j) (ρ j)) (x:X):RelV F L (evT τ x) (ev ρ x):=by
 cases x with
 | t n => exact h n
 | c v => exact cv_v v
 | fn f => exact ⟨_,rfl,by simp only [evT,Rel]; exact ⟨[],[],by simp,by simp only [Rels],by simp only [Rels]⟩⟩
 | mt nm n =>
  have hn:=h n
  simp only [evT,ev,mtC]
  split
  ·rename_i t c e
   rw [e] at hn
   simp only [RelV] at hn ⊢
   obtain ⟨v,e1,hr⟩:=hn
   rw [e1]
   refine ⟨_,rfl,?_⟩
   simp only [Rel] at hr ⊢
   exact ⟨v,rfl,hr⟩
  ·simp only [RelV]
theorem inv_int {x:X} {k:IntKind} {n:Int} (h:∀ j,RelV F L (τ j) (ρ j)) (e:evT τ x = .int k n):ev ρ x = .v (.int k n) ∧ (Lit.int k n).wf = true:=by
 have:=ev_rel h x
 rw [e] at this
 simp only [RelV,Rel] at this
 obtain ⟨v,h1,rfl,h2⟩:=this
 exact ⟨h1,h2⟩
theorem inv_bool {x:X} {b:Bool} (h:∀ j,RelV F L (τ j) (ρ j)) (e:evT τ x = .bool b):ev ρ x = .v (.bool b):=by
 have:=ev_rel h x
 rw [e] at this
 simp only [RelV,Rel] at this
 obtain ⟨v,h1,rfl⟩:=this
 exact h1
theorem inv_str {x:X} {s:ByteArray} (h:∀ j,RelV F L (τ j) (ρ j)) (e:evT τ x = .str s):ev ρ x = .v (.string s) ∧ s.size ≤ maxLen:=by
 have:=ev_rel h x
 rw [e] at this
 simp only [RelV,Rel] at this
 obtain ⟨v,h1,rfl,h2⟩:=this
 exact ⟨h1,h2⟩
theorem inv_sl {x:X} {els:List (List C)} (h:∀ j,RelV F L (τ j) (ρ j)) (e:evT τ x = .sl els) :
  ∃ a c sz,ev ρ x = .v (.slice a els.length c) ∧ els.length ≤ c ∧ els.length ≤ maxLen ∧ (a = none → els = [] ∧ c = 0) ∧ RelS F a sz 0 els:=by
 have:=ev_rel h x
 rw [e] at this
 simp only [RelV,Rel] at this
 obtain ⟨v,h1,a,c,rfl,h2,h3,h4,sz,h5⟩:=this
 exact ⟨a,c,sz,h1,h2,h3,h4,h5⟩
theorem inv_nils {x:X} (h:∀ j,RelV F L (τ j) (ρ j)) (e:evT τ x = .nils):ev ρ x = .v (.slice none 0 0):=by
 have:=ev_rel h x
 rw [e] at this
 simp only [RelV,Rel] at this
 obtain ⟨v,h1,rfl⟩:=this
 exact h1
theorem inv_rw {x:X} {k:Nat} (h:∀ j,RelV F L (τ j) (ρ j)) (e:evT τ x = .rw k):∃ a c t sz n xs,ev ρ x = .v (.slice a n c) ∧ L.get k = some (.row (.slice a n c) t sz n xs):=by
 have:=ev_rel h x
 rw [e] at this
 simp only [RelV,Rel] at this
 obtain ⟨v,h1,a,c,t,sz,n,xs,rfl,h2⟩:=this
 exact ⟨a,c,t,sz,n,xs,h1,h2⟩
theorem inv_own {x:X} {k off:Nat} (h:∀ j,RelV F L (τ j) (ρ j)) (e:evT τ x = .own k off):ev ρ x = .own k off ∧ ∃ g t cs,L.get k = some (.box g t cs):=by
 have:=ev_rel h x
 rw [e] at this
 simp only [RelV] at this
 exact this
theorem inv_ownv {x:X} {k off:Nat} (h:∀ j,RelV F L (τ j) (ρ j)) (e:evT τ x = .ownv k off):∃ g t cs,L.get k = some (.box g t cs) ∧ SvV (ev ρ x) (.pointer (some ⟨g,off,none⟩)):=by
 have:=ev_rel h x
 rw [e] at this
 simp only [RelV,Rel] at this
 obtain ⟨v,h1,g,t,cs,h2,rfl⟩:=this
 exact ⟨g,t,cs,h2,h1⟩
theorem inv_fn {x:X} {f:Nat} {fi ca:List C} (h:∀ j,RelV F L (τ j) (ρ j)) (e:evT τ x = .fn f fi ca):∃ fi' ca',ev ρ x = .v (.func (.func f) fi'.toArray ca'.toArray) ∧ Rels F L fi fi' ∧ Rels F L ca ca':=by
 have:=ev_rel h x
 rw [e] at this
 simp only [RelV,Rel] at this
 obtain ⟨v,h1,fi',ca',rfl,h2,h3⟩:=this
 exact ⟨fi',ca',h1,h2,h3⟩
theorem inv_agg {x:X} {cs:List C} (h:∀ j,RelV F L (τ j) (ρ j)) (e:evT τ x = .agg cs):∃ vs,ev ρ x = .v (.agg vs.toArray) ∧ Rels F L cs vs:=by
 have:=ev_rel h x
 rw [e] at this
 simp only [RelV,Rel] at this
 obtain ⟨v,h1,vs,rfl,h2⟩:=this
 exact ⟨vs,h1,h2⟩
theorem inv_tup {x:X} {cs:List C} (h:∀ j,RelV F L (τ j) (ρ j)) (e:evT τ x = .tup cs):∃ vs,ev ρ x = .v (.tuple vs.toArray) ∧ Rels F L cs vs:=by
 have:=ev_rel h x
 rw [e] at this
 simp only [RelV,Rel] at this
 obtain ⟨v,h1,vs,rfl,h2⟩:=this
 exact ⟨vs,h1,h2⟩
theorem inv_nilp {x:X} (h:∀ j,RelV F L (τ j) (ρ j)) (e:evT τ x = .nilp):ev ρ x = .v (.pointer none):=by
 have:=ev_rel h x
 rw [e] at this
 simp only [RelV,Rel] at this
 obtain ⟨v,h1,rfl⟩:=this
 exact h1
theorem inv_nilf {x:X} (h:∀ j,RelV F L (τ j) (ρ j)) (e:evT τ x = .nilf):ev ρ x = .v .nilFunc:=by
 have:=ev_rel h x
 rw [e] at this
 simp only [RelV,Rel] at this
 obtain ⟨v,h1,rfl⟩:=this
 exact h1
theorem inv_ifc {x:X} {t:TypeId} {c:C} (h:∀ j,RelV F L (τ j) (ρ j)) (e:evT τ x = .ifc t c):∃ u,ev ρ x = .v (.iface t u) ∧ Rel F [] c u:=by
 have:=ev_rel h x
 rw [e] at this
 simp only [RelV,Rel] at this
 obtain ⟨v,h1,u,rfl,h2⟩:=this
 exact ⟨u,h1,h2⟩
theorem inv_opq {x:X} {k:Nat} (h:∀ j,RelV F L (τ j) (ρ j)) (e:evT τ x = .opq k):∃ v,ev ρ x = .v v ∧ OpqRel k F v:=by
 have:=ev_rel h x
 rw [e] at this
 simp only [RelV,Rel] at this
 exact this
theorem inv_mval {x:X} {nm:String} {c:C} (h:∀ j,RelV F L (τ j) (ρ j)) (e:evT τ x = .mval nm c):∃ u,ev ρ x = .v (.func (.method nm) #[u] #[]) ∧ Rel F [] c u:=by
 have:=ev_rel h x
 rw [e] at this
 simp only [RelV,Rel] at this
 obtain ⟨v,h1,u,rfl,h2⟩:=this
 exact ⟨u,h1,h2⟩
theorem inv_mof {x:X} {t:TypeId} {nm:String} (h:∀ j,RelV F L (τ j) (ρ j)) (e:evT τ x = .mof t nm):ev ρ x = .v (.func (.methodOf t nm) #[] #[]):=by
 have:=ev_rel h x
 rw [e] at this
 simp only [RelV,Rel] at this
 obtain ⟨v,h1,rfl⟩:=this
 exact h1
theorem inv_pt {x:X} {es:List C} {off:Nat} (h:∀ j,RelV F L (τ j) (ρ j)) (e:evT τ x = .pt es off) :
  ∃ b o j vs,(ev ρ x = .v (.pointer (some ⟨b,o,none⟩)) ∧ j = 0 ∨ ev ρ x = .el (some ⟨b,o,none⟩) j) ∧ PtB F b (o + j) off vs ∧ onesL es = true ∧ Rels F [] es vs:=by
 have:=ev_rel h x
 rw [e] at this
 simp only [RelV] at this
 exact this
theorem inv_elr {x:X} {k j off:Nat} (h:∀ j,RelV F L (τ j) (ρ j)) (e:evT τ x = .elr k j off) :
  ∃ ad t sz n c xs,ev ρ x = .el (some ad) (j * sz + off) ∧ L.get k = some (.row (.slice (some ad) n c) t sz n xs):=by
 have:=ev_rel h x
 rw [e] at this
 simp only [RelV] at this
 exact this
theorem tl_box (h:RelTL F L M) {k:Nat} {t:TypeId} {cs:List C} (e:M.get k = some (.box t cs)):∃ g t' vs,L.get k = some (.box g t' vs) ∧ Rels F L cs vs ∧ tyOk t g t':=by
 have:=h k
 rw [e] at this
 cases hL:L.get k with
 | none => rw [hL] at this; exact this.elim
 | some o =>
  rw [hL] at this
  cases o with
  | row => exact this.elim
  | box g t' vs => obtain ⟨h1,h2⟩:=this; exact ⟨g,t',vs,rfl,h2,h1⟩
theorem tl_row (h:RelTL F L M) {k:Nat} {t:TypeId} {sz:Nat} {els:List (List C)} (e:M.get k = some (.row t sz els)) :
  ∃ v xs,L.get k = some (.row v t sz els.length xs) ∧ (els.length ≤ maxLen ∧ ∃ a c,v = .slice a els.length c ∧ (a = none → els.length = 0)) ∧ RelRow F sz els xs:=by
 have:=h k
 rw [e] at this
 cases hL:L.get k with
 | none => rw [hL] at this; exact this.elim
 | some o =>
  rw [hL] at this
  cases o with
  | box => exact this.elim
  | row v t' sz' n xs => obtain ⟨rfl,rfl,rfl,h2,h3⟩:=this; exact ⟨v,xs,rfl,h2,h3⟩
theorem tl_none (h:RelTL F L M) {k:Nat} (e:M.get k = none):L.get k = none:=by
 have:=h k
 rw [e] at this
 cases hL:L.get k with
 | none => rfl
 | some o => rw [hL] at this; exact this.elim
theorem lenC_eq:∀ {l:List C} {n:Nat},lenC? l n = true → l.length = n
 | [],0,_ => rfl
 | [],n + 1,h => by simp [lenC?] at h
 | _ :: l,0,h => by simp [lenC?] at h
 | _ :: l,n + 1,h => by simp only [lenC?] at h; simp [lenC_eq h]
theorem len_of:∀ {l:List Value} {n:Nat},l.length = n → len? l n = true
 | [],0,_ => rfl
 | [],n + 1,h => by simp at h
 | _ :: l,0,h => by simp at h
 | _ :: l,n + 1,h => by simp only [len?]; exact len_of (by simpa using h)
theorem slt_rel {c:C} {v:Value} (h:Rel F L c v):RelV F L c.slt (.v v):=by
 cases c <;> (try simp only [C.slt]) <;> try exact ⟨v,rfl,h⟩
 case any => trivial
 case pt es off =>
  simp only [Rel] at h
  obtain ⟨b,o,vs,rfl,h2,h3⟩:=h
  exact ⟨b,o,0,vs,.inl ⟨rfl,rfl⟩,h2,h3⟩
 case own => exact ⟨v,.inl rfl,h⟩
 case ownv => exact h.elim
 case elr => exact h.elim
theorem asC_rel {agg:Bool} {cs:List C} {vs:List Value} (h:Rels F L cs vs):RelV F L (asC agg cs) (.v (asVal agg vs)):=by
 cases agg with
 | true => exact ⟨_,rfl,by simp only [asC,asVal,Rel]; exact ⟨vs,rfl,h⟩⟩
 | false =>
  match cs,vs,h with
  | [],vs,h => trivial
  | [c],vs,h =>
   simp only [Rels] at h
   obtain ⟨v,vs',rfl,h1,rfl⟩:=h
   exact slt_rel h1
  | _ :: _ :: _,vs,h => trivial
theorem SvV.conc {sv:SV} {v:Value} (h:SvV sv v):Fr.conc L sv = v:=by
 rcases h with rfl | ⟨b,o,j,rfl,rfl⟩
 ·rfl
 ·simp only [Fr.conc,add_none]
theorem cel_rel {c:C} {sv:SV} (h:RelV F L c sv) (hc:c.one = true ∨ (∃ k o,c = .ownv k o) ∨ c = .any ∨ (∃ k j o,c = .elr k j o) ∨ (∃ l,c = .agg l) ∨ (∃ l,c = .tup l) ∨ c = .und):Rel F L c.cel (conc L sv):=by
 cases c <;> simp only [C.cel] <;> simp only [RelV] at h
 case own k off =>
  obtain ⟨rfl,g,t,cs,h⟩:=h
  simp only [Rel,conc,h]
  exact ⟨g,t,cs,rfl,rfl⟩
 case ownv k off =>
  obtain ⟨v,hv,h⟩:=h
  rw [hv.conc]
  exact h
 case pt es off =>
  obtain ⟨b,o,j,vs,h1,h2,h3,h4⟩:=h
  simp only [Rel]
  rcases h1 with ⟨rfl,rfl⟩ | rfl
  ·exact ⟨b,o,vs,rfl,h2,h3,h4⟩
  ·exact ⟨b,o + j,vs,by simp only [conc,add_none],h2,h3,h4⟩
 case elr => simp only [Rel]
 case any => simp only [Rel]
 all_goals
  obtain ⟨v,rfl,h⟩:=h
  simpa only [conc] using h
theorem cel_rel' {c:C} {sv:SV} (h:RelV F L c sv):Rel F L c.cel (conc L sv):=by
 apply cel_rel h
 cases c <;> simp [C.one]
theorem val_rel (h:∀ j,RelV F L (τ j) (ρ j)) (x:X):Rel F L (evT τ x).cel (val L ρ x):=cel_rel' (ev_rel h x)
theorem evals_rel (h:∀ j,RelV F L (τ j) (ρ j)):∀ xs:List X,Rels F L (evalsT τ xs) (evals L ρ xs)
 | [] => by simp only [evalsT,evals,Rels]
 | x :: xs => by simp only [evalsT,evals,Rels]; exact ⟨_,_,rfl,val_rel h x,evals_rel h xs⟩
theorem tcells_rel {c:C} {sv:SV} (h:RelV F L c sv) (hc:c.okc = true):Rels F L (tcells c) (vcells (conc L sv)):=by
 have h1:=cel_rel' h
 cases c <;> simp only [C.okc,Bool.false_eq_true] at hc <;> simp only [tcells] <;> simp only [C.cel] at h1 ⊢
 case agg cs =>
  simp only [Rel] at h1
  obtain ⟨vs,h2,h3⟩:=h1
  rw [h2]
  simpa only [vcells] using h3
 all_goals
  simp only [Rels]
  refine ⟨_,[],?_,h1,rfl⟩
  revert h1
  generalize conc L sv = v
  intro h1
  simp only [Rel] at h1
  first
   | (have h2:=OpqRel.one h1; cases v <;> first | rfl | (exact absurd h2 (by decide)) | (simp [Value.oneCell'] at h2))
   | (obtain ⟨rfl,_⟩:=h1; rfl)
   | (subst h1; rfl)
   | (obtain ⟨_,rfl,_⟩:=h1; rfl)
   | (obtain ⟨_,_,rfl,_⟩:=h1; rfl)
   | (obtain ⟨_,_,_,rfl,_⟩:=h1; rfl)
   | (obtain ⟨_,_,_,_,_,_,rfl,_⟩:=h1; rfl)
   | (obtain ⟨_,_,_,_,rfl⟩:=h1; rfl)
theorem vals_cells (h:∀ j,RelV F L (τ j) (ρ j)) {x:X} (hc:(evT τ x).okc = true):Rels F L (tcells (evT τ x)) (vcells (val L ρ x)):=tcells_rel (ev_rel h x) hc
theorem spliceC_rel {cs:List C} {vs:List Value} {off:Nat} {ds:List C} {us:List Value} (h:Rels F L cs vs) (k:Rels F L ds us):Rels F L (spliceC cs off ds) (splice vs off us):=by
 simp only [spliceC,splice]
 rw [← k.len]
 exact ((h.take off).append k).append (h.drop _)
theorem built_rel (h:∀ j,RelV F L (τ j) (ρ j)):∀ (ps:List (Nat × Nat × X)) {zs:List C} {vs:List Value} {cs:List C},Rels F L zs vs → builtT τ zs ps = some cs → ∃ us,built L ρ vs ps = some us ∧ Rels F L cs us
 | [],zs,vs,cs,hz,hb => by
  simp only [builtT,Option.some.injEq] at hb
  subst hb
  exact ⟨vs,rfl,hz⟩
 | (off,n,x) :: ps,zs,vs,cs,hz,hb => by
  simp only [builtT] at hb
  split at hb
  case h_2 => cases hb
  rename_i h1 h2
  have hc:=vals_cells h h1
  have hl:len? (vcells (val L ρ x)) n = true:=len_of (by rw [hc.len]; exact lenC_eq h2)
  simp only [built,hl]
  exact built_rel h ps (spliceC_rel hz hc) hb
theorem opt_rel (h:∀ j,RelV F L (τ j) (ρ j)) {d i:Int} {x:Option X} (e:optT τ d x = some i):optI ρ d x = some i:=by
 cases x with
 | none => exact e
 | some x =>
  simp only [optT] at e
  split at e
  case h_2 => cases e
  rename_i k j hj
  injection e with e
  subst e
  simp only [optI,(inv_int h hj).1]
theorem mm_rel (h:∀ j,RelV F L (τ j) (ρ j)) (mx:Bool):∀ (args:List X) {a m:Int},mmT mx a (args.map (evT τ)) = some m → mmI mx a (args.map (ev ρ)) = some m
 | [],a,m,e => e
 | x :: args,a,m,e => by
  simp only [List.map_cons] at e ⊢
  cases hx:evT τ x <;> rw [hx] at e <;> simp only [mmT,reduceCtorEq] at e
  rw [(inv_int h hx).1]
  exact mm_rel h mx args e
theorem RelS_slc {a:Option Addr} {sz:Nat} {els:List (List C)} {c l h:Nat} (hr:RelS F a sz 0 els) (hn:a = none → els = [] ∧ c = 0) (hl:l ≤ h) (hh:h ≤ els.length) (hc:els.length ≤ c) :
  RelS F (if c = l then a else a.map (·.add (l * sz))) sz 0 ((els.drop l).take (h - l)):=by
 rw [RelS_iff] at hr ⊢
 intro j es he
 rw [List.getElem?_take] at he
 split at he
 case isFalse => cases he
 rename_i hj
 rw [List.getElem?_drop] at he
 obtain ⟨vs,h1,h2,h3,h4⟩:=hr _ es he
 have hlt:l + j < els.length:=(List.getElem?_eq_some_iff.1 he).1
 rw [if_neg (by omega)]
 refine ⟨vs,h1,?_,h3,h4⟩
 obtain ⟨ad,arr,t,fr,e,hb,hsp,hv⟩:=h2
 subst e
 obtain ⟨b,o,sp⟩:=ad
 simp only at hsp
 subst hsp
 refine ⟨⟨b,o + l * sz,none⟩,arr,t,fr,by simp only [Option.map_some,add_none],hb,rfl,fun i v hi => ?_⟩
 have:=hv i v hi
 simp only [Nat.zero_add,Nat.add_mul] at this ⊢
 rw [show o + l * sz + j * sz + i = o + (l * sz + j * sz) + i by omega]
 exact this
theorem pt_cells {b o j off n:Nat} {es:List C} {vs:List Value} (hp:PtB F b (o + j) off vs):FCells F (some ⟨b,o,none⟩) j ((vs.drop off).take n):=by
 obtain ⟨base,arr,t,fr,h1,h2,h3⟩:=hp
 refine ⟨_,arr,t,fr,rfl,h1,rfl,fun i v hv => ?_⟩
 rw [List.getElem?_take] at hv
 split at hv
 case isFalse => cases hv
 rw [List.getElem?_drop] at hv
 have:=h3 _ _ hv
 show arr[o + j + i]? = _
 rw [h2,Nat.add_assoc]
 exact this
theorem pures_rel {L':Loc} {cs:List C} {vs:List Value} (hp:puresL cs = true) (h:Rels F L cs vs):Rels F L' cs vs:=by
 have leafP:∀ (c:C) (v:Value),c.leafPure = true → Rel F L c v → Rel F L' c v:=by
  intro c v hc h
  cases c <;> simp only [C.leafPure,Bool.false_eq_true] at hc <;> simp only [Rel] at h ⊢ <;> exact h
 have leavesP:∀ (cs:List C) (vs:List Value),leavesPure cs = true → Rels F L cs vs → Rels F L' cs vs:=by
  intro cs vs hc h
  rw [Rels_get] at h ⊢
  exact ⟨h.1,fun i c v h1 h2 => leafP c v (leavesPure_iff.1 hc c (List.mem_of_getElem? h1)) (h.2 i c v h1 h2)⟩
 rw [Rels_get] at h ⊢
 refine ⟨h.1,fun i c v h1 h2 => ?_⟩
 have hc:=puresL_iff.1 hp c (List.mem_of_getElem? h1)
 have hr:=h.2 i c v h1 h2
 cases c <;> first
  | exact leafP _ _ hc hr
  | (simp only [C.pure,C.leafPure,Bool.false_eq_true] at hc; done)
  | (simp only [C.pure] at hc
     split at hc
     case h_2 => cases hc
     rename_i hfi
     simp only [Rel] at hr ⊢
     obtain ⟨fi',ca',e1,e2,e3⟩:=hr
     exact ⟨fi',ca',e1,leavesP _ _ hfi e2,leavesP _ _ hc e3⟩)
theorem slx_sl {els:List (List C)} {v:Value} (h:Rel F L (.slx els) v):Rel F L (.sl els) v:=by
 simp only [Rel] at h ⊢
 obtain ⟨a,h1,h2,sz,h3⟩:=h
 exact ⟨some a,els.length,h1,Nat.le_refl _,h2,fun e => (by cases e),sz,h3⟩
theorem can_rel {c:C} {v:Value} (h:Rel F L c v):Rel F L c.can v:=by
 cases c <;> first
  | exact h
  | exact slx_sl h
  | (simp only [Rel] at h
     subst h
     simp only [C.can,Rel]
     exact ⟨none,0,by simp,by simp,by simp,fun _ => by simp,0,by simp only [RelS]⟩)
theorem cans_rel {cs:List C} {vs:List Value} (h:Rels F L cs vs):Rels F L (cs.map C.can) vs:=h.map fun c _ v => can_rel
theorem canA_rel {c:C} {v:Value} (h:Rel F L c v):Rel F L c.canA v:=by
 cases c <;> first
  | exact h
  | exact can_rel (c:=.nils) h
  | exact slx_sl h
  | (simp only [Rel] at h
     obtain ⟨vs,h1,h2⟩:=h
     simp only [C.canA,Rel]
     exact ⟨vs,h1,cans_rel h2⟩)
theorem relV_can {c:C} {sv:SV} (h:RelV F L c sv):RelV F L c.can sv:=by
 cases c <;> first
  | exact h
  | (obtain ⟨v,e,hr⟩:=h; exact ⟨v,e,slx_sl hr⟩)
  | (obtain ⟨v,e,hr⟩:=h; exact ⟨v,e,can_rel (c:=.nils) hr⟩)
theorem inv_slc {x:X} {els:List (List C)} (h:∀ j,RelV F L (τ j) (ρ j)) (e:(evT τ x).can = .sl els) :
  ∃ a c sz,ev ρ x = .v (.slice a els.length c) ∧ els.length ≤ c ∧ els.length ≤ maxLen ∧ (a = none → els = [] ∧ c = 0) ∧ RelS F a sz 0 els:=by
 have:=relV_can (ev_rel h x)
 rw [e] at this
 simp only [RelV,Rel] at this
 obtain ⟨v,h1,a,c,rfl,h2,h3,h4,sz,h5⟩:=this
 exact ⟨a,c,sz,h1,h2,h3,h4,h5⟩
theorem can_opq {c:C} {k:Nat} (e:c.can = .opq k):c = .opq k:=by cases c <;> simp only [C.can,reduceCtorEq] at e <;> exact e
theorem can_rw {c:C} {k:Nat} (e:c.can = .rw k):c = .rw k:=by cases c <;> simp only [C.can,reduceCtorEq] at e <;> exact e
theorem inv_slx {x:X} {els:List (List C)} (h:∀ j,RelV F L (τ j) (ρ j)) (e:evT τ x = .slx els) :
  ∃ a sz,ev ρ x = .v (.slice (some a) els.length els.length) ∧ els.length ≤ maxLen ∧ RelS F (some a) sz 0 els:=by
 have:=ev_rel h x
 rw [e] at this
 simp only [RelV,Rel] at this
 obtain ⟨v,h1,a,rfl,h2,sz,h3⟩:=this
 exact ⟨a,sz,h1,h2,h3⟩
theorem one_can {c:C} (h:c.one = true):c.can.one = true:=by cases c <;> first | exact h | rfl
theorem ones_can {cs:List C} (h:onesL cs = true):onesL (cs.map C.can) = true:=by
 rw [onesL_iff] at h ⊢
 intro c hc
 obtain ⟨d,hd,rfl⟩:=List.mem_map.1 hc
 exact one_can (h d hd)
theorem ones_vals {cs:List C} {vs:List Value} (h:Rels F L cs vs) (ho:onesL cs = true):∀ u ∈ vs,u.oneCell' = true:=by
 intro u hu
 obtain ⟨i,hi⟩:=List.mem_iff_getElem?.1 hu
 have hlt:i < cs.length:=by rw [← h.len]; exact (List.getElem?_eq_some_iff.1 hi).1
 have hr:=h.at (List.getElem?_eq_getElem hlt) hi
 exact hr.one (onesL_iff.1 ho _ (List.getElem_mem hlt))
theorem ones_of:∀ {vs:List Value},(∀ u ∈ vs,u.oneCell' = true) → ones? vs = true
 | [],_ => rfl
 | v :: vs,h => by simp only [ones?,h v (by simp)]; exact ones_of fun u hu => h u (by simp [hu])
end
section
variable {P:Program} {G:Nat → Option (Nat × TypeId)} {F:Frz} {L:Loc} {ρ:Env} {M:TL} {τ:TEnv}
theorem relV_int {k:IntKind} {n:Int} (h:(Lit.int k n).wf = true):RelV F L (.int k n) (.v (.int k n)):=⟨_,rfl,by simp only [Rel]; exact ⟨trivial,h⟩⟩
theorem relV_bool {b:Bool}:RelV F L (.bool b) (.v (.bool b)):=⟨_,rfl,by simp only [Rel]⟩
theorem relV_str {s:ByteArray} (h:s.size ≤ maxLen):RelV F L (.str s) (.v (.string s)):=⟨_,rfl,by simp only [Rel]; exact ⟨trivial,h⟩⟩
theorem relV_pt0 {es:List C} {vs:List Value} {ad:Addr} {j:Nat} {arr:Array Value} {t:TypeId} {fr:Nat × Nat} (hb:F ad.block = some (.cells arr t fr)) (hsp:ad.spot = none)
  (hv:∀ (i:Nat) v,vs[i]? = some v → arr[ad.off + j + i]? = some v) (h1:onesL es = true) (hr:Rels F [] es vs):RelV F L (.pt es 0) (.el (some ad) j):=by
 obtain ⟨b,o,sp⟩:=ad
 simp only at hsp
 subst hsp
 exact ⟨b,o,j,vs,.inr rfl,⟨o + j,arr,t,fr,hb,rfl,hv⟩,h1,hr⟩
theorem row_bytes:∀ {p:List UInt8} {xs:List Value},RelRow F 1 (bcells p) xs → xs = p.map fun b => Value.int .u8 b.toNat
 | [],xs,h => by simpa [bcells,RelRow] using h
 | b :: p,xs,h => by
  simp only [bcells,List.map_cons,RelRow] at h
  obtain ⟨vs,xs',rfl,h1,h2,h3,h4⟩:=h
  simp only [Rels,Rel] at h3
  obtain ⟨v,vs',rfl,⟨rfl,_⟩,rfl⟩:=h3
  rw [row_bytes (p:=p) h4]
  rfl
theorem bytes_cells {a:Option Addr} {sz c:Nat} {bs:List UInt8} (hr:RelS F a sz 0 (bcells bs)) (hn:a = none → bcells bs = [] ∧ c = 0) :
  (FCells F a 0 (bs.map fun b => Value.int .u8 b.toNat)) ∨ bs.length = 0:=by
 rw [RelS_iff] at hr
 cases hb:bs with
 | nil => exact .inr rfl
 | cons b0 rest =>
  refine .inl ?_
  have h0:=hr 0 [bcell b0] (by simp [bcells,hb])
  obtain ⟨us,h1,⟨ad,arr,t,fr,e,hbk,hsp,_⟩,_,h4⟩:=h0
  have hsz:sz = 1:=by rw [← h1,h4.len]; rfl
  subst hsz
  rw [← hb]
  refine ⟨ad,arr,t,fr,e,hbk,hsp,fun i v hi => ?_⟩
  simp only [List.getElem?_map,Option.map_eq_some_iff] at hi
  obtain ⟨b,hb1,rfl⟩:=hi
  obtain ⟨us,h1,⟨ad',arr',t',fr',e',hbk',hsp',hv⟩,_,h4⟩:=hr i [bcell b] (by simp [bcells,hb1])
  rw [e] at e'
  injection e' with e'
  subst e'
  rw [hbk] at hbk'
  injection hbk' with hbk'
  injection hbk' with q1 q2 q3
  subst q1
  simp only [Rels,Rel] at h4
  obtain ⟨u,us',rfl,⟨rfl,_⟩,rfl⟩:=h4
  have:=hv 0 _ (by simp; rfl)
  simpa using this
theorem relV_sl {els:List (List C)} {a:Option Addr} {c sz:Nat} (h1:els.length ≤ c) (h2:els.length ≤ maxLen) (h3:a = none → els = [] ∧ c = 0) (h4:RelS F a sz 0 els):RelV F L (.sl els) (.v (.slice a els.length c)) :=
 ⟨_,rfl,by simp only [Rel]; exact ⟨a,c,rfl,h1,h2,h3,sz,h4⟩⟩
set_option maxHeartbeats 1000000 in
theorem eqCs_vs:∀ {ks:List Bool} {cs ds:List C} {acc b:Bool} {vs us:List Value},eqCs ks cs ds acc = some b → Rels F L cs vs → Rels F L ds us → eqVs ks vs.toArray.toList us.toArray.toList acc = some b:=by
 intro ks
 induction ks with
 | nil =>
  intro cs ds acc b vs us h h1 h2
  cases cs with
  | cons c cs => simp [eqCs] at h
  | nil =>
   cases ds with
   | cons c cs => simp [eqCs] at h
   | nil =>
    simp only [Rels] at h1 h2
    subst h1 h2
    simpa [eqVs,eqCs] using h
 | cons k ks ih =>
  intro cs ds acc b vs us h h1 h2
  cases cs with
  | nil => cases k <;> simp [eqCs] at h
  | cons c cs =>
   cases ds with
   | nil => cases k <;> cases c <;> simp [eqCs] at h
   | cons c' ds =>
    cases k <;> cases c <;> try (simp [eqCs] at h; done)
    all_goals cases c' <;> try (simp [eqCs] at h; done)
    all_goals simp only [Rels,Rel] at h1 h2
    ·obtain ⟨v,vs',rfl,rfl,h1⟩:=h1
     obtain ⟨u,us',rfl,rfl,h2⟩:=h2
     simp only [eqCs] at h
     have:=ih h h1 h2
     simp only [eqVs]
     exact this
    ·obtain ⟨v,vs',rfl,⟨rfl,_⟩,h1⟩:=h1
     obtain ⟨u,us',rfl,⟨rfl,_⟩,h2⟩:=h2
     simp only [eqCs] at h
     split at h
     case h_2 => cases h
     rename_i hk
     have:=ih h h1 h2
     simp only [eqVs,hk]
     exact this
theorem cv_rel (v:Value):Rel F L (cv v) v:=by
 unfold cv
 split
 ·rename_i cs
  simp only [Rel]
  exact ⟨cs.toList,by simp,cv0s_rel _⟩
 ·exact cv0_rel v
theorem inv_mpr {x:X} {k:Nat} (h:∀ j,RelV F L (τ j) (ρ j)) (e:evT τ x = .mpr k):∃ g cs,ev ρ x = .v (.map (some g)) ∧ L.get k = some (.box g 0 cs):=by
 have:=ev_rel h x
 rw [e] at this
 simp only [RelV,Rel] at this
 obtain ⟨v,h1,g,cs,h2,rfl⟩:=this
 exact ⟨g,cs,h1,h2⟩
theorem tl_map (h:RelTL F L M) {k:Nat} {es:List (C × C)} (e:M.get k = some (.map es)):∃ g vs,L.get k = some (.box g 0 vs) ∧ RelE F es vs:=by
 have:=h k
 rw [e] at this
 cases hL:L.get k with
 | none => rw [hL] at this; exact this.elim
 | some o =>
  rw [hL] at this
  cases o with
  | row => exact this.elim
  | box g t' vs => obtain ⟨rfl,h2⟩:=this; exact ⟨g,vs,rfl,h2⟩
theorem RelE.isMap {es:List (C × C)} {vs:List Value} (h:RelE F es vs):isMapCs vs = true:=by
 cases es with
 | nil => simp only [RelE] at h; subst h; rfl
 | cons p l =>
  obtain ⟨k,c⟩:=p
  simp only [RelE] at h
  obtain ⟨kv,v,vs',rfl,_⟩:=h
  rfl
theorem RelE.len:∀ {es:List (C × C)} {vs:List Value},RelE F es vs → vs.length = es.length
 | [],vs,h => by simp only [RelE] at h; subst h; rfl
 | (k,c) :: l,vs,h => by
  simp only [RelE] at h
  obtain ⟨kv,v,vs',rfl,_,_,h⟩:=h
  simp [RelE.len h]
theorem keySame_rel {str:Bool} {a b:C} {u v:Value} {r:Bool} {L':Loc} (h:keySameC str a b = some r) (ha:Rel F L a u) (hb:Rel F L' b v):keySame str u v = some r:=by
 unfold keySameC at h
 split at h
 ·simp only [Rel] at ha hb
  rw [ha.1,hb.1]
  exact h
 ·simp only [Rel] at ha hb
  rw [ha.1,hb.1]
  exact h
 ·cases h
theorem find_rel {str:Bool} {key:C} {kv:Value} (hk:∀ b v r,keySameC str key b = some r → Rel F [] b v → keySame str kv v = some r):∀ {es:List (C × C)} {vs:List Value} {o:Option C} (i:Nat),RelE F es vs → findC str key es = some o →
  match o with | some c => ∃ j v,findV str kv vs i = some (some (j,v)) ∧ Rel F [] c v | none => findV str kv vs i = some none
 | [],vs,o,i,h,e => by
  simp only [RelE] at h
  subst h
  simp only [findC,Option.some.injEq] at e
  subst e
  rfl
 | (k,c) :: l,vs,o,i,h,e => by
  simp only [RelE] at h
  obtain ⟨u,v,vs',rfl,h1,h2,h3⟩:=h
  simp only [findC] at e
  split at e
  ·rename_i hs
   injection e with e
   subst e
   exact ⟨i,v,by simp only [findV,hk _ _ _ hs h1],h2⟩
  ·rename_i hs
   have:=find_rel hk (i + 1) h3 e
   simp only [findV,hk _ _ _ hs h1]
   exact this
  ·cases e
theorem relV_tup2 {c:C} {v:Value} {b:Bool} (h:Rel F L c v):RelV F L (.tup [c,.bool b]) (.v (.tuple #[v,.bool b])) :=
 ⟨_,rfl,by simp only [Rel,Rels]; exact ⟨[v,.bool b],rfl,v,_,rfl,h,_,[],rfl,rfl,rfl⟩⟩
theorem key_rel (h:∀ j,RelV F L (τ j) (ρ j)) {str:Bool} {x:X}:∀ b v r,keySameC str (evT τ x) b = some r → Rel F [] b v → keySame str (val L ρ x) v = some r:=by
 intro b v r hs hb
 refine keySame_rel (F:=F) (L:=L) hs ?_ hb
 have:=val_rel h x
 revert this
 cases hc:evT τ x <;> rw [hc] at hs <;> cases str <;> simp only [keySameC,reduceCtorEq] at hs <;> simp only [C.cel] <;> exact fun h => h
theorem simV {o:SOp} {V:C → Prop} (ht:TS G F L ρ M τ) (h:outT o M τ V):outV o F L ρ (fun sv => ∃ c,RelV F L c sv ∧ V c):=by
 have he:=ht.env
 cases o <;> simp only [outT] at h <;> simp only [outV]
 case mov x => exact ⟨_,ev_rel he x,h⟩
 case pick c a b =>
  split at h
  case h_2 => exact h.elim
  rename_i t hc
  rw [inv_bool he hc]
  cases t
  ·exact ⟨_,ev_rel he b,h⟩
  ·exact ⟨_,ev_rel he a,h⟩
 case build zs ps =>
  rw [fl_eq] at h
  obtain ⟨cs,hc,h⟩:=builtK_eq h
  obtain ⟨us,h1,h2⟩:=built_rel he ps (cv0s_rel zs) hc
  rw [h1]
  exact ⟨.agg cs,⟨_,rfl,by simp only [Rel]; exact ⟨us,rfl,h2⟩⟩,h⟩
 case load agg n x =>
  split at h
  ·rename_i k off hx
   obtain ⟨e1,_⟩:=inv_own he hx
   rw [e1]
   split at h
   case h_2 => exact h.elim
   rename_i t cs hk
   obtain ⟨g,ty,vs,hL,hr,hty⟩:=tl_box ht.tl hk
   split at h
   case h_2 => exact h.elim
   rename_i hl
   have hr2:=(hr.drop off).take n
   simp only [hL]
   rw [memB_of hty.2.2 (len_of (by rw [hr2.len]; exact lenC_eq hl))]
   exact ⟨_,asC_rel hr2,h⟩
  ·rename_i es off hx
   split at h
   case h_2 => exact h.elim
   rename_i hl
   obtain ⟨b,o,j,vs,e1,hp,ho,hr⟩:=inv_pt he hx
   have hr2:Rels F L ((es.drop off).take n) ((vs.drop off).take n):=((hr.drop off).take n).lift
   rcases e1 with ⟨e1,rfl⟩ | e1
   ·rw [e1]
    exact ⟨_,by rw [hr2.len]; exact lenC_eq hl,.inl (pt_cells (es:=es) hp),_,asC_rel hr2,h⟩
   ·rw [e1]
    exact ⟨_,by rw [hr2.len]; exact lenC_eq hl,.inl (pt_cells (es:=es) hp),_,asC_rel hr2,h⟩
  ·rename_i k off hx
   split at h
   case h_2 => exact h.elim
   rename_i t cs hk
   obtain ⟨g',ty',vs',e1,hsv⟩:=inv_ownv he hx
   obtain ⟨g,ty,vs,hL,hr,hty⟩:=tl_box ht.tl hk
   rw [hL] at e1
   injection e1 with e1
   injection e1 with q1 q2 q3
   subst q1 q2 q3
   split at h
   case h_2 => exact h.elim
   rename_i hl
   have hr2:=(hr.drop off).take n
   have hlen:((vs.drop off).take n).length = n:=by rw [hr2.len]; exact lenC_eq hl
   have hcs:∀ (i:Nat) (u:Value),((vs.drop off).take n)[i]? = some u → vs[off + i]? = some u:=by
    intro i u hu
    rw [List.getElem?_take] at hu
    split at hu
    case isFalse => cases hu
    rwa [List.getElem?_drop] at hu
   rcases hsv with e2 | ⟨b,o,j,e2,e3⟩
   ·rw [e2]
    exact ⟨_,hlen,.inr (.inr (.inr ⟨k,g,ty,vs,off,hL,hty.2.2,rfl,fun i u hu => by rw [Nat.add_zero]; exact hcs i u hu⟩)),_,asC_rel hr2,h⟩
   ·injection e3 with e3
    injection e3 with e3
    injection e3 with q1 q2 q3
    subst q1 q2
    rw [e2]
    exact ⟨_,hlen,.inr (.inr (.inr ⟨k,g,ty,vs,o,hL,hty.2.2,rfl,fun i u hu => hcs i u hu⟩)),_,asC_rel hr2,h⟩
  ·rename_i k j off hx
   split at h
   case h_2 => exact h.elim
   rename_i t sz els hk
   obtain ⟨es,h1,h2,h3⟩:=h
   obtain ⟨ad,t',sz',m,c,xs',e1,e2⟩:=inv_elr he hx
   obtain ⟨v,xs,e3,_,hr⟩:=tl_row ht.tl hk
   rw [e2] at e3
   injection e3 with e3
   injection e3 with q1 q2 q3 q4 q5
   subst q2 q3 q5
   obtain ⟨vs,k1,k2,k3,k4⟩:=hr.at h1
   have hr2:Rels F L ((es.drop off).take n) ((vs.drop off).take n):=((k3.drop off).take n).lift
   rw [e1]
   refine ⟨_,by rw [hr2.len]; exact lenC_eq h2,.inr (.inl ⟨k,_,_,_,_,_,ad,c,e2,rfl,rfl,fun i u hu => ?_⟩),_,asC_rel hr2,h3⟩
   rw [List.getElem?_take] at hu
   split at hu
   case isFalse => cases hu
   rw [List.getElem?_drop] at hu
   rw [Nat.add_assoc]
   exact k4 _ _ hu
  ·exact h.elim
 case loadR agg n x =>
  split at h
  ·rename_i k off hx
   obtain ⟨e1,_⟩:=inv_own he hx
   rw [e1]
   split at h
   case h_2 => exact h.elim
   rename_i t cs hk
   obtain ⟨g,ty,vs,hL,hr,hty⟩:=tl_box ht.tl hk
   split at h
   case h_2 => exact h.elim
   rename_i hl
   have hr2:=(hr.drop off).take n
   simp only [hL]
   rw [memB_of hty.2.2 (len_of (by rw [hr2.len]; exact lenC_eq hl))]
   exact ⟨_,asC_rel hr2,h⟩
  ·rename_i es off hx
   split at h
   case h_2 => exact h.elim
   rename_i hl
   obtain ⟨b,o,j,vs,e1,hp,ho,hr⟩:=inv_pt he hx
   have hr2:Rels F L ((es.drop off).take n) ((vs.drop off).take n):=((hr.drop off).take n).lift
   rcases e1 with ⟨e1,rfl⟩ | e1
   ·rw [e1]
    exact ⟨_,by rw [hr2.len]; exact lenC_eq hl,.inl (pt_cells (es:=es) hp),_,asC_rel hr2,h⟩
   ·rw [e1]
    exact ⟨_,by rw [hr2.len]; exact lenC_eq hl,.inl (pt_cells (es:=es) hp),_,asC_rel hr2,h⟩
  ·rename_i k off hx
   split at h
   case h_2 => exact h.elim
   rename_i t cs hk
   obtain ⟨g',ty',vs',e1,hsv⟩:=inv_ownv he hx
   obtain ⟨g,ty,vs,hL,hr,hty⟩:=tl_box ht.tl hk
   rw [hL] at e1
   injection e1 with e1
   injection e1 with q1 q2 q3
   subst q1 q2 q3
   split at h
   case h_2 => exact h.elim
   rename_i hl
   have hr2:=(hr.drop off).take n
   have hlen:((vs.drop off).take n).length = n:=by rw [hr2.len]; exact lenC_eq hl
   have hcs:∀ (i:Nat) (u:Value),((vs.drop off).take n)[i]? = some u → vs[off + i]? = some u:=by
    intro i u hu
    rw [List.getElem?_take] at hu
    split at hu
    case isFalse => cases hu
    rwa [List.getElem?_drop] at hu
   rcases hsv with e2 | ⟨b,o,j,e2,e3⟩
   ·rw [e2]
    exact ⟨_,hlen,.inr (.inr (.inr ⟨k,g,ty,vs,off,hL,hty.2.2,rfl,fun i u hu => by rw [Nat.add_zero]; exact hcs i u hu⟩)),_,asC_rel hr2,h⟩
   ·injection e3 with e3
    injection e3 with e3
    injection e3 with q1 q2 q3
    subst q1 q2
    rw [e2]
    exact ⟨_,hlen,.inr (.inr (.inr ⟨k,g,ty,vs,o,hL,hty.2.2,rfl,fun i u hu => hcs i u hu⟩)),_,asC_rel hr2,h⟩
  ·rename_i k j off hx
   split at h
   case h_2 => exact h.elim
   rename_i t sz els hk
   obtain ⟨es,h1,h2,h3⟩:=h
   obtain ⟨ad,t',sz',m,c,xs',e1,e2⟩:=inv_elr he hx
   obtain ⟨v,xs,e3,_,hr⟩:=tl_row ht.tl hk
   rw [e2] at e3
   injection e3 with e3
   injection e3 with q1 q2 q3 q4 q5
   subst q2 q3 q5
   obtain ⟨vs,k1,k2,k3,k4⟩:=hr.at h1
   have hr2:Rels F L ((es.drop off).take n) ((vs.drop off).take n):=((k3.drop off).take n).lift
   rw [e1]
   refine ⟨_,by rw [hr2.len]; exact lenC_eq h2,.inr (.inl ⟨k,_,_,_,_,_,ad,c,e2,rfl,rfl,fun i u hu => ?_⟩),_,asC_rel hr2,h3⟩
   rw [List.getElem?_take] at hu
   split at hu
   case isFalse => cases hu
   rw [List.getElem?_drop] at hu
   rw [Nat.add_assoc]
   exact k4 _ _ hu
  ·exact h.elim
 case loadD agg n x =>
  split at h
  ·rename_i k off hx
   obtain ⟨e1,_⟩:=inv_own he hx
   rw [e1]
   split at h
   case h_2 => exact h.elim
   rename_i t cs hk
   obtain ⟨g,ty,vs,hL,hr,hty⟩:=tl_box ht.tl hk
   split at h
   case h_2 => exact h.elim
   rename_i hl
   have hr2:=(hr.drop off).take n
   simp only [hL]
   rw [memB_of hty.2.2 (len_of (by rw [hr2.len]; exact lenC_eq hl))]
   exact ⟨_,asC_rel hr2,h⟩
  ·rename_i es off hx
   split at h
   case h_2 => exact h.elim
   rename_i hl
   obtain ⟨b,o,j,vs,e1,hp,ho,hr⟩:=inv_pt he hx
   have hr2:Rels F L ((es.drop off).take n) ((vs.drop off).take n):=((hr.drop off).take n).lift
   rcases e1 with ⟨e1,rfl⟩ | e1
   ·rw [e1]
    exact ⟨_,by rw [hr2.len]; exact lenC_eq hl,.inl (pt_cells (es:=es) hp),_,asC_rel hr2,h⟩
   ·rw [e1]
    exact ⟨_,by rw [hr2.len]; exact lenC_eq hl,.inl (pt_cells (es:=es) hp),_,asC_rel hr2,h⟩
  ·exact h.elim
 case gload g =>
  split at h
  case h_2 => exact h.elim
  rename_i k hg
  obtain ⟨v,t,fr,h1,h2⟩:=glob_get ht.glob hg
  exact ⟨v,t,fr,h1,.opq k,⟨_,rfl,by simp only [Rel]; exact h2⟩,h⟩
 case loadF agg n x =>
  split at h
  ·rename_i es off hx
   split at h
   case h_2 => exact h.elim
   rename_i hl
   obtain ⟨b,o,j,vs,e1,hp,ho,hr⟩:=inv_pt he hx
   have hr2:Rels F L ((es.drop off).take n) ((vs.drop off).take n):=((hr.drop off).take n).lift
   rcases e1 with ⟨e1,rfl⟩ | e1
   ·rw [e1]
    exact ⟨_,by rw [hr2.len]; exact lenC_eq hl,.inl (pt_cells (es:=es) hp),_,asC_rel hr2,h⟩
   ·rw [e1]
    exact ⟨_,by rw [hr2.len]; exact lenC_eq hl,.inl (pt_cells (es:=es) hp),_,asC_rel hr2,h⟩
  ·exact h.elim
 case loadK key agg n x =>
  split at h
  ·rename_i k off hx
   obtain ⟨e1,_⟩:=inv_own he hx
   rw [e1]
   split at h
   case h_2 => exact h.elim
   rename_i hb
   simp only [hb]
   split at h
   case h_2 => exact h.elim
   rename_i t cs hk
   obtain ⟨g,ty,vs,hL,hr,hty⟩:=tl_box ht.tl hk
   split at h
   case h_2 => exact h.elim
   rename_i hl
   have hr2:=(hr.drop off).take n
   simp only [hL]
   rw [memB_of hty.2.2 (len_of (by rw [hr2.len]; exact lenC_eq hl))]
   exact ⟨_,asC_rel hr2,h⟩
  ·exact h.elim
 case b2sD x =>
  split at h
  ·rename_i els hx
   obtain ⟨bs,rfl,h⟩:=h
   obtain ⟨a,c,sz,e1,e2,e3,e4,e5⟩:=inv_slc he hx
   rw [e1]
   have hlen:(bcells bs).length = bs.length:=by simp [bcells]
   refine ⟨bs.map fun b => Value.int .u8 b.toNat,by simp [hlen],?_,bs,rfl,_,relV_str ?_,h⟩
   ·rcases bytes_cells e5 e4 with h1 | h1
    ·exact .inl h1
    ·exact .inr (by rw [hlen]; exact h1)
   ·rw [hlen] at e2
    show bs.toArray.size ≤ maxLen
    simp
    exact (by simpa [bcells] using e3)
  ·exact h.elim
 case b2sR x =>
  split at h
  case h_2 => exact h.elim
  rename_i k hx
  split at h
  case h_2 => exact h.elim
  rename_i t sz els hk
  split at h
  case h_2 => exact h.elim
  rename_i hsz
  have:=Nat.eq_of_beq_eq_true hsz
  subst this
  obtain ⟨bs,rfl,h⟩:=h
  obtain ⟨a,c,t',sz',n,xs',e1,e2⟩:=inv_rw he hx
  obtain ⟨v,xs,e3,⟨hm,a',c',q6,q7⟩,hr⟩:=tl_row ht.tl hk
  have hlen:(bcells bs).length = bs.length:=by simp [bcells]
  rw [e2] at e3
  injection e3 with e3
  injection e3 with q1 q2 q3 q4 q5
  subst q2 q3 q4 q5
  have hx:=row_bytes hr
  subst hx
  rw [← q1] at q6
  injection q6 with q6 q8
  subst q6
  rw [e1]
  refine ⟨k,_,c,bs,e2,hlen.symm,q7,_,relV_str ?_,h⟩
  show bs.toArray.size ≤ maxLen
  simp
  omega
 case mkif t x =>
  split at h
  ·rename_i k n hx
   obtain ⟨e1,e2⟩:=inv_int he hx
   rw [e1]
   exact ⟨.ifc t (.int k n),⟨_,rfl,by simp only [Rel]; exact ⟨_,rfl,rfl,e2⟩⟩,h⟩
  ·rename_i b hx
   rw [inv_bool he hx]
   exact ⟨.ifc t (.bool b),⟨_,rfl,by simp only [Rel]; exact ⟨_,rfl,rfl⟩⟩,h⟩
  ·rename_i s hx
   obtain ⟨e1,e2⟩:=inv_str he hx
   rw [e1]
   exact ⟨.ifc t (.str s),⟨_,rfl,by simp only [Rel]; exact ⟨_,rfl,rfl,e2⟩⟩,h⟩
  ·rename_i es off hx
   obtain ⟨b,o,j,vs,e1,hp,ho,hr⟩:=inv_pt he hx
   rcases e1 with ⟨e1,rfl⟩ | e1
   ·rw [e1]
    exact ⟨.ifc t (.pt es off),⟨_,rfl,by simp only [Rel]; exact ⟨_,rfl,b,o,vs,rfl,hp,ho,hr⟩⟩,h⟩
   ·rw [e1]
    exact ⟨.ifc t (.pt es off),⟨_,rfl,by simp only [Rel]; exact ⟨_,rfl,b,o + j,vs,by rw [add_none],hp,ho,hr⟩⟩,h⟩
  ·rename_i cs hx
   split at h
   case h_2 => exact h.elim
   rename_i hp
   rw [fl_eq] at h
   obtain ⟨vs,e1,e2⟩:=inv_agg he hx
   rw [e1]
   exact ⟨.ifc t (.agg cs),⟨_,rfl,by simp only [Rel]; exact ⟨_,rfl,vs,rfl,pures_rel hp e2⟩⟩,h⟩
  ·exact h.elim
 case mkmv nm x =>
  split at h
  case h_2 => exact h.elim
  rename_i t c hx
  obtain ⟨u,e1,hr⟩:=inv_ifc he hx
  rw [e1]
  exact ⟨.mval nm (.ifc t c),⟨_,rfl,by simp only [Rel]; exact ⟨_,rfl,_,rfl,hr⟩⟩,h⟩
 case nilck x =>
  split at h
  ·rename_i k off hx
   obtain ⟨e1,e2⟩:=inv_own he hx
   rw [e1]
   exact ⟨.own k off,⟨rfl,e2⟩,h⟩
  ·rename_i es off hx
   obtain ⟨b,o,j,vs,e1,hp,ho,hr⟩:=inv_pt he hx
   rcases e1 with ⟨e1,rfl⟩ | e1
   ·rw [e1]; exact ⟨.pt es off,⟨b,o,0,vs,.inl ⟨rfl,rfl⟩,hp,ho,hr⟩,h⟩
   ·rw [e1]; exact ⟨by simp,.pt es off,⟨b,o,j,vs,.inr rfl,hp,ho,hr⟩,h⟩
  ·rename_i k off hx
   obtain ⟨g,t,cs,e1,e2⟩:=inv_ownv he hx
   rcases e2 with e2 | ⟨b,o,j,e2,e3⟩
   ·rw [e2]
    exact ⟨.ownv k off,⟨_,.inl rfl,by simp only [Rel]; exact ⟨g,t,cs,e1,rfl⟩⟩,h⟩
   ·rw [e2]
    exact ⟨by simp,.ownv k off,⟨_,.inr ⟨b,o,j,rfl,rfl⟩,by simp only [Rel]; exact ⟨g,t,cs,e1,e3.symm⟩⟩,h⟩
  ·rename_i f fi ca hx
   obtain ⟨fi',ca',e1,h1,h2⟩:=inv_fn he hx
   rw [e1]
   exact ⟨.fn f fi ca,⟨_,rfl,by simp only [Rel]; exact ⟨fi',ca',rfl,h1,h2⟩⟩,h⟩
  ·rename_i nm c hx
   split at h
   case h_2 => exact h.elim
   rename_i t c
   obtain ⟨u,e1,hr⟩:=inv_mval he hx
   have hr':=hr
   simp only [Rel] at hr
   obtain ⟨u',rfl,hu⟩:=hr
   rw [e1]
   exact ⟨h.1,.mval nm (.ifc t c),⟨_,rfl,by simp only [Rel]; exact ⟨_,rfl,_,rfl,hu⟩⟩,h.2⟩
  ·exact h.elim
 case bin op x y =>
  split at h
  ·rename_i k a k' b hx hy
   obtain ⟨e1,w1⟩:=inv_int he hx
   obtain ⟨e2,w2⟩:=inv_int he hy
   rw [e1,e2]
   split at h
   ·rename_i hsh
    simp only [hsh]
    exact shI_mono w1 h fun v hv hV => ⟨_,relV_cvB hv,hV⟩
   ·rename_i hsh
    simp only [hsh]
    split at h
    case h_2 => exact h.elim
    rename_i hk
    simp only [hk]
    exact binI_mono w1 h fun v hv hV => ⟨_,relV_cvB hv,hV⟩
  ·rename_i a b hx hy
   rw [(inv_str he hx).1,(inv_str he hy).1]
   exact binS_mono h fun v hv hV => ⟨_,relV_cvB hv,hV⟩
  ·exact h.elim
 case eqB neg x y =>
  split at h
  case h_2 => exact h.elim
  rename_i a b hx hy
  rw [inv_bool he hx,inv_bool he hy]
  exact ⟨_,relV_bool,h⟩
 case eqP neg x y =>
  have hy:isNilP y = true → ev ρ y = .v (.pointer none):=by
   unfold isNilP
   split
   ·intro _; rfl
   ·intro e; cases e
  split at h
  ·rename_i k off h1 hx
   rw [(inv_own he hx).1,hy h1]
   exact ⟨_,relV_bool,h⟩
  ·rename_i k off h1 hx
   obtain ⟨g,t,cs,e1,e2⟩:=inv_ownv he hx
   rcases e2 with e2 | ⟨b,o,j,e2,_⟩
   ·rw [e2,hy h1]
    exact ⟨_,relV_bool,h⟩
   ·rw [e2,hy h1]
    exact ⟨_,relV_bool,h⟩
  ·rename_i es off h1 hx
   obtain ⟨b,q,j,vs,e1,hp,ho,hr⟩:=inv_pt he hx
   rcases e1 with ⟨e1,rfl⟩ | e1
   ·rw [e1,hy h1]; exact ⟨_,relV_bool,h⟩
   ·rw [e1,hy h1]; exact ⟨_,relV_bool,h⟩
  ·rename_i h1 hx
   rw [inv_nilp he hx,hy h1]
   exact ⟨_,relV_bool,h⟩
  ·exact h.elim
 case eqS neg x y =>
  have hy:isNil y = true → ev ρ y = .v (.slice none 0 0):=by
   unfold isNil
   split
   ·intro _; rfl
   ·intro e; cases e
  split at h
  ·rename_i els h1 hx
   obtain ⟨a,c,sz,e1,e2,e3,e4,e5⟩:=inv_sl he hx
   rw [e1,hy h1]
   refine ⟨_,relV_bool,h _ fun hne => ?_⟩
   cases a with
   | none => exact absurd (e4 rfl).1 hne
   | some a => rfl
  ·rename_i els h1 hx
   obtain ⟨a,sz,e1,_⟩:=inv_slx he hx
   rw [e1,hy h1]
   exact ⟨_,relV_bool,h⟩
  ·rename_i h1 hx
   rw [inv_nils he hx,hy h1]
   exact ⟨_,relV_bool,h⟩
  ·exact h.elim
 case eqF neg x y =>
  have hy:isNilF y = true → ev ρ y = .v .nilFunc:=by
   unfold isNilF
   split
   ·intro _; rfl
   ·intro e; cases e
  split at h
  ·rename_i h1 hx
   rw [inv_nilf he hx,hy h1]
   exact ⟨_,relV_bool,h⟩
  ·rename_i f fi ca h1 hx
   obtain ⟨fi',ca',e1,_,_⟩:=inv_fn he hx
   rw [e1,hy h1]
   exact ⟨_,relV_bool,h⟩
  ·exact h.elim
 case eqN neg x =>
  split at h
  ·rename_i t c hx
   obtain ⟨u,e1,_⟩:=inv_ifc he hx
   rw [e1]
   exact ⟨_,relV_bool,h⟩
  ·rename_i k hx
   split at h
   case h_2 => exact h.elim
   rename_i b hb
   obtain ⟨v,e1,h1⟩:=inv_opq he hx
   rw [e1]
   obtain ⟨q1,q2⟩:=opq_nilb h1 hb
   cases b with
   | true => rw [q1 rfl]; exact ⟨_,relV_bool,h⟩
   | false => obtain ⟨t,u,rfl⟩:=q2 rfl; exact ⟨_,relV_bool,h⟩
  ·exact h.elim
 case eqA neg ks x y =>
  split at h
  case h_2 => exact h.elim
  rename_i cs ds hx hy
  split at h
  case h_2 => exact h.elim
  rename_i b hb
  obtain ⟨vs,e1,h1⟩:=inv_agg he hx
  obtain ⟨us,e2,h2⟩:=inv_agg he hy
  simp only [e1,e2]
  rw [eqCs_vs hb h1 h2]
  exact ⟨_,relV_bool,h⟩
 case un op x =>
  split at h
  ·rename_i b hx
   rw [inv_bool he hx]
   exact ⟨_,relV_bool,h⟩
  ·rename_i k n hx
   rw [(inv_int he hx).1]
   exact ⟨⟨_,relV_int (wf_wrap _ _),h.out⟩⟩
  ·rename_i k n hx
   rw [(inv_int he hx).1]
   exact ⟨_,relV_int (wf_wrap _ _),h⟩
  ·exact h.elim
 case conv k x =>
  split at h
  case h_2 => exact h.elim
  rename_i k' n hx
  rw [(inv_int he hx).1]
  exact ⟨⟨_,relV_int (wf_wrap _ _),h.out⟩⟩
 case b2s x =>
  split at h
  ·rename_i els hx
   obtain ⟨bs,rfl,h⟩:=h
   obtain ⟨a,c,sz,e1,e2,e3,e4,e5⟩:=inv_slc he hx
   rw [e1]
   have hlen:(bcells bs).length = bs.length:=by simp [bcells]
   refine ⟨bs.map fun b => Value.int .u8 b.toNat,by simp [hlen],?_,bs,rfl,_,relV_str ?_,h⟩
   ·rcases bytes_cells e5 e4 with h1 | h1
    ·exact .inl h1
    ·exact .inr (.inr (.inl (by rw [hlen]; exact h1)))
   ·rw [hlen] at e2
    show bs.toArray.size ≤ maxLen
    simp
    exact (by simpa [bcells] using e3)
  ·exact h.elim
 case mkfn f fi ca => exact ⟨.fn f _ _,⟨_,rfl,by simp only [Rel]; exact ⟨_,_,rfl,evals_rel he fi,evals_rel he ca⟩⟩,h⟩
 case slc sz x lo hi =>
  split at h
  case h_2 => exact h.elim
  rename_i els hx
  split at h
  case h_2 => exact h.elim
  rename_i l r hl hh
  obtain ⟨h1,h2,h3,h4,h5⟩:=h
  obtain ⟨a,c,sz',e1,e2,e3,e4,e5⟩:=inv_slc he hx
  rw [e1]
  simp only [opt_rel he hl,opt_rel he hh]
  refine ⟨h1,h2,by omega,_,?_,h5⟩
  have hlen:((els.drop l.toNat).take (r.toNat - l.toNat)).length = r.toNat - l.toNat:=by simp; omega
  have hs:els ≠ [] → sz' = sz:=by
   intro hne
   obtain ⟨es,hes⟩:=List.exists_mem_of_ne_nil _ hne
   obtain ⟨i,hi⟩:=List.mem_iff_getElem?.1 hes
   obtain ⟨vs,k1,_,_,k4⟩:=RelS_iff.1 e5 i es hi
   rw [← k1,k4.len,h4 es hes]
  have key:=RelS_slc (l:=l.toNat) (h:=r.toNat) e5 e4 (by omega) (by omega) e2
  unfold slcVal
  have:=relV_sl (F:=F) (L:=L) (els:=(els.drop l.toNat).take (r.toNat - l.toNat)) (a:=if c = l.toNat then a else a.map (·.add (l.toNat * sz))) (c:=c - l.toNat) (sz:=sz) (by rw [hlen]; omega) (by rw [hlen]; omega) ?_ ?_
  ·rw [hlen] at this; exact this
  ·intro hn
   have ha:a = none:=by
    split at hn
    ·exact hn
    ·cases a with
     | none => rfl
     | some a => simp at hn
   obtain ⟨q1,q2⟩:=e4 ha
   subst q1
   simp
   omega
  ·by_cases hne:els = []
   ·subst hne
    simp only [List.drop_nil,List.take_nil,RelS]
   ·rw [hs hne] at key
    exact key
 case slcS x lo hi =>
  split at h
  case h_2 => exact h.elim
  rename_i s hx
  split at h
  case h_2 => exact h.elim
  rename_i l r hl hh
  obtain ⟨h1,h2,h3,h5⟩:=h
  rw [(inv_str he hx).1]
  simp only [opt_rel he hl,opt_rel he hh]
  refine ⟨h1,h2,h3,_,relV_str ?_,h5⟩
  have:=(inv_str he hx).2
  rw [ByteArray.size_extract]
  omega
 case fieldA off x =>
  split at h
  ·rename_i k o hx
   obtain ⟨e1,e2⟩:=inv_own he hx
   rw [e1]
   exact ⟨.own k (o + off),⟨rfl,e2⟩,h⟩
  ·rename_i es o hx
   obtain ⟨b,q,j,vs,e1,hp,ho,hr⟩:=inv_pt he hx
   have hp2:∀ j',q + j' = q + j + off → PtB F b (q + j') (o + off) vs:=by
    intro j' hj
    obtain ⟨base,arr,t,fr,k1,k2,k3⟩:=hp
    exact ⟨base,arr,t,fr,k1,by omega,k3⟩
   rcases e1 with ⟨e1,rfl⟩ | e1
   ·rw [e1]; exact ⟨.pt es (o + off),⟨b,q,off,vs,.inr rfl,hp2 _ (by omega),ho,hr⟩,h⟩
   ·rw [e1]; exact ⟨.pt es (o + off),⟨b,q,j + off,vs,.inr rfl,hp2 _ (by omega),ho,hr⟩,h⟩
  ·rename_i k j o hx
   obtain ⟨ad,t,sz,n,c,xs,e1,e2⟩:=inv_elr he hx
   rw [e1]
   exact ⟨.elr k j (o + off),⟨ad,t,sz,n,c,xs,by rw [Nat.add_assoc],e2⟩,h⟩
  ·rename_i k o hx
   obtain ⟨g,t,cs,e1,e2⟩:=inv_ownv he hx
   rcases e2 with e2 | ⟨b,q,j,e2,e3⟩
   ·rw [e2]
    exact ⟨.ownv k (o + off),⟨_,.inr ⟨g,o,off,rfl,rfl⟩,by simp only [Rel]; exact ⟨g,t,cs,e1,rfl⟩⟩,h⟩
   ·rw [e2]
    injection e3 with e3
    injection e3 with e3
    injection e3 with e4 e5
    subst e4
    exact ⟨.ownv k (o + off),⟨_,.inr ⟨g,q,j + off,rfl,rfl⟩,by simp only [Rel]; exact ⟨g,t,cs,e1,by rw [e5,Nat.add_assoc]⟩⟩,h⟩
  ·exact h.elim
 case fieldV agg off n x =>
  split at h
  case h_2 => exact h.elim
  rename_i cs hx
  split at h
  case h_2 => exact h.elim
  rename_i hl
  obtain ⟨vs,e1,hr⟩:=inv_agg he hx
  have hr2:=(hr.drop off).take n
  rw [e1]
  simp only []
  rw [len_of (by rw [hr2.len]; exact lenC_eq hl)]
  exact ⟨_,asC_rel hr2,h⟩
 case idxA sz x i =>
  split at h
  ·rename_i els k i hx hi
   obtain ⟨es,h1,h2,h3,h4⟩:=h
   obtain ⟨a,c,sz',e1,e2,e3,e4,e5⟩:=inv_slc he hx
   rw [e1,(inv_int he hi).1]
   have hlt:i.toNat < els.length:=(List.getElem?_eq_some_iff.1 h2).1
   obtain ⟨vs,k1,⟨ad,arr,t,fr,e,hb,hsp,hv⟩,k3,k4⟩:=RelS_iff.1 e5 _ _ h2
   have hs:sz' = sz:=by rw [← k1,k4.len,lenC_eq h3]
   subst hs
   subst e
   refine ⟨by simp,h1,by omega,_,relV_pt0 hb hsp (fun i v hi => ?_) k3 k4,h4⟩
   have:=hv i v hi
   simpa using this
  ·rename_i k i' i hx hi
   split at h
   case h_2 => exact h.elim
   rename_i t sz' els hk
   split at h
   case h_2 => exact h.elim
   rename_i hsz
   have:=Nat.eq_of_beq_eq_true hsz
   subst this
   obtain ⟨h1,h2,h3⟩:=h
   obtain ⟨a,c,t',sz',n,xs',e1,e2⟩:=inv_rw he (can_rw hx)
   obtain ⟨v,xs,e3,⟨_,a',c',q6,q7⟩,hr⟩:=tl_row ht.tl hk
   rw [e2] at e3
   injection e3 with e3
   injection e3 with q1 q2 q3 q4 q5
   subst q2 q3 q4
   rw [e1,(inv_int he hi).1]
   cases a with
   | none =>
    rw [← q1] at q6
    injection q6 with q6
    have:=q7 q6.symm
    omega
   | some ad => exact ⟨by simp,h1,h2,.elr k i.toNat 0,⟨ad,_,_,_,c,_,by simp,e2⟩,h3⟩
  ·exact h.elim
 case idxS x i =>
  split at h
  case h_2 => exact h.elim
  rename_i s k i hx hi
  obtain ⟨h1,h2,h3⟩:=h
  rw [(inv_str he hx).1,(inv_int he hi).1]
  refine ⟨h1,h2,_,relV_int ?_,h3⟩
  have:=(s.data.toList.getD i.toNat 0).toNat_lt
  generalize (s.data.toList.getD i.toNat 0).toNat = m at *
  simp [Lit.wf,IntKind.min,IntKind.max,IntKind.bits,IntKind.signed]
  omega
 case extr x i =>
  split at h
  case h_2 => exact h.elim
  rename_i cs hx
  split at h
  case h_2 => exact h.elim
  rename_i v hv
  obtain ⟨vs,e1,hr⟩:=inv_tup he hx
  rw [e1]
  have hlt:i < vs.length:=by rw [hr.len]; exact (List.getElem?_eq_some_iff.1 hv).1
  simp only [List.getElem?_eq_getElem hlt]
  exact ⟨_,slt_rel (hr.at hv (List.getElem?_eq_getElem hlt)),h⟩
 case len x =>
  have wl:∀ n:Nat,n ≤ maxLen → (Lit.int .i64 (n:Int)).wf = true:=by
   intro n hn
   simp only [maxLen] at hn
   simp [Lit.wf,IntKind.min,IntKind.max,IntKind.bits,IntKind.signed]
   omega
  split at h
  ·rename_i els hx
   obtain ⟨a,c,sz',e1,e2,e3,e4,e5⟩:=inv_slc he hx
   rw [e1]
   exact ⟨_,relV_int (wl _ e3),h⟩
  ·rename_i k hx
   split at h
   case h_2 => exact h.elim
   rename_i t sz' els hk
   obtain ⟨a,c,t',sz',n,xs',e1,e2⟩:=inv_rw he (can_rw hx)
   obtain ⟨v,xs,e3,⟨hm,_⟩,hr⟩:=tl_row ht.tl hk
   rw [e2] at e3
   injection e3 with e3
   injection e3 with q1 q2 q3 q4 q5
   subst q4
   rw [e1]
   exact ⟨_,relV_int (wl _ hm),h⟩
  ·rename_i k hx
   obtain ⟨n,h1,h2,h3⟩:=h
   obtain ⟨v,e1,e2⟩:=inv_opq he (can_opq hx)
   obtain ⟨a,c,rfl⟩:=opq_len e2 h1
   rw [e1]
   exact ⟨_,relV_int (wl _ (by simpa [maxLen] using h2)),h3⟩
  ·exact h.elim
 case lenS x =>
  split at h
  case h_2 => exact h.elim
  rename_i s hx
  obtain ⟨e1,e2⟩:=inv_str he hx
  rw [e1]
  refine ⟨_,relV_int ?_,h⟩
  simp only [maxLen] at e2
  simp [Lit.wf,IntKind.min,IntKind.max,IntKind.bits,IntKind.signed]
  omega
 case mlook str ok z x i =>
  split at h
  case h_2 => exact h.elim
  rename_i k hx
  split at h
  case h_2 => exact h.elim
  rename_i es hk
  obtain ⟨g,cs,e1,e2⟩:=inv_mpr he hx
  obtain ⟨g',vs,e3,hE⟩:=tl_map ht.tl hk
  rw [e2] at e3
  injection e3 with e3
  injection e3 with q1 q2 q3
  subst q1 q3
  rw [e1]
  refine ⟨k,cs,e2,hE.isMap,⟨?_⟩⟩
  rcases h.out with ⟨c,h1,h2⟩ | ⟨h1,h2⟩
  ·obtain ⟨j,v,h3,h4⟩:=find_rel (key_rel he) 0 hE h1
   refine .inl ⟨j,v,h3,?_⟩
   have h5:Rel F L c v:=h4.lift
   cases ok with
   | true => exact ⟨_,relV_tup2 h5,h2⟩
   | false => exact ⟨_,slt_rel h5,h2⟩
  ·refine .inr ⟨find_rel (key_rel he) 0 hE h1,?_⟩
   have h5:Rel F L (cv z) z:=cv_rel z
   cases ok with
   | true => exact ⟨_,relV_tup2 h5,h2⟩
   | false => exact ⟨_,cv_v z,h2⟩
 case mlen x =>
  split at h
  case h_2 => exact h.elim
  rename_i k hx
  split at h
  case h_2 => exact h.elim
  rename_i es hk
  obtain ⟨g,cs,e1,e2⟩:=inv_mpr he hx
  obtain ⟨g',vs,e3,hE⟩:=tl_map ht.tl hk
  rw [e2] at e3
  injection e3 with e3
  injection e3 with q1 q2 q3
  subst q1 q3
  rw [e1]
  refine ⟨k,cs,e2,hE.isMap,_,relV_int ?_,?_⟩
  ·rw [hE.len]
   have:=h.1
   simp only [maxLen] at this
   simp [Lit.wf,IntKind.min,IntKind.max,IntKind.bits,IntKind.signed]
   omega
  ·rw [hE.len]; exact h.2
 case mm mx args =>
  split at h
  case h_2 => exact h.elim
  rename_i k a l hl
  split at h
  case h_2 => exact h.elim
  rename_i m hm
  match args,hl with
  | x :: args,hl =>
   simp only [List.map_cons,List.cons.injEq] at hl
   obtain ⟨hx,rfl⟩:=hl
   simp only [List.map_cons,(inv_int he hx).1,mm_rel he mx args hm]
   exact ⟨_,relV_int h.1,h.2⟩
end
theorem TL.get_set (L:TL) (k:Nat) (o:TO) (j:Nat):(L.set k o).get j = if j = k then some o else L.get j:=by
 induction L with
 | nil =>
  simp only [TL.set,TL.get]
  cases h:Nat.beq k j with
  | true => have:=Nat.eq_of_beq_eq_true h; simp [this]
  | false => have:=beq_f h; simp; omega
 | cons p l ih =>
  obtain ⟨i,q⟩:=p
  simp only [TL.set]
  cases h:Nat.beq i k with
  | true =>
   have e:=Nat.eq_of_beq_eq_true h
   subst e
   simp only [TL.get]
   cases h2:Nat.beq i j with
   | true => have:=Nat.eq_of_beq_eq_true h2; simp [this]
   | false => have:=beq_f h2; simp; omega
  | false =>
   have hne:=beq_f h
   simp only []
   cases h3:Nat.ble i k with
   | true =>
    simp only [TL.get]
    cases h2:Nat.beq i j with
    | true => have:=Nat.eq_of_beq_eq_true h2; simp; omega
    | false => simpa using ih
   | false =>
    simp only [TL.get]
    cases h2:Nat.beq k j with
    | true => have:=Nat.eq_of_beq_eq_true h2; simp [this]
    | false =>
     have:=beq_f h2
     simp only []
     rw [if_neg (by omega)]
theorem TL.get_del (L:TL) (k j:Nat):(L.del k).get j = if j = k then none else L.get j:=by
 induction L with
 | nil => simp [TL.del,TL.get]
 | cons p l ih =>
  obtain ⟨i,q⟩:=p
  simp only [TL.del]
  cases h:Nat.beq i k with
  | true =>
   have e:=Nat.eq_of_beq_eq_true h
   subst e
   simp only [TL.get,ih]
   by_cases hj:j = i
   ·simp [hj]
   ·have:Nat.beq i j = false:=by cases h2:Nat.beq i j with | true => exact absurd (Nat.eq_of_beq_eq_true h2).symm hj | false => rfl
    simp [hj,this]
  | false =>
   have hne:=beq_f h
   simp only [TL.get]
   cases h2:Nat.beq i j with
   | true => have:=Nat.eq_of_beq_eq_true h2; simp; omega
   | false => simpa using ih
theorem tinpFrom_get:∀ (l:List TO) (k j:Nat),TL.get (tinpFrom k l) j = if k ≤ j then l[j - k]? else none
 | [],k,j => by simp [tinpFrom,TL.get]
 | o :: l,k,j => by
  simp only [tinpFrom,TL.get]
  cases h:Nat.beq k j with
  | true => have:=Nat.eq_of_beq_eq_true h; subst this; simp
  | false =>
   have hne:=beq_f h
   simp only [tinpFrom_get l (k + 1) j]
   by_cases h1:k ≤ j
   ·rw [if_pos (by omega),if_pos h1,show j - k = (j - (k + 1)) + 1 by omega,List.getElem?_cons_succ]
   ·rw [if_neg (by omega),if_neg h1]
theorem tinp_get (l:List TO) (j:Nat):TL.get (tinp l) j = if 1000 ≤ j then l[j - 1000]? else none:=tinpFrom_get l 1000 j
theorem tsub_get:∀ {L:TL} {ks:List Nat} {l:List TO},L.sub ks = some l → l.length = ks.length ∧ ∀ (i:Nat) (k:Nat),ks[i]? = some k → L.get k = l[i]?
 | L,[],l,h => by simp only [TL.sub,Option.some.injEq] at h; subst h; simp
 | L,k :: ks,l,h => by
  simp only [TL.sub] at h
  split at h
  case h_2 => cases h
  rename_i o l' h1 h2
  injection h with h
  subst h
  obtain ⟨e1,e2⟩:=tsub_get h2
  refine ⟨by simp [e1],fun i k' hi => ?_⟩
  cases i with
  | zero => simp at hi; subst hi; simpa using h1
  | succ i => simp at hi; simpa using e2 i k' hi
theorem tdels_get:∀ (ks:List Nat) (L:TL) (j:Nat),(L.dels ks).get j = if j ∈ ks then none else L.get j
 | [],L,j => by simp [TL.dels]
 | k :: ks,L,j => by
  simp only [TL.dels,tdels_get ks,TL.get_del,List.mem_cons]
  by_cases h1:j = k <;> by_cases h2:j ∈ ks <;> simp [h1,h2]
theorem tputs_get:∀ (ko:List Nat) (l:List TO) (L:TL) (j:Nat),ko.Nodup → ko.length = l.length →
  ((L.puts ko l).get j = L.get j ∧ j ∉ ko) ∨ ∃ i,ko[i]? = some j ∧ (L.puts ko l).get j = l[i]? ∧ i < l.length
 | [],l,L,j,_,h => by
  refine .inl ⟨?_,by simp⟩
  cases l <;> rfl
 | k :: ko,[],L,j,_,h => by simp at h
 | k :: ko,o :: l,L,j,hn,h => by
  simp only [List.length_cons,Nat.add_right_cancel_iff] at h
  rw [List.nodup_cons] at hn
  simp only [TL.puts]
  rcases tputs_get ko l (L.set k o) j hn.2 h with ⟨h1,h2⟩ | ⟨i,h1,h2,h3⟩
  ·rw [TL.get_set] at h1
   by_cases hj:j = k
   ·subst hj
    rw [if_pos rfl] at h1
    exact .inr ⟨0,by simp,by simpa using h1,by simp⟩
   ·rw [if_neg hj] at h1
    exact .inl ⟨h1,by simp [hj,h2]⟩
  ·exact .inr ⟨i + 1,by simpa using h1,by simpa using h2,by simp; omega⟩
theorem mapC_get (g:C → C):∀ (L:TL) (k:Nat),(TL.mapC g L).get k = (L.get k).map (TO.mapC g)
 | [],k => rfl
 | (j,o) :: l,k => by
  simp only [TL.mapC,TL.get]
  cases h:Nat.beq j k with
  | true => rfl
  | false => exact mapC_get g l k
section
variable {P:Program} {G:Nat → Option (Nat × TypeId)} {F:Frz} {L:Loc} {ρ:Env} {M:TL} {τ:TEnv}
theorem tput_eq (d:Option Nat) (c:C) (τ:TEnv) (t:Nat):tput d c τ t = match d with | some k => if t = k then c else τ t | none => τ t:=by
 cases d with
 | none => rfl
 | some k =>
  simp only [tput]
  cases h:Nat.beq t k with
  | true => have:=Nat.eq_of_beq_eq_true h; simp [this]
  | false => have:=beq_f h; simp [this]
theorem env_put {F:Frz} {L:Loc} {τ:TEnv} {ρ:Env} (h:∀ j,RelV F L (τ j) (ρ j)) {c:C} {sv:SV} (hc:RelV F L c sv) (d:Option Nat):∀ j,RelV F L (tput d c τ j) (put d sv ρ j):=by
 intro j
 rw [tput_eq,put_eq]
 cases d with
 | none => exact h j
 | some k =>
  simp only []
  split
  ·exact hc
  ·exact h j
theorem TS.put (ht:TS G F L ρ M τ) {c:C} {sv:SV} (hc:RelV F L c sv) (d:Option Nat):TS G F L (put d sv ρ) M (tput d c τ):=⟨ht.tl,env_put ht.env hc d,ht.kp,ht.glob⟩
theorem relK_get {F:Frz} {L:Loc} {a:Option TO} {b:Option Own} (h:RelK F L a b):(a = none ∧ b = none) ∨ ∃ o p,a = some o ∧ b = some p ∧ RelO F L o p:=by
 cases a <;> cases b <;> simp only [RelK] at h
 ·exact .inl ⟨rfl,rfl⟩
 ·exact .inr ⟨_,_,rfl,rfl,h⟩
theorem TS.new {F':Frz} (hF:F.le F') (ht:TS G F L ρ M τ) {k:Nat} (hk:L.get k = none) {o:Own} {to:TO} (ho:RelO F' (L.set k o) to o):TS G F' (L.set k o) ρ (M.set k to) τ:=by
 have hext:Ext L (L.set k o):=by
  intro j p e
  refine ⟨p,?_,Own.like_refl p⟩
  rw [Loc.get_set,if_neg (by rintro rfl; rw [hk] at e; cases e)]
  exact e
 refine ⟨fun j => ?_,fun j => (ht.env j).ext hF hext,fun j g t e => ?_,ht.glob.mono hF⟩
 ·rw [TL.get_set,Loc.get_set]
  split
  ·exact ho
  ·rcases relK_get (ht.tl j) with ⟨e1,e2⟩ | ⟨p,q,e1,e2,hr⟩
   ·rw [e1,e2]; trivial
   ·rw [e1,e2]; exact hr.ext hF hext
 ·obtain ⟨cs,h⟩:=ht.kp j g t e
  exact ⟨cs,by rw [Loc.get_set,if_neg (by rintro rfl; rw [hk] at h; cases h)]; exact h⟩
theorem TS.mono {F':Frz} (hF:F.le F') (ht:TS G F L ρ M τ):TS G F' L ρ M τ:=⟨ht.tl.mono hF,fun j => (ht.env j).mono hF,ht.kp,ht.glob.mono hF⟩
theorem TS.turn (ht:TS G F L ρ M τ) {k:Nat} {o o':Own} (hk:L.get k = some o) (hl:Own.like o o') (hbox:∀ g t cs,o = .box g t cs → ∃ cs',o' = .box g t cs') {to:TO} (ho:∀ L',Ext L L' → RelO F L' to o') :
  TS G F (L.set k o') ρ (M.set k to) τ:=by
 have hext:Ext L (L.set k o'):=by
  intro j p e
  rw [Loc.get_set]
  split
  ·rename_i hj
   subst hj
   rw [hk] at e
   injection e with e
   subst e
   exact ⟨o',rfl,hl⟩
  ·exact ⟨p,e,Own.like_refl p⟩
 refine ⟨fun j => ?_,fun j => (ht.env j).ext (Frz.le_refl F) hext,fun j g t e => ?_,ht.glob⟩
 ·rw [TL.get_set,Loc.get_set]
  split
  ·exact ho _ hext
  ·rcases relK_get (ht.tl j) with ⟨e1,e2⟩ | ⟨p,q,e1,e2,hr⟩
   ·rw [e1,e2]; trivial
   ·rw [e1,e2]; exact hr.ext (Frz.le_refl F) hext
 ·obtain ⟨cs,h⟩:=ht.kp j g t e
  rw [Loc.get_set]
  split
  ·rename_i hj
   subst hj
   rw [hk] at h
   injection h with h
   obtain ⟨cs',e'⟩:=hbox g t cs h
   exact ⟨cs',by rw [e']⟩
  ·exact ⟨cs,h⟩
theorem kill_leaf {L':Loc} {k:Nat} (hrow:∀ g t cs,L.get k ≠ some (.box g t cs)) (hk:∀ j,j ≠ k → ∀ o,L.get j = some o → ∃ o',L'.get j = some o' ∧ Own.like o o') {F':Frz} (hF:F.le F') (c:C) (v:Value) (hc:c.leaf = true)
  (h:Rel F L c v):Rel F' L' (killLeaf k c) v:=by
 cases c <;> simp only [C.leaf,Bool.false_eq_true] at hc <;> simp only [killLeaf]
 case rw j =>
  cases hj:Nat.beq j k with
  | true => simp only [Rel]
  | false => exact rel_leaf hF (fun j' e => by
    rcases e with ⟨off,e⟩ | e | e
    ·cases e
    ·injection e with e; subst e; exact hk j (beq_f hj)
    ·cases e) rfl h
 case own j off =>
  refine rel_leaf hF (fun j' e => ?_) rfl h
  rcases e with ⟨off,e⟩ | e | e
  ·injection e with e e2
   subst e
   simp only [Rel] at h
   obtain ⟨g,t,cs,h1,_⟩:=h
   exact hk j (by rintro rfl; exact hrow _ _ _ h1)
  ·cases e
  ·cases e
 case elr => exact h.elim
 case mpr j =>
  refine rel_leaf hF (fun j' e => ?_) rfl h
  rcases e with ⟨off,e⟩ | e | e
  ·cases e
  ·cases e
  ·injection e with e
   subst e
   simp only [Rel] at h
   obtain ⟨g,cs,h1,_⟩:=h
   exact hk j (by rintro rfl; exact hrow _ _ _ h1)
 all_goals
  exact rel_leaf hF (fun j' e => by rcases e with ⟨off,e⟩ | e | e <;> cases e) rfl h
theorem killV_leaf {L':Loc} {k:Nat} (hrow:∀ g t cs,L.get k ≠ some (.box g t cs)) (hk:∀ j,j ≠ k → ∀ o,L.get j = some o → ∃ o',L'.get j = some o' ∧ Own.like o o') {F':Frz} (hF:F.le F') (c:C) (sv:SV) (hc:c.leaf = true)
  (h:RelV F L c sv):RelV F' L' (killLeaf k c) sv:=by
 cases c <;> simp only [C.leaf,Bool.false_eq_true] at hc <;> simp only [killLeaf]
 case rw j =>
  cases hj:Nat.beq j k with
  | true => trivial
  | false => exact relV_leaf hF (fun j' e => by
    rcases e with ⟨off,e⟩ | ⟨off,e⟩ | e | ⟨a,b,e⟩ | e <;> first | cases e; done | skip
    injection e with e; subst e; exact hk j (beq_f hj)) rfl h
 case elr j a b =>
  cases hj:Nat.beq j k with
  | true => trivial
  | false => exact relV_leaf hF (fun j' e => by
    rcases e with ⟨off,e⟩ | ⟨off,e⟩ | e | ⟨a,b,e⟩ | e <;> first | cases e; done | skip
    injection e with e; subst e; exact hk j (beq_f hj)) rfl h
 case own j off =>
  refine relV_leaf hF (fun j' e => ?_) rfl h
  obtain ⟨_,g,t,cs,h1⟩:=h
  rcases e with ⟨off,e⟩ | ⟨off,e⟩ | e | ⟨a,b,e⟩ | e <;> first | cases e; done | skip
  injection e with e
  subst e
  exact hk j (by rintro rfl; exact hrow _ _ _ h1)
 case ownv j off =>
  refine relV_leaf hF (fun j' e => ?_) rfl h
  obtain ⟨v,_,hr⟩:=h
  simp only [Rel] at hr
  obtain ⟨g,t,cs,h1,_⟩:=hr
  rcases e with ⟨off,e⟩ | ⟨off,e⟩ | e | ⟨a,b,e⟩ | e <;> first | cases e; done | skip
  injection e with e
  subst e
  exact hk j (by rintro rfl; exact hrow _ _ _ h1)
 case mpr j =>
  refine relV_leaf hF (fun j' e => ?_) rfl h
  obtain ⟨v,_,hr⟩:=h
  simp only [Rel] at hr
  obtain ⟨g,cs,h1,_⟩:=hr
  rcases e with ⟨off,e⟩ | ⟨off,e⟩ | e | ⟨a,b,e⟩ | e <;> first | cases e; done | skip
  injection e with e
  subst e
  exact hk j (by rintro rfl; exact hrow _ _ _ h1)
 all_goals
  exact relV_leaf hF (fun j' e => by rcases e with ⟨off,e⟩ | ⟨off,e⟩ | e | ⟨a,b,e⟩ | e <;> cases e) rfl h
theorem RelO.killed {L':Loc} {k:Nat} (hrow:∀ g t cs,L.get k ≠ some (.box g t cs)) (hk:∀ j,j ≠ k → ∀ o,L.get j = some o → ∃ o',L'.get j = some o' ∧ Own.like o o') {F':Frz} (hF:F.le F'):∀ {o:TO} {p:Own},RelO F L o p → RelO F' L' (o.mapC (C.kill k)) p
 | .box t cs,.box g t' vs,r => ⟨r.1,r.2.map fun c _ v h => Rel.mp (kill_leaf hrow hk hF) 3 h⟩
 | .row t sz els,.row v t' sz' n xs,r => ⟨r.1,r.2.1,r.2.2.1,r.2.2.2.1,r.2.2.2.2.mono hF⟩
 | .box _ _,.row ..,r => r.elim
 | .row ..,.box ..,r => r.elim
 | .map _,.row ..,r => r.elim
 | .map es,.box g t' vs,r => ⟨r.1,r.2.mono hF⟩
theorem TS.killed (ht:TS G F L ρ M τ) {k:Nat} {o':Own} (hrow:∀ g t cs,L.get k ≠ some (.box g t cs)) {to:TO} (ho:RelO F (L.set k o') to o') :
  TS G F (L.set k o') ρ ((M.mapC (C.kill k)).set k to) (fun j => (τ j).kill k):=by
 have hk:∀ j,j ≠ k → ∀ o,L.get j = some o → ∃ p,(L.set k o').get j = some p ∧ Own.like o p:=fun j hj o e => ⟨o,by rw [Loc.get_set,if_neg hj]; exact e,Own.like_refl o⟩
 refine ⟨fun j => ?_,fun j => RelV.mp (kill_leaf hrow hk (Frz.le_refl F)) (killV_leaf hrow hk (Frz.le_refl F)) 3 (ht.env j),fun j g t e => ?_,ht.glob⟩
 ·rw [TL.get_set,Loc.get_set,mapC_get]
  split
  ·exact ho
  ·rcases relK_get (ht.tl j) with ⟨e1,e2⟩ | ⟨p,q,e1,e2,hr⟩
   ·rw [e1,e2]; trivial
   ·rw [e1,e2]; exact hr.killed hrow hk (Frz.le_refl F)
 ·obtain ⟨cs,h⟩:=ht.kp j g t e
  exact ⟨cs,by rw [Loc.get_set,if_neg (by rintro rfl; exact hrow _ _ _ h)]; exact h⟩
theorem RelS_flat {a:Option Addr} {sz sz':Nat} {els:List (List C)} (h:RelS F a sz' 0 els) (hs:∀ es ∈ els,es.length = sz):∃ xs,xs.length = els.length * sz ∧ (FCells F a 0 xs ∨ (els.length = 0 ∧ xs = [])) ∧ RelRow F sz els xs:=by
 cases hels:els with
 | nil => exact ⟨[],by simp,.inr ⟨rfl,rfl⟩,by simp only [RelRow]⟩
 | cons e0 rest =>
  rw [hels] at h hs
  have h0:=RelS_iff.1 h 0 e0 (by simp)
  obtain ⟨vs0,k1,⟨ad,arr,t,fr,ea,hb,hsp,_⟩,_,k4⟩:=h0
  have hsz:sz' = sz:=by rw [← k1,k4.len,hs e0 (by simp)]
  subst hsz
  subst ea
  have key:∀ (l:List (List C)) (i:Nat),RelS F (some ad) sz' i l → ∃ xs,RelRow F sz' l xs ∧ ∀ (j:Nat) v,xs[j]? = some v → arr[ad.off + i * sz' + j]? = some v:=by
   intro l
   induction l with
   | nil => intro i _; exact ⟨[],by simp only [RelRow],by simp⟩
   | cons es l ih =>
    intro i hr
    simp only [RelS] at hr
    obtain ⟨⟨vs,q1,⟨ad',arr',t',fr',e',hb',hsp',hv⟩,q3,q4⟩,q5⟩:=hr
    injection e' with e'
    subst e'
    rw [hb] at hb'
    injection hb' with hb'
    injection hb' with r1 r2 r3
    subst r1
    obtain ⟨xs,x1,x2⟩:=ih (i + 1) q5
    refine ⟨vs ++ xs,by simp only [RelRow]; exact ⟨vs,xs,rfl,q1,q3,q4,x1⟩,fun j v hj => ?_⟩
    by_cases hlt:j < vs.length
    ·rw [List.getElem?_append_left hlt] at hj
     exact hv j v hj
    ·rw [List.getElem?_append_right (by omega)] at hj
     have:=x2 _ _ hj
     rw [show ad.off + i * sz' + j = ad.off + (i + 1) * sz' + (j - vs.length) by rw [q1,Nat.add_mul]; omega]
     exact this
  obtain ⟨xs,x1,x2⟩:=key (e0 :: rest) 0 h
  exact ⟨xs,RelRow_len x1,.inl ⟨ad,arr,t,fr,rfl,hb,hsp,fun j v hj => by have:=x2 j v hj; simpa using this⟩,x1⟩
theorem RelRow.ones {sz:Nat}:∀ {l:List (List C)} {xs:List Value},RelRow F sz l xs → ∀ u ∈ xs,u.oneCell' = true
 | [],xs,h => by simp only [RelRow] at h; subst h; simp
 | es :: l,xs,h => by
  simp only [RelRow] at h
  obtain ⟨vs,xs',rfl,h2,h3,h4,h5⟩:=h
  intro u hu
  rcases List.mem_append.1 hu with hu | hu
  ·exact ones_vals h4 h3 u hu
  ·exact RelRow.ones h5 u hu
theorem RelRow_bytes (bs:List UInt8):RelRow F 1 (bcells bs) (bs.map fun b => Value.int .u8 b.toNat):=by
 induction bs with
 | nil => simp only [bcells,List.map_nil,RelRow]
 | cons b bs ih =>
  simp only [bcells,List.map_cons,RelRow]
  refine ⟨[.int .u8 b.toNat],_,rfl,rfl,rfl,?_,ih⟩
  simp only [Rels,Rel]
  refine ⟨_,_,rfl,⟨rfl,?_⟩,rfl⟩
  have:=b.toNat_lt
  simp [Lit.wf,IntKind.min,IntKind.max,IntKind.bits,IntKind.signed]
  omega
theorem RelS_bytes {g:Nat} {bs:List UInt8} (h:FCells F (some ⟨g,0,none⟩) 0 (bs.map fun b => Value.int .u8 b.toNat)):RelS F (some ⟨g,0,none⟩) 1 0 (bcells bs):=(RelRow_bytes bs).frz h
theorem RelRow.set {sz:Nat}:∀ {l:List (List C)} {xs:List Value},RelRow F sz l xs → ∀ {j:Nat} {es ds:List C} {us:List Value} {off:Nat},l[j]? = some es → off + us.length ≤ sz → Rels F [] ds us → onesL ds = true →
  RelRow F sz (l.set j (spliceC es off ds)) (splice xs (j * sz + off) us)
 | [],xs,h,j,es,ds,us,off,e,_,_,_ => by simp at e
 | x :: l,xs,h,j,es,ds,us,off,e,ho,hr,h1 => by
  simp only [RelRow] at h
  obtain ⟨vs,xs',rfl,h2,h3,h4,h5⟩:=h
  cases j with
  | zero =>
   simp only [List.getElem?_cons_zero,Option.some.injEq] at e
   subst e
   simp only [List.set_cons_zero,RelRow]
   refine ⟨splice vs off us,xs',?_,?_,?_,spliceC_rel h4 hr,h5⟩
   ·simp only [splice,Nat.zero_mul,Nat.zero_add]
    rw [List.take_append_of_le_length (by omega),List.drop_append_of_le_length (by omega)]
    simp
   ·simp only [splice,List.length_append,List.length_take,List.length_drop]; omega
   ·rw [onesL_iff] at h3 h1 ⊢
    intro c hc
    simp only [spliceC,List.mem_append] at hc
    rcases hc with (hc | hc) | hc
    ·exact h3 c (List.mem_of_mem_take hc)
    ·exact h1 c hc
    ·exact h3 c (List.mem_of_mem_drop hc)
  | succ j =>
   simp only [List.set_cons_succ,RelRow]
   have ih:=RelRow.set h5 (j:=j) (by simpa using e) ho hr h1
   refine ⟨vs,_,?_,h2,h3,h4,ih⟩
   simp only [splice]
   rw [show (j + 1) * sz + off = vs.length + (j * sz + off) by rw [h2,Nat.add_mul]; omega]
   rw [List.take_length_add_append,show vs.length + (j * sz + off) + us.length = vs.length + (j * sz + off + us.length) by omega,List.drop_length_add_append]
   simp [List.append_assoc]
end
section
variable {P:Program} {G:Nat → Option (Nat × TypeId)} {F:Frz} {L:Loc} {ρ:Env} {M:TL} {τ:TEnv}
def Both (G:Nat → Option (Nat × TypeId)) (K:TK):Kont:=fun F L ρ => ∃ M τ,TS G F L ρ M τ ∧ K M τ
theorem relV_rw {k:Nat} {a:Option Addr} {c n:Nat} {t sz:Nat} {xs:List Value} (h:L.get k = some (.row (.slice a n c) t sz n xs)):RelV F L (.rw k) (.v (.slice a n c)) :=
 ⟨_,rfl,by simp only [Rel]; exact ⟨a,c,t,sz,n,xs,rfl,h⟩⟩
theorem frz_pt {g:Nat} {F':Frz} {t:TypeId} {cs:List C} {vs:List Value} {fr:Nat × Nat} (hg:F' g = some (.cells vs.toArray t fr)) (h1:onesL cs = true) (hr:Rels F' [] cs vs):RelV F' L (.pt cs 0) (.v (.pointer (some ⟨g,0,none⟩))) :=
 ⟨g,0,0,vs,.inl ⟨rfl,rfl⟩,⟨0,_,t,fr,hg,rfl,fun i v hi => by simpa using hi⟩,h1,hr⟩
theorem parts_sound (he:∀ j,RelV F L (τ j) (ρ j)) {sz:Nat}:∀ {xs:List X},partsT τ sz xs = true → parts? L ρ sz xs = true ∧ RelRow F sz (elsT τ xs) (cellsOf L ρ xs) ∧ (elsT τ xs).length = xs.length
 | [],_ => ⟨rfl,by simp only [elsT,cellsOf,RelRow],rfl⟩
 | x :: xs,h => by
  simp only [partsT] at h
  split at h
  case h_2 => cases h
  rename_i h1 h2 h3 h4
  obtain ⟨k1,k2,k3⟩:=parts_sound he h
  have hc:=vals_cells he h1
  have hl:(vcells (val L ρ x)).length = sz:=by rw [hc.len]; exact lenC_eq h2
  refine ⟨by simp only [parts?,len_of hl]; exact k1,?_,by simp only [elsT,List.length_cons,k3]⟩
  simp only [elsT,cellsOf,RelRow]
  exact ⟨_,_,rfl,hl,ones_can h3,cans_rel (pures_rel h4 hc),k2⟩
theorem tyB_eq {t:Nat} (h:tyB t = true):t < 1048576 ∧ t ≠ 0:=by
 unfold tyB at h
 split at h
 ·cases h
 ·rename_i h1
  have:=Nat.le_of_ble_eq_true h
  exact ⟨by omega,fun e => by subst e; simp at h1⟩
theorem sim_box {t:TypeId} {x:X} {k:Nat} {K:TK} (ht:TS G F L ρ M τ) (hk:M.get k = none) (hc:(evT τ x).okc = true) (hty:t < 1048576 ∧ t ≠ 0) (h:K (M.set k (.box t (tcells (evT τ x)))) (tput (some k) (.own k 0) τ)) (g:Nat) :
  Both G K F (L.set k (.box g t (vcells (val L ρ x)))) (put (some k) (.own k 0) ρ):=by
 have hk':=tl_none ht.tl hk
 have hext:Ext L (L.set k (.box g t (vcells (val L ρ x)))):=by
  intro j p e
  refine ⟨p,?_,Own.like_refl p⟩
  rw [Loc.get_set,if_neg (by rintro rfl; rw [hk'] at e; cases e)]
  exact e
 have h1:=ht.new (Frz.le_refl F) hk' (o:=.box g t (vcells (val L ρ x))) (to:=.box t (tcells (evT τ x))) ⟨⟨hty.1,.inl rfl,hty.2⟩,(vals_cells ht.env hc).ext (Frz.le_refl F) hext⟩
 exact ⟨_,_,h1.put (c:=.own k 0) (sv:=.own k 0) ⟨rfl,g,t,_,by rw [Loc.get_set,if_pos rfl]⟩ (some k),h⟩
theorem sim_alloc {t:TypeId} {zs:List Value} {k:Nat} {K:TK} (ht:TS G F L ρ M τ) (hk:M.get k = none) (hty:t < 1048576 ∧ t ≠ 0) (h:K (M.set k (.box t (zs.map cv0))) (tput (some k) (.own k 0) τ)) (g:Nat) :
  Both G K F (L.set k (.box g t zs)) (put (some k) (.own k 0) ρ):=by
 have hk':=tl_none ht.tl hk
 have h1:=ht.new (Frz.le_refl F) hk' (o:=.box g t zs) (to:=.box t (zs.map cv0)) ⟨⟨hty.1,.inl rfl,hty.2⟩,cv0s_rel zs⟩
 exact ⟨_,_,h1.put (c:=.own k 0) (sv:=.own k 0) ⟨rfl,g,t,_,by rw [Loc.get_set,if_pos rfl]⟩ (some k),h⟩
theorem sim_mkF {e n sz:Nat} {xs:List X} {d:Option Nat} {K:TK} (ht:TS G F L ρ M τ) (hp:partsT τ sz xs = true) (hn:xs.length = n) (hm:n ≤ maxLen) (h:K M (tput d (.slx (elsT τ xs)) τ)) {g:Nat} {F':Frz} (hF:F.le F')
  (hg:F' g = some (.cells (cellsOf L ρ xs).toArray e (0,0))):Both G K F' L (put d (.v (.slice (some ⟨g,0,none⟩) n n)) ρ):=by
 obtain ⟨k1,k2,k3⟩:=parts_sound ht.env hp
 have hf:FCells F' (some ⟨g,0,none⟩) 0 (cellsOf L ρ xs):=⟨_,_,_,_,rfl,hg,rfl,fun i v hi => by simpa using hi⟩
 refine ⟨_,_,(ht.mono hF).put (c:=.slx (elsT τ xs)) ⟨_,rfl,?_⟩ d,h⟩
 simp only [Rel]
 exact ⟨⟨g,0,none⟩,by rw [k3,hn],by omega,sz,(k2.mono hF).frz hf⟩
theorem sim_mkR {e n sz:Nat} {xs:List X} {k:Nat} {K:TK} (ht:TS G F L ρ M τ) (hp:partsT τ sz xs = true) (hn:xs.length = n) (hm:n ≤ maxLen) (hk:M.get k = none) (h:K (M.set k (.row e sz (elsT τ xs))) (tput (some k) (.rw k) τ)) (g:Nat) :
  Both G K F (L.set k (.row (.slice (some ⟨g,0,none⟩) n n) e sz n (cellsOf L ρ xs))) (put (some k) (.v (.slice (some ⟨g,0,none⟩) n n)) ρ):=by
 obtain ⟨k1,k2,k3⟩:=parts_sound ht.env hp
 have hk':=tl_none ht.tl hk
 have h1:=ht.new (Frz.le_refl F) hk' (o:=.row (.slice (some ⟨g,0,none⟩) n n) e sz n (cellsOf L ρ xs)) (to:=.row e sz (elsT τ xs)) ⟨rfl,rfl,by rw [k3,hn],⟨hm,_,_,rfl,fun e => (by cases e)⟩,k2⟩
 exact ⟨_,_,h1.put (c:=.rw k) (relV_rw (by rw [Loc.get_set,if_pos rfl])) (some k),h⟩
theorem sim_app_on {e sz:Nat} {k:Nat} {els news:List (List C)} {d:Option Nat} {K:TK} (ht:TS G F L ρ M τ) {s:Value} {xs ys:List Value} (hk:L.get k = some (.row s e sz els.length xs)) (hr:RelRow F sz els xs) (hy:RelRow F sz news ys)
  (hm:els.length + news.length ≤ maxLen) (h:K ((M.mapC (C.kill k)).set k (.row e sz (els ++ news))) (tput d (.rw k) fun j => (τ j).kill k)) {v:Value} (hv:∃ a c,v = .slice a (els.length + news.length) c ∧ (a = none → els.length + news.length = 0)) :
  Both G K F (L.set k (.row v e sz (els.length + news.length) (xs ++ ys))) (put d (.v v) ρ):=by
 obtain ⟨a,c,rfl,hn⟩:=hv
 have h1:=ht.killed (k:=k) (o':=.row (.slice a (els.length + news.length) c) e sz (els.length + news.length) (xs ++ ys)) (to:=.row e sz (els ++ news)) (fun g t cs e => by rw [hk] at e; injection e with e; cases e)
  ⟨rfl,rfl,by simp,⟨hm,a,c,rfl,hn⟩,hr.append hy⟩
 exact ⟨_,_,h1.put (c:=.rw k) (relV_rw (by rw [Loc.get_set,if_pos rfl])) d,h⟩
theorem sim_app_nil {e sz:Nat} {k:Nat} {news:List (List C)} {d:Option Nat} {K:TK} (ht:TS G F L ρ M τ) {ys:List Value} (hk:M.get k = none) (hy:RelRow F sz news ys)
  (hm:news.length ≤ maxLen) (h:K (M.set k (.row e sz news)) (tput d (.rw k) τ)) {v:Value} (hv:∃ a c,v = .slice a (0 + news.length) c ∧ (a = none → 0 + news.length = 0)) :
  Both G K F (L.set k (.row v e sz (0 + news.length) ([] ++ ys))) (put d (.v v) ρ):=by
 obtain ⟨a,c,rfl,hn⟩:=hv
 have h1:=ht.new (Frz.le_refl F) (tl_none ht.tl hk) (o:=.row (.slice a (0 + news.length) c) e sz (0 + news.length) ([] ++ ys)) (to:=.row e sz news) ⟨rfl,rfl,by simp,⟨by omega,a,c,rfl,hn⟩,hy⟩
 exact ⟨_,_,h1.put (c:=.rw k) (relV_rw (by rw [Loc.get_set,if_pos rfl])) d,h⟩
theorem own_row {x:X} {k e sz:Nat} {els:List (List C)} (ht:TS G F L ρ M τ) (hx:evT τ x = .rw k) (hk:M.get k = some (.row e sz els)) :
  ∃ a c xs,ev ρ x = .v (.slice a els.length c) ∧ L.get k = some (.row (.slice a els.length c) e sz els.length xs) ∧ RelRow F sz els xs ∧ els.length ≤ maxLen:=by
 obtain ⟨a,c,t',sz',n,xs',e1,e2⟩:=inv_rw ht.env hx
 obtain ⟨v,xs,e3,⟨hm,_⟩,hr⟩:=tl_row ht.tl hk
 rw [e2] at e3
 injection e3 with e3
 injection e3 with q1 q2 q3 q4 q5
 subst q2 q3 q4 q5
 exact ⟨a,c,_,e1,e2,hr,hm⟩
set_option maxHeartbeats 1000000 in
theorem sim_appT {e sz b:Nat} {s x:X} {d:Option Nat} {K:TK} (ht:TS G F L ρ M τ) (h:appT e sz b (evT τ s) (evT τ x) d M τ K):∃ sv xv,ev ρ s = .v sv ∧ ev ρ x = .v xv ∧ AppPt F L e sz b sv xv fun L1 v => Both G K F L1 (Fr.put d (.v v) ρ):=by
 have he:=ht.env
 simp only [appT,fT_eq] at h
 split at h
 ·rename_i k news hs hx
  split at h
  case h_2 => exact h.elim
  rename_i e' sz' els hk
  split at h
  case h_2 => exact h.elim
  rename_i h1 h2
  obtain rfl:=Nat.eq_of_beq_eq_true h1
  obtain rfl:=Nat.eq_of_beq_eq_true h2
  obtain ⟨g1,g2,g3,g4⟩:=h
  obtain ⟨a,c,xs,e1,e2,hr,hm⟩:=own_row ht hs hk
  obtain ⟨a',c',sz2,e3,e4,e5,e6,e7⟩:=inv_slc he hx
  obtain ⟨ys,y1,y2,y3⟩:=RelS_flat e7 g1
  exact ⟨_,_,e1,e3,k,els.length,xs,news.length,ys,.inl e2,⟨a',c',rfl,y1,y2.imp id .inl⟩,y3.ones,g2,g3,fun v hv => sim_app_on ht e2 hr y3 g2 g4 hv⟩
 ·rename_i news k hs hx
  split at h
  case h_2 => exact h.elim
  rename_i hk
  obtain ⟨g1,g2,g3,g4⟩:=h
  obtain ⟨a',c',sz2,e3,e4,e5,e6,e7⟩:=inv_slc he hx
  obtain ⟨ys,y1,y2,y3⟩:=RelS_flat e7 g1
  simp only [List.length_nil] at g2 g3
  exact ⟨_,_,inv_nils he hs,e3,k,0,[],news.length,ys,.inr (.inl ⟨tl_none ht.tl hk,rfl,rfl,rfl⟩),⟨a',c',rfl,y1,y2.imp id .inl⟩,y3.ones,g2,g3,fun v hv => sim_app_nil ht hk y3 (by omega) g4 hv⟩
 ·rename_i els news k hs hx
  split at h
  case h_2 => exact h.elim
  rename_i hk
  obtain ⟨g0,g00,g1,g2,g3,g4⟩:=h
  obtain ⟨a,sz1,e1,hm,e2⟩:=inv_slx he hs
  obtain ⟨a',c',sz2,e3,e4,e5,e6,e7⟩:=inv_slc he hx
  obtain ⟨ys,y1,y2,y3⟩:=RelS_flat e7 g1
  obtain ⟨xs,x1,x2,x3⟩:=RelS_flat e2 g00
  refine ⟨_,_,e1,e3,k,els.length,xs,news.length,ys,.inr (.inr ⟨tl_none ht.tl hk,a,rfl,g0,x1,x2⟩),⟨a',c',rfl,y1,y2.imp id .inl⟩,y3.ones,g2,g3,fun v hv => ?_⟩
  obtain ⟨av,cv,rfl,hn⟩:=hv
  have h1:=ht.new (Frz.le_refl F) (tl_none ht.tl hk) (o:=.row (.slice av (els.length + news.length) cv) e sz (els.length + news.length) (xs ++ ys)) (to:=.row e sz (els ++ news)) ⟨rfl,rfl,by simp,⟨g2,av,cv,rfl,hn⟩,x3.append y3⟩
  exact ⟨_,_,h1.put (c:=.rw k) (relV_rw (by rw [Loc.get_set,if_pos rfl])) _,g4⟩
 ·rename_i k k' hs hx
  have hx:=can_rw hx
  split at h
  case h_2 => exact h.elim
  rename_i e' sz' els e'' sz'' news hk hk2
  split at h
  case h_2 => exact h.elim
  rename_i h1 h2 h3
  obtain rfl:=Nat.eq_of_beq_eq_true h1
  obtain rfl:=Nat.eq_of_beq_eq_true h2
  obtain rfl:=Nat.eq_of_beq_eq_true h3
  obtain ⟨g1,g2,g3,g4⟩:=h
  obtain ⟨a,c,xs,e1,e2,hr,hm⟩:=own_row ht hs hk
  obtain ⟨a',c',ys,e3,e4,hr',hm'⟩:=own_row ht hx hk2
  refine ⟨_,_,e1,e3,k,els.length,xs,news.length,ys,.inl e2,⟨a',c',rfl,RelRow_len hr',?_⟩,hr'.ones,g2,g3,fun v hv => sim_app_on ht e2 hr hr' g2 g4 hv⟩
  cases a' with
  | some ad => exact .inr (.inr ⟨k',_,_,_,_,_,ad,c',e4,rfl,rfl,fun i u hu => hu⟩)
  | none =>
   obtain ⟨v,xs2,q1,⟨_,a2,c2,q2,q3⟩,q4⟩:=tl_row ht.tl hk2
   rw [e4] at q1
   injection q1 with q1
   injection q1 with r1 r2 r3 r4 r5
   rw [← r1] at q2
   injection q2 with q2
   have hz:=q3 q2.symm
   have hl:=RelRow_len hr'
   refine .inr (.inl ⟨hz,List.length_eq_zero_iff.1 (by rw [hl,hz]; simp)⟩)
 ·rename_i k' k hs hx
  have hx:=can_rw hx
  split at h
  case h_2 => exact h.elim
  rename_i e'' sz'' news hk hk2
  split at h
  case h_2 => exact h.elim
  rename_i h3
  obtain rfl:=Nat.eq_of_beq_eq_true h3
  obtain ⟨g1,g2,g3,g4⟩:=h
  obtain ⟨a',c',ys,e3,e4,hr',hm'⟩:=own_row ht hx hk2
  simp only [List.length_nil] at g2 g3
  refine ⟨_,_,inv_nils he hs,e3,k,0,[],news.length,ys,.inr (.inl ⟨tl_none ht.tl hk,rfl,rfl,rfl⟩),⟨a',c',rfl,RelRow_len hr',?_⟩,hr'.ones,g2,g3,fun v hv => sim_app_nil ht hk hr' (by omega) g4 hv⟩
  cases a' with
  | some ad => exact .inr (.inr ⟨k',_,_,_,_,_,ad,c',e4,rfl,rfl,fun i u hu => hu⟩)
  | none =>
   obtain ⟨v,xs2,q1,⟨_,a2,c2,q2,q3⟩,q4⟩:=tl_row ht.tl hk2
   rw [e4] at q1
   injection q1 with q1
   injection q1 with r1 r2 r3 r4 r5
   rw [← r1] at q2
   injection q2 with q2
   have hz:=q3 q2.symm
   have hl:=RelRow_len hr'
   refine .inr (.inl ⟨hz,List.length_eq_zero_iff.1 (by rw [hl,hz]; simp)⟩)
 ·exact h.elim
theorem sim_app {e sz b:Nat} {zs:List Value} {s x:X} {d:Option Nat} {K:TK} (ht:TS G F L ρ M τ) (h:evalTOp P (.app e sz b zs s x) d M τ K):evalOp P (.app e sz b zs s x) d F L ρ (Both G K):=by
 obtain ⟨sv,xv,e1,e2,h3⟩:=sim_appT ht h
 simp only [evalOp,e1,e2]
 exact h3
theorem sim_appX {e sz b:Nat} {zs:List Value} {s x:X} {d:Option Nat} {K:TK} (ht:TS G F L ρ M τ) (h:evalTOp P (.appX e sz b zs s x) d M τ K):evalOp P (.appX e sz b zs s x) d F L ρ (Both G K):=by
 obtain ⟨sv,xv,e1,e2,⟨kd,n,xs,m,news,h1,h2,h3,h4,h5,h6⟩⟩:=sim_appT ht h
 simp only [evalOp,e1,e2]
 exact ⟨kd,n,xs,m,news,h1,h2,h3,h4,h5,fun v hv _ => h6 v hv⟩
set_option maxHeartbeats 1000000 in
theorem sim_appD {e sz b:Nat} {zs:List Value} {s x:X} {d:Option Nat} {K:TK} (ht:TS G F L ρ M τ) (h:evalTOp P (.appD e sz b zs s x) d M τ K):evalOp P (.appD e sz b zs s x) d F L ρ (Both G K):=by
 have he:=ht.env
 simp only [evalTOp,fT_eq,fl_eq,fca_eq] at h
 simp only [evalOp]
 split at h
 ·rename_i k news hs hx
  split at h
  case h_2 => exact h.elim
  rename_i e' sz' els hk
  split at h
  case h_2 => exact h.elim
  rename_i h1 h2
  obtain rfl:=Nat.eq_of_beq_eq_true h1
  obtain rfl:=Nat.eq_of_beq_eq_true h2
  obtain ⟨g1,g2,g3,g4⟩:=h
  obtain ⟨a,c,xs,e1,e2,hr,hm⟩:=own_row ht hs hk
  obtain ⟨a',c',sz2,e3,e4,e5,e6,e7⟩:=inv_slc he hx
  obtain ⟨ys,y1,y2,y3⟩:=RelS_flat e7 g1
  rw [e1,e3]
  exact ⟨k,els.length,xs,news.length,ys,.inl e2,⟨a',c',rfl,y1,y2⟩,y3.ones,g2,g3,fun v hv _ => sim_app_on ht e2 hr y3 g2 g4 hv⟩
 ·rename_i news k hs hx
  split at h
  case h_2 => exact h.elim
  rename_i hk
  obtain ⟨g1,g2,g3,g4⟩:=h
  obtain ⟨a',c',sz2,e3,e4,e5,e6,e7⟩:=inv_slc he hx
  obtain ⟨ys,y1,y2,y3⟩:=RelS_flat e7 g1
  simp only [List.length_nil] at g2 g3
  rw [inv_nils he hs,e3]
  exact ⟨k,0,[],news.length,ys,.inr (.inl ⟨rfl,tl_none ht.tl hk,rfl,rfl,rfl⟩),⟨a',c',rfl,y1,y2⟩,y3.ones,g2,g3,fun v hv _ => sim_app_nil ht hk y3 (by omega) g4 hv⟩
 ·rename_i els news k hs hx
  split at h
  case h_2 => exact h.elim
  rename_i hk
  obtain ⟨g0,g00,g1,g2,g3,g4⟩:=h
  obtain ⟨a,sz1,e1,hm,e2⟩:=inv_slx he hs
  obtain ⟨a',c',sz2,e3,e4,e5,e6,e7⟩:=inv_slc he hx
  obtain ⟨ys,y1,y2,y3⟩:=RelS_flat e7 g1
  obtain ⟨xs,x1,x2,x3⟩:=RelS_flat e2 g00
  rw [e1,e3]
  refine ⟨k,els.length,xs,news.length,ys,.inr (.inr ⟨rfl,tl_none ht.tl hk,a,rfl,g0,x1,x2⟩),⟨a',c',rfl,y1,y2⟩,y3.ones,g2,g3,fun v hv _ => ?_⟩
  obtain ⟨av,cv,rfl,hn⟩:=hv
  have h1:=ht.new (Frz.le_refl F) (tl_none ht.tl hk) (o:=.row (.slice av (els.length + news.length) cv) e sz (els.length + news.length) (xs ++ ys)) (to:=.row e sz (els ++ news)) ⟨rfl,rfl,by simp,⟨g2,av,cv,rfl,hn⟩,x3.append y3⟩
  exact ⟨_,_,h1.put (c:=.rw k) (relV_rw (by rw [Loc.get_set,if_pos rfl])) _,g4⟩
 ·exact h.elim
theorem sim_appS {e:Nat} {s x:X} {d:Option Nat} {K:TK} (ht:TS G F L ρ M τ) (h:evalTOp P (.appS e s x) d M τ K):evalOp P (.appS e s x) d F L ρ (Both G K):=by
 have he:=ht.env
 simp only [evalTOp,fT_eq,fl_eq,fca_eq] at h
 simp only [evalOp]
 split at h
 ·rename_i k t hs hx
  split at h
  case h_2 => exact h.elim
  rename_i e' sz' els hk
  split at h
  case h_2 => exact h.elim
  rename_i h1 h2
  obtain rfl:=Nat.eq_of_beq_eq_true h1
  obtain rfl:=Nat.eq_of_beq_eq_true h2
  obtain ⟨g1,g2,g3,g4⟩:=h
  obtain ⟨a,c,xs,e1,e2,hr,hm⟩:=own_row ht hs hk
  have hl:(bcells t.data.toList).length = t.size:=by simp [bcells]
  rw [e1,(inv_str he hx).1]
  rw [hl] at g2 g3
  refine ⟨k,els.length,xs,.inl e2,g2,by simpa using g3,fun v hv => ?_⟩
  have:=sim_app_on (news:=bcells t.data.toList) (v:=v) ht e2 hr (RelRow_bytes t.data.toList) (by rw [hl]; exact g2) g4 (by rw [hl]; exact hv)
  rw [hl] at this
  exact this
 ·rename_i t k hs hx
  split at h
  case h_2 => exact h.elim
  rename_i hk
  obtain ⟨g1,g2,g3,g4⟩:=h
  have hl:(bcells t.data.toList).length = t.size:=by simp [bcells]
  rw [inv_nils he hs,(inv_str he hx).1]
  rw [hl] at g2 g3
  simp only [List.length_nil] at g2 g3
  refine ⟨k,0,[],.inr ⟨tl_none ht.tl hk,rfl,rfl,rfl⟩,g2,by simpa using g3,fun v hv => ?_⟩
  have:=sim_app_nil (news:=bcells t.data.toList) (v:=v) ht hk (RelRow_bytes t.data.toList) (by rw [hl]; omega) g4 (by rw [hl]; exact hv)
  rw [hl] at this
  exact this
 ·exact h.elim
theorem RelRow_zeros {F:Frz} (ki:IntKind):∀ m:Nat,RelRow F 1 (List.replicate m [C.int ki 0]) (List.replicate m (Value.int ki 0))
 | 0 => by simp only [List.replicate_zero,RelRow]
 | m + 1 => by
  simp only [List.replicate_succ,RelRow]
  refine ⟨[.int ki 0],_,rfl,rfl,rfl,?_,RelRow_zeros ki m⟩
  simp only [Rels,Rel]
  exact ⟨_,_,rfl,⟨rfl,by cases ki <;> rfl⟩,rfl⟩
theorem sim_appZ {e b:Nat} {ki:IntKind} {s x:X} {d:Option Nat} {K:TK} (ht:TS G F L ρ M τ) (h:evalTOp P (.appZ e b ki s x) d M τ K):evalOp P (.appZ e b ki s x) d F L ρ (Both G K):=by
 have he:=ht.env
 simp only [evalTOp,fT_eq,fl_eq,fca_eq] at h
 simp only [evalOp]
 split at h
 ·rename_i k kx i hs hx
  split at h
  case h_2 => exact h.elim
  rename_i e' sz' els hk
  split at h
  case h_2 => exact h.elim
  rename_i h1 h2
  obtain rfl:=Nat.eq_of_beq_eq_true h1
  obtain rfl:=Nat.eq_of_beq_eq_true h2
  obtain ⟨m,rfl,g1,g2,g3,g4⟩:=h
  obtain ⟨a,c,xs,e1,e2,hr,hm⟩:=own_row ht hs hk
  rw [e1,(inv_int he hx).1]
  rw [List.length_replicate] at g2 g3
  refine ⟨k,els.length,xs,.inl e2,g2,g3,fun v hv => ?_⟩
  have:=sim_app_on (news:=List.replicate m [C.int ki 0]) (v:=v) ht e2 hr (RelRow_zeros ki m) (by rw [List.length_replicate]; exact g2) g4 (by rw [List.length_replicate]; exact hv)
  rw [List.length_replicate] at this
  exact this
 ·rename_i kx i k hs hx
  split at h
  case h_2 => exact h.elim
  rename_i hk
  obtain ⟨m,rfl,g1,g2,g3,g4⟩:=h
  rw [inv_nils he hs,(inv_int he hx).1]
  rw [List.length_replicate] at g2 g3
  simp only [List.length_nil] at g2 g3
  refine ⟨k,0,[],.inr ⟨tl_none ht.tl hk,rfl,rfl,rfl⟩,g2,g3,fun v hv => ?_⟩
  have:=sim_app_nil (news:=List.replicate m [C.int ki 0]) (v:=v) ht hk (RelRow_zeros ki m) (by rw [List.length_replicate]; omega) g4 (by rw [List.length_replicate]; exact hv)
  rw [List.length_replicate] at this
  exact this
 ·exact h.elim
theorem sim_store {n:Nat} {y x:X} {d:Option Nat} {K:TK} (ht:TS G F L ρ M τ) (h:storeT false n y x d M τ K):evalOp P (.store n y x) d F L ρ (Both G K):=by
 have he:=ht.env
 simp only [storeT,fT_eq,fl_eq,fca_eq] at h
 simp only [evalOp]
 split at h
 ·rename_i k off h1 h2 h3 hy
  split at h
  case h_2 => exact h.elim
  rename_i t cs hk
  split at h
  case h_2 => exact h.elim
  rename_i hl
  obtain ⟨g,ty,vs,hL,hr,hty⟩:=tl_box ht.tl hk
  have hc:=vals_cells he h1
  have hl2:len? (vcells (val L ρ x)) n = true:=len_of (by rw [hc.len]; exact lenC_eq h2)
  have ho:=ones_of (ones_vals hc h3)
  rw [hl2,ho,(inv_own he hy).1]
  simp only [hL]
  have hr2:=(hr.drop off).take n
  rw [memB_of hty.2.2 (len_of (by rw [hr2.len]; exact lenC_eq hl))]
  have h4:=ht.turn (o':=.box g ty (splice vs off (vcells (val L ρ x)))) (to:=.box t (spliceC cs off (tcells (evT τ x)))) hL ⟨rfl,rfl⟩ (fun g' t' cs' e => by injection e with a b c; subst a b; exact ⟨_,rfl⟩)
   (fun L' hx => ⟨hty,(spliceC_rel hr hc).ext (Frz.le_refl F) hx⟩)
  exact ⟨_,_,h4.put (c:=.und) (sv:=.v undef) ⟨_,rfl,by simp only [Rel]⟩ d,h⟩
 ·rename_i k j off h1 h2 h3 hy
  split at h
  case h_2 => exact h.elim
  rename_i t sz els h0 hk hp
  obtain ⟨r0,es,r1,r2,r3⟩:=h
  obtain ⟨ad,t',sz',m,c,xs',e1,e2⟩:=inv_elr he hy
  obtain ⟨v,xs,e3,⟨hm,q6⟩,hr⟩:=tl_row ht.tl hk
  rw [e2] at e3
  injection e3 with e3
  injection e3 with q1 q2 q3 q4 q5
  subst q1 q2 q3 q4 q5
  have hc:=vals_cells he h1
  have hl0:(vcells (val L ρ x)).length = n:=by rw [hc.len]; exact lenC_eq h2
  have hl2:len? (vcells (val L ρ x)) n = true:=len_of hl0
  have ho:=ones_of (ones_vals hc h3)
  rw [hl2,ho,e1]
  have hes:es.length = sz':=by
   obtain ⟨us,u1,_,u3,_⟩:=hr.at r1
   rw [← u1,u3.len]
  have hn:off + n ≤ sz':=Nat.le_of_ble_eq_true r0
  have hset:=hr.set (ds:=(tcells (evT τ x)).map C.can) (us:=vcells (val L ρ x)) (off:=off) r1 (by rw [hl0]; exact hn) (cans_rel (pures_rel hp hc)) (ones_can h3)
  have hjlt:j < els.length:=(List.getElem?_eq_some_iff.1 r1).1
  have hxl:=RelRow_len hr
  have h4:=ht.turn (o':=.row (.slice (some ad) els.length c) t' sz' els.length (splice xs' (j * sz' + off) (vcells (val L ρ x)))) (to:=.row t' sz' (els.set j (spliceC es off ((tcells (evT τ x)).map C.can)))) e2 ⟨rfl,rfl,rfl⟩
   (fun g' t'' cs' e => by cases e) (fun L' hx => ⟨rfl,rfl,by simp,⟨hm,_,_,rfl,fun e => (by cases e)⟩,hset⟩)
  refine ⟨k,_,_,_,_,_,ad,c,e2,rfl,rfl,?_,ones_vals hc h3,_,_,h4.put (c:=.und) (sv:=.v undef) ⟨_,rfl,by simp only [Rel]⟩ d,r3 es r1⟩
  rw [hxl,hl0]
  have:(j + 1) * sz' ≤ els.length * sz':=Nat.mul_le_mul_right _ hjlt
  rw [Nat.add_mul] at this
  omega
 ·exact h.elim
theorem sim_storeD {n:Nat} {y x:X} {d:Option Nat} {K:TK} (ht:TS G F L ρ M τ) (h:storeT true n y x d M τ K):evalOp P (.storeD n y x) d F L ρ (Both G K):=by
 have he:=ht.env
 simp only [storeT,fT_eq,fl_eq,fca_eq] at h
 simp only [evalOp]
 split at h
 ·rename_i k off h1 h2 h3 hy
  split at h
  case h_2 => exact h.elim
  rename_i t cs hk
  split at h
  case h_2 => exact h.elim
  rename_i hl
  obtain ⟨g,ty,vs,hL,hr,hty⟩:=tl_box ht.tl hk
  have hc:=vals_cells he h1
  have hl2:len? (vcells (val L ρ x)) n = true:=len_of (by rw [hc.len]; exact lenC_eq h2)
  have ho:=ones_of (ones_vals hc h3)
  rw [hl2,ho,(inv_own he hy).1]
  simp only [hL]
  have hr2:=(hr.drop off).take n
  rw [memB_of hty.2.2 (len_of (by rw [hr2.len]; exact lenC_eq hl))]
  have h4:=ht.turn (o':=.box g ty (splice vs off (vcells (val L ρ x)))) (to:=.box t (spliceC cs off (tcells (evT τ x)))) hL ⟨rfl,rfl⟩ (fun g' t' cs' e => by injection e with a b c; subst a b; exact ⟨_,rfl⟩)
   (fun L' hx => ⟨hty,(spliceC_rel hr hc).ext (Frz.le_refl F) hx⟩)
  exact ⟨_,_,h4.put (c:=.und) (sv:=.v undef) ⟨_,rfl,by simp only [Rel]⟩ d,h⟩
 ·exact h.elim
 ·exact h.elim
theorem sim_makeS {e sz b:Nat} {zs:List Value} {l c:X} {d:Option Nat} {K:TK} (ht:TS G F L ρ M τ) (h:evalTOp P (.makeS e sz b zs l c) d M τ K):evalOp P (.makeS e sz b zs l c) d F L ρ (Both G K):=by
 have he:=ht.env
 simp only [evalTOp,fT_eq,fl_eq,fca_eq] at h
 simp only [evalOp]
 split at h
 case h_2 => exact h.elim
 rename_i k1 n k2 m k hl hc
 split at h
 case h_2 => exact h.elim
 rename_i hk h1 h2
 rw [(inv_int he hl).1,(inv_int he hc).1]
 have hk':=tl_none ht.tl hk
 simp only [hk']
 obtain ⟨g1,g2,g3,g4,g5⟩:=h
 refine ⟨g1,g2,g3,g4,fun g => ?_⟩
 have hz:Rels F [] ((zs.map cv0).map C.can) zs:=cans_rel (cv0s_rel zs)
 have hrow:∀ i:Nat,RelRow F sz (List.replicate i ((zs.map cv0).map C.can)) (List.replicate i zs).flatten:=by
  intro i
  induction i with
  | zero => simp only [List.replicate_zero,List.flatten_nil,RelRow]
  | succ i ih =>
   simp only [List.replicate_succ,List.flatten_cons,RelRow]
   exact ⟨zs,_,rfl,by have:=lenC_eq h1; simpa using this,ones_can h2,hz,ih⟩
 have h3:=ht.new (Frz.le_refl F) hk' (o:=.row (.slice (some ⟨g,0,none⟩) n.toNat m.toNat) e sz n.toNat (List.replicate n.toNat zs).flatten) (to:=.row e sz (List.replicate n.toNat ((zs.map cv0).map C.can)))
  ⟨rfl,rfl,by simp,⟨Nat.le_trans (Int.toNat_le_toNat g2) g4,_,_,rfl,fun e => (by cases e)⟩,hrow _⟩
 exact ⟨_,_,h3.put (c:=.rw k) (relV_rw (by rw [Loc.get_set,if_pos rfl])) (some k),g5⟩
end
section
variable {P:Program} {G:Nat → Option (Nat × TypeId)} {F:Frz} {L:Loc} {ρ:Env} {M:TL} {τ:TEnv}
theorem toIn_eq:∀ {ks:List Nat} {i j m:Nat},toIn ks i j = some m → ∃ n,ks[n]? = some j ∧ m = i + n
 | [],_,_,_,h => by simp [toIn] at h
 | k :: ks,i,j,m,h => by
  simp only [toIn] at h
  cases hj:Nat.beq j k with
  | true =>
   have:=Nat.eq_of_beq_eq_true hj
   subst this
   rw [hj] at h
   injection h with h
   exact ⟨0,by simp,by omega⟩
  | false =>
   rw [hj] at h
   obtain ⟨n,h1,h2⟩:=toIn_eq h
   exact ⟨n + 1,by simpa using h1,by omega⟩
theorem fromIn_eq {ko:List Nat} {j m:Nat} (h:fromIn ko j = some m):1000 ≤ j ∧ ko[j - 1000]? = some m:=by
 simp only [fromIn] at h
 split at h
 ·rename_i h1; exact ⟨Nat.le_of_ble_eq_true h1,h⟩
 ·cases h
theorem nodup?_eq:∀ {l:List Nat},nodup? l = true → l.Nodup
 | [],_ => List.nodup_nil
 | k :: l,h => by
  simp only [nodup?] at h
  split at h
  ·cases h
  ·rename_i h1
   exact List.nodup_cons.2 ⟨fun hm => (by rw [mem?_eq.2 hm] at h1; cases h1),nodup?_eq h⟩
theorem ren_leaf {L':Loc} {f:Nat → Option Nat} (hf:∀ j m,f j = some m → ∀ o,L.get j = some o → L'.get m = some o) (c:C) (v:Value) (hc:c.leaf = true) (h:Rel F L c v):Rel F L' (renLeaf f c) v:=by
 cases c <;> simp only [C.leaf,Bool.false_eq_true] at hc <;> simp only [renLeaf]
 case rw j =>
  simp only [Rel] at h
  obtain ⟨a,c,t,sz,n,xs,rfl,h⟩:=h
  cases hj:f j with
  | none => simp only [Rel]
  | some m => simp only [Rel]; exact ⟨a,c,t,sz,n,xs,rfl,hf j m hj _ h⟩
 case own j off =>
  simp only [Rel] at h
  obtain ⟨g,t,cs,h,rfl⟩:=h
  cases hj:f j with
  | none => simp only [Rel]
  | some m => simp only [Rel]; exact ⟨g,t,cs,hf j m hj _ h,rfl⟩
 case mpr j =>
  simp only [Rel] at h
  obtain ⟨g,cs,h,rfl⟩:=h
  cases hj:f j with
  | none => simp only [Rel]
  | some m => simp only [Rel]; exact ⟨g,cs,hf j m hj _ h,rfl⟩
 case ownv => exact h.elim
 case elr => exact h.elim
 all_goals
  exact rel_leaf (Frz.le_refl F) (fun j' e => by rcases e with ⟨off,e⟩ | e | e <;> cases e) rfl h
theorem Rel.ren {L':Loc} {f:Nat → Option Nat} (hf:∀ j m,f j = some m → ∀ o,L.get j = some o → L'.get m = some o) {c:C} {v:Value} (h:Rel F L c v):Rel F L' (c.ren f) v:=Rel.mp (ren_leaf hf) 3 h
theorem RelO.ren {L':Loc} {f:Nat → Option Nat} (hf:∀ j m,f j = some m → ∀ o,L.get j = some o → L'.get m = some o):∀ {o:TO} {p:Own},RelO F L o p → RelO F L' (o.mapC (C.ren f)) p
 | .box t cs,.box g t' vs,r => ⟨r.1,r.2.map fun c _ v h => h.ren hf⟩
 | .row t sz els,.row v t' sz' n xs,r => r
 | .box _ _,.row ..,r => r.elim
 | .row ..,.box ..,r => r.elim
 | .map _,.row ..,r => r.elim
 | .map es,.box g t' vs,r => r
theorem tl_sub (ht:RelTL F L M):∀ {ks:List Nat} {Lin:List TO},M.sub ks = some Lin → ∃ Li,L.sub ks = some Li ∧ Li.length = Lin.length ∧ ∀ (i:Nat) o p,Lin[i]? = some o → Li[i]? = some p → RelO F L o p
 | [],Lin,h => by simp only [TL.sub,Option.some.injEq] at h; subst h; exact ⟨[],rfl,rfl,by simp⟩
 | k :: ks,Lin,h => by
  simp only [TL.sub] at h
  split at h
  case h_2 => cases h
  rename_i o l h1 h2
  injection h with h
  subst h
  obtain ⟨Li,e1,e2,e3⟩:=tl_sub ht h2
  rcases relK_get (ht k) with ⟨q1,q2⟩ | ⟨o',p,q1,q2,hr⟩
  ·rw [h1] at q1; cases q1
  ·rw [h1] at q1
   injection q1 with q1
   subst q1
   refine ⟨p :: Li,by simp only [Loc.sub,q2,e1],by simp [e2],fun i o'' p'' hi hp => ?_⟩
   cases i with
   | zero => simp only [List.getElem?_cons_zero,Option.some.injEq] at hi hp; subst hi; subst hp; exact hr
   | succ i => exact e3 i o'' p'' (by simpa using hi) (by simpa using hp)
theorem inp_sub {ks:List Nat} {Li:List Own} (hs:L.sub ks = some Li):∀ j m,toIn ks 1000 j = some m → ∀ o,L.get j = some o → (inp Li).get m = some o:=by
 intro j m h o ho
 obtain ⟨n,h1,rfl⟩:=toIn_eq h
 obtain ⟨_,hg⟩:=sub_get hs
 rw [inp_get,if_pos (by omega),show 1000 + n - 1000 = n by omega,← hg n j h1]
 exact ho
theorem tl_inp (ht:RelTL F L M) {ks:List Nat} {Lin:List TO} {Li:List Own} (hl:Li.length = Lin.length) (hs:L.sub ks = some Li) (hr:∀ (i:Nat) o p,Lin[i]? = some o → Li[i]? = some p → RelO F L o p) :
  RelTL F (inp Li) (tinp (Lin.map (TO.mapC (C.ren (toIn ks 1000))))):=by
 intro k
 rw [tinp_get,inp_get]
 split
 ·rw [List.getElem?_map]
  cases e1:Lin[k - 1000]? with
  | none =>
   have:Li[k - 1000]? = none:=by rw [List.getElem?_eq_none_iff] at e1 ⊢; omega
   rw [this]; trivial
  | some o =>
   have hlt:k - 1000 < Li.length:=by have:=(List.getElem?_eq_some_iff.1 e1).1; omega
   rw [List.getElem?_eq_getElem hlt]
   exact (hr _ _ _ e1 (List.getElem?_eq_getElem hlt)).ren (inp_sub hs)
 ·trivial
def dropRow (L:Loc) (k:Nat):Loc:=match L.get k with | some (.row ..) => L.del k | _ => L
def dropRows:List Nat → Loc → Loc
 | [],L => L
 | k :: ks,L => dropRows ks (dropRow L k)
theorem kill_drop (k:Nat):(∀ c v,c.leaf = true → Rel F L c v → Rel F (dropRow L k) (killLeaf k c) v) ∧ (∀ c sv,c.leaf = true → RelV F L c sv → RelV F (dropRow L k) (killLeaf k c) sv):=by
 by_cases hrow:∃ v t sz n xs,L.get k = some (.row v t sz n xs)
 ·obtain ⟨v,t,sz,n,xs,hrow⟩:=hrow
  have e:dropRow L k = L.del k:=by simp only [dropRow,hrow]
  rw [e]
  have h1:∀ g t cs,L.get k ≠ some (.box g t cs):=fun g t cs h => by rw [hrow] at h; injection h with h; cases h
  have h2:∀ j,j ≠ k → ∀ o,L.get j = some o → ∃ o',(L.del k).get j = some o' ∧ Own.like o o':=fun j hj o ho => ⟨o,by rw [Loc.get_del,if_neg hj]; exact ho,Own.like_refl o⟩
  exact ⟨kill_leaf h1 h2 (Frz.le_refl F),killV_leaf h1 h2 (Frz.le_refl F)⟩
 ·have e:dropRow L k = L:=by
   simp only [dropRow]
   split
   ·rename_i h; exact absurd ⟨_,_,_,_,_,h⟩ hrow
   ·rfl
  rw [e]
  refine ⟨fun c v hc h => ?_,fun c sv hc h => ?_⟩
  ·cases c <;> simp only [killLeaf] <;> first
    | exact h
    | exact h.elim
    | (split <;> first | exact h | (simp only [Rel]; done))
  ·cases c <;> simp only [killLeaf] <;> first
    | exact h
    | (split <;> first | exact h | trivial)
theorem Rel.kills:∀ (ks:List Nat) {L:Loc} {c:C} {v:Value},Rel F L c v → Rel F (dropRows ks L) (C.kills ks c) v
 | [],L,c,v,h => h
 | k :: ks,L,c,v,h => Rel.kills ks (Rel.mp (kill_drop k).1 3 h)
theorem RelV.kills:∀ (ks:List Nat) {L:Loc} {c:C} {sv:SV},RelV F L c sv → RelV F (dropRows ks L) (C.kills ks c) sv
 | [],L,c,sv,h => h
 | k :: ks,L,c,sv,h => RelV.kills ks (RelV.mp (kill_drop k).1 (kill_drop k).2 3 h)
theorem RelO.kills (ks:List Nat) {L:Loc}:∀ {o:TO} {p:Own},RelO F L o p → RelO F (dropRows ks L) (o.mapC (C.kills ks)) p
 | .box t cs,.box g t' vs,r => ⟨r.1,r.2.map fun c _ v h => h.kills ks⟩
 | .row t sz els,.row v t' sz' n xs,r => r
 | .box _ _,.row ..,r => r.elim
 | .row ..,.box ..,r => r.elim
 | .map _,.row ..,r => r.elim
 | .map es,.box g t' vs,r => r
theorem dropRow_get {k j:Nat} {o:Own} (h:(dropRow L k).get j = some o):L.get j = some o ∧ (j = k → ∃ g t cs,o = .box g t cs):=by
 unfold dropRow at h
 split at h
 ·rw [Loc.get_del] at h
  split at h
  ·cases h
  ·rename_i hj; exact ⟨h,fun e => absurd e hj⟩
 ·rename_i hn
  refine ⟨h,fun e => ?_⟩
  subst e
  cases o with
  | box g t cs => exact ⟨g,t,cs,rfl⟩
  | row v t sz n xs => exact absurd h (hn v t sz n xs)
theorem dropRows_get:∀ {ks:List Nat} {L:Loc} {j:Nat} {o:Own},(dropRows ks L).get j = some o → L.get j = some o ∧ (j ∈ ks → ∃ g t cs,o = .box g t cs)
 | [],L,j,o,h => ⟨h,by simp⟩
 | k :: ks,L,j,o,h => by
  obtain ⟨h1,h2⟩:=dropRows_get (ks:=ks) h
  obtain ⟨h3,h4⟩:=dropRow_get h1
  exact ⟨h3,fun hm => by
   rcases List.mem_cons.1 hm with e | e
   ·exact h4 e
   ·exact h2 e⟩
theorem tkills_get (ks:List Nat) (M:TL) (k:Nat):(TL.kills ks M).get k = (M.get k).map (TO.mapC (C.kills ks)):=by
 cases ks with
 | nil =>
  simp only [TL.kills]
  cases M.get k with
  | none => rfl
  | some o =>
   cases o with
   | box t cs =>
    have e:(C.kills []:C → C) = id:=rfl
    simp [TO.mapC,e]
   | row t sz els => rfl
   | map es => rfl
 | cons a ks => exact mapC_get _ _ _
theorem killsE_get (ks:List Nat) (τ:TEnv) (j:Nat):killsE ks τ j = (τ j).kills ks:=by cases ks <;> rfl
def isRowT:TO → Bool
 | .row _ _ _ => true
 | _ => false
theorem boxesAt_any:∀ {Lin:List TO} {ks ko:List Nat},boxesAt Lin ks ko = true → ∀ (i:Nat) o,Lin[i]? = some o → isRowT o = false → ∃ k,ks[i]? = some k ∧ ko[i]? = some k
 | [],_,_,_,i,o,e,_ => by simp at e
 | .box t0 c0 :: l,[],ko,h,i,o,e,_ => by cases ko <;> simp [boxesAt] at h
 | .box t0 c0 :: l,k :: ks,[],h,i,o,e,_ => by simp [boxesAt] at h
 | .box t0 c0 :: l,k :: ks,k' :: ko,h,i,o,e,ho => by
  simp only [boxesAt] at h
  split at h
  case h_2 => cases h
  rename_i hk
  have:=Nat.eq_of_beq_eq_true hk
  subst this
  cases i with
  | zero => exact ⟨k,by simp,by simp⟩
  | succ i => simpa using boxesAt_any h i o (by simpa using e) ho
 | .map es :: l,[],ko,h,i,o,e,_ => by cases ko <;> simp [boxesAt] at h
 | .map es :: l,k :: ks,[],h,i,o,e,_ => by simp [boxesAt] at h
 | .map es :: l,k :: ks,k' :: ko,h,i,o,e,ho => by
  simp only [boxesAt] at h
  split at h
  case h_2 => cases h
  rename_i hk
  have:=Nat.eq_of_beq_eq_true hk
  subst this
  cases i with
  | zero => exact ⟨k,by simp,by simp⟩
  | succ i => simpa using boxesAt_any h i o (by simpa using e) ho
 | .row .. :: l,k :: ks,k' :: ko,h,i,o,e,ho => by
  simp only [boxesAt] at h
  cases i with
  | zero =>
   simp only [List.getElem?_cons_zero,Option.some.injEq] at e
   subst e
   cases ho
  | succ i => simpa using boxesAt_any h i o (by simpa using e) ho
 | .row .. :: l,k :: ks,[],h,i,o,e,ho => by
  simp only [boxesAt] at h
  cases i with
  | zero =>
   simp only [List.getElem?_cons_zero,Option.some.injEq] at e
   subst e
   cases ho
  | succ i =>
   obtain ⟨k',h1,h2⟩:=boxesAt_any h i o (by simpa using e) ho
   simp at h2
 | .row .. :: l,[],ko,h,i,o,e,_ => by simp [boxesAt] at h
theorem boxesAt_eq {Lin:List TO} {ks ko:List Nat} (h:boxesAt Lin ks ko = true) (i:Nat) (t:TypeId) (cs:List C) (e:Lin[i]? = some (.box t cs)):∃ k,ks[i]? = some k ∧ ko[i]? = some k:=boxesAt_any h i _ e rfl
theorem koOk_eq {M:TL} {ks:List Nat}:∀ {ko:List Nat},koOk M ks ko = true → ∀ k ∈ ko,k ∈ ks ∨ M.get k = none
 | [],_,k,hk => by simp at hk
 | k0 :: ko,h,k,hk => by
  simp only [koOk] at h
  rcases List.mem_cons.1 hk with e | e
  ·subst e
   split at h
   ·rename_i h1; exact .inl (mem?_eq.1 h1)
   ·rename_i h1 h2; exact .inr h2
   ·cases h
  ·split at h
   ·exact koOk_eq h k e
   ·exact koOk_eq h k e
   ·cases h
theorem puts_get' {ko:List Nat} {Lo:List Own} {L:Loc} (hn:ko.Nodup) (hl:ko.length = Lo.length) {i k:Nat} {o:Own} (hk:ko[i]? = some k) (ho:Lo[i]? = some o):(L.puts ko Lo).get k = some o:=by
 rcases puts_get ko Lo L k hn hl with ⟨_,h2⟩ | ⟨i',h1,h2,_⟩
 ·exact absurd (List.mem_of_getElem? hk) h2
 ·have:=nodup_idx hn h1 hk
  subst this
  rw [h2,ho]
theorem rowsOf_mem {k:Nat} {t sz:Nat} {els:List (List C)} (h:M.get k = some (.row t sz els)):∀ {ks:List Nat},k ∈ ks → k ∈ rowsOf M ks
 | [],hk => by cases hk
 | j :: ks,hk => by
  simp only [rowsOf]
  rcases List.mem_cons.1 hk with rfl | hk
  ·rw [h]; simp
  ·split
   ·exact List.mem_cons_of_mem _ (rowsOf_mem h hk)
   ·exact rowsOf_mem h hk
theorem rowsOf_box {ks:List Nat} {k:Nat} {o:Own} (ht:RelTL F L M) (hk:k ∈ ks) (h:L.get k = some o) (hb:k ∈ rowsOf M ks → ∃ g t cs,o = .box g t cs):∃ g t cs,o = .box g t cs:=by
 rcases relK_get (ht k) with ⟨c1,c2⟩ | ⟨q,p,c1,c2,hr⟩
 ·rw [h] at c2; cases c2
 ·rw [h] at c2
  injection c2 with c2
  subst c2
  cases q with
  | row t sz els => exact hb (rowsOf_mem c1 hk)
  | box t cs =>
   cases o with
   | row => exact hr.elim
   | box g t' cs' => exact ⟨g,t',cs',rfl⟩
  | map es =>
   cases o with
   | row => exact hr.elim
   | box g t' cs' => exact ⟨g,t',cs',rfl⟩
theorem sim_call0 {f:Nat} {args:List C} {vs:List Value} {ks ko:List Nat} {Lin:List TO} {R:List TO → C → Prop} {K:TL → TEnv → C → Prop} (ht:TS G F L ρ M τ) (ha:Rels F L args vs)
  (h1:M.sub ks = some Lin) (h2:nodup? ks = true) (h3:nodup? ko = true) (h4:koOk M ks ko = true) (h5:boxesAt Lin ks ko = true)
  (h6:CallsT P f (args.map fun c => c.canA.ren (toIn ks 1000)) (Lin.map (TO.mapC (C.ren (toIn ks 1000)))) R)
  (h7:∀ v Mo,R Mo v → Wf v → (∀ o ∈ Mo,o.Wf) → ko.length = Mo.length ∧ K (((M.dels ks).kills (rowsOf M ks)).puts ko (Mo.map (TO.mapC (C.ren (fromIn ko))))) (killsE (rowsOf M ks) τ) (v.ren (fromIn ko)).slt) :
  CallPt P f vs F L (fun F' L' v => ∃ M' τ' c,TS G F' L' ρ M' τ' ∧ RelV F' L' c (.v v) ∧ K M' τ' c):=by
 obtain ⟨Li,e1,e2,e3⟩:=tl_sub ht.tl h1
 have hn:=nodup?_eq h2
 have hno:=nodup?_eq h3
 have hko:∀ k,k ∈ ko → k ∈ ks ∨ L.get k = none:=fun k hk => (koOk_eq h4 k hk).imp id fun e => tl_none ht.tl e
 have hsg:=sub_get e1
 refine ⟨ks,ko,Li,ResA Li R,e1,hn,hno,hko,h6.out F Li vs (by simp [e2]) (tl_inp ht.tl e2 e1 e3) ?_,?_⟩
 ·exact ha.map fun c _ v hc => (canA_rel hc).ren (inp_sub e1)
 ·rintro v F' Lo hF ⟨Mo,c,q1,q2,q3,q4,q5⟩
  have hwo:∀ o ∈ Mo,o.Wf:=by
   intro o ho
   obtain ⟨i,hi⟩:=List.mem_iff_getElem?.1 ho
   have hlt:i < Lo.length:=by rw [← q1]; exact (List.getElem?_eq_some_iff.1 hi).1
   have:=q2 (1000 + i)
   rw [tinp_get,inp_get,if_pos (by omega),if_pos (by omega),show 1000 + i - 1000 = i by omega,hi,List.getElem?_eq_getElem hlt] at this
   exact RelO.wf this
  obtain ⟨k1,k2⟩:=h7 c Mo q5 q3.wf hwo
  have hlen:ko.length = Lo.length:=by rw [k1,q1]
  have hboxes:∀ k g t cs,k ∈ ks → L.get k = some (.box g t cs) → ∃ cs',Loc.get ((L.dels ks).puts ko Lo) k = some (.box g t cs'):=by
   intro k g t cs hk hg
   obtain ⟨i,hi⟩:=List.mem_iff_getElem?.1 hk
   have hLi:Li[i]? = some (.box g t cs):=by rw [← hsg.2 i k hi]; exact hg
   have hlt:i < Lin.length:=by rw [← e2]; exact (List.getElem?_eq_some_iff.1 hLi).1
   have hr:=e3 i _ _ (List.getElem?_eq_getElem hlt) hLi
   cases hL:Lin[i] with
   | row => rw [hL] at hr; exact hr.elim
   | box t' cs' =>
    obtain ⟨k',b1,b2⟩:=boxesAt_eq h5 i t' cs' (by rw [List.getElem?_eq_getElem hlt,hL])
    rw [hi] at b1
    injection b1 with b1
    subst b1
    obtain ⟨cs2,hLo⟩:=q4 i g t cs hLi
    exact ⟨cs2,puts_get' hno hlen b2 hLo⟩
   | map es =>
    obtain ⟨k',b1,b2⟩:=boxesAt_any h5 i (.map es) (by rw [List.getElem?_eq_getElem hlt,hL]) rfl
    rw [hi] at b1
    injection b1 with b1
    subst b1
    obtain ⟨cs2,hLo⟩:=q4 i g t cs hLi
    exact ⟨cs2,puts_get' hno hlen b2 hLo⟩
  refine ⟨hlen,hboxes,?_⟩
  generalize hL':(L.dels ks).puts ko Lo = L' at hboxes
  -- what was there before
  have hold:∀ k,k ∉ ks → ∀ o,L.get k = some o → L'.get k = some o:=by
   intro k hk o ho
   rw [← hL']
   rcases puts_get ko Lo (L.dels ks) k hno hlen with ⟨a1,a2⟩ | ⟨i,a1,a2,a3⟩
   ·rw [a1,dels_get,if_neg hk]; exact ho
   ·rcases hko k (List.mem_of_getElem? a1) with e | e
    ·exact absurd e hk
    ·rw [ho] at e; cases e
  have hext:Ext (dropRows (rowsOf M ks) L) L':=by
   intro k o ho
   obtain ⟨g1,g2⟩:=dropRows_get ho
   by_cases hk:k ∈ ks
   ·obtain ⟨g,t,cs,rfl⟩:=rowsOf_box ht.tl hk g1 g2
    obtain ⟨cs',h⟩:=hboxes k g t cs hk g1
    exact ⟨_,h,rfl,rfl⟩
   ·exact ⟨o,hold k hk o g1,Own.like_refl o⟩
  have hback:∀ j m,fromIn ko j = some m → ∀ o,(inp Lo).get j = some o → L'.get m = some o:=by
   intro j m hj o ho
   obtain ⟨a1,a2⟩:=fromIn_eq hj
   rw [inp_get,if_pos a1] at ho
   rw [← hL']
   exact puts_get' hno hlen a2 ho
  refine ⟨_,_,_,⟨fun k => ?_,fun j => ?_,fun k g t e => ?_,ht.glob.mono hF⟩,slt_rel (q3.ren hback),k2⟩
  ·rcases tputs_get ko (Mo.map (TO.mapC (C.ren (fromIn ko)))) ((M.dels ks).kills (rowsOf M ks)) k hno (by simp [k1]) with ⟨a1,a2⟩ | ⟨i,a1,a2,a3⟩
   ·have hLk:L'.get k = (L.dels ks).get k:=by
     rw [← hL']
     rcases puts_get ko Lo (L.dels ks) k hno hlen with ⟨b1,_⟩ | ⟨i,b1,_,_⟩
     ·exact b1
     ·exact absurd (List.mem_of_getElem? b1) a2
    rw [a1,hLk,tkills_get,tdels_get,dels_get]
    split
    ·trivial
    ·rcases relK_get (ht.tl k) with ⟨c1,c2⟩ | ⟨o,p,c1,c2,hr⟩
     ·rw [c1,c2]; trivial
     ·rw [c1,c2]; exact (hr.kills (rowsOf M ks)).ext hF hext
   ·rw [a2,List.getElem?_map]
    have hlt:i < Mo.length:=by simpa using a3
    have hlt2:i < Lo.length:=by omega
    have hLk:L'.get k = some (Lo[i]):=by rw [← hL']; exact puts_get' hno hlen a1 (List.getElem?_eq_getElem hlt2)
    rw [hLk,List.getElem?_eq_getElem hlt]
    have:=q2 (1000 + i)
    rw [tinp_get,inp_get,if_pos (by omega),if_pos (by omega),show 1000 + i - 1000 = i by omega,List.getElem?_eq_getElem hlt,List.getElem?_eq_getElem hlt2] at this
    exact RelO.ren hback this
  ·rw [killsE_get]
   exact ((ht.env j).kills (rowsOf M ks)).ext hF hext
  ·obtain ⟨cs,h⟩:=ht.kp k g t e
   by_cases hk:k ∈ ks
   ·exact hboxes k g t cs hk h
   ·exact ⟨cs,hold k hk _ h⟩
theorem sim_callI {f:Nat} {args:List C} {vs:List Value} {ks:List Nat} {Lin:List TO} {R:List TO → C → Prop} {K:TL → TEnv → C → Prop} (ht:TS G F L ρ M τ) (ha:Rels F L args vs)
  (h1:M.sub ks = some Lin) (h2:nodup? ks = true) (h6:CallsTI P f (args.map fun c => c.canA.ren (toIn ks 1000)) (Lin.map (TO.mapC (C.ren (toIn ks 1000)))) R)
  (h7:∀ v Mo,R Mo v → Wf v → (∀ o ∈ Mo,o.Wf) → ks.length = Mo.length ∧ K ((M.dels ks).puts ks (Mo.map (TO.mapC (C.ren (fromIn ks))))) τ (v.ren (fromIn ks)).slt) :
  CallPt P f vs F L (fun F' L' v => ∃ M' τ' c,TS G F' L' ρ M' τ' ∧ RelV F' L' c (.v v) ∧ K M' τ' c):=by
 obtain ⟨Li,e1,e2,e3⟩:=tl_sub ht.tl h1
 have hn:=nodup?_eq h2
 have hsg:=sub_get e1
 refine ⟨ks,ks,Li,_,e1,hn,hn,fun k hk => .inl hk,h6.out F Li vs (by simp [e2]) (tl_inp ht.tl e2 e1 e3) ?_,?_⟩
 ·exact ha.map fun c _ v hc => (canA_rel hc).ren (inp_sub e1)
 ·rintro v F' Lo hF ⟨⟨Mo,c,q1,q2,q3,q4,q5⟩,hil,hip⟩
  have hwo:∀ o ∈ Mo,o.Wf:=by
   intro o ho
   obtain ⟨i,hi⟩:=List.mem_iff_getElem?.1 ho
   have hlt:i < Lo.length:=by rw [← q1]; exact (List.getElem?_eq_some_iff.1 hi).1
   have:=q2 (1000 + i)
   rw [tinp_get,inp_get,if_pos (by omega),if_pos (by omega),show 1000 + i - 1000 = i by omega,hi,List.getElem?_eq_getElem hlt] at this
   exact RelO.wf this
  obtain ⟨k1,k2⟩:=h7 c Mo q5 q3.wf hwo
  have hlen:ks.length = Lo.length:=by rw [k1,q1]
  have hboxes:∀ k g t cs,k ∈ ks → L.get k = some (.box g t cs) → ∃ cs',Loc.get ((L.dels ks).puts ks Lo) k = some (.box g t cs'):=by
   intro k g t cs hk hg
   obtain ⟨i,hi⟩:=List.mem_iff_getElem?.1 hk
   have hLi:Li[i]? = some (.box g t cs):=by rw [← hsg.2 i k hi]; exact hg
   obtain ⟨cs2,hLo⟩:=q4 i g t cs hLi
   exact ⟨cs2,puts_get' hn hlen hi hLo⟩
  refine ⟨hlen,hboxes,?_⟩
  generalize hL':(L.dels ks).puts ks Lo = L' at hboxes
  have hold:∀ k,k ∉ ks → ∀ o,L.get k = some o → L'.get k = some o:=by
   intro k hk o ho
   rw [← hL']
   rcases puts_get ks Lo (L.dels ks) k hn hlen with ⟨a1,a2⟩ | ⟨i,a1,a2,a3⟩
   ·rw [a1,dels_get,if_neg hk]; exact ho
   ·exact absurd (List.mem_of_getElem? a1) hk
  have hext:Ext L L':=by
   intro k o ho
   by_cases hk:k ∈ ks
   ·obtain ⟨i,hi⟩:=List.mem_iff_getElem?.1 hk
    have hLi:Li[i]? = some o:=by rw [← hsg.2 i k hi]; exact ho
    obtain ⟨o',h1,h2⟩:=hip i o hLi
    exact ⟨o',by rw [← hL']; exact puts_get' hn hlen hi h1,h2⟩
   ·exact ⟨o,hold k hk o ho,Own.like_refl o⟩
  have hback:∀ j m,fromIn ks j = some m → ∀ o,(inp Lo).get j = some o → L'.get m = some o:=by
   intro j m hj o ho
   obtain ⟨a1,a2⟩:=fromIn_eq hj
   rw [inp_get,if_pos a1] at ho
   rw [← hL']
   exact puts_get' hn hlen a2 ho
  refine ⟨_,_,_,⟨fun k => ?_,fun j => (ht.env j).ext hF hext,fun k g t e => ?_,ht.glob.mono hF⟩,slt_rel (q3.ren hback),k2⟩
  ·rcases tputs_get ks (Mo.map (TO.mapC (C.ren (fromIn ks)))) (M.dels ks) k hn (by simp [k1]) with ⟨a1,a2⟩ | ⟨i,a1,a2,a3⟩
   ·have hLk:L'.get k = (L.dels ks).get k:=by
     rw [← hL']
     rcases puts_get ks Lo (L.dels ks) k hn hlen with ⟨b1,_⟩ | ⟨i,b1,_,_⟩
     ·exact b1
     ·exact absurd (List.mem_of_getElem? b1) a2
    rw [a1,hLk,tdels_get,dels_get]
    split
    ·trivial
    ·rcases relK_get (ht.tl k) with ⟨c1,c2⟩ | ⟨o,p,c1,c2,hr⟩
     ·rw [c1,c2]; trivial
     ·rw [c1,c2]; exact hr.ext hF hext
   ·rw [a2,List.getElem?_map]
    have hlt:i < Mo.length:=by simpa using a3
    have hlt2:i < Lo.length:=by omega
    have hLk:L'.get k = some (Lo[i]):=by rw [← hL']; exact puts_get' hn hlen a1 (List.getElem?_eq_getElem hlt2)
    rw [hLk,List.getElem?_eq_getElem hlt]
    have:=q2 (1000 + i)
    rw [tinp_get,inp_get,if_pos (by omega),if_pos (by omega),show 1000 + i - 1000 = i by omega,List.getElem?_eq_getElem hlt,List.getElem?_eq_getElem hlt2] at this
    exact RelO.ren hback this
  ·obtain ⟨cs,h⟩:=ht.kp k g t e
   by_cases hk:k ∈ ks
   ·exact hboxes k g t cs hk h
   ·exact ⟨cs,hold k hk _ h⟩
theorem koOk_self {ks:List Nat}:∀ {ko:List Nat},(∀ k ∈ ko,k ∈ ks) → koOk M ks ko = true
 | [],_ => rfl
 | k :: ko,h => by
  simp only [koOk,mem?_eq.2 (h k (by simp))]
  exact koOk_self fun j hj => h j (by simp [hj])
def HbL (hb:List (Nat × Nat)) (L:Loc):Prop:=∀ k n,(k,n) ∈ hb → ∃ g t cs,L.get k = some (.box g t cs) ∧ cs.length = n
def PXT (G:Nat → Option (Nat × TypeId)) (PS:Pan) (L':Loc) (v:Value):Prop:=Kp G L' ∧ PS.ps v ∧ HbL PS.hb L'
theorem hbOk_get:∀ {hb:List (Nat × Nat)} {ks:List Nat},hbOk M ks hb = true → ∀ k n,(k,n) ∈ hb → k ∉ ks ∧ ∃ t cs,M.get k = some (.box t cs) ∧ cs.length = n
 | [],ks,_,k,n,h => by cases h
 | (j,m) :: l,ks,h,k,n,hk => by
  simp only [hbOk] at h
  split at h
  case h_2 => cases h
  rename_i t cs h1 h2
  split at h
  case h_2 => cases h
  rename_i h3
  rcases List.mem_cons.1 hk with e | hk
  ·simp only [Prod.mk.injEq] at e
   obtain ⟨rfl,rfl⟩:=e
   exact ⟨fun hm => (by rw [mem?_eq.2 hm] at h1; cases h1),t,cs,h2,lenC_eq h3⟩
  ·exact hbOk_get h k n hk
theorem hb_L {hb:List (Nat × Nat)} {ks:List Nat} {L':Loc} (ht:RelTL F L M) (h:hbOk M ks hb = true) (hk:∀ k g t cs,k ∉ ks → L.get k = some (.box g t cs) → L'.get k = some (.box g t cs)):HbL hb L':=by
 intro k n hm
 obtain ⟨h1,t,cs,h2,h3⟩:=hbOk_get h k n hm
 obtain ⟨g,ty,vs,e2,hr,_⟩:=tl_box ht h2
 exact ⟨g,ty,vs,hk k g ty vs h1 e2,by rw [hr.len,h3]⟩
theorem sim_callXr {PS:Pan} {Pp:Value → Prop} {f:Nat} {args:List C} {vs:List Value} {ks ko:List Nat} {Lin:List TO} {R:List TO → C → Prop} {K:TL → TEnv → C → Prop} (ht:TS G F L ρ M τ) (ha:Rels F L args vs)
  (h1:M.sub ks = some Lin) (h2:nodup? ks = true) (h3:nodup? ko = true) (h4:koOk M ks ko = true) (h5:boxesAt Lin ks ko = true) (hhb:hbOk M ks PS.hb = true)
  (h6:CallsTX P f (args.map fun c => c.canA.ren (toIn ks 1000)) (Lin.map (TO.mapC (C.ren (toIn ks 1000)))) R Pp) (hps:∀ v,Pp v → PS.ps v)
  (h7:∀ v Mo,R Mo v → Wf v → (∀ o ∈ Mo,o.Wf) → ko.length = Mo.length ∧ K (((M.dels ks).kills (rowsOf M ks)).puts ko (Mo.map (TO.mapC (C.ren (fromIn ko))))) (killsE (rowsOf M ks) τ) (v.ren (fromIn ko)).slt) :
  ∃ Li,L.sub ks = some Li ∧ ks.Nodup ∧ ko.Nodup ∧ (∀ k,k ∈ ko → k ∈ ks ∨ L.get k = none) ∧ CallsX P f vs.toArray F Li (ResA Li R) Pp ∧ (∀ v L',BoxKeepK ks L L' → Pp v → PXT G PS L' v) ∧
  ∀ v F' Lo,F.le F' → ResA Li R F' Lo v → ko.length = Lo.length ∧ (∀ k g t cs,k ∈ ks → L.get k = some (.box g t cs) → ∃ cs',Loc.get ((L.dels ks).puts ko Lo) k = some (.box g t cs')) ∧
   ∃ M' τ' c,TS G F' ((L.dels ks).puts ko Lo) ρ M' τ' ∧ RelV F' ((L.dels ks).puts ko Lo) c (.v v) ∧ K M' τ' c:=by
 obtain ⟨Li,e1,e2,e3⟩:=tl_sub ht.tl h1
 have hn:=nodup?_eq h2
 have hno:=nodup?_eq h3
 have hko:∀ k,k ∈ ko → k ∈ ks ∨ L.get k = none:=fun k hk => (koOk_eq h4 k hk).imp id fun e => tl_none ht.tl e
 have hsg:=sub_get e1
 refine ⟨Li,e1,hn,hno,hko,h6.out F Li vs (by simp [e2]) (tl_inp ht.tl e2 e1 e3) ?_,fun v L' hbk hv => ⟨fun k g t e => let ⟨cs,h⟩:=ht.kp k g t e; let ⟨cs',h',_⟩:=hbk k g t cs h; ⟨cs',h'⟩,hps v hv,hb_L ht.tl hhb fun k g t cs hk e => let ⟨cs',h',q⟩:=hbk k g t cs e; by rw [h',q hk]⟩,?_⟩
 ·exact ha.map fun c _ v hc => (canA_rel hc).ren (inp_sub e1)
 ·rintro v F' Lo hF ⟨Mo,c,q1,q2,q3,q4,q5⟩
  have hwo:∀ o ∈ Mo,o.Wf:=by
   intro o ho
   obtain ⟨i,hi⟩:=List.mem_iff_getElem?.1 ho
   have hlt:i < Lo.length:=by rw [← q1]; exact (List.getElem?_eq_some_iff.1 hi).1
   have:=q2 (1000 + i)
   rw [tinp_get,inp_get,if_pos (by omega),if_pos (by omega),show 1000 + i - 1000 = i by omega,hi,List.getElem?_eq_getElem hlt] at this
   exact RelO.wf this
  obtain ⟨k1,k2⟩:=h7 c Mo q5 q3.wf hwo
  have hlen:ko.length = Lo.length:=by rw [k1,q1]
  have hboxes:∀ k g t cs,k ∈ ks → L.get k = some (.box g t cs) → ∃ cs',Loc.get ((L.dels ks).puts ko Lo) k = some (.box g t cs'):=by
   intro k g t cs hk hg
   obtain ⟨i,hi⟩:=List.mem_iff_getElem?.1 hk
   have hLi:Li[i]? = some (.box g t cs):=by rw [← hsg.2 i k hi]; exact hg
   have hlt:i < Lin.length:=by rw [← e2]; exact (List.getElem?_eq_some_iff.1 hLi).1
   have hr:=e3 i _ _ (List.getElem?_eq_getElem hlt) hLi
   cases hL:Lin[i] with
   | row => rw [hL] at hr; exact hr.elim
   | box t' cs' =>
    obtain ⟨k',b1,b2⟩:=boxesAt_eq h5 i t' cs' (by rw [List.getElem?_eq_getElem hlt,hL])
    rw [hi] at b1
    injection b1 with b1
    subst b1
    obtain ⟨cs2,hLo⟩:=q4 i g t cs hLi
    exact ⟨cs2,puts_get' hno hlen b2 hLo⟩
   | map es =>
    obtain ⟨k',b1,b2⟩:=boxesAt_any h5 i (.map es) (by rw [List.getElem?_eq_getElem hlt,hL]) rfl
    rw [hi] at b1
    injection b1 with b1
    subst b1
    obtain ⟨cs2,hLo⟩:=q4 i g t cs hLi
    exact ⟨cs2,puts_get' hno hlen b2 hLo⟩
  refine ⟨hlen,hboxes,?_⟩
  generalize hL':(L.dels ks).puts ko Lo = L' at hboxes
  -- what was there before
  have hold:∀ k,k ∉ ks → ∀ o,L.get k = some o → L'.get k = some o:=by
   intro k hk o ho
   rw [← hL']
   rcases puts_get ko Lo (L.dels ks) k hno hlen with ⟨a1,a2⟩ | ⟨i,a1,a2,a3⟩
   ·rw [a1,dels_get,if_neg hk]; exact ho
   ·rcases hko k (List.mem_of_getElem? a1) with e | e
    ·exact absurd e hk
    ·rw [ho] at e; cases e
  have hext:Ext (dropRows (rowsOf M ks) L) L':=by
   intro k o ho
   obtain ⟨g1,g2⟩:=dropRows_get ho
   by_cases hk:k ∈ ks
   ·obtain ⟨g,t,cs,rfl⟩:=rowsOf_box ht.tl hk g1 g2
    obtain ⟨cs',h⟩:=hboxes k g t cs hk g1
    exact ⟨_,h,rfl,rfl⟩
   ·exact ⟨o,hold k hk o g1,Own.like_refl o⟩
  have hback:∀ j m,fromIn ko j = some m → ∀ o,(inp Lo).get j = some o → L'.get m = some o:=by
   intro j m hj o ho
   obtain ⟨a1,a2⟩:=fromIn_eq hj
   rw [inp_get,if_pos a1] at ho
   rw [← hL']
   exact puts_get' hno hlen a2 ho
  refine ⟨_,_,_,⟨fun k => ?_,fun j => ?_,fun k g t e => ?_,ht.glob.mono hF⟩,slt_rel (q3.ren hback),k2⟩
  ·rcases tputs_get ko (Mo.map (TO.mapC (C.ren (fromIn ko)))) ((M.dels ks).kills (rowsOf M ks)) k hno (by simp [k1]) with ⟨a1,a2⟩ | ⟨i,a1,a2,a3⟩
   ·have hLk:L'.get k = (L.dels ks).get k:=by
     rw [← hL']
     rcases puts_get ko Lo (L.dels ks) k hno hlen with ⟨b1,_⟩ | ⟨i,b1,_,_⟩
     ·exact b1
     ·exact absurd (List.mem_of_getElem? b1) a2
    rw [a1,hLk,tkills_get,tdels_get,dels_get]
    split
    ·trivial
    ·rcases relK_get (ht.tl k) with ⟨c1,c2⟩ | ⟨o,p,c1,c2,hr⟩
     ·rw [c1,c2]; trivial
     ·rw [c1,c2]; exact (hr.kills (rowsOf M ks)).ext hF hext
   ·rw [a2,List.getElem?_map]
    have hlt:i < Mo.length:=by simpa using a3
    have hlt2:i < Lo.length:=by omega
    have hLk:L'.get k = some (Lo[i]):=by rw [← hL']; exact puts_get' hno hlen a1 (List.getElem?_eq_getElem hlt2)
    rw [hLk,List.getElem?_eq_getElem hlt]
    have:=q2 (1000 + i)
    rw [tinp_get,inp_get,if_pos (by omega),if_pos (by omega),show 1000 + i - 1000 = i by omega,List.getElem?_eq_getElem hlt,List.getElem?_eq_getElem hlt2] at this
    exact RelO.ren hback this
  ·rw [killsE_get]
   exact ((ht.env j).kills (rowsOf M ks)).ext hF hext
  ·obtain ⟨cs,h⟩:=ht.kp k g t e
   by_cases hk:k ∈ ks
   ·exact hboxes k g t cs hk h
   ·exact ⟨cs,hold k hk _ h⟩
theorem sim_callX {PS:Pan} {Pp:Value → Prop} {f:Nat} {args:List C} {vs:List Value} {ks ko:List Nat} {Lin:List TO} {R:List TO → C → Prop} {K:TL → TEnv → C → Prop} (ht:TS G F L ρ M τ) (ha:Rels F L args vs)
  (h1:M.sub ks = some Lin) (h2:nodup? ks = true) (h3:nodup? ko = true) (h4:koOk M ks ko = true) (h5:boxesAt Lin ks ko = true) (hhb:hbOk M ks PS.hb = true)
  (h6:CallsTX P f (args.map fun c => c.canA.ren (toIn ks 1000)) (Lin.map (TO.mapC (C.ren (toIn ks 1000)))) R Pp) (hps:∀ v,Pp v → PS.ps v)
  (h7:∀ v Mo,R Mo v → Wf v → (∀ o ∈ Mo,o.Wf) → ko.length = Mo.length ∧ K (((M.dels ks).kills (rowsOf M ks)).puts ko (Mo.map (TO.mapC (C.ren (fromIn ko))))) (killsE (rowsOf M ks) τ) (v.ren (fromIn ko)).slt) :
  CallXPt P (PXT G PS) f vs F L (fun F' L' v => ∃ M' τ' c,TS G F' L' ρ M' τ' ∧ RelV F' L' c (.v v) ∧ K M' τ' c):=by
 obtain ⟨Li,q1,q2,q3,q4,q5,q6,q7⟩:=sim_callXr ht ha h1 h2 h3 h4 h5 hhb h6 hps h7
 exact ⟨ks,ko,Li,ResA Li R,Pp,q1,q2,q3,q4,q5,q6,q7⟩
theorem TS.same {L2:Loc} (ht:TS G F L ρ M τ) (hs:L.sameAs L2):TS G F L2 ρ M τ:=by
 have he:Ext L L2:=fun k o e => ⟨o,by rw [hs k]; exact e,Own.like_refl o⟩
 refine ⟨fun k => ?_,fun j => (ht.env j).ext (Frz.le_refl F) he,fun k g t e => ?_,ht.glob⟩
 ·rcases relK_get (ht.tl k) with ⟨c1,c2⟩ | ⟨o,p,c1,c2,hr⟩
  ·rw [hs k,c1,c2]; trivial
  ·rw [hs k,c1,c2]; exact hr.ext (Frz.le_refl F) he
 ·obtain ⟨cs,h⟩:=ht.kp k g t e
  exact ⟨cs,by rw [hs k]; exact h⟩
theorem disjB_eq:∀ {ks fb:List Nat},disjB ks fb = true → ∀ k ∈ ks,k ∉ fb
 | [],fb,_,k,h => by cases h
 | j :: ks,fb,h,k,hk => by
  simp only [disjB] at h
  split at h
  ·cases h
  ·rename_i hj
   rcases List.mem_cons.1 hk with rfl | hk
   ·intro hm; rw [mem?_eq.2 hm] at hj; cases hj
   ·exact disjB_eq h k hk
theorem sim_callXD {PS:Pan} {fb:List Nat} {f:Nat} {args:List C} {vs:List Value} {K:TL → TEnv → C → Prop} (ht:TS G F L ρ M τ) (ha:Rels F L args vs) (h:CallXDT P PS fb f args M τ K) :
  CallXDPt P (PXT G PS) fb f vs F L (fun F' L' v => ∃ M' τ' c,TS G F' L' ρ M' τ' ∧ RelV F' L' c (.v v) ∧ K M' τ' c):=by
 obtain ⟨ks,Lin,R,Pp,h1,h2,h0,h5,hhb,h6,hps,h7⟩:=h
 have h4:koOk M ks ks = true:=koOk_self (fun k hk => hk)
 obtain ⟨Li,q1,q2,q3,q4,q5,q6,q7⟩:=sim_callXr ht ha h1 h2 h2 h4 h5 hhb h6 hps h7
 refine ⟨ks,Li,ResA Li R,Pp,q1,q2,disjB_eq h0,q5,q6,fun v F' Lo hF hR => ?_⟩
 obtain ⟨a1,a2,M',τ',c,a3,a4,a5⟩:=q7 v F' Lo hF hR
 have hsame:=puts_same (L:=L) q2 a1
 refine ⟨a1,fun i g t cs e => ?_,fun _ => ⟨M',τ',c,a3.same hsame,a4.ext (Frz.le_refl F') fun k o e => ⟨o,by rw [hsame k]; exact e,Own.like_refl o⟩,a5⟩⟩
 obtain ⟨Mo,c',_,_,_,b4,_⟩:=hR
 exact b4 i g t cs e
end
section
variable {P:Program} {G:Nat → Option (Nat × TypeId)} {F:Frz} {L:Loc} {ρ:Env} {M:TL} {τ:TEnv} {a:Act} {w:World}
theorem frz_leaf {F':Frz} (hF:F.le F') {k:Nat} {a:Option Addr} {c:Nat} {t sz:Nat} {els:List (List C)} {xs:List Value} (hk:L.get k = some (.row (.slice a els.length c) t sz els.length xs))
  (hr:Rel F' (L.del k) (.sl els) (.slice a els.length c)):(∀ d v,C.leaf d = true → Rel F L d v → Rel F' (L.del k) (frzLeaf k els d) v) ∧ (∀ d sv,C.leaf d = true → RelV F L d sv → RelV F' (L.del k) (frzLeaf k els d) sv):=by
 have h2:∀ j,j ≠ k → ∀ o,L.get j = some o → ∃ o',(L.del k).get j = some o' ∧ Own.like o o':=fun j hj o ho => ⟨o,by rw [Loc.get_del,if_neg hj]; exact ho,Own.like_refl o⟩
 have hrow:∀ g t cs,L.get k ≠ some (.box g t cs):=fun g t cs h => by rw [hk] at h; injection h with h; cases h
 constructor
 ·intro d v hc h
  cases d <;> simp only [C.leaf,Bool.false_eq_true] at hc
  case rw j =>
   simp only [frzLeaf]
   cases hj:Nat.beq j k with
   | true =>
    have:=Nat.eq_of_beq_eq_true hj
    subst this
    simp only [Rel] at h
    obtain ⟨a',c',t',sz',n',xs',rfl,h⟩:=h
    rw [hk] at h
    injection h with h
    injection h with q1 q2 q3 q4 q5
    rw [← q1]
    exact hr
   | false =>
    have:=kill_leaf hrow h2 hF (.rw j) v rfl h
    simpa only [killLeaf,hj] using this
  all_goals
   have:=kill_leaf hrow h2 hF _ v rfl h
   simpa only [killLeaf,frzLeaf] using this
 ·intro d sv hc h
  cases d <;> simp only [C.leaf,Bool.false_eq_true] at hc
  case rw j =>
   simp only [frzLeaf]
   cases hj:Nat.beq j k with
   | true =>
    have:=Nat.eq_of_beq_eq_true hj
    subst this
    simp only [RelV,Rel] at h
    obtain ⟨v,e,a',c',t',sz',n',xs',rfl,h⟩:=h
    rw [hk] at h
    injection h with h
    injection h with q1 q2 q3 q4 q5
    rw [← q1] at e
    exact ⟨_,e,hr⟩
   | false =>
    have:=killV_leaf hrow h2 hF (.rw j) sv rfl h
    simpa only [killLeaf,hj] using this
  all_goals
   have:=killV_leaf hrow h2 hF _ sv rfl h
   simpa only [killLeaf,frzLeaf] using this
theorem RelO.frz {F':Frz} (hF:F.le F') {k:Nat} {els:List (List C)} (hl:∀ d v,C.leaf d = true → Rel F L d v → Rel F' (L.del k) (frzLeaf k els d) v):∀ {o:TO} {p:Own},RelO F L o p → RelO F' (L.del k) (o.mapC (C.frz k els)) p
 | .box t cs,.box g t' vs,r => ⟨r.1,r.2.map fun c _ v h => Rel.mp hl 3 h⟩
 | .row t sz els,.row v t' sz' n xs,r => ⟨r.1,r.2.1,r.2.2.1,r.2.2.2.1,r.2.2.2.2.mono hF⟩
 | .box _ _,.row ..,r => r.elim
 | .row ..,.box ..,r => r.elim
 | .map _,.row ..,r => r.elim
 | .map es,.box g t' vs,r => ⟨r.1,r.2.mono hF⟩
theorem frz1_sound {k:Nat} {t sz:Nat} {els:List (List C)} (hs:St F L w) (he:EnvOk L ρ a) (ht:TS G F L ρ M τ) (hk:M.get k = some (.row t sz els)) :
  ∃ F' L',St F' L' w ∧ EnvOk L' ρ a ∧ Step F L w F' L' w ∧ TS G F' L' ρ ((M.del k).mapC (C.frz k els)) (fun j => (τ j).frz k els) ∧ (∀ {c v},Rel F L c v → Rel F' L' (c.frz k els) v):=by
 obtain ⟨v,xs,hL,⟨hm,av,cv,rfl,hnil⟩,hr⟩:=tl_row ht.tl hk
 obtain ⟨F',L',g1,g2,g3,hF,hfr,rfl⟩:=frz_sound (KK:=fun F' L' => F.le F' ∧ FRow F' (.slice av els.length cv) sz els.length xs ∧ L' = L.del k) hs he ⟨_,_,_,_,_,hL,fun F' hF hfr => ⟨hF,hfr,rfl⟩⟩
 have hrel:Rel F' (L.del k) (.sl els) (.slice av els.length cv):=by
  simp only [Rel]
  rcases hfr with ⟨e1,e2,e3⟩ | ⟨ad,c2,e1,e2,e3⟩
  ·injection e1 with q1 q2 q3
   have:els = []:=List.length_eq_zero_iff.1 q2
   subst this
   exact ⟨av,cv,rfl,by simp,by simp,fun _ => ⟨rfl,q3⟩,sz,by simp only [RelS]⟩
  ·injection e1 with q1 q2 q3
   subst q1 q3
   exact ⟨some ad,cv,rfl,e3,hm,fun e => (by cases e),sz,(hr.mono hF).frz e2⟩
 obtain ⟨l1,l2⟩:=frz_leaf hF hL hrel
 refine ⟨F',L.del k,g1,g2,g3,⟨fun j => ?_,fun j => RelV.mp l1 l2 3 (ht.env j),fun j g t e => ?_,ht.glob.mono hF⟩,fun h => Rel.mp l1 3 h⟩
 ·rw [mapC_get,TL.get_del,Loc.get_del]
  split
  ·trivial
  ·rcases relK_get (ht.tl j) with ⟨e1,e2⟩ | ⟨o,p,e1,e2,hro⟩
   ·rw [e1,e2]; trivial
   ·rw [e1,e2]; exact hro.frz hF l1
 ·obtain ⟨cs,h⟩:=ht.kp j g t e
  exact ⟨cs,by rw [Loc.get_del,if_neg (by rintro rfl; rw [hL] at h; injection h with h; cases h)]; exact h⟩
def unownV (k g:Nat):SV → SV
 | .own k' off => match Nat.beq k' k with | true => .v (.pointer (some ⟨g,off,none⟩)) | false => .own k' off
 | .v x => .v x
 | .el a i => .el a i
theorem frb_leaf {F':Frz} (hF:F.le F') {k g:Nat} {t:TypeId} {vs:List Value} {es:List C} (hk:L.get k = some (.box g t vs)) (hg:F' g = some (.cells vs.toArray t (0,0))) (h1:onesL es = true) (hr:Rels F' [] es vs) :
  (∀ d v,C.leaf d = true → Rel F L d v → Rel F' (L.del k) (frbLeaf k es d) v) ∧ (∀ d sv,C.leaf d = true → RelV F L d sv → RelV F' (L.del k) (frbLeaf k es d) (unownV k g sv)):=by
 have h2:∀ j,j ≠ k → ∀ o,L.get j = some o → ∃ o',(L.del k).get j = some o' ∧ Own.like o o':=fun j hj o ho => ⟨o,by rw [Loc.get_del,if_neg hj]; exact ho,Own.like_refl o⟩
 have hpt:∀ o,PtB F' g o o vs:=fun o => ⟨0,_,t,(0,0),hg,by omega,fun i v hi => by simpa using hi⟩
 constructor
 ·intro d v hc h
  cases d <;> simp only [C.leaf,Bool.false_eq_true] at hc <;> simp only [frbLeaf]
  case own j off =>
   cases hj:Nat.beq j k with
   | true =>
    have:=Nat.eq_of_beq_eq_true hj
    subst this
    simp only [Rel] at h ⊢
    obtain ⟨g',t',cs,e,rfl⟩:=h
    rw [hk] at e
    injection e with e
    injection e with e1 e2 e3
    subst e1
    exact ⟨_,_,vs,rfl,hpt off,h1,hr⟩
   | false => exact rel_leaf hF (fun j' e => by
     rcases e with ⟨off,e⟩ | e | e
     ·injection e with e; subst e; exact h2 j (beq_f hj)
     ·cases e
     ·cases e) rfl h
  case rw j =>
   refine rel_leaf hF (fun j' e => ?_) rfl h
   rcases e with ⟨off,e⟩ | e | e
   ·cases e
   ·injection e with e
    subst e
    refine h2 j ?_
    rintro rfl
    simp only [Rel] at h
    obtain ⟨a',c',t',sz',n',xs',rfl,h⟩:=h
    rw [hk] at h
    injection h with h
    cases h
   ·cases e
  case mpr j =>
   cases hj:Nat.beq j k with
   | true => simp only [Rel]
   | false => exact rel_leaf hF (fun j' e => by
     rcases e with ⟨off,e⟩ | e | e
     ·cases e
     ·cases e
     ·injection e with e; subst e; exact h2 j (beq_f hj)) rfl h
  case ownv => exact h.elim
  case elr => exact h.elim
  all_goals
   exact rel_leaf hF (fun j' e => by rcases e with ⟨off,e⟩ | e | e <;> cases e) rfl h
 ·intro d sv hc h
  have keep:∀ {c:C},(∀ j off,c ≠ .own j off) → c.leaf = true → c ≠ .any → RelV F L c sv → unownV k g sv = sv:=by
   intro c hne hl hna hv
   cases sv with
   | v x => rfl
   | el a i => rfl
   | own k' off =>
    exfalso
    cases c <;> simp only [C.leaf,Bool.false_eq_true] at hl <;> first
     | exact hne _ _ rfl
     | exact hna rfl
     | (obtain ⟨v,e,_⟩:=hv; cases e; done)
     | (obtain ⟨b,o,j,us,e | e,_⟩:=hv
        ·cases e.1
        ·cases e)
     | (obtain ⟨ad,t,sz,n,c,xs,e,_⟩:=hv; cases e; done)
     | (obtain ⟨v,e | ⟨b,o,j,e,_⟩,_⟩:=hv
        ·cases e
        ·cases e)
  cases d <;> simp only [C.leaf,Bool.false_eq_true] at hc <;> simp only [frbLeaf]
  case any => trivial
  case own j off =>
   obtain ⟨rfl,g',t',cs,e⟩:=h
   simp only [unownV]
   cases hj:Nat.beq j k with
   | true =>
    have:=Nat.eq_of_beq_eq_true hj
    subst this
    exact ⟨g,off,0,vs,.inl ⟨rfl,rfl⟩,hpt off,h1,hr⟩
   | false =>
    obtain ⟨o',q1,q2⟩:=h2 j (beq_f hj) _ e
    cases o' with
    | row => exact q2.elim
    | box g2 t2 cs2 => exact ⟨rfl,g2,t2,cs2,q1⟩
  case ownv j off =>
   rw [keep (c:=.ownv j off) (fun _ _ e => by cases e) rfl (fun e => by cases e) h]
   cases hj:Nat.beq j k with
   | true =>
    have:=Nat.eq_of_beq_eq_true hj
    subst this
    obtain ⟨v,hsv,hr2⟩:=h
    simp only [Rel] at hr2
    obtain ⟨g',t',cs,e,rfl⟩:=hr2
    rw [hk] at e
    injection e with e
    injection e with e1 e2 e3
    subst e1
    rcases hsv with rfl | ⟨b,o,i,rfl,e⟩
    ·exact ⟨g,off,0,vs,.inl ⟨rfl,rfl⟩,hpt off,h1,hr⟩
    ·injection e with e
     injection e with e
     injection e with q1 q2 q3
     subst q1 q2
     exact ⟨g,o,i,vs,.inr rfl,hpt (o + i),h1,hr⟩
   | false =>
    refine relV_leaf hF (fun j' e => ?_) rfl h
    rcases e with ⟨off,e⟩ | ⟨off,e⟩ | e | ⟨a,b,e⟩ | e <;> first | cases e; done | skip
    injection e with e
    subst e
    exact h2 j (beq_f hj)
  case rw j =>
   rw [keep (c:=.rw j) (fun _ _ e => by cases e) rfl (fun e => by cases e) h]
   refine relV_leaf hF (fun j' e => ?_) rfl h
   rcases e with ⟨off,e⟩ | ⟨off,e⟩ | e | ⟨a,b,e⟩ | e <;> first | cases e; done | skip
   injection e with e
   subst e
   refine h2 j ?_
   rintro rfl
   obtain ⟨v,_,hr2⟩:=h
   simp only [Rel] at hr2
   obtain ⟨a',c',t',sz',n',xs',rfl,h⟩:=hr2
   rw [hk] at h
   injection h with h
   cases h
  case elr j a b =>
   rw [keep (c:=.elr j a b) (fun _ _ e => by cases e) rfl (fun e => by cases e) h]
   refine relV_leaf hF (fun j' e => ?_) rfl h
   rcases e with ⟨off,e⟩ | ⟨off,e⟩ | e | ⟨a,b,e⟩ | e <;> first | cases e; done | skip
   injection e with e
   subst e
   refine h2 j ?_
   rintro rfl
   obtain ⟨ad,t,sz,n,c,xs,_,h⟩:=h
   rw [hk] at h
   injection h with h
   cases h
  case mpr j =>
   rw [keep (c:=.mpr j) (fun _ _ e => by cases e) rfl (fun e => by cases e) h]
   cases hj:Nat.beq j k with
   | true => trivial
   | false =>
    refine relV_leaf hF (fun j' e => ?_) rfl h
    rcases e with ⟨off,e⟩ | ⟨off,e⟩ | e | ⟨a,b,e⟩ | e <;> first | cases e; done | skip
    injection e with e
    subst e
    exact h2 j (beq_f hj)
  all_goals
   rw [keep (fun _ _ e => by cases e) rfl (fun e => by cases e) h]
   exact relV_leaf hF (fun j' e => by rcases e with ⟨off,e⟩ | ⟨off,e⟩ | e | ⟨a,b,e⟩ | e <;> cases e) rfl h
theorem unown_eq (k g:Nat) (ρ:Env) (j:Nat):unown k g ρ j = unownV k g (ρ j):=by
 simp only [unown,unownV]
 cases ρ j <;> rfl
theorem frb1_sound {k:Nat} {t:TypeId} {cs:List C} (hs:St F L w) (he:EnvOk L ρ a) (ht:TS G F L ρ M τ) (hk:M.get k = some (.box t cs)) (h1:onesL cs = true) (h2:puresL cs = true) (hG:G k = none) :
  ∃ F' L' ρ',St F' L' w ∧ EnvOk L' ρ' a ∧ Step F L w F' L' w ∧ TS G F' L' ρ' ((M.del k).mapC (C.frb k cs)) (fun j => (τ j).frb k cs):=by
 obtain ⟨g,ty,vs,hL,hr,hty⟩:=tl_box ht.tl hk
 obtain ⟨F',hF,hg,g1,g2,g3⟩:=frzB_sound hs he hL
 rw [boxObj_ne hty.2.2] at hg
 obtain ⟨l1,l2⟩:=frb_leaf (F:=F) hF hL hg h1 ((pures_rel h2 hr).mono hF)
 refine ⟨F',L.del k,_,g1,g2,g3,⟨fun j => ?_,fun j => ?_,fun j g t e => ?_,ht.glob.mono hF⟩⟩
 ·rw [mapC_get,TL.get_del,Loc.get_del]
  split
  ·trivial
  ·rcases relK_get (ht.tl j) with ⟨e1,e2⟩ | ⟨o,p,e1,e2,hro⟩
   ·rw [e1,e2]; trivial
   ·rw [e1,e2]
    cases o with
    | row t sz els =>
     cases p with
     | box => exact hro.elim
     | row v t' sz' n xs => exact ⟨hro.1,hro.2.1,hro.2.2.1,hro.2.2.2.1,hro.2.2.2.2.mono hF⟩
    | box t cs =>
     cases p with
     | row => exact hro.elim
     | box g t' us => exact ⟨hro.1,hro.2.map fun c _ v h => Rel.mp l1 3 h⟩
    | map es =>
     cases p with
     | row => exact hro.elim
     | box g t' us => exact ⟨hro.1,hro.2.mono hF⟩
 ·rw [unown_eq]
  have hj:=ht.env j
  cases hc:(τ j).leaf with
  | true =>
   have e:(τ j).frb k cs = frbLeaf k cs (τ j):=mp_leaf hc
   simp only [e]
   exact l2 _ _ hc hj
  | false =>
   generalize ρ j = sv at hj
   generalize τ j = c at hc hj
   have h':∃ v,sv = .v v ∧ Rel F L c v:=by
    cases c <;> first | exact hj | cases hc
   obtain ⟨v,rfl,hv⟩:=h'
   have hv2:Rel F' (L.del k) (c.frb k cs) v:=Rel.mp l1 3 hv
   cases c <;> first | exact ⟨v,rfl,hv2⟩ | cases hc
 ·obtain ⟨cs,h⟩:=ht.kp j g t e
  exact ⟨cs,by rw [Loc.get_del,if_neg (by rintro rfl; rw [hG] at e; cases e)]; exact h⟩
theorem frzK_sound:∀ {fz:List Nat} {F:Frz} {L:Loc} {M:TL} {τ:TEnv} {args:List C} {vs:List Value} {K:TL → TEnv → List C → Prop},St F L w → EnvOk L ρ a → TS G F L ρ M τ → Rels F L args vs → frzK fz M τ args K →
  ∃ F' L' M' τ' args',St F' L' w ∧ EnvOk L' ρ a ∧ Step F L w F' L' w ∧ TS G F' L' ρ M' τ' ∧ Rels F' L' args' vs ∧ K M' τ' args'
 | [],F,L,M,τ,args,vs,K,hs,he,ht,ha,h => ⟨F,L,M,τ,args,hs,he,Step.refl _ _ _,ht,ha,h⟩
 | k :: fz,F,L,M,τ,args,vs,K,hs,he,ht,ha,h => by
  simp only [frzK] at h
  split at h
  case h_2 => exact h.elim
  rename_i t sz els hk
  obtain ⟨F1,L1,g1,g2,g3,g4,g5⟩:=frz1_sound hs he ht hk
  obtain ⟨F2,L2,M2,τ2,args2,k1,k2,k3,k4,k5,k6⟩:=frzK_sound g1 g2 g4 (ha.map fun c _ v hc => g5 hc) h
  exact ⟨F2,L2,M2,τ2,args2,k1,k2,g3.trans k3,k4,k5,k6⟩
def mkL (L:Loc):TL → Loc
 | [] => []
 | (k,o) :: l => (k,match L.get k with
  | some p => p
  | none => match o with
   | .row t sz _ => .row (.slice none 0 0) t sz 0 []
   | .box _ _ => .row (.slice none 0 0) 0 0 0 []
   | .map _ => .row (.slice none 0 0) 0 0 0 []) :: mkL L l
theorem mkL_get:∀ (M1:TL) (k:Nat),(mkL L M1).get k = match M1.get k with
  | some o => some (match L.get k with | some p => p | none => match o with | .row t sz _ => .row (.slice none 0 0) t sz 0 [] | .box _ _ => .row (.slice none 0 0) 0 0 0 [] | .map _ => .row (.slice none 0 0) 0 0 0 [])
  | none => none
 | [],k => rfl
 | (j,o) :: l,k => by
  simp only [mkL,Loc.get,TL.get]
  cases h:Nat.beq j k with
  | true => have:=Nat.eq_of_beq_eq_true h; subst this; rfl
  | false => exact mkL_get l k
theorem gives_at:∀ {l:TL} {M1:TL},gives M M1 l → ∀ {k o},l.get k = some o → (∃ p,M.get k = some p ∧ leO M M1 p o) ∨ (M.get k = none ∧ ∃ t sz,o = .row t sz [])
 | [],M1,h,k,o,e => by cases e
 | (j,p) :: l,M1,h,k,o,e => by
  simp only [gives] at h
  simp only [TL.get] at e
  split at e
  ·rename_i hj
   have:=Nat.eq_of_beq_eq_true hj
   subst this
   injection e with e
   subst e
   exact h.1
  ·exact gives_at h.2 e
theorem mkL_gives (ht:RelTL F L M) {M1:TL}:∀ {l:TL},gives M M1 l → L.gives (mkL L l)
 | [],h => trivial
 | (j,p) :: l,h => by
  simp only [gives] at h
  refine ⟨?_,mkL_gives ht h.2⟩
  rcases h.1 with ⟨q,e1,e2⟩ | ⟨e1,t,sz,rfl⟩
  ·rcases relK_get (ht j) with ⟨c1,c2⟩ | ⟨o,p',c1,c2,hr⟩
   ·rw [c1] at e1; cases e1
   ·simp only [c2]; exact .inl trivial
  ·have:=tl_none ht e1
   simp only [this]
   exact .inr ⟨trivial,t,sz,rfl⟩
theorem hasKeys_rel {L':Loc} {M1:TL} (hl:∀ k o,M1.get k ≠ none → L.get k = some o → L'.get k = some o):∀ (n:Nat) {c:C} {v:Value},hasKeysA M1 n c = true → Rel F L c v → Rel F L' c v:=by
 have leafc:∀ {c:C} {v:Value},c.leaf = true → hasKeys M1 c = true → Rel F L c v → Rel F L' c v:=by
  intro c v hc hk h
  refine rel_leaf (Frz.le_refl F) (fun k e o ho => ⟨o,hl k o ?_ ho,Own.like_refl o⟩) hc h
  rcases e with ⟨off,rfl⟩ | rfl | rfl
  ·simp only [hasKeys] at hk
   intro e
   rw [e] at hk
   cases hk
  ·simp only [hasKeys] at hk
   intro e
   rw [e] at hk
   cases hk
  ·simp only [hasKeys] at hk
   intro e
   rw [e] at hk
   cases hk
 intro n
 induction n with
 | zero =>
  intro c v hk h
  cases hc:c.leaf
  ·cases c <;> simp only [C.leaf,Bool.true_eq_false] at hc <;> simp only [hasKeysA,Bool.false_eq_true] at hk
  ·refine leafc hc ?_ h
   cases c <;> simp only [C.leaf,Bool.false_eq_true] at hc <;> simpa only [hasKeysA] using hk
 | succ n ih =>
  intro c v hk h
  have all:∀ {cs:List C} {vs:List Value},cs.all (hasKeysA M1 n) = true → Rels F L cs vs → Rels F L' cs vs:=by
   intro cs vs h1 h2
   have:=h2.map (g:=id) (F':=F) (L':=L') (fun c hc v hv => ih (List.all_eq_true.1 h1 c hc) hv)
   simpa using this
  cases hc:c.leaf
  ·cases c <;> simp only [C.leaf,Bool.true_eq_false] at hc <;> simp only [hasKeysA,Bool.and_eq_true] at hk <;> simp only [Rel] at h ⊢
   ·obtain ⟨fi',ca',h1,h2,h3⟩:=h
    exact ⟨fi',ca',h1,all hk.1 h2,all hk.2 h3⟩
   ·obtain ⟨vs,h1,h2⟩:=h
    exact ⟨vs,h1,all hk h2⟩
   ·obtain ⟨vs,h1,h2⟩:=h
    exact ⟨vs,h1,all hk h2⟩
  ·refine leafc hc ?_ h
   cases c <;> simp only [C.leaf,Bool.false_eq_true] at hc <;> simpa only [hasKeysA] using hk
theorem leC_rel (ht:RelTL F L M) {M1:TL} {c c':C} {v:Value} (h:leC M M1 c c') (hr:Rel F L c v):Rel F (mkL L M1) c' v:=by
 rcases h with rfl | ⟨rfl,hk⟩ | ⟨rfl,rfl⟩ | ⟨rfl,k,t,sz,rfl,h1,h2⟩ | ⟨els,rfl,rfl⟩
 ·simp only [Rel]
 ·refine hasKeys_rel (fun k o h1 h2 => ?_) 3 hk hr
  rw [mkL_get]
  cases e:M1.get k with
  | none => exact absurd e h1
  | some q => simp only [h2]
 ·exact can_rel (c:=.nils) (by simpa only [Rel] using hr)
 ·simp only [Rel] at hr ⊢
  subst hr
  refine ⟨none,0,t,sz,0,[],rfl,?_⟩
  rw [mkL_get,h2]
  simp only [tl_none ht h1]
 ·simpa only [Rel] using slx_sl hr
theorem leCs_rel (ht:RelTL F L M) {M1:TL}:∀ {cs cs':List C} {vs:List Value},leCs M M1 cs cs' → Rels F L cs vs → Rels F (mkL L M1) cs' vs
 | [],cs',vs,h,hr => by simp only [leCs] at h; subst h; simpa only [Rels] using hr
 | c :: cs,cs',vs,h,hr => by
  simp only [leCs] at h
  obtain ⟨c',cs2,rfl,h1,h2⟩:=h
  simp only [Rels] at hr ⊢
  obtain ⟨v,vs',rfl,hr1,hr2⟩:=hr
  exact ⟨v,vs',rfl,leC_rel ht h1 hr1,leCs_rel ht h2 hr2⟩
theorem leO_rel (ht:RelTL F L M) {M1:TL} {o o':TO} {p:Own} (h:leO M M1 o o') (hr:RelO F L o p):RelO F (mkL L M1) o' p:=by
 rcases h with ⟨rfl,hk⟩ | ⟨t,cs,cs',rfl,rfl,h⟩
 ·cases o with
  | row t sz els => cases p with
   | row => exact hr
   | box => exact hr.elim
  | map es => cases p with
   | row => exact hr.elim
   | box => exact hr
  | box t cs => cases p with
   | row => exact hr.elim
   | box g t' vs =>
    simp only [keysO] at hk
    refine ⟨hr.1,?_⟩
    have:=hr.2.map (g:=id) (F':=F) (L':=mkL L M1) (fun c hc v hv => hasKeys_rel (fun k o h1 h2 => by
     rw [mkL_get]
     cases e:M1.get k with
     | none => exact absurd e h1
     | some q => simp only [h2]) 3 (List.all_eq_true.1 hk c hc) hv)
    simpa using this
 ·cases p with
  | row => exact hr.elim
  | box g t' vs => exact ⟨hr.1,leCs_rel ht h hr.2⟩
theorem gives_tl (ht:RelTL F L M) {M1:TL} (h:gives M M1 M1):RelTL F (mkL L M1) M1:=by
 intro k
 rw [mkL_get]
 cases e:M1.get k with
 | none => trivial
 | some o =>
  rcases gives_at h e with ⟨q,e1,e2⟩ | ⟨e1,t,sz,rfl⟩
  ·rcases relK_get (ht k) with ⟨c1,c2⟩ | ⟨q',p,c1,c2,hr⟩
   ·rw [c1] at e1; cases e1
   ·rw [c1] at e1
    injection e1 with e1
    subst e1
    simp only [c2]
    exact leO_rel ht e2 hr
  ·simp only [tl_none ht e1]
   exact ⟨rfl,rfl,rfl,⟨by simp,none,0,rfl,fun _ => rfl⟩,by simp only [RelRow]⟩
theorem gives_St (hs:St F L w) (ht:RelTL F L M) {M1:TL} (h:gives M M1 M1):St F (mkL L M1) w ∧ Step F L w F (mkL L M1) w:=⟨hs.gives (mkL_gives ht h),gives_step (mkL_gives ht h)⟩
theorem keepsT_any:∀ {l M1:TL},keepsT l M1 = true → ∀ {k o},l.get k = some o → isRowT o = false → ∃ o',M1.get k = some o'
 | [],M1,h,k,o,e,_ => by cases e
 | (j,.box t0 c0) :: l,M1,h,k,o,e,ho => by
  simp only [keepsT] at h
  split at h
  case h_2 => cases h
  rename_i t1 c1 h1
  simp only [TL.get] at e
  split at e
  ·rename_i hj
   have:=Nat.eq_of_beq_eq_true hj
   subst this
   exact ⟨_,h1⟩
  ·exact keepsT_any h e ho
 | (j,.map es) :: l,M1,h,k,o,e,ho => by
  simp only [keepsT] at h
  split at h
  case h_2 => cases h
  rename_i es1 h1
  simp only [TL.get] at e
  split at e
  ·rename_i hj
   have:=Nat.eq_of_beq_eq_true hj
   subst this
   exact ⟨_,h1⟩
  ·exact keepsT_any h e ho
 | (j,.row ..) :: l,M1,h,k,o,e,ho => by
  simp only [keepsT] at h
  simp only [TL.get] at e
  split at e
  ·injection e with e; subst e; cases ho
  ·exact keepsT_any h e ho
theorem covers_get:∀ {l M1:TL},covers l M1 = true → ∀ {k o},l.get k = some o → ∃ o',M1.get k = some o'
 | [],M1,h,k,o,e => by cases e
 | (j,p) :: l,M1,h,k,o,e => by
  simp only [covers] at h
  split at h
  case h_2 => cases h
  rename_i q h1
  simp only [TL.get] at e
  split at e
  ·rename_i hj
   have:=Nat.eq_of_beq_eq_true hj
   subst this
   exact ⟨_,h1⟩
  ·exact covers_get h e
theorem env_keep {L':Loc} (he:EnvOk L ρ a) (h:∀ k g t cs,L.get k = some (.box g t cs) → ∃ cs',L'.get k = some (.box g t cs')):EnvOk L' ρ a:=by
 refine ⟨fun t => ?_,fun t k off e => ?_,he.el⟩
 ·rw [he.eq t]
  cases e:ρ t with
  | v x => rfl
  | el a j => rfl
  | own k off =>
   obtain ⟨g,ty,cs,hg⟩:=he.own t k off e
   obtain ⟨cs',hg'⟩:=h _ _ _ _ hg
   simp only [conc,hg,hg']
 ·obtain ⟨g,ty,cs,hg⟩:=he.own t k off e
  obtain ⟨cs',hg'⟩:=h _ _ _ _ hg
  exact ⟨g,ty,cs',hg'⟩
theorem gives_sound (hs:St F L w) (he:EnvOk L ρ a) (ht:TS G F L ρ M τ) {M1:TL} (h:gives M M1 M1) (hc:covers M M1 = true) :
  St F (mkL L M1) w ∧ EnvOk (mkL L M1) ρ a ∧ Step F L w F (mkL L M1) w ∧ TS G F (mkL L M1) ρ M1 τ ∧ Ext L (mkL L M1):=by
 obtain ⟨h1,h2⟩:=gives_St hs ht.tl h
 have hext:∀ k o,L.get k = some o → (mkL L M1).get k = some o:=by
  intro k o e
  rcases relK_get (ht.tl k) with ⟨c1,c2⟩ | ⟨q,p,c1,c2,hr⟩
  ·rw [c2] at e; cases e
  ·obtain ⟨o',e'⟩:=covers_get hc c1
   rw [mkL_get,e']
   simp only [e]
 refine ⟨h1,env_keep he fun k g t cs e => ⟨cs,hext _ _ e⟩,h2,⟨gives_tl ht.tl h,fun j => (ht.env j).ext (Frz.le_refl F) fun k o e => ⟨o,hext k o e,Own.like_refl o⟩,fun k g t e => ?_,ht.glob⟩,fun k o e => ⟨o,hext k o e,Own.like_refl o⟩⟩
 obtain ⟨cs,h⟩:=ht.kp k g t e
 exact ⟨cs,hext _ _ h⟩
theorem tokD {F:Frz} {args:List C} {vs:List Value} (ha:Rels F L args vs):Rels F (inp []) (args.map fun c => c.canA.ren (toIn [] 1000)) vs :=
 ha.map fun c _ v hc => (canA_rel hc).ren (fun j m e => by cases e)
theorem tok1 {F:Frz} {L:Loc} {args:List C} {vs:List Value} {kr:Nat} {o:Own} (hL:L.get kr = some o) (ha:Rels F L args vs):Rels F (inp [o]) (args.map fun c => c.canA.ren (toIn [kr] 1000)) vs :=
 ha.map fun c _ v hc => (canA_rel hc).ren (fun j m e o' ho => by
  obtain ⟨n,h1,rfl⟩:=toIn_eq e
  cases n with
  | zero =>
   simp only [List.getElem?_cons_zero,Option.some.injEq] at h1
   subst h1
   rw [hL] at ho
   injection ho with ho
   subst ho
   rfl
  | succ n => simp at h1)
theorem tl_nil:RelTL F (inp []) (tinp []):=fun k => by rw [tinp_get,inp_get]; split <;> simp [RelK]
theorem ResA.mono' {Li:List Own} {R:List TO → C → Prop}:∀ F G L v,Frz.le F G → ResA Li R F L v → ResA Li R G L v:=by
 rintro F G L v hF ⟨Mo,c,q1,q2,q3,q4,q5⟩
 exact ⟨Mo,c,q1,q2.mono hF,q3.mono hF,q4,q5⟩
theorem sim_callD {f:Nat} {args:List C} {vs:List Value} {d:Option Nat} {K:TL → TEnv → C → Prop} (ht:TS G F L ρ M τ) (ha:Rels F L args vs) (h:CallDT P f args M τ d K) :
  CallDPt P f vs F L d (fun F' L' v => ∃ M' τ' c,TS G F' L' ρ M' τ' ∧ RelV F' L' c (.v v) ∧ K M' τ' c):=by
 cases h with
 | frz R h k =>
  refine .frz (ResA [] R) (h.out F [] vs rfl tl_nil (tokD ha)) ?_
  rintro v F' Lo hF ⟨Mo,c,q1,q2,q3,q4,q5⟩
  obtain ⟨rfl,k2⟩:=k c Mo q5 q3.wf
  have:Lo = []:=List.length_eq_zero_iff.1 (by rw [← q1]; rfl)
  subst this
  exact ⟨rfl,fun _ => ⟨M,τ,_,ht.mono hF,slt_rel (q3.ext (Frz.le_refl F') (fun k o e => by rw [inp_get] at e; split at e <;> simp at e)),k2⟩⟩
 | own R k h hd hk kk =>
  refine .own (ResA [] R) k (h.out F [] vs rfl tl_nil (tokD ha)) hd (tl_none ht.tl hk) ?_
  rintro v F' Lo hF ⟨Mo,c,q1,q2,q3,q4,q5⟩
  have hwo:∀ o ∈ Mo,o.Wf:=by
   intro o ho
   obtain ⟨i,hi⟩:=List.mem_iff_getElem?.1 ho
   have hlt:i < Lo.length:=by rw [← q1]; exact (List.getElem?_eq_some_iff.1 hi).1
   have:=q2 (1000 + i)
   rw [tinp_get,inp_get,if_pos (by omega),if_pos (by omega),show 1000 + i - 1000 = i by omega,hi,List.getElem?_eq_getElem hlt] at this
   exact RelO.wf this
  obtain ⟨o,rfl,k2⟩:=kk c Mo q5 q3.wf hwo
  match Lo,q1 with
  | [p],_ =>
   have hback:∀ j m,fromIn [k] j = some m → ∀ o,(inp [p]).get j = some o → (L.set k p).get m = some o:=by
    intro j m hj o ho
    obtain ⟨a1,a2⟩:=fromIn_eq hj
    rw [inp_get,if_pos a1] at ho
    have:j - 1000 = 0:=by have:=(List.getElem?_eq_some_iff.1 a2).1; simp at this; omega
    rw [this] at ho a2
    simp at ho a2
    subst ho a2
    rw [Loc.get_set,if_pos rfl]
   have hro:=q2 1000
   rw [tinp_get,inp_get,if_pos (by omega),if_pos (by omega)] at hro
   refine ⟨p,rfl,fun _ => ⟨_,τ,_,ht.new hF (tl_none ht.tl hk) (RelO.ren hback hro),slt_rel (q3.ren hback),k2⟩⟩
 | row R kr t sz els hent hk h kk =>
  obtain ⟨rv,xs,hL,⟨hm,av,cv,rfl,hnil⟩,hr⟩:=tl_row ht.tl hk
  refine .row (fun F' Lo v => Lo = [] ∧ ResA [] R F' [] v) kr _ t sz els.length xs ⟨hent,fun F1 F2 L v hle hR => ⟨hR.1,ResA.mono' _ _ _ _ hle hR.2⟩,fun w hs => ?_⟩ hL ?_
  ·have he0:EnvOk (inp [.row (.slice av els.length cv) t sz els.length xs]) (fun _ => .v undef) (⟨#[],[]⟩:Act):=by
    refine ⟨fun j => ?_,fun j k off e => (by cases e),fun j a i e => (by cases e)⟩
    simp [conc]
   obtain ⟨F2,L2,g1,_,g3,hF,hfr,rfl⟩:=frz_sound (k:=1000) (KK:=fun F' L' => F.le F' ∧ FRow F' (.slice av els.length cv) sz els.length xs ∧ L' = (inp [.row (.slice av els.length cv) t sz els.length xs]).del 1000) hs he0 ⟨_,_,_,_,_,rfl,fun F' hF hfr => ⟨hF,hfr,rfl⟩⟩
   have hrel:Rel F2 (L.del kr) (.sl els) (.slice av els.length cv):=by
    simp only [Rel]
    rcases hfr with ⟨e1,e2,e3⟩ | ⟨ad,c2,e1,e2,e3⟩
    ·injection e1 with q1 q2 q3
     have:els = []:=List.length_eq_zero_iff.1 q2
     subst this
     exact ⟨av,cv,rfl,by simp,by simp,fun _ => ⟨rfl,q3⟩,sz,by simp only [RelS]⟩
    ·injection e1 with q1 q2 q3
     subst q1 q3
     exact ⟨some ad,cv,rfl,e3,hm,fun e => (by cases e),sz,(hr.mono hF).frz e2⟩
   obtain ⟨l1,_⟩:=frz_leaf hF hL hrel
   have ha2:Rels F2 (L.del kr) (args.map (C.frz kr els)) vs:=ha.map fun c _ v hc => Rel.mp l1 3 hc
   have ha3:=tokD ha2
   rw [List.map_map] at ha3
   refine ((h.out F2 [] vs rfl tl_nil ha3).run w g1).mono ?_
   rintro e w' ⟨v,F',Lo,rfl,hs',hst,hR⟩
   have hLo:Lo = []:=by
    obtain ⟨Mo,c,q1,q2,q3,q4,q5⟩:=hR
    obtain ⟨rfl,_⟩:=kk c Mo q5 q3.wf
    exact List.length_eq_zero_iff.1 (by rw [← q1]; rfl)
   subst hLo
   exact ⟨v,F',[],rfl,hs',g3.trans hst,rfl,hR⟩
  ·rintro v F' Lo hF ⟨rfl,Mo,c,q1,q2,q3,q4,q5⟩
   obtain ⟨rfl,k2⟩:=kk c Mo q5 q3.wf
   refine ⟨rfl,fun _ => ⟨_,_,_,(ht.mono hF).killed (k:=kr) (o':=.row (.slice none 0 0) t sz 0 []) (to:=.row t sz []) (fun g t' cs e => by rw [hL] at e; injection e with e; cases e) ⟨rfl,rfl,rfl,⟨Nat.zero_le _,none,0,rfl,fun _ => rfl⟩,by simp only [RelRow]⟩,slt_rel (q3.ext (Frz.le_refl F') (fun k o e => by rw [inp_get] at e; split at e <;> simp at e)),k2⟩⟩
 | lent kr t sz els x hk h k =>
  obtain ⟨rv,xs,hL,hrest,hr⟩:=tl_row ht.tl hk
  refine .lent (fun F' v => Rel F' (inp []) x v) kr rv t sz els.length xs (h.out F rv xs vs ⟨rfl,rfl,rfl,hrest,hr⟩ (tok1 hL ha)) hL fun v F' hF hR _ => ?_
  exact ⟨M,τ,_,ht.mono hF,slt_rel (hR.ext (Frz.le_refl F') (fun k o e => by rw [inp_get] at e; split at e <;> simp at e)),k hR.wf⟩
def callOp:SOp → Bool
 | .call _ _ => true
 | .callV _ _ => true
 | _ => false
theorem TS.kput {F:Frz} {L:Loc} {ρ:Env} {M:TL} {τ:TEnv} {K:TK} {d:Option Nat} (ht:TS G F L ρ M τ) {c:C} {sv:SV} (hc:RelV F L c sv) (h:K M (tput d c τ)):Both G K F L (Fr.put d sv ρ):=⟨_,_,ht.put hc d,h⟩
theorem conc_vals (h:∀ j,RelV F L (τ j) (ρ j)) {fi ca:List C} {fi' ca':List Value} (h1:Rels F L fi fi') (h2:Rels F L ca ca') (args:List X):Rels F L (fi ++ evalsT τ args ++ ca) (fi'.toArray.toList ++ evals L ρ args ++ ca'.toArray.toList):=by
 simpa using (h1.append (evals_rel h args)).append h2
theorem CallPt.imp {f:Nat} {args:List Value} {F:Frz} {L:Loc} {K K':Frz → Loc → Value → Prop} (h:CallPt P f args F L K) (hk:∀ F' L' v,K F' L' v → K' F' L' v):CallPt P f args F L K':=by
 obtain ⟨ks,ko,Lin,R,h1,h2,h3,h4,h5,h6⟩:=h
 exact ⟨ks,ko,Lin,R,h1,h2,h3,h4,h5,fun v F' Lo hF hR => let ⟨a,b,c⟩:=h6 v F' Lo hF hR; ⟨a,b,hk _ _ _ c⟩⟩
theorem CallDPt.imp' {f:Nat} {args:List Value} {F:Frz} {L:Loc} {d:Option Nat} {K K':Frz → Loc → Value → Prop} (h:CallDPt P f args F L d K) (hk:∀ F' L' v,K F' L' v → K' F' L' v):CallDPt P f args F L d K':=by
 cases h with
 | frz R h k => exact .frz R h fun v F' Lo hF hR => let ⟨a,b⟩:=k v F' Lo hF hR; ⟨a,fun hr => hk _ _ _ (b hr)⟩
 | own R k h hd hk' kk => exact .own R k h hd hk' fun v F' Lo hF hR => let ⟨o,a,b⟩:=kk v F' Lo hF hR; ⟨o,a,fun hr => hk _ _ _ (b hr)⟩
 | row R kr rv t sz n xs h hk' kk => exact .row R kr rv t sz n xs h hk' fun v F' Lo hF hR => let ⟨a,b⟩:=kk v F' Lo hF hR; ⟨a,fun hr => hk _ _ _ (b hr)⟩
 | lent R kr rv t sz n xs h hk' kk => exact .lent R kr rv t sz n xs h hk' fun v F' hF hR hr => hk _ _ _ (kk v F' hF hR hr)
theorem binI_imp {op:BinOp} {k:IntKind} {a b:Int} {K K':Value → Prop} (h:binI op k a b K) (hk:∀ v,K v → K' v):binI op k a b K':=by
 cases op <;> simp only [binI] at h ⊢ <;> first
  | exact h.elim
  | exact ⟨hk _ h.out⟩
  | exact ⟨h.ne,⟨hk _ h.out.out⟩⟩
  | exact ⟨h.ne,hk _ h.out⟩
  | exact hk _ h
theorem shI_imp {op:BinOp} {k:IntKind} {a b:Int} {K K':Value → Prop} (h:shI op k a b K) (hk:∀ v,K v → K' v):shI op k a b K':=by
 cases op <;> simp only [shI] at h ⊢ <;> first
  | exact h.elim
  | exact ⟨h.1,⟨hk _ h.2.out⟩⟩
  | exact ⟨h.1,hk _ h.2⟩
theorem binS_imp {op:BinOp} {a b:ByteArray} {K K':Value → Prop} (h:binS op a b K) (hk:∀ v,K v → K' v):binS op a b K':=by
 cases op <;> simp only [binS] at h ⊢ <;> first
  | exact h.elim
  | exact hk _ h
  | exact ⟨h.1,hk _ h.2⟩
theorem outV_imp {o:SOp} {V V':SV → Prop} {F:Frz} {L:Loc} {ρ:Env} (h:outV o F L ρ V) (hk:∀ v,V v → V' v):outV o F L ρ V':=by
 have load:∀ {a:Option Addr} {j n:Nat} {g:List Value → SV},LoadPt F L a j n (fun cs => V (g cs)) → LoadPt F L a j n (fun cs => V' (g cs)):=fun h => ⟨let ⟨cs,h1,h2,h3⟩:=h.out; ⟨cs,h1,h2,hk _ h3⟩⟩
 have loadD:∀ {a:Option Addr} {j n:Nat} {g:List Value → SV},LoadDPt F a j n (fun cs => V (g cs)) → LoadDPt F a j n (fun cs => V' (g cs)):=fun h => ⟨let ⟨cs,h1,h2,h3⟩:=h.out; ⟨cs,h1,h2,hk _ h3⟩⟩
 cases o <;> simp only [outV] at h ⊢ <;> first
  | exact h.elim
  | exact hk _ h
  | skip
 case pick c a b =>
  generalize ev ρ c = z at h ⊢
  split at h <;> first | exact h.elim | exact hk _ h
 case build zs ps =>
  generalize built L ρ zs ps = z at h ⊢
  split at h <;> first | exact h.elim | exact hk _ h
 case load agg n x =>
  generalize ev ρ x = z at h ⊢
  split at h
  ·rename_i k off
   generalize L.get k = y at h ⊢
   split at h
   ·rename_i t cs
    generalize memB t ((cs.drop off).take n) n = b at h ⊢
    cases b
    ·exact h.elim
    ·exact hk _ h
   ·exact h.elim
  ·exact load h
  ·exact load h
  ·exact h.elim
 case loadR agg n x =>
  generalize ev ρ x = z at h ⊢
  split at h
  ·rename_i k off
   generalize L.get k = y at h ⊢
   split at h
   ·rename_i t cs
    generalize memB t ((cs.drop off).take n) n = b at h ⊢
    cases b
    ·exact h.elim
    ·exact hk _ h
   ·exact h.elim
  ·exact load h
  ·exact load h
  ·exact h.elim
 case loadD agg n x =>
  generalize ev ρ x = z at h ⊢
  split at h
  ·rename_i k off
   generalize L.get k = y at h ⊢
   split at h
   ·rename_i t cs
    generalize memB t ((cs.drop off).take n) n = b at h ⊢
    cases b
    ·exact h.elim
    ·exact hk _ h
   ·exact h.elim
  ·exact loadD h
  ·exact loadD h
  ·exact h.elim
 case gload g =>
  obtain ⟨v,t,fr,h1,h2⟩:=h
  exact ⟨v,t,fr,h1,hk _ h2⟩
 case loadF agg n x =>
  generalize ev ρ x = z at h ⊢
  split at h
  ·exact loadD h
  ·exact loadD h
  ·exact h.elim
 case loadK key agg n x =>
  generalize ev ρ x = z at h ⊢
  split at h
  ·rename_i k off
   generalize Nat.beq k key = q at h ⊢
   cases q
   ·exact h.elim
   ·simp only [] at h ⊢
    generalize L.get k = y at h ⊢
    split at h
    ·rename_i t cs
     generalize memB t ((cs.drop off).take n) n = b at h ⊢
     cases b
     ·exact h.elim
     ·exact hk _ h
    ·exact h.elim
  ·exact h.elim
 case mlook str ok z0 x i =>
  generalize ev ρ x = z at h ⊢
  split at h
  ·obtain ⟨k,cs,h1,h2,⟨h3⟩⟩:=h
   exact ⟨k,cs,h1,h2,⟨h3.imp (fun ⟨i,v,h4,h5⟩ => ⟨i,v,h4,hk _ h5⟩) fun ⟨h4,h5⟩ => ⟨h4,hk _ h5⟩⟩⟩
  ·exact h.elim
 case mlen x =>
  generalize ev ρ x = z at h ⊢
  split at h
  ·obtain ⟨k,cs,h1,h2,h3⟩:=h
   exact ⟨k,cs,h1,h2,hk _ h3⟩
  ·exact h.elim
 case b2sD x =>
  generalize ev ρ x = z at h ⊢
  split at h
  ·exact ⟨let ⟨cs,h1,h2,⟨bs,h3,h4⟩⟩:=h.out; ⟨cs,h1,h2,⟨bs,h3,hk _ h4⟩⟩⟩
  ·exact h.elim
 case b2sR x =>
  generalize ev ρ x = z at h ⊢
  split at h
  ·exact ⟨let ⟨k,t,c,bs,h1,h2,h3,h4⟩:=h.out; ⟨k,t,c,bs,h1,h2,h3,hk _ h4⟩⟩
  ·exact h.elim
 case mkif t x =>
  generalize ev ρ x = z at h ⊢
  split at h <;> first | exact h.elim | exact hk _ h
 case nilck x =>
  generalize ev ρ x = z at h ⊢
  split at h <;> first
   | exact h.elim
   | exact hk _ h
   | exact ⟨h.1,hk _ h.2⟩
   | (split at h
      ·exact ⟨h.1,hk _ h.2⟩
      ·exact h.elim)
 case mkmv nm x =>
  generalize ev ρ x = z at h ⊢
  split at h <;> first | exact h.elim | exact hk _ h
 case bin op x y =>
  generalize ev ρ x = z at h ⊢
  generalize ev ρ y = z' at h ⊢
  split at h
  ·rename_i k a k' b
   generalize isSh op = q at h ⊢
   cases q
   ·generalize kindEq k k' = r at h ⊢
    cases r
    ·exact h.elim
    ·exact binI_imp h fun v => hk _
   ·exact shI_imp h fun v => hk _
  ·exact binS_imp h fun v => hk _
  ·exact h.elim
 case eqB neg x y =>
  generalize ev ρ x = z at h ⊢
  generalize ev ρ y = z' at h ⊢
  split at h <;> first | exact h.elim | exact hk _ h
 case eqP neg x y =>
  generalize ev ρ x = z at h ⊢
  generalize ev ρ y = z' at h ⊢
  split at h <;> first | exact h.elim | exact hk _ h
 case eqS neg x y =>
  generalize ev ρ x = z at h ⊢
  generalize ev ρ y = z' at h ⊢
  split at h <;> first | exact h.elim | exact hk _ h
 case eqF neg x y =>
  generalize ev ρ x = z at h ⊢
  generalize ev ρ y = z' at h ⊢
  split at h <;> first | exact h.elim | exact hk _ h
 case tas t z x =>
  generalize ev ρ x = y at h ⊢
  split at h <;> first
   | exact hk _ h
   | (split at h <;> exact hk _ h)
   | exact h.elim
 case eqN neg x =>
  generalize ev ρ x = z at h ⊢
  split at h <;> first | exact h.elim | exact hk _ h
 case eqA neg ks x y =>
  generalize ev ρ x = z at h ⊢
  generalize ev ρ y = z' at h ⊢
  split at h
  case h_2 => exact h.elim
  rename_i cs ds
  generalize eqVs ks cs.toList ds.toList true = q at h ⊢
  cases q with
  | none => exact h.elim
  | some b => exact hk _ h
 case un op x =>
  generalize ev ρ x = z at h ⊢
  split at h <;> first | exact h.elim | exact hk _ h | exact ⟨hk _ h.out⟩
 case conv k x =>
  generalize ev ρ x = z at h ⊢
  split at h <;> first | exact h.elim | exact ⟨hk _ h.out⟩
 case b2s x =>
  generalize ev ρ x = z at h ⊢
  split at h
  ·exact ⟨let ⟨cs,h1,h2,⟨bs,h3,h4⟩⟩:=h.out; ⟨cs,h1,h2,⟨bs,h3,hk _ h4⟩⟩⟩
  ·exact h.elim
 case slc sz x lo hi =>
  generalize ev ρ x = z at h ⊢
  split at h
  ·rename_i a n c
   generalize optI ρ 0 lo = y at h ⊢
   generalize optI ρ n hi = y' at h ⊢
   split at h
   ·exact ⟨h.lo,h.le,h.hi,hk _ h.out⟩
   ·exact h.elim
  ·exact h.elim
 case slcS x lo hi =>
  generalize ev ρ x = z at h ⊢
  split at h
  ·rename_i s
   generalize optI ρ 0 lo = y at h ⊢
   generalize optI ρ s.size hi = y' at h ⊢
   split at h
   ·exact ⟨h.lo,h.le,h.hi,hk _ h.out⟩
   ·exact h.elim
  ·exact h.elim
 case fieldA off x =>
  generalize ev ρ x = z at h ⊢
  split at h <;> first | exact h.elim | exact hk _ h
 case fieldV agg off n x =>
  generalize ev ρ x = z at h ⊢
  split at h
  ·rename_i cs
   generalize len? ((cs.toList.drop off).take n) n = b at h ⊢
   cases b
   ·exact h.elim
   ·exact hk _ h
  ·exact h.elim
 case idxA sz x i =>
  generalize ev ρ x = z at h ⊢
  generalize ev ρ i = z' at h ⊢
  split at h
  ·exact ⟨h.ne,h.lo,h.hi,hk _ h.out⟩
  ·exact h.elim
 case idxS x i =>
  generalize ev ρ x = z at h ⊢
  generalize ev ρ i = z' at h ⊢
  split at h
  ·exact ⟨h.lo,h.hi,hk _ h.out⟩
  ·exact h.elim
 case extr x i =>
  generalize ev ρ x = z at h ⊢
  split at h
  ·rename_i vs
   generalize vs.toList[i]? = y at h ⊢
   cases y
   ·exact h.elim
   ·exact hk _ h
  ·exact h.elim
 case len x =>
  generalize ev ρ x = z at h ⊢
  split at h <;> first | exact h.elim | exact hk _ h
 case lenS x =>
  generalize ev ρ x = z at h ⊢
  split at h <;> first | exact h.elim | exact hk _ h
 case capa x =>
  generalize ev ρ x = z at h ⊢
  split at h <;> first | exact h.elim | exact hk _ h
 case mm mx args =>
  generalize args.map (ev ρ) = z at h ⊢
  split at h
  ·rename_i k a l
   generalize mmI mx a l = y at h ⊢
   cases y
   ·exact h.elim
   ·exact hk _ h
  ·exact h.elim
theorem simOut {o:SOp} {d:Option Nat} {K:TK} {F:Frz} {L:Loc} {ρ:Env} {M:TL} {τ:TEnv} (ht:TS G F L ρ M τ) (h:outT o M τ fun v => K M (tput d v τ)):outV o F L ρ (fun v => Both G K F L (Fr.put d v ρ)) :=
 outV_imp (simV ht h) fun sv ⟨c,hc,hK⟩ => ht.kput hc hK
set_option maxHeartbeats 1000000 in
theorem store_X {F:Frz} {L:Loc} {ρ:Env} {K:Kont} {n:Nat} {a x:X} {d:Option Nat} (h:evalOp P (.store n a x) d F L ρ K):evalOp P (.storeX n a x) d F L ρ K:=by
 simp only [evalOp] at h ⊢
 split at h
 ·split at h
  ·split at h
   ·exact fun _ => h
   ·exact h.elim
  ·exact h.elim
 ·exact ⟨let ⟨k,v,t,sz,m,xs,ad,c,h1,h2,h3,h4,h5,h6⟩:=h.out; ⟨k,v,t,sz,m,xs,ad,c,h1,h2,h3,h4,h5,fun _ => h6⟩⟩
 ·exact ⟨let ⟨k,v,t,sz,m,xs,ad,c,h1,h2,h3,h4,h5,h6⟩:=h.out; ⟨k,v,t,sz,m,xs,ad,c,h1,h2,h3,h4,h5,fun _ => h6⟩⟩
 ·exact h.elim
theorem key_inv {str:Bool} {c:C} (h:keyC? str c = true):(∃ n,str = false ∧ c = .int .i64 n) ∨ ∃ s,str = true ∧ c = .str s:=by
 unfold keyC? at h
 split at h
 ·exact .inl ⟨_,rfl,rfl⟩
 ·exact .inr ⟨_,rfl,rfl⟩
 ·cases h
theorem set_rel {F:Frz} {str:Bool} {key c:C} {kv v:Value} (hk:Rel F [] key kv) (hc:Rel F [] c v):∀ {es es':List (C × C)} {vs:List Value},RelE F es vs → setC str key c es = some es' → ∃ vs',setV str kv v vs = some vs' ∧ RelE F es' vs'
 | [],es',vs,h,e => by
  simp only [RelE] at h
  subst h
  simp only [setC,Option.some.injEq] at e
  subst e
  exact ⟨_,rfl,by simp only [RelE]; exact ⟨kv,v,[],rfl,hk,hc,rfl⟩⟩
 | (k,d) :: l,es',vs,h,e => by
  simp only [RelE] at h
  obtain ⟨u,x,vs',rfl,h1,h2,h3⟩:=h
  simp only [setC] at e
  split at e
  ·rename_i hs
   injection e with e
   subst e
   exact ⟨_,by simp only [setV,keySame_rel hs hk h1]; rfl,by simp only [RelE]; exact ⟨kv,v,vs',rfl,hk,hc,h3⟩⟩
  ·rename_i hs
   split at e
   case h_2 => cases e
   rename_i l' hl
   injection e with e
   subst e
   obtain ⟨ws,g1,g2⟩:=set_rel hk hc h3 hl
   exact ⟨_,by simp only [setV,keySame_rel hs hk h1,g1]; rfl,by simp only [RelE]; exact ⟨u,x,ws,rfl,h1,h2,g2⟩⟩
  ·cases e
theorem pure_canA {F:Frz} {L:Loc} {c:C} {v:Value} (h:Rel F L c.cel v) (hp:puresL (tcells c) = true):Rel F [] c.cel.canA v:=by
 have leaf:puresL [c] = true → Rel F L c v → Rel F [] c v:=fun hp h => by
  have:=pures_rel (L':=[]) hp (show Rels F L [c] [v] by simp only [Rels]; exact ⟨v,[],rfl,h,rfl⟩)
  simp only [Rels] at this
  obtain ⟨u,us,e,h1,_⟩:=this
  injection e with e1 e2
  rw [e1]
  exact h1
 cases c
 case agg cs =>
  simp only [C.cel,tcells] at h hp ⊢
  refine canA_rel ?_
  simp only [Rel] at h ⊢
  obtain ⟨vs,h1,h2⟩:=h
  exact ⟨vs,h1,pures_rel hp h2⟩
 case ownv k o => simp [tcells,puresL,C.pure,C.leafPure] at hp
 case elr k j o => simp [tcells,puresL,C.pure,C.leafPure] at hp
 all_goals
  simp only [C.cel,tcells] at h hp ⊢
  exact canA_rel (leaf hp h)
theorem simOp {o:SOp} {d:Option Nat} {K:TK} {F:Frz} {L:Loc} {ρ:Env} {M:TL} {τ:TEnv} (ho:callOp o = false) (ht:TS G F L ρ M τ) (h:evalTOp P o d M τ K):evalOp P o d F L ρ (Both G K):=by
 have he:=ht.env
 cases o
 case call => cases ho
 case callV => cases ho
 case box t x =>
  simp only [evalTOp,fT_eq,fl_eq,fca_eq] at h
  simp only [evalOp]
  split at h
  case h_2 => exact h.elim
  rename_i k
  split at h
  case h_2 => exact h.elim
  rename_i hk hc hb
  simp only [tl_none ht.tl hk]
  exact fun g => sim_box ht hk hc (tyB_eq hb) h g
 case boxD t x =>
  simp only [evalTOp,fT_eq,fl_eq,fca_eq] at h
  simp only [evalOp]
  split at h
  case h_2 => exact h.elim
  rename_i k
  split at h
  case h_2 => exact h.elim
  rename_i hk hc hb
  simp only [tl_none ht.tl hk]
  exact fun g _ => sim_box ht hk hc (tyB_eq hb) h g
 case boxF t x =>
  simp only [evalTOp,fT_eq,fl_eq,fca_eq] at h
  simp only [evalOp]
  split at h
  case h_2 => exact h.elim
  rename_i h1 h2 h3
  intro g F' hF hg
  exact (ht.mono hF).kput (frz_pt hg (ones_can h2) (cans_rel ((pures_rel h3 (vals_cells he h1)).mono hF))) h
 case alloc t zs =>
  simp only [evalTOp,fT_eq,fl_eq,fca_eq] at h
  simp only [evalOp]
  split at h
  case h_2 => exact h.elim
  rename_i k
  split at h
  case h_2 => exact h.elim
  rename_i hk hb
  simp only [tl_none ht.tl hk]
  exact fun g => sim_alloc ht hk (tyB_eq hb) h g
 case allocD t zs =>
  simp only [evalTOp,fT_eq,fl_eq,fca_eq] at h
  simp only [evalOp]
  split at h
  case h_2 => exact h.elim
  rename_i k
  split at h
  case h_2 => exact h.elim
  rename_i hk hb
  simp only [tl_none ht.tl hk]
  exact fun g _ => sim_alloc ht hk (tyB_eq hb) h g
 case mkF e n sz xs =>
  simp only [evalTOp,fT_eq,fl_eq,fca_eq] at h
  simp only [evalOp]
  split at h
  case h_2 => exact h.elim
  rename_i h1 h2 h3
  rw [(parts_sound he h1).1]
  exact fun g F' hF hg => sim_mkF ht h1 (Nat.eq_of_beq_eq_true h2) (Nat.le_of_ble_eq_true h3) h hF hg
 case mkFD e n sz xs =>
  simp only [evalTOp,fT_eq,fl_eq,fca_eq] at h
  simp only [evalOp]
  split at h
  case h_2 => exact h.elim
  rename_i h1 h2 h3
  rw [(parts_sound he h1).1]
  exact fun g F' hF hg _ => sim_mkF ht h1 (Nat.eq_of_beq_eq_true h2) (Nat.le_of_ble_eq_true h3) h hF hg
 case mkR e n sz xs =>
  simp only [evalTOp,fT_eq,fl_eq,fca_eq] at h
  simp only [evalOp]
  split at h
  case h_2 => exact h.elim
  rename_i k h1 h2 h3
  split at h
  case h_2 => exact h.elim
  rename_i hk
  rw [(parts_sound he h1).1]
  simp only [tl_none ht.tl hk]
  exact fun g => sim_mkR ht h1 (Nat.eq_of_beq_eq_true h2) (Nat.le_of_ble_eq_true h3) hk h g
 case s2b e x =>
  simp only [evalTOp,fT_eq,fl_eq,fca_eq] at h
  simp only [evalOp]
  split at h
  case h_2 => exact h.elim
  rename_i s hx
  obtain ⟨e1,e2⟩:=inv_str he hx
  rw [e1]
  intro g c F' hF hf hc
  have hl:(bcells s.data.toList).length = s.size:=by simp [bcells]
  have:=relV_sl (F:=F') (L:=L) (els:=bcells s.data.toList) (a:=some ⟨g,0,none⟩) (c:=c) (sz:=1) (by rw [hl]; exact hc) (by rw [hl]; exact e2) (fun e => by cases e) (RelS_bytes hf)
  rw [hl] at this
  exact (ht.mono hF).kput this h
 case makeS => exact sim_makeS ht h
 case store n y x => exact sim_store ht h
 case storeD n y x => exact sim_storeD ht h
 case storeK key n y x =>
  simp only [evalTOp] at h
  split at h
  case h_2 => exact h.elim
  rename_i k off hy
  split at h
  case h_2 => exact h.elim
  rename_i hb
  obtain ⟨n',a',x',k',off',g,t,cs,ho,e1,e2,e3,e4,e5,hK⟩:=evalOp_st (P:=P) rfl (sim_storeD ht h)
  rcases ho with ho | ho
  ·injection ho with q1 q2 q3
   subst q1 q2 q3
   rw [(inv_own he hy).1] at e3
   injection e3 with q1 q2
   subst q1 q2
   have hb:=Nat.eq_of_beq_eq_true hb
   subst hb
   exact evalOp_st' (.inr rfl) e1 e2 (inv_own he hy).1 e4 e5 hK
  ·cases ho
 case makeSD e sz n zs =>
  simp only [evalTOp] at h
  split at h
  case h_2 => exact h.elim
  rename_i k
  split at h
  case h_2 => exact h.elim
  rename_i hk h1 h2 h3
  have hk':=tl_none ht.tl hk
  have hlz:zs.length = sz:=by have:=lenC_eq h1; simpa using this
  simp only [evalOp,hk',len_of hlz,h3]
  intro g _
  have hz:Rels F [] ((zs.map cv0).map C.can) zs:=cans_rel (cv0s_rel zs)
  have hrow0:onesL (zs.map cv0) = true → ∀ i:Nat,RelRow F sz (List.replicate i ((zs.map cv0).map C.can)) (List.replicate i zs).flatten:=by
   intro h2 i
   induction i with
   | zero => simp only [List.replicate_zero,List.flatten_nil,RelRow]
   | succ i ih =>
    simp only [List.replicate_succ,List.flatten_cons,RelRow]
    exact ⟨zs,_,rfl,hlz,ones_can h2,hz,ih⟩
  have hrow:∀ i:Nat,i = n → RelRow F sz (List.replicate i ((zs.map cv0).map C.can)) (List.replicate i zs).flatten:=by
   intro i hi
   rw [Bool.or_eq_true] at h2
   rcases h2 with h2 | h2
   ·have h2:=Nat.eq_of_beq_eq_true h2
    rw [hi,h2]
    simp only [List.replicate_zero,List.flatten_nil,RelRow]
   ·exact hrow0 h2 i
  have h3:=ht.new (Frz.le_refl F) hk' (o:=.row (.slice (some ⟨g,0,none⟩) n n) e sz n (List.replicate n zs).flatten) (to:=.row e sz (List.replicate n ((zs.map cv0).map C.can)))
   ⟨rfl,rfl,by simp,⟨Nat.le_of_ble_eq_true h3,_,_,rfl,fun e => (by cases e)⟩,hrow _ rfl⟩
  exact ⟨_,_,h3.put (c:=.rw k) (relV_rw (by rw [Loc.get_set,if_pos rfl])) (some k),h⟩
 case callD f args =>
  simp only [evalTOp,fT_eq,fl_eq,fca_eq] at h
  simp only [evalOp]
  refine CallDPt.imp' (sim_callD ht (evals_rel he args) h) ?_
  rintro F' L' v ⟨M',τ',c,h1,h2,h3⟩
  exact h1.kput h2 h3
 case callVD f args =>
  simp only [evalTOp,fT_eq,fl_eq,fca_eq] at h
  simp only [evalOp]
  split at h
  ·rename_i f' fi ca hx
   obtain ⟨fi',ca',e1,h1,h2⟩:=inv_fn he hx
   rw [e1]
   refine CallDPt.imp' (sim_callD ht (conc_vals he h1 h2 args) h) ?_
   rintro F' L' v ⟨M',τ',c,h1,h2,h3⟩
   exact h1.kput h2 h3
  ·rename_i nm c hx
   split at h
   case h_2 => exact h.elim
   rename_i t c
   obtain ⟨u,e1,hr⟩:=inv_mval he hx
   simp only [Rel] at hr
   obtain ⟨u',rfl,hu⟩:=hr
   obtain ⟨f',hm,h⟩:=h
   have e2:fnOf P (ev ρ f) = some (f',[u'],[]):=by rw [e1]; simp only [fnOf,hm]
   rw [e2]
   have hargs:Rels F L (c :: evalsT τ args) ([u'] ++ evals L ρ args ++ []):=by
    rw [List.append_nil]
    simp only [List.cons_append,List.nil_append,Rels]
    exact ⟨_,_,rfl,hu.lift,evals_rel he args⟩
   refine CallDPt.imp' (sim_callD ht hargs h) ?_
   rintro F' L' v ⟨M',τ',c,h1,h2,h3⟩
   exact h1.kput h2 h3
  ·exact h.elim
 case callO f args =>
  simp only [evalTOp,fT_eq,fl_eq,fca_eq] at h
  simp only [evalOp]
  obtain ⟨ks,ko,Lin,R,h1,h2,h3,h4,h5,h6,h7⟩:=h
  refine CallPt.imp (sim_call0 (K:=fun M' τ' v => K M' (tput d v τ')) ht (evals_rel he args) h1 h2 h3 h4 h5 h6 h7) ?_
  rintro F' L' v ⟨M',τ',c,h1,h2,h3⟩ _
  exact h1.kput h2 h3
 case callVO f args =>
  simp only [evalTOp,fT_eq,fl_eq,fca_eq] at h
  simp only [evalOp]
  split at h
  case h_2 => exact h.elim
  rename_i f' fi ca hx
  obtain ⟨fi',ca',e1,g1,g2⟩:=inv_fn he hx
  rw [e1]
  obtain ⟨ks,ko,Lin,R,h1,h2,h3,h4,h5,h6,h7⟩:=h
  refine CallPt.imp (sim_call0 (K:=fun M' τ' v => K M' (tput d v τ')) ht (conc_vals he g1 g2 args) h1 h2 h3 h4 h5 h6 h7) ?_
  rintro F' L' v ⟨M',τ',c,h1,h2,h3⟩ _
  exact h1.kput h2 h3
 case look x i =>
  simp only [evalTOp] at h
  simp only [evalOp]
  split at h
  case h_2 => exact h.elim
  rename_i k n hx hi
  split at h
  case h_2 => exact h.elim
  rename_i r b hl
  obtain ⟨mv,e1,hm⟩:=inv_opq he hx
  obtain ⟨e2,_⟩:=inv_int he hi
  rw [e1,e2]
  refine ⟨k,r,b,hm,hl,ht.kput (c:=.tup [.int .i64 r,.bool b]) ⟨_,rfl,?_⟩ h⟩
  simp only [Rel,Rels]
  exact ⟨_,rfl,_,_,rfl,⟨rfl,opq_look_wf hl⟩,_,_,rfl,rfl,rfl⟩
 case app => exact sim_app ht h
 case appX => exact sim_appX ht h
 case appD => exact sim_appD ht h
 case appS => exact sim_appS ht h
 case appZ => exact sim_appZ ht h
 case mkmap =>
  simp only [evalTOp] at h
  simp only [evalOp]
  split at h
  case h_2 => exact h.elim
  rename_i k
  split at h
  case h_2 => exact h.elim
  rename_i hk
  have hk':=tl_none ht.tl hk
  simp only [hk']
  intro g
  have h1:=ht.new (Frz.le_refl F) hk' (o:=.box g 0 []) (to:=.map []) ⟨rfl,rfl⟩
  exact ⟨_,_,h1.put (c:=.mpr k) (sv:=.v (.map (some g))) ⟨_,rfl,by simp only [Rel]; exact ⟨g,[],by rw [Loc.get_set,if_pos rfl],rfl⟩⟩ (some k),h⟩
 case mrange => exact h.elim
 case mnext => exact h.elim
 case mentry => exact h.elim
 case mupd str x i v =>
  simp only [evalTOp] at h
  simp only [evalOp]
  split at h
  case h_2 => exact h.elim
  rename_i k hx
  split at h
  case h_2 => exact h.elim
  rename_i es hk hkey hok hp
  obtain ⟨es',hset,h⟩:=h
  obtain ⟨g,cs,e1,e2⟩:=inv_mpr he hx
  obtain ⟨g',vs,e3,hE⟩:=tl_map ht.tl hk
  rw [e2] at e3
  injection e3 with e3
  injection e3 with q1 q2 q3
  subst q1 q3
  rw [e1]
  have hkr:Rel F [] (evT τ i) (val L ρ i) ∧ keySame str (val L ρ i) (val L ρ i) = some true:=by
   rcases key_inv hkey with ⟨n,rfl,e⟩ | ⟨t,rfl,e⟩
   ·obtain ⟨e2,w⟩:=inv_int he e
    simp only [e,val,e2,conc,Rel,keySame,decide_true]
    exact ⟨⟨trivial,w⟩,trivial⟩
   ·obtain ⟨e2,w⟩:=inv_str he e
    simp only [e,val,e2,conc,Rel,keySame,decide_true]
    exact ⟨⟨trivial,w⟩,trivial⟩
  have hvr:Rel F [] ((evT τ v).cel.canA) (val L ρ v):=by
   have hcs:=vals_cells he hok
   have hcp:=pures_rel (L':=[]) hp hcs
   exact pure_canA (val_rel he v) hp
  obtain ⟨cs',hset',hE'⟩:=set_rel hkr.1 hvr hE hset
  refine ⟨k,cs,e2,hE.isMap,hkr.2,cs',hset',?_⟩
  have h4:=ht.turn (o':=.box g 0 cs') (to:=.map es') e2 ⟨rfl,rfl⟩ (fun g' t' cs2 e => by injection e with a b c; subst a b; exact ⟨_,rfl⟩) (fun _ _ => ⟨rfl,hE'⟩)
  exact h4.kput (c:=.und) (sv:=.v undef) ⟨_,rfl,by simp only [Rel]⟩ h
 case copy => exact h.elim
 case copyX => exact h.elim
 case storeX n a x => exact store_X (sim_store ht h)
 all_goals
  simp only [evalTOp,fT_eq,fl_eq,fca_eq] at h
  simp only [evalOp]
  exact simOut (d:=d) (K:=K) ht h
end
end Go.Fr.T
