/- Part of the proofs of the statements of this seat. -/
import Derived.Test.YtfkgdgfmkocloaaGreatDoorFW2
import Derived.Test.YtfkgdgfmkocloaaGreatDoorFW1
import Derived.ChangeArms
import Derived.DataReads
import Derived.Carry
import Derived.ChangeSame
import Derived.WalkKit
import Derived.ProofKit
import Derived.OpenShut
set_option maxRecDepth 10000
set_option linter.unusedVariables false
set_option linter.unusedSimpArgs false
namespace Go.Fr.T
open Go Go.RowKit Go.Fr
section
variable {P:Program} {L:TL} {ρ:TEnv}
def Ret (Lo:List TO) (x:C):List TO → C → Prop:=fun Mo v => Mo = Lo ∧ v = x
theorem callP {f:Nat} {args args':List C} {K:TL → TEnv → C → Prop} {x:C} (h:CallsT P f args' [] (Ret [] x)) (ha:(args.map fun c => c.canA.ren (toIn [] 1000)) = args') (k:Wf x → K L ρ (x.ren (fromIn [])).slt):CallT P f args L ρ K:=by
 subst ha
 exact ⟨[],[],[],L,[],_,.inl rfl,rfl,rfl,rfl,rfl,rfl,h,fun v Mo ⟨e1,e2⟩ hw _ => by subst e1 e2; exact ⟨rfl,k hw⟩⟩
theorem callPD {f:Nat} {args args':List C} {K:TL → TEnv → C → Prop} {d:Option Nat} {x:C} (h:CallsT P f args' [] (Ret [] x)) (ha:(args.map fun c => c.canA.ren (toIn [] 1000)) = args') (k:Wf x → K L ρ x.slt):CallDT P f args L ρ d K:=by
 subst ha
 exact .frz _ h fun v Mo ⟨e1,e2⟩ hw => by subst e1 e2; exact ⟨rfl,k hw⟩
theorem callO (ks ko:List Nat) {f:Nat} {args args':List C} {K:TL → TEnv → C → Prop} {x:C} {Lin Lin' Lo:List TO} (h:CallsT P f args' Lin' (Ret Lo x)) (hs:L.sub ks = some Lin)
  (hc:(nodup? ks && nodup? ko && koOk L ks ko && boxesAt Lin ks ko) = true) (ha:(args.map fun c => c.canA.ren (toIn ks 1000)) = args') (hl:Lin.map (TO.mapC (C.ren (toIn ks 1000))) = Lin') (hn:ko.length = Lo.length)
  (k:Wf x → (∀ o ∈ Lo,o.Wf) → K (((L.dels ks).kills (rowsOf L ks)).puts ko (Lo.map (TO.mapC (C.ren (fromIn ko))))) (killsE (rowsOf L ks) ρ) (x.ren (fromIn ko)).slt):CallT P f args L ρ K:=by
 subst ha hl
 simp only [Bool.and_eq_true] at hc
 obtain ⟨⟨⟨c1,c2⟩,c3⟩,c4⟩:=hc
 exact ⟨[],ks,ko,L,Lin,_,.inl rfl,hs,c1,c2,c3,c4,h,fun v Mo ⟨e1,e2⟩ hw hwo => by subst e1 e2; exact ⟨hn,k hw hwo⟩⟩
theorem callOD (ks ko:List Nat) {f:Nat} {args args':List C} {K:TL → TEnv → C → Prop} {x:C} {Lin Lin' Lo:List TO} (h:CallsT P f args' Lin' (Ret Lo x)) (hs:L.sub ks = some Lin)
  (hc:(nodup? ks && nodup? ko && koOk L ks ko && boxesAt Lin ks ko) = true) (ha:(args.map fun c => c.canA.ren (toIn ks 1000)) = args') (hl:Lin.map (TO.mapC (C.ren (toIn ks 1000))) = Lin') (hn:ko.length = Lo.length)
  (k:Wf x → (∀ o ∈ Lo,o.Wf) → K (((L.dels ks).kills (rowsOf L ks)).puts ko (Lo.map (TO.mapC (C.ren (fromIn ko))))) (killsE (rowsOf L ks) ρ) (x.ren (fromIn ko)).slt):CallT0 P f args L ρ K:=by
 subst ha hl
 simp only [Bool.and_eq_true] at hc
 obtain ⟨⟨⟨c1,c2⟩,c3⟩,c4⟩:=hc
 exact ⟨ks,ko,Lin,_,hs,c1,c2,c3,c4,h,fun v Mo ⟨e1,e2⟩ hw hwo => by subst e1 e2; exact ⟨hn,k hw hwo⟩⟩
theorem callF (fz ks ko:List Nat) {f:Nat} {args args':List C} {K:TL → TEnv → C → Prop} {x:C} {Lo Lin':List TO} (h:CallsT P f args' Lin' (Ret Lo x))
  (hf:frzK fz L ρ args fun L ρ args => ∃ Lin,L.sub ks = some Lin ∧ (nodup? ks && nodup? ko && koOk L ks ko && boxesAt Lin ks ko) = true ∧ (args.map fun c => c.canA.ren (toIn ks 1000)) = args' ∧ Lin.map (TO.mapC (C.ren (toIn ks 1000))) = Lin' ∧ ko.length = Lo.length ∧
   (Wf x → (∀ o ∈ Lo,o.Wf) → K (((L.dels ks).kills (rowsOf L ks)).puts ko (Lo.map (TO.mapC (C.ren (fromIn ko))))) (killsE (rowsOf L ks) ρ) (x.ren (fromIn ko)).slt)):CallT P f args L ρ K:=by
 refine ⟨fz,ks,ko,?_⟩
 refine frzK_imp hf ?_
 rintro L ρ args ⟨Lin,hs,hc,rfl,rfl,hn,k⟩
 simp only [Bool.and_eq_true] at hc
 obtain ⟨⟨⟨c1,c2⟩,c3⟩,c4⟩:=hc
 exact ⟨L,Lin,_,.inl rfl,hs,c1,c2,c3,c4,h,fun v Mo ⟨e1,e2⟩ hw hwo => by subst e1 e2; exact ⟨hn,k hw hwo⟩⟩
where
 frzK_imp:∀ {fz:List Nat} {L:TL} {ρ:TEnv} {args:List C} {K K':TL → TEnv → List C → Prop},frzK fz L ρ args K → (∀ L ρ args,K L ρ args → K' L ρ args) → frzK fz L ρ args K'
  | [],L,ρ,args,K,K',h,hk => hk _ _ _ h
  | k :: fz,L,ρ,args,K,K',h,hk => by
   simp only [frzK] at h ⊢
   generalize L.get k = z at h ⊢
   split at h
   ·exact frzK_imp h hk
   ·exact h.elim
theorem retP {Lin:List TO} {v x:C} (hb:boxesAt Lin (List.range' 1000 Lin.length) [] = true) (e:v.canR.ren (toIn [] 1000) = x):RetT Lin L v (Ret [] x) :=
 ⟨[],[],L,v,v,[],rfl,.inl ⟨rfl,rfl⟩,rfl,rfl,hb,fun _ => ⟨rfl,e⟩⟩
theorem retO (ko:List Nat) {Lin Mo Lo:List TO} {v x:C} (hs:L.sub ko = some Mo) (hc:(nodup? ko && boxesAt Lin (List.range' 1000 Lin.length) ko) = true) (hl:Mo.map (TO.mapC (C.ren (toIn ko 1000))) = Lo) (e:v.canR.ren (toIn ko 1000) = x):RetT Lin L v (Ret Lo x):=by
 simp only [Bool.and_eq_true] at hc
 exact ⟨[],ko,L,v,v,Mo,rfl,.inl ⟨rfl,rfl⟩,hs,hc.1,hc.2,fun _ => ⟨hl,e⟩⟩
theorem retN (k t sz:Nat) {Lin:List TO} (hn:L = []) (hb:boxesAt Lin (List.range' 1000 Lin.length) [k] = true):RetT Lin L .nils (Ret [.row t sz []] (.rw 1000)):=by
 subst hn
 have hk:Nat.beq k k = true:=by simp
 refine ⟨[],[k],[(k,.row t sz [])],.nils,.rw k,[.row t sz []],rfl,.inr ⟨⟨.inr ⟨rfl,t,sz,rfl⟩,trivial⟩,.inr (.inr (.inr (.inl ⟨rfl,k,t,sz,rfl,rfl,?_⟩)))⟩,?_,rfl,hb,fun _ => ⟨rfl,?_⟩⟩
 ·simp only [TL.get,hk]
 ·simp only [TL.sub,TL.get,hk]
 ·simp only [C.canR,C.ren,C.mp,renLeaf,toIn,hk]
theorem retF (fz ko:List Nat) {Lin Lo:List TO} {v x:C} (hf:frzK fz L (fun _ => .any) [v] fun L _ vs => ∃ c Mo,vs = [c] ∧ L.sub ko = some Mo ∧ (nodup? ko && boxesAt Lin (List.range' 1000 Lin.length) ko) = true ∧ Mo.map (TO.mapC (C.ren (toIn ko 1000))) = Lo ∧ c.canR.ren (toIn ko 1000) = x):RetT Lin L v (Ret Lo x):=by
 refine ⟨fz,ko,?_⟩
 refine callF.frzK_imp hf ?_
 rintro L ρ vs ⟨c,Mo,rfl,hs,hc,hl,e⟩
 simp only [Bool.and_eq_true] at hc
 exact ⟨L,c,c,Mo,rfl,.inl ⟨rfl,rfl⟩,hs,hc.1,hc.2,fun _ => ⟨hl,e⟩⟩
theorem loopN {β:Type} {body:TL → TEnv → TK → Prop} {asg:List Nat} (n:Nat) (ki:Nat) (ls:List Nat) (s0:β) (lv:β → List C) (Lf:β → TL) (Inv:Nat → β → Prop) (h0:Inv 0 s0) (hk:leC L (Lf s0) (ρ ki) (.int .i64 0)) (hh:holdsT L (Lf s0) ls (lv s0) ρ)
  (hg:gives L (Lf s0) (Lf s0)) (hb:∀ s,keepsT L (Lf s) = true) (hl:∀ s,(lv s).length = ls.length)
  (h:∀ (k:Nat) s,k ≤ n → Inv k s → WfS (lv s) → (∀ j o,(Lf s).get j = some o → o.Wf) → (k:Int) ≤ 9223372036854775807 → body (Lf s) (putsT (ki :: ls) (.int .i64 k :: lv s) (headE asg ρ)) fun L' ρ' =>
   ∃ x':Nat × β,(x'.1 ≤ n ∧ Inv x'.1 x'.2) ∧ holdsT L' (Lf x'.2) (ki :: ls) (.int .i64 x'.1 :: lv x'.2) ρ' ∧ gives L' (Lf x'.2) (Lf x'.2) ∧ n - x'.1 < n - k):LoopT body asg L ρ:=by
 refine ⟨Nat × β,(0,s0),fun x => x.1 ≤ n ∧ Inv x.1 x.2,ki :: ls,fun x => .int .i64 x.1 :: lv x.2,fun x => Lf x.2,fun x => n - x.1,⟨Nat.zero_le _,h0⟩,⟨hk,hh⟩,hg,fun x => hb x.2,fun x => by simp [hl],?_⟩
 rintro ⟨k,s⟩ ⟨hkn,hi⟩ hw hwo
 simp only [WfS,Wf] at hw
 exact h k s hkn hi hw.2 hwo (wf_i64 hw.1).2
theorem nextI {L1:TL} {k:Nat}:leC L L1 (.int .i64 ((k:Int) + 1)) (.int .i64 ((k + 1:Nat):Int)):=.inr (.inl ⟨rfl,rfl⟩)
theorem nextM {n k:Nat} (h:k < n):n - (k + 1) < n - k:=by omega
theorem wf_len {els:List (List C)} (h:Wf (.sl els)):els.length ≤ 9223372036854775807:=by simp only [Wf,maxLen] at h; omega
theorem wf_lenM {α:Type} {f:α → List C} {l:List α} (h:Wf (.sl (l.map f))):l.length ≤ 9223372036854775807:=by have:=wf_len h; simpa using this
theorem wf_lenB {bs:List UInt8} (h:Wf (.sl (bcells bs))):bs.length ≤ 9223372036854775807:=wf_lenM h
theorem idxT {α:Type} {f:α → List C} {l:List α} {k sz:Nat} {x:α} {es:List C} {K:List C → Prop} (hx:l[k]? = some x) (he:f x = es) (hl:lenC? es sz = true) (h:K es):IdxT (l.map f) (k:Int) sz K :=
 ⟨es,by omega,by simp [hx,he],hl,h⟩
theorem idxB {bs:List UInt8} {k:Nat} {x:UInt8} {K:List C → Prop} (hx:bs[k]? = some x) (h:K [bcell x]):IdxT (bcells bs) (k:Int) 1 K :=
 ⟨[bcell x],by omega,by simp [bcells,hx],rfl,h⟩
theorem WfSS_iff:∀ {l:List (List C)},WfSS l ↔ ∀ es ∈ l,WfS es
 | [] => by simp [WfSS]
 | es :: l => by simp [WfSS,WfSS_iff]
theorem same_keys {L1:TL} {c:C} (h:hasKeysA L1 3 c = true):leC L L1 c c:=.inr (.inl ⟨rfl,h⟩)
theorem drop_cons {α:Type} {l:List α} {k:Nat} (h:k < l.length):∃ x,l[k]? = some x ∧ l.drop k = x :: l.drop (k + 1):=⟨l[k],by simp [h],List.drop_eq_getElem_cons h⟩
theorem drop_end {α:Type} {l:List α} {k:Nat} (h:¬ k < l.length):l.drop k = []:=List.drop_eq_nil_iff.2 (by omega)
theorem panT {PS:Value → Prop} {c:C} {v:Value} (hv:ifcV c = some v) (h:PS v):PanT PS c:=⟨v,hv,h⟩
end
end Go.Fr.T
namespace Go.Fr
open Go Go.RowKit
mutual
def G.bulk:G → Nat
 | .int _ _ => 1
 | .bool _ => 1
 | .str s => s.size + 1
 | .sl _ l => G.bulkAll l + 1
 | .st l => G.bulkAll l + 1
def G.bulkAll:List G → Nat
 | [] => 0
 | x :: l => G.bulk x + G.bulkAll l
end
mutual
def bulkD {H:Type}:DataW H → Nat
 | .lit (.string bytes) => bytes.length + 1
 | .lit _ => 1
 | .nil => 1
 | .ptr d => bulkD d + 1
 | .slice elems spare => bulkDAll elems + bulkDAll spare + 1
 | .agg parts => bulkDAll parts + 1
 | .iface _ d => bulkD d + 1
 | .map entries => bulkDEntries entries + 1
 | .held _ => 1
def bulkDAll {H:Type}:List (DataW H) → Nat
 | [] => 0
 | d :: r => bulkD d + bulkDAll r
def bulkDEntries {H:Type}:List (Lit × DataW H) → Nat
 | [] => 0
 | x :: r => bulkDEntry x + bulkDEntries r
def bulkDEntry {H:Type}:Lit × DataW H → Nat
 | (.string bytes,d) => bytes.length + bulkD d + 1
 | (_,d) => bulkD d + 1
end
def Ok (P:Program):Nat → TypeId → G → Prop
 | 0,_,_ => False
 | n + 1,t,g => match P.underlying t with
  | some .bool => ∃ b,g = .bool b
  | some (.int k) => ∃ x,g = .int k x ∧ (Lit.int k x).wf = true
  | some .string => ∃ s,g = .str s
  | some (.slice e) => ∃ l,g = .sl (P.cellsOf e) l ∧ ∀ x ∈ l,Ok P n e x
  | some (.struct fs) => ∃ l,g = .st l ∧ l.length = fs.size ∧ ∀ (i:Nat) (f:Field) (x:G),fs[i]? = some f → l[i]? = some x → Ok P n f.type x
  | _ => False
def contig (P:Program):Nat → List Field → Nat → Bool
 | o,[],n => Nat.beq o n
 | o,f :: fs,n => Nat.beq f.offset o && contig P (o + P.cellsOf f.type) fs n
def flatT (P:Program) (S:List TypeId) (t:TypeId):Bool :=
 match P.underlying t with
 | some .bool => true
 | some (.int _) => true
 | some .string => true
 | some (.slice e) => mem? S e && Nat.blt 0 (P.cellsOf e)
 | some (.struct fs) => contig P 0 fs.toList (P.cellsOf t) && fs.toList.all fun f => mem? S f.type
 | _ => false
def flat (P:Program) (S:List TypeId):Bool:=S.all (flatT P S)
theorem choose_list {Q:Nat → G → Prop}:∀ (n:Nat),(∀ i,i < n → ∃ g,Q i g) → ∃ l:List G,l.length = n ∧ ∀ i g,l[i]? = some g → Q i g
 | 0,_ => ⟨[],rfl,fun i g h => by simp at h⟩
 | n + 1,h => by
  obtain ⟨l,h1,h2⟩:=choose_list n (fun i hi => h i (by omega))
  obtain ⟨g,hg⟩:=h n (by omega)
  refine ⟨l ++ [g],by simp [h1],fun i x hx => ?_⟩
  by_cases hi:i < l.length
  ·rw [List.getElem?_append_left hi] at hx; exact h2 i x hx
  ·rw [List.getElem?_append_right (by omega)] at hx
   have:i - l.length = 0:=by
    cases e:i - l.length with
    | zero => rfl
    | succ k => rw [e] at hx; simp at hx
   rw [this] at hx
   simp only [List.getElem?_cons_zero,Option.some.injEq] at hx
   subst hx
   have:i = n:=by omega
   subst this
   exact hg
theorem bulkAll_le {H:Type}:∀ {l:List G} {ds:List (DataW H)},l.length = ds.length → (∀ (i:Nat) g d,l[i]? = some g → ds[i]? = some d → g.bulk ≤ bulkD d) → G.bulkAll l ≤ bulkDAll ds
 | [],_,_,_ => by simp [G.bulkAll]
 | x :: l,[],h,_ => by simp at h
 | x :: l,d :: ds,h,hb => by
  simp only [G.bulkAll,bulkDAll]
  have h1:=hb 0 x d (by simp) (by simp)
  have h2:=bulkAll_le (l:=l) (ds:=ds) (by simpa using h) (fun i g d' hg hd => hb (i + 1) g d' (by simpa using hg) (by simpa using hd))
  omega
section
variable {H:Type} {enc:TypeId × Value → H} {P:Program} {w:World} {base:Nat} {spare:Nat → Bool} {held:Bool}
def frzOf (w:World):Frz:=fun b => w.heap[b]?
theorem fcells_of {a:Addr} {n:Nat} {cs:List Value} (h:w.cells? base a n = some cs) (hn:0 < n):cs.length = n ∧ FCells (frzOf w) (some a) 0 cs:=by
 obtain ⟨_,hlen,hc⟩:=World.cells?_some h
 refine ⟨hlen,?_⟩
 have h0:=hc 0 hn
 rw [List.getElem?_eq_getElem (by omega)] at h0
 have hspot:a.spot = none:=by simpa [Addr.add] using World.cell?_spot h0
 have hblk:∃ arr t fr,w.heap[a.block]? = some (.cells arr t fr):=by
  simp only [World.cell?,Addr.add] at h0
  split at h0
  ·rename_i c t fr e; exact ⟨c,t,fr,e⟩
  ·cases h0
 obtain ⟨arr,t,fr,hb⟩:=hblk
 refine ⟨a,arr,t,fr,rfl,hb,hspot,fun i v hv => ?_⟩
 have hi:i < n:=by rw [← hlen]; exact (List.getElem?_eq_some_iff.1 hv).1
 have:=hc i hi
 obtain ⟨b,o,sp⟩:=a
 simp only at hspot
 subst hspot
 rw [hv,add_none] at this
 simp only [World.cell?] at this
 simp only at hb
 rw [hb] at this
 simpa using this
theorem fcells_shift {F:Frz} {a:Addr} {n:Nat} {cs:List Value} (hs:a.spot = none) (h:FCells F (some (a.add n)) 0 cs):FCells F (some a) n cs:=by
 obtain ⟨b,o,sp⟩:=a
 simp only at hs
 subst hs
 rw [add_none] at h
 obtain ⟨ad,arr,t,fr,e,hb,hsp,hc⟩:=h
 injection e with e
 subst e
 exact ⟨_,arr,t,fr,rfl,hb,rfl,fun i v hv => by have:=hc i v hv; simpa [Nat.add_assoc] using this⟩
theorem fcells_spot {F:Frz} {a:Addr} {cs:List Value} (h:FCells F (some a) 0 cs):a.spot = none:=by
 obtain ⟨ad,arr,t,fr,e,hb,hsp,hc⟩:=h
 injection e with e
 subst e
 exact hsp
theorem trod_rd {S:List TypeId} (hS:flat P S = true):∀ (fuel:Nat) (t:TypeId) (cs:List Value) (x:DataW H × List MemPlace),t ∈ S → DataW.trod enc P w base spare held fuel t cs = some x →
  ∃ g,Ok P fuel t g ∧ Rd (frzOf w) g cs ∧ g.bulk ≤ bulkD x.1:=by
 intro fuel
 induction fuel with
 | zero => intro t cs x _ h; simp [DataW.trod] at h
 | succ n ih =>
  intro t cs x ht h
  have hf:=List.all_eq_true.1 hS t ht
  simp only [flatT] at hf
  split at hf
  ·rename_i hu
   obtain ⟨b,rfl,rfl⟩:=DataW.trod_bool hu h
   exact ⟨.bool b,by simp [Ok,hu],by simp [Rd],by simp [G.bulk,bulkD]⟩
  ·rename_i k hu
   obtain ⟨m,rfl,rfl,hw⟩:=DataW.trod_int hu h
   exact ⟨.int k m,by simp [Ok,hu,hw],by simp [Rd,hw],by simp [G.bulk,bulkD]⟩
  ·rename_i hu
   obtain ⟨s,rfl,rfl,hw⟩:=DataW.trod_string hu h
   exact ⟨.str s,by simp [Ok,hu],by simp [Rd],by simp [G.bulk,bulkD]⟩
  ·rename_i e hu
   simp only [Bool.and_eq_true] at hf
   have he:e ∈ S:=mem?_eq.1 hf.1
   have hpos:0 < P.cellsOf e:=by simpa using hf.2
   rcases DataW.trod_slice hu h with ⟨rfl,rfl⟩ | ⟨a,len,cap,elems,rest,m,e1,rfl,rfl,hb,hl,hm,hlen,hel,_,_⟩
   ·refine ⟨.sl (P.cellsOf e) [],by simp [Ok,hu],?_,by simp [G.bulk,G.bulkAll,bulkD]⟩
    rw [Rd_sl]
    exact ⟨none,0,rfl,by simp,by simp,fun _ => ⟨rfl,rfl⟩,fun j x hx => by simp at hx⟩
   ·obtain rfl:m = n:=by omega
    have hspot:0 < len → a.spot = none:=by
     intro h0
     have h1:=hel 0 h0
     rw [List.getElem?_eq_getElem (by omega)] at h1
     obtain ⟨es,h2,h3⟩:=Option.bind_eq_some_iff.1 h1
     have:=fcells_spot (fcells_of h2 hpos).2
     simpa [Addr.add] using this
    obtain ⟨l,hl1,hl2⟩:=choose_list (Q:=fun i g => Ok P m e g ∧ (∃ es,es.length = P.cellsOf e ∧ FCells (frzOf w) (some a) (i * P.cellsOf e) es ∧ Rd (frzOf w) g es) ∧ ∀ y,elems[i]? = some y → g.bulk ≤ bulkD y.1) len (by
     intro i hi
     have h1:=hel i hi
     rw [List.getElem?_eq_getElem (by omega)] at h1
     obtain ⟨es,h2,h3⟩:=Option.bind_eq_some_iff.1 h1
     obtain ⟨g,g1,g2,g3⟩:=ih e es _ he h3
     obtain ⟨g4,g5⟩:=fcells_of h2 hpos
     refine ⟨g,g1,⟨es,g4,fcells_shift (hspot (by omega)) g5,g2⟩,fun y hy => ?_⟩
     rw [List.getElem?_eq_getElem (by omega)] at hy
     injection hy with hy
     subst hy
     exact g3)
    refine ⟨.sl (P.cellsOf e) l,?_,?_,?_⟩
    ·simp only [Ok,hu]
     refine ⟨l,rfl,fun x hx => ?_⟩
     obtain ⟨i,hi⟩:=List.mem_iff_getElem?.1 hx
     exact (hl2 i x hi).1
    ·rw [Rd_sl]
     exact ⟨some a,cap,by rw [hl1],by omega,hm,fun e => (by cases e),fun j x hx => (hl2 j x hx).2.1⟩
    ·simp only [G.bulk,bulkD]
     have:=bulkAll_le (l:=l) (ds:=elems.map (·.1)) (by simp [hl1,hlen]) (fun i g d hg hd => by
      simp only [List.getElem?_map,Option.map_eq_some_iff] at hd
      obtain ⟨y,hy,rfl⟩:=hd
      exact (hl2 i g hg).2.2 y hy)
     omega
  ·rename_i fs hu
   simp only [Bool.and_eq_true] at hf
   obtain ⟨hcont,hall⟩:=hf
   obtain ⟨xs,m,e1,rfl,hlen,hxl,hfs⟩:=DataW.trod_struct hu h
   obtain rfl:m = n:=by omega
   have key:∀ (fl:List Field) (ys:List (DataW H × List MemPlace)) (o:Nat),contig P o fl (P.cellsOf t) = true → ys.length = fl.length → (∀ f ∈ fl,f.type ∈ S) →
     (∀ (i:Nat) f,fl[i]? = some f → DataW.trod enc P w base spare held m f.type ((cs.drop f.offset).take (P.cellsOf f.type)) = ys[i]?) →
     ∃ l,l.length = fl.length ∧ (∀ (i:Nat) f g,fl[i]? = some f → l[i]? = some g → Ok P m f.type g) ∧ RdAll (frzOf w) l (cs.drop o) ∧ G.bulkAll l ≤ bulkDAll (ys.map (·.1)):=by
    intro fl
    induction fl with
    | nil =>
     intro ys o hc _ _ _
     simp only [contig] at hc
     have:=Nat.eq_of_beq_eq_true hc
     refine ⟨[],rfl,fun i f g h => by simp at h,?_,by simp [G.bulkAll]⟩
     simp only [RdAll]
     rw [List.drop_eq_nil_iff]; omega
    | cons f fl ihf =>
     intro ys o hc hy hmem hfs
     simp only [contig,Bool.and_eq_true] at hc
     have hoff:=Nat.eq_of_beq_eq_true hc.1
     match ys,hy with
     | y :: ys,hy =>
      have h0:=hfs 0 f (by simp)
      simp only [List.getElem?_cons_zero] at h0
      obtain ⟨g,g1,g2,g3⟩:=ih f.type _ _ (hmem f (by simp)) h0
      obtain ⟨l,l1,l2,l3,l4⟩:=ihf ys (o + P.cellsOf f.type) hc.2 (by simpa using hy) (fun f' hf' => hmem f' (by simp [hf'])) (fun i f' hf' => by
       have:=hfs (i + 1) f' (by simpa using hf')
       simpa using this)
      refine ⟨g :: l,by simp [l1],fun i f' g' hf' hg' => ?_,?_,?_⟩
      ·cases i with
       | zero => simp only [List.getElem?_cons_zero,Option.some.injEq] at hf' hg'; subst hf'; subst hg'; exact g1
       | succ i => exact l2 i f' g' (by simpa using hf') (by simpa using hg')
      ·simp only [RdAll]
       refine ⟨(cs.drop o).take (P.cellsOf f.type),cs.drop (o + P.cellsOf f.type),?_,by rw [← hoff]; exact g2,l3⟩
       rw [← List.drop_drop,List.take_append_drop]
      ·simp only [G.bulkAll,List.map_cons,bulkDAll]; omega
   obtain ⟨l,l1,l2,l3,l4⟩:=key fs.toList xs 0 hcont (by simp [hxl]) (fun f hf => mem?_eq.1 (List.all_eq_true.1 hall f hf)) (fun i f hi => hfs i f (by simpa using hi))
   refine ⟨.st l,?_,?_,?_⟩
   ·simp only [Ok,hu]
    exact ⟨l,rfl,by simpa using l1,fun i f x hi hx => l2 i f x (by simpa using hi) hx⟩
   ·simp only [Rd]; simpa using l3
   ·simp only [G.bulk,bulkD]; omega
  ·cases hf
end
namespace Api
abbrev I (n:Int):G:=.int .i64 n
inductive Ty where
 | mk (kind id:Int) (args:List Ty)
 deriving Inhabited
def Ty.kind:Ty → Int | .mk k _ _ => k
def Ty.id:Ty → Int | .mk _ i _ => i
def Ty.args:Ty → List Ty | .mk _ _ l => l
mutual
def Ty.g:Ty → G
 | .mk k i l => .st [I k,I i,.sl 3 (Ty.gs l)]
def Ty.gs:List Ty → List G
 | [] => []
 | t :: l => t.g :: Ty.gs l
end
theorem Ty.gs_map:∀ l:List Ty,Ty.gs l = l.map Ty.g
 | [] => rfl
 | t :: l => by simp [Ty.gs,Ty.gs_map l]
structure Bound where
 param:Int
 trait:Int
def Bound.g (b:Bound):G:=.st [I b.param,I b.trait]
structure Term where
 kind:Int
 a:Int
 targets:List Int
def Term.g (x:Term):G:=.st [I x.kind,I x.a,.sl 1 (x.targets.map I)]
structure Ins where
 op:Int
 dst:Int
 a:Int
 b:Int
 n:Int
 args:List Int
 types:List Ty
def Ins.g (x:Ins):G:=.st [I x.op,I x.dst,I x.a,I x.b,I x.n,.sl 1 (x.args.map I),.sl 3 (x.types.map Ty.g)]
structure Block where
 code:List Ins
 fin:Term
def Block.g (x:Block):G:=.st [.sl 7 (x.code.map Ins.g),x.fin.g]
structure Fun where
 name:ByteArray
 module:Int
 params:Int
 bounds:List Bound
 arity:Int
 result:Ty
 locals:List Ty
 blocks:List Block
 ties:List Int
def Fun.g (f:Fun):G:=.st [.str f.name,I f.module,I f.params,.sl 2 (f.bounds.map Bound.g),I f.arity,f.result.g,.sl 3 (f.locals.map Ty.g),.sl 4 (f.blocks.map Block.g),.sl 1 (f.ties.map I)]
structure Variant where
 name:ByteArray
 fields:List Ty
def Variant.g (x:Variant):G:=.st [.str x.name,.sl 3 (x.fields.map Ty.g)]
structure Data where
 name:ByteArray
 module:Int
 params:Int
 variants:List Variant
 drop:Int
def Data.g (d:Data):G:=.st [.str d.name,I d.module,I d.params,.sl 2 (d.variants.map Variant.g),I d.drop]
structure Impl where
 trait:Int
 module:Int
 params:Int
 bounds:List Bound
 type:Ty
 func:Int
def Impl.g (x:Impl):G:=.st [I x.trait,I x.module,I x.params,.sl 2 (x.bounds.map Bound.g),x.type.g,I x.func]
structure Prog where
 modules:List ByteArray
 uses:List (List Int)
 datas:List Data
 traits:List ByteArray
 homes:List Int
 impls:List Impl
 funcs:List Fun
 main:Int
def Prog.g (p:Prog):G:=.st [.sl 1 (p.modules.map .str),.sl 1 (p.uses.map fun l => .sl 1 (l.map I)),.sl 5 (p.datas.map Data.g),.sl 1 (p.traits.map .str),.sl 1 (p.homes.map I),.sl 8 (p.impls.map Impl.g),.sl 11 (p.funcs.map Fun.g),I p.main]
section
variable {F:Frz} {cs:List Value}
end
end Api
end Go.Fr
namespace Go.Fr
open Go Go.RowKit
namespace Api
section
variable {P:Program}
def OkL (P:Program) (n:Nat):List TypeId → List G → Prop
 | [],[] => True
 | t :: ts,x :: l => Ok P n t x ∧ OkL P n ts l
 | _,_ => False
theorem okL_of {n:Nat}:∀ {fl:List Field} {l:List G},l.length = fl.length → (∀ (i:Nat) (f:Field) (x:G),fl[i]? = some f → l[i]? = some x → Ok P n f.type x) → OkL P n (fl.map (·.type)) l
 | [],[],_,_ => trivial
 | [],x :: l,h,_ => by simp at h
 | f :: fl,[],h,_ => by simp at h
 | f :: fl,x :: l,h,hk => ⟨hk 0 f x (by simp) (by simp),okL_of (by simpa using h) fun i f' x' hf hx => hk (i + 1) f' x' (by simpa using hf) (by simpa using hx)⟩
theorem ok_int {n:Nat} {t:TypeId} {g:G} {k:IntKind} (h:P.underlying t = some (.int k)) (hg:Ok P n t g):∃ x,g = .int k x:=by
 cases n with
 | zero => exact hg.elim
 | succ n => simp only [Ok,h] at hg; obtain ⟨x,h1,_⟩:=hg; exact ⟨x,h1⟩
theorem ok_bool {n:Nat} {t:TypeId} {g:G} (h:P.underlying t = some .bool) (hg:Ok P n t g):∃ x,g = .bool x:=by
 cases n with
 | zero => exact hg.elim
 | succ n => simp only [Ok,h] at hg; exact hg
theorem ok_str {n:Nat} {t:TypeId} {g:G} (h:P.underlying t = some .string) (hg:Ok P n t g):∃ x,g = .str x:=by
 cases n with
 | zero => exact hg.elim
 | succ n => simp only [Ok,h] at hg; exact hg
theorem ok_list {α:Type} {f:α → G}:∀ {l:List G},(∀ x ∈ l,∃ y,x = f y) → ∃ l':List α,l = l'.map f
 | [],_ => ⟨[],rfl⟩
 | x :: l,h => by
  obtain ⟨y,rfl⟩:=h x (by simp)
  obtain ⟨l',rfl⟩:=ok_list (l:=l) (fun z hz => h z (by simp [hz]))
  exact ⟨y :: l',rfl⟩
theorem ok_sl' {n:Nat} {t e:TypeId} {g:G} {sz:Nat} {α:Type} {f:α → G} (h:P.underlying t = some (.slice e)) (hsz:P.cellsOf e = sz) (hg:Ok P n t g) (he:∀ m x,m < n → Ok P m e x → ∃ y,x = f y):∃ l:List α,g = .sl sz (l.map f):=by
 cases n with
 | zero => exact hg.elim
 | succ n =>
  simp only [Ok,h] at hg
  obtain ⟨l,rfl,hl⟩:=hg
  obtain ⟨l',rfl⟩:=ok_list (f:=f) (fun x hx => he n x (by omega) (hl x hx))
  exact ⟨l',by rw [hsz]⟩
theorem ok_st {n:Nat} {t:TypeId} {g:G} {fs:Array Field} {ts:List TypeId} (h:P.underlying t = some (.struct fs)) (hts:fs.toList.map (·.type) = ts) (hg:Ok P n t g):∃ m l,m < n ∧ g = .st l ∧ OkL P m ts l:=by
 cases n with
 | zero => exact hg.elim
 | succ n =>
  simp only [Ok,h] at hg
  obtain ⟨l,rfl,hl,hk⟩:=hg
  subst hts
  exact ⟨n,l,by omega,rfl,okL_of (by simpa using hl) fun i f x hf hx => hk i f x (by simpa using hf) hx⟩
def isSt (P:Program) (t:TypeId) (ts:List TypeId):Bool:=match P.underlying t with | some (.struct fs) => decide (fs.toList.map (·.type) = ts) | _ => false
def isSl (P:Program) (t e sz:Nat):Bool:=match P.underlying t with | some (.slice e') => Nat.beq e' e && Nat.beq (P.cellsOf e) sz | _ => false
def isI (P:Program) (t:TypeId):Bool:=match P.underlying t with | some (.int .i64) => true | _ => false
def isS (P:Program) (t:TypeId):Bool:=match P.underlying t with | some .string => true | _ => false
theorem isSt_ok {t:TypeId} {ts:List TypeId} (h:isSt P t ts = true) {n:Nat} {g:G} (hg:Ok P n t g):∃ m l,m < n ∧ g = .st l ∧ OkL P m ts l:=by
 simp only [isSt] at h
 split at h
 ·rename_i fs hu; exact ok_st hu (by simpa using h) hg
 ·cases h
theorem isSl_ok {t e sz:Nat} (h:isSl P t e sz = true) {n:Nat} {g:G} {α:Type} {f:α → G} (hg:Ok P n t g) (he:∀ m x,m < n → Ok P m e x → ∃ y,x = f y):∃ l:List α,g = .sl sz (l.map f):=by
 simp only [isSl] at h
 split at h
 ·rename_i e' hu
  simp only [Bool.and_eq_true] at h
  have h1:=Nat.eq_of_beq_eq_true h.1
  have h2:=Nat.eq_of_beq_eq_true h.2
  subst h1
  exact ok_sl' hu h2 hg he
 ·cases h
theorem isI_ok {t:TypeId} (h:isI P t = true) {n:Nat} {g:G} (hg:Ok P n t g):∃ x,g = I x:=by
 simp only [isI] at h
 split at h
 ·rename_i hu; exact ok_int hu hg
 ·cases h
theorem isS_ok {t:TypeId} (h:isS P t = true) {n:Nat} {g:G} (hg:Ok P n t g):∃ x,g = .str x:=by
 simp only [isS] at h
 split at h
 ·rename_i hu; exact ok_str hu hg
 ·cases h
theorem okL1 {n:Nat} {t1:TypeId} {l:List G} (h:OkL P n [t1] l):∃ a,l = [a] ∧ Ok P n t1 a:=by
 match l,h with
 | [a],h => exact ⟨a,rfl,h.1⟩
theorem okL_cons {n:Nat} {t1:TypeId} {ts:List TypeId} {l:List G} (h:OkL P n (t1 :: ts) l):∃ a r,l = a :: r ∧ Ok P n t1 a ∧ OkL P n ts r:=by
 match l,h with
 | a :: r,h => exact ⟨a,r,rfl,h.1,h.2⟩
theorem ok_ty {t ti ts:TypeId} (hi:isI P ti = true) (ht:isSt P t [ti,ti,ts] = true) (hs:isSl P ts t 3 = true):∀ (n:Nat) (g:G),Ok P n t g → ∃ x:Ty,g = x.g:=by
 intro n
 induction n using Nat.strongRecOn with
 | _ n ih =>
  intro g hg
  obtain ⟨m,l,hm,rfl,hl⟩:=isSt_ok ht hg
  obtain ⟨a,l,rfl,ha,hl⟩:=okL_cons hl
  obtain ⟨b,l,rfl,hb,hl⟩:=okL_cons hl
  obtain ⟨c,rfl,hc⟩:=okL1 hl
  obtain ⟨k,rfl⟩:=isI_ok hi ha
  obtain ⟨i,rfl⟩:=isI_ok hi hb
  obtain ⟨xs,rfl⟩:=isSl_ok hs hc (f:=Ty.g) (fun m' x hm' hx => ih m' (by omega) x hx)
  exact ⟨.mk k i xs,by simp [Ty.g,Ty.gs_map]⟩
structure Ids where
 int:TypeId
 str:TypeId
 ints:TypeId
 strs:TypeId
 intss:TypeId
 ty:TypeId
 tys:TypeId
 bound:TypeId
 bounds:TypeId
 term:TypeId
 ins:TypeId
 inss:TypeId
 block:TypeId
 blocks:TypeId
 func:TypeId
 funcs:TypeId
 variant:TypeId
 variants:TypeId
 data:TypeId
 datas:TypeId
 impl:TypeId
 impls:TypeId
 prog:TypeId
def Ids.tyOk (P:Program) (d:Ids):Bool:=isI P d.int && isSt P d.ty [d.int,d.int,d.tys] && isSl P d.tys d.ty 3
def Ids.funcOk (P:Program) (d:Ids):Bool:=d.tyOk P && isS P d.str && isSl P d.ints d.int 1 && isSt P d.bound [d.int,d.int] && isSl P d.bounds d.bound 2 && isSt P d.term [d.int,d.int,d.ints] &&
 isSt P d.ins [d.int,d.int,d.int,d.int,d.int,d.ints,d.tys] && isSl P d.inss d.ins 7 && isSt P d.block [d.inss,d.term] && isSl P d.blocks d.block 4 &&
 isSt P d.func [d.str,d.int,d.int,d.bounds,d.int,d.ty,d.tys,d.blocks,d.ints]
def Ids.progOk (P:Program) (d:Ids):Bool:=d.funcOk P && isSl P d.strs d.str 1 && isSl P d.intss d.ints 1 && isSt P d.variant [d.str,d.tys] && isSl P d.variants d.variant 2 && isSt P d.data [d.str,d.int,d.int,d.variants,d.int] &&
 isSl P d.datas d.data 5 && isSt P d.impl [d.int,d.int,d.int,d.bounds,d.ty,d.int] && isSl P d.impls d.impl 8 && isSl P d.funcs d.func 11 && isSt P d.prog [d.strs,d.intss,d.datas,d.strs,d.ints,d.impls,d.funcs,d.int]
theorem Ids.func_of {d:Ids} (h:d.progOk P = true):d.funcOk P = true:=by
 simp only [Ids.progOk,Bool.and_eq_true] at h
 exact h.1.1.1.1.1.1.1.1.1.1
theorem Ids.ty_of {d:Ids} (h:d.funcOk P = true):d.tyOk P = true:=by
 simp only [Ids.funcOk,Bool.and_eq_true] at h
 exact h.1.1.1.1.1.1.1.1.1.1
theorem Ids.ty' {d:Ids} (h:d.tyOk P = true) {n:Nat} {g:G} (hg:Ok P n d.ty g):∃ x:Ty,g = x.g:=by
 simp only [Ids.tyOk,Bool.and_eq_true] at h
 exact ok_ty h.1.1 h.1.2 h.2 n g hg
theorem Ids.i {d:Ids} (h:d.tyOk P = true) {n:Nat} {g:G} (hg:Ok P n d.int g):∃ x:Int,g = I x:=by
 simp only [Ids.tyOk,Bool.and_eq_true] at h
 exact isI_ok h.1.1 hg
theorem Ids.tysOk {d:Ids} (h:d.tyOk P = true) {n:Nat} {g:G} (hg:Ok P n d.tys g):∃ x:List Ty,g = .sl 3 (x.map Ty.g):=by
 have h':=h
 simp only [Ids.tyOk,Bool.and_eq_true] at h'
 exact isSl_ok h'.2 hg fun m x _ hx => Ids.ty' h hx
theorem Ids.bnd {d:Ids} (h:d.funcOk P = true) {n:Nat} {g:G} (hg:Ok P n d.bound g):∃ x:Bound,g = x.g:=by
 have hf:=h
 have ht:=Ids.ty_of hf
 have hf':=hf
 simp only [Ids.funcOk,Bool.and_eq_true] at hf'
 obtain ⟨⟨⟨⟨⟨⟨⟨⟨⟨⟨_,k1⟩,k2⟩,k3⟩,k4⟩,k5⟩,k6⟩,k7⟩,k8⟩,k9⟩,k10⟩:=hf'
 obtain ⟨m,l0,hm,rfl,hl0⟩:=isSt_ok k3 hg
 obtain ⟨g0,l1,rfl,e0,hl1⟩:=okL_cons hl0
 obtain ⟨v0,rfl⟩:=Ids.i ht e0
 obtain ⟨g1,rfl,e1⟩:=okL1 hl1
 obtain ⟨v1,rfl⟩:=Ids.i ht e1
 exact ⟨⟨v0,v1⟩,rfl⟩
theorem Ids.trm {d:Ids} (h:d.funcOk P = true) {n:Nat} {g:G} (hg:Ok P n d.term g):∃ x:Term,g = x.g:=by
 have hf:=h
 have ht:=Ids.ty_of hf
 have hf':=hf
 simp only [Ids.funcOk,Bool.and_eq_true] at hf'
 obtain ⟨⟨⟨⟨⟨⟨⟨⟨⟨⟨_,k1⟩,k2⟩,k3⟩,k4⟩,k5⟩,k6⟩,k7⟩,k8⟩,k9⟩,k10⟩:=hf'
 obtain ⟨m,l0,hm,rfl,hl0⟩:=isSt_ok k5 hg
 obtain ⟨g0,l1,rfl,e0,hl1⟩:=okL_cons hl0
 obtain ⟨v0,rfl⟩:=Ids.i ht e0
 obtain ⟨g1,l2,rfl,e1,hl2⟩:=okL_cons hl1
 obtain ⟨v1,rfl⟩:=Ids.i ht e1
 obtain ⟨g2,rfl,e2⟩:=okL1 hl2
 obtain ⟨v2,rfl⟩:=isSl_ok k2 e2 (f:=I) fun m x _ hx => Ids.i ht hx
 exact ⟨⟨v0,v1,v2⟩,rfl⟩
theorem Ids.ins' {d:Ids} (h:d.funcOk P = true) {n:Nat} {g:G} (hg:Ok P n d.ins g):∃ x:Ins,g = x.g:=by
 have hf:=h
 have ht:=Ids.ty_of hf
 have hf':=hf
 simp only [Ids.funcOk,Bool.and_eq_true] at hf'
 obtain ⟨⟨⟨⟨⟨⟨⟨⟨⟨⟨_,k1⟩,k2⟩,k3⟩,k4⟩,k5⟩,k6⟩,k7⟩,k8⟩,k9⟩,k10⟩:=hf'
 obtain ⟨m,l0,hm,rfl,hl0⟩:=isSt_ok k6 hg
 obtain ⟨g0,l1,rfl,e0,hl1⟩:=okL_cons hl0
 obtain ⟨v0,rfl⟩:=Ids.i ht e0
 obtain ⟨g1,l2,rfl,e1,hl2⟩:=okL_cons hl1
 obtain ⟨v1,rfl⟩:=Ids.i ht e1
 obtain ⟨g2,l3,rfl,e2,hl3⟩:=okL_cons hl2
 obtain ⟨v2,rfl⟩:=Ids.i ht e2
 obtain ⟨g3,l4,rfl,e3,hl4⟩:=okL_cons hl3
 obtain ⟨v3,rfl⟩:=Ids.i ht e3
 obtain ⟨g4,l5,rfl,e4,hl5⟩:=okL_cons hl4
 obtain ⟨v4,rfl⟩:=Ids.i ht e4
 obtain ⟨g5,l6,rfl,e5,hl6⟩:=okL_cons hl5
 obtain ⟨v5,rfl⟩:=isSl_ok k2 e5 (f:=I) fun m x _ hx => Ids.i ht hx
 obtain ⟨g6,rfl,e6⟩:=okL1 hl6
 obtain ⟨v6,rfl⟩:=Ids.tysOk ht e6
 exact ⟨⟨v0,v1,v2,v3,v4,v5,v6⟩,rfl⟩
theorem Ids.blk {d:Ids} (h:d.funcOk P = true) {n:Nat} {g:G} (hg:Ok P n d.block g):∃ x:Block,g = x.g:=by
 have hf:=h
 have ht:=Ids.ty_of hf
 have hf':=hf
 simp only [Ids.funcOk,Bool.and_eq_true] at hf'
 obtain ⟨⟨⟨⟨⟨⟨⟨⟨⟨⟨_,k1⟩,k2⟩,k3⟩,k4⟩,k5⟩,k6⟩,k7⟩,k8⟩,k9⟩,k10⟩:=hf'
 obtain ⟨m,l0,hm,rfl,hl0⟩:=isSt_ok k8 hg
 obtain ⟨g0,l1,rfl,e0,hl1⟩:=okL_cons hl0
 obtain ⟨v0,rfl⟩:=isSl_ok k7 e0 (f:=Ins.g) fun m x _ hx => Ids.ins' hf hx
 obtain ⟨g1,rfl,e1⟩:=okL1 hl1
 obtain ⟨v1,rfl⟩:=Ids.trm hf e1
 exact ⟨⟨v0,v1⟩,rfl⟩
theorem Ids.fn {d:Ids} (h:d.funcOk P = true) {n:Nat} {g:G} (hg:Ok P n d.func g):∃ x:Fun,g = x.g:=by
 have hf:=h
 have ht:=Ids.ty_of hf
 have hf':=hf
 simp only [Ids.funcOk,Bool.and_eq_true] at hf'
 obtain ⟨⟨⟨⟨⟨⟨⟨⟨⟨⟨_,k1⟩,k2⟩,k3⟩,k4⟩,k5⟩,k6⟩,k7⟩,k8⟩,k9⟩,k10⟩:=hf'
 obtain ⟨m,l0,hm,rfl,hl0⟩:=isSt_ok k10 hg
 obtain ⟨g0,l1,rfl,e0,hl1⟩:=okL_cons hl0
 obtain ⟨v0,rfl⟩:=isS_ok k1 e0
 obtain ⟨g1,l2,rfl,e1,hl2⟩:=okL_cons hl1
 obtain ⟨v1,rfl⟩:=Ids.i ht e1
 obtain ⟨g2,l3,rfl,e2,hl3⟩:=okL_cons hl2
 obtain ⟨v2,rfl⟩:=Ids.i ht e2
 obtain ⟨g3,l4,rfl,e3,hl4⟩:=okL_cons hl3
 obtain ⟨v3,rfl⟩:=isSl_ok k4 e3 (f:=Bound.g) fun m x _ hx => Ids.bnd hf hx
 obtain ⟨g4,l5,rfl,e4,hl5⟩:=okL_cons hl4
 obtain ⟨v4,rfl⟩:=Ids.i ht e4
 obtain ⟨g5,l6,rfl,e5,hl6⟩:=okL_cons hl5
 obtain ⟨v5,rfl⟩:=Ids.ty' ht e5
 obtain ⟨g6,l7,rfl,e6,hl7⟩:=okL_cons hl6
 obtain ⟨v6,rfl⟩:=Ids.tysOk ht e6
 obtain ⟨g7,l8,rfl,e7,hl8⟩:=okL_cons hl7
 obtain ⟨v7,rfl⟩:=isSl_ok k9 e7 (f:=Block.g) fun m x _ hx => Ids.blk hf hx
 obtain ⟨g8,rfl,e8⟩:=okL1 hl8
 obtain ⟨v8,rfl⟩:=isSl_ok k2 e8 (f:=I) fun m x _ hx => Ids.i ht hx
 exact ⟨⟨v0,v1,v2,v3,v4,v5,v6,v7,v8⟩,rfl⟩
theorem Ids.imp {d:Ids} (h:d.progOk P = true) {n:Nat} {g:G} (hg:Ok P n d.impl g):∃ x:Impl,g = x.g:=by
 have h0:=h
 have hf:=Ids.func_of h
 have ht:=Ids.ty_of hf
 have hf':=hf
 simp only [Ids.funcOk,Bool.and_eq_true] at hf'
 obtain ⟨⟨⟨⟨⟨⟨⟨⟨⟨⟨_,k1⟩,k2⟩,k3⟩,k4⟩,k5⟩,k6⟩,k7⟩,k8⟩,k9⟩,k10⟩:=hf'
 simp only [Ids.progOk,Bool.and_eq_true] at h
 obtain ⟨⟨⟨⟨⟨⟨⟨⟨⟨⟨h,p1⟩,p2⟩,p3⟩,p4⟩,p5⟩,p6⟩,p7⟩,p8⟩,p9⟩,p10⟩:=h
 obtain ⟨m,l0,hm,rfl,hl0⟩:=isSt_ok p7 hg
 obtain ⟨g0,l1,rfl,e0,hl1⟩:=okL_cons hl0
 obtain ⟨v0,rfl⟩:=Ids.i ht e0
 obtain ⟨g1,l2,rfl,e1,hl2⟩:=okL_cons hl1
 obtain ⟨v1,rfl⟩:=Ids.i ht e1
 obtain ⟨g2,l3,rfl,e2,hl3⟩:=okL_cons hl2
 obtain ⟨v2,rfl⟩:=Ids.i ht e2
 obtain ⟨g3,l4,rfl,e3,hl4⟩:=okL_cons hl3
 obtain ⟨v3,rfl⟩:=isSl_ok k4 e3 (f:=Bound.g) fun m x _ hx => Ids.bnd hf hx
 obtain ⟨g4,l5,rfl,e4,hl5⟩:=okL_cons hl4
 obtain ⟨v4,rfl⟩:=Ids.ty' ht e4
 obtain ⟨g5,rfl,e5⟩:=okL1 hl5
 obtain ⟨v5,rfl⟩:=Ids.i ht e5
 exact ⟨⟨v0,v1,v2,v3,v4,v5⟩,rfl⟩
end
end Api
end Go.Fr
namespace Go.Fr.T
open Go Go.RowKit Go.Fr
mutual
def gcs:G → List C
 | .int k n => [.int k n]
 | .bool b => [.bool b]
 | .str s => [.str s]
 | .sl _ l => [.sl (gcss l)]
 | .st l => gflat l
def gcss:List G → List (List C)
 | [] => []
 | x :: l => gcs x :: gcss l
def gflat:List G → List C
 | [] => []
 | x :: l => gcs x ++ gflat l
end
theorem gcss_map:∀ l:List G,gcss l = l.map gcs
 | [] => rfl
 | x :: l => by simp only [gcss,List.map_cons,gcss_map l]
theorem onesL_append {a b:List C} (h:onesL a = true) (k:onesL b = true):onesL (a ++ b) = true:=by
 rw [onesL_iff] at *
 intro c hc
 rcases List.mem_append.1 hc with hc | hc
 ·exact h c hc
 ·exact k c hc
mutual
theorem rd_rels {F:Frz}:∀ {g:G} {cs:List Value},Rd F g cs → g.bulk ≤ maxLen → Rels F [] (gcs g) cs ∧ onesL (gcs g) = true
 | .int k n,cs,h,hb => by
  simp only [Rd] at h
  obtain ⟨rfl,h⟩:=h
  simp only [gcs,Rels,Rel]
  exact ⟨⟨_,_,rfl,⟨rfl,h⟩,rfl⟩,rfl⟩
 | .bool b,cs,h,hb => by
  simp only [Rd] at h
  subst h
  simp only [gcs,Rels,Rel]
  exact ⟨⟨_,_,rfl,rfl,rfl⟩,rfl⟩
 | .str s,cs,h,hb => by
  simp only [Rd] at h
  subst h
  simp only [G.bulk] at hb
  simp only [gcs,Rels,Rel]
  exact ⟨⟨_,_,rfl,⟨rfl,by omega⟩,rfl⟩,rfl⟩
 | .sl sz l,cs,h,hb => by
  simp only [Rd] at h
  obtain ⟨a,c,rfl,h1,h2,h3,h4⟩:=h
  simp only [G.bulk] at hb
  have hl:(gcss l).length = l.length:=by simp [gcss_map]
  simp only [gcs,Rels,Rel]
  refine ⟨⟨_,_,rfl,⟨a,c,by rw [hl],by rw [hl]; exact h1,by rw [hl]; omega,fun e => ?_,sz,rdSl_rels h4 (by omega)⟩,rfl⟩,rfl⟩
  obtain ⟨e1,e2⟩:=h3 e
  subst e1
  exact ⟨rfl,e2⟩
 | .st l,cs,h,hb => by
  simp only [Rd] at h
  simp only [G.bulk] at hb
  simp only [gcs]
  exact rdAll_rels h (by omega)
theorem rdSl_rels {F:Frz} {a:Option Addr} {sz:Nat}:∀ {i:Nat} {l:List G},RdSl F a sz i l → G.bulkAll l ≤ maxLen → RelS F a sz i (gcss l)
 | _,[],_,_ => by simp only [gcss,RelS]
 | i,x :: l,h,hb => by
  simp only [RdSl] at h
  obtain ⟨⟨es,h1,h2,h3⟩,h4⟩:=h
  simp only [G.bulkAll] at hb
  obtain ⟨r1,r2⟩:=rd_rels h3 (by omega)
  simp only [gcss,RelS]
  exact ⟨⟨es,h1,h2,r2,r1⟩,rdSl_rels h4 (by omega)⟩
theorem rdAll_rels {F:Frz}:∀ {l:List G} {cs:List Value},RdAll F l cs → G.bulkAll l ≤ maxLen → Rels F [] (gflat l) cs ∧ onesL (gflat l) = true
 | [],cs,h,_ => by simp only [RdAll] at h; subst h; simp only [gflat,Rels]; exact ⟨trivial,rfl⟩
 | x :: l,cs,h,hb => by
  simp only [RdAll] at h
  obtain ⟨c1,c2,rfl,h1,h2⟩:=h
  simp only [G.bulkAll] at hb
  obtain ⟨r1,r2⟩:=rd_rels h1 (by omega)
  obtain ⟨q1,q2⟩:=rdAll_rels h2 (by omega)
  simp only [gflat]
  exact ⟨r1.append q1,onesL_append r2 q2⟩
end
open Api
abbrev IC (n:Int):C:=.int .i64 n
def ics (l:List Int):List (List C):=l.map fun n => [IC n]
def scs (l:List ByteArray):List (List C):=l.map fun s => [C.str s]
mutual
def tyC:Ty → List C
 | .mk k i l => [IC k,IC i,.sl (tyCs l)]
def tyCs:List Ty → List (List C)
 | [] => []
 | t :: l => tyC t :: tyCs l
end
theorem tyCs_map:∀ l:List Ty,tyCs l = l.map tyC
 | [] => rfl
 | t :: l => by simp only [tyCs,List.map_cons,tyCs_map l]
theorem tyC_eq (t:Ty):tyC t = [IC t.kind,IC t.id,.sl (t.args.map tyC)]:=by
 cases t
 simp only [tyC,tyCs_map,Ty.kind,Ty.id,Ty.args]
def termC (x:Term):List C:=[IC x.kind,IC x.a,.sl (ics x.targets)]
def insC (x:Ins):List C:=[IC x.op,IC x.dst,IC x.a,IC x.b,IC x.n,.sl (ics x.args),.sl (x.types.map tyC)]
def blockC (x:Block):List C:=[.sl (x.code.map insC),IC x.fin.kind,IC x.fin.a,.sl (ics x.fin.targets)]
def variantC (x:Variant):List C:=[.str x.name,.sl (x.fields.map tyC)]
def dataC (d:Api.Data):List C:=[.str d.name,IC d.module,IC d.params,.sl (d.variants.map variantC),IC d.drop]
theorem gcss_of {α:Type} {f:α → G} {h:α → List C} (hf:∀ x,gcs (f x) = h x) (l:List α):gcss (l.map f) = l.map h:=by
 rw [gcss_map,List.map_map]
 exact List.map_congr_left fun x _ => hf x
theorem gcss_I (l:List Int):gcss (l.map I) = ics l:=gcss_of (fun _ => rfl) l
mutual
theorem gcs_ty:∀ t:Ty,gcs t.g = tyC t
 | .mk k i l => by simp only [Ty.g,gcs,gflat,tyC,gcs_tys l,List.append_nil,List.cons_append,List.nil_append]
theorem gcs_tys:∀ l:List Ty,gcss (Ty.gs l) = tyCs l
 | [] => rfl
 | t :: l => by simp only [Ty.gs,gcss,tyCs,gcs_ty t,gcs_tys l]
end
theorem gcss_ty (l:List Ty):gcss (l.map Ty.g) = l.map tyC:=gcss_of gcs_ty l
theorem gcs_term (x:Term):gcs x.g = termC x:=by simp only [Term.g,gcs,gflat,termC,gcss_I,List.append_nil,List.cons_append,List.nil_append]
theorem gcs_ins (x:Ins):gcs x.g = insC x:=by simp only [Ins.g,gcs,gflat,insC,gcss_I,gcss_ty,List.append_nil,List.cons_append,List.nil_append]
theorem gcs_block (x:Block):gcs x.g = blockC x:=by simp only [Block.g,gcs,gflat,blockC,gcs_term,termC,gcss_of gcs_ins,List.append_nil,List.cons_append,List.nil_append]
theorem gcs_variant (x:Variant):gcs x.g = variantC x:=by simp only [Variant.g,gcs,gflat,variantC,gcss_ty,List.append_nil,List.cons_append,List.nil_append]
theorem gcs_data (x:Api.Data):gcs x.g = dataC x:=by simp only [Data.g,gcs,gflat,dataC,gcss_of gcs_variant,List.append_nil,List.cons_append,List.nil_append]
theorem idxI {l:List Int} {k:Nat} {x:Int} {K:List C → Prop} (hx:l[k]? = some x) (h:K [IC x]):IdxT (ics l) (k:Int) 1 K:=⟨[IC x],by omega,by simp [ics,hx],rfl,h⟩
theorem idxS {l:List ByteArray} {k:Nat} {x:ByteArray} {K:List C → Prop} (hx:l[k]? = some x) (h:K [.str x]):IdxT (scs l) (k:Int) 1 K:=⟨[.str x],by omega,by simp [scs,hx],rfl,h⟩
theorem idxTy {l:List Ty} {k:Nat} {x:Ty} {K:List C → Prop} (hx:l[k]? = some x) (h:K [IC x.kind,IC x.id,.sl (x.args.map tyC)]):IdxT (l.map tyC) (k:Int) 3 K:=idxT hx (tyC_eq x) rfl h
theorem wf_I {n:Int} (h:Wf (IC n)):-9223372036854775808 ≤ n ∧ n ≤ 9223372036854775807:=by simp only [Wf] at h; exact wf_i64 h
end Go.Fr.T
namespace Go.Fr.T
open Go Go.RowKit Go.Fr Go.ChangeShapes Go.WideShapes Go.ChangeAt
def argC:G → C
 | .int k n => .int k n
 | .bool b => .bool b
 | .str s => .str s
 | .sl _ l => .sl (gcss l)
 | .st l => .agg (gflat l)
def OkA (P:Program):List TypeId → List G → Prop
 | [],[] => True
 | t :: ts,g :: gs => (∃ n,Ok P n t g) ∧ OkA P ts gs
 | _,_ => False
section
variable {H:Type} {enc:TypeId × Value → H} {P:Program} {W:World}
theorem rels_one {F:Frz} {L:Loc} {c:C} {v:Value} (h:Rels F L [c] [v]):Rel F L c v:=by
 simp only [Rels] at h
 obtain ⟨x,y,e,h1,h2⟩:=h
 injection e with e1 e2
 subst e1
 exact h1
theorem arg_rel {S:List TypeId} (hS:flat P S = true) {t:TypeId} (ht:t ∈ S) {r:Reach} {b0:Nat} {sp:Nat → Bool} {hd:Bool} {v:Value} {d:DataW H} {ps:List MemPlace} (hval:Value.okWide P W r b0 t v)
  (h:DataW.Trod enc P W 0 sp hd t v d ps) (hb:bulkD d ≤ maxLen):∃ n g,Ok P n t g ∧ Rel (frzOf W) [] (argC g) v ∧ g.bulk ≤ bulkD d:=by
 obtain ⟨fuel,h⟩:=h
 obtain ⟨g,h1,h2,h3⟩:=trod_rd hS fuel t _ _ ht h
 refine ⟨fuel,g,h1,?_,h3⟩
 have h4:=(rd_rels h2 (Nat.le_trans h3 hb)).1
 have hf:=List.all_eq_true.1 hS t ht
 cases fuel with
 | zero => exact h1.elim
 | succ n =>
 simp only [flatT] at hf
 simp only [Ok] at h1
 split at hf
 ·rename_i hu
  obtain ⟨b,rfl⟩:=okWide_bool hu hval
  simp only [hu] at h1
  obtain ⟨b',rfl⟩:=h1
  exact rels_one h4
 ·rename_i k hu
  obtain ⟨m,rfl⟩:=okWide_int hu hval
  simp only [hu] at h1
  obtain ⟨b',rfl,_⟩:=h1
  exact rels_one h4
 ·rename_i hu
  obtain ⟨m,rfl⟩:=okWide_string hu hval
  simp only [hu] at h1
  obtain ⟨b',rfl⟩:=h1
  exact rels_one h4
 ·rename_i e hu
  obtain ⟨a,l,c,rfl⟩:=okWide_slice hu hval
  simp only [hu] at h1
  obtain ⟨b',rfl,_⟩:=h1
  exact rels_one h4
 ·rename_i fs hu
  simp only [Value.okWide,hu] at hval
  obtain ⟨cs,rfl,_,_⟩:=hval
  simp only [hu] at h1
  obtain ⟨l,rfl,_⟩:=h1
  simp only [argC,Rel]
  exact ⟨cs.toList,by simp,h4⟩
 ·cases hf
theorem args_rels {S:List TypeId} (hS:flat P S = true) {r:Reach} {b0:Nat} {sp:Nat → Bool} {hd:Bool}:∀ {ts:List TypeId} {vs:List Value} {ds:List (DataW H)} {ps:List MemPlace},(∀ t ∈ ts,t ∈ S) →
  (∀ (j:Nat) t v,ts[j]? = some t → vs[j]? = some v → Value.okWide P W r b0 t v) → DataW.TrodAll enc P W 0 sp hd ts vs ds ps → bulkDAll ds ≤ maxLen →
  ∃ gs,OkA P ts gs ∧ Rels (frzOf W) [] (gs.map argC) vs ∧ G.bulkAll gs ≤ bulkDAll ds
 | [],[],[],_,_,_,_,_ => ⟨[],trivial,by simp only [List.map_nil,Rels],by simp [G.bulkAll]⟩
 | t :: ts,v :: vs,d :: ds,ps,hm,hv,⟨p,q,h1,h2,_⟩,hb => by
  simp only [bulkDAll] at hb ⊢
  obtain ⟨n,g,g1,g2,g3⟩:=arg_rel hS (hm t (by simp)) (hv 0 t v rfl rfl) h1 (by omega)
  obtain ⟨gs,k1,k2,k3⟩:=args_rels hS (fun t ht => hm t (by simp [ht])) (fun j t v ht hv' => hv (j + 1) t v (by simpa using ht) (by simpa using hv')) h2 (by omega)
  refine ⟨g :: gs,⟨⟨n,g1⟩,k1⟩,?_,by simp only [G.bulkAll]; omega⟩
  simp only [List.map_cons,Rels]
  exact ⟨v,vs,rfl,g2,k2⟩
 | [],_ :: _,_,_,_,_,h,_ => h.elim
 | [],[],_ :: _,_,_,_,h,_ => h.elim
 | _ :: _,[],_,_,_,_,h,_ => h.elim
 | _ :: _,_ :: _,[],_,_,_,h,_ => h.elim
theorem trodAll_below {ts:List TypeId} (hl:laidOutB P = true) (hr:ts.all (fun t => P.readableRec t && decide (t < P.types.size)) = true) {W':World} (hb:Below W.heap.size W W') {sp:Nat → Bool} :
  ∀ {vs:List Value} {ds:List (DataW H)} {ps:List MemPlace},DataW.TrodAll enc P W 0 (fun _ => true) true ts vs ds ps → (∀ x ∈ ps,x.block < W.heap.size) → (∀ x ∈ ps,sp x.block = true) → DataW.TrodAll enc P W' 0 sp true ts vs ds ps:=by
 induction ts with
 | nil =>
  intro vs ds ps h _ _
  match vs,ds,h with
  | [],[],h => exact h
 | cons t ts ih =>
  intro vs ds ps h h1 h2
  match vs,ds,h with
  | v :: vs,d :: ds,⟨p,q,k1,k2,e⟩ =>
   subst e
   simp only [List.all_cons,Bool.and_eq_true,decide_eq_true_eq] at hr
   refine ⟨p,q,WideElems.Trod_stays hl hr.1.1 hr.1.2 k1 (fun x hx => hb.same (h1 x (by simp [hx]))) (fun x hx => h2 x (by simp [hx])),ih (by simpa using hr.2) k2 (fun x hx => h1 x (by simp [hx])) (fun x hx => h2 x (by simp [hx])),rfl⟩
theorem post_of_below {f:Func} {s:ChangeSpec} {W W':World} {args:Array Value} {v:Value} {ds gs:List (DataW H)} {before pa pv:List MemPlace}
  (hW:DataW.Whole enc P f.params.toList s.vars false W args.toList ds gs before)
  (hres:∀ (b:Nat) (sp:Nat → Bool) (hd:Bool),DataW.TrodAll enc P W' b sp hd f.resultTypes.toList (v.resultList f.resultTypes.size) (s.fn H (ds ++ gs)).results [])
  (hargs:∀ sp:Nat → Bool,(∀ p ∈ before,sp p.block = true) → DataW.TrodAll enc P W' 0 sp true f.params.toList args.toList (s.fn H (ds ++ gs)).args pa)
  (hvars:∀ sp:Nat → Bool,(∀ p ∈ before,sp p.block = true) → DataW.TrodVars enc P W' sp s.vars (s.fn H (ds ++ gs)).vars pv)
  (hps:before = pa ++ pv) (hb:Below W.heap.size W W')
  (hok:∀ (j:Nat) (t:TypeId) (r:Value),f.resultTypes[j]? = some t → (v.resultList f.resultTypes.size)[j]? = some r → Value.okWide P W' .any 0 t r) :
  s.post enc P f false true false false W args v W':=by
 have hold:∀ p ∈ before,(fun b => decide (b < W.heap.size)) p.block = true:=fun p hp => by simpa using hW.lt p hp
 have hlt:∀ p ∈ before,p.block < W.heap.size:=fun p hp => hW.lt p hp
 refine ⟨ds,gs,before,[],pa,pv,hW,hres _ _ _,hargs _ hold,hvars _ hold,World.keptBut_mono (fun p hp => ⟨hp,?_⟩) (hb.frame (· ∈ before)),fun _ => ?_⟩
 ·rw [hps,List.mem_append] at hp
  exact Or.inr hp
 ·obtain ⟨_,_,_,_,_,hz,hn⟩:=hW
  refine ⟨hok,_,_,([] ++ pa) ++ pv,⟨[] ++ pa,pv,trodAll_append (hargs _ (fun _ _ => rfl)) (hres _ _ _),hvars _ (fun _ _ => rfl),rfl,?_,?_⟩,?_⟩
  ·intro b off hp
   have hp':MemPlace.cell b off ∈ before:=by rw [hps]; simpa using hp
   rw [hb.frozen (p:=⟨b,off,none⟩) (hlt _ hp')]
   exact hz b off hp'
  ·intro ha
   cases ha
  ·intro p hp _
   rw [hps]
   simpa using hp
theorem entry {f:FuncId} {ts:List TypeId} {S:List TypeId} (hS:flat P S = true) (hm:∀ t ∈ ts,t ∈ S) {r:Reach} {b0:Nat} {args:Array Value} {ds:List (DataW H)} {ps:List MemPlace}
  (hval:∀ (j:Nat) t v,ts[j]? = some t → args.toList[j]? = some v → Value.okWide P W r b0 t v) (h:DataW.TrodAll enc P W 0 (fun _ => true) true ts args.toList ds ps) (hk:bulkDAll ds ≤ 1048576)
  (hG:Glob (frzOf W)) (law:∀ gs,OkA P ts gs → G.bulkAll gs ≤ 1048576 → CallsT P f (gs.map argC) [] (Ret [] (.bool true))) :
  Calls P f args W fun e W' => e = .returned (.bool true) ∧ Below W.heap.size W W':=by
 obtain ⟨gs,k1,k2,k3⟩:=args_rels hS hm hval h (Nat.le_trans hk (by decide))
 have hc:=(law gs k1 (by omega)).out (frzOf W) [] args.toList rfl (fun k => by rw [show (inp []).get k = none from rfl,show (tinp []).get k = none from rfl]; trivial) k2
 have he:∀ k,(inp []).get k = none:=fun _ => rfl
 have hs0:St (frzOf W) (inp []) W:=⟨fun b o h => h,fun k o h => (by rw [he] at h; cases h),fun k o g h => (by rw [he] at h; cases h),fun k k' o o' g h => (by rw [he] at h; cases h),hG⟩
 refine Calls.mono (hc.run W hs0) ?_
 rintro e W' ⟨v,F',Lo,rfl,hs,hst,Mo,c,q1,q2,q3,q4,rfl,rfl⟩
 simp only [Rel] at q3
 subst q3
 exact ⟨rfl,hst.os,hst.tape,hst.output,hst.size,fun k hk => hst.same k hk (by rintro ⟨_,_,h,_⟩; cases h)⟩
theorem contract_bool {f:FuncId} {fn:Func} {s:ChangeSpec} {S:List TypeId} {tb:TypeId} (hl:laidOutB P = true) (hS:flat P S = true) (hm:fn.params.toList.all (fun t => S.contains t && (P.readableRec t && decide (t < P.types.size))) = true)
  (hres:fn.resultTypes = #[tb]) (htb:P.underlying tb = some .bool) (hvars:s.vars = [])
  (law:∀ gs,OkA P fn.params.toList gs → G.bulkAll gs ≤ 1048576 → CallsT P f (gs.map argC) [] (Ret [] (.bool true)))
  {r:Reach} {b0:Nat} {args:Array Value} {ds gs:List (DataW H)} {before:List MemPlace} (hfn:s.fn H ds = { results:=[.lit (.bool true)],args:=ds })
  (hval:∀ (j:Nat) t v,fn.params[j]? = some t → args[j]? = some v → Value.okWide P W r b0 t v)
  (hW:DataW.Whole enc P fn.params.toList s.vars false W args.toList ds gs before) (hk:bulkDAll ds ≤ 1048576) (hG:Glob (frzOf W):=by exact trivial) :
  Calls P f args W fun e W' => ∃ v,e = .returned v ∧ s.post enc P fn false true false false W args v W':=by
 have hW':=hW
 rw [hvars] at hW
 obtain ⟨p,q,hA,hV,rfl,hfz,hnd⟩:=hW
 obtain ⟨rfl,rfl⟩:=trodVars_none hV
 have hm':=List.all_eq_true.1 hm
 refine (entry hS (fun t ht => by have:=hm' t ht; simp only [Bool.and_eq_true,List.contains_iff_mem] at this; exact this.1) (fun j t v h1 h2 => hval j t v (by simpa using h1) (by simpa using h2)) hA hk hG law).mono ?_
 rintro e W' ⟨rfl,hb⟩
 refine ⟨_,rfl,post_of_below (pa:=p) (pv:=[]) hW' ?_ ?_ ?_ rfl hb (ok_one hres rfl (okWide_bool_mk htb _))⟩
 ·intro b sp hd
  simp only [List.append_nil,hfn,hres]
  exact trodAll_cons_mk (shut_bool htb _) trodAll_mk0
 ·intro sp hsp
  simp only [List.append_nil,hfn]
  exact trodAll_below hl (List.all_eq_true.2 fun t ht => by have:=hm' t ht; simp only [Bool.and_eq_true] at this ⊢; exact this.2) hb hA (fun x hx => hW'.lt x (by simp [hx])) (fun x hx => hsp x (by simp [hx]))
 ·intro sp hsp
  rw [hvars]
  simp only [List.append_nil,hfn]
  exact rfl
end
end Go.Fr.T
namespace Go.Fr.T
open Go Go.RowKit Go.Fr Go.Fr.Api
def bG (b:UInt8):G:=.int .u8 b.toNat
def isK (P:Program) (t:TypeId) (k:IntKind):Bool:=match P.underlying t with | some (.int k') => decide (k' = k) | _ => false
def isB (P:Program) (t:TypeId):Bool:=match P.underlying t with | some .bool => true | _ => false
theorem isK_ok {P:Program} {t:TypeId} {k:IntKind} (h:isK P t k = true) {n:Nat} {g:G} (hg:Ok P n t g):∃ x,g = .int k x ∧ (Lit.int k x).wf = true:=by
 simp only [isK] at h
 split at h
 ·rename_i k' hu
  have e:=of_decide_eq_true h
  subst e
  cases n with
  | zero => exact hg.elim
  | succ n => simp only [Ok,hu] at hg; exact hg
 ·cases h
theorem isB_ok {P:Program} {t:TypeId} (h:isB P t = true) {n:Nat} {g:G} (hg:Ok P n t g):∃ x,g = .bool x:=by
 simp only [isB] at h
 split at h
 ·rename_i hu; exact ok_bool hu hg
 ·cases h
theorem u8_ok {P:Program} {t:TypeId} (h:isK P t .u8 = true) {n:Nat} {g:G} (hg:Ok P n t g):∃ b:UInt8,g = bG b:=by
 obtain ⟨x,rfl,hx⟩:=isK_ok h hg
 simp only [Lit.wf,Bool.and_eq_true,decide_eq_true_eq] at hx
 have h1:0 ≤ x:=hx.1
 have h2:x ≤ 255:=hx.2
 refine ⟨UInt8.ofNat x.toNat,?_⟩
 simp only [bG,UInt8.toNat_ofNat']
 congr 1
 omega
theorem bytes_ok {P:Program} {t e:TypeId} (hs:isSl P t e 1 = true) (h:isK P e .u8 = true) {n:Nat} {g:G} (hg:Ok P n t g):∃ bs:List UInt8,g = .sl 1 (bs.map bG) :=
 isSl_ok hs hg fun _ _ _ hx => u8_ok h hx
theorem argC_bytes (bs:List UInt8):argC (.sl 1 (bs.map bG)) = .sl (bcells bs):=by
 simp only [argC,gcss_of (f:=bG) (h:=fun b => [bcell b]) (fun _ => rfl),bcells]
theorem argC_u8 (b:UInt8):argC (bG b) = bcell b:=rfl
theorem bulk_map {α:Type} {f:α → G} (l:List α):l.length ≤ G.bulkAll (l.map f):=by
 induction l with
 | nil => simp
 | cons x l ih =>
  simp only [List.map_cons,G.bulkAll,List.length_cons]
  have:1 ≤ (f x).bulk:=by cases f x <;> simp only [G.bulk] <;> omega
  omega
theorem bulk_sl {α:Type} {f:α → G} (l:List α) {sz:Nat}:l.length + 1 ≤ (G.sl sz (l.map f)).bulk:=by
 have:=bulk_map (f:=f) l
 simp only [G.bulk]; omega
theorem okA_cons {P:Program} {t:TypeId} {ts:List TypeId} {gs:List G} (h:OkA P (t :: ts) gs):∃ g r n,gs = g :: r ∧ Ok P n t g ∧ OkA P ts r:=by
 cases gs with
 | nil => exact h.elim
 | cons g r => obtain ⟨⟨n,h1⟩,h2⟩:=h; exact ⟨g,r,n,rfl,h1,h2⟩
theorem okA_nil {P:Program} {gs:List G} (h:OkA P [] gs):gs = []:=by
 cases gs with
 | nil => rfl
 | cons g r => exact h.elim
theorem argC_st {l:List G}:argC (.st l) = .agg (gcs (.st l)):=by simp only [argC,gcs]
theorem withDrop {α:Type} {l:List α} {k:Nat} {K:Prop} (h:k < l.length) (H:∀ x,l[k]? = some x → x ∈ l → l.drop k = x :: l.drop (k + 1) → K):K:=H l[k] (List.getElem?_eq_getElem h) (List.getElem_mem h) (List.drop_eq_getElem_cons h)
section
variable {P:Program} {L:TL} {ρ:TEnv}
def Such (p:Prop):List TO → C → Prop:=fun Mo v => Mo = [] ∧ ∃ b,v = .bool b ∧ (b = true → p)
theorem callB {f:Nat} {args args':List C} {K:TL → TEnv → C → Prop} {p:Prop} (h:CallsT P f args' [] (Such p)) (ha:(args.map fun c => c.canA.ren (toIn [] 1000)) = args') (k:∀ b:Bool,(b = true → p) → K L ρ (.bool b)):CallT P f args L ρ K:=by
 subst ha
 exact ⟨[],[],[],L,[],_,.inl rfl,rfl,rfl,rfl,rfl,rfl,h,fun v Mo ⟨e1,b,e2,hp⟩ hw _ => by subst e1 e2; exact ⟨rfl,k b hp⟩⟩
theorem retB {Lin:List TO} {v:C} {p:Prop} (b:Bool) (hb:boxesAt Lin (List.range' 1000 Lin.length) [] = true) (e:v.canR.ren (toIn [] 1000) = .bool b) (hp:b = true → p):RetT Lin L v (Such p) :=
 ⟨[],[],L,v,v,[],rfl,.inl ⟨rfl,rfl⟩,rfl,rfl,hb,fun _ => ⟨rfl,b,e,hp⟩⟩
end
end Go.Fr.T
namespace Go.Fr.T
open Go Go.RowKit Go.Fr
abbrev adr (g off:Nat):C:=.opq (64 * (g + 1) + off)
def pin (g t:Nat):Nat:=(g + 1) * 1048576 + t
theorem adr_rel {F:Frz} {L:Loc} {g off:Nat} {v:Value} (h:off < 64):Rel F L (adr g off) v ↔ v = .pointer (some ⟨g,off,none⟩):=by
 simp only [adr,Rel,OpqRel]
 constructor
 ·rintro (⟨h1,_⟩ | ⟨g',off',h1,h2,rfl⟩)
  ·omega
  ·have:g = g':=by omega
   subst this
   have:off = off':=by omega
   subst this
   rfl
 ·rintro rfl
  exact .inr ⟨g,off,h,rfl,rfl⟩
def ownLeaf (g:Nat) (c:C):C:=match c with
 | .opq k => match Nat.beq (k / 64) (g + 1) with | true => .own 1000 (k % 64) | false => .opq k
 | c => c
def C.toOwn1 (g:Nat) (c:C):C:=C.mp (ownLeaf g) 3 c
def adrLeaf (g:Nat) (c:C):C:=match c with
 | .own k off => match Nat.beq k 1000,Nat.ble off 63 with | true,true => adr g off | _,_ => .own k off
 | c => c
def C.toAdr (g:Nat) (c:C):C:=C.mp (adrLeaf g) 3 c
theorem toOwn1_adr (g off:Nat) (h:off < 64):C.toOwn1 g (adr g off) = .own 1000 off:=by
 have h1:(64 * (g + 1) + off) / 64 = g + 1:=by omega
 have h2:(64 * (g + 1) + off) % 64 = off:=by omega
 simp only [C.toOwn1,adr,C.mp,ownLeaf,h1,h2]
 have:Nat.beq (g + 1) (g + 1) = true:=by simp
 rw [this]
theorem own_leaf {F:Frz} {L:Loc} {g t:Nat} {cs:List Value} (h:L.get 1000 = some (.box g t cs)) (c:C) (v:Value) (hc:c.leaf = true) (r:Rel F L c v):Rel F L (ownLeaf g c) v:=by
 unfold ownLeaf
 split
 ·rename_i k
  split
  ·rename_i hb
   have hb:=Nat.eq_of_beq_eq_true hb
   simp only [Rel,OpqRel] at r
   rcases r with ⟨h1,_⟩ | ⟨g',off',h1,h2,rfl⟩
   ·omega
   ·have:g = g':=by omega
    subst this
    have:k % 64 = off':=by omega
    simp only [Rel]
    exact ⟨g,t,cs,h,by rw [this]⟩
  ·exact r
 ·exact r
theorem adr_leaf {F:Frz} {L:Loc} {g t:Nat} {cs:List Value} (h:L.get 1000 = some (.box g t cs)) (c:C) (v:Value) (hc:c.leaf = true) (r:Rel F L c v):Rel F L (adrLeaf g c) v:=by
 unfold adrLeaf
 split
 ·rename_i k off
  split
  ·rename_i hb hl
   have hb:=Nat.eq_of_beq_eq_true hb
   subst hb
   simp only [Rel] at r
   obtain ⟨g',t',cs',e,rfl⟩:=r
   rw [h] at e
   injection e with e
   injection e with e1
   subst e1
   exact (adr_rel (Nat.lt_succ_of_le (Nat.le_of_ble_eq_true hl))).2 rfl
  ·exact r
 ·exact r
theorem CallsX.imp {P:Program} {f:FuncId} {args:Array Value} {F:Frz} {Lin:List Own} {R R':Frz → List Own → Value → Prop} {Pp Pp':Value → Prop} (h:CallsX P f args F Lin R Pp)
  (hm:∀ F G L v,F.le G → R' F L v → R' G L v) (hk:∀ F L v,R F L v → R' F L v) (hp:∀ v,Pp v → Pp' v):CallsX P f args F Lin R' Pp' :=
 ⟨h.ent,hm,fun w hs => (h.run w hs).mono fun e w' k => by
  rcases k with ⟨v,F',Lo,h1,h2,h3,h4⟩ | ⟨v,F',Lo,h1,h2,h3,h4,h5,h6⟩
  ·exact .inl ⟨v,F',Lo,h1,h2,h3,hk _ _ _ h4⟩
  ·exact .inr ⟨v,F',Lo,h1,h2,h3,h4,h5,hp v h6⟩⟩
theorem CallsTX.imp {P:Program} {f:Nat} {args:List C} {Lin:List TO} {R R':List TO → C → Prop} {Pp Pp':Value → Prop} (h:CallsTX P f args Lin R Pp)
  (hk:∀ Mo c,R Mo c → R' Mo c) (hp:∀ v,Pp v → Pp' v):CallsTX P f args Lin R' Pp' :=
 ⟨fun F Li vs h1 h2 h3 => CallsX.imp (h.out F Li vs h1 h2 h3) ResA.mono' (fun F L v ⟨Mo,c,q1,q2,q3,q4,q5⟩ => ⟨Mo,c,q1,q2,q3,q4,hk _ _ q5⟩) hp⟩
def retag (t:Nat):List TO → List TO
 | .box _ cs :: l => .box t cs :: l
 | l => l
theorem tinp_retag {t:Nat} {Mo:List TO}:∀ k,(tinp (retag t Mo)).get k = if k = 1000 then (match (tinp Mo).get k with | some (.box _ cs) => some (.box t cs) | o => o) else (tinp Mo).get k:=by
 intro k
 by_cases hk:k = 1000
 ·subst hk
  rw [if_pos rfl,tinp_get,tinp_get,if_pos (Nat.le_refl _),if_pos (Nat.le_refl _),Nat.sub_self]
  match Mo with
  | [] => rfl
  | .row a b c :: l => rfl
  | .box a cs :: l => rfl
 ·rw [if_neg hk,tinp_get,tinp_get]
  by_cases h:1000 ≤ k
  ·rw [if_pos h,if_pos h]
   have h2:k - 1000 = (k - 1001) + 1:=by omega
   rw [h2]
   match Mo with
   | [] => rfl
   | .row a b c :: l => rfl
   | .box a cs :: l => rfl
  ·rw [if_neg h,if_neg h]
theorem tl_retag {F:Frz} {Lo:List Own} {Mo:List TO} {g t t':Nat} {cs:List Value} (h:RelTL F (inp Lo) (tinp Mo)) (h0:Lo[0]? = some (.box g t' cs)) (hty:tyOk t g t'):RelTL F (inp Lo) (tinp (retag t Mo)):=by
 intro k
 rw [tinp_retag]
 have hk:=h k
 split
 ·rename_i e
  subst e
  have h1:(inp Lo).get 1000 = some (.box g t' cs):=by rw [inp_get,if_pos (Nat.le_refl _)]; exact h0
  rw [h1] at hk ⊢
  cases e2:(tinp Mo).get 1000 with
  | none => rw [e2] at hk; exact hk.elim
  | some o =>
   rw [e2] at hk
   cases o with
   | row => exact hk.elim
   | box t0 c0 => exact ⟨hty,hk.2⟩
 ·exact hk
theorem head_box {F:Frz} {Li:List Own} {t:Nat} {cs:List C} {Ls:List TO} (h:RelTL F (inp Li) (tinp (.box t cs :: Ls))):∃ g t' vs,Li[0]? = some (.box g t' vs) ∧ tyOk t g t':=by
 have hk:=h 1000
 rw [tinp_get,inp_get,if_pos (Nat.le_refl _),if_pos (Nat.le_refl _)] at hk
 simp only [Nat.sub_self,List.getElem?_cons_zero] at hk
 cases e:Li[0]? with
 | none => rw [e] at hk; exact hk.elim
 | some o =>
  rw [e] at hk
  cases o with
  | row => exact hk.elim
  | box g t' vs => exact ⟨g,t',vs,rfl,hk.1⟩
theorem pin_inj {g g' t t':Nat} (h:t < 1048576) (hty:tyOk (pin g t) g' t'):g = g' ∧ t = t':=by
 obtain ⟨h1,h2⟩:=hty
 unfold pin at h2
 rcases h2 with h2 | h2
 ·omega
 ·have h3:g = g':=by
   rcases Nat.lt_trichotomy g g' with h | h | h
   ·have:(g + 2) * 1048576 ≤ (g' + 1) * 1048576:=Nat.mul_le_mul_right _ (by omega)
    omega
   ·exact h
   ·have:(g' + 2) * 1048576 ≤ (g + 1) * 1048576:=Nat.mul_le_mul_right _ (by omega)
    omega
  subst h3
  exact ⟨rfl,by omega⟩
theorem CallsTX.pinned {P:Program} {f:Nat} {args:List C} {t:Nat} {cs:List C} {Ls:List TO} {R:List TO → C → Prop} {Pp:Value → Prop} (g:Nat) (ht:t < 1048576) (h:CallsTX P f (args.map (C.toOwn1 g)) (.box t cs :: Ls) R Pp) :
  CallsTX P f args (.box (pin g t) cs :: Ls) (fun Mo c => ∃ Mo0,R Mo0 c ∧ Mo = retag (pin g t) Mo0) Pp:=by
 refine ⟨fun F Li vs h1 h2 h3 => ?_⟩
 obtain ⟨g',t',us,e0,hty⟩:=head_box h2
 obtain ⟨rfl,rfl⟩:=pin_inj ht hty
 have hget:(inp Li).get 1000 = some (.box g t us):=by rw [inp_get,if_pos (Nat.le_refl _)]; exact e0
 have h2':=tl_retag (t:=t) h2 e0 ⟨ht,.inl rfl⟩
 refine CallsX.imp (h.out F Li vs h1 h2' (h3.map fun c _ v hv => Rel.mp (own_leaf hget) 3 hv)) ResA.mono' ?_ (fun _ h => h)
 rintro F' Lo v ⟨Mo,c,q1,q2,q3,q4,q5⟩
 obtain ⟨cs',e1⟩:=q4 0 g t us e0
 refine ⟨retag (pin g t) Mo,c,?_,tl_retag q2 e1 ⟨ht,.inr rfl⟩,q3,q4,Mo,q5,rfl⟩
 rw [← q1]
 match Mo with
 | [] => rfl
 | .row .. :: l => rfl
 | .box .. :: l => rfl
theorem CallsTX.unpinned {P:Program} {f:Nat} {args:List C} {t:Nat} {cs:List C} {Ls:List TO} {R:List TO → C → Prop} {Pp:Value → Prop} (ht:t < 1048576)
  (h:∀ g,CallsTX P f (args.map (C.toAdr g)) (.box (pin g t) cs :: Ls) (fun Mo c => R (retag t Mo) c) Pp):CallsTX P f args (.box t cs :: Ls) R Pp:=by
 refine ⟨fun F Li vs h1 h2 h3 => ?_⟩
 obtain ⟨g,t',us,e0,hty⟩:=head_box h2
 have:t = t':=by
  obtain ⟨h4,h5⟩:=hty
  rcases h5 with h5 | h5
  ·exact h5
  ·omega
 subst this
 have hget:(inp Li).get 1000 = some (.box g t us):=by rw [inp_get,if_pos (Nat.le_refl _)]; exact e0
 have h2':=tl_retag (t:=pin g t) h2 e0 ⟨ht,.inr rfl⟩
 refine CallsX.imp ((h g).out F Li vs h1 h2' (h3.map fun c _ v hv => Rel.mp (adr_leaf hget) 3 hv)) ResA.mono' ?_ (fun _ h => h)
 rintro F' Lo v ⟨Mo,c,q1,q2,q3,q4,q5⟩
 obtain ⟨cs',e1⟩:=q4 0 g t us e0
 refine ⟨retag t Mo,c,?_,tl_retag q2 e1 ⟨ht,.inl rfl⟩,q3,q4,q5⟩
 rw [← q1]
 match Mo with
 | [] => rfl
 | .row .. :: l => rfl
 | .box .. :: l => rfl
end Go.Fr.T
namespace Go.Fr
open Go Go.RowKit
section
variable {P:Program} {Q:Exit → Act → World → Prop} {K:Kont}
theorem noPan {n:Nat} {F:Frz} {L:Loc} {w:World} {a:Act} {asg:List Nat} {E:Nat → Kont} {R N:Kont} {c} {a':Act} {w':World} (h:QQ n F L w a asg (fun _ _ => False) E R N (.panic c) a' w'):False:=by
 obtain ⟨v,_,F',L',_,_,_,_,_,h⟩:=h
 exact h
theorem evalOps_sound {A:Ann} {r:Nat} {ops:Array Oper}:∀ (is:List Nat) {ss:List SStep} {F:Frz} {L:Loc} {ρ:Env} {a:Act} {w:World},lowReg P A r ops is = some ss → St F L w → EnvOk L ρ a → a.tmps.size = A.n →
  evalOps P ss F L ρ K → (∀ a' w',Next2 A.n F L w a (dstsOf ops is) K a' w' → Q .normal a' w') → wpOps P ops Q is a w:=by
 intro is
 induction is with
 | nil =>
  intro ss F L ρ a w hl hs he hn hK hQ
  simp only [lowReg,Option.some.injEq] at hl
  subst hl
  exact hQ a w ⟨F,L,ρ,hs,he,hn,rfl,Step.refl _ _ _,fun _ _ => rfl,hK⟩
 | cons i is ih =>
  intro ss F L ρ a w hl hs he hn hK hQ
  simp only [lowReg] at hl
  split at hl
  case h_1 => cases hl
  rename_i o hi
  split at hl
  case h_2 => cases hl
  rename_i g s rest hg hop hdst hrest
  injection hl with hl
  subst hl
  -- the ghosts
  have ghosts:∀ (ks:List Nat) {F:Frz} {L:Loc} {ρ:Env},St F L w → EnvOk L ρ a → evalOps P (ks.map SStep.frz ++ mkStep (panAt A.pan r i) o.dst s g :: rest) F L ρ K →
    ∃ F' L' ρ',St F' L' w ∧ EnvOk L' ρ' a ∧ Step F L w F' L' w ∧ evalOps P (mkStep (panAt A.pan r i) o.dst s g :: rest) F' L' ρ' K:=by
   intro ks
   induction ks with
   | nil => intro F L ρ hs he h; exact ⟨F,L,ρ,hs,he,Step.refl _ _ _,h⟩
   | cons k ks ihk =>
    intro F L ρ hs he h
    simp only [List.map_cons,List.cons_append,evalOps] at h
    split at h
    ·rename_i g' t' cs' hk
     obtain ⟨F1,hle,hg1,hs1,he1,hst1⟩:=frzB_sound hs he hk
     obtain ⟨F2,L2,ρ2,hs2,he2,hst2,h2⟩:=ihk hs1 he1 (h F1 hle hg1)
     exact ⟨F2,L2,ρ2,hs2,he2,hst1.trans hst2,h2⟩
    ·obtain ⟨F1,L1,hs1,he1,hst1,h1⟩:=frz_sound hs he h
     obtain ⟨F2,L2,ρ2,hs2,he2,hst2,h2⟩:=ihk hs1 he1 h1
     exact ⟨F2,L2,ρ2,hs2,he2,hst1.trans hst2,h2⟩
  obtain ⟨F1,L1,ρ1,hs1,he1,hst1,hK⟩:=ghosts _ hs he hK
  clear ghosts
  have hpc:panAt A.pan r i = false:=by
   cases hb:panAt A.pan r i with
   | false => rfl
   | true => rw [hb] at hK; simp only [mkStep,evalOps] at hK
  rw [hpc] at hK
  simp only [mkStep] at hK
  clear he
  have he:=he1
  have hd:∀ k,o.dst = some k → k < a.tmps.size:=by
   intro k hk
   rw [hk] at hdst
   rw [hn]
   have h2:Nat.blt k A.n = true:=hdst
   simpa using h2
  have hdsts:dstsOf ops (i :: is) = match o.dst with | some d => d :: dstsOf ops is | none => dstsOf ops is:=by
   simp only [dstsOf,hi,Option.bind_some]
   cases o.dst <;> rfl
  have notin:∀ j,j ∉ dstsOf ops (i :: is) → o.dst ≠ some j ∧ j ∉ dstsOf ops is:=by
   intro j hj
   rw [hdsts] at hj
   cases ho:o.dst with
   | none => rw [ho] at hj; exact ⟨by simp,hj⟩
   | some d =>
    rw [ho] at hj
    simp only [List.mem_cons,not_or] at hj
    exact ⟨by simp; exact fun e => hj.1 e.symm,hj.2⟩
  have goOn:evalOp P s o.dst F1 L1 ρ1 (fun F' L' ρ' => evalOps P rest F' L' ρ' K) → o.wp P a w (wpOps P ops Q is) Q:=by
   intro hK
   have:=evalOp_sound (Q:=Q) hs1 he1 hd hop hK
   refine Oper.wp_mono ?_ (wp_frame (asg:=[]) this)
   rintro a' w' ⟨⟨F',L',ρ',g1,g2,g3,g4,g5,g6⟩,hfr⟩
   refine ih hrest g1 g2 (by rw [g3,hn]) g6 ?_
   rintro a'' w'' ⟨F'',L'',ρ'',k1,k2,k3,k4,k5,k6,k7⟩
   refine hQ a'' w'' ⟨F'',L'',ρ'',k1,k2,k3,k4.trans g4,(hst1.trans g5).trans k5,fun j hj => ?_,k7⟩
   obtain ⟨n1,n2⟩:=notin j hj
   rw [k6 j n2,hfr j n1]
  have skip:evalOps P rest F1 L1 (put o.dst (.v undef) ρ1) K → wpOps P ops Q is (a.put o.dst undef) w:=by
   intro hK
   refine ih hrest hs1 (he1.put hd (v:=undef) (x:=.v undef) rfl noOwn noEl (boxKeep L1)) (by rw [size_put,hn]) hK ?_
   rintro a'' w'' ⟨F'',L'',ρ'',k1,k2,k3,k4,k5,k6,k7⟩
   refine hQ a'' w'' ⟨F'',L'',ρ'',k1,k2,k3,k4.trans (defers_put _ _ _),hst1.trans k5,fun j hj => ?_,k7⟩
   obtain ⟨n1,n2⟩:=notin j hj
   rw [k6 j n2,put_frame n1]
  simp only [wpOps,hi]
  cases hgd:o.guard with
  | none =>
   rw [hgd] at hg
   simp only [lowGuard,Option.some.injEq] at hg
   subst hg
   simp only [evalOps] at hK
   rw [if_pos (by simp [Region.wanted,hgd])]
   exact .inl (goOn hK)
  | some p =>
   obtain ⟨j,want⟩:=p
   rw [hgd] at hg
   simp only [lowGuard] at hg
   split at hg
   case h_2 => cases hg
   rename_i d hjd
   injection hg with hg
   subst hg
   simp only [evalOps] at hK
   split at hK
   ·rename_i b hb
    have htmp:=he1.eq d
    rw [hb] at htmp
    have hy:yielded ops a.tmps j = some b:=by
     simp only [yielded,hjd,Option.bind_some,getD_bool htmp]
    have hw:Region.wanted o (yielded ops a.tmps) = (b == want):=by
     simp only [Region.wanted,hgd,hy]
     cases b <;> cases want <;> rfl
    rw [hw]
    cases b <;> simp only [brn] at hK
    ·rw [put_same hb] at hK
     cases want
     ·exact .inl (goOn hK)
     ·exact skip hK
    ·rw [put_same hb] at hK
     cases want
     ·exact skip hK
     ·exact .inl (goOn hK)
   ·rename_i vs hb
    have htmp:=he1.eq d
    rw [hb] at htmp
    have hy:yielded ops a.tmps j = none:=by
     simp only [yielded,hjd,Option.bind_some]
     rw [Array.getD_eq_getD_getElem?] at htmp
     cases e:a.tmps[d]? with
     | none => rfl
     | some v => rw [e] at htmp; simp only [Option.getD_some,conc] at htmp; rw [htmp]
    have hw:Region.wanted o (yielded ops a.tmps) = false:=by
     simp only [Region.wanted,hgd,hy]; rfl
    rw [hw]
    exact skip hK
   ·exact hK.elim
theorem ghosts_sound {a:Act} {w:World} {rest:List SStep} {K:Kont}:∀ (ks:List Nat) {F:Frz} {L:Loc} {ρ:Env},St F L w → EnvOk L ρ a → evalOps P (ks.map SStep.frz ++ rest) F L ρ K →
  ∃ F' L' ρ',St F' L' w ∧ EnvOk L' ρ' a ∧ Step F L w F' L' w ∧ evalOps P rest F' L' ρ' K:=by
 intro ks
 induction ks with
 | nil => intro F L ρ hs he h; exact ⟨F,L,ρ,hs,he,Step.refl _ _ _,h⟩
 | cons k ks ihk =>
  intro F L ρ hs he h
  simp only [List.map_cons,List.cons_append,evalOps] at h
  split at h
  ·rename_i g' t' cs' hk
   obtain ⟨F1,hle,hg1,hs1,he1,hst1⟩:=frzB_sound hs he hk
   obtain ⟨F2,L2,ρ2,hs2,he2,hst2,h2⟩:=ihk hs1 he1 (h F1 hle hg1)
   exact ⟨F2,L2,ρ2,hs2,he2,hst1.trans hst2,h2⟩
  ·obtain ⟨F1,L1,hs1,he1,hst1,h1⟩:=frz_sound hs he h
   obtain ⟨F2,L2,ρ2,hs2,he2,hst2,h2⟩:=ihk hs1 he1 h1
   exact ⟨F2,L2,ρ2,hs2,he2,hst1.trans hst2,h2⟩
end
def Loc.givesR (L L':Loc):Prop:=∃ r:Nat → Nat,(∀ k o,L'.get k = some o → L.get (r k) = some o ∨ ∃ t sz,o = .row (.slice none 0 0) t sz 0 []) ∧ ∀ k k',(L'.get k).isSome = true → (L'.get k').isSome = true → r k = r k' → k = k'
theorem givesR_of {L L':Loc} (h:L.gives L'):L.givesR L' :=
 ⟨id,fun k o e => (gives_get h e).imp id fun h => h.2,fun _ _ _ _ h => h⟩
section
variable {F:Frz} {L:Loc} {w:World}
theorem St.givesR {L':Loc} (hs:St F L w) (h:L.givesR L'):St F L' w:=by
 obtain ⟨r,h,hi⟩:=h
 refine ⟨hs.frz,fun k o e => ?_,fun k o g e hb => ?_,fun k k' o o' g e e' hb hb' => ?_,hs.glob⟩
 ·rcases h k o e with h1 | ⟨t,sz,rfl⟩
  ·exact hs.own _ o h1
  ·exact World.ownsRow_nil w 0 t sz
 ·rcases h k o e with h1 | ⟨t,sz,rfl⟩
  ·exact hs.off _ o g h1 hb
  ·cases hb
 ·rcases h k o e with h1 | ⟨t,sz,rfl⟩
  ·rcases h k' o' e' with h1' | ⟨t',sz',rfl⟩
   ·exact hi k k' (by rw [e]; rfl) (by rw [e']; rfl) (hs.sep _ _ o o' g h1 h1' hb hb')
   ·cases hb'
  ·cases hb
theorem givesR_step {L':Loc} (h:L.givesR L'):Step F L w F L' w:=by
 obtain ⟨r,h,hi⟩:=h
 exact ⟨Frz.le_refl F,rfl,rfl,rfl,Nat.le_refl _,fun _ _ _ => rfl,fun b h => .inl h,fun b ⟨k,o,e,hb⟩ => by
  rcases h k o e with h1 | ⟨t,sz,rfl⟩
  ·exact .inl ⟨_,o,h1,hb⟩
  ·cases hb⟩
end
structure LoopPt2 (body:Frz → Loc → Env → Kont → Prop) (asg:List Nat) (F:Frz) (L:Loc) (ρ:Env):Prop where
 out:∃ (σ:Type) (x0:σ) (Inv:σ → Frz → Prop) (ls:List Nat) (lv:σ → List Value) (Lf:σ → Loc) (μ:σ → Nat),
  Inv x0 F ∧ holds ls ((lv x0).map .v) ρ ∧ L.givesR (Lf x0) ∧ (∀ x,L.keeps (Lf x)) ∧
  ∀ x F' jk,F.le F' → Inv x F' → Real F' (Lf x) → body F' (Lf x) (puts ls ((lv x).map .v) (overJ asg jk ρ)) fun F'' L'' ρ'' =>
   ∃ x',Inv x' F'' ∧ holds ls ((lv x').map .v) ρ'' ∧ L''.givesR (Lf x') ∧ μ x' < μ x
def evalC2 (P:Program):SCode → (Nat → Kont) → Kont → Kont → Kont
 | .skip,_,_,N,F,L,ρ => N F L ρ
 | .reg ops,_,_,N,F,L,ρ => evalOps P ops F L ρ N
 | .regD ops,_,_,N,F,L,ρ => evalOps P ops F L ρ N
 | .regX ss,_,_,N,F,L,ρ => (∀ s ∈ ss,∀ k,newK s = some k → L.get k = none) ∧ evalOpsX P (fun _ _ => False) (fbOf ss) ss F L ρ N
 | .seq a b,E,R,N,F,L,ρ => evalC2 P a E R (fun F L ρ => evalC2 P b E R N F L ρ) F L ρ
 | .cond c a b,E,R,N,F,L,ρ => match ev ρ c with
  | .v (.bool t) => brn t (evalC2 P a E R N F L ρ) (evalC2 P b E R N F L ρ)
  | _ => False
 | .block id c,E,R,N,F,L,ρ => evalC2 P c (fun j => match Nat.beq j id with | true => N | false => E j) R N F L ρ
 | .loop asg c,E,R,_,F,L,ρ => LoopPt2 (fun F L ρ K => evalC2 P c E R K F L ρ) asg F L ρ
 | .exit id,E,_,_,F,L,ρ => E id F L ρ
 | .ret,_,R,_,F,L,ρ => R F L ρ
section
variable {P:Program} {Q:Exit → Act → World → Prop} {K:Kont}
theorem frzD2_sound {ss:List SStep} {E:Nat → Kont} {R N:Kont} {F:Frz} {L:Loc} {ρ:Env} {a:Act} {w:World}:∀ (ks:List Nat),St F L w → EnvOk L ρ a → evalC2 P (frzD ks (.regD ss)) E R N F L ρ →
  ∃ F' L' ρ',St F' L' w ∧ EnvOk L' ρ' a ∧ Step F L w F' L' w ∧ evalOps P ss F' L' ρ' N
 | [],hs,he,h => ⟨F,L,ρ,hs,he,Step.refl _ _ _,by simpa only [frzD,evalC2] using h⟩
 | k :: l,hs,he,h => by
  simp only [frzD,evalC2] at h
  have h':evalOps P ((k :: l).map SStep.frz ++ []) F L ρ (fun F L ρ => evalOps P ss F L ρ N):=by simpa only [List.map_cons,List.append_nil] using h
  obtain ⟨F1,L1,ρ1,h1,h2,h3,h4⟩:=ghosts_sound (k :: l) hs he h'
  simp only [evalOps] at h4
  exact ⟨F1,L1,ρ1,h1,h2,h3,h4⟩
theorem evalC2_sound {A:Ann}:∀ (c:Code) {sc:SCode},low P A c = some sc → ∀ {E:Nat → Kont} {R N:Kont} {F:Frz} {L:Loc} {ρ:Env} {a:Act} {w:World},St F L w → EnvOk L ρ a → a.tmps.size = A.n →
  evalC2 P sc E R N F L ρ → c.wp P (QQ A.n F L w a (asgOf c) (fun _ _ => False) E R N) a w:=by
 intro c
 induction c with
 | skip =>
  intro sc hl E R N F L ρ a w hs he hn hK
  simp only [low,Option.some.injEq] at hl; subst hl
  exact wp_skip ⟨F,L,ρ,hs,he,hn,rfl,Step.refl _ _ _,fun _ _ => rfl,hK⟩
 | label l =>
  intro sc hl E R N F L ρ a w hs he hn hK
  simp only [low,Option.some.injEq] at hl; subst hl
  exact wp_label ⟨F,L,ρ,hs,he,hn,rfl,Step.refl _ _ _,fun _ _ => rfl,hK⟩
 | exit id =>
  intro sc hl E R N F L ρ a w hs he hn hK
  simp only [low,Option.some.injEq] at hl; subst hl
  exact wp_exit ⟨F,L,ρ,hs,he,hn,rfl,Step.refl _ _ _,fun _ _ => rfl,hK⟩
 | ret =>
  intro sc hl E R N F L ρ a w hs he hn hK
  simp only [low,Option.some.injEq] at hl; subst hl
  exact wp_ret ⟨F,L,ρ,hs,he,hn,rfl,Step.refl _ _ _,fun _ _ => rfl,hK⟩
 | region r ops draw =>
  intro sc hl E R N F L ρ a w hs he hn hK
  cases draw with
  | false =>
   simp only [low] at hl
   split at hl
   case h_2 => cases hl
   rename_i ss hss
   injection hl with hl; subst hl
   simp only [evalC2] at hK
   exact wp_region (evalOps_sound _ hss hs he hn hK fun a' w' h => h)
  | true =>
   simp only [low] at hl
   split at hl
   case h_2 => cases hl
   rename_i is cl ss h1 h2
   split at hl
   case h_2 =>
    split at hl
    case h_2 => cases hl
    rename_i h3
    injection hl with hl; subst hl
    simp only [evalC2] at hK
    have h4:ordIs A.ord r = is:=by simp only [ordIs,h1]
    rw [h4] at h2
    exact draw_soundX h2 h3 hs he hn hK.1 hK.2 (fun a' w' h => h) fun v a' w' F' L' _ _ _ _ _ h => h.elim
   rename_i h0
   split at hl
   case h_2 => cases hl
   rename_i h3
   injection hl with hl; subst hl
   obtain ⟨F1,L1,ρ1,hs1,he1,hst1,hK⟩:=frzD2_sound _ hs he hK
   have h4:ordIs A.ord r = is:=by simp only [ordIs,h1]
   rw [h4] at h2
   exact draw_sound h2 h3 hs1 he1 hn hK fun a' w' h => Next2.after (asg1:=[]) hst1 rfl (fun _ _ => rfl) h (fun _ h => absurd h List.not_mem_nil) (fun _ h => h)
 | seq x y ihx ihy =>
  intro sc hl E R N F L ρ a w hs he hn hK
  simp only [low] at hl
  split at hl
  case h_2 => cases hl
  rename_i h1 h2
  injection hl with hl; subst hl
  simp only [evalC2] at hK
  refine wp_seq (wp_mono (ihx h1 hs he hn hK) ?_)
  intro e a1 w1 hq
  cases e with
  | normal =>
   obtain ⟨F1,L1,ρ1,g1,g2,g3,g4,g5,g6,g7⟩:=hq
   refine wp_mono (ihy h2 g1 g2 g3 g7) ?_
   intro e2 a2 w2 hq2
   cases e2 <;> first
    | exact Next2.after g5 g4 g6 hq2 (fun j h => List.mem_append.2 (.inl h)) (fun j h => List.mem_append.2 (.inr h))
    | exact hq2
    | exact (noPan hq2).elim
  | exit id => exact hq.mono fun j h => List.mem_append.2 (.inl h)
  | ret => exact hq.mono fun j h => List.mem_append.2 (.inl h)
  | goto l => exact hq
  | panic c => exact (noPan hq).elim
  | outgrown => exact hq
 | cond c x y ihx ihy =>
  intro sc hl E R N F L ρ a w hs he hn hK
  simp only [low] at hl
  split at hl
  case h_2 => cases hl
  rename_i h0 h1 h2
  injection hl with hl; subst hl
  simp only [evalC2] at hK
  split at hK
  case h_2 => exact hK.elim
  rename_i t ht
  have hc:a.eval c = .bool t:=by rw [lowX_eval h0 he,val_v ht]
  refine wp_cond hc ?_
  cases t
  ·simp only [brn] at hK
   refine wp_mono (ihy h2 hs he hn hK) ?_
   intro e a1 w1 hq
   cases e <;> first
    | exact hq.mono fun j h => List.mem_append.2 (.inr h)
    | exact (noPan hq).elim
    | exact hq
  ·simp only [brn] at hK
   refine wp_mono (ihx h1 hs he hn hK) ?_
   intro e a1 w1 hq
   cases e <;> first
    | exact hq.mono fun j h => List.mem_append.2 (.inl h)
    | exact (noPan hq).elim
    | exact hq
 | block id x ih =>
  intro sc hl E R N F L ρ a w hs he hn hK
  simp only [low] at hl
  split at hl
  case h_2 => cases hl
  rename_i h1
  injection hl with hl; subst hl
  simp only [evalC2] at hK
  refine wp_block (wp_mono (ih h1 hs he hn hK) ?_)
  intro e a1 w1 hq
  cases e with
  | exit j =>
   simp only [Exit.inBlock]
   simp only [QQ] at hq
   by_cases hj:j = id
   ·subst hj
    have hb:Nat.beq j j = true:=by simp
    rw [hb] at hq
    rw [if_pos rfl]
    exact hq
   ·have hb:Nat.beq j id = false:=by
     cases h:Nat.beq j id with
     | true => exact absurd (Nat.eq_of_beq_eq_true h) hj
     | false => rfl
    rw [hb] at hq
    rw [if_neg hj]
    exact hq
  | normal => exact hq
  | ret => exact hq
  | goto l => exact hq
  | panic c => exact (noPan hq).elim
  | outgrown => exact hq
 | loop x ih =>
  intro sc hl E R N F L ρ a w hs he hn hK
  simp only [low] at hl
  split at hl
  case h_2 => cases hl
  rename_i sx h1
  injection hl with hl; subst hl
  simp only [evalC2] at hK
  obtain ⟨σ,x0,Inv,ls,lv,Lf,μ,i0,i1,i2,i3,i4⟩:=hK
  -- the frame at a loop's head
  have head:∀ (y:σ) (F1:Frz) (L1:Loc) (ρ1:Env) (a1:Act) (w1:World),(∀ t,a1.tmps.getD t undef = conc L1 (ρ1 t)) → (∀ j,j ∉ asgOf x → a1.tmps.getD j undef = a.tmps.getD j undef) → holds ls ((lv y).map .v) ρ1 →
    EnvOk (Lf y) (puts ls ((lv y).map .v) (overJ (asgOf x) (fun j => a1.tmps.getD j undef) ρ)) a1:=by
   intro y F1 L1 ρ1 a1 w1 heq hfr hh
   have base:∀ j k off,overJ (asgOf x) (fun j => a1.tmps.getD j undef) ρ j = .own k off → j ∉ asgOf x ∧ ρ j = .own k off:=by
    intro j k off e
    simp only [overJ] at e
    split at e
    ·cases e
    ·rename_i hm
     exact ⟨fun h => (by rw [mem?_eq.2 h] at hm; cases hm),e⟩
   have bel:∀ j ad i,overJ (asgOf x) (fun j => a1.tmps.getD j undef) ρ j = .el ad i → ρ j = .el ad i:=by
    intro j ad i e
    simp only [overJ] at e
    split at e
    ·cases e
    ·exact e
   refine ⟨fun j => ?_,fun j k off e => ?_,fun j ad i e => ?_⟩
   ·rcases holds_puts ls (lv y) ρ1 (overJ (asgOf x) (fun j => a1.tmps.getD j undef) ρ) heq hh j with ⟨v,h2,h3⟩ | h2
    ·rw [h2,h3]; rfl
    ·rw [h2]
     simp only [overJ]
     split
     ·rfl
     ·rename_i hm
      have hj:j ∉ asgOf x:=fun h => by rw [mem?_eq.2 h] at hm; cases hm
      rw [hfr j hj,he.eq j]
      cases e:ρ j with
      | v u => rfl
      | el u i => rfl
      | own k off =>
       obtain ⟨g,ty,cs,hg⟩:=he.own j k off e
       obtain ⟨cs',hg'⟩:=keeps_get (i3 y) hg
       simp only [conc,hg,hg']
   ·rcases puts_get_env ls (lv y) (overJ (asgOf x) (fun j => a1.tmps.getD j undef) ρ) j with h2 | ⟨v,h2⟩
    ·rw [h2] at e
     obtain ⟨_,e'⟩:=base j k off e
     obtain ⟨g,ty,cs,hg⟩:=he.own j k off e'
     obtain ⟨cs',hg'⟩:=keeps_get (i3 y) hg
     exact ⟨g,ty,cs',hg'⟩
    ·rw [h2] at e; cases e
   ·rcases puts_get_env ls (lv y) (overJ (asgOf x) (fun j => a1.tmps.getD j undef) ρ) j with h2 | ⟨v,h2⟩
    ·rw [h2] at e
     exact he.el j ad i (bel j ad i e)
    ·rw [h2] at e; cases e
  refine wp_loop_n (fun n a1 w1 => ∃ (y:σ) (F1:Frz),n = μ y ∧ F.le F1 ∧ Inv y F1 ∧ St F1 (Lf y) w1 ∧ a1.tmps.size = A.n ∧ a1.defers = a.defers ∧ Step F L w F1 (Lf y) w1 ∧ (∀ j,j ∉ asgOf x → a1.tmps.getD j undef = a.tmps.getD j undef) ∧
   EnvOk (Lf y) (puts ls ((lv y).map .v) (overJ (asgOf x) (fun j => a1.tmps.getD j undef) ρ)) a1) ?_ ?_
  ·exact ⟨_,x0,F,rfl,Frz.le_refl F,i0,hs.givesR i2,hn,rfl,givesR_step i2,fun _ _ => rfl,head x0 F L ρ a w he.eq (fun _ _ => rfl) i1⟩
  ·rintro n a1 w1 ⟨y,F1,rfl,hle,hinv,hs1,hn1,hd1,hst1,hfr1,he1⟩
   refine wp_mono (ih h1 hs1 he1 hn1 (i4 y F1 _ hle hinv ⟨w1,hs1⟩)) ?_
   intro e a2 w2 hq
   cases e with
   | normal =>
    obtain ⟨F2,L2,ρ2,g1,g2,g3,g4,g5,g6,⟨y',k1,k2,k3,k4⟩⟩:=hq
    have hfr2:∀ j,j ∉ asgOf x → a2.tmps.getD j undef = a.tmps.getD j undef:=fun j hj => by rw [g6 j hj,hfr1 j hj]
    exact ⟨μ y',k4,y',F2,rfl,Frz.le_trans hle g5.le,k1,g1.givesR k3,g3,g4.trans hd1,(hst1.trans g5).trans (givesR_step k3),hfr2,head y' F2 L2 ρ2 a2 w2 g2.eq hfr2 k2⟩
   | exit j => exact Next2.after hst1 hd1 hfr1 hq (fun j h => h) (fun j h => h)
   | ret => exact Next2.after hst1 hd1 hfr1 hq (fun j h => h) (fun j h => h)
   | goto l => exact hq
   | panic c => exact (noPan hq).elim
   | outgrown => exact hq
 | rangeFunc f ps x y ihx ihy => intro sc hl; simp only [low] at hl; cases hl
 | scope x ih =>
  intro sc hl E R N F L ρ a w hs he hn hK
  simp only [low] at hl
  refine wp_scope_straight (wp_mono (ih hl hs he hn hK) ?_)
  intro e a1 w1 hq
  cases e <;> exact hq
 | goto l => intro sc hl; simp only [low] at hl; cases hl
 | refuse why => intro sc hl; simp only [low] at hl; cases hl
theorem callsA2_of {f:FuncId} {fn:Func} {c:Code} {sc:SCode} {A:Ann} {rs:List RV} {F:Frz} {Lin:List Own} {R:Frz → List Own → Value → Prop} (svs:List SV)
  (hf:P.funcs[f]? = some fn) (hb:fn.body = some c) (hname:(fn.name == "runtime.NumGoroutine") = false) (hl:low P A c = some sc) (hn:fn.ntmps = A.n) (hres:resOk P fn.results.toList = some rs) (hlen:svs.length ≤ A.n)
  (hown:∀ v ∈ svs,(∀ k off,v = .own k off → ∃ g ty cs,(inp Lin).get k = some (.box g ty cs)) ∧ (∀ ad j,v = .el ad j → ad ≠ none))
  (hmono:∀ F G L v,F.le G → R F L v → R G L v)
  (h:evalC2 P sc (fun _ _ _ _ => False) (fun F' L' ρ' => retV L' ρ' rs fun vs => RetPt F' L' (resVal vs) R) (fun F' L' ρ' => retV L' ρ' rs fun vs => RetPt F' L' (resVal vs) R) F (inp Lin) (argE 0 svs)) :
  CallsA P f (svs.map (conc (inp Lin))).toArray F Lin R:=by
 refine ⟨⟨fn,hf,by rw [hb]; rfl,hname⟩,hmono,fun w hs => ?_⟩
 refine calls_of_wp hf hb ?_
 have he:EnvOk (inp Lin) (argE 0 svs) { tmps:=(svs.map (conc (inp Lin))).toArray ++ Array.replicate (fn.ntmps - (svs.map (conc (inp Lin))).toArray.size) undef,defers:=[] }:=by
  have hin:∀ t,argE 0 svs t = .v undef ∨ argE 0 svs t ∈ svs:=by
   intro t
   rw [argE_get]
   simp only [Nat.zero_le,if_true,Nat.sub_zero]
   cases e:svs[t]? with
   | none => exact .inl rfl
   | some v => exact .inr (List.mem_of_getElem? e)
  refine ⟨fun t => ?_,fun t k off e => ?_,fun t ad j e => ?_⟩
  ·rw [argE_get]
   simp only [Nat.zero_le,if_true,Nat.sub_zero,Array.getD_eq_getD_getElem?]
   cases e:svs[t]? with
   | some v =>
    have hlt:t < svs.length:=(List.getElem?_eq_some_iff.1 e).1
    rw [Array.getElem?_append_left (by simpa using hlt)]
    simp [e]
   | none =>
    have hge:svs.length ≤ t:=List.getElem?_eq_none_iff.1 e
    rw [Array.getElem?_append_right (by simpa using hge)]
    simp only [Array.getElem?_replicate,Option.getD_none,conc]
    split <;> rfl
  ·rcases hin t with h1 | h1
   ·rw [h1] at e; cases e
   ·exact (hown _ h1).1 k off e
  ·rcases hin t with h1 | h1
   ·rw [h1] at e; cases e
   ·exact (hown _ h1).2 ad j e
 refine wp_mono (evalC2_sound c hl hs he (by simp [hn]; omega) h) ?_
 intro e a' w' hq
 have fin:∀ {a0:Act},Next2 A.n F (inp Lin) w a0 (asgOf c) (fun F' L' ρ' => retV L' ρ' rs fun vs => RetPt F' L' (resVal vs) R) a' w' → a'.defers = a0.defers ∧ ∃ v,(results fn a'.tmps).run P w' = .ok v w' ∧
   ∃ v' F' Lo,Ending.returned v = .returned v' ∧ St F' (inp Lo) w' ∧ Step F (inp Lin) w F' (inp Lo) w' ∧ R F' Lo v':=by
  rintro a0 ⟨F',L',ρ',g1,g2,g3,g4,g5,g6,hret⟩
  obtain ⟨vs,hm,⟨ko,Lo,k1,k2,k3⟩⟩:=retV_run g1 g2 hres hret
  refine ⟨g4,resVal vs,?_,resVal vs,F',Lo,rfl,g1.handed k1 k2,?_,k3⟩
  ·rw [results_eq]
   rw [Array.mapM_eq_mapM_toList]
   simp only [Sem.run_bind,Sem.run_map]
   rw [hm]
   simp only [Result.andThen_ok,Sem.run_pure]
   congr 1
   match vs with
   | [] => rfl
   | [t] => rfl
   | t :: u :: r =>
    simp only [resVal]
    rw [dif_neg (by simp)]
  ·obtain ⟨e1,e2⟩:=sub_get k1
   refine ⟨g5.le,g5.os,g5.tape,g5.output,g5.size,g5.same,g5.frz,fun b hb => g5.own b ?_⟩
   obtain ⟨j,p,e,hb⟩:=hb
   rw [inp_get] at e
   split at e
   case isFalse => cases e
   have hlt:j - 1000 < Lo.length:=(List.getElem?_eq_some_iff.1 e).1
   have hk:ko[j - 1000]? = some (ko[j - 1000]'(by omega)):=List.getElem?_eq_getElem (by omega)
   exact ⟨_,p,by rw [e2 _ _ hk]; exact e,hb⟩
 cases e with
 | normal => exact fin hq
 | ret => exact fin hq
 | exit j => obtain ⟨F',L',ρ',_,_,_,_,_,_,h⟩:=hq; exact h.elim
 | goto l => exact hq.elim
 | panic c => exact (noPan hq).elim
 | outgrown => exact hq.elim
theorem callsA2_facts {f:FuncId} {fn:Func} {sc:SCode} {A:Ann} {rs:List RV} {F:Frz} {Lin:List Own} {R:Frz → List Own → Value → Prop} {args:Array Value} (svs:List SV)
  (hf:P.funcs[f]? = some fn) (hfacts:factsOf P A fn = some (sc,A.n,rs,false)) (hlen:Nat.ble svs.length A.n = true) (hargs:args = (svs.map (conc (inp Lin))).toArray)
  (hown:∀ v ∈ svs,(∀ k off,v = .own k off → ∃ g ty cs,(inp Lin).get k = some (.box g ty cs)) ∧ (∀ ad j,v = .el ad j → ad ≠ none))
  (hmono:∀ F G L v,F.le G → R F L v → R G L v)
  (h:evalC2 P sc (fun _ _ _ _ => False) (fun F' L' ρ' => retV L' ρ' rs fun vs => RetPt F' L' (resVal vs) R) (fun F' L' ρ' => retV L' ρ' rs fun vs => RetPt F' L' (resVal vs) R) F (inp Lin) (argE 0 svs)) :
  CallsA P f args F Lin R:=by
 subst hargs
 unfold factsOf at hfacts
 split at hfacts
 case h_2 => cases hfacts
 rename_i c hb
 split at hfacts
 case h_2 => cases hfacts
 rename_i sc' rs' h1 h2
 injection hfacts with hfacts
 injection hfacts with e1 e2
 injection e2 with e2 e3
 injection e3 with e3 e4
 subst e1 e3
 exact callsA2_of svs hf hb e4 h1 e2 h2 (Nat.le_of_ble_eq_true hlen) hown hmono h
end
end Go.Fr
namespace Go.Fr.T
open Go Go.RowKit Go.Fr
abbrev bval (b:UInt8):Value:=.int .u8 b.toNat
def bvals (p:List UInt8):List Value:=p.map fun b => Value.int .u8 b.toNat
theorem bvals_len (p:List UInt8):(bvals p).length = p.length:=by simp [bvals]
theorem bvals_app (p q:List UInt8):bvals (p ++ q) = bvals p ++ bvals q:=by simp [bvals]
theorem bvals_ones (p:List UInt8):∀ u ∈ bvals p,u.oneCell' = true:=by
 intro u h
 simp only [bvals,List.mem_map] at h
 obtain ⟨b,_,rfl⟩:=h
 rfl
section
variable {F:Frz} {L:Loc}
theorem RelRow_bvals:∀ {p:List UInt8} {xs:List Value},RelRow F 1 (bcells p) xs → xs = bvals p
 | [],xs,h => by simpa [bcells,RelRow,bvals] using h
 | b :: p,xs,h => by
  simp only [bcells,List.map_cons,RelRow] at h
  obtain ⟨vs,xs',rfl,h1,h2,h3,h4⟩:=h
  simp only [Rels,Rel] at h3
  obtain ⟨v,vs',rfl,⟨rfl,_⟩,rfl⟩:=h3
  rw [RelRow_bvals (p:=p) h4]
  rfl
theorem RelRow_of_bvals (p:List UInt8):RelRow F 1 (bcells p) (bvals p):=RelRow_bytes p
theorem sl_bytes {p:List UInt8} {v:Value} (h:Rel F L (.sl (bcells p)) v):∃ a c,v = .slice a p.length c ∧ p.length ≤ c ∧ p.length ≤ maxLen ∧ (FCells F a 0 (bvals p) ∨ (p.length = 0 ∧ bvals p = [])):=by
 have hn:(bcells p).length = p.length:=by simp [bcells]
 have h0:=h
 simp only [Rel] at h0
 obtain ⟨a,c,h1,h2,h3,h4,sz,h5⟩:=h0
 obtain ⟨xs,e1,e2,e3⟩:=RelS_flat (sz:=1) h5 (fun es he => by simp only [bcells,List.mem_map] at he; obtain ⟨b,_,rfl⟩:=he; rfl)
 have e4:=RelRow_bvals e3
 subst e4
 rw [hn] at h1 h2 h3 e2
 exact ⟨a,c,h1,h2,h3,e2⟩
theorem bytes_sl {p:List UInt8} {ad:Addr} {c:Nat} (h:FCells F (some ad) 0 (bvals p)) (h1:p.length ≤ c) (h2:p.length ≤ maxLen):Rel F L (.sl (bcells p)) (.slice (some ad) p.length c):=by
 have hn:(bcells p).length = p.length:=by simp [bcells]
 simp only [Rel]
 exact ⟨some ad,c,by rw [hn],by omega,by omega,fun e => (by cases e),1,(RelRow_bytes p).frz h⟩
theorem puts_same {asg:List Nat} {jk:Nat → Value} {ρ:Env}:∀ {us:List Nat} {uv:List SV},holds us uv ρ → (us.all fun j => !mem? asg j) = true → puts us uv (overJ asg jk ρ) = overJ asg jk ρ
 | [],_,_,_ => rfl
 | _ :: _,[],_,_ => rfl
 | k :: ks,v :: vs,h,hd => by
  simp only [List.all_cons,Bool.and_eq_true] at hd
  simp only [puts]
  rw [puts_same h.2 hd.2]
  have hk:mem? asg k = false:=by simpa using hd.1
  funext j
  simp only [put]
  cases hb:Nat.beq j k with
  | false => rfl
  | true =>
   have:=Nat.eq_of_beq_eq_true hb
   subst this
   simp only [overJ,hk]
   exact h.1.symm
variable {P:Program} {f:Nat} {vs:List Value} {K:Frz → Loc → Value → Prop}
end
end Go.Fr.T
