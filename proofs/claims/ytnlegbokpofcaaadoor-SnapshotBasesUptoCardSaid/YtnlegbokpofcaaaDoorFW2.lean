/- Part of the proofs of the statements of this seat. -/
import Derived.Test.YtnlegbokpofcaaaDoorFW1
set_option maxRecDepth 10000
set_option linter.unusedVariables false
set_option linter.unusedSimpArgs false
namespace Go.Fr.T
open Go Go.RowKit Go.Fr
def gk (Li:List Own) (R:List TO->C->Prop):aA->List Own->Value->Prop:=fun F Lo v =>
 ∃Mo c,Mo.length=Lo.length/\cO F (inp Lo) (iO Mo)/\Rel F (inp Lo) c v/\(∀(i:Nat) g t cs,Li[i]?=some (.box g t cs)->∃cs',Lo[i]?=some (.box g t cs'))/\R Mo c
structure CallsT (P:Program) (f:Nat) (args:List C) (Lin:List TO) (R:List TO->C->Prop):Prop where
 out:∀(F:aA) (Li:List Own) (vs:List Value),Li.length=Lin.length->cO F (inp Li) (iO Lin)->aB F (inp Li) args vs->CallsA P f vs.toArray F Li (gk Li R)
structure CallsTX (P:Program) (f:Nat) (args:List C) (Lin:List TO) (R:List TO->C->Prop) (Pp:Value->Prop):Prop where
 out:∀(F:aA) (Li:List Own) (vs:List Value),Li.length=Lin.length->cO F (inp Li) (iO Lin)->aB F (inp Li) args vs->sO P f vs.toArray F Li (gk Li R) Pp
theorem CallsT.toX {P:Program}{f:Nat}{args:List C}{Lin:List TO}{R:List TO->C->Prop}{Pp:Value->Prop}(h:CallsT P f args Lin R):CallsTX P f args Lin R Pp:=⟨fun F Li vs b a c=>(h.out F Li vs b a c).toX⟩
def aQ:List TO->List Nat->List Nat->Bool
 | .box _ _::l,k::ks,a::ko=>match Nat.beq k a with | true=>aQ l ks ko | false=>false
 | .box _ _::_,_,_=>false
 | .map _::l,k::ks,a::ko=>match Nat.beq k a with | true=>aQ l ks ko | false=>false
 | .map _::_,_,_=>false
 | .win _ _ _ _::l,k::ks,a::ko=>match Nat.beq k a with | true=>aQ l ks ko | false=>false
 | .win _ _ _ _::_,_,_=>false
 | .row _ _ _::l,_::ks,_::ko=>aQ l ks ko
 | .row _ _ _::l,_::ks,[]=>aQ l ks []
 | .row _ _ _::_,[],_=>false
 | [],_,_=>true
def lm (L:TL) (ks:List Nat):List Nat->Bool
 | []=>true
 | k::ko=>match fo ks k,L.get k with
  | true,_=>lm L ks ko
  | false,none=>lm L ks ko
  | false,some _=>false
def covers:TL->TL->Bool
 | [],_=>true
 | (k,_)::l,L1=>match L1.get k with | some _=>covers l L1 | none=>false
def lX:TL->TL->Bool
 | [],_=>true
 | (k,.box _ _)::l,L1=>match L1.get k with | some (.box _ _)=>lX l L1 | _=>false
 | (k,.map _)::l,L1=>match L1.get k with | some (.map _)=>lX l L1 | _=>false
 | (k,.win _ _ _ _)::l,L1=>match L1.get k with | some (.win _ _ _ _)=>lX l L1 | _=>false
 | (_,.row _ _ _)::l,L1=>lX l L1
def TL.kills (ks:List Nat) (L:TL):TL:=match ks with | []=>L | _=>L.Wj (C.kills ks)
def eI (ks:List Nat) (ρ:aT):aT:=match ks with | []=>ρ | _=>fun j=>(ρ j).kills ks
def rowsOf (L:TL):List Nat->List Nat
 | []=>[]
 | k::ks=>match L.get k with
  | some (.row _ _ _)=>k::rowsOf L ks
  | _=>rowsOf L ks
def Oq (Li Lo:List Own):Prop:=Lo.length=Li.length/\∀(i:Nat) o,Li[i]?=some o->∃o',Lo[i]?=some o'/\Own.like o o'
structure zy (P:Program) (f:Nat) (args:List C) (Lin:List TO) (R:List TO->C->Prop):Prop where
 out:∀(F:aA) (Li:List Own) (vs:List Value),Li.length=Lin.length->cO F (inp Li) (iO Lin)->aB F (inp Li) args vs->CallsA P f vs.toArray F Li (fun F' Lo v=>gk Li R F' Lo v/\Oq Li Lo)
inductive pL (P:Program) (f:Nat) (args:List C) (L:TL) (ρ:aT) (K:TL->aT->C->Prop):Prop
 | mk (out:∃(fz ks ko:List Nat),vP fz L ρ args fun L ρ args =>
  ∃(L1:TL) (Lin:List TO) (R:List TO->C->Prop),(L1=L\/(gives L L1 L1/\covers L L1=true))/\L1.sub ks=some Lin/\bE ks=true/\bE ko=true/\lm L1 ks ko=true/\aQ Lin ks ko=true /\
   CallsT P f (args.map fun c=>c.Wo.ren (cj ks 1000)) (Lin.map (TO.Wj (C.ren (cj ks 1000)))) R /\
   ∀v Mo,R Mo v->Wf v->(∀o∈Mo,o.Wf)->ko.length=Mo.length /\
    K (((L1.Wi ks).kills (rowsOf L1 ks)).puts ko (Mo.map (TO.Wj (C.ren (aW ko))))) (eI (rowsOf L1 ks) ρ) (v.ren (aW ko)).slt)
 | inpl (ks:List Nat) (Lin:List TO) (R:List TO->C->Prop) (hs:L.sub ks=some Lin) (hn:bE ks=true) (h:zy P f (args.map fun c=>c.Wo.ren (cj ks 1000)) (Lin.map (TO.Wj (C.ren (cj ks 1000)))) R)
   (k:∀v Mo,R Mo v->Wf v->(∀o∈Mo,o.Wf)->ks.length=Mo.length/\K ((L.Wi ks).puts ks (Mo.map (TO.Wj (C.ren (aW ks))))) ρ (v.ren (aW ks)).slt)
structure oV where
 ps:Value->Prop
 hb:List (Nat×Nat):=[]
 st:Option (TL->Value->Prop):=none
def kR (L:TL) (ks:List Nat):List (Nat×Nat)->Bool
 | []=>true
 | (k,n)::l=>match fo ks k,L.get k with
  | false,some (.box _ cs)=>match cT cs n with | true=>kR L ks l | false=>false
  | _,_=>false
structure kh (P:Program) (f:Nat) (args:List C) (Lin:List TO) (R:List TO->C->Prop) (Pp:Value->Prop):Prop where
 out:∀(F:aA) (Li:List Own) (vs:List Value),Li.length=Lin.length->cO F (inp Li) (iO Lin)->aB F (inp Li) args vs->sO P f vs.toArray F Li (fun F' Lo v=>gk Li R F' Lo v/\Oq Li Lo) Pp
inductive n9 (P:Program) (PS:oV) (f:Nat) (args:List C) (L:TL) (ρ:aT) (K:TL->aT->C->Prop):Prop
 | mk (out:∃(fz ks ko:List Nat),vP fz L ρ args fun L ρ args =>
  ∃(L1:TL) (Lin:List TO) (R:List TO->C->Prop) (Pp:Value->Prop),(L1=L\/(gives L L1 L1/\covers L L1=true))/\L1.sub ks=some Lin/\bE ks=true/\bE ko=true/\lm L1 ks ko=true/\aQ Lin ks ko=true/\kR L1 ks PS.hb=true /\
   CallsTX P f (args.map fun c=>c.Wo.ren (cj ks 1000)) (Lin.map (TO.Wj (C.ren (cj ks 1000)))) R Pp/\(∀v,Pp v->PS.ps v) /\
   ∀v Mo,R Mo v->Wf v->(∀o∈Mo,o.Wf)->ko.length=Mo.length /\
    K (((L1.Wi ks).kills (rowsOf L1 ks)).puts ko (Mo.map (TO.Wj (C.ren (aW ko))))) (eI (rowsOf L1 ks) ρ) (v.ren (aW ko)).slt)
 | inpl (ks:List Nat) (Lin:List TO) (R:List TO->C->Prop) (Pp:Value->Prop) (hs:L.sub ks=some Lin) (hn:bE ks=true) (hh:kR L ks PS.hb=true) (h:kh P f (args.map fun c=>c.Wo.ren (cj ks 1000)) (Lin.map (TO.Wj (C.ren (cj ks 1000)))) R Pp) (hp:∀v,Pp v->PS.ps v)
   (k:∀v Mo,R Mo v->Wf v->(∀o∈Mo,o.Wf)->ks.length=Mo.length/\K ((L.Wi ks).puts ks (Mo.map (TO.Wj (C.ren (aW ks))))) ρ (v.ren (aW ks)).slt)
structure CallsTS (P:Program) (f:Nat) (args:List C) (Lin:List TO) (R:List TO->C->Prop) (Pp:List TO->Value->Prop):Prop where
 out:∀(F:aA) (Li:List Own) (vs:List Value),Li.length=Lin.length->cO F (inp Li) (iO Lin)->aB F (inp Li) args vs->uJ P f vs.toArray F Li (gk Li R) (fun F' Lo v=>∃Mo,Mo.length=Lo.length/\cO F' (inp Lo) (iO Mo)/\Pp Mo v)
structure zA (P:Program) (ps:Value->Prop) (hb:List (Nat×Nat)) (st:TL->Value->Prop) (f:Nat) (args:List C) (L:TL) (ρ:aT) (K:TL->aT->C->Prop):Prop where
 out:∃(ks ko:List Nat) (L1:TL) (Lin:List TO) (R:List TO->C->Prop) (Pp:List TO->Value->Prop),(L1=L\/(gives L L1 L1/\covers L L1=true))/\L1.sub ks=some Lin/\bE ks=true/\bE ko=true/\lm L1 ks ko=true/\aQ Lin ks ko=true/\kR L1 ks hb=true /\
   CallsTS P f (args.map fun c=>c.Wo.ren (cj ks 1000)) (Lin.map (TO.Wj (C.ren (cj ks 1000)))) R Pp /\
   (∀v Mo,Pp Mo v->(∀o∈Mo,o.Wf)->ks.length=Mo.length->ps v/\st (((L1.Wi ks).kills (rowsOf L1 ks)).puts ks (Mo.map (TO.Wj (C.ren (aW ks))))) v) /\
   ∀v Mo,R Mo v->Wf v->(∀o∈Mo,o.Wf)->ko.length=Mo.length /\
    K (((L1.Wi ks).kills (rowsOf L1 ks)).puts ko (Mo.map (TO.Wj (C.ren (aW ko))))) (eI (rowsOf L1 ks) ρ) (v.ren (aW ko)).slt
def vQ:List C->Option (List Value)
 | []=>some []
 | .int k n::l=>match vQ l with | some vs=>some (.int k n::vs) | none=>none
 | .bool b::l=>match vQ l with | some vs=>some (.bool b::vs) | none=>none
 | .str s::l=>match vQ l with | some vs=>some (.string s::vs) | none=>none
 | _=>none
def Bb:C->Option Value
 | .ifc t (.int k n)=>some (.iface t (.int k n))
 | .ifc t (.bool b)=>some (.iface t (.bool b))
 | .ifc t (.str s)=>some (.iface t (.string s))
 | .ifc t (.agg cs)=>match vQ cs with | some vs=>some (.iface t (.agg vs.toArray)) | none=>none
 | _=>none
structure Ot (PS:oV) (L:TL) (c:C):Prop where
 out:∃v,Bb c=some v/\kR L [] PS.hb=true/\PS.ps v
structure P4 (ps:Value->Prop) (hb:List (Nat×Nat)) (st:TL->Value->Prop) (L:TL) (c:C):Prop where
 out:∃v,Bb c=some v/\kR L [] hb=true/\ps v/\st L v
inductive Cs (P:Program) (f:Nat) (args:List C) (L:TL) (ρ:aT) (K:TL->aT->C->Prop):Prop
 | mk (out:∃(ks ko:List Nat) (Lin:List TO) (R:List TO->C->Prop),L.sub ks=some Lin/\bE ks=true/\bE ko=true/\lm L ks ko=true/\aQ Lin ks ko=true /\
   CallsT P f (args.map fun c=>c.Wo.ren (cj ks 1000)) (Lin.map (TO.Wj (C.ren (cj ks 1000)))) R /\
   ∀v Mo,R Mo v->Wf v->(∀o∈Mo,o.Wf)->ko.length=Mo.length /\
    K (((L.Wi ks).kills (rowsOf L ks)).puts ko (Mo.map (TO.Wj (C.ren (aW ko))))) (eI (rowsOf L ks) ρ) (v.ren (aW ko)).slt)
 | inpl (ks:List Nat) (Lin:List TO) (R:List TO->C->Prop) (hs:L.sub ks=some Lin) (hn:bE ks=true) (h:zy P f (args.map fun c=>c.Wo.ren (cj ks 1000)) (Lin.map (TO.Wj (C.ren (cj ks 1000)))) R)
   (k:∀v Mo,R Mo v->Wf v->(∀o∈Mo,o.Wf)->ks.length=Mo.length/\K ((L.Wi ks).puts ks (Mo.map (TO.Wj (C.ren (aW ks))))) ρ (v.ren (aW ks)).slt)
def vR:List Nat->List Nat->Bool
 | [],_=>true
 | k::ks,a=>match fo a k with | true=>false | false=>vR ks a
structure mN (P:Program) (PS:oV) (fb:List Nat) (f:Nat) (args:List C) (L:TL) (ρ:aT) (K:TL->aT->C->Prop):Prop where
 out:∃(ks:List Nat) (Lin:List TO) (R:List TO->C->Prop) (Pp:Value->Prop),L.sub ks=some Lin/\bE ks=true/\vR ks fb=true/\aQ Lin ks ks=true/\kR L ks PS.hb=true /\
   CallsTX P f (args.map fun c=>c.Wo.ren (cj ks 1000)) (Lin.map (TO.Wj (C.ren (cj ks 1000)))) R Pp/\(∀v,Pp v->PS.ps v) /\
   ∀v Mo,R Mo v->Wf v->(∀o∈Mo,o.Wf)->ks.length=Mo.length /\
    K (((L.Wi ks).kills (rowsOf L ks)).puts ks (Mo.map (TO.Wj (C.ren (aW ks))))) (eI (rowsOf L ks) ρ) (v.ren (aW ks)).slt
structure uP (P:Program) (ps:Value->Prop) (hb:List (Nat×Nat)) (st:TL->Value->Prop) (fb:List Nat) (f:Nat) (args:List C) (L:TL) (ρ:aT) (K:TL->aT->C->Prop):Prop where
 out:∃(ks:List Nat) (Lin:List TO) (R:List TO->C->Prop) (Pp:List TO->Value->Prop),L.sub ks=some Lin/\bE ks=true/\vR ks fb=true/\aQ Lin ks ks=true/\kR L ks hb=true /\
   CallsTS P f (args.map fun c=>c.Wo.ren (cj ks 1000)) (Lin.map (TO.Wj (C.ren (cj ks 1000)))) R Pp /\
   (∀v Mo,Pp Mo v->(∀o∈Mo,o.Wf)->ks.length=Mo.length->ps v/\st (TL.puts [] ks (Mo.map (TO.Wj (C.ren (aW ks))))) v) /\
   ∀v Mo,R Mo v->Wf v->(∀o∈Mo,o.Wf)->ks.length=Mo.length /\
    K (((L.Wi ks).kills (rowsOf L ks)).puts ks (Mo.map (TO.Wj (C.ren (aW ks))))) (eI (rowsOf L ks) ρ) (v.ren (aW ks)).slt
def lY (P:Program) (f:Nat):Prop:=∃fn,P.funcs[f]?=some fn/\fn.body.isSome=true/\(fn.name == "runtime.NumGoroutine")=false
structure Ov (P:Program) (f:Nat) (args:List C) (t sz:Nat) (els:List (List C)) (x:C):Prop where
 out:∀(F:aA) (rv:Value) (xs vs:List Value),cN F (inp [.row rv t sz els.length xs]) (.row t sz els) (.row rv t sz els.length xs)->aB F (inp [.row rv t sz els.length xs]) args vs ->
  CallsA P f vs.toArray F [.row rv t sz els.length xs] (fun F' Lo v=>Lo=[.row rv t sz els.length xs]/\Rel F' (inp []) x v)
inductive vS (P:Program) (f:Nat) (args:List C) (L:TL) (ρ:aT) (d:Option Nat) (K:TL->aT->C->Prop):Prop
 | frz (R:List TO->C->Prop) (h:CallsT P f (args.map fun c=>c.Wo.ren (cj [] 1000)) [] R) (k:∀v Mo,R Mo v->Wf v->Mo=[]/\K L ρ v.slt)
 | own (R:List TO->C->Prop) (k:Nat) (h:CallsT P f (args.map fun c=>c.Wo.ren (cj [] 1000)) [] R) (hd:d=some k) (hk:L.get k=none)
   (kk:∀v Mo,R Mo v->Wf v->(∀o∈Mo,o.Wf)->∃o,Mo=[o]/\K (L.set k (o.Wj (C.ren (aW [k])))) ρ (v.ren (aW [k])).slt)
 | row (R:List TO->C->Prop) (kr t sz:Nat) (els:List (List C)) (he:lY P f) (hk:L.get kr=some (.row t sz els)) (h:CallsT P f (args.map fun c=>(c.frz kr els).Wo.ren (cj [] 1000)) [] R)
   (kk:∀v Mo,R Mo v->Wf v->Mo=[]/\K ((L.Wj (C.kill kr)).set kr (.row t sz [])) (fun j=>(ρ j).kill kr) v.slt)
 | lent (kr t sz:Nat) (els:List (List C)) (x:C) (hk:L.get kr=some (.row t sz els)) (h:Ov P f (args.map fun c=>c.Wo.ren (cj [kr] 1000)) t sz els x) (k:Wf x->K L ρ x.slt)
def MP:Value->C
 | .int k n=>.int k n
 | .bool b=>.bool b
 | .string s=>.str s
 | _=>.any
def isNil:X->Bool
 | .c (.slice none 0 0)=>true
 | _=>false
def Ct:X->Bool
 | .c (.pointer none)=>true
 | _=>false
def Cu:X->Bool
 | .c .nilFunc=>true
 | _=>false
def tj:List Bool->List C->List C->Bool->Option Bool
 | [],[],[],c=>some c
 | true::ks,.int k a::l,.int e b::d,c=>match oZ k e with | true=>tj ks l d (c&&decide (a=b)) | false=>none
 | false::ks,.bool a::l,.bool b::d,c=>tj ks l d (c&&decide (a=b))
 | _,_,_,_=>none
structure ES (P:Program) (t:TypeId) (nm:String) (K:Nat->Prop):Prop where
 out:∃f,m9 P t nm=some f/\K f
def LQ (P:Program) (t:TypeId):Bool:=match P.underlying t with | some (.interface _)=>true | _=>false
def zB (ρ:aT):List (Nat×Nat×X)->List C->(List C->Prop)->Prop
 | [],zs,K=>K zs
 | (off,n,x)::ps,zs,K=>match(bV ρ x).okc,cT (bS (bV ρ x)) n with
  | true,true=>fl (bS (bV ρ x)) fun vs=>fl (eH zs off vs) fun zs=>zB ρ ps zs K
  | _,_=>False
theorem tq {ρ:aT}:∀{ps:List (Nat×Nat×X)}{zs:List C}{K:List C->Prop},zB ρ ps zs K->∃cs,s8 ρ zs ps=some cs/\K cs
 | [],zs,K,h=>⟨zs,rfl,h⟩
 | (off,n,x)::ps,zs,K,h=>by
  simp only[zB] at h;simp only[s8];split at h
  ·rename_i b a;rw[dV,dV] at h
   first
   | exact tq h
   | (rw[b,a];exact tq h)
  ·exact h.elim
structure MQ (k:Nat) (K:Nat->Prop):Prop where
 out:∃n,FN k=some n/\n<=9223372036854775807/\K n
def Ir (t:Nat):Bool:=match Nat.beq t 0 with | true=>false | false=>Nat.ble t 1048575
structure MR (pre:List C) (off:Nat) (cs:List C) (n:Nat) (K:List C->Prop):Prop where
 out:(∃o,off=pre.length+o/\match cT ((cs.drop o).take n) n with | true=>K ((cs.drop o).take n) | false=>False)\/∃vs,(pre.drop off).take n=vs/\cT vs n=true/\K vs
structure P5 (pre:List C) (off:Nat) (cs:List C) (n:Nat) (vs:List C) (K:Nat->Prop) (K':List C->Prop):Prop where
 out:(∃o,off=pre.length+o/\match cT ((cs.drop o).take n) n with | true=>K o | false=>False)\/∃pre',off+n<=pre.length/\dF vs=true/\eH pre off vs=pre'/\K' pre'
structure P6 (offs:List Nat) (j:Nat) (K:Nat->Prop):Prop where
 out:∃o,offs[j]?=some o/\K o
def uc (k:Nat) (ρ:aT):List X->Option (List Nat)
 | []=>some []
 | x::xs=>match(bV ρ x).cel,uc k ρ xs with
  | .own j off,some l=>match Nat.beq j k with | true=>some (off::l) | false=>none
  | _,_=>none
def outT (o:dS) (L:TL) (ρ:aT) (V:C->Prop):Prop :=
 match o with
 | .mov x=>V (bV ρ x)
 | .pick c a b=>match bV ρ c with
  | .bool t=>vh t (V (bV ρ a)) (V (bV ρ b))
  | _=>False
 | .build zs ps=>fl (zs.map qI) fun zs=>zB ρ ps zs fun cs=>V (.agg cs)
 | .load agg n x=>match bV ρ x with
  | .own k off=>match L.get k with
   | some (.box _ cs)=>match cT ((cs.drop off).take n) n with
    | true=>V (zx agg ((cs.drop off).take n))
    | false=>False
   | some (.win _ pre cs _)=>MR pre off cs n fun vs=>V (zx agg vs)
   | _=>False
  | .pt es off=>match cT ((es.drop off).take n) n with
   | true=>V (zx agg ((es.drop off).take n))
   | false=>False
  | .ownv k off=>match L.get k with
   | some (.box _ cs)=>match cT ((cs.drop off).take n) n with
    | true=>V (zx agg ((cs.drop off).take n))
    | false=>False
   | some (.win _ pre cs _)=>MR pre off cs n fun vs=>V (zx agg vs)
   | _=>False
  | .elr k j off=>match L.get k with
   | some (.row _ _ els)=>Jl els j off n fun cs=>V (zx agg cs)
   | _=>False
  | .slp k d j=>match agg,Nat.beq n 1 with
   | false,true=>P6 d j fun o=>V (.ownv k o)
   | _,_=>False
  | _=>False
 | .loadR agg n x=>match bV ρ x with
  | .own k off=>match L.get k with
   | some (.box _ cs)=>match cT ((cs.drop off).take n) n with
    | true=>V (zx agg ((cs.drop off).take n))
    | false=>False
   | _=>False
  | .pt es off=>match cT ((es.drop off).take n) n with
   | true=>V (zx agg ((es.drop off).take n))
   | false=>False
  | .ownv k off=>match L.get k with
   | some (.box _ cs)=>match cT ((cs.drop off).take n) n with
    | true=>V (zx agg ((cs.drop off).take n))
    | false=>False
   | _=>False
  | .elr k j off=>match L.get k with
   | some (.row _ _ els)=>Jl els j off n fun cs=>V (zx agg cs)
   | _=>False
  | _=>False
 | .loadD agg n x=>match bV ρ x with
  | .own k off=>match L.get k with
   | some (.box _ cs)=>match cT ((cs.drop off).take n) n with
    | true=>V (zx agg ((cs.drop off).take n))
    | false=>False
   | some (.win _ pre cs _)=>MR pre off cs n fun vs=>V (zx agg vs)
   | _=>False
  | .pt es off=>match cT ((es.drop off).take n) n with
   | true=>V (zx agg ((es.drop off).take n))
   | false=>False
  | _=>False
 | .gload g=>match uH g with
  | some k=>V (.opq k)
  | none=>False
 | .loadF agg n x=>match bV ρ x with
  | .pt es off=>match cT ((es.drop off).take n) n with
   | true=>V (zx agg ((es.drop off).take n))
   | false=>False
  | _=>False
 | .loadK key agg n x=>match bV ρ x with
  | .own k off=>match Nat.beq k key with
   | true=>match L.get k with
    | some (.box _ cs)=>match cT ((cs.drop off).take n) n with
     | true=>V (zx agg ((cs.drop off).take n))
     | false=>False
    | _=>False
   | false=>False
  | _=>False
 | .b2sD x=>match(bV ρ x).can with
  | .sl els=>gR els fun bs=>V (.str ⟨bs.toArray⟩)
  | _=>False
 | .b2sR x=>match bV ρ x with
  | .rw k=>match L.get k with
   | some (.row _ sz els)=>match Nat.beq sz 1 with
    | true=>gR els fun bs=>V (.str ⟨bs.toArray⟩)
    | false=>False
   | _=>False
  | _=>False
 | .nilck x=>match bV ρ x with
  | .own k off=>V (.own k off)
  | .pt es off=>V (.pt es off)
  | .ownv k off=>V (.ownv k off)
  | .fn f fi ca=>V (.fn f fi ca)
  | .mval nm c=>match c with
   | .ifc t c=>LG Et t nm=true/\V (.mval nm (.ifc t c))
   | _=>False
  | .ifo (some nm) t k off=>LG Et t nm=true/\V (.ifo (some nm) t k off)
  | _=>False
 | .mkmv nm x=>match bV ρ x with
  | .ifc t c=>V (.mval nm (.ifc t c))
  | .ifo none t k off=>V (.ifo (some nm) t k off)
  | _=>False
 | .bin op x y=>match bV ρ x,bV ρ y with
  | .int k a,.int q b=>match FT op with
   | true=>shI op k a b fun v=>V (MP v)
   | false=>match oZ k q with
    | true=>binI op k a b fun v=>V (MP v)
    | false=>False
  | .str a,.str b=>binS op a b fun v=>V (MP v)
  | _,_=>False
 | .eqB neg x y=>match bV ρ x,bV ρ y with
  | .bool a,.bool b=>V (.bool (mU neg (decide (a=b))))
  | _,_=>False
 | .eqP neg x y=>match Ct y,bV ρ x with
  | true,.own _ _=>V (.bool (mU neg false))
  | true,.ownv _ _=>V (.bool (mU neg false))
  | true,.pt _ _=>V (.bool (mU neg false))
  | true,.nilp=>V (.bool (mU neg true))
  | _,_=>False
 | .eqS neg x y=>match isNil y,bV ρ x with
  | true,.sl els=>∀b,(els≠[]->b=false)->V (.bool (mU neg b))
  | true,.slx _=>V (.bool (mU neg false))
  | true,.nils=>V (.bool (mU neg true))
  | _,_=>False
 | .eqF neg x y=>match Cu y,bV ρ x with
  | true,.nilf=>V (.bool (mU neg true))
  | true,.fn _ _ _=>V (.bool (mU neg false))
  | _,_=>False
 | .eqN neg x=>match bV ρ x with
  | .ifc _ _=>V (.bool (mU neg false))
  | .ifo none _ _ _=>V (.bool (mU neg false))
  | .opq k=>match Cf k with
   | some b=>V (.bool (mU neg b))
   | none=>False
  | _=>False
 | .tas t z x=>match bV ρ x with
  | .ifc p c=>match Nat.beq p t with
   | true=>fc c fun c=>V (.tup [c,.bool true])
   | false=>fc (cv z).cel fun c=>V (.tup [c,.bool false])
  | .ifo none p k off=>match Nat.beq p t with
   | true=>V (.tup [.own k off,.bool true])
   | false=>fc (cv z).cel fun c=>V (.tup [c,.bool false])
  | _=>False
 | .eqA neg ks x y=>match bV ρ x,bV ρ y with
  | .agg cs,.agg ds=>match tj ks cs ds true with
   | some b=>V (.bool (mU neg b))
   | none=>False
  | _,_=>False
 | .mkif t x=>match bV ρ x with
  | .int k n=>V (.ifc t (.int k n))
  | .bool b=>V (.ifc t (.bool b))
  | .str s=>V (.ifc t (.str s))
  | .pt es off=>V (.ifc t (.pt es off))
  | .own k off=>V (.ifo none t k off)
  | .ownv k off=>V (.ifo none t k off)
  | .agg cs=>match dF cs with
   | true=>fl cs fun cs=>V (.ifc t (.agg cs))
   | false=>False
  | _=>False
 | .un op x=>match op,bV ρ x with
  | .not,.bool b=>V (.bool (!b))
  | .neg,.int k n=>Fit k (0-n) fun m=>V (.int k m)
  | .xor,.int k n=>V (.int k (k.wrap (BitVec.ofInt k.bits (if k.signed then -1 else k.max) ^^^ BitVec.ofInt k.bits n).toNat))
  | _,_=>False
 | .conv k x=>match bV ρ x with
  | .int _ n=>Fit k n fun m=>V (.int k m)
  | _=>False
 | .b2s x=>match(bV ρ x).can with
  | .sl els=>gR els fun bs=>V (.str ⟨bs.toArray⟩)
  | _=>False
 | .mkfn f fi ca=>V (.fn f (dM ρ fi) (dM ρ ca))
 | .slc sz x lo hi=>match(bV ρ x).can with
  | .sl els=>match ER ρ 0 lo,ER ρ els.length hi with
   | some l,some h=>AZ l h els sz fun l h=>V (.sl ((els.drop l).take (h-l)))
   | _,_=>False
  | _=>False
 | .slcS x lo hi=>match bV ρ x with
  | .str s=>match ER ρ 0 lo,ER ρ s.size hi with
   | some l,some h=>mJ l h s.size fun l h=>V (.str (s.extract l h))
   | _,_=>False
  | _=>False
 | .fieldA off x=>match bV ρ x with
  | .own k o=>V (.own k (o+off))
  | .pt es o=>V (.pt es (o+off))
  | .elr k j o=>V (.elr k j (o+off))
  | .ownv k o=>V (.ownv k (o+off))
  | _=>False
 | .fieldV agg off n x=>match bV ρ x with
  | .agg cs=>match cT ((cs.drop off).take n) n with
   | true=>V (zx agg ((cs.drop off).take n))
   | false=>False
  | _=>False
 | .idxA sz x i=>match(bV ρ x).can,bV ρ i with
  | .sl els,.int _ i=>Cr els i sz fun es=>V (.pt es 0)
  | .rw k,.int _ i=>match L.get k with
   | some (.row _ e els)=>match Nat.beq sz e with
    | true=>Mj i els.length (V (.elr k i.toNat 0))
    | false=>False
   | _=>False
  | .slo k d,.int _ i=>match Nat.beq sz 1 with
   | true=>Mj i d.length (V (.slp k d i.toNat))
   | false=>False
  | _,_=>False
 | .idxS x i=>match bV ρ x,bV ρ i with
  | .str s,.int _ i=>Mj i s.size (V (.int .u8 ((s.data.toList.getD i.toNat 0).toNat)))
  | _,_=>False
 | .extr x i=>match bV ρ x with
  | .tup vs=>match vs[i]? with
   | some v=>V v.slt
   | none=>False
  | _=>False
 | .len x=>match(bV ρ x).can with
  | .sl els=>V (.int .i64 els.length)
  | .rw k=>match L.get k with
   | some (.row _ _ els)=>V (.int .i64 els.length)
   | _=>False
  | .opq k=>MQ k fun n=>V (.int .i64 n)
  | .slo k d=>V (.int .i64 d.length)
  | _=>False
 | .lenS x=>match bV ρ x with
  | .str s=>V (.int .i64 s.size)
  | _=>False
 | .mlook str ok z x i=>match bV ρ x with
  | .mpr k=>match L.get k with
   | some (.map es)=>MO str es (bV ρ i) (fun v=>match ok with | true=>V (.tup [v,.bool true]) | false=>V v.slt) (match ok with | true=>V (.tup [cv z,.bool false]) | false=>V (cv z))
   | _=>False
  | _=>False
 | .mlen x=>match bV ρ x with
  | .mpr k=>match L.get k with
   | some (.map es)=>es.length<=maxLen/\V (.int .i64 es.length)
   | _=>False
  | _=>False
 | .mm mx args=>match args.map (bV ρ) with
  | .int k a::l=>match PJ mx a l with
   | some m=>(Lit.int k m).wf=true/\V (.int k m)
   | none=>False
  | _=>False
 | _=>False
abbrev TK:=TL->aT->Prop
def storeT (b:Bool) (n:Nat) (a x:X) (d:Option Nat) (L:TL) (ρ:aT) (K:TK):Prop :=
 match(bV ρ x).okc,cT (bS (bV ρ x)) n,dm (bS (bV ρ x)),bV ρ a with
 | true,true,true,.own k off=>match L.get k with
  | some (.box t cs)=>match cT ((cs.drop off).take n) n with
   | true=>fl (eH cs off (bS (bV ρ x))) fun cs=>K (L.set k (.box t cs)) (bw d .und ρ)
   | false=>False
  | some (.win t pre cs post)=>match b with
   | false=>P5 pre off cs n (bS (bV ρ x)) (fun o=>fl (eH cs o (bS (bV ρ x))) fun cs=>K (L.set k (.win t pre cs post)) (bw d .und ρ)) fun pre'=>K (L.set k (.win t pre' cs post)) (bw d .und ρ)
   | true=>False
  | _=>False
 | true,true,true,.elr k j off=>match b,L.get k,dF (bS (bV ρ x)) with
  | false,some (.row t sz els),true=>Nat.ble (off+n) sz=true/\Jl els j off n fun _=>∀es,els[j]?=some es->K (L.set k (.row t sz (els.set j (eH es off ((bS (bV ρ x)).map C.can))))) (bw d .und ρ)
  | _,_,_=>False
 | _,_,_,_=>False
structure Jo (es:List C) (off:Nat) (b:Bool) (K:Prop):Prop where
 same:es[off]?=some (.bool b)
 out:K
def Cv (n:Nat) (a x:X) (d:Option Nat) (L:TL) (ρ:aT) (K:TK):Prop :=
 match bV ρ a,bV ρ x with
 | .pt es off,.bool b=>match Nat.beq n 1 with
  | true=>Jo es off b (K L (bw d .und ρ))
  | false=>False
 | _,_=>storeT false n a x d L ρ K
def Jp (e sz bytes:Nat) (s x:C) (d:Option Nat) (L:TL) (ρ:aT) (K:TK):Prop :=
 match s,x.can,d with
 | .rw k,.sl news,_=>match L.get k with
  | some (.row c b els)=>match Nat.beq e c,Nat.beq sz b with
   | true,true=>rj els news sz bytes (fT ((L.Wj (C.kill k)).set k (.row e sz (els++news))) fun L=>K L (bw d (.rw k) fun j=>(ρ j).kill k))
   | _,_=>False
  | _=>False
 | .nils,.sl news,some k=>match L.get k with
  | none=>rj [] news sz bytes (fT (L.set k (.row e sz news)) fun L=>K L (bw d (.rw k) ρ))
  | some _=>False
 | .slx els,.sl news,some k=>match L.get k with
  | none=>0<news.length/\(∀es∈els,es.length=sz)/\rj els news sz bytes (fT (L.set k (.row e sz (els++news))) fun L=>K L (bw d (.rw k) ρ))
  | some _=>False
 | .rw k,.rw f,_=>match L.get k,L.get f with
  | some (.row c b els),some (.row h a news)=>match Nat.beq e c,Nat.beq sz b,Nat.beq sz a with
   | true,true,true=>rj els news sz bytes (fT ((L.Wj (C.kill k)).set k (.row e sz (els++news))) fun L=>K L (bw d (.rw k) fun j=>(ρ j).kill k))
   | _,_,_=>False
  | _,_=>False
 | .nils,.rw f,some k=>match L.get k,L.get f with
  | none,some (.row h a news)=>match Nat.beq sz a with
   | true=>rj [] news sz bytes (K (L.set k (.row e sz news)) (bw d (.rw k) ρ))
   | false=>False
  | _,_=>False
 | _,_,_=>False
structure Ow (P:Program) (o:dS) (d:Option Nat) (M:TL) (τ:aT) (K:TL->aT->Prop):Prop where
 out:∀(G:Nat->Option (Nat×TypeId)) (F:aA) (L:Loc) (ρ:Env),TS G F L ρ M τ->evalOp P o d F L ρ fun F L ρ=>∃M τ,TS G F L ρ M τ/\K M τ
def bH (P:Program) (o:dS) (d:Option Nat) (L:TL) (ρ:aT) (K:TK):Prop :=
 match o with
 | .box t x=>match d with
  | some k=>match L.get k,(bV ρ x).okc,Ir t with
   | none,true,true=>fl (bS (bV ρ x)) fun cs=>K (L.set k (.box t cs)) (bw d (.own k 0) ρ)
   | _,_,_=>False
  | none=>False
 | .boxD t x=>match d with
  | some k=>match L.get k,(bV ρ x).okc,Ir t with
   | none,true,true=>fl (bS (bV ρ x)) fun cs=>K (L.set k (.box t cs)) (bw d (.own k 0) ρ)
   | _,_,_=>False
  | none=>False
 | .boxF t x=>match(bV ρ x).okc,dm (bS (bV ρ x)),dF (bS (bV ρ x)) with
  | true,true,true=>fl ((bS (bV ρ x)).map C.can) fun cs=>K L (bw d (.pt cs 0) ρ)
  | _,_,_=>False
 | .alloc t zs=>match d with
  | some k=>match L.get k,Ir t with
   | none,true=>fl (zs.map qI) fun cs=>K (L.set k (.box t cs)) (bw d (.own k 0) ρ)
   | _,_=>False
  | none=>False
 | .allocD t zs=>match d with
  | some k=>match L.get k,Ir t with
   | none,true=>fl (zs.map qI) fun cs=>K (L.set k (.box t cs)) (bw d (.own k 0) ρ)
   | _,_=>False
  | none=>False
 | .mkF e n sz xs=>match pI ρ sz xs,Nat.beq xs.length n,Nat.ble n 9223372036854775807 with
  | true,true,true=>K L (bw d (.slx (s6 ρ xs)) ρ)
  | false,true,true=>match Nat.beq sz 1,xs with
   | true,x::_=>match(bV ρ x).cel with
    | .own k _=>match uc k ρ xs with
     | some q=>K L (bw d (.slo k q) ρ)
     | none=>False
    | _=>False
   | _,_=>False
  | _,_,_=>False
 | .mkFD e n sz xs=>match pI ρ sz xs,Nat.beq xs.length n,Nat.ble n 9223372036854775807 with
  | true,true,true=>K L (bw d (.slx (s6 ρ xs)) ρ)
  | false,true,true=>match Nat.beq sz 1,xs with
   | true,x::_=>match(bV ρ x).cel with
    | .own k _=>match uc k ρ xs with
     | some q=>K L (bw d (.slo k q) ρ)
     | none=>False
    | _=>False
   | _,_=>False
  | _,_,_=>False
 | .mkR e n sz xs=>match pI ρ sz xs,Nat.beq xs.length n,Nat.ble n 9223372036854775807,d with
  | true,true,true,some k=>match L.get k with
   | none=>K (L.set k (.row e sz (s6 ρ xs))) (bw d (.rw k) ρ)
   | some _=>False
  | _,_,_,_=>False
 | .s2b _ x=>match bV ρ x with
  | .str s=>K L (bw d (.sl (af s.data.toList)) ρ)
  | _=>False
 | .makeS e sz bytes zs l c=>match bV ρ l,bV ρ c,d with
  | .int _ n,.int _ m,some k=>match L.get k,cT (zs.map qI) sz,dm (zs.map qI) with
   | none,true,true=>sP n m bytes fun n=>K (L.set k (.row e sz (List.replicate n ((zs.map qI).map C.can)))) (bw d (.rw k) ρ)
   | _,_,_=>False
  | _,_,_=>False
 | .makeSD e sz n zs=>match d with
  | some k=>match L.get k,cT (zs.map qI) sz,(Nat.beq n 0||dm (zs.map qI)),Nat.ble n 9223372036854775807 with
   | none,true,true,true=>K (L.set k (.row e sz (List.replicate n ((zs.map qI).map C.can)))) (bw d (.rw k) ρ)
   | _,_,_,_=>False
  | none=>False
 | .makeSV e sz bytes zs x=>match bV ρ x,d with
  | .int _ n,some k=>match L.get k,cT (zs.map qI) sz,dm (zs.map qI) with
   | none,true,true=>sP n n bytes fun n=>K (L.set k (.row e sz (List.replicate n ((zs.map qI).map C.can)))) (bw d (.rw k) ρ)
   | _,_,_=>False
  | _,_=>False
 | .storeK key n a x=>match bV ρ a with
  | .own k _=>match Nat.beq k key with
   | true=>storeT true n a x d L ρ K
   | false=>False
  | _=>False
 | .copy e sz a b=>Ow P (.copy e sz a b) d L ρ K
 | .copyX _ _ _ _=>False
 | .storeX n a x=>storeT false n a x d L ρ K
 | .store n a x=>Cv n a x d L ρ K
 | .storeD n a x=>storeT true n a x d L ρ K
 | .call f args=>fl (dM ρ args) fun args=>pL P f args L ρ fun L' ρ' v=>fT L' fun L'=>uz v fun v=>K L' (bw d v ρ')
 | .callV f args=>match bV ρ f with
  | .fn f fi ca=>fl (fi++dM ρ args++ca) fun args=>pL P f args L ρ fun L' ρ' v=>fT L' fun L'=>uz v fun v=>K L' (bw d v ρ')
  | .mval nm c=>match c with
   | .ifc t c=>ES P t nm fun f=>fl (dM ρ args) fun args=>pL P f (c::args) L ρ fun L' ρ' v=>fT L' fun L'=>uz v fun v=>K L' (bw d v ρ')
   | _=>False
  | .ifo (some nm) t k off=>ES P t nm fun f=>fl (dM ρ args) fun args=>pL P f (.own k off::args) L ρ fun L' ρ' v=>fT L' fun L'=>uz v fun v=>K L' (bw d v ρ')
  | .mof t nm=>match LQ P t,dM ρ args with
   | true,.ifc y c::p=>ES P y nm fun f=>fl p fun p=>pL P f (c::p) L ρ fun L' ρ' v=>fT L' fun L'=>uz v fun v=>K L' (bw d v ρ')
   | _,_=>False
  | _=>False
 | .callD f args=>fl (dM ρ args) fun args=>vS P f args L ρ d fun L' ρ' v=>fT L' fun L'=>uz v fun v=>K L' (bw d v ρ')
 | .callVD f args=>match bV ρ f with
  | .fn f fi ca=>fl (fi++dM ρ args++ca) fun args=>vS P f args L ρ d fun L' ρ' v=>fT L' fun L'=>uz v fun v=>K L' (bw d v ρ')
  | .mval nm c=>match c with
   | .ifc t c=>ES P t nm fun f=>fl (dM ρ args) fun args=>vS P f (c::args) L ρ d fun L' ρ' v=>fT L' fun L'=>uz v fun v=>K L' (bw d v ρ')
   | _=>False
  | _=>False
 | .callO f args=>fl (dM ρ args) fun args=>Cs P f args L ρ fun L' ρ' v=>fT L' fun L'=>uz v fun v=>K L' (bw d v ρ')
 | .callVO f args=>match bV ρ f with
  | .fn f fi ca=>fl (fi++dM ρ args++ca) fun args=>Cs P f args L ρ fun L' ρ' v=>fT L' fun L'=>uz v fun v=>K L' (bw d v ρ')
  | _=>False
 | .mkmap=>match d with
  | some k=>match L.get k with
   | none=>K (L.set k (.map [])) (bw d (.mpr k) ρ)
   | some _=>False
  | none=>False
 | .mupd str x i v=>match bV ρ x with
  | .mpr k=>match L.get k,GD str (bV ρ i),(bV ρ v).okc,dF (bS (bV ρ v)) with
   | some (.map es),true,true,true=>Oo str es (bV ρ i) ((bV ρ v).cel.Wo) fun es=>K (L.set k (.map es)) (bw d .und ρ)
   | _,_,_,_=>False
  | _=>False
 | .look x i=>match bV ρ x,bV ρ i with
  | .opq k,.int .i64 n=>match uI k n with
   | some (r,b)=>K L (bw d (.tup [.int .i64 r,.bool b]) ρ)
   | none=>False
  | _,_=>False
 | .app e sz bytes _ s x=>Jp e sz bytes (bV ρ s) (bV ρ x) d L ρ K
 | .appX e sz bytes _ s x=>Jp e sz bytes (bV ρ s) (bV ρ x) d L ρ K
 | .appD e sz bytes _ s x=>match bV ρ s,(bV ρ x).can,d with
  | .rw k,.sl news,_=>match L.get k with
   | some (.row u h els)=>match Nat.beq e u,Nat.beq sz h with
    | true,true=>rj els news sz bytes (fT ((L.Wj (C.kill k)).set k (.row e sz (els++news))) fun L=>K L (bw d (.rw k) fun j=>(ρ j).kill k))
    | _,_=>False
   | _=>False
  | .nils,.sl news,some k=>match L.get k with
   | none=>rj [] news sz bytes (fT (L.set k (.row e sz news)) fun L=>K L (bw d (.rw k) ρ))
   | some _=>False
  | .slx els,.sl news,some k=>match L.get k with
   | none=>0<news.length/\(∀es∈els,es.length=sz)/\rj els news sz bytes (fT (L.set k (.row e sz (els++news))) fun L=>K L (bw d (.rw k) ρ))
   | some _=>False
  | _,_,_=>False
 | .appS e s x=>match bV ρ s,bV ρ x,d with
  | .rw k,.str t,_=>match L.get k with
   | some (.row u h els)=>match Nat.beq e u,Nat.beq 1 h with
    | true,true=>rj els (af t.data.toList) 1 1 (fT ((L.Wj (C.kill k)).set k (.row e 1 (els++af t.data.toList))) fun L=>K L (bw d (.rw k) fun j=>(ρ j).kill k))
    | _,_=>False
   | _=>False
  | .nils,.str t,some k=>match L.get k with
   | none=>rj [] (af t.data.toList) 1 1 (K (L.set k (.row e 1 (af t.data.toList))) (bw d (.rw k) ρ))
   | some _=>False
  | _,_,_=>False
 | .appZ e bytes w s x=>match bV ρ s,bV ρ x,d with
  | .rw k,.int _ i,_=>match L.get k with
   | some (.row u h els)=>match Nat.beq e u,Nat.beq 1 h with
    | true,true=>GH i fun m=>rj els (List.replicate m [.int w 0]) 1 bytes (fT ((L.Wj (C.kill k)).set k (.row e 1 (els++List.replicate m [.int w 0]))) fun L=>K L (bw d (.rw k) fun j=>(ρ j).kill k))
    | _,_=>False
   | _=>False
  | .nils,.int _ i,some k=>match L.get k with
   | none=>GH i fun m=>rj [] (List.replicate m [.int w 0]) 1 bytes (K (L.set k (.row e 1 (List.replicate m [.int w 0]))) (bw d (.rw k) ρ))
   | some _=>False
  | _,_,_=>False
 | o=>outT o L ρ fun v=>uz v fun v=>K L (bw d v ρ)
def tu (P:Program) (PS:oV) (o:dS) (d:Option Nat) (L:TL) (ρ:aT) (K:TK):Prop :=
 match o with
 | .call f args=>fl (dM ρ args) fun args=>match PS.st with
  | none=>n9 P PS f args L ρ fun L' ρ' v=>fT L' fun L'=>uz v fun v=>K L' (bw d v ρ')
  | some s=>zA P PS.ps PS.hb s f args L ρ fun L' ρ' v=>fT L' fun L'=>uz v fun v=>K L' (bw d v ρ')
 | .callV f args=>match bV ρ f with
  | .fn f fi ca=>fl (fi++dM ρ args++ca) fun args=>match PS.st with
   | none=>n9 P PS f args L ρ fun L' ρ' v=>fT L' fun L'=>uz v fun v=>K L' (bw d v ρ')
   | some s=>zA P PS.ps PS.hb s f args L ρ fun L' ρ' v=>fT L' fun L'=>uz v fun v=>K L' (bw d v ρ')
  | .ifo (some nm) t k off=>ES P t nm fun f=>fl (dM ρ args) fun args=>match PS.st with
   | none=>n9 P PS f (.own k off::args) L ρ fun L' ρ' v=>fT L' fun L'=>uz v fun v=>K L' (bw d v ρ')
   | some s=>zA P PS.ps PS.hb s f (.own k off::args) L ρ fun L' ρ' v=>fT L' fun L'=>uz v fun v=>K L' (bw d v ρ')
  | _=>False
 | .pan x=>match PS.st with
  | none=>Ot PS L (bV ρ x)
  | some s=>P4 PS.ps PS.hb s L (bV ρ x)
 | _=>False
def Cw (P:Program) (PS:oV) (a:List Nat) (o:dS) (d:Option Nat) (L:TL) (ρ:aT) (K:TK):Prop :=
 match o with
 | .call f args=>fl (dM ρ args) fun args=>match PS.st with
  | some s=>uP P PS.ps PS.hb s a f args L ρ fun L' ρ' v=>fT L' fun L'=>uz v fun v=>K L' (bw d v ρ')
  | none=>mN P PS a f args L ρ fun L' ρ' v=>fT L' fun L'=>uz v fun v=>K L' (bw d v ρ')
 | .callV f args=>match bV ρ f with
  | .fn f fi ca=>fl (fi++dM ρ args++ca) fun args=>match PS.st with
   | some s=>uP P PS.ps PS.hb s a f args L ρ fun L' ρ' v=>fT L' fun L'=>uz v fun v=>K L' (bw d v ρ')
   | none=>mN P PS a f args L ρ fun L' ρ' v=>fT L' fun L'=>uz v fun v=>K L' (bw d v ρ')
  | .ifo (some nm) t k off=>ES P t nm fun f=>fl (dM ρ args) fun args=>match PS.st with
   | some s=>uP P PS.ps PS.hb s a f (.own k off::args) L ρ fun L' ρ' v=>fT L' fun L'=>uz v fun v=>K L' (bw d v ρ')
   | none=>mN P PS a f (.own k off::args) L ρ fun L' ρ' v=>fT L' fun L'=>uz v fun v=>K L' (bw d v ρ')
  | _=>False
 | _=>False
def yA:List ak->TL->Bool
 | [],_=>true
 | s::l,L=>match rV s with
  | none=>yA l L
  | some k=>match L.get k with | none=>yA l L | some _=>false
def qJ (d:Option Nat) (ρ:aT):aT :=
 match d with
 | some k=>fun j=>match Nat.beq j k with | true=>(ρ k).WJ | false=>ρ j
 | none=>ρ
def GN (a:Bool) (d:Option Nat) (ρ:aT):aT:=match a with | true=>ρ | false=>qJ d ρ
def stepT (P:Program) (PS:oV) (e:Bool) (s:ak) (c:TL->aT->TK->Prop) (L:TL) (ρ:aT) (K:TK):Prop :=
 match s with
 | .op d o none=>bH P o d L ρ fun L' ρ'=>c L' (GN e d ρ') K
 | .op d o (some (s,a))=>match ρ s with
  | .bool b=>vh b
    (match a with
     | true=>bH P o d L (bw (some s) (.bool true) ρ) fun L' ρ'=>c L' (GN e d ρ') K
     | false=>c L (bw d .und (bw (some s) (.bool true) ρ)) K)
    (match a with
     | false=>bH P o d L (bw (some s) (.bool false) ρ) fun L' ρ'=>c L' (GN e d ρ') K
     | true=>c L (bw d .und (bw (some s) (.bool false) ρ)) K)
  | .und=>c L (bw d .und ρ) K
  | _=>False
 | .frz k=>match e,L.get k with
  | false,some (.row _ _ els)=>fT ((L.del k).Wj (C.frz k els)) fun L=>c L (fun j=>(ρ j).frz k els) K
  | false,some (.box _ cs)=>match dm cs,dF cs,Nat.blt k 1000,fo (PS.hb.map (·.1)) k with
   | true,true,true,false=>fT ((L.del k).Wj (C.frb k cs)) fun L=>c L (fun j=>(ρ j).frb k cs) K
   | _,_,_,_=>False
  | _,_=>False
 | .pc d o none=>match e with
  | true=>False
  | false=>tu P PS o d L ρ fun L' ρ'=>c L' (qJ d ρ') K
 | .pc d o (some (s,a))=>match e,ρ s with
  | false,.bool b=>vh b
    (match a with
     | true=>tu P PS o d L (bw (some s) (.bool true) ρ) fun L' ρ'=>c L' (qJ d ρ') K
     | false=>c L (bw d .und (bw (some s) (.bool true) ρ)) K)
    (match a with
     | false=>tu P PS o d L (bw (some s) (.bool false) ρ) fun L' ρ'=>c L' (qJ d ρ') K
     | true=>c L (bw d .und (bw (some s) (.bool false) ρ)) K)
  | false,.und=>c L (bw d .und ρ) K
  | _,_=>False
def yB (P:Program) (PS:oV) (b:List Nat) (s:ak) (a:TL->aT->TK->Prop) (L:TL) (ρ:aT) (K:TK):Prop :=
 match s with
 | .pc d o none=>Cw P PS b o d L ρ fun L' ρ'=>a L' ρ' K
 | s=>stepT P PS true s a L ρ K
noncomputable def dn (P:Program) (PS:oV) (b:Bool) (ss:List ak):TL->aT->TK->Prop :=
 List.rec (motive:=fun _=>TL->aT->TK->Prop) (fun L ρ K=>K L ρ) (fun s _ a L ρ K=>stepT P PS b s a L ρ K) ss
noncomputable def jQ (P:Program) (PS:oV) (b:List Nat) (ss:List ak):TL->aT->TK->Prop :=
 List.rec (motive:=fun _=>TL->aT->TK->Prop) (fun L ρ K=>K L ρ) (fun s _ a L ρ K=>yB P PS b s a L ρ K) ss
theorem jh {P:Program}{PS:oV}{b:List Nat}{s:ak}{a:List ak}{L:TL}{ρ:aT}{K:TK}:jQ P PS b (s::a) L ρ K=yB P PS b s (jQ P PS b a) L ρ K:=rfl
theorem eP {P:Program}{PS:oV}{b:Bool}{s:ak}{a:List ak}{L:TL}{ρ:aT}{K:TK}:dn P PS b (s::a) L ρ K=stepT P PS b s (dn P PS b a) L ρ K:=rfl
def rm:List C->C
 | [v]=>v
 | l=>.tup l
def pM (L:TL) (ρ:aT):List RV->(List C->Prop)->Prop
 | [],K=>K []
 | (t,none)::l,K=>pM L ρ l fun vs=>K ((ρ t).cel::vs)
 | (t,some (agg,n))::l,K=>match ρ t with
  | .own k off=>match L.get k with
   | some (.box _ cs)=>match cT ((cs.drop off).take n) n with
    | true=>pM L ρ l fun vs=>K ((zx agg ((cs.drop off).take n)).cel::vs)
    | false=>False
   | _=>False
  | _=>False
structure oP (Lin:List TO) (L:TL) (v:C) (R:List TO->C->Prop):Prop where
 out:∃(fz ko:List Nat),vP fz L (fun _=>.any) [v] fun L _ vs =>
  ∃(L1:TL) (c c1:C) (Mo:List TO),vs=[c]/\((L1=L/\c1=c)\/(gives L L1 L1/\Iq L L1 c c1))/\L1.sub ko=some Mo/\bE ko=true/\aQ Lin (List.range' 1000 Lin.length) ko=true /\
   (s9 [c1]->R (Mo.map (TO.Wj (C.ren (cj ko 1000)))) (c1.Wy.ren (cj ko 1000)))
def r9 (asg:List Nat) (ρ:aT):aT:=fun j=>match fo asg j with | true=>.any | false=>(ρ j).WW
structure vT (body:TL->aT->TK->Prop) (asg:List Nat) (L:TL) (ρ:aT):Prop where
 out:∃(σ:Type) (x0:σ) (Inv:σ->Prop) (ls:List Nat) (lv:σ->List C) (Lf:σ->TL) (μ:σ->Nat),
  Inv x0/\mX L (Lf x0) ls (lv x0) ρ/\gives L (Lf x0) (Lf x0)/\(∀x,lX L (Lf x)=true)/\(∀x,(lv x).length=ls.length) /\
  ∀x,Inv x->s9 (lv x)->(∀k o,(Lf x).get k=some o->o.Wf)->body (Lf x) (pJ ls (lv x) (r9 asg ρ)) fun L' ρ' =>
   ∃x',Inv x'/\mX L' (Lf x') ls (lv x') ρ'/\gives L' (Lf x') (Lf x')/\μ x'<μ x
def dw:List ak->List Nat
 | []=>[]
 | .frz k::l=>k::dw l
 | .op _ _ _::l=>dw l
 | .pc _ _ _::l=>dw l
def ig:aJ->List Nat
 | .reg d=>dw d
 | .regD d=>dw d
 | .regX d=>dw d
 | .seq a b=>ig a++ig b
 | .cond _ a b=>ig a++ig b
 | .block _ c=>ig c
 | .loop _ c=>ig c
 | _=>[]
def rp (L:TL):List Nat->Bool
 | []=>true
 | k::ks=>match L.get k with | some (.box _ _)=>false | some (.map _)=>false | some (.win _ _ _ _)=>false | _=>rp L ks
def GP:List ak->Bool
 | []=>false
 | .op _ (.copyX _ _ _ _) _::_=>true
 | _::l=>GP l
structure MS (P:Program) (PS:oV) (ops:List ak) (M:TL) (τ:aT) (N:TK):Prop where
 st:PS.st=none
 out:∀(G:Nat->Option (Nat×TypeId)) (PX:aA->Loc->Value->Prop),
  (∀(F:aA) (L:Loc) (ρ:Env) (M:TL) (τ:aT) (f:Nat) (args:List C) (vs:List Value) (K:TL->aT->C->Prop),TS G F L ρ M τ->aB F L args vs->mN P PS (zu ops) f args M τ K ->
   CallXDPt P PX (zu ops) f vs F L fun F' L' v=>∃M' τ' c,TS G F' L' ρ M' τ'/\aN F' L' c (.v v)/\K M' τ' c) ->
  ∀(F:aA) (L:Loc) (ρ:Env),Real F L->TS G F L ρ M τ->bg P PX (zu ops) ops F L ρ fun F L ρ=>∃M τ,TS G F L ρ M τ/\N M τ
noncomputable def eJ (P:Program) (PS:oV) (c:aJ):(Nat->TK)->TK->TK->TK :=
 aJ.rec (motive:=fun _=>(Nat->TK)->TK->TK->TK)
  (fun _ _ N L ρ=>N L ρ)
  (fun a _ _ N L ρ=>dn P PS false a L ρ N)
  (fun a _ _ N L ρ=>dn P PS true a L ρ N)
  (fun a _ _ N L ρ=>match yA a L with | true=>(match GP a with | true=>MS P PS a L ρ N | false=>jQ P PS (zu a) a L ρ N) | false=>False)
  (fun _ _ d b E R N L ρ=>d E R (fun L ρ=>b E R N L ρ) L ρ)
  (fun c _ _ d b E R N L ρ=>match bV ρ c with
   | .bool t=>vh t (d E R N L ρ) (b E R N L ρ)
   | _=>False)
  (fun id _ e E R N L ρ=>e (fun j=>match Nat.beq j id with | true=>N | false=>E j) R N L ρ)
  (fun asg c e E R _ L ρ=>match rp L (ig c) with | true=>vT (fun L ρ K=>e E R K L ρ) asg L ρ | false=>False)
  (fun id E _ _ L ρ=>E id L ρ)
  (fun _ R _ L ρ=>R L ρ) c
section
variable {P:Program}{PS:oV}{E:Nat->TK}{R N:TK}{L:TL}{ρ:aT}
theorem ku:eJ P PS .skip E R N L ρ=N L ρ:=rfl
theorem lZ {a:List ak}:eJ P PS (.reg a) E R N L ρ=dn P PS false a L ρ N:=rfl
theorem kC {a:List ak}:eJ P PS (.regD a) E R N L ρ=dn P PS true a L ρ N:=rfl
theorem Bc {a:List ak}:eJ P PS (.regX a) E R N L ρ=(match yA a L with | true=>(match GP a with | true=>MS P PS a L ρ N | false=>jQ P PS (zu a) a L ρ N) | false=>False):=rfl
theorem l9 {a b:aJ}:eJ P PS (.seq a b) E R N L ρ=eJ P PS a E R (fun L ρ=>eJ P PS b E R N L ρ) L ρ:=rfl
theorem kD {c:X}{a b:aJ}:eJ P PS (.cond c a b) E R N L ρ=(match bV ρ c with
   | .bool t=>vh t (eJ P PS a E R N L ρ) (eJ P PS b E R N L ρ)
   | _=>False):=rfl
theorem ji {id:Nat}{c:aJ}:eJ P PS (.block id c) E R N L ρ=eJ P PS c (fun j=>match Nat.beq j id with | true=>N | false=>E j) R N L ρ:=rfl
theorem kE {asg:List Nat}{c:aJ}:eJ P PS (.loop asg c) E R N L ρ=(match rp L (ig c) with | true=>vT (fun L ρ K=>eJ P PS c E R K L ρ) asg L ρ | false=>False):=rfl
theorem kF {id:Nat}:eJ P PS (.exit id) E R N L ρ=E id L ρ:=rfl
theorem mg:eJ P PS .ret E R N L ρ=R L ρ:=rfl
end
def uD:Nat->List C->aT
 | _,[]=>fun _=>.und
 | k,v::l=>bw (some k) v (uD (k+1) l)
theorem wf_wrap (k:IntKind) (n:Int):(Lit.int k (k.wrap n)).wf=true:=by
 cases k<;>simp[Lit.wf,IntKind.wrap,IntKind.min,IntKind.max,IntKind.bits,IntKind.signed]<;>(try split)<;>omega
theorem zC (k:IntKind) (n:Int):(Lit.int k n).wf=true↔k.min<=n/\n<=k.max:=by simp[Lit.wf]
theorem Dp (k:IntKind):k.min<=0:=by cases k<;>simp[IntKind.min,IntKind.bits,IntKind.signed]
theorem Dq (k:IntKind):127<=k.max:=by cases k<;>simp[IntKind.max,IntKind.bits,IntKind.signed]
def okB:Value->Prop
 | .int k n=>(Lit.int k n).wf=true
 | .bool _=>True
 | .string s=>s.size<=maxLen
 | _=>False
section
variable {P:Program}{G:Nat->Option (Nat×TypeId)}{F:aA}{L:Loc}{ρ:Env}{M:TL}{τ:aT}
theorem vU {v:Value}(h:okB v):aN F L (MP v) (.v v):=by
 cases v
 case int k n=>exact⟨.int k n,rfl,by simp only[MP,Rel];exact⟨trivial,h⟩⟩
 case bool b=>exact⟨.bool b,rfl,by simp only[MP,Rel]⟩
 case string b=>exact⟨.string b,rfl,by simp only[MP,Rel];exact⟨trivial,h⟩⟩
 all_goals exact h.elim
theorem Jq {k:IntKind}{a b:Int}(h:(Lit.int k a).wf=true):(Lit.int k (a.tmod b)).wf=true:=by
 rw[zC] at h ⊢;have e:=Dp k;have f:=Dq k
 by_cases c:0<=a
 ·have:=Int.tmod_nonneg b c;have d:a.tmod b<=a:=by
   have:(a.tmod b).natAbs<=a.natAbs:=by rw[Int.natAbs_tmod];exact Nat.mod_le _ _
   omega
  omega
 ·have d:(a.tmod b).natAbs<=a.natAbs:=by rw[Int.natAbs_tmod];exact Nat.mod_le _ _
  have j:a.tmod b<=0:=by
   have:=Int.tmod_nonneg b (show 0<=-a by omega);rw[Int.neg_tmod] at this;omega
  omega
theorem Jr {k:IntKind}{a:Int}{m:Nat}(h:(Lit.int k a).wf=true):(Lit.int k (a.fdiv (2 ^ m))).wf=true:=by
 rw[zC] at h ⊢;have f:=Dp k;have j:=Dq k;have b:(0:Int)<2 ^ m:=Int.pow_pos (by omega);rw[Int.fdiv_eq_ediv_of_nonneg _ (by omega)]
 by_cases c:0<=a
 ·have d:=Int.ediv_nonneg c (Int.le_of_lt b);have e:=Int.ediv_le_self (2 ^ m) c;omega
 ·have d:a / 2 ^ m<0:=Int.ediv_neg_of_neg_of_pos (by omega) b;have e:a<=a / 2 ^ m:=by
   have:a*1<=a / 2 ^ m:=by
    apply Int.le_ediv_of_mul_le b;rw[Int.mul_one];have:a*2 ^ m<=a*1:=Int.mul_le_mul_of_nonpos_left (by omega) (by omega);omega
   omega
  omega
theorem ET {op:BinOp}{k:IntKind}{a b:Int}{K K':Value->Prop}(d:(Lit.int k a).wf=true) (h:binI op k a b K) (c:∀v,okB v->K v->K' v):binI op k a b K':=by
 cases op<;>simp only[binI] at h ⊢<;>first
  | exact h.elim
  | exact⟨c _ (wf_wrap _ _) h.out⟩
  | exact⟨h.ne,⟨c _ (wf_wrap _ _) h.out.out⟩⟩
  | exact⟨h.ne,c _ (Jq d) h.out⟩
  | exact c _ (wf_wrap _ _) h
  | exact c _ trivial h
theorem GQ {op:BinOp}{k:IntKind}{a b:Int}{K K':Value->Prop}(d:(Lit.int k a).wf=true) (h:shI op k a b K) (c:∀v,okB v->K v->K' v):shI op k a b K':=by
 cases op<;>simp only[shI] at h ⊢<;>first
  | exact h.elim
  | exact⟨h.1,⟨c _ (wf_wrap _ _) h.2.out⟩⟩
  | exact⟨h.1,c _ (Jr d) h.2⟩
theorem EU {op:BinOp}{a b:ByteArray}{K K':Value->Prop}(h:binS op a b K) (c:∀v,okB v->K v->K' v):binS op a b K':=by
 cases op<;>simp only[binS] at h ⊢<;>first
  | exact h.elim
  | exact c _ trivial h
  | exact⟨h.1,c _ (by
    have d:=h.1;simp[IntKind.max,IntKind.bits,IntKind.signed] at d;show(a++b).size<=maxLen;rw[ByteArray.size_append];simp only[maxLen];omega) h.2⟩
theorem zD (v:Value):Rel F L (qI v) v:=by
 unfold qI;split
 ·split
  ·rename_i h;simp only[Rel];exact⟨trivial,h⟩
  ·simp only[Rel]
 ·simp only[Rel]
 ·split
  ·rename_i h;simp only[Rel];exact⟨trivial,Xh h⟩
  ·simp only[Rel]
 ·simp only[Rel]
 ·simp only[Rel]
 ·simp only[Rel]
 ·simp only[Rel];exact za
 ·simp only[Rel]
 ·simp only[Rel]
theorem kG:∀vs:List Value,aB F L (vs.map qI) vs
 | []=>by simp only[X0,aB]
 | v::vs=>by simp only[Xa,aB];exact⟨v,vs,rfl,zD v,kG vs⟩
theorem Ox (v:Value):aN F L (qI v) (.v v):=by
 have h:=zD (F:=F) (L:=L) v
 revert h
 unfold qI;split
 ·split
  ·exact fun h=>⟨_,rfl,h⟩
  ·exact fun h=>trivial
 ·exact fun h=>⟨_,rfl,h⟩
 ·split
  ·exact fun h=>⟨_,rfl,h⟩
  ·exact fun h=>trivial
 ·exact fun h=>⟨_,rfl,h⟩
 ·exact fun h=>⟨_,rfl,h⟩
 ·exact fun h=>⟨_,rfl,h⟩
 ·exact fun h=>⟨_,rfl,h⟩
 ·exact fun h=>⟨_,rfl,h⟩
 ·exact fun h=>trivial
theorem MT (v:Value):aN F L (cv v) (.v v):=by
 unfold cv;split
 ·rename_i cs;exact⟨_,rfl,by simp only[Rel];exact⟨cs.toList,by simp,kG _⟩⟩
 ·exact Ox v
theorem cZ (h:∀j,aN F L (τ j) (ρ j)) (x:X):aN F L (bV τ x) (ev ρ x):=by
 cases x with
 | t n=>exact h n
 | c v=>exact MT v
 | fn f=>exact⟨_,rfl,by simp only[bV,Rel];exact⟨[],[],by simp,by simp only[aB],by simp only[aB]⟩⟩
 | mt nm n =>
  have a:=h n;simp only[bV,ev,Se];split
  ·rename_i t c e;rw[e] at a;simp only[aN] at a ⊢;obtain⟨v,b,d⟩:=a;rw[b];refine⟨_,rfl,?_⟩;simp only[Rel] at d ⊢;exact⟨v,rfl,d⟩
  ·rename_i t k off e;rw[e] at a;simp only[aN,Rel] at a ⊢;obtain⟨v,b,g,m,cs,l,rfl⟩:=a;rw[b];exact⟨_,rfl,g,m,cs,l,rfl⟩
  ·simp only[aN]
theorem dX {x:X}{k:IntKind}{n:Int}(h:∀j,aN F L (τ j) (ρ j)) (e:bV τ x=.int k n):ev ρ x=.v (.int k n)/\(Lit.int k n).wf=true:=by
 have:=cZ h x;rw[e] at this;simp only[aN,Rel] at this;obtain⟨v,b,rfl,a⟩:=this;exact⟨b,a⟩
theorem gT {x:X}{b:Bool}(h:∀j,aN F L (τ j) (ρ j)) (e:bV τ x=.bool b):ev ρ x=.v (.bool b):=by
 have:=cZ h x;rw[e] at this;simp only[aN,Rel] at this;obtain⟨v,a,rfl⟩:=this;exact a
theorem jl {x:X}{s:ByteArray}(h:∀j,aN F L (τ j) (ρ j)) (e:bV τ x=.str s):ev ρ x=.v (.string s)/\s.size<=maxLen:=by
 have:=cZ h x;rw[e] at this;simp only[aN,Rel] at this;obtain⟨v,b,rfl,a⟩:=this;exact⟨b,a⟩
theorem MU {x:X}{els:List (List C)}(h:∀j,aN F L (τ j) (ρ j)) (e:bV τ x=.sl els) :
  ∃a c sz,ev ρ x=.v (.slice a els.length c)/\els.length<=c/\els.length<=maxLen/\(a=none->els=[]/\c=0)/\fE F a sz 0 els:=by
 have:=cZ h x;rw[e] at this;simp only[aN,Rel] at this;obtain⟨v,d,a,c,rfl,b,f,l,sz,k⟩:=this;exact⟨a,c,sz,d,b,f,l,k⟩
theorem nI {x:X}(h:∀j,aN F L (τ j) (ρ j)) (e:bV τ x=.nils):ev ρ x=.v (.slice none 0 0):=by
 have:=cZ h x;rw[e] at this;simp only[aN,Rel] at this;obtain⟨v,a,rfl⟩:=this;exact a
theorem rq {x:X}{k:Nat}(h:∀j,aN F L (τ j) (ρ j)) (e:bV τ x=.rw k):∃a c t sz n xs,ev ρ x=.v (.slice a n c)/\L.get k=some (.row (.slice a n c) t sz n xs):=by
 have:=cZ h x;rw[e] at this;simp only[aN,Rel] at this;obtain⟨v,d,a,c,t,sz,n,xs,rfl,b⟩:=this;exact⟨a,c,t,sz,n,xs,d,b⟩
theorem ep {x:X}{k off:Nat}(h:∀j,aN F L (τ j) (ρ j)) (e:bV τ x=.own k off):ev ρ x=.own k off/\∃g t cs,L.get k=some (.box g t cs):=by
 have:=cZ h x;rw[e] at this;simp only[aN] at this;exact this
theorem mh {x:X}{k off:Nat}(h:∀j,aN F L (τ j) (ρ j)) (e:bV τ x=.ownv k off):∃g t cs,L.get k=some (.box g t cs)/\PK (ev ρ x) (.pointer (some ⟨g,off,none⟩)):=by
 have:=cZ h x;rw[e] at this;simp only[aN,Rel] at this;obtain⟨v,b,g,t,cs,a,rfl⟩:=this;exact⟨g,t,cs,a,b⟩
theorem ru {x:X}{f:Nat}{fi ca:List C}(h:∀j,aN F L (τ j) (ρ j)) (e:bV τ x=.fn f fi ca):∃a b,ev ρ x=.v (.func (.func f) a.toArray b.toArray)/\aB F L fi a/\aB F L ca b:=by
 have:=cZ h x;rw[e] at this;simp only[aN,Rel] at this;obtain⟨v,d,a,b,rfl,c,k⟩:=this;exact⟨a,b,d,c,k⟩
theorem uQ {x:X}{cs:List C}(h:∀j,aN F L (τ j) (ρ j)) (e:bV τ x=.agg cs):∃vs,ev ρ x=.v (.agg vs.toArray)/\aB F L cs vs:=by
 have:=cZ h x;rw[e] at this;simp only[aN,Rel] at this;obtain⟨v,b,vs,rfl,a⟩:=this;exact⟨vs,b,a⟩
theorem Js {x:X}{cs:List C}(h:∀j,aN F L (τ j) (ρ j)) (e:bV τ x=.tup cs):∃vs,ev ρ x=.v (.tuple vs.toArray)/\aB F L cs vs:=by
 have:=cZ h x;rw[e] at this;simp only[aN,Rel] at this;obtain⟨v,b,vs,rfl,a⟩:=this;exact⟨vs,b,a⟩
theorem GR {x:X}(h:∀j,aN F L (τ j) (ρ j)) (e:bV τ x=.nilp):ev ρ x=.v (.pointer none):=by
 have:=cZ h x;rw[e] at this;simp only[aN,Rel] at this;obtain⟨v,a,rfl⟩:=this;exact a
theorem GS {x:X}(h:∀j,aN F L (τ j) (ρ j)) (e:bV τ x=.nilf):ev ρ x=.v .nilFunc:=by
 have:=cZ h x;rw[e] at this;simp only[aN,Rel] at this;obtain⟨v,a,rfl⟩:=this;exact a
theorem zE {x:X}{t:TypeId}{c:C}(h:∀j,aN F L (τ j) (ρ j)) (e:bV τ x=.ifc t c):∃u,ev ρ x=.v (.iface t u)/\Rel F [] c u:=by
 have:=cZ h x;rw[e] at this;simp only[aN,Rel] at this;obtain⟨v,b,u,rfl,a⟩:=this;exact⟨u,b,a⟩
theorem oe {x:X}{m:Option String}{t:TypeId}{k off:Nat}(h:∀j,aN F L (τ j) (ρ j)) (e:bV τ x=.ifo m t k off):∃g a cs,L.get k=some (.box g a cs)/\ev ρ x=.v (Ba m t (.pointer (some ⟨g,off,none⟩))):=by
 have:=cZ h x;rw[e] at this;simp only[aN,Rel] at this;obtain⟨v,c,g,a,cs,b,rfl⟩:=this;exact⟨g,a,cs,b,c⟩
theorem zF {x:X}{k:Nat}(h:∀j,aN F L (τ j) (ρ j)) (e:bV τ x=.opq k):∃v,ev ρ x=.v v/\i9 k F v:=by
 have:=cZ h x;rw[e] at this;simp only[aN,Rel] at this;exact this
theorem vV {x:X}{nm:String}{c:C}(h:∀j,aN F L (τ j) (ρ j)) (e:bV τ x=.mval nm c):∃u,ev ρ x=.v (.func (.method nm) #[u] #[])/\Rel F [] c u:=by
 have:=cZ h x;rw[e] at this;simp only[aN,Rel] at this;obtain⟨v,b,u,rfl,a⟩:=this;exact⟨u,b,a⟩
theorem Jt {x:X}{t:TypeId}{nm:String}(h:∀j,aN F L (τ j) (ρ j)) (e:bV τ x=.mof t nm):ev ρ x=.v (.func (.methodOf t nm) #[] #[]):=by
 have:=cZ h x;rw[e] at this;simp only[aN,Rel] at this;obtain⟨v,a,rfl⟩:=this;exact a
theorem Dr {x:X}{k:Nat}{a:List Nat}(h:∀j,aN F L (τ j) (ρ j)) (e:bV τ x=.slo k a):∃g t cs b,L.get k=some (.box g t cs)/\ev ρ x=.v (.slice (some b) a.length a.length)/\a.length<=maxLen/\bN F (some b) 0 (a.map fun o=>.pointer (some ⟨g,o,none⟩)):=by
 have:=cZ h x;rw[e] at this;simp only[aN,Rel] at this;obtain⟨v,l,g,t,cs,b,d,rfl,c,f⟩:=this;exact⟨g,t,cs,b,d,l,c,f⟩
theorem Ju {x:X}{k j:Nat}{a:List Nat}(h:∀j,aN F L (τ j) (ρ j)) (e:bV τ x=.slp k a j):∃g t cs b,L.get k=some (.box g t cs)/\ev ρ x=.el (some b) j/\bN F (some b) 0 (a.map fun o=>.pointer (some ⟨g,o,none⟩)):=by
 have:=cZ h x;rw[e] at this;simpa only[aN] using this
theorem Cx {F:aA}{f:Addr}{vs:List Value}{j:Nat}{v:Value}(h:bN F (some f) 0 vs) (m:vs[j]?=some v):bN F (some f) j [v]:=by
 obtain⟨a,d,t,k,e,hb,c,l⟩:=h;refine⟨a,d,t,k,e,hb,c,fun i u b=>?_⟩;cases i with
 | zero =>
  simp only[Xg,WY] at b;subst b;have:=l j v m;simpa using this
 | succ i=>simp at b
theorem og {x:X}{es:List C}{off:Nat}(h:∀j,aN F L (τ j) (ρ j)) (e:bV τ x=.pt es off) :
  ∃b o j vs,(ev ρ x=.v (.pointer (some ⟨b,o,none⟩))/\j=0\/ev ρ x=.el (some ⟨b,o,none⟩) j)/\Jm F b (o+j) off vs/\dm es=true/\aB F [] es vs:=by
 have:=cZ h x;rw[e] at this;simp only[aN] at this;exact this
theorem si {x:X}{k j off:Nat}(h:∀j,aN F L (τ j) (ρ j)) (e:bV τ x=.elr k j off) :
  ∃a t sz n c xs,ev ρ x=.el (some a) (j*sz+off)/\L.get k=some (.row (.slice (some a) n c) t sz n xs):=by
 have:=cZ h x;rw[e] at this;simp only[aN] at this;exact this
theorem jT (h:cO F L M) {k:Nat}{t:TypeId}{cs:List C}(e:M.get k=some (.box t cs)):∃g a vs,L.get k=some (.box g a vs)/\aB F L cs vs/\tyOk t g a:=by
 have:=h k;rw[e] at this;cases b:L.get k with
 | none=>rw[b] at this;exact this.elim
 | some o =>
  rw[b] at this;cases o with
  | row=>exact this.elim
  | box g a vs=>obtain⟨d,c⟩:=this;exact⟨g,a,vs,rfl,c,d⟩
theorem rz (h:cO F L M) {k:Nat}{t:TypeId}{pre cs post:List C}(e:M.get k=some (.win t pre cs post)):∃g b v1 a v3,L.get k=some (.box g b (v1++(a++v3)))/\aB F [] pre v1/\aB F L cs a/\aB F [] post v3/\tyOk t g b:=by
 have:=h k;rw[e] at this;cases c:L.get k with
 | none=>rw[c] at this;exact this.elim
 | some o =>
  rw[c] at this;cases o with
  | row=>exact this.elim
  | box g b vs=>obtain⟨d,v1,a,v3,rfl,l,j,f⟩:=this;exact⟨g,b,v1,a,v3,rfl,l,j,f,d⟩
theorem Bd {v1 a v3:List Value}{o n:Nat}(b:((a.drop o).take n).length=n) (c:o+n<=a.length):((v1++(a++v3)).drop (v1.length+o)).take n=(a.drop o).take n:=by
 rw[List.drop_append,List.drop_eq_nil_of_le (by omega),XD,show v1.length+o-v1.length=o by omega,List.drop_append,List.take_append_of_le_length (by simp;omega)]
theorem jU (h:cO F L M) {k:Nat}{t:TypeId}{sz:Nat}{els:List (List C)}(e:M.get k=some (.row t sz els)) :
  ∃v xs,L.get k=some (.row v t sz els.length xs)/\(els.length<=maxLen/\∃a c,v=.slice a els.length c/\(a=none->els.length=0))/\aL F sz els xs:=by
 have:=h k;rw[e] at this;cases b:L.get k with
 | none=>rw[b] at this;exact this.elim
 | some o =>
  rw[b] at this;cases o with
  | box=>exact this.elim
  | row v l d n xs=>obtain⟨rfl,rfl,rfl,j,f⟩:=this;exact⟨v,xs,rfl,j,f⟩
theorem bT (h:cO F L M) {k:Nat}(e:M.get k=none):L.get k=none:=by
 have:=h k;rw[e] at this;cases a:L.get k with
 | none=>rfl
 | some o=>rw[a] at this;exact this.elim
theorem br:∀{l:List C}{n:Nat},cT l n=true->l.length=n
 | [],0,_=>rfl
 | [],n+1,h=>by simp[cT] at h
 | _::l,0,h=>by simp[cT] at h
 | _::l,n+1,h=>by simp only[cT] at h;simp[br h]
theorem cQ:∀{l:List Value}{n:Nat},l.length=n->eT l n=true
 | [],0,_=>rfl
 | [],n+1,h=>by simp at h
 | _::l,0,h=>by simp at h
 | _::l,n+1,h=>by simp only[eT];exact cQ (by simpa using h)
theorem jm {c:C}{v:Value}(h:Rel F L c v):aN F L c.slt (.v v):=by
 cases c<;>(try simp only[C.slt])<;>try exact⟨v,rfl,h⟩
 case any=>trivial
 case pt es off =>
  simp only[Rel] at h;obtain⟨b,o,vs,rfl,a,d⟩:=h;exact⟨b,o,0,vs,.inl ⟨rfl,rfl⟩,a,d⟩
 case own=>exact⟨v,.inl rfl,h⟩
 case ownv=>exact h.elim
 case elr=>trivial
 case slp=>trivial
theorem cm {agg:Bool}{cs:List C}{vs:List Value}(h:aB F L cs vs):aN F L (zx agg cs) (.v (fM agg vs)):=by
 cases agg with
 | true=>exact⟨_,rfl,by simp only[zx,fM,Rel];exact⟨vs,rfl,h⟩⟩
 | false =>
  match cs,vs,h with
  | [],vs,h=>trivial
  | [c],vs,h =>
   simp only[aB] at h;obtain⟨v,b,rfl,a,rfl⟩:=h;exact jm a
  | _::_::_,vs,h=>trivial
theorem PK.conc {sv:SV}{v:Value}(h:PK sv v):Fr.conc L sv=v:=by
 rcases h with rfl | ⟨b,o,j,rfl,rfl⟩
 ·rfl
 ·simp only[Fr.conc,bU]
theorem Jv {c:C}{sv:SV}(h:aN F L c sv) (q:c.one=true\/(∃k o,c=.ownv k o)\/c=.any\/(∃k j o,c=.elr k j o)\/(∃l,c=.agg l)\/(∃l,c=.tup l)\/c=.und\/(∃k o,c=.slo k o)\/(∃k o j,c=.slp k o j)):Rel F L c.cel (conc L sv):=by
 cases c<;>simp only[C.cel]<;>simp only[aN] at h
 case own k off =>
  obtain⟨rfl,g,t,cs,h⟩:=h;simp only[Rel,conc,h];exact⟨g,t,cs,rfl,rfl⟩
 case ownv k off =>
  obtain⟨v,p,h⟩:=h;rw[p.conc];exact h
 case pt es off =>
  obtain⟨b,o,j,vs,f,e,d,a⟩:=h;simp only[Rel];rcases f with⟨rfl,rfl⟩ | rfl
  ·exact⟨b,o,vs,rfl,e,d,a⟩
  ·exact⟨b,o+j,vs,by simp only[conc,bU],e,d,a⟩
 case elr =>
  obtain⟨m,t,sz,n,c,xs,rfl,h⟩:=h;simp only[Rel];exact⟨m,t,sz,n,c,xs,rfl,h⟩
 case slp=>simp only[Rel]
 case any=>simp only[Rel]
 all_goals
  obtain⟨v,rfl,h⟩:=h;simpa only[conc] using h
theorem kH {c:C}{sv:SV}(h:aN F L c sv):Rel F L c.cel (conc L sv):=by
 apply Jv h;cases c<;>simp[C.one]
theorem sj (h:∀j,aN F L (τ j) (ρ j)) (x:X):Rel F L (bV τ x).cel (val L ρ x):=kH (cZ h x)
theorem cL (h:∀j,aN F L (τ j) (ρ j)):∀xs:List X,aB F L (dM τ xs) (bf L ρ xs)
 | []=>by simp only[dM,bf,aB]
 | x::xs=>by simp only[dM,bf,aB];exact⟨_,_,rfl,sj h x,cL h xs⟩
theorem Cy {c:C}{sv:SV}(h:aN F L c sv) (e:c.okc=true):aB F L (bS c) (aH (conc L sv)):=by
 have a:=kH h;cases c<;>simp only[C.okc,Xd] at e<;>simp only[bS]<;>simp only[C.cel] at a ⊢
 case agg cs =>
  simp only[Rel] at a;obtain⟨vs,b,d⟩:=a;rw[b];simpa only[aH] using d
 all_goals
  simp only[aB];refine⟨_,[],?_,a,rfl⟩
  revert a
  generalize conc L sv=v;intro a;simp only[Rel] at a
  first
   | (have b:=i9.one a;cases v<;>first | rfl | (exact xo b (by decide)) | (simp[Value.oneCell'] at b))
   | (obtain⟨rfl,_⟩:=a;rfl)
   | (subst a;rfl)
   | (obtain⟨_,rfl,_⟩:=a;rfl)
   | (obtain⟨_,_,rfl,_⟩:=a;rfl)
   | (obtain⟨_,_,_,rfl,_⟩:=a;rfl)
   | (obtain⟨_,_,_,_,_,_,rfl,_⟩:=a;rfl)
   | (obtain⟨_,_,_,_,rfl⟩:=a;rfl)
   | (obtain⟨_,_,_,_,rfl⟩:=a;unfold Ba;split<;>rfl)
theorem dH (h:∀j,aN F L (τ j) (ρ j)) {x:X}(a:(bV τ x).okc=true):aB F L (bS (bV τ x)) (aH (val L ρ x)):=Cy (cZ h x) a
theorem fF {cs:List C}{vs:List Value}{off:Nat}{ds:List C}{us:List Value}(h:aB F L cs vs) (k:aB F L ds us):aB F L (eH cs off ds) (aM vs off us):=by
 simp only[eH,aM];rw[<-k.len];exact((h.take off).append k).append (h.drop _)
theorem yC (h:∀j,aN F L (τ j) (ρ j)):∀(ps:List (Nat×Nat×X)) {zs:List C}{vs:List Value}{cs:List C},aB F L zs vs->s8 τ zs ps=some cs->∃us,built L ρ vs ps=some us/\aB F L cs us
 | [],zs,vs,cs,a,hb=>by
  simp only[s8,WY] at hb;subst hb;exact⟨vs,rfl,a⟩
 | (off,n,x)::ps,zs,vs,cs,a,hb=>by
  simp only[s8] at hb;split at hb
  case h_2=>cases hb
  rename_i e c;have b:=dH h e;have d:eT (aH (val L ρ x)) n=true:=cQ (by rw[b.len];exact br c);simp only[built,d];exact yC h ps (fF a b) hb
theorem uR (h:∀j,aN F L (τ j) (ρ j)) {d i:Int}{x:Option X}(e:ER τ d x=some i):iY ρ d x=some i:=by
 cases x with
 | none=>exact e
 | some x =>
  simp only[ER] at e;split at e
  case h_2=>cases e
  rename_i k j a;injection e with e
  subst e;simp only[iY,(dX h a).1]
theorem GU (h:∀j,aN F L (τ j) (ρ j)) (mx:Bool):∀(args:List X) {a m:Int},PJ mx a (args.map (bV τ))=some m->LJ mx a (args.map (ev ρ))=some m
 | [],a,m,e=>e
 | x::args,a,m,e=>by
  simp only[Xa] at e ⊢;cases b:bV τ x<;>rw[b] at e<;>simp only[PJ,reduceCtorEq] at e;rw[(dX h b).1];exact GU h mx args e
theorem GV {a:Option Addr}{sz:Nat}{els:List (List C)}{c l h:Nat}(m:fE F a sz 0 els) (hn:a=none->els=[]/\c=0) (z:l<=h) (hh:h<=els.length) (hc:els.length<=c) :
  fE F (if c=l then a else a.map (·.add (l*sz))) sz 0 ((els.drop l).take (h-l)):=by
 rw[lW] at m ⊢;intro j es d;rw[XB] at d;split at d
 case isFalse=>cases d
 rename_i hj;rw[Xy] at d;obtain⟨vs,n,w,r,p⟩:=m _ es d;have u:l+j<els.length:=(W5.1 d).1;rw[vv (by omega)];refine⟨vs,n,?_,r,p⟩;obtain⟨q,k,t,s,e,hb,f,x⟩:=w;subst e;obtain⟨b,o,y⟩:=q;simp only at f;subst f;refine⟨⟨b,o+l*sz,none⟩,k,t,s,by simp only[XU,bU],hb,rfl,fun i v hi=>?_⟩;have:=x i v hi;simp only[Nat.zero_add,Nat.add_mul] at this ⊢;rw[show o+l*sz+j*sz+i=o+(l*sz+j*sz)+i by omega];exact this
theorem jn {b o j off n:Nat}{es:List C}{vs:List Value}(l:Jm F b (o+j) off vs):bN F (some ⟨b,o,none⟩) j ((vs.drop off).take n):=by
 obtain⟨d,a,t,e,h,f,k⟩:=l;refine⟨_,a,t,e,rfl,h,rfl,fun i v c=>?_⟩;rw[XB] at c;split at c
 case isFalse=>cases c
 rw[Xy] at c;have:=k _ _ c;show a[o+j+i]?=_/\nR e (o+j+i);rw[f,Nat.add_assoc];exact this
theorem dU {L':Loc}{cs:List C}{vs:List Value}(q:dF cs=true) (h:aB F L cs vs):aB F L' cs vs:=by
 have b:∀(c:C) (v:Value),c.Wp=true->Rel F L c v->Rel F L' c v:=by
  intro c v d h;cases c<;>simp only[C.Wp,Xd] at d<;>simp only[Rel] at h ⊢<;>exact h
 have a:∀(cs:List C) (vs:List Value),iP cs=true->aB F L cs vs->aB F L' cs vs:=by
  intro cs vs d h;rw[jg] at h ⊢;exact⟨h.1,fun i c v e m=>b c v (pK.1 d c (W9 e)) (h.2 i c v e m)⟩
 rw[jg] at h ⊢;refine⟨h.1,fun i c v e m=>?_⟩;have d:=n8.1 q c (W9 e);have f:=h.2 i c v e m;cases c<;>first
  | exact b _ _ d f
  | (simp only[C.pure,C.Wp,Xd] at d;done)
  | (simp only[C.pure] at d
     split at d
     case h_2=>cases d
     rename_i j;simp only[Rel] at f ⊢;obtain⟨l,k,n,o,p⟩:=f;exact⟨l,k,n,a _ _ j o,a _ _ d p⟩)
theorem tv {els:List (List C)}{v:Value}(h:Rel F L (.slx els) v):Rel F L (.sl els) v:=by
 simp only[Rel] at h ⊢;obtain⟨a,c,b,sz,d⟩:=h;exact⟨some a,els.length,c,Xn _,b,fun e=>(by cases e),sz,d⟩
theorem sn {c:C}{v:Value}(h:Rel F L c v):Rel F L c.can v:=by
 cases c<;>first
  | exact h
  | exact tv h
  | (simp only[Rel] at h
     subst h;simp only[C.can,Rel];exact⟨none,0,by simp,by simp,by simp,fun _=>by simp,0,by simp only[fE]⟩)
theorem jo {cs:List C}{vs:List Value}(h:aB F L cs vs):aB F L (cs.map C.can) vs:=h.map fun c _ v=>sn
theorem gU {c:C}{v:Value}(h:Rel F L c v):Rel F L c.Wo v:=by
 cases c<;>first
  | exact h
  | exact sn (c:=.nils) h
  | exact tv h
  | (simp only[Rel] at h
     obtain⟨vs,b,a⟩:=h;simp only[C.Wo,Rel];exact⟨vs,b,jo a⟩)
theorem GW {c:C}{sv:SV}(h:aN F L c sv):aN F L c.can sv:=by
 cases c<;>first
  | exact h
  | (obtain⟨v,e,a⟩:=h;exact⟨v,e,tv a⟩)
  | (obtain⟨v,e,a⟩:=h;exact⟨v,e,sn (c:=.nils) a⟩)
theorem jq {x:X}{els:List (List C)}(h:∀j,aN F L (τ j) (ρ j)) (e:(bV τ x).can=.sl els) :
  ∃a c sz,ev ρ x=.v (.slice a els.length c)/\els.length<=c/\els.length<=maxLen/\(a=none->els=[]/\c=0)/\fE F a sz 0 els:=by
 have:=GW (cZ h x);rw[e] at this;simp only[aN,Rel] at this;obtain⟨v,d,a,c,rfl,b,f,l,sz,k⟩:=this;exact⟨a,c,sz,d,b,f,l,k⟩
theorem Jw {c:C}{k:Nat}(e:c.can=.opq k):c=.opq k:=by cases c<;>simp only[C.can,reduceCtorEq] at e<;>exact e
theorem Dt {c:C}{k:Nat}{a:List Nat}(e:c.can=.slo k a):c=.slo k a:=by cases c<;>simp only[C.can,reduceCtorEq] at e<;>exact e
theorem zG {c:C}{k:Nat}(e:c.can=.rw k):c=.rw k:=by cases c<;>simp only[C.can,reduceCtorEq] at e<;>exact e
theorem zH {x:X}{els:List (List C)}(h:∀j,aN F L (τ j) (ρ j)) (e:bV τ x=.slx els) :
  ∃a sz,ev ρ x=.v (.slice (some a) els.length els.length)/\els.length<=maxLen/\fE F (some a) sz 0 els:=by
 have:=cZ h x;rw[e] at this;simp only[aN,Rel] at this;obtain⟨v,c,a,rfl,b,sz,d⟩:=this;exact⟨a,sz,c,b,d⟩
theorem Jy {c:C}(h:c.one=true):c.can.one=true:=by cases c<;>first | exact h | rfl
theorem mo {cs:List C}(h:dm cs=true):dm (cs.map C.can)=true:=by
 rw[ic] at h ⊢;intro c b;obtain⟨d,a,rfl⟩:=Xz.1 b;exact Jy (h d a)
theorem fw {cs:List C}{vs:List Value}(h:aB F L cs vs) (c:dm cs=true):∀u∈vs,u.oneCell'=true:=by
 intro u d;obtain⟨i,hi⟩:=Xr.1 d;have a:i<cs.length:=by rw[<-h.len];exact(W5.1 hi).1
 have b:=h.at (WZ a) hi;exact b.one (ic.1 c _ (List.getElem_mem a))
theorem j5:∀{vs:List Value},(∀u∈vs,u.oneCell'=true)->iS vs=true
 | [],_=>rfl
 | v::vs,h=>by simp only[iS,h v (by simp)];exact j5 fun u a=>h u (by simp[a])
end
section
variable {P:Program}{G:Nat->Option (Nat×TypeId)}{F:aA}{L:Loc}{ρ:Env}{M:TL}{τ:aT}
theorem gV {k:IntKind}{n:Int}(h:(Lit.int k n).wf=true):aN F L (.int k n) (.v (.int k n)):=⟨_,rfl,by simp only[Rel];exact⟨trivial,h⟩⟩
theorem cB {b:Bool}:aN F L (.bool b) (.v (.bool b)):=⟨_,rfl,by simp only[Rel]⟩
theorem su {s:ByteArray}(h:s.size<=maxLen):aN F L (.str s) (.v (.string s)):=⟨_,rfl,by simp only[Rel];exact⟨trivial,h⟩⟩
theorem GX {es:List C}{vs:List Value}{c:Addr}{j:Nat}{a:Array Value}{t:TypeId}{e:Nat×Nat}(hb:F c.block=some (.cells a t e)) (d:c.spot=none)
  (k:∀(i:Nat) v,vs[i]?=some v->a[c.off+j+i]?=some v/\nR e (c.off+j+i)) (h:dm es=true) (f:aB F [] es vs):aN F L (.pt es 0) (.el (some c) j):=by
 obtain⟨b,o,l⟩:=c;simp only at d;subst d;exact⟨b,o,j,vs,.inr rfl,⟨o+j,a,t,e,hb,rfl,k⟩,h,f⟩
theorem yD:∀{p:List UInt8}{xs:List Value},aL F 1 (af p) xs->xs=p.map fun b=>Value.int .u8 b.toNat
 | [],xs,h=>by simpa[af,aL] using h
 | b::p,xs,h=>by
  simp only[af,Xa,aL] at h;obtain⟨vs,d,rfl,j,f,a,e⟩:=h;simp only[aB,Rel] at a;obtain⟨v,c,rfl,⟨rfl,_⟩,rfl⟩:=a;rw[yD (p:=p) e];rfl
theorem ud {a:Option Addr}{sz c:Nat}{bs:List UInt8}(k:fE F a sz 0 (af bs)) (hn:a=none->af bs=[]/\c=0) :
  (bN F a 0 (bs.map fun b=>Value.int .u8 b.toNat))\/bs.length=0:=by
 rw[lW] at k;cases hb:bs with
 | nil=>exact .inr rfl
 | cons y p =>
  refine .inl ?_;have x:=k 0 [iF y] (by simp[af,hb]);obtain⟨us,r,⟨ad,m,t,fr,e,f,l,_⟩,_,j⟩:=x;have o:sz=1:=by rw[<-r,j.len];rfl
  subst o;rw[<-hb];refine⟨ad,m,t,fr,e,f,l,fun i v hi=>?_⟩;simp only[XH,Option.map_eq_some_iff] at hi;obtain⟨b,n,rfl⟩:=hi;obtain⟨us,r,⟨w,s,t',ab,h,d,q,hv⟩,_,j⟩:=k i [iF b] (by simp[af,n]);rw[e] at h;injection h with h
  subst h;rw[f] at d;injection d with d
  injection d with q1 q2 q3
  subst q1 q3;simp only[aB,Rel] at j;obtain⟨u,z,rfl,⟨rfl,_⟩,rfl⟩:=j;have:=hv 0 _ (by simp;rfl);simpa using this
theorem Du {els:List (List C)}{a:Option Addr}{c sz:Nat}(d:els.length<=c) (b:els.length<=maxLen) (e:a=none->els=[]/\c=0) (f:fE F a sz 0 els):aN F L (.sl els) (.v (.slice a els.length c)) :=
 ⟨_,rfl,by simp only[Rel];exact⟨a,c,rfl,d,b,e,sz,f⟩⟩
set_option maxHeartbeats 1000000 in
theorem Jz:∀{ks:List Bool}{cs ds:List C}{e b:Bool}{vs us:List Value},tj ks cs ds e=some b->aB F L cs vs->aB F L ds us->iC ks vs.toArray.toList us.toArray.toList e=some b:=by
 intro ks
 induction ks with
 | nil =>
  intro cs ds e b vs us h a d;cases cs with
  | cons c cs=>simp[tj] at h
  | nil =>
   cases ds with
   | cons c cs=>simp[tj] at h
   | nil =>
    simp only[aB] at a d;subst a d;simpa[iC,tj] using h
 | cons k ks l =>
  intro cs ds e b vs us h a d;cases cs with
  | nil=>cases k<;>simp[tj] at h
  | cons c cs =>
   cases ds with
   | nil=>cases k<;>cases c<;>simp[tj] at h
   | cons m ds =>
    cases k<;>cases c<;>try (simp[tj] at h;done)
    all_goals cases m<;>try (simp[tj] at h;done)
    all_goals simp only[aB,Rel] at a d
    ·obtain⟨v,j,rfl,rfl,a⟩:=a;obtain⟨u,f,rfl,rfl,d⟩:=d;simp only[tj] at h;have:=l h a d;simp only[iC];exact this
    ·obtain⟨v,j,rfl,⟨rfl,_⟩,a⟩:=a;obtain⟨u,f,rfl,⟨rfl,_⟩,d⟩:=d;simp only[tj] at h;split at h
     case h_2=>cases h
     rename_i n;have:=l h a d;simp only[iC,n];exact this
theorem MV (v:Value):Rel F L (cv v) v:=by
 unfold cv;split
 ·rename_i cs;simp only[Rel];exact⟨cs.toList,by simp,kG _⟩
 ·exact zD v
theorem zI {x:X}{k:Nat}(h:∀j,aN F L (τ j) (ρ j)) (e:bV τ x=.mpr k):∃g cs,ev ρ x=.v (.map (some g))/\L.get k=some (.box g 0 cs):=by
 have:=cZ h x;rw[e] at this;simp only[aN,Rel] at this;obtain⟨v,b,g,cs,a,rfl⟩:=this;exact⟨g,cs,b,a⟩
theorem Cz (h:cO F L M) {k:Nat}{es:List (C×C)}(e:M.get k=some (.map es)):∃g vs,L.get k=some (.box g 0 vs)/\iQ F es vs:=by
 have:=h k;rw[e] at this;cases a:L.get k with
 | none=>rw[a] at this;exact this.elim
 | some o =>
  rw[a] at this;cases o with
  | row=>exact this.elim
  | box g c vs=>obtain⟨rfl,b⟩:=this;exact⟨g,vs,rfl,b⟩
theorem iQ.isMap {es:List (C×C)}{vs:List Value}(h:iQ F es vs):mI vs=true:=by
 cases es with
 | nil=>simp only[iQ] at h;subst h;rfl
 | cons p l =>
  obtain⟨k,c⟩:=p;simp only[iQ] at h;obtain⟨kv,v,a,rfl,_⟩:=h;rfl
theorem iQ.len:∀{es:List (C×C)}{vs:List Value},iQ F es vs->vs.length=es.length
 | [],vs,h=>by simp only[iQ] at h;subst h;rfl
 | (k,c)::l,vs,h=>by
  simp only[iQ] at h;obtain⟨kv,v,a,rfl,_,_,h⟩:=h;simp[iQ.len h]
theorem pO {str:Bool}{a b:C}{u v:Value}{r:Bool}{L':Loc}(h:lV str a b=some r) (c:Rel F L a u) (hb:Rel F L' b v):fj str u v=some r:=by
 unfold lV at h;split at h
 ·simp only[Rel] at c hb;rw[c.1,hb.1];exact h
 ·simp only[Rel] at c hb;rw[c.1,hb.1];exact h
 ·cases h
theorem vW {str:Bool}{key:C}{kv:Value}(a:∀b v r,lV str key b=some r->Rel F [] b v->fj str kv v=some r):∀{es:List (C×C)}{vs:List Value}{o:Option C}(i:Nat),iQ F es vs->yx str key es=some o ->
  match o with | some c=>∃j v,lM str kv vs i=some (some (j,v))/\Rel F [] c v | none=>lM str kv vs i=some none
 | [],vs,o,i,h,e=>by
  simp only[iQ] at h;subst h;simp only[yx,WY] at e;subst e;rfl
 | (k,c)::l,vs,o,i,h,e=>by
  simp only[iQ] at h;obtain⟨u,v,p,rfl,f,n,m⟩:=h;simp only[yx] at e;split at e
  ·rename_i d;injection e with e
   subst e;exact⟨i,v,by simp only[lM,a _ _ _ d f],n⟩
  ·rename_i d;have:=vW a (i+1) m e;simp only[lM,a _ _ _ d f];exact this
  ·cases e
theorem yE {c:C}{v:Value}{b:Bool}(h:Rel F L c v):aN F L (.tup [c,.bool b]) (.v (.tuple #[v,.bool b])) :=
 ⟨_,rfl,by simp only[Rel,aB];exact⟨[v,.bool b],rfl,v,_,rfl,h,_,[],rfl,rfl,rfl⟩⟩
theorem Dv (h:∀j,aN F L (τ j) (ρ j)) {str:Bool}{x:X}:∀b v r,lV str (bV τ x) b=some r->Rel F [] b v->fj str (val L ρ x) v=some r:=by
 intro b v r a hb;refine pO (F:=F) (L:=L) a ?_ hb;have:=sj h x
 revert this
 cases c:bV τ x<;>rw[c] at a<;>cases str<;>simp only[lV,reduceCtorEq] at a<;>simp only[C.cel]<;>exact fun h=>h
theorem P7 {o:dS}{V:C->Prop}(ht:TS G F L ρ M τ) (h:outT o M τ V):aI o F L ρ (fun sv=>∃c,aN F L c sv/\V c):=by
 have he:=ht.env;cases o<;>simp only[outT] at h<;>simp only[aI]
 case mov x=>exact⟨_,cZ he x,h⟩
 case pick c a b =>
  split at h
  case h_2=>exact h.elim
  rename_i t hc;rw[gT he hc];cases t
  ·exact⟨_,cZ he b,h⟩
  ·exact⟨_,cZ he a,h⟩
 case build zs ps =>
  rw[dV] at h;obtain⟨cs,hc,h⟩:=tq h;obtain⟨us,h1,h2⟩:=yC he ps (kG zs) hc;rw[h1];exact⟨.agg cs,⟨_,rfl,by simp only[Rel];exact⟨us,rfl,h2⟩⟩,h⟩
 case load agg n x =>
  split at h
  ·rename_i k off w;obtain⟨d,_⟩:=ep he w;rw[d];split at h
   case h_3=>exact h.elim
   case h_2 =>
    rename_i t pre cs post hk;obtain⟨g,ty,v1,v2,v3,hL,be,hr,cz,an⟩:=rz ht.tl hk;rcases h with⟨o,rfl,h⟩ | ⟨us,e,hl,h⟩
    case inr =>
     have p:=((be.lift (L:=L)).drop off).take n;rw[e] at p;have aa:((v1.drop off).take n).length=n:=by rw[p.len];exact br hl
     have hp:(((v1++(v2++v3)).drop off).take n)=(v1.drop off).take n:=by
      by_cases bi:n=0
      ·subst bi;simp
      have:off+n<=v1.length:=by simp at aa;omega
      rw[List.drop_append_of_le_length (by omega),List.take_append_of_le_length (by simp;omega)]
     simp only[hL];rw[hp,fk an.2.2 (cQ aa)];exact⟨_,cm p,h⟩
    split at h
    case h_2=>exact h.elim
    rename_i hl;have p:=(hr.drop o).take n;have aa:((v2.drop o).take n).length=n:=by rw[p.len];exact br hl
    simp only[hL]
    by_cases bi:n=0
    ·subst bi;rw[fk an.2.2 (cQ (by simp))];simp only[List.take_zero] at h p ⊢;exact⟨_,cm p,h⟩
    have hn:o+n<=v2.length:=by simp at aa;omega
    have hp:=Bd (v1:=v1) (v3:=v3) aa hn;rw[<-be.len,hp,fk an.2.2 (cQ aa)];exact⟨_,cm p,h⟩
   rename_i t cs hk;obtain⟨g,ty,vs,hL,hr,an⟩:=jT ht.tl hk;split at h
   case h_2=>exact h.elim
   rename_i hl;have p:=(hr.drop off).take n;simp only[hL];rw[fk an.2.2 (cQ (by rw[p.len];exact br hl))];exact⟨_,cm p,h⟩
  ·rename_i es off w;split at h
   case h_2=>exact h.elim
   rename_i hl;obtain⟨b,o,j,vs,d,hp,ho,hr⟩:=og he w;have p:aB F L ((es.drop off).take n) ((vs.drop off).take n):=((hr.drop off).take n).lift;rcases d with⟨d,rfl⟩ | d
   ·rw[d];exact⟨_,by rw[p.len];exact br hl,.inl (jn (es:=es) hp),_,cm p,h⟩
   ·rw[d];exact⟨_,by rw[p.len];exact br hl,.inl (jn (es:=es) hp),_,cm p,h⟩
  ·rename_i k off w;split at h
   case h_3=>exact h.elim
   case h_2 =>
    rename_i t pre cs post hk;obtain⟨g',ty',db,d,bk⟩:=mh he w;obtain⟨g,ty,v1,v2,v3,hL,be,hr,cz,an⟩:=rz ht.tl hk;rw[hL] at d;injection d with d
    injection d with q1 q2 q3
    subst q1 q2 q3;rcases h with⟨o,rfl,h⟩ | ⟨us,e,hl,h⟩
    case inr =>
     have p:=((be.lift (L:=L)).drop off).take n;rw[e] at p;have aa:((v1.drop off).take n).length=n:=by rw[p.len];exact br hl
     have aE:∀(i:Nat) (u:Value),((v1.drop off).take n)[i]?=some u->(v1++(v2++v3))[off+i]?=some u:=by
      intro i u hu;rw[XB] at hu;split at hu
      case isFalse=>cases hu
      rw[Xy] at hu;rw[Xc (W5.1 hu).1];exact hu
     rcases bk with e2 | ⟨b,q,j,e2,e3⟩
     ·rw[e2];exact⟨_,aa,.inr (.inr (.inr ⟨k,g,ty,_,_,hL,an.2.2,rfl,fun i u hu=>by rw[Nat.add_zero];exact aE i u hu⟩)),_,cm p,h⟩
     ·injection e3 with e3
      injection e3 with e3
      injection e3 with q1 q2 q3
      subst q1;rw[e2];exact⟨_,aa,.inr (.inr (.inr ⟨k,g,ty,_,q,hL,an.2.2,rfl,fun i u hu=>by rw[<-q2];exact aE i u hu⟩)),_,cm p,h⟩
    split at h
    case h_2=>exact h.elim
    rename_i hl;have p:=(hr.drop o).take n;have aa:((v2.drop o).take n).length=n:=by rw[p.len];exact br hl
    have aE:∀(i:Nat) (u:Value),((v2.drop o).take n)[i]?=some u->(v1++(v2++v3))[pre.length+o+i]?=some u:=by
     intro i u hu;rw[XB] at hu;split at hu
     case isFalse=>cases hu
     rw[Xy] at hu;have bv:=(W5.1 hu).1;rw[<-be.len,Xi (by omega),show v1.length+o+i-v1.length=o+i by omega,Xc bv];exact hu
    rcases bk with e2 | ⟨b,q,j,e2,e3⟩
    ·rw[e2];exact⟨_,aa,.inr (.inr (.inr ⟨k,g,ty,_,_,hL,an.2.2,rfl,fun i u hu=>by rw[Nat.add_zero];exact aE i u hu⟩)),_,cm p,h⟩
    ·injection e3 with e3
     injection e3 with e3
     injection e3 with q1 q2 q3
     subst q1;rw[e2];exact⟨_,aa,.inr (.inr (.inr ⟨k,g,ty,_,q,hL,an.2.2,rfl,fun i u hu=>by rw[<-q2];exact aE i u hu⟩)),_,cm p,h⟩
   rename_i t cs hk;obtain⟨g',ty',db,d,bk⟩:=mh he w;obtain⟨g,ty,vs,hL,hr,an⟩:=jT ht.tl hk;rw[hL] at d;injection d with d
   injection d with q1 q2 q3
   subst q1 q2 q3;split at h
   case h_2=>exact h.elim
   rename_i hl;have p:=(hr.drop off).take n;have aa:((vs.drop off).take n).length=n:=by rw[p.len];exact br hl
   have aE:∀(i:Nat) (u:Value),((vs.drop off).take n)[i]?=some u->vs[off+i]?=some u:=by
    intro i u hu;rw[XB] at hu;split at hu
    case isFalse=>cases hu
    rwa [Xy] at hu
   rcases bk with e2 | ⟨b,o,j,e2,e3⟩
   ·rw[e2];exact⟨_,aa,.inr (.inr (.inr ⟨k,g,ty,vs,off,hL,an.2.2,rfl,fun i u hu=>by rw[Nat.add_zero];exact aE i u hu⟩)),_,cm p,h⟩
   ·injection e3 with e3
    injection e3 with e3
    injection e3 with q1 q2 q3
    subst q1 q2;rw[e2];exact⟨_,aa,.inr (.inr (.inr ⟨k,g,ty,vs,o,hL,an.2.2,rfl,fun i u hu=>aE i u hu⟩)),_,cm p,h⟩
  ·rename_i k j off w;split at h
   case h_2=>exact h.elim
   rename_i t sz els hk;obtain⟨es,h1,h2,h3⟩:=h;obtain⟨ad,t',az,m,c,cd,d,e2⟩:=si he w;obtain⟨v,xs,e3,_,hr⟩:=jU ht.tl hk;rw[e2] at e3;injection e3 with e3
   injection e3 with q1 q2 q3 q4 q5
   subst q2 q3 q5;obtain⟨vs,k1,k2,k3,k4⟩:=hr.at h1;have p:aB F L ((es.drop off).take n) ((vs.drop off).take n):=((k3.drop off).take n).lift;rw[d];refine⟨_,by rw[p.len];exact br h2,.inr (.inl ⟨k,_,_,_,_,_,ad,c,e2,rfl,rfl,fun i u hu=>?_⟩),_,cm p,h3⟩;rw[XB] at hu;split at hu
   case isFalse=>cases hu
   rw[Xy] at hu;rw[Nat.add_assoc];exact k4 _ _ hu
  ·rename_i k bu j w;split at h
   case h_2=>exact h.elim
   rename_i hn;obtain rfl:=yo hn;obtain⟨o,h1,h2⟩:=h;obtain⟨g,t,cs,ad,d,e2,e3⟩:=Ju he w;rw[e2];exact⟨_,rfl,.inl (Cx e3 (v:=.pointer (some ⟨g,o,none⟩)) (by rw[XH,h1];rfl)),.ownv k o,⟨_,.inl rfl,by simp only[Rel];exact⟨g,t,cs,d,rfl⟩⟩,h2⟩
  ·exact h.elim
 case loadR agg n x =>
  split at h
  ·rename_i k off w;obtain⟨d,_⟩:=ep he w;rw[d];split at h
   case h_2=>exact h.elim
   rename_i t cs hk;obtain⟨g,ty,vs,hL,hr,an⟩:=jT ht.tl hk;split at h
   case h_2=>exact h.elim
   rename_i hl;have p:=(hr.drop off).take n;simp only[hL];rw[fk an.2.2 (cQ (by rw[p.len];exact br hl))];exact⟨_,cm p,h⟩
  ·rename_i es off w;split at h
   case h_2=>exact h.elim
   rename_i hl;obtain⟨b,o,j,vs,d,hp,ho,hr⟩:=og he w;have p:aB F L ((es.drop off).take n) ((vs.drop off).take n):=((hr.drop off).take n).lift;rcases d with⟨d,rfl⟩ | d
   ·rw[d];exact⟨_,by rw[p.len];exact br hl,.inl (jn (es:=es) hp),_,cm p,h⟩
   ·rw[d];exact⟨_,by rw[p.len];exact br hl,.inl (jn (es:=es) hp),_,cm p,h⟩
  ·rename_i k off w;split at h
   case h_2=>exact h.elim
   rename_i t cs hk;obtain⟨g',ty',db,d,bk⟩:=mh he w;obtain⟨g,ty,vs,hL,hr,an⟩:=jT ht.tl hk;rw[hL] at d;injection d with d
   injection d with q1 q2 q3
   subst q1 q2 q3;split at h
   case h_2=>exact h.elim
   rename_i hl;have p:=(hr.drop off).take n;have aa:((vs.drop off).take n).length=n:=by rw[p.len];exact br hl
   have aE:∀(i:Nat) (u:Value),((vs.drop off).take n)[i]?=some u->vs[off+i]?=some u:=by
    intro i u hu;rw[XB] at hu;split at hu
    case isFalse=>cases hu
    rwa [Xy] at hu
   rcases bk with e2 | ⟨b,o,j,e2,e3⟩
   ·rw[e2];exact⟨_,aa,.inr (.inr (.inr ⟨k,g,ty,vs,off,hL,an.2.2,rfl,fun i u hu=>by rw[Nat.add_zero];exact aE i u hu⟩)),_,cm p,h⟩
   ·injection e3 with e3
    injection e3 with e3
    injection e3 with q1 q2 q3
    subst q1 q2;rw[e2];exact⟨_,aa,.inr (.inr (.inr ⟨k,g,ty,vs,o,hL,an.2.2,rfl,fun i u hu=>aE i u hu⟩)),_,cm p,h⟩
  ·rename_i k j off w;split at h
   case h_2=>exact h.elim
   rename_i t sz els hk;obtain⟨es,h1,h2,h3⟩:=h;obtain⟨ad,t',az,m,c,cd,d,e2⟩:=si he w;obtain⟨v,xs,e3,_,hr⟩:=jU ht.tl hk;rw[e2] at e3;injection e3 with e3
   injection e3 with q1 q2 q3 q4 q5
   subst q2 q3 q5;obtain⟨vs,k1,k2,k3,k4⟩:=hr.at h1;have p:aB F L ((es.drop off).take n) ((vs.drop off).take n):=((k3.drop off).take n).lift;rw[d];refine⟨_,by rw[p.len];exact br h2,.inr (.inl ⟨k,_,_,_,_,_,ad,c,e2,rfl,rfl,fun i u hu=>?_⟩),_,cm p,h3⟩;rw[XB] at hu;split at hu
   case isFalse=>cases hu
   rw[Xy] at hu;rw[Nat.add_assoc];exact k4 _ _ hu
  ·exact h.elim
 case loadD agg n x =>
  split at h
  ·rename_i k off w;obtain⟨d,_⟩:=ep he w;rw[d];split at h
   case h_3=>exact h.elim
   case h_2 =>
    rename_i t pre cs post hk;obtain⟨g,ty,v1,v2,v3,hL,be,hr,cz,an⟩:=rz ht.tl hk;rcases h with⟨o,rfl,h⟩ | ⟨us,e,hl,h⟩
    case inr =>
     have p:=((be.lift (L:=L)).drop off).take n;rw[e] at p;have aa:((v1.drop off).take n).length=n:=by rw[p.len];exact br hl
     have hp:(((v1++(v2++v3)).drop off).take n)=(v1.drop off).take n:=by
      by_cases bi:n=0
      ·subst bi;simp
      have:off+n<=v1.length:=by simp at aa;omega
      rw[List.drop_append_of_le_length (by omega),List.take_append_of_le_length (by simp;omega)]
     simp only[hL];rw[hp,fk an.2.2 (cQ aa)];exact⟨_,cm p,h⟩
    split at h
    case h_2=>exact h.elim
    rename_i hl;have p:=(hr.drop o).take n;have aa:((v2.drop o).take n).length=n:=by rw[p.len];exact br hl
    simp only[hL]
    by_cases bi:n=0
    ·subst bi;rw[fk an.2.2 (cQ (by simp))];simp only[List.take_zero] at h p ⊢;exact⟨_,cm p,h⟩
    have hn:o+n<=v2.length:=by simp at aa;omega
    have hp:=Bd (v1:=v1) (v3:=v3) aa hn;rw[<-be.len,hp,fk an.2.2 (cQ aa)];exact⟨_,cm p,h⟩
   rename_i t cs hk;obtain⟨g,ty,vs,hL,hr,an⟩:=jT ht.tl hk;split at h
   case h_2=>exact h.elim
   rename_i hl;have p:=(hr.drop off).take n;simp only[hL];rw[fk an.2.2 (cQ (by rw[p.len];exact br hl))];exact⟨_,cm p,h⟩
  ·rename_i es off w;split at h
   case h_2=>exact h.elim
   rename_i hl;obtain⟨b,o,j,vs,d,hp,ho,hr⟩:=og he w;have p:aB F L ((es.drop off).take n) ((vs.drop off).take n):=((hr.drop off).take n).lift;rcases d with⟨d,rfl⟩ | d
   ·rw[d];exact⟨_,by rw[p.len];exact br hl,.inl (jn (es:=es) hp),_,cm p,h⟩
   ·rw[d];exact⟨_,by rw[p.len];exact br hl,.inl (jn (es:=es) hp),_,cm p,h⟩
  ·exact h.elim
 case gload g =>
  split at h
  case h_2=>exact h.elim
  rename_i k hg;obtain⟨v,t,fr,h1,h2⟩:=FO ht.glob hg;exact⟨v,t,fr,h1,.opq k,⟨_,rfl,by simp only[Rel];exact h2⟩,h⟩
 case loadF agg n x =>
  split at h
  ·rename_i es off w;split at h
   case h_2=>exact h.elim
   rename_i hl;obtain⟨b,o,j,vs,d,hp,ho,hr⟩:=og he w;have p:aB F L ((es.drop off).take n) ((vs.drop off).take n):=((hr.drop off).take n).lift;rcases d with⟨d,rfl⟩ | d
   ·rw[d];exact⟨_,by rw[p.len];exact br hl,.inl (jn (es:=es) hp),_,cm p,h⟩
   ·rw[d];exact⟨_,by rw[p.len];exact br hl,.inl (jn (es:=es) hp),_,cm p,h⟩
  ·exact h.elim
 case loadK key agg n x =>
  split at h
  ·rename_i k off w;obtain⟨d,_⟩:=ep he w;rw[d];split at h
   case h_2=>exact h.elim
   rename_i hb;simp only[hb];split at h
   case h_2=>exact h.elim
   rename_i t cs hk;obtain⟨g,ty,vs,hL,hr,an⟩:=jT ht.tl hk;split at h
   case h_2=>exact h.elim
   rename_i hl;have p:=(hr.drop off).take n;simp only[hL];rw[fk an.2.2 (cQ (by rw[p.len];exact br hl))];exact⟨_,cm p,h⟩
  ·exact h.elim
 case b2sD x =>
  split at h
  ·rename_i els w;obtain⟨bs,rfl,h⟩:=h;obtain⟨a,c,sz,d,e2,e3,e4,e5⟩:=jq he w;rw[d];have aa:(af bs).length=bs.length:=by simp[af]
   refine⟨bs.map fun b=>Value.int .u8 b.toNat,by simp[aa],?_,bs,rfl,_,su ?_,h⟩
   ·rcases ud e5 e4 with h1 | h1
    ·exact .inl h1
    ·exact .inr (by rw[aa];exact h1)
   ·rw[aa] at e2;show bs.toArray.size<=maxLen;simp;exact(by simpa[af] using e3)
  ·exact h.elim
 case b2sR x =>
  split at h
  case h_2=>exact h.elim
  rename_i k w;split at h
  case h_2=>exact h.elim
  rename_i t sz els hk;split at h
  case h_2=>exact h.elim
  rename_i bz;have:=yo bz;subst this;obtain⟨bs,rfl,h⟩:=h;obtain⟨a,c,t',az,n,cd,d,e2⟩:=rq he w;obtain⟨v,xs,e3,⟨hm,a',c',q6,q7⟩,hr⟩:=jU ht.tl hk;have aa:(af bs).length=bs.length:=by simp[af]
  rw[e2] at e3;injection e3 with e3
  injection e3 with q1 q2 q3 q4 q5
  subst q2 q3 q4 q5;have w:=yD hr;subst w;rw[<-q1] at q6;injection q6 with q6 q8
  subst q6;rw[d];refine⟨k,_,c,bs,e2,aa.symm,q7,_,su ?_,h⟩;show bs.toArray.size<=maxLen;simp;omega
 case mkif t x =>
  split at h
  ·rename_i k n w;obtain⟨d,e2⟩:=dX he w;rw[d];exact⟨.ifc t (.int k n),⟨_,rfl,by simp only[Rel];exact⟨_,rfl,rfl,e2⟩⟩,h⟩
  ·rename_i b w;rw[gT he w];exact⟨.ifc t (.bool b),⟨_,rfl,by simp only[Rel];exact⟨_,rfl,rfl⟩⟩,h⟩
  ·rename_i s w;obtain⟨d,e2⟩:=jl he w;rw[d];exact⟨.ifc t (.str s),⟨_,rfl,by simp only[Rel];exact⟨_,rfl,rfl,e2⟩⟩,h⟩
  ·rename_i es off w;obtain⟨b,o,j,vs,d,hp,ho,hr⟩:=og he w;rcases d with⟨d,rfl⟩ | d
   ·rw[d];exact⟨.ifc t (.pt es off),⟨_,rfl,by simp only[Rel];exact⟨_,rfl,b,o,vs,rfl,hp,ho,hr⟩⟩,h⟩
   ·rw[d];exact⟨.ifc t (.pt es off),⟨_,rfl,by simp only[Rel];exact⟨_,rfl,b,o+j,vs,by rw[bU],hp,ho,hr⟩⟩,h⟩
  ·rename_i k off w;obtain⟨d,g,t',cs,e2⟩:=ep he w;rw[d];simp only[e2];exact⟨.ifo none t k off,⟨_,rfl,by simp only[Rel];exact⟨g,t',cs,e2,rfl⟩⟩,h⟩
  ·rename_i k off w;obtain⟨g,t',cs,d,e2⟩:=mh he w;rcases e2 with e2 | ⟨b,o,j,e2,e3⟩
   ·rw[e2];exact⟨.ifo none t k off,⟨_,rfl,by simp only[Rel];exact⟨g,t',cs,d,rfl⟩⟩,h⟩
   ·rw[e2];exact⟨.ifo none t k off,⟨_,rfl,by simp only[Rel];exact⟨g,t',cs,d,by rw[bU,e3];rfl⟩⟩,h⟩
  ·rename_i cs w;split at h
   case h_2=>exact h.elim
   rename_i hp;rw[dV] at h;obtain⟨vs,d,e2⟩:=uQ he w;rw[d];exact⟨.ifc t (.agg cs),⟨_,rfl,by simp only[Rel];exact⟨_,rfl,vs,rfl,dU hp e2⟩⟩,h⟩
  ·exact h.elim
 case mkmv nm x =>
  split at h
  ·rename_i t c w;obtain⟨u,d,hr⟩:=zE he w;rw[d];exact⟨.mval nm (.ifc t c),⟨_,rfl,by simp only[Rel];exact⟨_,rfl,_,rfl,hr⟩⟩,h⟩
  ·rename_i t k off w;obtain⟨g,t',cs,hg,d⟩:=oe he w;rw[d];exact⟨.ifo (some nm) t k off,⟨_,rfl,by simp only[Rel];exact⟨g,t',cs,hg,rfl⟩⟩,h⟩
  ·exact h.elim
 case nilck x =>
  split at h
  ·rename_i k off w;obtain⟨d,e2⟩:=ep he w;rw[d];exact⟨.own k off,⟨rfl,e2⟩,h⟩
  ·rename_i es off w;obtain⟨b,o,j,vs,d,hp,ho,hr⟩:=og he w;rcases d with⟨d,rfl⟩ | d
   ·rw[d];exact⟨.pt es off,⟨b,o,0,vs,.inl ⟨rfl,rfl⟩,hp,ho,hr⟩,h⟩
   ·rw[d];exact⟨by simp,.pt es off,⟨b,o,j,vs,.inr rfl,hp,ho,hr⟩,h⟩
  ·rename_i k off w;obtain⟨g,t,cs,d,e2⟩:=mh he w;rcases e2 with e2 | ⟨b,o,j,e2,e3⟩
   ·rw[e2];exact⟨.ownv k off,⟨_,.inl rfl,by simp only[Rel];exact⟨g,t,cs,d,rfl⟩⟩,h⟩
   ·rw[e2];exact⟨by simp,.ownv k off,⟨_,.inr ⟨b,o,j,rfl,rfl⟩,by simp only[Rel];exact⟨g,t,cs,d,e3.symm⟩⟩,h⟩
  ·rename_i f fi ca w;obtain⟨cM,cX,d,h1,h2⟩:=ru he w;rw[d];exact⟨.fn f fi ca,⟨_,rfl,by simp only[Rel];exact⟨cM,cX,rfl,h1,h2⟩⟩,h⟩
  ·rename_i nm c w;split at h
   case h_2=>exact h.elim
   rename_i t c;obtain⟨u,d,hr⟩:=vV he w;have dE:=hr;simp only[Rel] at hr;obtain⟨u',rfl,hu⟩:=hr;rw[d];exact⟨h.1,.mval nm (.ifc t c),⟨_,rfl,by simp only[Rel];exact⟨_,rfl,_,rfl,hu⟩⟩,h.2⟩
  ·rename_i nm t k off w;obtain⟨g,t',cs,hg,d⟩:=oe he w;rw[d];exact⟨h.1,.ifo (some nm) t k off,⟨_,rfl,by simp only[Rel];exact⟨g,t',cs,hg,rfl⟩⟩,h.2⟩
  ·exact h.elim
 case bin op x y =>
  split at h
  ·rename_i k a k' b w hy;obtain⟨d,w1⟩:=dX he w;obtain⟨e2,w2⟩:=dX he hy;rw[d,e2];split at h
   ·rename_i cp;simp only[cp];exact GQ w1 h fun v hv hV=>⟨_,vU hv,hV⟩
   ·rename_i cp;simp only[cp];split at h
    case h_2=>exact h.elim
    rename_i hk;simp only[hk];exact ET w1 h fun v hv hV=>⟨_,vU hv,hV⟩
  ·rename_i a b w hy;rw[(jl he w).1,(jl he hy).1];exact EU h fun v hv hV=>⟨_,vU hv,hV⟩
  ·exact h.elim
 case eqB neg x y =>
  split at h
  case h_2=>exact h.elim
  rename_i a b w hy;rw[gT he w,gT he hy];exact⟨_,cB,h⟩
 case eqP neg x y =>
  have hy:Ct y=true->ev ρ y=.v (.pointer none):=by
   unfold Ct;split
   ·intro _;rfl
   ·intro e;cases e
  split at h
  ·rename_i k off h1 w;rw[(ep he w).1,hy h1];exact⟨_,cB,h⟩
  ·rename_i k off h1 w;obtain⟨g,t,cs,d,e2⟩:=mh he w;rcases e2 with e2 | ⟨b,o,j,e2,_⟩
   ·rw[e2,hy h1];exact⟨_,cB,h⟩
   ·rw[e2,hy h1];exact⟨_,cB,h⟩
  ·rename_i es off h1 w;obtain⟨b,q,j,vs,d,hp,ho,hr⟩:=og he w;rcases d with⟨d,rfl⟩ | d
   ·rw[d,hy h1];exact⟨_,cB,h⟩
   ·rw[d,hy h1];exact⟨_,cB,h⟩
  ·rename_i h1 w;rw[GR he w,hy h1];exact⟨_,cB,h⟩
  ·exact h.elim
 case eqS neg x y =>
  have hy:isNil y=true->ev ρ y=.v (.slice none 0 0):=by
   unfold isNil;split
   ·intro _;rfl
   ·intro e;cases e
  split at h
  ·rename_i els h1 w;obtain⟨a,c,sz,d,e2,e3,e4,e5⟩:=MU he w;rw[d,hy h1];refine⟨_,cB,h _ fun bm=>?_⟩;cases a with
   | none=>exact xo (e4 rfl).1 bm
   | some a=>rfl
  ·rename_i els h1 w;obtain⟨a,sz,d,_⟩:=zH he w;rw[d,hy h1];exact⟨_,cB,h⟩
  ·rename_i h1 w;rw[nI he w,hy h1];exact⟨_,cB,h⟩
  ·exact h.elim
 case eqF neg x y =>
  have hy:Cu y=true->ev ρ y=.v .nilFunc:=by
   unfold Cu;split
   ·intro _;rfl
   ·intro e;cases e
  split at h
  ·rename_i h1 w;rw[GS he w,hy h1];exact⟨_,cB,h⟩
  ·rename_i f fi ca h1 w;obtain⟨cM,cX,d,_,_⟩:=ru he w;rw[d,hy h1];exact⟨_,cB,h⟩
  ·exact h.elim
 case eqN neg x =>
  split at h
  ·rename_i t c w;obtain⟨u,d,_⟩:=zE he w;rw[d];exact⟨_,cB,h⟩
  ·rename_i t k off w;obtain⟨g,t',cs,hg,d⟩:=oe he w;rw[d];exact⟨_,cB,h⟩
  ·rename_i k w;split at h
   case h_2=>exact h.elim
   rename_i b hb;obtain⟨v,d,h1⟩:=zF he w;rw[d];obtain⟨q1,q2⟩:=FQ h1 hb;cases b with
   | true=>rw[q1 rfl];exact⟨_,cB,h⟩
   | false=>obtain⟨t,u,rfl⟩:=q2 rfl;exact⟨_,cB,h⟩
  ·exact h.elim
 case tas t z x =>
  have hz:Rel F L (cv z).cel z:=kH (MT z);split at h
  ·rename_i t' c w;obtain⟨u,d,hr⟩:=zE he w;rw[d];simp only[Dn] at h;cases hb:Nat.beq t' t with
   | true =>
    rw[hb] at h;simp only[hb];exact⟨.tup [c,.bool true],⟨_,rfl,by simp only[Rel];exact⟨[u,.bool true],rfl,by simp only[aB,Rel];exact⟨_,_,rfl,hr.lift,_,_,rfl,rfl,rfl⟩⟩⟩,h⟩
   | false =>
    rw[hb] at h;simp only[hb];exact⟨.tup [(cv z).cel,.bool false],⟨_,rfl,by simp only[Rel];exact⟨[z,.bool false],rfl,by simp only[aB,Rel];exact⟨_,_,rfl,hz,_,_,rfl,rfl,rfl⟩⟩⟩,h⟩
  ·rename_i t' k off w;obtain⟨g,t0,cs,hg,d⟩:=oe he w;rw[d];simp only[Dn] at h;cases hb:Nat.beq t' t with
   | true =>
    rw[hb] at h;simp only[Ba,hb];exact⟨.tup [.own k off,.bool true],⟨_,rfl,by simp only[Rel];exact⟨[.pointer (some ⟨g,off,none⟩),.bool true],rfl,by simp only[aB,Rel];exact⟨_,_,rfl,⟨g,t0,cs,hg,rfl⟩,_,_,rfl,rfl,rfl⟩⟩⟩,h⟩
   | false =>
    rw[hb] at h;simp only[Ba,hb];exact⟨.tup [(cv z).cel,.bool false],⟨_,rfl,by simp only[Rel];exact⟨[z,.bool false],rfl,by simp only[aB,Rel];exact⟨_,_,rfl,hz,_,_,rfl,rfl,rfl⟩⟩⟩,h⟩
  ·exact h.elim
 case eqA neg ks x y =>
  split at h
  case h_2=>exact h.elim
  rename_i cs ds w hy;split at h
  case h_2=>exact h.elim
  rename_i b hb;obtain⟨vs,d,h1⟩:=uQ he w;obtain⟨us,e2,h2⟩:=uQ he hy;simp only[d,e2];rw[Jz hb h1 h2];exact⟨_,cB,h⟩
 case un op x =>
  split at h
  ·rename_i b w;rw[gT he w];exact⟨_,cB,h⟩
  ·rename_i k n w;rw[(dX he w).1];exact⟨⟨_,gV (wf_wrap _ _),h.out⟩⟩
  ·rename_i k n w;rw[(dX he w).1];exact⟨_,gV (wf_wrap _ _),h⟩
  ·exact h.elim
 case conv k x =>
  split at h
  case h_2=>exact h.elim
  rename_i k' n w;rw[(dX he w).1];exact⟨⟨_,gV (wf_wrap _ _),h.out⟩⟩
 case b2s x =>
  split at h
  ·rename_i els w;obtain⟨bs,rfl,h⟩:=h;obtain⟨a,c,sz,d,e2,e3,e4,e5⟩:=jq he w;rw[d];have aa:(af bs).length=bs.length:=by simp[af]
   refine⟨bs.map fun b=>Value.int .u8 b.toNat,by simp[aa],?_,bs,rfl,_,su ?_,h⟩
   ·rcases ud e5 e4 with h1 | h1
    ·exact .inl h1
    ·exact .inr (.inr (.inl (by rw[aa];exact h1)))
   ·rw[aa] at e2;show bs.toArray.size<=maxLen;simp;exact(by simpa[af] using e3)
  ·exact h.elim
 case mkfn f fi ca=>exact⟨.fn f _ _,⟨_,rfl,by simp only[Rel];exact⟨_,_,rfl,cL he fi,cL he ca⟩⟩,h⟩
 case slc sz x lo hi =>
  split at h
  case h_2=>exact h.elim
  rename_i els w;split at h
  case h_2=>exact h.elim
  rename_i l r hl hh;obtain⟨h1,h2,h3,h4,h5⟩:=h;obtain⟨a,c,az,d,e2,e3,e4,e5⟩:=jq he w;rw[d];simp only[uR he hl,uR he hh];refine⟨h1,h2,by omega,_,?_,h5⟩;have aa:((els.drop l.toNat).take (r.toNat-l.toNat)).length=r.toNat-l.toNat:=by simp;omega
  have hs:els≠[]->az=sz:=by
   intro bm;obtain⟨es,cY⟩:=List.exists_mem_of_ne_nil _ bm;obtain⟨i,hi⟩:=Xr.1 cY;obtain⟨vs,k1,_,_,k4⟩:=lW.1 e5 i es hi;rw[<-k1,k4.len,h4 es cY]
  have key:=GV (l:=l.toNat) (h:=r.toNat) e5 e4 (by omega) (by omega) e2;unfold fu;have:=Du (F:=F) (L:=L) (els:=(els.drop l.toNat).take (r.toNat-l.toNat)) (a:=if c=l.toNat then a else a.map (·.add (l.toNat*sz))) (c:=c-l.toNat) (sz:=sz) (by rw[aa];omega) (by rw[aa];omega) ?_ ?_
  ·rw[aa] at this;exact this
  ·intro hn;have ha:a=none:=by
    split at hn
    ·exact hn
    ·cases a with
     | none=>rfl
     | some a=>simp at hn
   obtain⟨q1,q2⟩:=e4 ha;subst q1;simp;omega
  ·by_cases bm:els=[]
   ·subst bm;simp only[List.drop_nil,List.take_nil,fE]
   ·rw[hs bm] at key;exact key
 case slcS x lo hi =>
  split at h
  case h_2=>exact h.elim
  rename_i s w;split at h
  case h_2=>exact h.elim
  rename_i l r hl hh;obtain⟨h1,h2,h3,h5⟩:=h;rw[(jl he w).1];simp only[uR he hl,uR he hh];refine⟨h1,h2,h3,_,su ?_,h5⟩;have:=(jl he w).2;rw[ByteArray.size_extract];omega
 case fieldA off x =>
  split at h
  ·rename_i k o w;obtain⟨d,e2⟩:=ep he w;rw[d];exact⟨.own k (o+off),⟨rfl,e2⟩,h⟩
  ·rename_i es o w;obtain⟨b,q,j,vs,d,hp,ho,hr⟩:=og he w;have da:∀j',q+j'=q+j+off->Jm F b (q+j') (o+off) vs:=by
    intro j' hj;obtain⟨cy,cx,t,fr,k1,k2,k3⟩:=hp;exact⟨cy,cx,t,fr,k1,by omega,k3⟩
   rcases d with⟨d,rfl⟩ | d
   ·rw[d];exact⟨.pt es (o+off),⟨b,q,off,vs,.inr rfl,da _ (by omega),ho,hr⟩,h⟩
   ·rw[d];exact⟨.pt es (o+off),⟨b,q,j+off,vs,.inr rfl,da _ (by omega),ho,hr⟩,h⟩
  ·rename_i k j o w;obtain⟨ad,t,sz,n,c,xs,d,e2⟩:=si he w;rw[d];exact⟨.elr k j (o+off),⟨ad,t,sz,n,c,xs,by rw[Nat.add_assoc],e2⟩,h⟩
  ·rename_i k o w;obtain⟨g,t,cs,d,e2⟩:=mh he w;rcases e2 with e2 | ⟨b,q,j,e2,e3⟩
   ·rw[e2];exact⟨.ownv k (o+off),⟨_,.inr ⟨g,o,off,rfl,rfl⟩,by simp only[Rel];exact⟨g,t,cs,d,rfl⟩⟩,h⟩
   ·rw[e2];injection e3 with e3
    injection e3 with e3
    injection e3 with e4 e5
    subst e4;exact⟨.ownv k (o+off),⟨_,.inr ⟨g,q,j+off,rfl,rfl⟩,by simp only[Rel];exact⟨g,t,cs,d,by rw[e5,Nat.add_assoc]⟩⟩,h⟩
  ·exact h.elim
 case fieldV agg off n x =>
  split at h
  case h_2=>exact h.elim
  rename_i cs w;split at h
  case h_2=>exact h.elim
  rename_i hl;obtain⟨vs,d,hr⟩:=uQ he w;have p:=(hr.drop off).take n;rw[d];simp only[];rw[cQ (by rw[p.len];exact br hl)];exact⟨_,cm p,h⟩
 case idxA sz x i =>
  split at h
  ·rename_i els k i w hi;obtain⟨es,h1,h2,h3,h4⟩:=h;obtain⟨a,c,az,d,e2,e3,e4,e5⟩:=jq he w;rw[d,(dX he hi).1];have bv:i.toNat<els.length:=(W5.1 h2).1;obtain⟨vs,k1,⟨ad,cx,t,fr,e,hb,dk,hv⟩,k3,k4⟩:=lW.1 e5 _ _ h2;have hs:az=sz:=by rw[<-k1,k4.len,br h3]
   subst hs;subst e;refine⟨by simp,h1,by omega,_,GX hb dk (fun i v hi=>?_) k3 k4,h4⟩;have:=hv i v hi;simpa using this
  ·rename_i k i' i w hi;split at h
   case h_2=>exact h.elim
   rename_i t az els hk;split at h
   case h_2=>exact h.elim
   rename_i bz;have:=yo bz;subst this;obtain⟨h1,h2,h3⟩:=h;obtain⟨a,c,t',az,n,cd,d,e2⟩:=rq he (zG w);obtain⟨v,xs,e3,⟨_,a',c',q6,q7⟩,hr⟩:=jU ht.tl hk;rw[e2] at e3;injection e3 with e3
   injection e3 with q1 q2 q3 q4 q5
   subst q2 q3 q4;rw[d,(dX he hi).1];cases a with
   | none =>
    rw[<-q1] at q6;injection q6 with q6
    have:=q7 q6.symm;omega
   | some ad=>exact⟨by simp,h1,h2,.elr k i.toNat 0,⟨ad,_,_,_,c,_,by simp,e2⟩,h3⟩
  ·rename_i k bu k' i w hi;split at h
   case h_2=>exact h.elim
   rename_i bz;obtain rfl:=yo bz;obtain⟨h1,h2,h3⟩:=h;obtain⟨g,t,cs,ad,d,e2,e3,e4⟩:=Dr he (Dt w);rw[e2,(dX he hi).1];exact⟨by simp,h1,h2,.slp k bu i.toNat,⟨g,t,cs,ad,d,by rw[Nat.mul_one],e4⟩,h3⟩
  ·exact h.elim
 case idxS x i =>
  split at h
  case h_2=>exact h.elim
  rename_i s k i w hi;obtain⟨h1,h2,h3⟩:=h;rw[(jl he w).1,(dX he hi).1];refine⟨h1,h2,_,gV ?_,h3⟩;have:=(s.data.toList.getD i.toNat 0).toNat_lt;generalize(s.data.toList.getD i.toNat 0).toNat=m at *;simp[Lit.wf,IntKind.min,IntKind.max,IntKind.bits,IntKind.signed];omega
 case extr x i =>
  split at h
  case h_2=>exact h.elim
  rename_i cs w;split at h
  case h_2=>exact h.elim
  rename_i v hv;obtain⟨vs,d,hr⟩:=Js he w;rw[d];have bv:i<vs.length:=by rw[hr.len];exact(W5.1 hv).1
  simp only[WZ bv];exact⟨_,jm (hr.at hv (WZ bv)),h⟩
 case len x =>
  have wl:∀n:Nat,n<=maxLen->(Lit.int .i64 (n:Int)).wf=true:=by
   intro n hn;simp only[maxLen] at hn;simp[Lit.wf,IntKind.min,IntKind.max,IntKind.bits,IntKind.signed];omega
  split at h
  ·rename_i els w;obtain⟨a,c,az,d,e2,e3,e4,e5⟩:=jq he w;rw[d];exact⟨_,gV (wl _ e3),h⟩
  ·rename_i k w;split at h
   case h_2=>exact h.elim
   rename_i t az els hk;obtain⟨a,c,t',az,n,cd,d,e2⟩:=rq he (zG w);obtain⟨v,xs,e3,⟨hm,_⟩,hr⟩:=jU ht.tl hk;rw[e2] at e3;injection e3 with e3
   injection e3 with q1 q2 q3 q4 q5
   subst q4;rw[d];exact⟨_,gV (wl _ hm),h⟩
  ·rename_i k w;obtain⟨n,h1,h2,h3⟩:=h;obtain⟨v,d,e2⟩:=zF he (Jw w);obtain⟨a,c,rfl⟩:=Iw e2 h1;rw[d];exact⟨_,gV (wl _ (by simpa[maxLen] using h2)),h3⟩
  ·rename_i k bu w;obtain⟨g,t,cs,ad,d,e2,e3,e4⟩:=Dr he (Dt w);rw[e2];exact⟨_,gV (wl _ e3),h⟩
  ·exact h.elim
 case lenS x =>
  split at h
  case h_2=>exact h.elim
  rename_i s w;obtain⟨d,e2⟩:=jl he w;rw[d];refine⟨_,gV ?_,h⟩;simp only[maxLen] at e2;simp[Lit.wf,IntKind.min,IntKind.max,IntKind.bits,IntKind.signed];omega
 case mlook str ok z x i =>
  split at h
  case h_2=>exact h.elim
  rename_i k w;split at h
  case h_2=>exact h.elim
  rename_i es hk;obtain⟨g,cs,d,e2⟩:=zI he w;obtain⟨g',vs,e3,hE⟩:=Cz ht.tl hk;rw[e2] at e3;injection e3 with e3
  injection e3 with q1 q2 q3
  subst q1 q3;rw[d];refine⟨k,cs,e2,hE.isMap,⟨?_⟩⟩;rcases h.out with⟨c,h1,h2⟩ | ⟨h1,h2⟩
  ·obtain⟨j,v,h3,h4⟩:=vW (Dv he) 0 hE h1;refine .inl ⟨j,v,h3,?_⟩;have h5:Rel F L c v:=h4.lift;cases ok with
   | true=>exact⟨_,yE h5,h2⟩
   | false=>exact⟨_,jm h5,h2⟩
  ·refine .inr ⟨vW (Dv he) 0 hE h1,?_⟩;have h5:Rel F L (cv z) z:=MV z;cases ok with
   | true=>exact⟨_,yE h5,h2⟩
   | false=>exact⟨_,MT z,h2⟩
 case mlen x =>
  split at h
  case h_2=>exact h.elim
  rename_i k w;split at h
  case h_2=>exact h.elim
  rename_i es hk;obtain⟨g,cs,d,e2⟩:=zI he w;obtain⟨g',vs,e3,hE⟩:=Cz ht.tl hk;rw[e2] at e3;injection e3 with e3
  injection e3 with q1 q2 q3
  subst q1 q3;rw[d];refine⟨k,cs,e2,hE.isMap,_,gV ?_,?_⟩
  ·rw[hE.len];have:=h.1;simp only[maxLen] at this;simp[Lit.wf,IntKind.min,IntKind.max,IntKind.bits,IntKind.signed];omega
  ·rw[hE.len];exact h.2
 case mm mx args =>
  split at h
  case h_2=>exact h.elim
  rename_i k a l hl;split at h
  case h_2=>exact h.elim
  rename_i m hm
  match args,hl with
  | x::args,hl =>
   simp only[Xa,List.cons.injEq] at hl;obtain⟨w,rfl⟩:=hl;simp only[Xa,(dX he w).1,GU he mx args hm];exact⟨_,gV h.1,h.2⟩
end
theorem TL.Wh (L:TL) (k:Nat) (o:TO) (j:Nat):(L.set k o).get j=if j=k then some o else L.get j:=by
 induction L with
 | nil =>
  simp only[TL.set,TL.get];cases h:Nat.beq k j with
  | true=>have:=yo h;simp[this]
  | false=>have:=eV h;simp;omega
 | cons p l c =>
  obtain⟨i,q⟩:=p;simp only[TL.set];cases h:Nat.beq i k with
  | true =>
   have e:=yo h;subst e;simp only[TL.get];cases a:Nat.beq i j with
   | true=>have:=yo a;simp[this]
   | false=>have:=eV a;simp;omega
  | false =>
   have b:=eV h;simp only[];cases d:Nat.ble i k with
   | true =>
    simp only[TL.get];cases a:Nat.beq i j with
    | true=>have:=yo a;simp;omega
    | false=>simpa using c
   | false =>
    simp only[TL.get];cases a:Nat.beq k j with
    | true=>have:=yo a;simp[this]
    | false =>
     have:=eV a;simp only[];rw[vv (by omega)]
theorem TL.Wm (L:TL) (k j:Nat):(L.del k).get j=if j=k then none else L.get j:=by
 induction L with
 | nil=>simp[TL.del,TL.get]
 | cons p l c =>
  obtain⟨i,q⟩:=p;simp only[TL.del];cases h:Nat.beq i k with
  | true =>
   have e:=yo h;subst e;simp only[TL.get,c]
   by_cases a:j=i
   ·simp[a]
   ·have:Nat.beq i j=false:=by cases b:Nat.beq i j with | true=>exact xo (yo b).symm a | false=>rfl
    simp[a,this]
  | false =>
   have d:=eV h;simp only[TL.get];cases b:Nat.beq i j with
   | true=>have:=yo b;simp;omega
   | false=>simpa using c
theorem sw:∀(l:List TO) (k j:Nat),TL.get (iE k l) j=if k<=j then l[j-k]? else none
 | [],k,j=>by simp[iE,TL.get]
 | o::l,k,j=>by
  simp only[iE,TL.get];cases h:Nat.beq k j with
  | true=>have:=yo h;subst this;simp
  | false =>
   have b:=eV h;simp only[sw l (k+1) j]
   by_cases a:k<=j
   ·rw[j3 (by omega),j3 a,show j-k=(j-(k+1))+1 by omega,XM]
   ·rw[vv (by omega),vv a]
theorem bZ (l:List TO) (j:Nat):TL.get (iO l) j=if 1000<=j then l[j-1000]? else none:=sw l 1000 j
theorem Be:∀{L:TL}{ks:List Nat}{l:List TO},L.sub ks=some l->l.length=ks.length/\∀(i:Nat) (k:Nat),ks[i]?=some k->L.get k=l[i]?
 | L,[],l,h=>by simp only[TL.sub,WY] at h;subst h;simp
 | L,k::ks,l,h=>by
  simp only[TL.sub] at h;split at h
  case h_2=>cases h
  rename_i o f c a;injection h with h
  subst h;obtain⟨d,b⟩:=Be a;refine⟨by simp[d],fun i e hi=>?_⟩;cases i with
  | zero=>simp at hi;subst hi;simpa using c
  | succ i=>simp at hi;simpa using b i e hi
theorem nJ:∀(ks:List Nat) (L:TL) (j:Nat),(L.Wi ks).get j=if j∈ks then none else L.get j
 | [],L,j=>by simp[TL.Wi]
 | k::ks,L,j=>by
  simp only[TL.Wi,nJ ks,TL.Wm,W7]
  by_cases b:j=k<;>by_cases a:j∈ks<;>simp[b,a]
theorem lJ:∀(ko:List Nat) (l:List TO) (L:TL) (j:Nat),ko.Nodup->ko.length=l.length ->
  ((L.puts ko l).get j=L.get j/\j∉ko)\/∃i,ko[i]?=some j/\(L.puts ko l).get j=l[i]?/\i<l.length
 | [],l,L,j,_,h=>by
  refine .inl ⟨?_,by simp⟩;cases l<;>rfl
 | k::ko,[],L,j,_,h=>by simp at h
 | k::ko,o::l,L,j,d,h=>by
  simp only[Xl,Nat.add_right_cancel_iff] at h;rw[List.nodup_cons] at d;simp only[TL.puts];rcases lJ ko l (L.set k o) j d.2 h with⟨a,b⟩ | ⟨i,a,b,e⟩
  ·rw[TL.Wh] at a
   by_cases c:j=k
   ·subst c;rw[j3 rfl] at a;exact .inr ⟨0,by simp,by simpa using a,by simp⟩
   ·rw[vv c] at a;exact .inl ⟨a,by simp[c,b]⟩
  ·exact .inr ⟨i+1,by simpa using a,by simpa using b,by simp;omega⟩
theorem pQ (g:C->C):∀(L:TL) (k:Nat),(TL.Wj g L).get k=(L.get k).map (TO.Wj g)
 | [],k=>rfl
 | (j,o)::l,k=>by
  simp only[TL.Wj,TL.get];cases h:Nat.beq j k with
  | true=>rfl
  | false=>exact pQ g l k
section
variable {P:Program}{G:Nat->Option (Nat×TypeId)}{F:aA}{L:Loc}{ρ:Env}{M:TL}{τ:aT}
theorem zJ (d:Option Nat) (c:C) (τ:aT) (t:Nat):bw d c τ t=match d with | some k=>if t=k then c else τ t | none=>τ t:=by
 cases d with
 | none=>rfl
 | some k =>
  simp only[bw];cases h:Nat.beq t k with
  | true=>have:=yo h;simp[this]
  | false=>have:=eV h;simp[this]
theorem JA {F:aA}{L:Loc}{τ:aT}{ρ:Env}(h:∀j,aN F L (τ j) (ρ j)) {c:C}{sv:SV}(a:aN F L c sv) (d:Option Nat):∀j,aN F L (bw d c τ j) (put d sv ρ j):=by
 intro j;rw[zJ,put_eq];cases d with
 | none=>exact h j
 | some k =>
  simp only[];split
  ·exact a
  ·exact h j
theorem TS.put (a:TS G F L ρ M τ) {c:C}{sv:SV}(b:aN F L c sv) (d:Option Nat):TS G F L (put d sv ρ) M (bw d c τ):=⟨a.tl,JA a.env b d,a.kp,a.glob⟩
theorem dR {F:aA}{L:Loc}{a:Option TO}{b:Option Own}(h:GK F L a b):(a=none/\b=none)\/∃o p,a=some o/\b=some p/\cN F L o p:=by
 cases a<;>cases b<;>simp only[GK] at h
 ·exact .inl ⟨rfl,rfl⟩
 ·exact .inr ⟨_,_,rfl,rfl,h⟩
theorem TS.new {F':aA}(c:F.le F') (b:TS G F L ρ M τ) {k:Nat}(l:L.get k=none) {o:Own}{to:TO}(n:cN F' (L.set k o) to o):TS G F' (L.set k o) ρ (M.set k to) τ:=by
 have a:Ext L (L.set k o):=by
  intro j p e;refine⟨p,?_,Own.Wl p⟩;rw[Loc.Wh,vv (by rintro rfl;rw[l] at e;cases e)];exact e
 refine⟨fun j=>?_,fun j=>(b.env j).ext c a,fun j g t e=>?_,b.glob.mono c⟩
 ·rw[TL.Wh,Loc.Wh];split
  ·exact n
  ·rcases dR (b.tl j) with⟨d,f⟩ | ⟨p,q,d,f,m⟩
   ·rw[d,f];trivial
   ·rw[d,f];exact m.ext c a
 ·obtain⟨cs,h⟩:=b.kp j g t e;exact⟨cs,by rw[Loc.Wh,vv (by rintro rfl;rw[l] at h;cases h)];exact h⟩
theorem TS.mono {F':aA}(b:F.le F') (a:TS G F L ρ M τ):TS G F' L ρ M τ:=⟨a.tl.mono b,fun j=>(a.env j).mono b,a.kp,a.glob.mono b⟩
theorem TS.turn (c:TS G F L ρ M τ) {k:Nat}{o o':Own}(m:L.get k=some o) (s:Own.like o o') (b:∀g t cs,o=.box g t cs->∃cs',o'=.box g t cs') {to:TO}(u:∀L',Ext L L'->cN F L' to o') :
  TS G F (L.set k o') ρ (M.set k to) τ:=by
 have a:Ext L (L.set k o'):=by
  intro j p e;rw[Loc.Wh];split
  ·rename_i d;subst d;rw[m] at e;injection e with e
   subst e;exact⟨o',rfl,s⟩
  ·exact⟨p,e,Own.Wl p⟩
 refine⟨fun j=>?_,fun j=>(c.env j).ext (aA.le_refl F) a,fun j g t e=>?_,c.glob⟩
 ·rw[TL.Wh,Loc.Wh];split
  ·exact u _ a
  ·rcases dR (c.tl j) with⟨f,l⟩ | ⟨p,q,f,l,n⟩
   ·rw[f,l];trivial
   ·rw[f,l];exact n.ext (aA.le_refl F) a
 ·obtain⟨cs,h⟩:=c.kp j g t e;rw[Loc.Wh];split
  ·rename_i d;subst d;rw[m] at h;injection h with h
   obtain⟨cs',r⟩:=b g t cs h;exact⟨cs',by rw[r]⟩
  ·exact⟨cs,h⟩
theorem jV {L':Loc}{k:Nat}(d:∀g t cs,L.get k≠some (.box g t cs)) (n:∀j,j≠k->∀o,L.get j=some o->∃o',L'.get j=some o'/\Own.like o o') {F':aA}(l:F.le F') (c:C) (v:Value) (r:c.leaf=true)
  (h:Rel F L c v):Rel F' L' (fS k c) v:=by
 cases c<;>simp only[C.leaf,Xd] at r<;>simp only[fS]
 case rw j =>
  cases q:Nat.beq j k with
  | true=>simp only[Rel]
  | false=>exact bq l (fun p e=>by
    rcases e with⟨off,e⟩ | e | e | ⟨_,_,_,e⟩ | ⟨_,_,e⟩
    ·cases e
    ·injection e with e;subst e;exact n j (eV q)
    ·cases e
    ·cases e
    ·cases e) rfl h
 case own j off =>
  refine bq l (fun p e=>?_) rfl h;rcases e with⟨off,e⟩ | e | e | ⟨_,_,_,e⟩ | ⟨_,_,e⟩
  ·injection e with e e2
   subst e;simp only[Rel] at h;obtain⟨g,t,cs,f,_⟩:=h;exact n j (by rintro rfl;exact d _ _ _ f)
  ·cases e
  ·cases e
  ·cases e
  ·cases e
 case ifo m ti j off =>
  refine bq l (fun p e=>?_) rfl h;rcases e with⟨off,e⟩ | e | e | ⟨_,_,_,e⟩ | ⟨_,_,e⟩
  ·cases e
  ·cases e
  ·cases e
  ·injection e with _ _ e
   subst e;simp only[Rel] at h;obtain⟨g,t,cs,f,_⟩:=h;exact n j (by rintro rfl;exact d _ _ _ f)
  ·cases e
 case elr j a b =>
  cases q:Nat.beq j k with
  | true=>simp only[Rel]
  | false=>exact bq l (fun p e=>by
    rcases e with⟨off,e⟩ | e | e | ⟨_,_,_,e⟩ | ⟨_,_,e⟩<;>first | cases e;done | skip
    injection e with e;subst e;exact n j (eV q)) rfl h
 case mpr j =>
  refine bq l (fun p e=>?_) rfl h;rcases e with⟨off,e⟩ | e | e | ⟨_,_,_,e⟩ | ⟨_,_,e⟩
  ·cases e
  ·cases e
  ·injection e with e
   subst e;simp only[Rel] at h;obtain⟨g,cs,f,_⟩:=h;exact n j (by rintro rfl;exact d _ _ _ f)
  ·cases e
  ·cases e
 case slo j a =>
  refine qm l ?_ h;simp only[Rel] at h;obtain⟨g,t,cs,s,f,_⟩:=h;exact n j (by rintro rfl;exact d _ _ _ f)
 case slp=>simp only[Rel]
 all_goals
  exact bq l (fun p e=>by rcases e with⟨off,e⟩ | e | e | ⟨_,_,_,e⟩ | ⟨_,_,e⟩<;>cases e) rfl h
theorem oh {L':Loc}{k:Nat}(d:∀g t cs,L.get k≠some (.box g t cs)) (p:∀j,j≠k->∀o,L.get j=some o->∃o',L'.get j=some o'/\Own.like o o') {F':aA}(n:F.le F') (c:C) (sv:SV) (s:c.leaf=true)
  (h:aN F L c sv):aN F' L' (fS k c) sv:=by
 cases c<;>simp only[C.leaf,Xd] at s<;>simp only[fS]
 case rw j =>
  cases r:Nat.beq j k with
  | true=>trivial
  | false=>exact cK n (fun q e=>by
    rcases e with⟨off,e⟩ | ⟨off,e⟩ | e | ⟨a,b,e⟩ | e | ⟨_,_,_,e⟩<;>first | cases e;done | skip
    injection e with e;subst e;exact p j (eV r)) rfl h
 case elr j a b =>
  cases r:Nat.beq j k with
  | true=>trivial
  | false=>exact cK n (fun q e=>by
    rcases e with⟨off,e⟩ | ⟨off,e⟩ | e | ⟨a,b,e⟩ | e | ⟨_,_,_,e⟩<;>first | cases e;done | skip
    injection e with e;subst e;exact p j (eV r)) rfl h
 case own j off =>
  refine cK n (fun q e=>?_) rfl h;obtain⟨_,g,t,cs,l⟩:=h;rcases e with⟨off,e⟩ | ⟨off,e⟩ | e | ⟨a,b,e⟩ | e | ⟨_,_,_,e⟩<;>first | cases e;done | skip
  injection e with e
  subst e;exact p j (by rintro rfl;exact d _ _ _ l)
 case ifo m ti j off =>
  refine cK n (fun q e=>?_) rfl h;obtain⟨v,_,f⟩:=h;simp only[Rel] at f;obtain⟨g,t,cs,l,_⟩:=f;rcases e with⟨off,e⟩ | ⟨off,e⟩ | e | ⟨a,b,e⟩ | e | ⟨_,_,_,e⟩<;>first | cases e;done | skip
  injection e with _ _ e
  subst e;exact p j (by rintro rfl;exact d _ _ _ l)
 case ownv j off =>
  refine cK n (fun q e=>?_) rfl h;obtain⟨v,_,f⟩:=h;simp only[Rel] at f;obtain⟨g,t,cs,l,_⟩:=f;rcases e with⟨off,e⟩ | ⟨off,e⟩ | e | ⟨a,b,e⟩ | e | ⟨_,_,_,e⟩<;>first | cases e;done | skip
  injection e with e
  subst e;exact p j (by rintro rfl;exact d _ _ _ l)
 case mpr j =>
  refine cK n (fun q e=>?_) rfl h;obtain⟨v,_,f⟩:=h;simp only[Rel] at f;obtain⟨g,cs,l,_⟩:=f;rcases e with⟨off,e⟩ | ⟨off,e⟩ | e | ⟨a,b,e⟩ | e | ⟨_,_,_,e⟩<;>first | cases e;done | skip
  injection e with e
  subst e;exact p j (by rintro rfl;exact d _ _ _ l)
 case slo j a =>
  refine rZ n ?_ h;obtain⟨v,_,f⟩:=h;simp only[Rel] at f;obtain⟨g,t,cs,u,l,_⟩:=f;exact p j (by rintro rfl;exact d _ _ _ l)
 case slp=>trivial
 all_goals
  exact cK n (fun q e=>by rcases e with⟨off,e⟩ | ⟨off,e⟩ | e | ⟨a,b,e⟩ | e | ⟨_,_,_,e⟩<;>cases e) rfl h
theorem cN.WD {L':Loc}{k:Nat}(a:∀g t cs,L.get k≠some (.box g t cs)) (d:∀j,j≠k->∀o,L.get j=some o->∃o',L'.get j=some o'/\Own.like o o') {F':aA}(b:F.le F'):∀{o:TO}{p:Own},cN F L o p->cN F' L' (o.Wj (C.kill k)) p
 | .box t cs,.box g f vs,r=>⟨r.1,r.2.map fun c _ v h=>Rel.mp (jV a d b) 3 h⟩
 | .row t sz els,.row v f l n xs,r=>⟨r.1,r.2.1,r.2.2.1,r.2.2.2.1,r.2.2.2.2.mono b⟩
 | .box _ _,.row ..,r=>r.elim
 | .row ..,.box ..,r=>r.elim
 | .map _,.row ..,r=>r.elim
 | .map es,.box g f vs,r=>⟨r.1,r.2.mono b⟩
 | .win ..,.row ..,r=>r.elim
 | .win ..,.box ..,⟨s,v1,w,v3,e,m,u,q⟩=>⟨s,v1,w,v3,e,m.mono b,u.map fun c _ v h=>Rel.mp (jV a d b) 3 h,q.mono b⟩
theorem TS.WD (b:TS G F L ρ M τ) {k:Nat}{o':Own}(a:∀g t cs,L.get k≠some (.box g t cs)) {to:TO}(m:cN F (L.set k o') to o') :
  TS G F (L.set k o') ρ ((M.Wj (C.kill k)).set k to) (fun j=>(τ j).kill k):=by
 have c:∀j,j≠k->∀o,L.get j=some o->∃p,(L.set k o').get j=some p/\Own.like o p:=fun j n o e=>⟨o,by rw[Loc.Wh,vv n];exact e,Own.Wl o⟩;refine⟨fun j=>?_,fun j=>aN.mp (jV a c (aA.le_refl F)) (oh a c (aA.le_refl F)) 3 (b.env j),fun j g t e=>?_,b.glob⟩
 ·rw[TL.Wh,Loc.Wh,pQ];split
  ·exact m
  ·rcases dR (b.tl j) with⟨d,f⟩ | ⟨p,q,d,f,l⟩
   ·rw[d,f];trivial
   ·rw[d,f];exact l.WD a c (aA.le_refl F)
 ·obtain⟨cs,h⟩:=b.kp j g t e;exact⟨cs,by rw[Loc.Wh,vv (by rintro rfl;exact a _ _ _ h)];exact h⟩
theorem ij {a:Option Addr}{sz b:Nat}{els:List (List C)}(h:fE F a b 0 els) (hs:∀es∈els,es.length=sz):∃xs,xs.length=els.length*sz/\(bN F a 0 xs\/(els.length=0/\xs=[]))/\aL F sz els xs:=by
 cases m:els with
 | nil=>exact⟨[],by simp,.inr ⟨rfl,rfl⟩,by simp only[aL]⟩
 | cons o f =>
  rw[m] at h hs;have h0:=lW.1 h 0 o (by simp);obtain⟨ae,k1,⟨d,k,t,fr,ea,hb,q,_⟩,_,k4⟩:=h0;have u:b=sz:=by rw[<-k1,k4.len,hs o (by simp)]
  subst u;subst ea;have key:∀(l:List (List C)) (i:Nat),fE F (some d) b i l->∃xs,aL F b l xs/\∀(j:Nat) v,xs[j]?=some v->k[d.off+i*b+j]?=some v/\nR fr (d.off+i*b+j):=by
   intro l
   induction l with
   | nil=>intro i _;exact⟨[],by simp only[aL],by simp⟩
   | cons es l ih =>
    intro i w;simp only[fE] at w;obtain⟨⟨vs,y,⟨ac,z,t',ap,p,c,x,hv⟩,q3,q4⟩,q5⟩:=w;injection p with p
    subst p;rw[hb] at c;injection c with c
    injection c with r1 r2 r3
    subst r1 r3;obtain⟨xs,n,s⟩:=ih (i+1) q5;refine⟨vs++xs,by simp only[aL];exact⟨vs,xs,rfl,y,q3,q4,n⟩,fun j v e=>?_⟩
    by_cases r:j<vs.length
    ·rw[Xc r] at e;exact hv j v e
    ·rw[Xi (by omega)] at e;have:=s _ _ e;rw[show d.off+i*b+j=d.off+(i+1)*b+(j-vs.length) by rw[y,Nat.add_mul];omega];exact this
  obtain⟨xs,n,s⟩:=key (o::f) 0 h;exact⟨xs,gS n,.inl ⟨d,k,t,fr,rfl,hb,q,fun j v e=>by have:=s j v e;simpa using this⟩,n⟩
theorem aL.ones {sz:Nat}:∀{l:List (List C)}{xs:List Value},aL F sz l xs->∀u∈xs,u.oneCell'=true
 | [],xs,h=>by simp only[aL] at h;subst h;simp
 | es::l,xs,h=>by
  simp only[aL] at h;obtain⟨vs,c,rfl,f,b,e,d⟩:=h;intro u a;rcases W4.1 a with a | a
  ·exact fw e b u a
  ·exact aL.ones d u a
theorem lp (bs:List UInt8):aL F 1 (af bs) (bs.map fun b=>Value.int .u8 b.toNat):=by
 induction bs with
 | nil=>simp only[af,X0,aL]
 | cons b bs a =>
  simp only[af,Xa,aL];refine⟨[.int .u8 b.toNat],_,rfl,rfl,rfl,?_,a⟩;simp only[aB,Rel];refine⟨_,_,rfl,⟨rfl,?_⟩,rfl⟩;have:=b.toNat_lt;simp[Lit.wf,IntKind.min,IntKind.max,IntKind.bits,IntKind.signed];omega
theorem CA {g:Nat}{bs:List UInt8}(h:bN F (some ⟨g,0,none⟩) 0 (bs.map fun b=>Value.int .u8 b.toNat)):fE F (some ⟨g,0,none⟩) 1 0 (af bs):=(lp bs).frz h
theorem aL.set {sz:Nat}:∀{l:List (List C)}{xs:List Value},aL F sz l xs->∀{j:Nat}{es ds:List C}{us:List Value}{off:Nat},l[j]?=some es->off+us.length<=sz->aB F [] ds us->dm ds=true ->
  aL F sz (l.set j (eH es off ds)) (aM xs (j*sz+off) us)
 | [],xs,h,j,es,ds,us,off,e,_,_,_=>by simp at e
 | x::l,xs,h,j,es,ds,us,off,e,p,k,d=>by
  simp only[aL] at h;obtain⟨vs,f,rfl,n,b,m,o⟩:=h;cases j with
  | zero =>
   simp only[Xg,WY] at e;subst e;simp only[List.set_cons_zero,aL];refine⟨aM vs off us,f,?_,?_,?_,fF m k,o⟩
   ·simp only[aM,Nat.zero_mul,Nat.zero_add];rw[List.take_append_of_le_length (by omega),List.drop_append_of_le_length (by omega)];simp
   ·simp only[aM,W8,Xo,XR];omega
   ·rw[ic] at b d ⊢;intro c a;simp only[eH,W4] at a;rcases a with(a | a) | a
    ·exact b c (List.mem_of_mem_take a)
    ·exact d c a
    ·exact b c (List.mem_of_mem_drop a)
  | succ j =>
   simp only[List.set_cons_succ,aL];have q:=aL.set o (j:=j) (by simpa using e) p k d;refine⟨vs,_,?_,n,b,m,q⟩;simp only[aM];rw[show(j+1)*sz+off=vs.length+(j*sz+off) by rw[n,Nat.add_mul];omega];rw[List.take_length_add_append,show vs.length+(j*sz+off)+us.length=vs.length+(j*sz+off+us.length) by omega,List.drop_length_add_append];simp[Xb]
end
section
variable {P:Program}{G:Nat->Option (Nat×TypeId)}{F:aA}{L:Loc}{ρ:Env}{M:TL}{τ:aT}
def Both (G:Nat->Option (Nat×TypeId)) (K:TK):cE:=fun F L ρ=>∃M τ,TS G F L ρ M τ/\K M τ
theorem mO {k:Nat}{a:Option Addr}{c n:Nat}{t sz:Nat}{xs:List Value}(h:L.get k=some (.row (.slice a n c) t sz n xs)):aN F L (.rw k) (.v (.slice a n c)) :=
 ⟨_,rfl,by simp only[Rel];exact⟨a,c,t,sz,n,xs,rfl,h⟩⟩
theorem MW {g:Nat}{F':aA}{t:TypeId}{cs:List C}{vs:List Value}(c:F' g=some (.cells vs.toArray t (0,0))) (b:dm cs=true) (a:aB F' [] cs vs):aN F' L (.pt cs 0) (.v (.pointer (some ⟨g,0,none⟩))) :=
 ⟨g,0,0,vs,.inl ⟨rfl,rfl⟩,⟨0,_,t,(0,0),c,rfl,fun i v hi=>⟨by simpa using hi,rL _⟩⟩,b,a⟩
theorem iU (a:∀j,aN F L (τ j) (ρ j)) {sz:Nat}:∀{xs:List X},pI τ sz xs=true->eU L ρ sz xs=true/\aL F sz (s6 τ xs) (cellsOf L ρ xs)/\(s6 τ xs).length=xs.length
 | [],_=>⟨rfl,by simp only[s6,cellsOf,aL],rfl⟩
 | x::xs,h=>by
  simp only[pI] at h;split at h
  case h_2=>cases h
  rename_i f d k n;obtain⟨m,e,l⟩:=iU a h;have c:=dH a f;have b:(aH (val L ρ x)).length=sz:=by rw[c.len];exact br d
  refine⟨by simp only[eU,cQ b];exact m,?_,by simp only[s6,Xl,l]⟩;simp only[s6,cellsOf,aL];exact⟨_,_,rfl,b,mo k,jo (dU n c),e⟩
theorem zK {t:Nat}(h:Ir t=true):t<1048576/\t≠0:=by
 unfold Ir at h;split at h
 ·cases h
 ·rename_i a;have:=Xh h;exact⟨by omega,fun e=>by subst e;simp at a⟩
theorem Dw {t:TypeId}{x:X}{k:Nat}{K:TK}(f:TS G F L ρ M τ) (l:M.get k=none) (n:(bV τ x).okc=true) (d:t<1048576/\t≠0) (h:K (M.set k (.box t (bS (bV τ x)))) (bw (some k) (.own k 0) τ)) (g:Nat) :
  Both G K F (L.set k (.box g t (aH (val L ρ x)))) (put (some k) (.own k 0) ρ):=by
 have b:=bT f.tl l;have a:Ext L (L.set k (.box g t (aH (val L ρ x)))):=by
  intro j p e;refine⟨p,?_,Own.Wl p⟩;rw[Loc.Wh,vv (by rintro rfl;rw[b] at e;cases e)];exact e
 have m:=f.new (aA.le_refl F) b (o:=.box g t (aH (val L ρ x))) (to:=.box t (bS (bV τ x))) ⟨⟨d.1,.inl rfl,d.2⟩,(dH f.env n).ext (aA.le_refl F) a⟩;exact⟨_,_,m.put (c:=.own k 0) (sv:=.own k 0) ⟨rfl,g,t,_,by rw[Loc.Wh,j3 rfl]⟩ (some k),h⟩
theorem yF {t:TypeId}{zs:List Value}{k:Nat}{K:TK}(d:TS G F L ρ M τ) (e:M.get k=none) (a:t<1048576/\t≠0) (h:K (M.set k (.box t (zs.map qI))) (bw (some k) (.own k 0) τ)) (g:Nat) :
  Both G K F (L.set k (.box g t zs)) (put (some k) (.own k 0) ρ):=by
 have b:=bT d.tl e;have f:=d.new (aA.le_refl F) b (o:=.box g t zs) (to:=.box t (zs.map qI)) ⟨⟨a.1,.inl rfl,a.2⟩,kG zs⟩;exact⟨_,_,f.put (c:=.own k 0) (sv:=.own k 0) ⟨rfl,g,t,_,by rw[Loc.Wh,j3 rfl]⟩ (some k),h⟩
theorem Dx {e n sz:Nat}{xs:List X}{d:Option Nat}{K:TK}(a:TS G F L ρ M τ) (o:pI τ sz xs=true) (f:xs.length=n) (q:n<=maxLen) (h:K M (bw d (.slx (s6 τ xs)) τ)) {g:Nat}{F':aA}(b:F.le F')
  (l:F' g=some (.cells (cellsOf L ρ xs).toArray e (0,0))):Both G K F' L (put d (.v (.slice (some ⟨g,0,none⟩) n n)) ρ):=by
 obtain⟨p,j,m⟩:=iU a.env o;have k:bN F' (some ⟨g,0,none⟩) 0 (cellsOf L ρ xs):=⟨_,_,_,_,rfl,l,rfl,fun i v hi=>⟨by simpa using hi,rL _⟩⟩;refine⟨_,_,(a.mono b).put (c:=.slx (s6 τ xs)) ⟨_,rfl,?_⟩ d,h⟩;simp only[Rel];exact⟨⟨g,0,none⟩,by rw[m,f],by omega,sz,(j.mono b).frz k⟩
theorem vX (e:∀j,aN F L (τ j) (ρ j)) {k g:Nat}{t:TypeId}{cs:List Value}(d:L.get k=some (.box g t cs)):∀{xs:List X}{a:List Nat},uc k τ xs=some a ->
  eU L ρ 1 xs=true/\cellsOf L ρ xs=a.map (fun o=>.pointer (some ⟨g,o,none⟩))/\a.length=xs.length
 | [],a,h=>by
  simp only[uc,WY] at h;subst h;exact⟨rfl,rfl,rfl⟩
 | x::xs,a,h=>by
  simp only[uc] at h;split at h
  case h_2=>cases h
  rename_i j off l m p;split at h
  case h_2=>cases h
  rename_i r;obtain rfl:=yo r;injection h with h
  subst h;obtain⟨n,q,u⟩:=vX e d p;have c:=sj e x;rw[m] at c;simp only[Rel] at c;obtain⟨v,w,cs',b,s⟩:=c;rw[d] at b;injection b with b
  injection b with q1 q2 q3
  subst q1;have f:aH (val L ρ x)=[.pointer (some ⟨g,off,none⟩)]:=by rw[s];rfl
  exact⟨by simp only[eU,f,eT];exact n,by simp only[cellsOf,f,q];rfl,by simp[u]⟩
theorem Dy {e n k:Nat}{b:List Nat}{xs:List X}{d:Option Nat}{K:TK}(o:TS G F L ρ M τ) (f:uc k τ xs=some b) (p:xs≠[]) (r:xs.length=n) (hm:n<=maxLen) (h:K M (bw d (.slo k b) τ)) :
  eU L ρ 1 xs=true/\∀{g:Nat}{F':aA},F.le F'->F' g=some (.cells (cellsOf L ρ xs).toArray e (0,0))->Both G K F' L (put d (.v (.slice (some ⟨g,0,none⟩) n n)) ρ):=by
 obtain⟨x,a,rfl⟩:∃x a,xs=x::a:=by
  cases xs with
  | nil=>exact xo rfl p
  | cons x a=>exact⟨x,a,rfl⟩
 have m:∃g t cs,L.get k=some (.box g t cs):=by
  have f:=f;simp only[uc] at f;split at f
  case h_2=>cases f
  rename_i j off l w hl;split at f
  case h_2=>cases f
  rename_i hj;obtain rfl:=yo hj;have q:=sj o.env x;rw[w] at q;simp only[Rel] at q;obtain⟨z,t',cs',e1,e2⟩:=q;exact⟨z,t',cs',e1⟩
 obtain⟨gb,t,cs,m⟩:=m;obtain⟨y,k2,u⟩:=vX o.env m f;refine⟨y,fun{g F'} hF hg=>?_⟩;have s:bN F' (some ⟨g,0,none⟩) 0 (cellsOf L ρ (x::a)):=⟨_,_,_,_,rfl,hg,rfl,fun i v hi=>⟨by simpa using hi,rL _⟩⟩;refine⟨_,_,(o.mono hF).put (c:=.slo k b) ⟨_,rfl,?_⟩ d,h⟩;simp only[Rel];exact⟨gb,t,cs,⟨g,0,none⟩,m,by rw[u,r],by rw[u,r];exact hm,by rw[k2] at s;exact s⟩
theorem JB {e n sz:Nat}{xs:List X}{k:Nat}{K:TK}(b:TS G F L ρ M τ) (q:pI τ sz xs=true) (p:xs.length=n) (f:n<=maxLen) (d:M.get k=none) (h:K (M.set k (.row e sz (s6 τ xs))) (bw (some k) (.rw k) τ)) (g:Nat) :
  Both G K F (L.set k (.row (.slice (some ⟨g,0,none⟩) n n) e sz n (cellsOf L ρ xs))) (put (some k) (.v (.slice (some ⟨g,0,none⟩) n n)) ρ):=by
 obtain⟨r,j,m⟩:=iU b.env q;have a:=bT b.tl d;have l:=b.new (aA.le_refl F) a (o:=.row (.slice (some ⟨g,0,none⟩) n n) e sz n (cellsOf L ρ xs)) (to:=.row e sz (s6 τ xs)) ⟨rfl,rfl,by rw[m,p],⟨f,_,_,rfl,fun e=>(by cases e)⟩,j⟩;exact⟨_,_,l.put (c:=.rw k) (mO (by rw[Loc.Wh,j3 rfl])) (some k),h⟩
theorem mq {e sz:Nat}{k:Nat}{els news:List (List C)}{d:Option Nat}{K:TK}(f:TS G F L ρ M τ) {s:Value}{xs ys:List Value}(l:L.get k=some (.row s e sz els.length xs)) (b:aL F sz els xs) (n:aL F sz news ys)
  (p:els.length+news.length<=maxLen) (h:K ((M.Wj (C.kill k)).set k (.row e sz (els++news))) (bw d (.rw k) fun j=>(τ j).kill k)) {v:Value}(q:∃a c,v=.slice a (els.length+news.length) c/\(a=none->els.length+news.length=0)) :
  Both G K F (L.set k (.row v e sz (els.length+news.length) (xs++ys))) (put d (.v v) ρ):=by
 obtain⟨a,c,rfl,o⟩:=q;have m:=f.WD (k:=k) (o':=.row (.slice a (els.length+news.length) c) e sz (els.length+news.length) (xs++ys)) (to:=.row e sz (els++news)) (fun g t cs e=>by rw[l] at e;injection e with e;cases e)
  ⟨rfl,rfl,by simp,⟨p,a,c,rfl,o⟩,b.append n⟩
 exact⟨_,_,m.put (c:=.rw k) (mO (by rw[Loc.Wh,j3 rfl])) d,h⟩
theorem kI {e sz:Nat}{k:Nat}{news:List (List C)}{d:Option Nat}{K:TK}(b:TS G F L ρ M τ) {ys:List Value}(f:M.get k=none) (l:aL F sz news ys)
  (p:news.length<=maxLen) (h:K (M.set k (.row e sz news)) (bw d (.rw k) τ)) {v:Value}(n:∃a c,v=.slice a (0+news.length) c/\(a=none->0+news.length=0)) :
  Both G K F (L.set k (.row v e sz (0+news.length) ([]++ys))) (put d (.v v) ρ):=by
 obtain⟨a,c,rfl,m⟩:=n;have j:=b.new (aA.le_refl F) (bT b.tl f) (o:=.row (.slice a (0+news.length) c) e sz (0+news.length) ([]++ys)) (to:=.row e sz news) ⟨rfl,rfl,by simp,⟨by omega,a,c,rfl,m⟩,l⟩;exact⟨_,_,j.put (c:=.rw k) (mO (by rw[Loc.Wh,j3 rfl])) d,h⟩
theorem ol {x:X}{k e sz:Nat}{els:List (List C)}(d:TS G F L ρ M τ) (h:bV τ x=.rw k) (m:M.get k=some (.row e sz els)) :
  ∃a c xs,ev ρ x=.v (.slice a els.length c)/\L.get k=some (.row (.slice a els.length c) e sz els.length xs)/\aL F sz els xs/\els.length<=maxLen:=by
 obtain⟨a,c,r,l,n,o,p,f⟩:=rq d.env h;obtain⟨v,xs,b,⟨q,_⟩,j⟩:=jU d.tl m;rw[f] at b;injection b with b
 injection b with q1 q2 q3 q4 q5
 subst q2 q3 q4 q5;exact⟨a,c,_,p,f,j,q⟩
set_option maxHeartbeats 1000000 in
theorem Bf {e sz b:Nat}{s x:X}{d:Option Nat}{K:TK}(j:TS G F L ρ M τ) (h:Jp e sz b (bV τ s) (bV τ x) d M τ K):∃sv xv,ev ρ s=.v sv/\ev ρ x=.v xv/\Db F L e sz b sv xv fun L1 v=>Both G K F L1 (Fr.put d (.v v) ρ):=by
 have he:=j.env;simp only[Jp,eB] at h;split at h
 ·rename_i k news z m;split at h
  case h_2=>exact h.elim
  rename_i e' bo els n;split at h
  case h_2=>exact h.elim
  rename_i h1 h2;obtain rfl:=yo h1;obtain rfl:=yo h2;obtain⟨g1,l,t,g4⟩:=h;obtain⟨a,c,xs,e1,e2,hr,hm⟩:=ol j z n;obtain⟨r,p,ao,w,e4,e5,e6,e7⟩:=jq he m;obtain⟨ys,y1,y2,y3⟩:=ij e7 g1;exact⟨_,_,e1,w,k,els.length,xs,news.length,ys,.inl e2,⟨r,p,rfl,y1,y2.imp id .inl⟩,y3.ones,l,t,fun v hv=>mq j e2 hr y3 l g4 hv⟩
 ·rename_i news k z m;split at h
  case h_2=>exact h.elim
  rename_i n;obtain⟨g1,l,t,g4⟩:=h;obtain⟨r,p,ao,w,e4,e5,e6,e7⟩:=jq he m;obtain⟨ys,y1,y2,y3⟩:=ij e7 g1;simp only[XE] at l t;exact⟨_,_,nI he z,w,k,0,[],news.length,ys,.inr (.inl ⟨bT j.tl n,rfl,rfl,rfl⟩),⟨r,p,rfl,y1,y2.imp id .inl⟩,y3.ones,l,t,fun v hv=>kI j n y3 (by omega) g4 hv⟩
 ·rename_i els news k z m;split at h
  case h_2=>exact h.elim
  rename_i n;obtain⟨g0,bi,g1,l,t,g4⟩:=h;obtain⟨a,ce,e1,hm,e2⟩:=zH he z;obtain⟨r,p,ao,w,e4,e5,e6,e7⟩:=jq he m;obtain⟨ys,y1,y2,y3⟩:=ij e7 g1;obtain⟨xs,x1,x2,x3⟩:=ij e2 bi;refine⟨_,_,e1,w,k,els.length,xs,news.length,ys,.inr (.inr ⟨bT j.tl n,a,rfl,g0,x1,x2⟩),⟨r,p,rfl,y1,y2.imp id .inl⟩,y3.ones,l,t,fun v hv=>?_⟩;obtain⟨av,cv,rfl,hn⟩:=hv;have h1:=j.new (aA.le_refl F) (bT j.tl n) (o:=.row (.slice av (els.length+news.length) cv) e sz (els.length+news.length) (xs++ys)) (to:=.row e sz (els++news)) ⟨rfl,rfl,by simp,⟨l,av,cv,rfl,hn⟩,x3.append y3⟩;exact⟨_,_,h1.put (c:=.rw k) (mO (by rw[Loc.Wh,j3 rfl])) _,g4⟩
 ·rename_i k k' z m;have m:=zG m;split at h
  case h_2=>exact h.elim
  rename_i e' bo els bk ax news n q;split at h
  case h_2=>exact h.elim
  rename_i h1 h2 h3;obtain rfl:=yo h1;obtain rfl:=yo h2;obtain rfl:=yo h3;obtain⟨g1,l,t,g4⟩:=h;obtain⟨a,c,xs,e1,e2,hr,hm⟩:=ol j z n;obtain⟨r,p,ys,w,e4,f,bp⟩:=ol j m q;refine⟨_,_,e1,w,k,els.length,xs,news.length,ys,.inl e2,⟨r,p,rfl,gS f,?_⟩,f.ones,l,t,fun v hv=>mq j e2 hr f l g4 hv⟩;cases r with
  | some ad=>exact .inr (.inr ⟨k',_,_,_,_,_,ad,p,e4,rfl,rfl,fun i u hu=>hu⟩)
  | none =>
   obtain⟨v,bl,q1,⟨_,a2,c2,y,q3⟩,q4⟩:=jU j.tl q;rw[e4] at q1;injection q1 with q1
   injection q1 with r1 r2 r3 r4 r5
   rw[<-r1] at y;injection y with y
   have hz:=q3 y.symm;have hl:=gS f;refine .inr (.inl ⟨hz,List.length_eq_zero_iff.1 (by rw[hl,hz];simp)⟩)
 ·rename_i k' k z m;have m:=zG m;split at h
  case h_2=>exact h.elim
  rename_i bk ax news n q;split at h
  case h_2=>exact h.elim
  rename_i h3;obtain rfl:=yo h3;obtain⟨g1,l,t,g4⟩:=h;obtain⟨r,p,ys,w,e4,f,bp⟩:=ol j m q;simp only[XE] at l t;refine⟨_,_,nI he z,w,k,0,[],news.length,ys,.inr (.inl ⟨bT j.tl n,rfl,rfl,rfl⟩),⟨r,p,rfl,gS f,?_⟩,f.ones,l,t,fun v hv=>kI j n f (by omega) g4 hv⟩;cases r with
  | some ad=>exact .inr (.inr ⟨k',_,_,_,_,_,ad,p,e4,rfl,rfl,fun i u hu=>hu⟩)
  | none =>
   obtain⟨v,bl,q1,⟨_,a2,c2,y,q3⟩,q4⟩:=jU j.tl q;rw[e4] at q1;injection q1 with q1
   injection q1 with r1 r2 r3 r4 r5
   rw[<-r1] at y;injection y with y
   have hz:=q3 y.symm;have hl:=gS f;refine .inr (.inl ⟨hz,List.length_eq_zero_iff.1 (by rw[hl,hz];simp)⟩)
 ·exact h.elim
theorem JC {e sz b:Nat}{zs:List Value}{s x:X}{d:Option Nat}{K:TK}(j:TS G F L ρ M τ) (h:bH P (.app e sz b zs s x) d M τ K):evalOp P (.app e sz b zs s x) d F L ρ (Both G K):=by
 obtain⟨sv,k,f,a,c⟩:=Bf j h;simp only[evalOp,f,a];exact c
theorem GY {e sz b:Nat}{zs:List Value}{s x:X}{d:Option Nat}{K:TK}(a:TS G F L ρ M τ) (h:bH P (.appX e sz b zs s x) d M τ K):evalOp P (.appX e sz b zs s x) d F L ρ (Both G K):=by
 obtain⟨sv,u,o,q,⟨j,n,xs,m,news,f,p,l,k,r,c⟩⟩:=Bf a h;simp only[evalOp,o,q];exact⟨j,n,xs,m,news,f,p,l,k,r,fun v t _=>c v t⟩
set_option maxHeartbeats 1000000 in
theorem GZ {e sz b:Nat}{zs:List Value}{s x:X}{d:Option Nat}{K:TK}(f:TS G F L ρ M τ) (h:bH P (.appD e sz b zs s x) d M τ K):evalOp P (.appD e sz b zs s x) d F L ρ (Both G K):=by
 have y:=f.env;simp only[bH,eB,dV,dG] at h;simp only[evalOp];split at h
 ·rename_i k news z p;split at h
  case h_2=>exact h.elim
  rename_i e' az els m;split at h
  case h_2=>exact h.elim
  rename_i h1 h2;obtain rfl:=yo h1;obtain rfl:=yo h2;obtain⟨q,j,n,g4⟩:=h;obtain⟨a,c,xs,e1,e2,hr,hm⟩:=ol f z m;obtain⟨a',t,u,e3,e4,e5,e6,r⟩:=jq y p;obtain⟨ys,y1,w,l⟩:=ij r q;rw[e1,e3];exact⟨k,els.length,xs,news.length,ys,.inl e2,⟨a',t,rfl,y1,w⟩,l.ones,j,n,fun v hv _=>mq f e2 hr l j g4 hv⟩
 ·rename_i news k z p;split at h
  case h_2=>exact h.elim
  rename_i m;obtain⟨q,j,n,g4⟩:=h;obtain⟨a',t,u,e3,e4,e5,e6,r⟩:=jq y p;obtain⟨ys,y1,w,l⟩:=ij r q;simp only[XE] at j n;rw[nI y z,e3];exact⟨k,0,[],news.length,ys,.inr (.inl ⟨rfl,bT f.tl m,rfl,rfl,rfl⟩),⟨a',t,rfl,y1,w⟩,l.ones,j,n,fun v hv _=>kI f m l (by omega) g4 hv⟩
 ·rename_i els news k z p;split at h
  case h_2=>exact h.elim
  rename_i m;obtain⟨g0,am,q,j,n,g4⟩:=h;obtain⟨a,ax,e1,hm,e2⟩:=zH y z;obtain⟨a',t,u,e3,e4,e5,e6,r⟩:=jq y p;obtain⟨ys,y1,w,l⟩:=ij r q;obtain⟨xs,x1,x2,x3⟩:=ij e2 am;rw[e1,e3];refine⟨k,els.length,xs,news.length,ys,.inr (.inr ⟨rfl,bT f.tl m,a,rfl,g0,x1,x2⟩),⟨a',t,rfl,y1,w⟩,l.ones,j,n,fun v hv _=>?_⟩;obtain⟨av,cv,rfl,hn⟩:=hv;have h1:=f.new (aA.le_refl F) (bT f.tl m) (o:=.row (.slice av (els.length+news.length) cv) e sz (els.length+news.length) (xs++ys)) (to:=.row e sz (els++news)) ⟨rfl,rfl,by simp,⟨j,av,cv,rfl,hn⟩,x3.append l⟩;exact⟨_,_,h1.put (c:=.rw k) (mO (by rw[Loc.Wh,j3 rfl])) _,g4⟩
 ·exact h.elim
theorem G0 {e:Nat}{s x:X}{d:Option Nat}{K:TK}(l:TS G F L ρ M τ) (h:bH P (.appS e s x) d M τ K):evalOp P (.appS e s x) d F L ρ (Both G K):=by
 have o:=l.env;simp only[bH,eB,dV,dG] at h;simp only[evalOp];split at h
 ·rename_i k t p n;split at h
  case h_2=>exact h.elim
  rename_i e' z els m;split at h
  case h_2=>exact h.elim
  rename_i h1 h2;obtain rfl:=yo h1;obtain rfl:=yo h2;obtain⟨y,f,j,q⟩:=h;obtain⟨a,c,xs,e1,u,w,hm⟩:=ol l p m;have b:(af t.data.toList).length=t.size:=by simp[af]
  rw[e1,(jl o n).1];rw[b] at f j;refine⟨k,els.length,xs,.inl u,f,by simpa using j,fun v r=>?_⟩;have:=mq (news:=af t.data.toList) (v:=v) l u w (lp t.data.toList) (by rw[b];exact f) q (by rw[b];exact r);rw[b] at this;exact this
 ·rename_i t k p n;split at h
  case h_2=>exact h.elim
  rename_i m;obtain⟨y,f,j,q⟩:=h;have b:(af t.data.toList).length=t.size:=by simp[af]
  rw[nI o p,(jl o n).1];rw[b] at f j;simp only[XE] at f j;refine⟨k,0,[],.inr ⟨bT l.tl m,rfl,rfl,rfl⟩,f,by simpa using j,fun v r=>?_⟩;have:=kI (news:=af t.data.toList) (v:=v) l m (lp t.data.toList) (by rw[b];omega) q (by rw[b];exact r);rw[b] at this;exact this
 ·exact h.elim
theorem om {F:aA}(a:IntKind):∀m:Nat,aL F 1 (List.replicate m [C.int a 0]) (List.replicate m (Value.int a 0))
 | 0=>by simp only[List.replicate_zero,aL]
 | m+1=>by
  simp only[XS,aL];refine⟨[.int a 0],_,rfl,rfl,rfl,?_,om a m⟩;simp only[aB,Rel];exact⟨_,_,rfl,⟨rfl,by cases a<;>rfl⟩,rfl⟩
theorem G3 {e b:Nat}{l:IntKind}{s x:X}{d:Option Nat}{K:TK}(n:TS G F L ρ M τ) (h:bH P (.appZ e b l s x) d M τ K):evalOp P (.appZ e b l s x) d F L ρ (Both G K):=by
 have q:=n.env;simp only[bH,eB,dV,dG] at h;simp only[evalOp];split at h
 ·rename_i k kx i r p;split at h
  case h_2=>exact h.elim
  rename_i e' aa els o;split at h
  case h_2=>exact h.elim
  rename_i h1 h2;obtain rfl:=yo h1;obtain rfl:=yo h2;obtain⟨m,rfl,z,f,j,t⟩:=h;obtain⟨a,c,xs,e1,w,y,hm⟩:=ol n r o;rw[e1,(dX q p).1];rw[XL] at f j;refine⟨k,els.length,xs,.inl w,f,j,fun v u=>?_⟩;have:=mq (news:=List.replicate m [C.int l 0]) (v:=v) n w y (om l m) (by rw[XL];exact f) t (by rw[XL];exact u);rw[XL] at this;exact this
 ·rename_i kx i k r p;split at h
  case h_2=>exact h.elim
  rename_i o;obtain⟨m,rfl,z,f,j,t⟩:=h;rw[nI q r,(dX q p).1];rw[XL] at f j;simp only[XE] at f j;refine⟨k,0,[],.inr ⟨bT n.tl o,rfl,rfl,rfl⟩,f,j,fun v u=>?_⟩;have:=kI (news:=List.replicate m [C.int l 0]) (v:=v) n o (om l m) (by rw[XL];omega) t (by rw[XL];exact u);rw[XL] at this;exact this
 ·exact h.elim
theorem EV {n:Nat}{y x:X}{d:Option Nat}{K:TK}(ht:TS G F L ρ M τ) (h:storeT false n y x d M τ K):evalOp P (.store n y x) d F L ρ (Both G K):=by
 have he:=ht.env;simp only[storeT,eB,dV,dG] at h;simp only[evalOp];split at h
 ·rename_i k off h1 h2 h3 hy;split at h
  case h_3=>exact h.elim
  case h_2 =>
   rename_i t pre cs post hk;rcases h with⟨o,rfl,h⟩ | ⟨pre',bk,bs,bj,h⟩
   case inr =>
    obtain⟨g,ty,v1,w,v3,hL,u,z,am,l⟩:=rz ht.tl hk;have p:=dH he h1;have f:(aH (val L ρ x)).length=n:=by rw[p.len];exact br h2
    have s:eT (aH (val L ρ x)) n=true:=cQ f;have ho:=j5 (fw p h3);rw[s,ho,(ep he hy).1];simp only[hL];have ba:off+n<=v1.length:=by rw[u.len];exact bk
    have q:(((v1++(w++v3)).drop off).take n).length=n:=by
     simp;omega
    rw[fk l.2.2 (cQ q)];have ag:aM (v1++(w++v3)) off (aH (val L ρ x))=aM v1 off (aH (val L ρ x))++(w++v3):=by
     simp only[aM];rw[List.take_append_of_le_length (by omega),f,List.drop_append_of_le_length ba];simp
    have bl:aB F [] pre' (aM v1 off (aH (val L ρ x))):=by rw[<-bj];exact fF u (dU bs p)
    have h4:=ht.turn (o':=.box g ty (aM (v1++(w++v3)) off (aH (val L ρ x)))) (to:=.win t pre' cs post) hL ⟨rfl,rfl⟩ (fun g' t' cs' e=>by injection e with a b c;subst a b;exact⟨_,rfl⟩)
     (fun L' hx=>⟨l,_,w,v3,ag,bl,z.ext (aA.le_refl F) hx,am⟩)
    exact⟨_,_,h4.put (c:=.und) (sv:=.v undef) ⟨_,rfl,by simp only[Rel]⟩ d,h⟩
   split at h
   case h_2=>exact h.elim
   rename_i hl;obtain⟨g,ty,v1,w,v3,hL,u,z,am,l⟩:=rz ht.tl hk;have p:=dH he h1;have f:(aH (val L ρ x)).length=n:=by rw[p.len];exact br h2
   have s:eT (aH (val L ρ x)) n=true:=cQ f;have ho:=j5 (fw p h3);rw[s,ho,(ep he hy).1];simp only[hL];have ap:=(z.drop o).take n;have ac:((w.drop o).take n).length=n:=by rw[ap.len];exact br hl
   have q:(((v1++(w++v3)).drop (pre.length+o)).take n).length=n:=by
    rw[<-u.len];simp at ac ⊢;omega
   rw[fk l.2.2 (cQ q)];have ag:aM (v1++(w++v3)) (pre.length+o) (aH (val L ρ x))=v1++(aM w o (aH (val L ρ x))++v3):=by
    by_cases cc:n=0
    ·have:aH (val L ρ x)=[]:=Xu (by omega);rw[this];simp[aM]
    have hn:o+n<=w.length:=by simp at ac;omega
    simp only[aM];rw[<-u.len,List.take_append,XO (by omega),show v1.length+o-v1.length=o by omega,List.take_append_of_le_length (by omega),f,Nat.add_assoc,List.drop_append,List.drop_eq_nil_of_le (by omega),show v1.length+(o+n)-v1.length=o+n by omega,List.drop_append_of_le_length hn];simp
   have h4:=ht.turn (o':=.box g ty (aM (v1++(w++v3)) (pre.length+o) (aH (val L ρ x)))) (to:=.win t pre (eH cs o (bS (bV τ x))) post) hL ⟨rfl,rfl⟩ (fun g' t' cs' e=>by injection e with a b c;subst a b;exact⟨_,rfl⟩)
    (fun L' hx=>⟨l,v1,_,v3,ag,u,(fF z p).ext (aA.le_refl F) hx,am⟩)
   exact⟨_,_,h4.put (c:=.und) (sv:=.v undef) ⟨_,rfl,by simp only[Rel]⟩ d,h⟩
  rename_i t cs hk;split at h
  case h_2=>exact h.elim
  rename_i hl;obtain⟨g,ty,vs,hL,z,l⟩:=jT ht.tl hk;have p:=dH he h1;have s:eT (aH (val L ρ x)) n=true:=cQ (by rw[p.len];exact br h2);have ho:=j5 (fw p h3);rw[s,ho,(ep he hy).1];simp only[hL];have ap:=(z.drop off).take n;rw[fk l.2.2 (cQ (by rw[ap.len];exact br hl))];have h4:=ht.turn (o':=.box g ty (aM vs off (aH (val L ρ x)))) (to:=.box t (eH cs off (bS (bV τ x)))) hL ⟨rfl,rfl⟩ (fun g' t' cs' e=>by injection e with a b c;subst a b;exact⟨_,rfl⟩)
   (fun L' hx=>⟨l,(fF z p).ext (aA.le_refl F) hx⟩)
  exact⟨_,_,h4.put (c:=.und) (sv:=.v undef) ⟨_,rfl,by simp only[Rel]⟩ d,h⟩
 ·rename_i k j off h1 h2 h3 hy;split at h
  case h_2=>exact h.elim
  rename_i t sz els h0 hk hp;obtain⟨r0,es,r1,r2,r3⟩:=h;obtain⟨ad,t',r,m,c,bm,e1,e2⟩:=si he hy;obtain⟨v,xs,e3,⟨hm,q6⟩,z⟩:=jU ht.tl hk;rw[e2] at e3;injection e3 with e3
  injection e3 with q1 q2 q3 q4 q5
  subst q1 q2 q3 q4 q5;have p:=dH he h1;have f:(aH (val L ρ x)).length=n:=by rw[p.len];exact br h2
  have s:eT (aH (val L ρ x)) n=true:=cQ f;have ho:=j5 (fw p h3);rw[s,ho,e1];have cd:es.length=r:=by
   obtain⟨us,u1,_,u3,_⟩:=z.at r1;rw[<-u1,u3.len]
  have hn:off+n<=r:=Xh r0;have az:=z.set (ds:=(bS (bV τ x)).map C.can) (us:=aH (val L ρ x)) (off:=off) r1 (by rw[f];exact hn) (jo (dU hp p)) (mo h3);have aE:j<els.length:=(W5.1 r1).1;have bo:=gS z;have h4:=ht.turn (o':=.row (.slice (some ad) els.length c) t' r els.length (aM bm (j*r+off) (aH (val L ρ x)))) (to:=.row t' r (els.set j (eH es off ((bS (bV τ x)).map C.can)))) e2 ⟨rfl,rfl,rfl⟩
   (fun g' ca cs' e=>by cases e) (fun L' hx=>⟨rfl,rfl,by simp,⟨hm,_,_,rfl,fun e=>(by cases e)⟩,az⟩)
  refine⟨.inl ⟨k,_,_,_,_,_,ad,c,e2,rfl,rfl,?_,fw p h3,_,_,h4.put (c:=.und) (sv:=.v undef) ⟨_,rfl,by simp only[Rel]⟩ d,r3 es r1⟩⟩;rw[bo,f];have:(j+1)*r<=els.length*r:=Nat.mul_le_mul_right _ aE;rw[Nat.add_mul] at this;omega
 ·exact h.elim
theorem CB {n:Nat}{y x:X}{d:Option Nat}{K:TK}(o:TS G F L ρ M τ) (h:Cv n y x d M τ K):evalOp P (.store n y x) d F L ρ (Both G K):=by
 have s:=o.env;unfold Cv at h;split at h
 ·rename_i es off b hy t;split at h
  case h_2=>exact h.elim
  rename_i hn;obtain rfl:=yo hn;obtain⟨r,h2⟩:=h;obtain⟨b',q,j,vs,k,hp,ho,w⟩:=og s hy;have ex:=gT s t;have m:vs[off]?=some (.bool b):=by
   obtain⟨r1,r2⟩:=jg.1 w;have a:off<vs.length:=by rw[r1];exact(W5.1 r).1
   have:=r2 off _ _ r (WZ a);simp only[Rel] at this;rw[WZ a,this]
  have f:bN F (some ⟨b',q,none⟩) j [.bool b]:=by
   have:=jn (n:=1) (es:=es) hp;have e:(vs.drop off).take 1=[.bool b]:=by
    have a:off<vs.length:=(W5.1 m).1;rw[XW a];rw[WZ a] at m;injection m with m
    rw[m];rfl
   rwa [e] at this
  have p:Both G K F L (Fr.put d (.v undef) ρ):=⟨_,_,o.put (c:=.und) (sv:=.v undef) ⟨_,rfl,by simp only[Rel]⟩ d,h2⟩;have l:∀u∈[Value.bool b],u.oneCell'=true:=fun u z=>by rw[XJ.1 z];rfl
  have ec:aH (val L ρ x)=[.bool b]:=by simp only[val,ex,conc,aH]
  have e3:eT [Value.bool b] 1=true:=rfl;have e4:iS [Value.bool b]=true:=rfl;simp only[evalOp,ec,e3,e4];rcases k with⟨k,rfl⟩ | k
  ·rw[k];exact⟨.inr ⟨f,l,p⟩⟩
  ·rw[k];exact⟨.inr ⟨f,l,p⟩⟩
 ·exact EV o h
theorem CC {n:Nat}{y x:X}{d:Option Nat}{K:TK}(ht:TS G F L ρ M τ) (h:storeT false n y x d M τ K):evalOp P (.storeX n y x) d F L ρ (Both G K):=by
 have he:=ht.env;simp only[storeT,eB,dV,dG] at h;simp only[evalOp];split at h
 ·rename_i k off h1 h2 h3 hy;split at h
  case h_3=>exact h.elim
  case h_2 =>
   rename_i t pre cs post hk;rcases h with⟨o,rfl,h⟩ | ⟨pre',bk,bs,bj,h⟩
   case inr =>
    obtain⟨g,ty,v1,w,v3,hL,u,z,am,l⟩:=rz ht.tl hk;have p:=dH he h1;have f:(aH (val L ρ x)).length=n:=by rw[p.len];exact br h2
    have s:eT (aH (val L ρ x)) n=true:=cQ f;have ho:=j5 (fw p h3);rw[s,ho,(ep he hy).1];simp only[hL];have ba:off+n<=v1.length:=by rw[u.len];exact bk
    have q:(((v1++(w++v3)).drop off).take n).length=n:=by
     simp;omega
    rw[fk l.2.2 (cQ q)];have ag:aM (v1++(w++v3)) off (aH (val L ρ x))=aM v1 off (aH (val L ρ x))++(w++v3):=by
     simp only[aM];rw[List.take_append_of_le_length (by omega),f,List.drop_append_of_le_length ba];simp
    have bl:aB F [] pre' (aM v1 off (aH (val L ρ x))):=by rw[<-bj];exact fF u (dU bs p)
    have h4:=ht.turn (o':=.box g ty (aM (v1++(w++v3)) off (aH (val L ρ x)))) (to:=.win t pre' cs post) hL ⟨rfl,rfl⟩ (fun g' t' cs' e=>by injection e with a b c;subst a b;exact⟨_,rfl⟩)
     (fun L' hx=>⟨l,_,w,v3,ag,bl,z.ext (aA.le_refl F) hx,am⟩)
    exact fun _=>⟨_,_,h4.put (c:=.und) (sv:=.v undef) ⟨_,rfl,by simp only[Rel]⟩ d,h⟩
   split at h
   case h_2=>exact h.elim
   rename_i hl;obtain⟨g,ty,v1,w,v3,hL,u,z,am,l⟩:=rz ht.tl hk;have p:=dH he h1;have f:(aH (val L ρ x)).length=n:=by rw[p.len];exact br h2
   have s:eT (aH (val L ρ x)) n=true:=cQ f;have ho:=j5 (fw p h3);rw[s,ho,(ep he hy).1];simp only[hL];have ap:=(z.drop o).take n;have ac:((w.drop o).take n).length=n:=by rw[ap.len];exact br hl
   have q:(((v1++(w++v3)).drop (pre.length+o)).take n).length=n:=by
    rw[<-u.len];simp at ac ⊢;omega
   rw[fk l.2.2 (cQ q)];have ag:aM (v1++(w++v3)) (pre.length+o) (aH (val L ρ x))=v1++(aM w o (aH (val L ρ x))++v3):=by
    by_cases cc:n=0
    ·have:aH (val L ρ x)=[]:=Xu (by omega);rw[this];simp[aM]
    have hn:o+n<=w.length:=by simp at ac;omega
    simp only[aM];rw[<-u.len,List.take_append,XO (by omega),show v1.length+o-v1.length=o by omega,List.take_append_of_le_length (by omega),f,Nat.add_assoc,List.drop_append,List.drop_eq_nil_of_le (by omega),show v1.length+(o+n)-v1.length=o+n by omega,List.drop_append_of_le_length hn];simp
   have h4:=ht.turn (o':=.box g ty (aM (v1++(w++v3)) (pre.length+o) (aH (val L ρ x)))) (to:=.win t pre (eH cs o (bS (bV τ x))) post) hL ⟨rfl,rfl⟩ (fun g' t' cs' e=>by injection e with a b c;subst a b;exact⟨_,rfl⟩)
    (fun L' hx=>⟨l,v1,_,v3,ag,u,(fF z p).ext (aA.le_refl F) hx,am⟩)
   exact fun _=>⟨_,_,h4.put (c:=.und) (sv:=.v undef) ⟨_,rfl,by simp only[Rel]⟩ d,h⟩
  rename_i t cs hk;split at h
  case h_2=>exact h.elim
  rename_i hl;obtain⟨g,ty,vs,hL,z,l⟩:=jT ht.tl hk;have p:=dH he h1;have s:eT (aH (val L ρ x)) n=true:=cQ (by rw[p.len];exact br h2);have ho:=j5 (fw p h3);rw[s,ho,(ep he hy).1];simp only[hL];have ap:=(z.drop off).take n;rw[fk l.2.2 (cQ (by rw[ap.len];exact br hl))];have h4:=ht.turn (o':=.box g ty (aM vs off (aH (val L ρ x)))) (to:=.box t (eH cs off (bS (bV τ x)))) hL ⟨rfl,rfl⟩ (fun g' t' cs' e=>by injection e with a b c;subst a b;exact⟨_,rfl⟩)
   (fun L' hx=>⟨l,(fF z p).ext (aA.le_refl F) hx⟩)
  exact fun _=>⟨_,_,h4.put (c:=.und) (sv:=.v undef) ⟨_,rfl,by simp only[Rel]⟩ d,h⟩
 ·rename_i k j off h1 h2 h3 hy;split at h
  case h_2=>exact h.elim
  rename_i t sz els h0 hk hp;obtain⟨r0,es,r1,r2,r3⟩:=h;obtain⟨ad,t',r,m,c,bm,e1,e2⟩:=si he hy;obtain⟨v,xs,e3,⟨hm,q6⟩,z⟩:=jU ht.tl hk;rw[e2] at e3;injection e3 with e3
  injection e3 with q1 q2 q3 q4 q5
  subst q1 q2 q3 q4 q5;have p:=dH he h1;have f:(aH (val L ρ x)).length=n:=by rw[p.len];exact br h2
  have s:eT (aH (val L ρ x)) n=true:=cQ f;have ho:=j5 (fw p h3);rw[s,ho,e1];have cd:es.length=r:=by
   obtain⟨us,u1,_,u3,_⟩:=z.at r1;rw[<-u1,u3.len]
  have hn:off+n<=r:=Xh r0;have az:=z.set (ds:=(bS (bV τ x)).map C.can) (us:=aH (val L ρ x)) (off:=off) r1 (by rw[f];exact hn) (jo (dU hp p)) (mo h3);have aE:j<els.length:=(W5.1 r1).1;have bo:=gS z;have h4:=ht.turn (o':=.row (.slice (some ad) els.length c) t' r els.length (aM bm (j*r+off) (aH (val L ρ x)))) (to:=.row t' r (els.set j (eH es off ((bS (bV τ x)).map C.can)))) e2 ⟨rfl,rfl,rfl⟩
   (fun g' ca cs' e=>by cases e) (fun L' hx=>⟨rfl,rfl,by simp,⟨hm,_,_,rfl,fun e=>(by cases e)⟩,az⟩)
  refine⟨k,_,_,_,_,_,ad,c,e2,rfl,rfl,?_,fw p h3,fun _=>⟨_,_,h4.put (c:=.und) (sv:=.v undef) ⟨_,rfl,by simp only[Rel]⟩ d,r3 es r1⟩⟩;rw[bo,f];have:(j+1)*r<=els.length*r:=Nat.mul_le_mul_right _ aE;rw[Nat.add_mul] at this;omega
 ·exact h.elim
theorem vY {n:Nat}{y x:X}{d:Option Nat}{K:TK}(l:TS G F L ρ M τ) (h:storeT true n y x d M τ K):evalOp P (.storeD n y x) d F L ρ (Both G K):=by
 have r:=l.env;simp only[storeT,eB,dV,dG] at h;simp only[evalOp];split at h
 ·rename_i k off z h2 h3 hy;split at h
  case h_3=>exact h.elim
  case h_2=>exact h.elim
  rename_i t cs u;split at h
  case h_2=>exact h.elim
  rename_i w;obtain⟨g,ty,vs,q,p,f⟩:=jT l.tl u;have m:=dH r z;have j:eT (aH (val L ρ x)) n=true:=cQ (by rw[m.len];exact br h2);have ho:=j5 (fw m h3);rw[j,ho,(ep r hy).1];simp only[q];have o:=(p.drop off).take n;rw[fk f.2.2 (cQ (by rw[o.len];exact br w))];have h4:=l.turn (o':=.box g ty (aM vs off (aH (val L ρ x)))) (to:=.box t (eH cs off (bS (bV τ x)))) q ⟨rfl,rfl⟩ (fun g' t' cs' e=>by injection e with a b c;subst a b;exact⟨_,rfl⟩)
   (fun L' s=>⟨f,(fF p m).ext (aA.le_refl F) s⟩)
  exact⟨_,_,h4.put (c:=.und) (sv:=.v undef) ⟨_,rfl,by simp only[Rel]⟩ d,h⟩
 ·exact h.elim
 ·exact h.elim
theorem EW {e sz b:Nat}{zs:List Value}{l c:X}{d:Option Nat}{K:TK}(j:TS G F L ρ M τ) (h:bH P (.makeS e sz b zs l c) d M τ K):evalOp P (.makeS e sz b zs l c) d F L ρ (Both G K):=by
 have q:=j.env;simp only[bH,eB,dV,dG] at h;simp only[evalOp];split at h
 case h_2=>exact h.elim
 rename_i k1 n k2 m k w hc;split at h
 case h_2=>exact h.elim
 rename_i v x h2;rw[(dX q w).1,(dX q hc).1];have f:=bT j.tl v;simp only[f];obtain⟨s,p,y,r,u⟩:=h;refine⟨s,p,y,r,fun g=>?_⟩;have t:aB F [] ((zs.map qI).map C.can) zs:=jo (kG zs);have a:∀i:Nat,aL F sz (List.replicate i ((zs.map qI).map C.can)) (List.replicate i zs).flatten:=by
  intro i
  induction i with
  | zero=>simp only[List.replicate_zero,List.flatten_nil,aL]
  | succ i ih =>
   simp only[XS,List.flatten_cons,aL];exact⟨zs,_,rfl,by have:=br x;simpa using this,mo h2,t,ih⟩
 have z:=j.new (aA.le_refl F) f (o:=.row (.slice (some ⟨g,0,none⟩) n.toNat m.toNat) e sz n.toNat (List.replicate n.toNat zs).flatten) (to:=.row e sz (List.replicate n.toNat ((zs.map qI).map C.can)))
  ⟨rfl,rfl,by simp,⟨XK (Int.toNat_le_toNat p) r,_,_,rfl,fun e=>(by cases e)⟩,a _⟩
 exact⟨_,_,z.put (c:=.rw k) (mO (by rw[Loc.Wh,j3 rfl])) (some k),u⟩
end
section
variable {P:Program}{G:Nat->Option (Nat×TypeId)}{F:aA}{L:Loc}{ρ:Env}{M:TL}{τ:aT}
theorem zL:∀{ks:List Nat}{i j m:Nat},cj ks i j=some m->∃n,ks[n]?=some j/\m=i+n
 | [],_,_,_,h=>by simp[cj] at h
 | k::ks,i,j,m,h=>by
  simp only[cj] at h;cases a:Nat.beq j k with
  | true =>
   have:=yo a;subst this;rw[a] at h;injection h with h
   exact⟨0,by simp,by omega⟩
  | false =>
   rw[a] at h;obtain⟨n,b,c⟩:=zL h;exact⟨n+1,by simpa using b,by omega⟩
theorem lK {ko:List Nat}{j m:Nat}(h:aW ko j=some m):1000<=j/\ko[j-1000]?=some m:=by
 simp only[aW] at h;split at h
 ·rename_i a;exact⟨Xh a,h⟩
 ·cases h
theorem cJ:∀{l:List Nat},bE l=true->l.Nodup
 | [],_=>List.nodup_nil
 | k::l,h=>by
  simp only[bE] at h;split at h
  ·cases h
  ·rename_i a;exact List.nodup_cons.2 ⟨fun b=>(by rw[cH.2 b] at a;cases a),cJ h⟩
theorem G5 {L':Loc}{f:Nat->Option Nat}(k:∀j m,f j=some m->∀o,L.get j=some o->L'.get m=some o) (c:C) (v:Value) (r:c.leaf=true) (h:Rel F L c v):Rel F L' (rY f c) v:=by
 cases c<;>simp only[C.leaf,Xd] at r<;>simp only[rY]
 case rw j =>
  simp only[Rel] at h;obtain⟨a,c,t,sz,n,xs,rfl,h⟩:=h;cases d:f j with
  | none=>simp only[Rel]
  | some m=>simp only[Rel];exact⟨a,c,t,sz,n,xs,rfl,k j m d _ h⟩
 case own j off =>
  simp only[Rel] at h;obtain⟨g,t,cs,h,rfl⟩:=h;cases d:f j with
  | none=>simp only[Rel]
  | some m=>simp only[Rel];exact⟨g,t,cs,k j m d _ h,rfl⟩
 case ifo m ti j off =>
  simp only[Rel] at h;obtain⟨g,t,cs,h,rfl⟩:=h;cases d:f j with
  | none=>simp only[Rel]
  | some m=>simp only[Rel];exact⟨g,t,cs,k j m d _ h,rfl⟩
 case mpr j =>
  simp only[Rel] at h;obtain⟨g,cs,h,rfl⟩:=h;cases d:f j with
  | none=>simp only[Rel]
  | some m=>simp only[Rel];exact⟨g,cs,k j m d _ h,rfl⟩
 case ownv=>exact h.elim
 case elr j a b =>
  simp only[Rel] at h;obtain⟨l,t,sz,n,c,xs,rfl,h⟩:=h;cases d:f j with
  | none=>simp only[Rel]
  | some m=>simp only[Rel];exact⟨l,t,sz,n,c,xs,rfl,k j m d _ h⟩
 case slo j a =>
  simp only[Rel] at h;obtain⟨g,t,cs,l,h,s,q,p⟩:=h;cases d:f j with
  | none=>simp only[Rel]
  | some m=>simp only[Rel];exact⟨g,t,cs,l,k j m d _ h,s,q,p⟩
 case slp=>exact h.elim
 all_goals
  exact bq (aA.le_refl F) (fun u e=>by rcases e with⟨off,e⟩ | e | e | ⟨_,_,_,e⟩ | ⟨_,_,e⟩<;>cases e) rfl h
theorem Rel.ren {L':Loc}{f:Nat->Option Nat}(a:∀j m,f j=some m->∀o,L.get j=some o->L'.get m=some o) {c:C}{v:Value}(h:Rel F L c v):Rel F L' (c.ren f) v:=Rel.mp (G5 a) 3 h
theorem cN.ren {L':Loc}{f:Nat->Option Nat}(a:∀j m,f j=some m->∀o,L.get j=some o->L'.get m=some o):∀{o:TO}{p:Own},cN F L o p->cN F L' (o.Wj (C.ren f)) p
 | .box t cs,.box g b vs,r=>⟨r.1,r.2.map fun c _ v h=>h.ren a⟩
 | .row t sz els,.row v b d n xs,r=>r
 | .box _ _,.row ..,r=>r.elim
 | .row ..,.box ..,r=>r.elim
 | .map _,.row ..,r=>r.elim
 | .map es,.box g b vs,r=>r
 | .win ..,.row ..,r=>r.elim
 | .win ..,.box ..,⟨q,v1,u,v3,e,k,s,l⟩=>⟨q,v1,u,v3,e,k,s.map fun c _ v h=>h.ren a,l⟩
theorem pR (e:cO F L M):∀{ks:List Nat}{Lin:List TO},M.sub ks=some Lin->∃Li,L.sub ks=some Li/\Li.length=Lin.length/\∀(i:Nat) o p,Lin[i]?=some o->Li[i]?=some p->cN F L o p
 | [],Lin,h=>by simp only[TL.sub,WY] at h;subst h;exact⟨[],rfl,rfl,by simp⟩
 | k::ks,Lin,h=>by
  simp only[TL.sub] at h;split at h
  case h_2=>cases h
  rename_i o l f q;injection h with h
  subst h;obtain⟨Li,n,r,s⟩:=pR e q;rcases dR (e k) with⟨a,j⟩ | ⟨o',p,a,j,m⟩
  ·rw[f] at a;cases a
  ·rw[f] at a;injection a with a
   subst a;refine⟨p::Li,by simp only[Loc.sub,j,n],by simp[r],fun i b c hi d=>?_⟩;cases i with
   | zero=>simp only[Xg,WY] at hi d;subst hi;subst d;exact m
   | succ i=>exact s i b c (by simpa using hi) (by simpa using d)
theorem mP {ks:List Nat}{Li:List Own}(c:L.sub ks=some Li):∀j m,cj ks 1000 j=some m->∀o,L.get j=some o->(inp Li).get m=some o:=by
 intro j m h o a;obtain⟨n,b,rfl⟩:=zL h;obtain⟨_,d⟩:=dW c;rw[aS,j3 (by omega),show 1000+n-1000=n by omega,<-d n j b];exact a
theorem rA (f:cO F L M) {ks:List Nat}{Lin:List TO}{Li:List Own}(e:Li.length=Lin.length) (d:L.sub ks=some Li) (c:∀(i:Nat) o p,Lin[i]?=some o->Li[i]?=some p->cN F L o p) :
  cO F (inp Li) (iO (Lin.map (TO.Wj (C.ren (cj ks 1000))))):=by
 intro k;rw[bZ,aS];split
 ·rw[XH];cases b:Lin[k-1000]? with
  | none =>
   have:Li[k-1000]?=none:=by rw[XT] at b ⊢;omega
   rw[this];trivial
  | some o =>
   have a:k-1000<Li.length:=by have:=(W5.1 b).1;omega
   rw[WZ a];exact(c _ _ _ b (WZ a)).ren (mP d)
 ·trivial
def lq (L:Loc) (k:Nat):Loc:=match L.get k with | some (.row ..)=>L.del k | _=>L
def mr:List Nat->Loc->Loc
 | [],L=>L
 | k::ks,L=>mr ks (lq L k)
theorem tw (k:Nat):(∀c v,c.leaf=true->Rel F L c v->Rel F (lq L k) (fS k c) v)/\(∀c sv,c.leaf=true->aN F L c sv->aN F (lq L k) (fS k c) sv):=by
 by_cases a:∃v t sz n xs,L.get k=some (.row v t sz n xs)
 ·obtain⟨v,t,sz,n,xs,a⟩:=a;have e:lq L k=L.del k:=by simp only[lq,a]
  rw[e];have b:∀g t cs,L.get k≠some (.box g t cs):=fun g t cs h=>by rw[a] at h;injection h with h;cases h
  have d:∀j,j≠k->∀o,L.get j=some o->∃o',(L.del k).get j=some o'/\Own.like o o':=fun j l o f=>⟨o,by rw[Loc.Wm,vv l];exact f,Own.Wl o⟩;exact⟨jV b d (aA.le_refl F),oh b d (aA.le_refl F)⟩
 ·have e:lq L k=L:=by
   simp only[lq];split
   ·rename_i h;exact xo ⟨_,_,_,_,_,h⟩ a
   ·rfl
  rw[e];refine⟨fun c v m h=>?_,fun c sv m h=>?_⟩
  ·cases c<;>simp only[fS]<;>first
    | exact h
    | exact h.elim
    | (split<;>first | exact h | (simp only[Rel];done))
  ·cases c<;>simp only[fS]<;>first
    | exact h
    | trivial
    | (split<;>first | exact h | trivial)
theorem Rel.kills:∀(ks:List Nat) {L:Loc}{c:C}{v:Value},Rel F L c v->Rel F (mr ks L) (C.kills ks c) v
 | [],L,c,v,h=>h
 | k::ks,L,c,v,h=>Rel.kills ks (Rel.mp (tw k).1 3 h)
theorem aN.kills:∀(ks:List Nat) {L:Loc}{c:C}{sv:SV},aN F L c sv->aN F (mr ks L) (C.kills ks c) sv
 | [],L,c,sv,h=>h
 | k::ks,L,c,sv,h=>aN.kills ks (aN.mp (tw k).1 (tw k).2 3 h)
theorem cN.kills (ks:List Nat) {L:Loc}:∀{o:TO}{p:Own},cN F L o p->cN F (mr ks L) (o.Wj (C.kills ks)) p
 | .box t cs,.box g a vs,r=>⟨r.1,r.2.map fun c _ v h=>h.kills ks⟩
 | .row t sz els,.row v a b n xs,r=>r
 | .box _ _,.row ..,r=>r.elim
 | .row ..,.box ..,r=>r.elim
 | .map _,.row ..,r=>r.elim
 | .map es,.box g a vs,r=>r
 | .win ..,.row ..,r=>r.elim
 | .win ..,.box ..,⟨j,v1,l,v3,e,d,k,f⟩=>⟨j,v1,l,v3,e,d,k.map fun c _ v h=>h.kills ks,f⟩
theorem Bg {k j:Nat}{o:Own}(h:(lq L k).get j=some o):L.get j=some o/\(j=k->∃g t cs,o=.box g t cs):=by
 unfold lq at h;split at h
 ·rw[Loc.Wm] at h;split at h
  ·cases h
  ·rename_i a;exact⟨h,fun e=>xo e a⟩
 ·rename_i b;refine⟨h,fun e=>?_⟩;subst e;cases o with
  | box g t cs=>exact⟨g,t,cs,rfl⟩
  | row v t sz n xs=>exact xo h (b v t sz n xs)
theorem oq:∀{ks:List Nat}{L:Loc}{j:Nat}{o:Own},(mr ks L).get j=some o->L.get j=some o/\(j∈ks->∃g t cs,o=.box g t cs)
 | [],L,j,o,h=>⟨h,by simp⟩
 | k::ks,L,j,o,h=>by
  obtain⟨c,a⟩:=oq (ks:=ks) h;obtain⟨d,f⟩:=Bg c;exact⟨d,fun b=>by
   rcases W7.1 b with e | e
   ·exact f e
   ·exact a e⟩
theorem vZ (ks:List Nat) (M:TL) (k:Nat):(TL.kills ks M).get k=(M.get k).map (TO.Wj (C.kills ks)):=by
 cases ks with
 | nil =>
  simp only[TL.kills];cases M.get k with
  | none=>rfl
  | some o =>
   cases o with
   | box t cs =>
    have e:(C.kills []:C->C)=id:=rfl;simp[TO.Wj,e]
   | row t sz els=>rfl
   | map es=>rfl
   | win t pre cs post =>
    have e:(C.kills []:C->C)=id:=rfl;simp[TO.Wj,e]
 | cons a ks=>exact pQ _ _ _
theorem v9 (ks:List Nat) (τ:aT) (j:Nat):eI ks τ j=(τ j).kills ks:=by cases ks<;>rfl
def zM:TO->Bool
 | .row _ _ _=>true
 | _=>false
theorem dZ:∀{Lin:List TO}{ks ko:List Nat},aQ Lin ks ko=true->∀(i:Nat) o,Lin[i]?=some o->zM o=false->∃k,ks[i]?=some k/\ko[i]?=some k
 | [],_,_,_,i,o,e,_=>by simp at e
 | .box d f::l,[],ko,h,i,o,e,_=>by cases ko<;>simp[aQ] at h
 | .box d f::l,k::ks,[],h,i,o,e,_=>by simp[aQ] at h
 | .box d f::l,k::ks,c::ko,h,i,o,e,a=>by
  simp only[aQ] at h;split at h
  case h_2=>cases h
  rename_i b;have:=yo b;subst this;cases i with
  | zero=>exact⟨k,by simp,by simp⟩
  | succ i=>simpa using dZ h i o (by simpa using e) a
 | .map es::l,[],ko,h,i,o,e,_=>by cases ko<;>simp[aQ] at h
 | .map es::l,k::ks,[],h,i,o,e,_=>by simp[aQ] at h
 | .map es::l,k::ks,c::ko,h,i,o,e,a=>by
  simp only[aQ] at h;split at h
  case h_2=>cases h
  rename_i b;have:=yo b;subst this;cases i with
  | zero=>exact⟨k,by simp,by simp⟩
  | succ i=>simpa using dZ h i o (by simpa using e) a
 | .win ..::l,[],ko,h,i,o,e,_=>by cases ko<;>simp[aQ] at h
 | .win ..::l,k::ks,[],h,i,o,e,_=>by simp[aQ] at h
 | .win ..::l,k::ks,c::ko,h,i,o,e,a=>by
  simp only[aQ] at h;split at h
  case h_2=>cases h
  rename_i b;have:=yo b;subst this;cases i with
  | zero=>exact⟨k,by simp,by simp⟩
  | succ i=>simpa using dZ h i o (by simpa using e) a
 | .row ..::l,k::ks,c::ko,h,i,o,e,a=>by
  simp only[aQ] at h;cases i with
  | zero =>
   simp only[Xg,WY] at e;subst e;cases a
  | succ i=>simpa using dZ h i o (by simpa using e) a
 | .row ..::l,k::ks,[],h,i,o,e,a=>by
  simp only[aQ] at h;cases i with
  | zero =>
   simp only[Xg,WY] at e;subst e;cases a
  | succ i =>
   obtain⟨c,m,j⟩:=dZ h i o (by simpa using e) a;simp at j
 | .row ..::l,[],ko,h,i,o,e,_=>by simp[aQ] at h
theorem wg {Lin:List TO}{ks ko:List Nat}(h:aQ Lin ks ko=true) (i:Nat) (t:TypeId) (cs:List C) (e:Lin[i]?=some (.box t cs)):∃k,ks[i]?=some k/\ko[i]?=some k:=dZ h i _ e rfl
theorem qo {M:TL}{ks:List Nat}:∀{ko:List Nat},lm M ks ko=true->∀k∈ko,k∈ks\/M.get k=none
 | [],_,k,a=>by simp at a
 | k0::ko,h,k,a=>by
  simp only[lm] at h;rcases W7.1 a with e | e
  ·subst e;split at h
   ·rename_i b;exact .inl (cH.1 b)
   ·rename_i b c;exact .inr c
   ·cases h
  ·split at h
   ·exact qo h k e
   ·exact qo h k e
   ·cases h
theorem cC {ko:List Nat}{Lo:List Own}{L:Loc}(c:ko.Nodup) (d:ko.length=Lo.length) {i k:Nat}{o:Own}(b:ko[i]?=some k) (e:Lo[i]?=some o):(L.puts ko Lo).get k=some o:=by
 rcases cW ko Lo L k c d with⟨_,a⟩ | ⟨h,f,a,_⟩
 ·exact xo (W9 b) a
 ·have:=yd c f b;subst this;rw[a,e]
theorem rB {k:Nat}{t sz:Nat}{els:List (List C)}(h:M.get k=some (.row t sz els)):∀{ks:List Nat},k∈ks->k∈rowsOf M ks
 | [],a=>by cases a
 | j::ks,a=>by
  simp only[rowsOf];rcases W7.1 a with rfl | a
  ·rw[h];simp
  ·split
   ·exact Xv _ (rB h a)
   ·exact rB h a
theorem wh {ks:List Nat}{k:Nat}{o:Own}(e:cO F L M) (f:k∈ks) (h:L.get k=some o) (hb:k∈rowsOf M ks->∃g t cs,o=.box g t cs):∃g t cs,o=.box g t cs:=by
 rcases dR (e k) with⟨d,a⟩ | ⟨q,p,d,a,c⟩
 ·rw[h] at a;cases a
 ·rw[h] at a;injection a with a
  subst a;cases q with
  | row t sz els=>exact hb (rB d f)
  | box t cs =>
   cases o with
   | row=>exact c.elim
   | box g b cs'=>exact⟨g,b,cs',rfl⟩
  | map es =>
   cases o with
   | row=>exact c.elim
   | box g b cs'=>exact⟨g,b,cs',rfl⟩
  | win t pre cs post =>
   cases o with
   | row=>exact c.elim
   | box g b cs'=>exact⟨g,b,cs',rfl⟩
theorem qp {f:Nat}{args:List C}{vs:List Value}{ks ko:List Nat}{Lin:List TO}{R:List TO->C->Prop}{K:TL->aT->C->Prop}(ht:TS G F L ρ M τ) (ha:aB F L args vs)
  (h1:M.sub ks=some Lin) (h2:bE ks=true) (h3:bE ko=true) (h4:lm M ks ko=true) (h5:aQ Lin ks ko=true)
  (h6:CallsT P f (args.map fun c=>c.Wo.ren (cj ks 1000)) (Lin.map (TO.Wj (C.ren (cj ks 1000)))) R)
  (h7:∀v Mo,R Mo v->Wf v->(∀o∈Mo,o.Wf)->ko.length=Mo.length/\K (((M.Wi ks).kills (rowsOf M ks)).puts ko (Mo.map (TO.Wj (C.ren (aW ko))))) (eI (rowsOf M ks) τ) (v.ren (aW ko)).slt) :
  cV P f vs F L (fun F' L' v=>∃M' am c,TS G F' L' ρ M' am/\aN F' L' c (.v v)/\K M' am c):=by
 obtain⟨Li,e1,e2,e3⟩:=pR ht.tl h1;have hn:=cJ h2;have l:=cJ h3;have al:∀k,k∈ko->k∈ks\/L.get k=none:=fun k q=>(qo h4 k q).imp id fun e=>bT ht.tl e;have ba:=dW e1;refine⟨ks,ko,Li,gk Li R,e1,hn,l,al,h6.out F Li vs (by simp[e2]) (rA ht.tl e2 e1 e3) ?_,?_⟩
 ·exact ha.map fun c _ v hc=>(gU hc).ren (mP e1)
 ·rintro v F' Lo hF ⟨Mo,c,q1,q2,q3,q4,q5⟩;have ay:∀o∈Mo,o.Wf:=by
   intro o y;obtain⟨i,hi⟩:=Xr.1 y;have d:i<Lo.length:=by rw[<-q1];exact(W5.1 hi).1
   have:=q2 (1000+i);rw[bZ,aS,j3 (by omega),j3 (by omega),show 1000+i-1000=i by omega,hi,WZ d] at this;exact cN.wf this
  obtain⟨k1,k2⟩:=h7 c Mo q5 q3.wf ay;have a:ko.length=Lo.length:=by rw[k1,q1]
  have b:∀k g t cs,k∈ks->L.get k=some (.box g t cs)->∃cs',Loc.get ((L.Wi ks).puts ko Lo) k=some (.box g t cs'):=by
   intro k g t cs q hg;obtain⟨i,hi⟩:=Xr.1 q;have u:Li[i]?=some (.box g t cs):=by rw[<-ba.2 i k hi];exact hg
   have d:i<Lin.length:=by rw[<-e2];exact(W5.1 u).1
   have hr:=e3 i _ _ (WZ d) u;cases hL:Lin[i] with
   | row=>rw[hL] at hr;exact hr.elim
   | box t' cs' =>
    obtain⟨k',n,b2⟩:=wg h5 i t' cs' (by rw[WZ d,hL]);rw[hi] at n;injection n with n
    subst n;obtain⟨r,s⟩:=q4 i g t cs u;exact⟨r,cC l a b2 s⟩
   | map es =>
    obtain⟨k',n,b2⟩:=dZ h5 i (.map es) (by rw[WZ d,hL]) rfl;rw[hi] at n;injection n with n
    subst n;obtain⟨r,s⟩:=q4 i g t cs u;exact⟨r,cC l a b2 s⟩
   | win t0 p0 c0 q0 =>
    obtain⟨k',n,b2⟩:=dZ h5 i (.win t0 p0 c0 q0) (by rw[WZ d,hL]) rfl;rw[hi] at n;injection n with n
    subst n;obtain⟨r,s⟩:=q4 i g t cs u;exact⟨r,cC l a b2 s⟩
  refine⟨a,b,?_⟩;generalize x:(L.Wi ks).puts ko Lo=L' at b
  -- what was there before
  have ab:∀k,k∉ks->∀o,L.get k=some o->L'.get k=some o:=by
   intro k q o y;rw[<-x];rcases cW ko Lo (L.Wi ks) k l a with⟨z,a2⟩ | ⟨i,z,a2,a3⟩
   ·rw[z,eX,vv q];exact y
   ·rcases al k (W9 z) with e | e
    ·exact xo e q
    ·rw[y] at e;cases e
  have ad:Ext (mr (rowsOf M ks) L) L':=by
   intro k o y;obtain⟨g1,g2⟩:=oq y
   by_cases q:k∈ks
   ·obtain⟨g,t,cs,rfl⟩:=wh ht.tl q g1 g2;obtain⟨cs',h⟩:=b k g t cs q g1;exact⟨_,h,rfl,rfl⟩
   ·exact⟨o,ab k q o g1,Own.Wl o⟩
  have w:∀j m,aW ko j=some m->∀o,(inp Lo).get j=some o->L'.get m=some o:=by
   intro j m hj o y;obtain⟨z,a2⟩:=lK hj;rw[aS,j3 z] at y;rw[<-x];exact cC l a a2 y
  refine⟨_,_,_,⟨fun k=>?_,fun j=>?_,fun k g t e=>?_,ht.glob.mono hF⟩,jm (q3.ren w),k2⟩
  ·rcases lJ ko (Mo.map (TO.Wj (C.ren (aW ko)))) ((M.Wi ks).kills (rowsOf M ks)) k l (by simp[k1]) with⟨z,a2⟩ | ⟨i,z,a2,a3⟩
   ·have ae:L'.get k=(L.Wi ks).get k:=by
     rw[<-x];rcases cW ko Lo (L.Wi ks) k l a with⟨n,_⟩ | ⟨i,n,_,_⟩
     ·exact n
     ·exact xo (W9 n) a2
    rw[z,ae,vZ,nJ,eX];split
    ·trivial
    ·rcases dR (ht.tl k) with⟨c1,c2⟩ | ⟨o,p,c1,c2,hr⟩
     ·rw[c1,c2];trivial
     ·rw[c1,c2];exact(hr.kills (rowsOf M ks)).ext hF ad
   ·rw[a2,XH];have d:i<Mo.length:=by simpa using a3
    have aa:i<Lo.length:=by omega
    have ae:L'.get k=some (Lo[i]):=by rw[<-x];exact cC l a z (WZ aa)
    rw[ae,WZ d];have:=q2 (1000+i);rw[bZ,aS,j3 (by omega),j3 (by omega),show 1000+i-1000=i by omega,WZ d,WZ aa] at this;exact cN.ren w this
  ·rw[v9];exact((ht.env j).kills (rowsOf M ks)).ext hF ad
  ·obtain⟨cs,h⟩:=ht.kp k g t e
   by_cases q:k∈ks
   ·exact b k g t cs q h
   ·exact⟨cs,ab k q _ h⟩
theorem tC {f:Nat}{args:List C}{vs:List Value}{ks:List Nat}{Lin:List TO}{R:List TO->C->Prop}{K:TL->aT->C->Prop}(ht:TS G F L ρ M τ) (ha:aB F L args vs)
  (h1:M.sub ks=some Lin) (h2:bE ks=true) (h6:zy P f (args.map fun c=>c.Wo.ren (cj ks 1000)) (Lin.map (TO.Wj (C.ren (cj ks 1000)))) R)
  (h7:∀v Mo,R Mo v->Wf v->(∀o∈Mo,o.Wf)->ks.length=Mo.length/\K ((M.Wi ks).puts ks (Mo.map (TO.Wj (C.ren (aW ks))))) τ (v.ren (aW ks)).slt) :
  cV P f vs F L (fun F' L' v=>∃M' ad c,TS G F' L' ρ M' ad/\aN F' L' c (.v v)/\K M' ad c):=by
 obtain⟨Li,e1,e2,e3⟩:=pR ht.tl h1;have r:=cJ h2;have ae:=dW e1;refine⟨ks,ks,Li,_,e1,r,r,fun k d=>.inl d,h6.out F Li vs (by simp[e2]) (rA ht.tl e2 e1 e3) ?_,?_⟩
 ·exact ha.map fun c _ v hc=>(gU hc).ren (mP e1)
 ·rintro v F' Lo hF ⟨⟨Mo,c,q1,q2,q3,q4,q5⟩,bi,an⟩;have ar:∀o∈Mo,o.Wf:=by
   intro o s;obtain⟨i,hi⟩:=Xr.1 s;have q:i<Lo.length:=by rw[<-q1];exact(W5.1 hi).1
   have:=q2 (1000+i);rw[bZ,aS,j3 (by omega),j3 (by omega),show 1000+i-1000=i by omega,hi,WZ q] at this;exact cN.wf this
  obtain⟨k1,k2⟩:=h7 c Mo q5 q3.wf ar;have a:ks.length=Lo.length:=by rw[k1,q1]
  have b:∀k g t cs,k∈ks->L.get k=some (.box g t cs)->∃cs',Loc.get ((L.Wi ks).puts ks Lo) k=some (.box g t cs'):=by
   intro k g t cs d hg;obtain⟨i,hi⟩:=Xr.1 d;have ab:Li[i]?=some (.box g t cs):=by rw[<-ae.2 i k hi];exact hg
   obtain⟨av,aw⟩:=q4 i g t cs ab;exact⟨av,cC r a hi aw⟩
  refine⟨a,b,?_⟩;generalize l:(L.Wi ks).puts ks Lo=L' at b;have x:∀k,k∉ks->∀o,L.get k=some o->L'.get k=some o:=by
   intro k d o s;rw[<-l];rcases cW ks Lo (L.Wi ks) k r a with⟨u,a2⟩ | ⟨i,u,a2,a3⟩
   ·rw[u,eX,vv d];exact s
   ·exact xo (W9 u) d
  have y:Ext L L':=by
   intro k o s
   by_cases d:k∈ks
   ·obtain⟨i,hi⟩:=Xr.1 d;have ab:Li[i]?=some o:=by rw[<-ae.2 i k hi];exact s
    obtain⟨o',h1,h2⟩:=an i o ab;exact⟨o',by rw[<-l];exact cC r a hi h1,h2⟩
   ·exact⟨o,x k d o s,Own.Wl o⟩
  have n:∀j m,aW ks j=some m->∀o,(inp Lo).get j=some o->L'.get m=some o:=by
   intro j m hj o s;obtain⟨u,a2⟩:=lK hj;rw[aS,j3 u] at s;rw[<-l];exact cC r a a2 s
  refine⟨_,_,_,⟨fun k=>?_,fun j=>(ht.env j).ext hF y,fun k g t e=>?_,ht.glob.mono hF⟩,jm (q3.ren n),k2⟩
  ·rcases lJ ks (Mo.map (TO.Wj (C.ren (aW ks)))) (M.Wi ks) k r (by simp[k1]) with⟨u,a2⟩ | ⟨i,u,a2,a3⟩
   ·have z:L'.get k=(L.Wi ks).get k:=by
     rw[<-l];rcases cW ks Lo (L.Wi ks) k r a with⟨b1,_⟩ | ⟨i,b1,_,_⟩
     ·exact b1
     ·exact xo (W9 b1) a2
    rw[u,z,nJ,eX];split
    ·trivial
    ·rcases dR (ht.tl k) with⟨c1,c2⟩ | ⟨o,p,c1,c2,hr⟩
     ·rw[c1,c2];trivial
     ·rw[c1,c2];exact hr.ext hF y
   ·rw[a2,XH];have q:i<Mo.length:=by simpa using a3
    have w:i<Lo.length:=by omega
    have z:L'.get k=some (Lo[i]):=by rw[<-l];exact cC r a u (WZ w)
    rw[z,WZ q];have:=q2 (1000+i);rw[bZ,aS,j3 (by omega),j3 (by omega),show 1000+i-1000=i by omega,WZ q,WZ w] at this;exact cN.ren n this
  ·obtain⟨cs,h⟩:=ht.kp k g t e
   by_cases d:k∈ks
   ·exact b k g t cs d h
   ·exact⟨cs,x k d _ h⟩
theorem qq {ks:List Nat}:∀{ko:List Nat},(∀k∈ko,k∈ks)->lm M ks ko=true
 | [],_=>rfl
 | k::ko,h=>by
  simp only[lm,cH.2 (h k (by simp))];exact qq fun j a=>h j (by simp[a])
def P8 (hb:List (Nat×Nat)) (L:Loc):Prop:=∀k n,(k,n)∈hb->∃g t cs,L.get k=some (.box g t cs)/\cs.length=n
def G6 (F':aA) (L':Loc) (M':TL):Prop:=∀k o,M'.get k=some o->∃p,L'.get k=some p/\cN F' L' o p
theorem yG {F':aA}{L':Loc}{M':TL}(h:cO F' L' M'):G6 F' L' M':=fun k o e=>by
 rcases dR (h k) with⟨a,b⟩ | ⟨o',p,a,b,c⟩
 ·rw[e] at a;cases a
 ·rw[e] at a;injection a with a
  subst a;exact⟨p,b,c⟩
def G7 (PS:oV) (F':aA) (L':Loc) (v:Value):Prop:=∀s,PS.st=some s->∃M',G6 F' L' M'/\s M' v
theorem G7.no {PS:oV}(h:PS.st=none) {F':aA}{L':Loc}{v:Value}:G7 PS F' L' v:=fun s e=>by rw[h] at e;cases e
def xu (G:Nat->Option (Nat×TypeId)) (PS:oV) (F':aA) (L':Loc) (v:Value):Prop:=Kp G L'/\PS.ps v/\P8 PS.hb L'/\G7 PS F' L' v
theorem Bh:∀{hb:List (Nat×Nat)}{ks:List Nat},kR M ks hb=true->∀k n,(k,n)∈hb->k∉ks/\∃t cs,M.get k=some (.box t cs)/\cs.length=n
 | [],ks,_,k,n,h=>by cases h
 | (j,m)::l,ks,h,k,n,a=>by
  simp only[kR] at h;split at h
  case h_2=>cases h
  rename_i t cs b c;split at h
  case h_2=>cases h
  rename_i f;rcases W7.1 a with e | a
  ·simp only[Prod.mk.injEq] at e;obtain⟨rfl,rfl⟩:=e;exact⟨fun d=>(by rw[cH.2 d] at b;cases b),t,cs,c,br f⟩
  ·exact Bh h k n a
theorem G8 {hb:List (Nat×Nat)}{ks:List Nat}{L':Loc}(b:cO F L M) (h:kR M ks hb=true) (c:∀k g t cs,k∉ks->L.get k=some (.box g t cs)->L'.get k=some (.box g t cs)):P8 hb L':=by
 intro k n f;obtain⟨d,t,cs,j,e⟩:=Bh h k n f;obtain⟨g,ty,vs,l,a,_⟩:=jT b j;exact⟨g,ty,vs,c k g ty vs d l,by rw[a.len,e]⟩
theorem uS {ks ko:List Nat}{Lin:List TO}{Li:List Own}{R:List TO->C->Prop}{K:TL->aT->C->Prop}(ht:TS G F L ρ M τ)
  (h2:bE ks=true) (h3:bE ko=true) (h4:lm M ks ko=true) (h5:aQ Lin ks ko=true) (e1:L.sub ks=some Li) (e2:Li.length=Lin.length) (e3:∀(i:Nat) o p,Lin[i]?=some o->Li[i]?=some p->cN F L o p)
  (h7:∀v Mo,R Mo v->Wf v->(∀o∈Mo,o.Wf)->ko.length=Mo.length/\K (((M.Wi ks).kills (rowsOf M ks)).puts ko (Mo.map (TO.Wj (C.ren (aW ko))))) (eI (rowsOf M ks) τ) (v.ren (aW ko)).slt) :
  ∀v F' Lo,F.le F'->gk Li R F' Lo v->ko.length=Lo.length/\(∀k g t cs,k∈ks->L.get k=some (.box g t cs)->∃cs',Loc.get ((L.Wi ks).puts ko Lo) k=some (.box g t cs')) /\
   ∃M' ag c,TS G F' ((L.Wi ks).puts ko Lo) ρ M' ag/\aN F' ((L.Wi ks).puts ko Lo) c (.v v)/\K M' ag c:=by
 have hn:=cJ h2;have l:=cJ h3;have ar:∀k,k∈ko->k∈ks\/L.get k=none:=fun k n=>(qo h4 k n).imp id fun e=>bT ht.tl e;have az:=dW e1;rintro v F' Lo hF ⟨Mo,c,q1,q2,q3,q4,q5⟩;have aw:∀o∈Mo,o.Wf:=by
  intro o x;obtain⟨i,hi⟩:=Xr.1 x;have d:i<Lo.length:=by rw[<-q1];exact(W5.1 hi).1
  have:=q2 (1000+i);rw[bZ,aS,j3 (by omega),j3 (by omega),show 1000+i-1000=i by omega,hi,WZ d] at this;exact cN.wf this
 obtain⟨k1,k2⟩:=h7 c Mo q5 q3.wf aw;have a:ko.length=Lo.length:=by rw[k1,q1]
 have b:∀k g t cs,k∈ks->L.get k=some (.box g t cs)->∃cs',Loc.get ((L.Wi ks).puts ko Lo) k=some (.box g t cs'):=by
  intro k g t cs n hg;obtain⟨i,hi⟩:=Xr.1 n;have s:Li[i]?=some (.box g t cs):=by rw[<-az.2 i k hi];exact hg
  have d:i<Lin.length:=by rw[<-e2];exact(W5.1 s).1
  have hr:=e3 i _ _ (WZ d) s;cases hL:Lin[i] with
  | row=>rw[hL] at hr;exact hr.elim
  | box t' cs' =>
   obtain⟨k',f,b2⟩:=wg h5 i t' cs' (by rw[WZ d,hL]);rw[hi] at f;injection f with f
   subst f;obtain⟨q,r⟩:=q4 i g t cs s;exact⟨q,cC l a b2 r⟩
  | map es =>
   obtain⟨k',f,b2⟩:=dZ h5 i (.map es) (by rw[WZ d,hL]) rfl;rw[hi] at f;injection f with f
   subst f;obtain⟨q,r⟩:=q4 i g t cs s;exact⟨q,cC l a b2 r⟩
  | win t0 p0 c0 q0 =>
   obtain⟨k',f,b2⟩:=dZ h5 i (.win t0 p0 c0 q0) (by rw[WZ d,hL]) rfl;rw[hi] at f;injection f with f
   subst f;obtain⟨q,r⟩:=q4 i g t cs s;exact⟨q,cC l a b2 r⟩
 refine⟨a,b,?_⟩;generalize w:(L.Wi ks).puts ko Lo=L' at b
 -- what was there before
 have aa:∀k,k∉ks->∀o,L.get k=some o->L'.get k=some o:=by
  intro k n o x;rw[<-w];rcases cW ko Lo (L.Wi ks) k l a with⟨y,a2⟩ | ⟨i,y,a2,a3⟩
  ·rw[y,eX,vv n];exact x
  ·rcases ar k (W9 y) with e | e
   ·exact xo e n
   ·rw[x] at e;cases e
 have ab:Ext (mr (rowsOf M ks) L) L':=by
  intro k o x;obtain⟨g1,g2⟩:=oq x
  by_cases n:k∈ks
  ·obtain⟨g,t,cs,rfl⟩:=wh ht.tl n g1 g2;obtain⟨cs',h⟩:=b k g t cs n g1;exact⟨_,h,rfl,rfl⟩
  ·exact⟨o,aa k n o g1,Own.Wl o⟩
 have u:∀j m,aW ko j=some m->∀o,(inp Lo).get j=some o->L'.get m=some o:=by
  intro j m hj o x;obtain⟨y,a2⟩:=lK hj;rw[aS,j3 y] at x;rw[<-w];exact cC l a a2 x
 refine⟨_,_,_,⟨fun k=>?_,fun j=>?_,fun k g t e=>?_,ht.glob.mono hF⟩,jm (q3.ren u),k2⟩
 ·rcases lJ ko (Mo.map (TO.Wj (C.ren (aW ko)))) ((M.Wi ks).kills (rowsOf M ks)) k l (by simp[k1]) with⟨y,a2⟩ | ⟨i,y,a2,a3⟩
  ·have ac:L'.get k=(L.Wi ks).get k:=by
    rw[<-w];rcases cW ko Lo (L.Wi ks) k l a with⟨f,_⟩ | ⟨i,f,_,_⟩
    ·exact f
    ·exact xo (W9 f) a2
   rw[y,ac,vZ,nJ,eX];split
   ·trivial
   ·rcases dR (ht.tl k) with⟨c1,c2⟩ | ⟨o,p,c1,c2,hr⟩
    ·rw[c1,c2];trivial
    ·rw[c1,c2];exact(hr.kills (rowsOf M ks)).ext hF ab
  ·rw[a2,XH];have d:i<Mo.length:=by simpa using a3
   have z:i<Lo.length:=by omega
   have ac:L'.get k=some (Lo[i]):=by rw[<-w];exact cC l a y (WZ z)
   rw[ac,WZ d];have:=q2 (1000+i);rw[bZ,aS,j3 (by omega),j3 (by omega),show 1000+i-1000=i by omega,WZ d,WZ z] at this;exact cN.ren u this
 ·rw[v9];exact((ht.env j).kills (rowsOf M ks)).ext hF ab
 ·obtain⟨cs,h⟩:=ht.kp k g t e
  by_cases n:k∈ks
  ·exact b k g t cs n h
  ·exact⟨cs,aa k n _ h⟩
theorem wj {PS:oV}{Pp:Value->Prop}{f:Nat}{args:List C}{vs:List Value}{ks ko:List Nat}{Lin:List TO}{R:List TO->C->Prop}{K:TL->aT->C->Prop}(a:TS G F L ρ M τ) (ha:aB F L args vs)
  (h1:M.sub ks=some Lin) (y:bE ks=true) (x:bE ko=true) (w:lm M ks ko=true) (h5:aQ Lin ks ko=true) (u:kR M ks PS.hb=true)
  (h6:CallsTX P f (args.map fun c=>c.Wo.ren (cj ks 1000)) (Lin.map (TO.Wj (C.ren (cj ks 1000)))) R Pp) (r:∀v,Pp v->PS.ps v) (l:PS.st=none)
  (h7:∀v Mo,R Mo v->Wf v->(∀o∈Mo,o.Wf)->ko.length=Mo.length/\K (((M.Wi ks).kills (rowsOf M ks)).puts ko (Mo.map (TO.Wj (C.ren (aW ko))))) (eI (rowsOf M ks) τ) (v.ren (aW ko)).slt) :
  ∃Li,L.sub ks=some Li/\ks.Nodup/\ko.Nodup/\(∀k,k∈ko->k∈ks\/L.get k=none)/\sO P f vs.toArray F Li (gk Li R) Pp/\(∀v F' L',vI ks L L'->Pp v->xu G PS F' L' v) /\
  ∀v F' Lo,F.le F'->gk Li R F' Lo v->ko.length=Lo.length/\(∀k g t cs,k∈ks->L.get k=some (.box g t cs)->∃cs',Loc.get ((L.Wi ks).puts ko Lo) k=some (.box g t cs')) /\
   ∃M' d c,TS G F' ((L.Wi ks).puts ko Lo) ρ M' d/\aN F' ((L.Wi ks).puts ko Lo) c (.v v)/\K M' d c:=by
 obtain⟨Li,b,s,z⟩:=pR a.tl h1;have hn:=cJ y;have p:=cJ x;have n:∀k,k∈ko->k∈ks\/L.get k=none:=fun k m=>(qo w k m).imp id fun e=>bT a.tl e;have ag:=dW b;refine⟨Li,b,hn,p,n,h6.out F Li vs (by simp[s]) (rA a.tl s b z) ?_,fun v F' L' j hv=>⟨fun k g t e=>let⟨cs,h⟩:=a.kp k g t e;let⟨cs',h',_⟩:=j k g t cs h;⟨cs',h'⟩,r v hv,G8 a.tl u fun k g t cs m e=>let⟨cs',h',q⟩:=j k g t cs e;by rw[h',q m],G7.no l⟩,?_⟩
 ·exact ha.map fun c _ v hc=>(gU hc).ren (mP b)
 ·exact uS a y x w h5 b s z h7
theorem yH {PS:oV}{Pp:Value->Prop}{f:Nat}{args:List C}{vs:List Value}{ks ko:List Nat}{Lin:List TO}{R:List TO->C->Prop}{K:TL->aT->C->Prop}(j:TS G F L ρ M τ) (k:aB F L args vs)
  (q:M.sub ks=some Lin) (w:bE ks=true) (u:bE ko=true) (s:lm M ks ko=true) (y:aQ Lin ks ko=true) (e:kR M ks PS.hb=true)
  (p:CallsTX P f (args.map fun c=>c.Wo.ren (cj ks 1000)) (Lin.map (TO.Wj (C.ren (cj ks 1000)))) R Pp) (d:∀v,Pp v->PS.ps v) (b:PS.st=none)
  (m:∀v Mo,R Mo v->Wf v->(∀o∈Mo,o.Wf)->ko.length=Mo.length/\K (((M.Wi ks).kills (rowsOf M ks)).puts ko (Mo.map (TO.Wj (C.ren (aW ko))))) (eI (rowsOf M ks) τ) (v.ren (aW ko)).slt) :
  eG P (xu G PS) f vs F L (fun F' L' v=>∃M' a c,TS G F' L' ρ M' a/\aN F' L' c (.v v)/\K M' a c):=by
 obtain⟨Li,n,t,l,r,x,z,h⟩:=wj j k q w u s y e p d b m;exact⟨ks,ko,Li,gk Li R,fun _ _=>Pp,n,t,l,r,x.toS,fun v F' Lo _ _ hb hp=>z v F' _ hb hp,h⟩
theorem iq:∀{Lin:List TO}{ks ko:List Nat},aQ Lin ks ko=true->aQ Lin ks ks=true
 | [],ks,ko,h=>by simp only[aQ]
 | .box t cs::l,[],ko,h=>by simp only[aQ] at h;cases h
 | .map es::l,[],ko,h=>by simp only[aQ] at h;cases h
 | .win ..::l,[],ko,h=>by simp only[aQ] at h;cases h
 | .row t sz els::l,[],ko,h=>by simp only[aQ] at h;cases h
 | .box t cs::l,k::ks,[],h=>by simp only[aQ] at h;cases h
 | .map es::l,k::ks,[],h=>by simp only[aQ] at h;cases h
 | .win ..::l,k::ks,[],h=>by simp only[aQ] at h;cases h
 | .box t cs::l,k::ks,a::ko,h=>by
  have e:Nat.beq k k=true:=by simp
  simp only[aQ] at h ⊢;split at h
  ·rw[e];exact iq h
  ·cases h
 | .map es::l,k::ks,a::ko,h=>by
  have e:Nat.beq k k=true:=by simp
  simp only[aQ] at h ⊢;split at h
  ·rw[e];exact iq h
  ·cases h
 | .win ..::l,k::ks,a::ko,h=>by
  have e:Nat.beq k k=true:=by simp
  simp only[aQ] at h ⊢;split at h
  ·rw[e];exact iq h
  ·cases h
 | .row t sz els::l,k::ks,[],h=>by
  simp only[aQ] at h ⊢;exact iq h
 | .row t sz els::l,k::ks,a::ko,h=>by
  simp only[aQ] at h ⊢;exact iq h
theorem CD {PS:oV}{Pp:Value->Prop}{f:Nat}{args:List C}{vs:List Value}{ks:List Nat}{Lin:List TO}{R:List TO->C->Prop}{K:TL->aT->C->Prop}(z:TS G F L ρ M τ) (ha:aB F L args vs)
  (h1:M.sub ks=some Lin) (h2:bE ks=true) (h6:kh P f (args.map fun c=>c.Wo.ren (cj ks 1000)) (Lin.map (TO.Wj (C.ren (cj ks 1000)))) R Pp) (ba:∀v,Pp v->PS.ps v) (ar:PS.st=none) (bc:kR M ks PS.hb=true)
  (h7:∀v Mo,R Mo v->Wf v->(∀o∈Mo,o.Wf)->ks.length=Mo.length/\K ((M.Wi ks).puts ks (Mo.map (TO.Wj (C.ren (aW ks))))) τ (v.ren (aW ks)).slt) :
  eG P (xu G PS) f vs F L (fun F' L' v=>∃M' ae c,TS G F' L' ρ M' ae/\aN F' L' c (.v v)/\K M' ae c):=by
 obtain⟨Li,e1,e2,e3⟩:=pR z.tl h1;have s:=cJ h2;have ag:=dW e1;refine⟨ks,ks,Li,_,fun _ _=>Pp,e1,s,s,fun k d=>.inl d,(h6.out F Li vs (by simp[e2]) (rA z.tl e2 e1 e3) ?_).toS,fun v F' Lo _ _ al hv=>⟨fun k g t e=>let⟨cs,h⟩:=z.kp k g t e;let⟨cs',h',_⟩:=al k g t cs h;⟨cs',h'⟩,ba v hv,G8 z.tl bc fun k g t cs d e=>let⟨cs',h',q⟩:=al k g t cs e;by rw[h',q d],G7.no ar⟩,?_⟩
 ·exact ha.map fun c _ v hc=>(gU hc).ren (mP e1)
 ·rintro v F' Lo hF ⟨⟨Mo,c,q1,q2,q3,q4,q5⟩,bo,ap⟩;have ax:∀o∈Mo,o.Wf:=by
   intro o u;obtain⟨i,hi⟩:=Xr.1 u;have r:i<Lo.length:=by rw[<-q1];exact(W5.1 hi).1
   have:=q2 (1000+i);rw[bZ,aS,j3 (by omega),j3 (by omega),show 1000+i-1000=i by omega,hi,WZ r] at this;exact cN.wf this
  obtain⟨k1,k2⟩:=h7 c Mo q5 q3.wf ax;have a:ks.length=Lo.length:=by rw[k1,q1]
  have b:∀k g t cs,k∈ks->L.get k=some (.box g t cs)->∃cs',Loc.get ((L.Wi ks).puts ks Lo) k=some (.box g t cs'):=by
   intro k g t cs d hg;obtain⟨i,hi⟩:=Xr.1 d;have ad:Li[i]?=some (.box g t cs):=by rw[<-ag.2 i k hi];exact hg
   obtain⟨ay,az⟩:=q4 i g t cs ad;exact⟨ay,cC s a hi az⟩
  refine⟨a,b,?_⟩;generalize l:(L.Wi ks).puts ks Lo=L' at b;have y:∀k,k∉ks->∀o,L.get k=some o->L'.get k=some o:=by
   intro k d o u;rw[<-l];rcases cW ks Lo (L.Wi ks) k s a with⟨w,a2⟩ | ⟨i,w,a2,a3⟩
   ·rw[w,eX,vv d];exact u
   ·exact xo (W9 w) d
  have aa:Ext L L':=by
   intro k o u
   by_cases d:k∈ks
   ·obtain⟨i,hi⟩:=Xr.1 d;have ad:Li[i]?=some o:=by rw[<-ag.2 i k hi];exact u
    obtain⟨o',h1,h2⟩:=ap i o ad;exact⟨o',by rw[<-l];exact cC s a hi h1,h2⟩
   ·exact⟨o,y k d o u,Own.Wl o⟩
  have n:∀j m,aW ks j=some m->∀o,(inp Lo).get j=some o->L'.get m=some o:=by
   intro j m hj o u;obtain⟨w,a2⟩:=lK hj;rw[aS,j3 w] at u;rw[<-l];exact cC s a a2 u
  refine⟨_,_,_,⟨fun k=>?_,fun j=>(z.env j).ext hF aa,fun k g t e=>?_,z.glob.mono hF⟩,jm (q3.ren n),k2⟩
  ·rcases lJ ks (Mo.map (TO.Wj (C.ren (aW ks)))) (M.Wi ks) k s (by simp[k1]) with⟨w,a2⟩ | ⟨i,w,a2,a3⟩
   ·have ab:L'.get k=(L.Wi ks).get k:=by
     rw[<-l];rcases cW ks Lo (L.Wi ks) k s a with⟨b1,_⟩ | ⟨i,b1,_,_⟩
     ·exact b1
     ·exact xo (W9 b1) a2
    rw[w,ab,nJ,eX];split
    ·trivial
    ·rcases dR (z.tl k) with⟨c1,c2⟩ | ⟨o,p,c1,c2,hr⟩
     ·rw[c1,c2];trivial
     ·rw[c1,c2];exact hr.ext hF aa
   ·rw[a2,XH];have r:i<Mo.length:=by simpa using a3
    have x:i<Lo.length:=by omega
    have ab:L'.get k=some (Lo[i]):=by rw[<-l];exact cC s a w (WZ x)
    rw[ab,WZ r];have:=q2 (1000+i);rw[bZ,aS,j3 (by omega),j3 (by omega),show 1000+i-1000=i by omega,WZ r,WZ x] at this;exact cN.ren n this
  ·obtain⟨cs,h⟩:=z.kp k g t e
   by_cases d:k∈ks
   ·exact b k g t cs d h
   ·exact⟨cs,y k d _ h⟩
theorem yI {ps:Value->Prop}{hb:List (Nat×Nat)}{st:TL->Value->Prop}{PS:oV}{Pp:List TO->Value->Prop}{f:Nat}{args:List C}{vs:List Value}{ks ko:List Nat}{Lin:List TO}{R:List TO->C->Prop}{K:TL->aT->C->Prop}(j:TS G F L ρ M τ) (ha:aB F L args vs)
  (z:PS=⟨ps,hb,some st⟩) (h1:M.sub ks=some Lin) (m:bE ks=true) (h3:bE ko=true) (h4:lm M ks ko=true) (h5:aQ Lin ks ko=true) (al:kR M ks hb=true)
  (h6:CallsTS P f (args.map fun c=>c.Wo.ren (cj ks 1000)) (Lin.map (TO.Wj (C.ren (cj ks 1000)))) R Pp)
  (ae:∀v Mo,Pp Mo v->(∀o∈Mo,o.Wf)->ks.length=Mo.length->ps v/\st (((M.Wi ks).kills (rowsOf M ks)).puts ks (Mo.map (TO.Wj (C.ren (aW ks))))) v)
  (h7:∀v Mo,R Mo v->Wf v->(∀o∈Mo,o.Wf)->ko.length=Mo.length/\K (((M.Wi ks).kills (rowsOf M ks)).puts ko (Mo.map (TO.Wj (C.ren (aW ko))))) (eI (rowsOf M ks) τ) (v.ren (aW ko)).slt) :
  eG P (xu G PS) f vs F L (fun F' L' v=>∃M' d c,TS G F' L' ρ M' d/\aN F' L' c (.v v)/\K M' d c):=by
 subst z;obtain⟨Li,l,x,e3⟩:=pR j.tl h1;have hn:=cJ m;have ac:=cJ h3;have aa:∀k,k∈ko->k∈ks\/L.get k=none:=fun k u=>(qo h4 k u).imp id fun e=>bT j.tl e;obtain⟨ag,ab⟩:=dW l;refine⟨ks,ko,Li,gk Li R,_,l,hn,ac,aa,h6.out F Li vs (by simp[x]) (rA j.tl x l e3) (ha.map fun c _ v hc=>(gU hc).ren (mP l)),?_,uS j m h3 h4 h5 l x e3 h7⟩;rintro v F' Lo hF r w ⟨Mo,q1,q2,q3⟩;have ad:∀o∈Mo,o.Wf:=by
  intro o ho;obtain⟨i,hi⟩:=Xr.1 ho;have a:i<Lo.length:=by rw[<-q1];exact(W5.1 hi).1
  have:=q2 (1000+i);rw[bZ,aS,j3 (by omega),j3 (by omega),show 1000+i-1000=i by omega,hi,WZ a] at this;exact cN.wf this
 obtain⟨p1,p2⟩:=ae v Mo q3 ad (by omega);have p:gk Li (fun Mo' _=>Mo'=Mo) F' Lo undef:=by
  refine⟨Mo,.any,q1,q2,by simp only[Rel],fun i g t cs e=>?_,rfl⟩;have a:i<ks.length:=by rw[<-ag];exact(W5.1 e).1
  have n:=ab i _ (WZ a);rw[e] at n;obtain⟨cs',h,_⟩:=w _ g t cs n;have m:Loc.get ((L.Wi ks).puts ks Lo) ks[i]=Lo[i]?:=by
   have b:i<Lo.length:=by omega
   rw[WZ b];exact cC hn r (WZ a) (WZ b)
  exact⟨cs',by rw[<-m];exact h⟩
 have y:aQ Lin ks ks=true:=iq h5;obtain⟨_,_,M',d,c,t1,_,rfl⟩:=uS (K:=fun M' _ _=>M'=((M.Wi ks).kills (rowsOf M ks)).puts ks (Mo.map (TO.Wj (C.ren (aW ks))))) j m m (qq fun k u=>u) y l x e3
  (fun v' Mo' e _ _=>by subst e;exact⟨by omega,rfl⟩) undef F' Lo hF p
 exact⟨t1.kp,p1,G8 j.tl al fun k g t cs u e=>(let⟨cs',h',q⟩:=w k g t cs e;by rw[h',q u]),fun s e=>by injection e with e;subst e;exact⟨_,yG t1.tl,p2⟩⟩
theorem TS.same {L2:Loc}(b:TS G F L ρ M τ) (a:L.sameAs L2):TS G F L2 ρ M τ:=by
 have f:Ext L L2:=fun k o e=>⟨o,by rw[a k];exact e,Own.Wl o⟩;refine⟨fun k=>?_,fun j=>(b.env j).ext (aA.le_refl F) f,fun k g t e=>?_,b.glob⟩
 ·rcases dR (b.tl k) with⟨d,c⟩ | ⟨o,p,d,c,l⟩
  ·rw[a k,d,c];trivial
  ·rw[a k,d,c];exact l.ext (aA.le_refl F) f
 ·obtain⟨cs,h⟩:=b.kp k g t e;exact⟨cs,by rw[a k];exact h⟩
theorem wk:∀{ks a:List Nat},vR ks a=true->∀k∈ks,k∉a
 | [],a,_,k,h=>by cases h
 | j::ks,a,h,k,b=>by
  simp only[vR] at h;split at h
  ·cases h
  ·rename_i c;rcases W7.1 b with rfl | b
   ·intro d;rw[cH.2 d] at c;cases c
   ·exact wk h k b
theorem ou {PS:oV}{n:List Nat}{f:Nat}{args:List C}{vs:List Value}{K:TL->aT->C->Prop}(x:TS G F L ρ M τ) (ha:aB F L args vs) (h:mN P PS n f args M τ K) (d:PS.st=none) :
  CallXDPt P (xu G PS) n f vs F L (fun F' L' v=>∃M' b c,TS G F' L' ρ M' b/\aN F' L' c (.v v)/\K M' b c):=by
 obtain⟨ks,Lin,R,Pp,h1,s,z,h5,m,h6,j,h7⟩:=h;have h4:lm M ks ks=true:=qq (fun k y=>y);obtain⟨Li,q1,p,q3,q4,q5,q6,w⟩:=wj x ha h1 s s h4 h5 m h6 j d h7;refine⟨ks,Li,gk Li R,fun _ _=>Pp,q1,p,wk z,q5.toS,fun v F' L' Lo _ _ l hp=>q6 v F' L' l hp,fun v F' Lo hF r=>?_⟩;obtain⟨q,a2,M',b,c,a3,a4,u⟩:=w v F' Lo hF r;have a:=lI (L:=L) p q;refine⟨q,fun i g t cs e=>?_,fun _=>⟨M',b,c,a3.same a,a4.ext (aA.le_refl F') fun k o e=>⟨o,by rw[a k];exact e,Own.Wl o⟩,u⟩⟩;obtain⟨Mo,c',_,_,_,b4,_⟩:=r;exact b4 i g t cs e
theorem pT {ps:Value->Prop}{hb:List (Nat×Nat)}{st:TL->Value->Prop}{PS:oV}{fb:List Nat}{f:Nat}{args:List C}{vs:List Value}{K:TL->aT->C->Prop}(u:TS G F L ρ M τ) (ha:aB F L args vs) (ac:PS=⟨ps,hb,some st⟩) (h:uP P ps hb st fb f args M τ K) :
  CallXDPt P (xu G PS) fb f vs F L (fun F' L' v=>∃M' d c,TS G F' L' ρ M' d/\aN F' L' c (.v v)/\K M' d c):=by
 subst ac;obtain⟨ks,Lin,R,Pp,h1,h2,h0,h5,an,h6,al,h7⟩:=h;have h4:lm M ks ks=true:=qq (fun k b=>b);obtain⟨Li,y,e2,e3⟩:=pR u.tl h1;have hn:=cJ h2;obtain⟨bb,bp⟩:=dW y;refine⟨ks,Li,gk Li R,_,y,hn,wk h0,h6.out F Li vs (by simp[e2]) (rA u.tl e2 y e3) (ha.map fun c _ v hc=>(gU hc).ren (mP y)),?_,fun v F' Lo hF hR=>?_⟩
 ·rintro v F' L' Lo hF ad x ⟨Mo,q1,q2,q3⟩;have ab:∀o∈Mo,o.Wf:=by
   intro o z;obtain⟨i,hi⟩:=Xr.1 z;have l:i<Lo.length:=by rw[<-q1];exact(W5.1 hi).1
   have:=q2 (1000+i);rw[bZ,aS,j3 (by omega),j3 (by omega),show 1000+i-1000=i by omega,hi,WZ l] at this;exact cN.wf this
  obtain⟨y1,y2⟩:=dW ad;obtain⟨p1,p2⟩:=al v Mo q3 ab (by omega);have r:∀j m,aW ks j=some m->∀o,(inp Lo).get j=some o->L'.get m=some o:=by
   intro j m hj o z;obtain⟨p,w⟩:=lK hj;rw[aS,j3 p] at z;rw[y2 _ _ w];exact z
  refine⟨fun k g t e=>let⟨cs,h⟩:=u.kp k g t e;let⟨cs',h',_⟩:=x k g t cs h;⟨cs',h'⟩,p1,G8 u.tl an fun k g t cs b e=>(let⟨cs',h',q⟩:=x k g t cs e;by rw[h',q b]),fun s e=>?_⟩;injection e with e
  subst e;refine⟨_,fun k o b=>?_,p2⟩;rcases lJ ks (Mo.map (TO.Wj (C.ren (aW ks)))) [] k hn (by simp;omega) with⟨p,w⟩ | ⟨i,p,w,a3⟩
  ·rw[p] at b;cases b
  ·rw[w,XH] at b;have l:i<Mo.length:=by simpa using a3
   have n:i<Lo.length:=by omega
   rw[WZ l] at b;injection b with b
   subst b;refine⟨Lo[i],by rw[y2 _ _ p];exact WZ n,?_⟩;have:=q2 (1000+i);rw[bZ,aS,j3 (by omega),j3 (by omega),show 1000+i-1000=i by omega,WZ l,WZ n] at this;exact cN.ren r this
 ·obtain⟨p,w,M',d,c,a3,a4,a5⟩:=uS u h2 h2 h4 h5 y e2 e3 h7 v F' Lo hF hR;have a:=lI (L:=L) hn p;refine⟨p,fun i g t cs e=>?_,fun _=>⟨M',d,c,a3.same a,a4.ext (aA.le_refl F') fun k o e=>⟨o,by rw[a k];exact e,Own.Wl o⟩,a5⟩⟩;obtain⟨Mo,c',_,_,_,b4,_⟩:=hR;exact b4 i g t cs e
end
section
variable {P:Program}{G:Nat->Option (Nat×TypeId)}{F:aA}{L:Loc}{ρ:Env}{M:TL}{τ:aT}{a:Act}{w:World}
theorem Bj {F':aA}(l:F.le F') {k:Nat}{a:Option Addr}{c:Nat}{t sz:Nat}{els:List (List C)}{xs:List Value}(p:L.get k=some (.row (.slice a els.length c) t sz els.length xs))
  (s:Rel F' (L.del k) (.sl els) (.slice a els.length c)):(∀d v,C.leaf d=true->Rel F L d v->Rel F' (L.del k) (mM k els d) v)/\(∀d sv,C.leaf d=true->aN F L d sv->aN F' (L.del k) (mM k els d) sv):=by
 have m:∀j,j≠k->∀o,L.get j=some o->∃o',(L.del k).get j=some o'/\Own.like o o':=fun j f o x=>⟨o,by rw[Loc.Wm,vv f];exact x,Own.Wl o⟩;have b:∀g t cs,L.get k≠some (.box g t cs):=fun g t cs h=>by rw[p] at h;injection h with h;cases h
 constructor
 ·intro d v r h;cases d<;>simp only[C.leaf,Xd] at r
  case rw j =>
   simp only[mM];cases f:Nat.beq j k with
   | true =>
    have:=yo f;subst this;simp only[Rel] at h;obtain⟨z,u,y,n,n',q,rfl,h⟩:=h;rw[p] at h;injection h with h
    injection h with q1 q2 q3 q4 q5
    rw[<-q1];exact s
   | false =>
    have:=jV b m l (.rw j) v rfl h;simpa only[fS,f] using this
  all_goals
   have:=jV b m l _ v rfl h;simpa only[fS,mM] using this
 ·intro d sv r h;cases d<;>simp only[C.leaf,Xd] at r
  case rw j =>
   simp only[mM];cases f:Nat.beq j k with
   | true =>
    have:=yo f;subst this;simp only[aN,Rel] at h;obtain⟨v,e,z,u,y,n,n',q,rfl,h⟩:=h;rw[p] at h;injection h with h
    injection h with q1 q2 q3 q4 q5
    rw[<-q1] at e;exact⟨_,e,s⟩
   | false =>
    have:=oh b m l (.rw j) sv rfl h;simpa only[fS,f] using this
  all_goals
   have:=oh b m l _ sv rfl h;simpa only[fS,mM] using this
theorem cN.frz {F':aA}(b:F.le F') {k:Nat}{els:List (List C)}(f:∀d v,C.leaf d=true->Rel F L d v->Rel F' (L.del k) (mM k els d) v):∀{o:TO}{p:Own},cN F L o p->cN F' (L.del k) (o.Wj (C.frz k els)) p
 | .box t cs,.box g j vs,r=>⟨r.1,r.2.map fun c _ v h=>Rel.mp f 3 h⟩
 | .row t sz els,.row v j l n xs,r=>⟨r.1,r.2.1,r.2.2.1,r.2.2.2.1,r.2.2.2.2.mono b⟩
 | .box _ _,.row ..,r=>r.elim
 | .row ..,.box ..,r=>r.elim
 | .map _,.row ..,r=>r.elim
 | .map es,.box g j vs,r=>⟨r.1,r.2.mono b⟩
 | .win ..,.row ..,r=>r.elim
 | .win ..,.box ..,⟨s,v1,x,v3,e,m,u,q⟩=>⟨s,v1,x,v3,e,m.mono b,u.map fun c _ v h=>Rel.mp f 3 h,q.mono b⟩
theorem wm {k:Nat}{t sz:Nat}{els:List (List C)}(hs:St F L w) (he:aC L ρ a) (m:TS G F L ρ M τ) (hk:M.get k=some (.row t sz els)) :
  ∃F' L',St F' L' w/\aC L' ρ a/\Step F L w F' L' w/\TS G F' L' ρ ((M.del k).Wj (C.frz k els)) (fun j=>(τ j).frz k els)/\(∀{c v},Rel F L c v->Rel F' L' (c.frz k els) v):=by
 obtain⟨v,xs,r,⟨hm,u,cv,rfl,x⟩,z⟩:=jU m.tl hk;obtain⟨F',L',g1,g2,g3,f,b,rfl⟩:=nB (KK:=fun F' L'=>F.le F'/\FU F' (.slice u els.length cv) sz els.length xs/\L'=L.del k) hs he ⟨_,_,_,_,_,r,fun F' f b=>⟨f,b,rfl⟩⟩;have n:Rel F' (L.del k) (.sl els) (.slice u els.length cv):=by
  simp only[Rel];rcases b with⟨d,l,y⟩ | ⟨ad,c2,d,l,y⟩
  ·injection d with q1 q2 q3
   have:els=[]:=List.length_eq_zero_iff.1 q2;subst this;exact⟨u,cv,rfl,by simp,by simp,fun _=>⟨rfl,q3⟩,sz,by simp only[fE]⟩
  ·injection d with q1 q2 q3
   subst q1 q3;exact⟨some ad,cv,rfl,y,hm,fun e=>(by cases e),sz,(z.mono f).frz l⟩
 obtain⟨q,l2⟩:=Bj f r n;refine⟨F',L.del k,g1,g2,g3,⟨fun j=>?_,fun j=>aN.mp q l2 3 (m.env j),fun j g t e=>?_,m.glob.mono f⟩,fun h=>Rel.mp q 3 h⟩
 ·rw[pQ,TL.Wm,Loc.Wm];split
  ·trivial
  ·rcases dR (m.tl j) with⟨d,l⟩ | ⟨o,p,d,l,s⟩
   ·rw[d,l];trivial
   ·rw[d,l];exact s.frz f q
 ·obtain⟨cs,h⟩:=m.kp j g t e;exact⟨cs,by rw[Loc.Wm,vv (by rintro rfl;rw[r] at h;injection h with h;cases h)];exact h⟩
def wo (k g:Nat):SV->SV
 | .own b off=>match Nat.beq b k with | true=>.v (.pointer (some ⟨g,off,none⟩)) | false=>.own b off
 | .v x=>.v x
 | .el a i=>.el a i
theorem G9 {F':aA}(q:F.le F') {k g:Nat}{t:TypeId}{vs:List Value}{es:List C}(y:L.get k=some (.box g t vs)) (hg:F' g=some (.cells vs.toArray t (0,0))) (z:dm es=true) (u:aB F' [] es vs) :
  (∀d v,C.leaf d=true->Rel F L d v->Rel F' (L.del k) (ql k es d) v)/\(∀d sv,C.leaf d=true->aN F L d sv->aN F' (L.del k) (ql k es d) (wo k g sv)):=by
 have r:∀j,j≠k->∀o,L.get j=some o->∃o',(L.del k).get j=some o'/\Own.like o o':=fun j f o ho=>⟨o,by rw[Loc.Wm,vv f];exact ho,Own.Wl o⟩;have l:∀o,Jm F' g o o vs:=fun o=>⟨0,_,t,(0,0),hg,by omega,fun i v hi=>⟨by simpa using hi,rL _⟩⟩;constructor
 ·intro d v hc h;cases d<;>simp only[C.leaf,Xd] at hc<;>simp only[ql]
  case own j off =>
   cases f:Nat.beq j k with
   | true =>
    have:=yo f;subst this;simp only[Rel] at h ⊢;obtain⟨g',t',cs,e,rfl⟩:=h;rw[y] at e;injection e with e
    injection e with e1 e2 e3
    subst e1;exact⟨_,_,vs,rfl,l off,z,u⟩
   | false=>exact bq q (fun s e=>by
     rcases e with⟨off,e⟩ | e | e | ⟨_,_,_,e⟩ | ⟨_,_,e⟩
     ·injection e with e;subst e;exact r j (eV f)
     ·cases e
     ·cases e
     ·cases e
     ·cases e) rfl h
  case ifo m ti j off =>
   cases f:Nat.beq j k with
   | true =>
    have:=yo f;subst this;simp only[Rel] at h;obtain⟨g',t',cs,e,rfl⟩:=h;rw[y] at e;injection e with e
    injection e with e1 e2 e3
    subst e1;cases m with
    | none=>simp only[Rel];exact⟨_,rfl,_,_,vs,rfl,l off,z,u⟩
    | some nm=>simp only[Rel];exact⟨_,rfl,_,rfl,_,_,vs,rfl,l off,z,u⟩
   | false=>exact bq q (fun s e=>by
     rcases e with⟨off,e⟩ | e | e | ⟨_,_,_,e⟩ | ⟨_,_,e⟩
     ·cases e
     ·cases e
     ·cases e
     ·injection e with _ _ e;subst e;exact r j (eV f)
     ·cases e) rfl h
  case rw j =>
   refine bq q (fun s e=>?_) rfl h;rcases e with⟨off,e⟩ | e | e | ⟨_,_,_,e⟩ | ⟨_,_,e⟩
   ·cases e
   ·injection e with e
    subst e;refine r j ?_;rintro rfl;simp only[Rel] at h;obtain⟨a',c',t',ae,n',ao,rfl,h⟩:=h;rw[y] at h;injection h with h
    cases h
   ·cases e
   ·cases e
   ·cases e
  case mpr j =>
   cases f:Nat.beq j k with
   | true=>simp only[Rel]
   | false=>exact bq q (fun s e=>by
     rcases e with⟨off,e⟩ | e | e | ⟨_,_,_,e⟩ | ⟨_,_,e⟩
     ·cases e
     ·cases e
     ·injection e with e;subst e;exact r j (eV f)
     ·cases e
     ·cases e) rfl h
  case ownv=>exact h.elim
  case elr j a b =>
   refine bq q (fun s e=>?_) rfl h;rcases e with⟨off,e⟩ | e | e | ⟨_,_,_,e⟩ | ⟨_,_,e⟩<;>first | cases e;done | skip
   injection e with e
   subst e;refine r j ?_;rintro rfl;simp only[Rel] at h;obtain⟨ad,t,sz,n,c,xs,_,h⟩:=h;rw[y] at h;injection h with h
   cases h
  case slo j a =>
   cases f:Nat.beq j k with
   | true=>simp only[Rel]
   | false=>exact qm q (r j (eV f)) h
  case slp=>exact h.elim
  all_goals
   exact bq q (fun s e=>by rcases e with⟨off,e⟩ | e | e | ⟨_,_,_,e⟩ | ⟨_,_,e⟩<;>cases e) rfl h
 ·intro d sv hc h;have keep:∀{c:C},(∀j off,c≠.own j off)->c.leaf=true->c≠.any->aN F L c sv->wo k g sv=sv:=by
   intro c am hl ap hv;cases sv with
   | v x=>rfl
   | el a i=>rfl
   | own k' off =>
    exfalso;cases c<;>simp only[C.leaf,Xd] at hl<;>first
     | exact am _ _ rfl
     | exact ap rfl
     | (obtain⟨v,e,_⟩:=hv;cases e;done)
     | (obtain⟨b,o,j,us,e | e,_⟩:=hv
        ·cases e.1
        ·cases e)
     | (obtain⟨ad,t,sz,n,c,xs,e,_⟩:=hv;cases e;done)
     | (obtain⟨_,_,_,_,_,e,_⟩:=hv;cases e;done)
     | (obtain⟨v,e | ⟨b,o,j,e,_⟩,_⟩:=hv
        ·cases e
        ·cases e)
  cases d<;>simp only[C.leaf,Xd] at hc<;>simp only[ql]
  case any=>trivial
  case own j off =>
   obtain⟨rfl,g',t',cs,e⟩:=h;simp only[wo];cases f:Nat.beq j k with
   | true =>
    have:=yo f;subst this;exact⟨g,off,0,vs,.inl ⟨rfl,rfl⟩,l off,z,u⟩
   | false =>
    obtain⟨o',q1,q2⟩:=r j (eV f) _ e;cases o' with
    | row=>exact q2.elim
    | box g2 t2 ar=>exact⟨rfl,g2,t2,ar,q1⟩
  case ownv j off =>
   rw[keep (c:=.ownv j off) (fun _ _ e=>by cases e) rfl (fun e=>by cases e) h];cases f:Nat.beq j k with
   | true =>
    have:=yo f;subst this;obtain⟨v,al,p⟩:=h;simp only[Rel] at p;obtain⟨g',t',cs,e,rfl⟩:=p;rw[y] at e;injection e with e
    injection e with e1 e2 e3
    subst e1;rcases al with rfl | ⟨b,o,i,rfl,e⟩
    ·exact⟨g,off,0,vs,.inl ⟨rfl,rfl⟩,l off,z,u⟩
    ·injection e with e
     injection e with e
     injection e with q1 q2 q3
     subst q1 q2;exact⟨g,o,i,vs,.inr rfl,l (o+i),z,u⟩
   | false =>
    refine cK q (fun s e=>?_) rfl h;rcases e with⟨off,e⟩ | ⟨off,e⟩ | e | ⟨a,b,e⟩ | e | ⟨_,_,_,e⟩<;>first | cases e;done | skip
    injection e with e
    subst e;exact r j (eV f)
  case ifo m ti j off =>
   rw[keep (c:=.ifo m ti j off) (fun _ _ e=>by cases e) rfl (fun e=>by cases e) h];cases f:Nat.beq j k with
   | true =>
    have:=yo f;subst this;obtain⟨v,rfl,p⟩:=h;simp only[Rel] at p;obtain⟨g',t',cs,e,rfl⟩:=p;rw[y] at e;injection e with e
    injection e with e1 e2 e3
    subst e1;cases m with
    | none=>exact⟨_,rfl,by simp only[Rel];exact⟨_,rfl,_,_,vs,rfl,l off,z,u⟩⟩
    | some nm=>exact⟨_,rfl,by simp only[Rel];exact⟨_,rfl,_,rfl,_,_,vs,rfl,l off,z,u⟩⟩
   | false =>
    refine cK q (fun s e=>?_) rfl h;rcases e with⟨off,e⟩ | ⟨off,e⟩ | e | ⟨a,b,e⟩ | e | ⟨_,_,_,e⟩<;>first | cases e;done | skip
    injection e with _ _ e
    subst e;exact r j (eV f)
  case rw j =>
   rw[keep (c:=.rw j) (fun _ _ e=>by cases e) rfl (fun e=>by cases e) h];refine cK q (fun s e=>?_) rfl h;rcases e with⟨off,e⟩ | ⟨off,e⟩ | e | ⟨a,b,e⟩ | e | ⟨_,_,_,e⟩<;>first | cases e;done | skip
   injection e with e
   subst e;refine r j ?_;rintro rfl;obtain⟨v,_,p⟩:=h;simp only[Rel] at p;obtain⟨a',c',t',ae,n',ao,rfl,h⟩:=p;rw[y] at h;injection h with h
   cases h
  case elr j a b =>
   rw[keep (c:=.elr j a b) (fun _ _ e=>by cases e) rfl (fun e=>by cases e) h];refine cK q (fun s e=>?_) rfl h;rcases e with⟨off,e⟩ | ⟨off,e⟩ | e | ⟨a,b,e⟩ | e | ⟨_,_,_,e⟩<;>first | cases e;done | skip
   injection e with e
   subst e;refine r j ?_;rintro rfl;obtain⟨ad,t,sz,n,c,xs,_,h⟩:=h;rw[y] at h;injection h with h
   cases h
  case mpr j =>
   rw[keep (c:=.mpr j) (fun _ _ e=>by cases e) rfl (fun e=>by cases e) h];cases f:Nat.beq j k with
   | true=>trivial
   | false =>
    refine cK q (fun s e=>?_) rfl h;rcases e with⟨off,e⟩ | ⟨off,e⟩ | e | ⟨a,b,e⟩ | e | ⟨_,_,_,e⟩<;>first | cases e;done | skip
    injection e with e
    subst e;exact r j (eV f)
  case slo j a =>
   rw[keep (c:=.slo j a) (fun _ _ e=>by cases e) rfl (fun e=>by cases e) h];cases f:Nat.beq j k with
   | true=>trivial
   | false=>exact rZ q (r j (eV f)) h
  case slp=>trivial
  all_goals
   rw[keep (fun _ _ e=>by cases e) rfl (fun e=>by cases e) h];exact cK q (fun s e=>by rcases e with⟨off,e⟩ | ⟨off,e⟩ | e | ⟨a,b,e⟩ | e | ⟨_,_,_,e⟩<;>cases e) rfl h
theorem He (k g:Nat) (ρ:Env) (j:Nat):vk k g ρ j=wo k g (ρ j):=by
 simp only[vk,wo];cases ρ j<;>rfl
theorem CF {k:Nat}{t:TypeId}{cs:List C}(hs:St F L w) (he:aC L ρ a) (f:TS G F L ρ M τ) (hk:M.get k=some (.box t cs)) (r:dm cs=true) (y:dF cs=true) (hG:G k=none) :
  ∃F' L' ρ',St F' L' w/\aC L' ρ' a/\Step F L w F' L' w/\TS G F' L' ρ' ((M.del k).Wj (C.frb k cs)) (fun j=>(τ j).frb k cs):=by
 obtain⟨g,ty,vs,hL,hr,u⟩:=jT f.tl hk;obtain⟨F',d,hg,g1,g2,g3⟩:=qV hs he hL;rw[gD u.2.2] at hg;obtain⟨s,l2⟩:=G9 (F:=F) d hL hg r ((dU y hr).mono d);refine⟨F',L.del k,_,g1,g2,g3,⟨fun j=>?_,fun j=>?_,fun j g t e=>?_,f.glob.mono d⟩⟩
 ·rw[pQ,TL.Wm,Loc.Wm];split
  ·trivial
  ·rcases dR (f.tl j) with⟨x,z⟩ | ⟨o,p,x,z,b⟩
   ·rw[x,z];trivial
   ·rw[x,z];cases o with
    | row t sz els =>
     cases p with
     | box=>exact b.elim
     | row v t' al n xs=>exact⟨b.1,b.2.1,b.2.2.1,b.2.2.2.1,b.2.2.2.2.mono d⟩
    | box t cs =>
     cases p with
     | row=>exact b.elim
     | box g t' us=>exact⟨b.1,b.2.map fun c _ v h=>Rel.mp s 3 h⟩
    | map es =>
     cases p with
     | row=>exact b.elim
     | box g t' us=>exact⟨b.1,b.2.mono d⟩
    | win t pre cs post =>
     cases p with
     | row=>exact b.elim
     | box g t' us =>
      obtain⟨r1,v1,v2,v3,e,r,y,h3⟩:=b;exact⟨r1,v1,v2,v3,e,r.mono d,y.map fun c _ v h=>Rel.mp s 3 h,h3.mono d⟩
 ·rw[He];have m:=f.env j;cases l:(τ j).leaf with
  | true =>
   have e:(τ j).frb k cs=ql k cs (τ j):=uO l;simp only[e];exact l2 _ _ l m
  | false =>
   generalize ρ j=sv at m;generalize τ j=c at l m;have h':∃v,sv=.v v/\Rel F L c v:=by
    cases c<;>first | exact m | cases l
   obtain⟨v,rfl,hv⟩:=h';have q:Rel F' (L.del k) (c.frb k cs) v:=Rel.mp s 3 hv;cases c<;>first | exact⟨v,rfl,q⟩ | cases l
 ·obtain⟨cs,h⟩:=f.kp j g t e;exact⟨cs,by rw[Loc.Wm,vv (by rintro rfl;rw[hG] at e;cases e)];exact h⟩
theorem ow:∀{o:List Nat}{F:aA}{L:Loc}{M:TL}{τ:aT}{args:List C}{vs:List Value}{K:TL->aT->List C->Prop},St F L w->aC L ρ a->TS G F L ρ M τ->aB F L args vs->vP o M τ args K ->
  ∃F' L' M' e b,St F' L' w/\aC L' ρ a/\Step F L w F' L' w/\TS G F' L' ρ M' e/\aB F' L' b vs/\K M' e b
 | [],F,L,M,τ,args,vs,K,n,l,f,j,h=>⟨F,L,M,τ,args,n,l,Step.refl _ _ _,f,j,h⟩
 | k::o,F,L,M,τ,args,vs,K,n,l,f,j,h=>by
  simp only[vP] at h;split at h
  case h_2=>exact h.elim
  rename_i t sz els u;obtain⟨F1,L1,q,y,g3,g4,s⟩:=wm n l f u;obtain⟨F2,L2,M2,m,d,r,z,k3,x,p,k6⟩:=ow q y g4 (j.map fun c _ v hc=>s hc) h;exact⟨F2,L2,M2,m,d,r,z,g3.trans k3,x,p,k6⟩
def uf (L:Loc):TL->Loc
 | []=>[]
 | (k,o)::l=>(k,match L.get k with
  | some p=>p
  | none=>match o with
   | .row t sz _=>.row (.slice none 0 0) t sz 0 []
   | .box _ _=>.row (.slice none 0 0) 0 0 0 []
   | .map _=>.row (.slice none 0 0) 0 0 0 []
   | .win _ _ _ _=>.row (.slice none 0 0) 0 0 0 [])::uf L l
theorem jr:∀(M1:TL) (k:Nat),(uf L M1).get k=match M1.get k with
  | some o=>some (match L.get k with | some p=>p | none=>match o with | .row t sz _=>.row (.slice none 0 0) t sz 0 [] | .box _ _=>.row (.slice none 0 0) 0 0 0 [] | .map _=>.row (.slice none 0 0) 0 0 0 [] | .win _ _ _ _=>.row (.slice none 0 0) 0 0 0 [])
  | none=>none
 | [],k=>rfl
 | (j,o)::l,k=>by
  simp only[uf,Loc.get,TL.get];cases h:Nat.beq j k with
  | true=>have:=yo h;subst this;rfl
  | false=>exact jr l k
theorem Bk:∀{l:TL}{M1:TL},gives M M1 l->∀{k o},l.get k=some o->(∃p,M.get k=some p/\P3 M M1 p o)\/(M.get k=none/\∃t sz,o=.row t sz [])
 | [],M1,h,k,o,e=>by cases e
 | (j,p)::l,M1,h,k,o,e=>by
  simp only[gives] at h;simp only[TL.get] at e;split at e
  ·rename_i b;have:=yo b;subst this;injection e with e
   subst e;exact h.1
  ·exact Bk h.2 e
theorem tD (c:cO F L M) {M1:TL}:∀{l:TL},gives M M1 l->L.gives (uf L l)
 | [],h=>trivial
 | (j,p)::l,h=>by
  simp only[gives] at h;refine⟨?_,tD c h.2⟩;rcases h.1 with⟨q,b,f⟩ | ⟨b,t,sz,rfl⟩
  ·rcases dR (c j) with⟨e,d⟩ | ⟨o,m,e,d,k⟩
   ·rw[e] at b;cases b
   ·simp only[d];exact .inl trivial
  ·have:=bT c b;simp only[this];exact .inr ⟨trivial,t,sz,rfl⟩
theorem pU {L':Loc}{M1:TL}(y:∀k o,M1.get k≠none->L.get k=some o->L'.get k=some o):∀(n:Nat) {c:C}{v:Value},eZ M1 n c=true->Rel F L c v->Rel F L' c v:=by
 have f:∀{c:C}{v:Value},c.leaf=true->lg M1 c=true->Rel F L c v->Rel F L' c v:=by
  intro c v l b h
  by_cases p:∃k d,c=.slo k d
  ·obtain⟨k,d,rfl⟩:=p;refine qm (aA.le_refl F) (fun o u=>⟨o,y k o ?_ u,Own.Wl o⟩) h;simp only[lg] at b;intro e;rw[e] at b;cases b
  refine bq (aA.le_refl F) (fun k e o u=>⟨o,y k o ?_ u,Own.Wl o⟩) l h (fun k d e=>p ⟨k,d,e⟩);rcases e with⟨off,rfl⟩ | rfl | rfl | ⟨m,t,off,rfl⟩ | ⟨j,off,rfl⟩
  ·simp only[lg] at b;intro e;rw[e] at b;cases b
  ·simp only[lg] at b;intro e;rw[e] at b;cases b
  ·simp only[lg] at b;intro e;rw[e] at b;cases b
  ·simp only[lg] at b;intro e;rw[e] at b;cases b
  ·simp only[lg,Xd] at b
 intro n
 induction n with
 | zero =>
  intro c v b h;cases l:c.leaf
  ·cases c<;>simp only[C.leaf,Bool.true_eq_false] at l<;>simp only[eZ,Xd] at b
  ·refine f l ?_ h;cases c<;>simp only[C.leaf,Xd] at l<;>simpa only[eZ] using b
 | succ n ih =>
  intro c v b h;have all:∀{cs:List C}{vs:List Value},cs.all (eZ M1 n)=true->aB F L cs vs->aB F L' cs vs:=by
   intro cs vs q r;have:=r.map (g:=id) (F':=F) (L':=L') (fun c l v hv=>ih (Xf.1 q c l) hv);simpa using this
  cases l:c.leaf
  ·cases c<;>simp only[C.leaf,Bool.true_eq_false] at l<;>simp only[eZ,W6] at b<;>simp only[Rel] at h ⊢
   ·obtain⟨x,s,q,r,z⟩:=h;exact⟨x,s,q,all b.1 r,all b.2 z⟩
   ·obtain⟨vs,q,r⟩:=h;exact⟨vs,q,all b r⟩
   ·obtain⟨vs,q,r⟩:=h;exact⟨vs,q,all b r⟩
  ·refine f l ?_ h;cases c<;>simp only[C.leaf,Xd] at l<;>simpa only[eZ] using b
theorem qt (l:cO F L M) {M1:TL}{c j:C}{v:Value}(h:Iq M M1 c j) (b:Rel F L c v):Rel F (uf L M1) j v:=by
 rcases h with rfl | ⟨rfl,m⟩ | ⟨rfl,rfl⟩ | ⟨rfl,k,t,sz,rfl,d,f⟩ | ⟨els,rfl,rfl⟩
 ·simp only[Rel]
 ·refine pU (fun k o d f=>?_) 3 m b;rw[jr];cases e:M1.get k with
  | none=>exact xo e d
  | some q=>simp only[f]
 ·exact sn (c:=.nils) (by simpa only[Rel] using b)
 ·simp only[Rel] at b ⊢;subst b;refine⟨none,0,t,sz,0,[],rfl,?_⟩;rw[jr,f];simp only[bT l d]
 ·simpa only[Rel] using tv b
theorem Bl (j:cO F L M) {M1:TL}:∀{cs cs':List C}{vs:List Value},GI M M1 cs cs'->aB F L cs vs->aB F (uf L M1) cs' vs
 | [],cs',vs,h,b=>by simp only[GI] at h;subst h;simpa only[aB] using b
 | c::cs,cs',vs,h,b=>by
  simp only[GI] at h;obtain⟨n,m,rfl,l,k⟩:=h;simp only[aB] at b ⊢;obtain⟨v,e,rfl,f,d⟩:=b;exact⟨v,e,rfl,qt j l f,Bl j k d⟩
theorem JD (s:cO F L M) {M1:TL}{o o':TO}{p:Own}(h:P3 M M1 o o') (b:cN F L o p):cN F (uf L M1) o' p:=by
 rcases h with⟨rfl,j⟩ | ⟨t,cs,cs',rfl,rfl,h⟩
 ·cases o with
  | row t sz els=>cases p with
   | row=>exact b
   | box=>exact b.elim
  | map es=>cases p with
   | row=>exact b.elim
   | box=>exact b
  | win t pre cs post=>cases p with
   | row=>exact b.elim
   | box g n vs =>
    simp only[GJ] at j;obtain⟨x,v1,r,v3,e,d,f,u⟩:=b;have:=f.map (g:=id) (F':=F) (L':=uf L M1) (fun c l v m=>pU (fun k o d f=>by
     rw[jr];cases e:M1.get k with
     | none=>exact xo e d
     | some q=>simp only[f]) 3 (Xf.1 j c l) m)
    exact⟨x,v1,r,v3,e,d,by simpa using this,u⟩
  | box t cs=>cases p with
   | row=>exact b.elim
   | box g n vs =>
    simp only[GJ] at j;refine⟨b.1,?_⟩;have:=b.2.map (g:=id) (F':=F) (L':=uf L M1) (fun c l v m=>pU (fun k o d f=>by
     rw[jr];cases e:M1.get k with
     | none=>exact xo e d
     | some q=>simp only[f]) 3 (Xf.1 j c l) m)
    simpa using this
 ·cases p with
  | row=>exact b.elim
  | box g n vs=>exact⟨b.1,Bl s h b.2⟩
theorem sA (c:cO F L M) {M1:TL}(h:gives M M1 M1):cO F (uf L M1) M1:=by
 intro k;rw[jr];cases e:M1.get k with
 | none=>trivial
 | some o =>
  rcases Bk h e with⟨q,b,l⟩ | ⟨b,t,sz,rfl⟩
  ·rcases dR (c k) with⟨d,f⟩ | ⟨m,p,d,f,j⟩
   ·rw[d] at b;cases b
   ·rw[d] at b;injection b with b
    subst b;simp only[f];exact JD c l j
  ·simp only[bT c b];exact⟨rfl,rfl,rfl,⟨by simp,none,0,rfl,fun _=>rfl⟩,by simp only[aL]⟩
theorem sB (c:St F L w) (b:cO F L M) {M1:TL}(h:gives M M1 M1):St F (uf L M1) w/\Step F L w F (uf L M1) w:=⟨c.gives (tD b h),qW (tD b h)⟩
theorem iR:∀{l M1:TL},lX l M1=true->∀{k o},l.get k=some o->zM o=false->∃o',M1.get k=some o'
 | [],M1,h,k,o,e,_=>by cases e
 | (j,.box r s)::l,M1,h,k,o,e,b=>by
  simp only[lX] at h;split at h
  case h_2=>cases h
  rename_i n m c;simp only[TL.get] at e;split at e
  ·rename_i d;have:=yo d;subst this;exact⟨_,c⟩
  ·exact iR h e b
 | (j,.map es)::l,M1,h,k,o,e,b=>by
  simp only[lX] at h;split at h
  case h_2=>cases h
  rename_i f c;simp only[TL.get] at e;split at e
  ·rename_i d;have:=yo d;subst this;exact⟨_,c⟩
  ·exact iR h e b
 | (j,.win ..)::l,M1,h,k,o,e,b=>by
  simp only[lX] at h;split at h
  case h_2=>cases h
  rename_i n q m p c;simp only[TL.get] at e;split at e
  ·rename_i d;have:=yo d;subst this;exact⟨_,c⟩
  ·exact iR h e b
 | (j,.row ..)::l,M1,h,k,o,e,b=>by
  simp only[lX] at h;simp only[TL.get] at e;split at e
  ·injection e with e;subst e;cases b
  ·exact iR h e b
theorem wq:∀{l M1:TL},covers l M1=true->∀{k o},l.get k=some o->∃o',M1.get k=some o'
 | [],M1,h,k,o,e=>by cases e
 | (j,p)::l,M1,h,k,o,e=>by
  simp only[covers] at h;split at h
  case h_2=>cases h
  rename_i q b;simp only[TL.get] at e;split at e
  ·rename_i c;have:=yo c;subst this;exact⟨_,b⟩
  ·exact wq h e
theorem Hf {L':Loc}(d:aC L ρ a) (h:∀k g t cs,L.get k=some (.box g t cs)->∃cs',L'.get k=some (.box g t cs')):aC L' ρ a:=by
 refine⟨fun t=>?_,fun t k off e=>?_,d.el⟩
 ·rw[d.eq t];cases e:ρ t with
  | v x=>rfl
  | el a j=>rfl
  | own k off =>
   obtain⟨g,ty,cs,c⟩:=d.own t k off e;obtain⟨cs',b⟩:=h _ _ _ _ c;simp only[conc,c,b]
 ·obtain⟨g,ty,cs,c⟩:=d.own t k off e;obtain⟨cs',b⟩:=h _ _ _ _ c;exact⟨g,ty,cs',b⟩
theorem pV (u:St F L w) (s:aC L ρ a) (c:TS G F L ρ M τ) {M1:TL}(h:gives M M1 M1) (n:covers M M1=true) :
  St F (uf L M1) w/\aC (uf L M1) ρ a/\Step F L w F (uf L M1) w/\TS G F (uf L M1) ρ M1 τ/\Ext L (uf L M1):=by
 obtain⟨m,r⟩:=sB u c.tl h;have b:∀k o,L.get k=some o->(uf L M1).get k=some o:=by
  intro k o e;rcases dR (c.tl k) with⟨d,f⟩ | ⟨q,p,d,f,v⟩
  ·rw[f] at e;cases e
  ·obtain⟨o',l⟩:=wq n d;rw[jr,l];simp only[e]
 refine⟨m,Hf s fun k g t cs e=>⟨cs,b _ _ e⟩,r,⟨sA c.tl h,fun j=>(c.env j).ext (aA.le_refl F) fun k o e=>⟨o,b k o e,Own.Wl o⟩,fun k g t e=>?_,c.glob⟩,fun k o e=>⟨o,b k o e,Own.Wl o⟩⟩;obtain⟨cs,h⟩:=c.kp k g t e;exact⟨cs,b _ _ h⟩
theorem MX {F:aA}{args:List C}{vs:List Value}(ha:aB F L args vs):aB F (inp []) (args.map fun c=>c.Wo.ren (cj [] 1000)) vs :=
 ha.map fun c _ v b=>(gU b).ren (fun j m e=>by cases e)
theorem P9 {F:aA}{L:Loc}{args:List C}{vs:List Value}{f:Nat}{o:Own}(h:L.get f=some o) (ha:aB F L args vs):aB F (inp [o]) (args.map fun c=>c.Wo.ren (cj [f] 1000)) vs :=
 ha.map fun c _ v k=>(gU k).ren (fun j m e o' b=>by
  obtain⟨n,d,rfl⟩:=zL e;cases n with
  | zero =>
   simp only[Xg,WY] at d;subst d;rw[h] at b;injection b with b
   subst b;rfl
  | succ n=>simp at d)
theorem CG:cO F (inp []) (iO []):=fun k=>by rw[bZ,aS];split<;>simp[GK]
theorem gk.Wt {Li:List Own}{R:List TO->C->Prop}:∀F G L v,aA.le F G->gk Li R F L v->gk Li R G L v:=by
 rintro F G L v b ⟨Mo,c,e,f,d,j,h⟩;exact⟨Mo,c,e,f.mono b,d.mono b,j,h⟩
theorem tE {f:Nat}{args:List C}{vs:List Value}{d:Option Nat}{K:TL->aT->C->Prop}(r:TS G F L ρ M τ) (ha:aB F L args vs) (h:vS P f args M τ d K) :
  dP P f vs F L d (fun F' L' v=>∃M' ao c,TS G F' L' ρ M' ao/\aN F' L' c (.v v)/\K M' ao c):=by
 cases h with
 | frz R h k =>
  refine .frz (gk [] R) (h.out F [] vs rfl CG (MX ha)) ?_;rintro v F' Lo l ⟨Mo,c,q,s,b,q4,q5⟩;obtain⟨rfl,k2⟩:=k c Mo q5 b.wf;have:Lo=[]:=List.length_eq_zero_iff.1 (by rw[<-q];rfl);subst this;exact⟨rfl,fun _=>⟨M,τ,_,r.mono l,jm (b.ext (aA.le_refl F') (fun k o e=>by rw[aS] at e;split at e<;>simp at e)),k2⟩⟩
 | own R k h hd hk kk =>
  refine .own (gk [] R) k (h.out F [] vs rfl CG (MX ha)) hd (bT r.tl hk) ?_;rintro v F' Lo l ⟨Mo,c,q,s,b,q4,q5⟩;have be:∀o∈Mo,o.Wf:=by
   intro o ho;obtain⟨i,hi⟩:=Xr.1 ho;have bj:i<Lo.length:=by rw[<-q];exact(W5.1 hi).1
   have:=s (1000+i);rw[bZ,aS,j3 (by omega),j3 (by omega),show 1000+i-1000=i by omega,hi,WZ bj] at this;exact cN.wf this
  obtain⟨o,rfl,k2⟩:=kk c Mo q5 b.wf be
  match Lo,q with
  | [p],_ =>
   have n:∀j m,aW [k] j=some m->∀o,(inp [p]).get j=some o->(L.set k p).get m=some o:=by
    intro j m hj o ho;obtain⟨a1,a2⟩:=lK hj;rw[aS,j3 a1] at ho;have:j-1000=0:=by have:=(W5.1 a2).1;simp at this;omega
    rw[this] at ho a2;simp at ho a2;subst ho a2;rw[Loc.Wh,j3 rfl]
   have ar:=s 1000;rw[bZ,aS,j3 (by omega),j3 (by omega)] at ar;refine⟨p,rfl,fun _=>⟨_,τ,_,r.new l (bT r.tl hk) (cN.ren n ar),jm (b.ren n),k2⟩⟩
 | row R y t sz els am hk h kk =>
  obtain⟨rv,xs,hL,⟨hm,av,cv,rfl,bs⟩,hr⟩:=jU r.tl hk;refine .row (fun F' Lo v=>Lo=[]/\gk [] R F' [] v) y _ t sz els.length xs ⟨am,fun F1 F2 L v bc u=>⟨u.1,gk.Wt _ _ _ _ bc u.2⟩,fun w hs=>?_⟩ hL ?_
  ·have bk:aC (inp [.row (.slice av els.length cv) t sz els.length xs]) (fun _=>.v undef) (⟨#[],[]⟩:Act):=by
    refine⟨fun j=>?_,fun j k off e=>(by cases e),fun j a i e=>(by cases e)⟩;simp[conc]
   obtain⟨F2,L2,g1,_,g3,l,aa,rfl⟩:=nB (k:=1000) (KK:=fun F' L'=>F.le F'/\FU F' (.slice av els.length cv) sz els.length xs/\L'=(inp [.row (.slice av els.length cv) t sz els.length xs]).del 1000) hs bk ⟨_,_,_,_,_,rfl,fun F' l aa=>⟨l,aa,rfl⟩⟩;have al:Rel F2 (L.del y) (.sl els) (.slice av els.length cv):=by
    simp only[Rel];rcases aa with⟨e1,e2,e3⟩ | ⟨ad,c2,e1,e2,e3⟩
    ·injection e1 with q s b
     have:els=[]:=List.length_eq_zero_iff.1 s;subst this;exact⟨av,cv,rfl,by simp,by simp,fun _=>⟨rfl,b⟩,sz,by simp only[fE]⟩
    ·injection e1 with q s b
     subst q b;exact⟨some ad,cv,rfl,e3,hm,fun e=>(by cases e),sz,(hr.mono l).frz e2⟩
   obtain⟨l1,_⟩:=Bj l hL al;have bo:aB F2 (L.del y) (args.map (C.frz y els)) vs:=ha.map fun c _ v hc=>Rel.mp l1 3 hc;have aw:=MX bo;rw[XV] at aw;refine((h.out F2 [] vs rfl CG aw).run w g1).mono ?_;rintro e w' ⟨v,F',Lo,rfl,aE,bd,u⟩;have bi:Lo=[]:=by
    obtain⟨Mo,c,q,s,b,q4,q5⟩:=u;obtain⟨rfl,_⟩:=kk c Mo q5 b.wf;exact List.length_eq_zero_iff.1 (by rw[<-q];rfl)
   subst bi;exact⟨v,F',[],rfl,aE,g3.trans bd,rfl,u⟩
  ·rintro v F' Lo l ⟨rfl,Mo,c,q,s,b,q4,q5⟩;obtain⟨rfl,k2⟩:=kk c Mo q5 b.wf;refine⟨rfl,fun _=>⟨_,_,_,(r.mono l).WD (k:=y) (o':=.row (.slice none 0 0) t sz 0 []) (to:=.row t sz []) (fun g t' cs e=>by rw[hL] at e;injection e with e;cases e) ⟨rfl,rfl,rfl,⟨Xx _,none,0,rfl,fun _=>rfl⟩,by simp only[aL]⟩,jm (b.ext (aA.le_refl F') (fun k o e=>by rw[aS] at e;split at e<;>simp at e)),k2⟩⟩
 | lent y t sz els x hk h k =>
  obtain⟨rv,xs,hL,z,hr⟩:=jU r.tl hk;refine .lent (fun F' v=>Rel F' (inp []) x v) y rv t sz els.length xs (h.out F rv xs vs ⟨rfl,rfl,rfl,z,hr⟩ (P9 hL ha)) hL fun v F' l u _=>?_;exact⟨M,τ,_,r.mono l,jm (u.ext (aA.le_refl F') (fun k o e=>by rw[aS] at e;split at e<;>simp at e)),k u.wf⟩
def jW:dS->Bool
 | .call _ _=>true
 | .callV _ _=>true
 | _=>false
theorem TS.Ws {F:aA}{L:Loc}{ρ:Env}{M:TL}{τ:aT}{K:TK}{d:Option Nat}(e:TS G F L ρ M τ) {c:C}{sv:SV}(b:aN F L c sv) (h:K M (bw d c τ)):Both G K F L (Fr.put d sv ρ):=⟨_,_,e.put b d,h⟩
theorem iV (h:∀j,aN F L (τ j) (ρ j)) {fi ca:List C}{b c:List Value}(e:aB F L fi b) (d:aB F L ca c) (args:List X):aB F L (fi++dM τ args++ca) (b.toArray.toList++bf L ρ args++c.toArray.toList):=by
 simpa using(e.append (cL h args)).append d
theorem cV.imp {f:Nat}{args:List Value}{F:aA}{L:Loc}{K K':aA->Loc->Value->Prop}(h:cV P f args F L K) (d:∀F' L' v,K F' L' v->K' F' L' v):cV P f args F L K':=by
 obtain⟨ks,ko,Lin,R,j,o,m,k,p,e⟩:=h;exact⟨ks,ko,Lin,R,j,o,m,k,p,fun v F' Lo l n=>let⟨a,b,c⟩:=e v F' Lo l n;⟨a,b,d _ _ _ c⟩⟩
theorem dP.imp' {f:Nat}{args:List Value}{F:aA}{L:Loc}{d:Option Nat}{K K':aA->Loc->Value->Prop}(h:dP P f args F L d K) (p:∀F' L' v,K F' L' v->K' F' L' v):dP P f args F L d K':=by
 cases h with
 | frz R h k=>exact .frz R h fun v F' Lo j l=>let⟨a,b⟩:=k v F' Lo j l;⟨a,fun e=>p _ _ _ (b e)⟩
 | own R k h s c m=>exact .own R k h s c fun v F' Lo j l=>let⟨o,a,b⟩:=m v F' Lo j l;⟨o,a,fun e=>p _ _ _ (b e)⟩
 | row R r q t sz n xs h c m=>exact .row R r q t sz n xs h c fun v F' Lo j l=>let⟨a,b⟩:=m v F' Lo j l;⟨a,fun e=>p _ _ _ (b e)⟩
 | lent R r q t sz n xs h c m=>exact .lent R r q t sz n xs h c fun v F' j l e=>p _ _ _ (m v F' j l e)
theorem Hg {op:BinOp}{k:IntKind}{a b:Int}{K K':Value->Prop}(h:binI op k a b K) (c:∀v,K v->K' v):binI op k a b K':=by
 cases op<;>simp only[binI] at h ⊢<;>first
  | exact h.elim
  | exact⟨c _ h.out⟩
  | exact⟨h.ne,⟨c _ h.out.out⟩⟩
  | exact⟨h.ne,c _ h.out⟩
  | exact c _ h
theorem JE {op:BinOp}{k:IntKind}{a b:Int}{K K':Value->Prop}(h:shI op k a b K) (c:∀v,K v->K' v):shI op k a b K':=by
 cases op<;>simp only[shI] at h ⊢<;>first
  | exact h.elim
  | exact⟨h.1,⟨c _ h.2.out⟩⟩
  | exact⟨h.1,c _ h.2⟩
theorem Hh {op:BinOp}{a b:ByteArray}{K K':Value->Prop}(h:binS op a b K) (c:∀v,K v->K' v):binS op a b K':=by
 cases op<;>simp only[binS] at h ⊢<;>first
  | exact h.elim
  | exact c _ h
  | exact⟨h.1,c _ h.2⟩
theorem Bm {o:dS}{V V':SV->Prop}{F:aA}{L:Loc}{ρ:Env}(h:aI o F L ρ V) (d:∀v,V v->V' v):aI o F L ρ V':=by
 have load:∀{a:Option Addr}{j n:Nat}{g:List Value->SV},ja F L a j n (fun cs=>V (g cs))->ja F L a j n (fun cs=>V' (g cs)):=fun h=>⟨let⟨cs,e,f,m⟩:=h.out;⟨cs,e,f,d _ m⟩⟩;have loadD:∀{a:Option Addr}{j n:Nat}{g:List Value->SV},gY F a j n (fun cs=>V (g cs))->gY F a j n (fun cs=>V' (g cs)):=fun h=>⟨let⟨cs,e,f,m⟩:=h.out;⟨cs,e,f,d _ m⟩⟩;cases o<;>simp only[aI] at h ⊢<;>first
  | exact h.elim
  | exact d _ h
  | skip
 case pick c a b =>
  generalize ev ρ c=z at h ⊢;split at h<;>first | exact h.elim | exact d _ h
 case build zs ps =>
  generalize built L ρ zs ps=z at h ⊢;split at h<;>first | exact h.elim | exact d _ h
 case load agg n x =>
  generalize ev ρ x=z at h ⊢;split at h
  ·rename_i k off;generalize L.get k=y at h ⊢;split at h
   ·rename_i t cs;generalize iB t ((cs.drop off).take n) n=b at h ⊢;cases b
    ·exact h.elim
    ·exact d _ h
   ·exact h.elim
  ·exact load h
  ·exact load h
  ·exact h.elim
 case loadR agg n x =>
  generalize ev ρ x=z at h ⊢;split at h
  ·rename_i k off;generalize L.get k=y at h ⊢;split at h
   ·rename_i t cs;generalize iB t ((cs.drop off).take n) n=b at h ⊢;cases b
    ·exact h.elim
    ·exact d _ h
   ·exact h.elim
  ·exact load h
  ·exact load h
  ·exact h.elim
 case loadD agg n x =>
  generalize ev ρ x=z at h ⊢;split at h
  ·rename_i k off;generalize L.get k=y at h ⊢;split at h
   ·rename_i t cs;generalize iB t ((cs.drop off).take n) n=b at h ⊢;cases b
    ·exact h.elim
    ·exact d _ h
   ·exact h.elim
  ·exact loadD h
  ·exact loadD h
  ·exact h.elim
 case gload g =>
  obtain⟨v,t,fr,e,f⟩:=h;exact⟨v,t,fr,e,d _ f⟩
 case loadF agg n x =>
  generalize ev ρ x=z at h ⊢;split at h
  ·exact loadD h
  ·exact loadD h
  ·exact h.elim
 case loadK key agg n x =>
  generalize ev ρ x=z at h ⊢;split at h
  ·rename_i k off;generalize Nat.beq k key=q at h ⊢;cases q
   ·exact h.elim
   ·simp only[] at h ⊢;generalize L.get k=y at h ⊢;split at h
    ·rename_i t cs;generalize iB t ((cs.drop off).take n) n=b at h ⊢;cases b
     ·exact h.elim
     ·exact d _ h
    ·exact h.elim
  ·exact h.elim
 case mlook str ok z0 x i =>
  generalize ev ρ x=z at h ⊢;split at h
  ·obtain⟨k,cs,e,f,⟨m⟩⟩:=h;exact⟨k,cs,e,f,⟨m.imp (fun⟨i,v,p,u⟩=>⟨i,v,p,d _ u⟩) fun⟨p,u⟩=>⟨p,d _ u⟩⟩⟩
  ·exact h.elim
 case mlen x =>
  generalize ev ρ x=z at h ⊢;split at h
  ·obtain⟨k,cs,e,f,m⟩:=h;exact⟨k,cs,e,f,d _ m⟩
  ·exact h.elim
 case b2sD x =>
  generalize ev ρ x=z at h ⊢;split at h
  ·exact⟨let⟨cs,e,f,⟨bs,m,p⟩⟩:=h.out;⟨cs,e,f,⟨bs,m,d _ p⟩⟩⟩
  ·exact h.elim
 case b2sR x =>
  generalize ev ρ x=z at h ⊢;split at h
  ·exact⟨let⟨k,t,c,bs,e,f,m,p⟩:=h.out;⟨k,t,c,bs,e,f,m,d _ p⟩⟩
  ·exact h.elim
 case mkif t x =>
  generalize ev ρ x=z at h ⊢;split at h<;>first
   | exact h.elim
   | exact d _ h
   | (split at h
      ·exact d _ h
      ·exact h.elim)
 case nilck x =>
  generalize ev ρ x=z at h ⊢;split at h<;>first
   | exact h.elim
   | exact d _ h
   | exact⟨h.1,d _ h.2⟩
   | (split at h
      ·exact⟨h.1,d _ h.2⟩
      ·exact h.elim)
 case mkmv nm x =>
  generalize ev ρ x=z at h ⊢;split at h<;>first | exact h.elim | exact d _ h
 case bin op x y =>
  generalize ev ρ x=z at h ⊢;generalize ev ρ y=z' at h ⊢;split at h
  ·rename_i k a k' b;generalize FT op=q at h ⊢;cases q
   ·generalize oZ k k'=r at h ⊢;cases r
    ·exact h.elim
    ·exact Hg h fun v=>d _
   ·exact JE h fun v=>d _
  ·exact Hh h fun v=>d _
  ·exact h.elim
 case eqB neg x y =>
  generalize ev ρ x=z at h ⊢;generalize ev ρ y=z' at h ⊢;split at h<;>first | exact h.elim | exact d _ h
 case eqP neg x y =>
  generalize ev ρ x=z at h ⊢;generalize ev ρ y=z' at h ⊢;split at h<;>first | exact h.elim | exact d _ h
 case eqS neg x y =>
  generalize ev ρ x=z at h ⊢;generalize ev ρ y=z' at h ⊢;split at h<;>first | exact h.elim | exact d _ h
 case eqF neg x y =>
  generalize ev ρ x=z at h ⊢;generalize ev ρ y=z' at h ⊢;split at h<;>first | exact h.elim | exact d _ h
 case tas t z x =>
  generalize ev ρ x=y at h ⊢;split at h<;>first
   | exact d _ h
   | (split at h<;>exact d _ h)
   | exact h.elim
 case eqN neg x =>
  generalize ev ρ x=z at h ⊢;split at h<;>first | exact h.elim | exact d _ h
 case eqA neg ks x y =>
  generalize ev ρ x=z at h ⊢;generalize ev ρ y=z' at h ⊢;split at h
  case h_2=>exact h.elim
  rename_i cs ds;generalize iC ks cs.toList ds.toList true=q at h ⊢;cases q with
  | none=>exact h.elim
  | some b=>exact d _ h
 case un op x =>
  generalize ev ρ x=z at h ⊢;split at h<;>first | exact h.elim | exact d _ h | exact⟨d _ h.out⟩
 case conv k x =>
  generalize ev ρ x=z at h ⊢;split at h<;>first | exact h.elim | exact⟨d _ h.out⟩
 case b2s x =>
  generalize ev ρ x=z at h ⊢;split at h
  ·exact⟨let⟨cs,e,f,⟨bs,m,p⟩⟩:=h.out;⟨cs,e,f,⟨bs,m,d _ p⟩⟩⟩
  ·exact h.elim
 case slc sz x lo hi =>
  generalize ev ρ x=z at h ⊢;split at h
  ·rename_i a n c;generalize iY ρ 0 lo=y at h ⊢;generalize iY ρ n hi=y' at h ⊢;split at h
   ·exact⟨h.lo,h.le,h.hi,d _ h.out⟩
   ·exact h.elim
  ·exact h.elim
 case slcS x lo hi =>
  generalize ev ρ x=z at h ⊢;split at h
  ·rename_i s;generalize iY ρ 0 lo=y at h ⊢;generalize iY ρ s.size hi=y' at h ⊢;split at h
   ·exact⟨h.lo,h.le,h.hi,d _ h.out⟩
   ·exact h.elim
  ·exact h.elim
 case fieldA off x =>
  generalize ev ρ x=z at h ⊢;split at h<;>first | exact h.elim | exact d _ h
 case fieldV agg off n x =>
  generalize ev ρ x=z at h ⊢;split at h
  ·rename_i cs;generalize eT ((cs.toList.drop off).take n) n=b at h ⊢;cases b
   ·exact h.elim
   ·exact d _ h
  ·exact h.elim
 case idxA sz x i =>
  generalize ev ρ x=z at h ⊢;generalize ev ρ i=z' at h ⊢;split at h
  ·exact⟨h.ne,h.lo,h.hi,d _ h.out⟩
  ·exact h.elim
 case idxS x i =>
  generalize ev ρ x=z at h ⊢;generalize ev ρ i=z' at h ⊢;split at h
  ·exact⟨h.lo,h.hi,d _ h.out⟩
  ·exact h.elim
 case extr x i =>
  generalize ev ρ x=z at h ⊢;split at h
  ·rename_i vs;generalize vs.toList[i]?=y at h ⊢;cases y
   ·exact h.elim
   ·exact d _ h
  ·exact h.elim
 case len x =>
  generalize ev ρ x=z at h ⊢;split at h<;>first | exact h.elim | exact d _ h
 case lenS x =>
  generalize ev ρ x=z at h ⊢;split at h<;>first | exact h.elim | exact d _ h
 case capa x =>
  generalize ev ρ x=z at h ⊢;split at h<;>first | exact h.elim | exact d _ h
 case mm mx args =>
  generalize args.map (ev ρ)=z at h ⊢;split at h
  ·rename_i k a l;generalize LJ mx a l=y at h ⊢;cases y
   ·exact h.elim
   ·exact d _ h
  ·exact h.elim
theorem MY {o:dS}{d:Option Nat}{K:TK}{F:aA}{L:Loc}{ρ:Env}{M:TL}{τ:aT}(b:TS G F L ρ M τ) (h:outT o M τ fun v=>K M (bw d v τ)):aI o F L ρ (fun v=>Both G K F L (Fr.put d v ρ)) :=
 Bm (P7 b h) fun sv ⟨c,e,f⟩=>b.Ws e f
set_option maxHeartbeats 1000000 in
theorem JF {str:Bool}{c:C}(h:GD str c=true):(∃n,str=false/\c=.int .i64 n)\/∃s,str=true/\c=.str s:=by
 unfold GD at h;split at h
 ·exact .inl ⟨_,rfl,rfl⟩
 ·exact .inr ⟨_,rfl,rfl⟩
 ·cases h
theorem Dz {F:aA}{str:Bool}{key c:C}{kv v:Value}(f:Rel F [] key kv) (m:Rel F [] c v):∀{es es':List (C×C)}{vs:List Value},iQ F es vs->GF str key c es=some es'->∃b,vg str kv v vs=some b/\iQ F es' b
 | [],es',vs,h,e=>by
  simp only[iQ] at h;subst h;simp only[GF,WY] at e;subst e;exact⟨_,rfl,by simp only[iQ];exact⟨kv,v,[],rfl,f,m,rfl⟩⟩
 | (k,d)::l,es',vs,h,e=>by
  simp only[iQ] at h;obtain⟨u,x,b,rfl,j,t,o⟩:=h;simp only[GF] at e;split at e
  ·rename_i n;injection e with e
   subst e;exact⟨_,by simp only[vg,pO n f j];rfl,by simp only[iQ];exact⟨kv,v,b,rfl,f,m,o⟩⟩
  ·rename_i n;split at e
   case h_2=>cases e
   rename_i y q;injection e with e
   subst e;obtain⟨r,p,s⟩:=Dz f m o q;exact⟨_,by simp only[vg,pO n f j,p];rfl,by simp only[iQ];exact⟨u,x,r,rfl,j,t,s⟩⟩
  ·cases e
theorem EX {F:aA}{L:Loc}{c:C}{v:Value}(h:Rel F L c.cel v) (b:dF (bS c)=true):Rel F [] c.cel.Wo v:=by
 have leaf:dF [c]=true->Rel F L c v->Rel F [] c v:=fun b h=>by
  have:=dU (L':=[]) b (show aB F L [c] [v] by simp only[aB];exact⟨v,[],rfl,h,rfl⟩);simp only[aB] at this;obtain⟨u,us,e,d,_⟩:=this;injection e with e1 e2
  rw[e1];exact d
 cases c
 case agg cs =>
  simp only[C.cel,bS] at h b ⊢;refine gU ?_;simp only[Rel] at h ⊢;obtain⟨vs,d,f⟩:=h;exact⟨vs,d,dU b f⟩
 case ownv k o=>simp[bS,dF,C.pure,C.Wp] at b
 case elr k j o=>simp[bS,dF,C.pure,C.Wp] at b
 case slp k o j=>simp[bS,dF,C.pure,C.Wp] at b
 case slo k o=>simp[bS,dF,C.pure,C.Wp] at b
 all_goals
  simp only[C.cel,bS] at h b ⊢;exact gU (leaf b h)
theorem Hj {o:dS}{d:Option Nat}{K:TK}{F:aA}{L:Loc}{ρ:Env}{M:TL}{τ:aT}(ho:jW o=false) (l:TS G F L ρ M τ) (h:bH P o d M τ K):evalOp P o d F L ρ (Both G K):=by
 have z:=l.env;cases o
 case call=>cases ho
 case callV=>cases ho
 case box t x =>
  simp only[bH,eB,dV,dG] at h;simp only[evalOp];split at h
  case h_2=>exact h.elim
  rename_i k;split at h
  case h_2=>exact h.elim
  rename_i hk hc hb;simp only[bT l.tl hk];exact fun g=>Dw l hk hc (zK hb) h g
 case boxD t x =>
  simp only[bH,eB,dV,dG] at h;simp only[evalOp];split at h
  case h_2=>exact h.elim
  rename_i k;split at h
  case h_2=>exact h.elim
  rename_i hk hc hb;simp only[bT l.tl hk];exact fun g _=>Dw l hk hc (zK hb) h g
 case boxF t x =>
  simp only[bH,eB,dV,dG] at h;simp only[evalOp];split at h
  case h_2=>exact h.elim
  rename_i m j p;intro g F' hF hg;exact(l.mono hF).Ws (MW hg (mo j) (jo ((dU p (dH z m)).mono hF))) h
 case alloc t zs =>
  simp only[bH,eB,dV,dG] at h;simp only[evalOp];split at h
  case h_2=>exact h.elim
  rename_i k;split at h
  case h_2=>exact h.elim
  rename_i hk hb;simp only[bT l.tl hk];exact fun g=>yF l hk (zK hb) h g
 case allocD t zs =>
  simp only[bH,eB,dV,dG] at h;simp only[evalOp];split at h
  case h_2=>exact h.elim
  rename_i k;split at h
  case h_2=>exact h.elim
  rename_i hk hb;simp only[bT l.tl hk];exact fun g _=>yF l hk (zK hb) h g
 case mkF e n sz xs =>
  simp only[bH,eB,dV,dG] at h;simp only[evalOp];split at h
  ·rename_i m j p;rw[(iU z m).1];exact fun g F' hF hg=>Dx l m (yo j) (Xh p) h hF hg
  ·rename_i m j p;split at h
   case h_2=>exact h.elim
   rename_i ba;obtain rfl:=yo ba;split at h
   case h_2=>exact h.elim
   split at h
   case h_2=>exact h.elim
   rename_i be ho;obtain⟨q1,q2⟩:=Dy (e:=e) l ho (by simp) (yo j) (Xh p) h;rw[q1];exact fun g F' hF hg=>q2 hF hg
  ·exact h.elim
 case mkFD e n sz xs =>
  simp only[bH,eB,dV,dG] at h;simp only[evalOp];split at h
  ·rename_i m j p;rw[(iU z m).1];exact fun g F' hF hg _=>Dx l m (yo j) (Xh p) h hF hg
  ·rename_i m j p;split at h
   case h_2=>exact h.elim
   rename_i ba;obtain rfl:=yo ba;split at h
   case h_2=>exact h.elim
   split at h
   case h_2=>exact h.elim
   rename_i be ho;obtain⟨q1,q2⟩:=Dy (e:=e) l ho (by simp) (yo j) (Xh p) h;rw[q1];exact fun g F' hF hg _=>q2 hF hg
  ·exact h.elim
 case mkR e n sz xs =>
  simp only[bH,eB,dV,dG] at h;simp only[evalOp];split at h
  case h_2=>exact h.elim
  rename_i k m j p;split at h
  case h_2=>exact h.elim
  rename_i hk;rw[(iU z m).1];simp only[bT l.tl hk];exact fun g=>JB l m (yo j) (Xh p) hk h g
 case s2b e x =>
  simp only[bH,eB,dV,dG] at h;simp only[evalOp];split at h
  case h_2=>exact h.elim
  rename_i s hx;obtain⟨e1,e2⟩:=jl z hx;rw[e1];intro g c F' hF hf hc;have hl:(af s.data.toList).length=s.size:=by simp[af]
  have:=Du (F:=F') (L:=L) (els:=af s.data.toList) (a:=some ⟨g,0,none⟩) (c:=c) (sz:=1) (by rw[hl];exact hc) (by rw[hl];exact e2) (fun e=>by cases e) (CA hf);rw[hl] at this;exact(l.mono hF).Ws this h
 case makeS=>exact EW l h
 case store n y x=>exact CB l h
 case storeD n y x=>exact vY l h
 case storeK key n y x =>
  simp only[bH] at h;split at h
  case h_2=>exact h.elim
  rename_i k off hy;split at h
  case h_2=>exact h.elim
  rename_i hb;obtain⟨n',a',x',k',cd,g,t,cs,ho,e1,e2,e3,e4,e5,hK⟩:=hU (P:=P) rfl (vY l h);rcases ho with ho | ho
  ·injection ho with q1 q2 q3
   subst q1 q2 q3;rw[(ep z hy).1] at e3;injection e3 with q1 q2
   subst q1 q2;have hb:=yo hb;subst hb;exact gP (.inr rfl) e1 e2 (ep z hy).1 e4 e5 hK
  ·cases ho
 case makeSD e sz n zs =>
  simp only[bH] at h;split at h
  case h_2=>exact h.elim
  rename_i k;split at h
  case h_2=>exact h.elim
  rename_i hk m j p;have ab:=bT l.tl hk;have an:zs.length=sz:=by have:=br m;simpa using this
  simp only[evalOp,ab,cQ an,p];intro g _;have hz:aB F [] ((zs.map qI).map C.can) zs:=jo (kG zs);have aE:dm (zs.map qI)=true->∀i:Nat,aL F sz (List.replicate i ((zs.map qI).map C.can)) (List.replicate i zs).flatten:=by
   intro j i
   induction i with
   | zero=>simp only[List.replicate_zero,List.flatten_nil,aL]
   | succ i ih =>
    simp only[XS,List.flatten_cons,aL];exact⟨zs,_,rfl,an,mo j,hz,ih⟩
  have am:∀i:Nat,i=n->aL F sz (List.replicate i ((zs.map qI).map C.can)) (List.replicate i zs).flatten:=by
   intro i hi;rw[XA] at j;rcases j with j | j
   ·have j:=yo j;rw[hi,j];simp only[List.replicate_zero,List.flatten_nil,aL]
   ·exact aE j i
  have p:=l.new (aA.le_refl F) ab (o:=.row (.slice (some ⟨g,0,none⟩) n n) e sz n (List.replicate n zs).flatten) (to:=.row e sz (List.replicate n ((zs.map qI).map C.can)))
   ⟨rfl,rfl,by simp,⟨Xh p,_,_,rfl,fun e=>(by cases e)⟩,am _ rfl⟩
  exact⟨_,_,p.put (c:=.rw k) (mO (by rw[Loc.Wh,j3 rfl])) (some k),h⟩
 case makeSV e sz b zs x =>
  simp only[bH] at h;split at h
  case h_2=>exact h.elim
  rename_i ki n k hx;split at h
  case h_2=>exact h.elim
  rename_i hk m j;have ab:=bT l.tl hk;have an:zs.length=sz:=by have:=br m;simpa using this
  obtain⟨m1,_,m3,m4,h⟩:=h;have hv:val L ρ x=.int ki n:=by rw[val,(dX z hx).1];rfl
  have ay:rN b (val L ρ x)=true:=by
   rw[hv,rN,W6,W6];exact⟨⟨Nat.ble_eq_true_of_le m3,Nat.ble_eq_true_of_le m4⟩,decide_eq_true m1⟩
  have hc:lN (val L ρ x)=n.toNat:=by rw[hv];rfl
  simp only[evalOp,ab,cQ an,ay];rw[hc];intro g _;have hz:aB F [] ((zs.map qI).map C.can) zs:=jo (kG zs);have am:∀i:Nat,aL F sz (List.replicate i ((zs.map qI).map C.can)) (List.replicate i zs).flatten:=by
   intro i
   induction i with
   | zero=>simp only[List.replicate_zero,List.flatten_nil,aL]
   | succ i ih =>
    simp only[XS,List.flatten_cons,aL];exact⟨zs,_,rfl,an,mo j,hz,ih⟩
  have p:=l.new (aA.le_refl F) ab (o:=.row (.slice (some ⟨g,0,none⟩) n.toNat n.toNat) e sz n.toNat (List.replicate n.toNat zs).flatten) (to:=.row e sz (List.replicate n.toNat ((zs.map qI).map C.can)))
   ⟨rfl,rfl,by simp,⟨m4,_,_,rfl,fun e=>(by cases e)⟩,am _⟩
  exact⟨_,_,p.put (c:=.rw k) (mO (by rw[Loc.Wh,j3 rfl])) (some k),h⟩
 case callD f args =>
  simp only[bH,eB,dV,dG] at h;simp only[evalOp];refine dP.imp' (tE l (cL z args) h) ?_;rintro F' L' v ⟨M',q,c,m,j,p⟩;exact m.Ws j p
 case callVD f args =>
  simp only[bH,eB,dV,dG] at h;simp only[evalOp];split at h
  ·rename_i f' fi ca hx;obtain⟨bk,bs,e1,m,j⟩:=ru z hx;rw[e1];refine dP.imp' (tE l (iV z m j args) h) ?_;rintro F' L' v ⟨M',q,c,m,j,p⟩;exact m.Ws j p
  ·rename_i nm c hx;split at h
   case h_2=>exact h.elim
   rename_i t c;obtain⟨u,e1,hr⟩:=vV z hx;simp only[Rel] at hr;obtain⟨u',rfl,hu⟩:=hr;obtain⟨f',hm,h⟩:=h;have e2:kY P (ev ρ f)=some (f',[u'],[]):=by rw[e1];simp only[kY,hm]
   rw[e2];have bb:aB F L (c::dM τ args) ([u']++bf L ρ args++[]):=by
    rw[Xp];simp only[Xk,XD,aB];exact⟨_,_,rfl,hu.lift,cL z args⟩
   refine dP.imp' (tE l bb h) ?_;rintro F' L' v ⟨M',q,c,m,j,p⟩;exact m.Ws j p
  ·exact h.elim
 case callO f args =>
  simp only[bH,eB,dV,dG] at h;simp only[evalOp];cases h with
  | mk h =>
   obtain⟨ks,ko,Lin,R,m,j,p,h4,h5,h6,h7⟩:=h;refine cV.imp (qp (K:=fun M' q v=>K M' (bw d v q)) l (cL z args) m j p h4 h5 h6 h7) ?_;rintro F' L' v ⟨M',q,c,m,j,p⟩ _;exact m.Ws j p
  | inpl ks Lin R m j p h4 =>
   refine cV.imp (tC (K:=fun M' q v=>K M' (bw d v q)) l (cL z args) m j p h4) ?_;rintro F' L' v ⟨M',q,c,m,j,p⟩ _;exact m.Ws j p
 case callVO f args =>
  simp only[bH,eB,dV,dG] at h;simp only[evalOp];split at h
  case h_2=>exact h.elim
  rename_i f' fi ca hx;obtain⟨bk,bs,e1,g1,g2⟩:=ru z hx;rw[e1];cases h with
  | mk h =>
   obtain⟨ks,ko,Lin,R,m,j,p,h4,h5,h6,h7⟩:=h;refine cV.imp (qp (K:=fun M' q v=>K M' (bw d v q)) l (iV z g1 g2 args) m j p h4 h5 h6 h7) ?_;rintro F' L' v ⟨M',q,c,m,j,p⟩ _;exact m.Ws j p
  | inpl ks Lin R m j p h4 =>
   refine cV.imp (tC (K:=fun M' q v=>K M' (bw d v q)) l (iV z g1 g2 args) m j p h4) ?_;rintro F' L' v ⟨M',q,c,m,j,p⟩ _;exact m.Ws j p
 case look x i =>
  simp only[bH] at h;simp only[evalOp];split at h
  case h_2=>exact h.elim
  rename_i k n hx hi;split at h
  case h_2=>exact h.elim
  rename_i r b hl;obtain⟨mv,e1,hm⟩:=zF z hx;obtain⟨e2,_⟩:=dX z hi;rw[e1,e2];refine⟨k,r,b,hm,hl,l.Ws (c:=.tup [.int .i64 r,.bool b]) ⟨_,rfl,?_⟩ h⟩;simp only[Rel,aB];exact⟨_,rfl,_,_,rfl,⟨rfl,Ar hl⟩,_,_,rfl,rfl,rfl⟩
 case app=>exact JC l h
 case appX=>exact GY l h
 case appD=>exact GZ l h
 case appS=>exact G0 l h
 case appZ=>exact G3 l h
 case mkmap =>
  simp only[bH] at h;simp only[evalOp];split at h
  case h_2=>exact h.elim
  rename_i k;split at h
  case h_2=>exact h.elim
  rename_i hk;have ab:=bT l.tl hk;simp only[ab];intro g;have m:=l.new (aA.le_refl F) ab (o:=.box g 0 []) (to:=.map []) ⟨rfl,rfl⟩;exact⟨_,_,m.put (c:=.mpr k) (sv:=.v (.map (some g))) ⟨_,rfl,by simp only[Rel];exact⟨g,[],by rw[Loc.Wh,j3 rfl],rfl⟩⟩ (some k),h⟩
 case mrange=>exact h.elim
 case mnext=>exact h.elim
 case mentry=>exact h.elim
 case mupd str x i v =>
  simp only[bH] at h;simp only[evalOp];split at h
  case h_2=>exact h.elim
  rename_i k hx;split at h
  case h_2=>exact h.elim
  rename_i es hk bj ay hp;obtain⟨es',bi,h⟩:=h;obtain⟨g,cs,e1,e2⟩:=zI z hx;obtain⟨g',vs,e3,hE⟩:=Cz l.tl hk;rw[e2] at e3;injection e3 with e3
  injection e3 with q1 q2 q3
  subst q1 q3;rw[e1];have bd:Rel F [] (bV τ i) (val L ρ i)/\fj str (val L ρ i) (val L ρ i)=some true:=by
   rcases JF bj with⟨n,rfl,e⟩ | ⟨t,rfl,e⟩
   ·obtain⟨e2,w⟩:=dX z e;simp only[e,val,e2,conc,Rel,fj,decide_true];exact⟨⟨trivial,w⟩,trivial⟩
   ·obtain⟨e2,w⟩:=jl z e;simp only[e,val,e2,conc,Rel,fj,decide_true];exact⟨⟨trivial,w⟩,trivial⟩
  have bz:Rel F [] ((bV τ v).cel.Wo) (val L ρ v):=by
   have bx:=dH z ay;have da:=dU (L':=[]) hp bx;exact EX (sj z v) hp
  obtain⟨cs',az,bt⟩:=Dz bd.1 bz hE bi;refine⟨k,cs,e2,hE.isMap,bd.2,cs',az,?_⟩;have h4:=l.turn (o':=.box g 0 cs') (to:=.map es') e2 ⟨rfl,rfl⟩ (fun g' t' cM e=>by injection e with a b c;subst a b;exact⟨_,rfl⟩) (fun _ _=>⟨rfl,bt⟩);exact h4.Ws (c:=.und) (sv:=.v undef) ⟨_,rfl,by simp only[Rel]⟩ h
 case copy e sz a b=>exact h.out _ _ _ _ l
 case copyX=>exact h.elim
 case storeX n a x=>exact CC l h
 all_goals
  simp only[bH,eB,dV,dG] at h;simp only[evalOp];exact MY (d:=d) (K:=K) l h
end
end Go.Fr.T
