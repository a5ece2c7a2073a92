/- Part of the proofs of the statements of this seat. -/
import Derived.Test.YtnlegbokpofcaaaDoorFW1
set_option maxRecDepth 10000
set_option linter.unusedVariables false
set_option linter.unusedSimpArgs false
namespace Go.Fr.T
open Go Go.RowKit Go.Fr
def gk (Li:List Own) (R:List TO->C->Prop):aA->List Own->Value->Prop:=fun F Lo v =>
 ∃Mo c,Mo.length=Lo.length/\cO F (inp Lo) (iN Mo)/\Rel F (inp Lo) c v/\(∀(i:Nat) g t cs,Li[i]?=some (.box g t cs)->∃cs',Lo[i]?=some (.box g t cs'))/\R Mo c
structure CallsT (P:Program) (f:Nat) (args:List C) (Lin:List TO) (R:List TO->C->Prop):Prop where
 out:∀(F:aA) (Li:List Own) (vs:List Value),Li.length=Lin.length->cO F (inp Li) (iN Lin)->aB F (inp Li) args vs->CallsA P f vs.toArray F Li (gk Li R)
structure CallsTX (P:Program) (f:Nat) (args:List C) (Lin:List TO) (R:List TO->C->Prop) (Pp:Value->Prop):Prop where
 out:∀(F:aA) (Li:List Own) (vs:List Value),Li.length=Lin.length->cO F (inp Li) (iN Lin)->aB F (inp Li) args vs->sO P f vs.toArray F Li (gk Li R) Pp
theorem CallsT.toX {P:Program}{f:Nat}{args:List C}{Lin:List TO}{R:List TO->C->Prop}{Pp:Value->Prop}(h:CallsT P f args Lin R):CallsTX P f args Lin R Pp:=⟨fun F Li vs a c b=>(h.out F Li vs a c b).toX⟩
def aQ:List TO->List Nat->List Nat->Bool
 | .box _ _::l,k::ks,a::ko=>match Nat.beq k a with | true=>aQ l ks ko | false=>false
 | .box _ _::_,_,_=>false
 | .map _::l,k::ks,a::ko=>match Nat.beq k a with | true=>aQ l ks ko | false=>false
 | .map _::_,_,_=>false
 | .win _ _ _ _::l,k::ks,a::ko=>match Nat.beq k a with | true=>aQ l ks ko | false=>false
 | .win _ _ _ _::_,_,_=>false
 | .row _ _ _::l,_::ks,_::ko=>aQ l ks ko
 | .row _ _ _::l,_::ks,[]=>aQ l ks []
 | .row _ _ _::_,[],_=>false
 | [],_,_=>true
def lg (L:TL) (ks:List Nat):List Nat->Bool
 | []=>true
 | k::ko=>match fo ks k,L.get k with
  | true,_=>lg L ks ko
  | false,none=>lg L ks ko
  | false,some _=>false
def covers:TL->TL->Bool
 | [],_=>true
 | (k,_)::l,L1=>match L1.get k with | some _=>covers l L1 | none=>false
def lW:TL->TL->Bool
 | [],_=>true
 | (k,.box _ _)::l,L1=>match L1.get k with | some (.box _ _)=>lW l L1 | _=>false
 | (k,.map _)::l,L1=>match L1.get k with | some (.map _)=>lW l L1 | _=>false
 | (k,.win _ _ _ _)::l,L1=>match L1.get k with | some (.win _ _ _ _)=>lW l L1 | _=>false
 | (_,.row _ _ _)::l,L1=>lW l L1
def TL.kills (ks:List Nat) (L:TL):TL:=match ks with | []=>L | _=>L.Wh (C.kills ks)
def eI (ks:List Nat) (ρ:aT):aT:=match ks with | []=>ρ | _=>fun j=>(ρ j).kills ks
def rowsOf (L:TL):List Nat->List Nat
 | []=>[]
 | k::ks=>match L.get k with
  | some (.row _ _ _)=>k::rowsOf L ks
  | _=>rowsOf L ks
def Ol (Li Lo:List Own):Prop:=Lo.length=Li.length/\∀(i:Nat) o,Li[i]?=some o->∃o',Lo[i]?=some o'/\Own.like o o'
structure zy (P:Program) (f:Nat) (args:List C) (Lin:List TO) (R:List TO->C->Prop):Prop where
 out:∀(F:aA) (Li:List Own) (vs:List Value),Li.length=Lin.length->cO F (inp Li) (iN Lin)->aB F (inp Li) args vs->CallsA P f vs.toArray F Li (fun F' Lo v=>gk Li R F' Lo v/\Ol Li Lo)
inductive pL (P:Program) (f:Nat) (args:List C) (L:TL) (ρ:aT) (K:TL->aT->C->Prop):Prop
 | mk (out:∃(fz ks ko:List Nat),vP fz L ρ args fun L ρ args =>
  ∃(L1:TL) (Lin:List TO) (R:List TO->C->Prop),(L1=L\/(gives L L1 L1/\covers L L1=true))/\L1.sub ks=some Lin/\bE ks=true/\bE ko=true/\lg L1 ks ko=true/\aQ Lin ks ko=true /\
   CallsT P f (args.map fun c=>c.Wm.ren (cj ks 1000)) (Lin.map (TO.Wh (C.ren (cj ks 1000)))) R /\
   ∀v Mo,R Mo v->Wf v->(∀o∈Mo,o.Wf)->ko.length=Mo.length /\
    K (((L1.Wg ks).kills (rowsOf L1 ks)).puts ko (Mo.map (TO.Wh (C.ren (aW ko))))) (eI (rowsOf L1 ks) ρ) (v.ren (aW ko)).slt)
 | inpl (ks:List Nat) (Lin:List TO) (R:List TO->C->Prop) (hs:L.sub ks=some Lin) (hn:bE ks=true) (h:zy P f (args.map fun c=>c.Wm.ren (cj ks 1000)) (Lin.map (TO.Wh (C.ren (cj ks 1000)))) R)
   (k:∀v Mo,R Mo v->Wf v->(∀o∈Mo,o.Wf)->ks.length=Mo.length/\K ((L.Wg ks).puts ks (Mo.map (TO.Wh (C.ren (aW ks))))) ρ (v.ren (aW ks)).slt)
structure oV where
 ps:Value->Prop
 hb:List (Nat×Nat):=[]
 st:Option (TL->Value->Prop):=none
def kQ (L:TL) (ks:List Nat):List (Nat×Nat)->Bool
 | []=>true
 | (k,n)::l=>match fo ks k,L.get k with
  | false,some (.box _ cs)=>match cT cs n with | true=>kQ L ks l | false=>false
  | _,_=>false
structure kg (P:Program) (f:Nat) (args:List C) (Lin:List TO) (R:List TO->C->Prop) (Pp:Value->Prop):Prop where
 out:∀(F:aA) (Li:List Own) (vs:List Value),Li.length=Lin.length->cO F (inp Li) (iN Lin)->aB F (inp Li) args vs->sO P f vs.toArray F Li (fun F' Lo v=>gk Li R F' Lo v/\Ol Li Lo) Pp
inductive n9 (P:Program) (PS:oV) (f:Nat) (args:List C) (L:TL) (ρ:aT) (K:TL->aT->C->Prop):Prop
 | mk (out:∃(fz ks ko:List Nat),vP fz L ρ args fun L ρ args =>
  ∃(L1:TL) (Lin:List TO) (R:List TO->C->Prop) (Pp:Value->Prop),(L1=L\/(gives L L1 L1/\covers L L1=true))/\L1.sub ks=some Lin/\bE ks=true/\bE ko=true/\lg L1 ks ko=true/\aQ Lin ks ko=true/\kQ L1 ks PS.hb=true /\
   CallsTX P f (args.map fun c=>c.Wm.ren (cj ks 1000)) (Lin.map (TO.Wh (C.ren (cj ks 1000)))) R Pp/\(∀v,Pp v->PS.ps v) /\
   ∀v Mo,R Mo v->Wf v->(∀o∈Mo,o.Wf)->ko.length=Mo.length /\
    K (((L1.Wg ks).kills (rowsOf L1 ks)).puts ko (Mo.map (TO.Wh (C.ren (aW ko))))) (eI (rowsOf L1 ks) ρ) (v.ren (aW ko)).slt)
 | inpl (ks:List Nat) (Lin:List TO) (R:List TO->C->Prop) (Pp:Value->Prop) (hs:L.sub ks=some Lin) (hn:bE ks=true) (hh:kQ L ks PS.hb=true) (h:kg P f (args.map fun c=>c.Wm.ren (cj ks 1000)) (Lin.map (TO.Wh (C.ren (cj ks 1000)))) R Pp) (hp:∀v,Pp v->PS.ps v)
   (k:∀v Mo,R Mo v->Wf v->(∀o∈Mo,o.Wf)->ks.length=Mo.length/\K ((L.Wg ks).puts ks (Mo.map (TO.Wh (C.ren (aW ks))))) ρ (v.ren (aW ks)).slt)
structure CallsTS (P:Program) (f:Nat) (args:List C) (Lin:List TO) (R:List TO->C->Prop) (Pp:List TO->Value->Prop):Prop where
 out:∀(F:aA) (Li:List Own) (vs:List Value),Li.length=Lin.length->cO F (inp Li) (iN Lin)->aB F (inp Li) args vs->uJ P f vs.toArray F Li (gk Li R) (fun F' Lo v=>∃Mo,Mo.length=Lo.length/\cO F' (inp Lo) (iN Mo)/\Pp Mo v)
structure zA (P:Program) (ps:Value->Prop) (hb:List (Nat×Nat)) (st:TL->Value->Prop) (f:Nat) (args:List C) (L:TL) (ρ:aT) (K:TL->aT->C->Prop):Prop where
 out:∃(ks ko:List Nat) (L1:TL) (Lin:List TO) (R:List TO->C->Prop) (Pp:List TO->Value->Prop),(L1=L\/(gives L L1 L1/\covers L L1=true))/\L1.sub ks=some Lin/\bE ks=true/\bE ko=true/\lg L1 ks ko=true/\aQ Lin ks ko=true/\kQ L1 ks hb=true /\
   CallsTS P f (args.map fun c=>c.Wm.ren (cj ks 1000)) (Lin.map (TO.Wh (C.ren (cj ks 1000)))) R Pp /\
   (∀v Mo,Pp Mo v->(∀o∈Mo,o.Wf)->ks.length=Mo.length->ps v/\st (((L1.Wg ks).kills (rowsOf L1 ks)).puts ks (Mo.map (TO.Wh (C.ren (aW ks))))) v) /\
   ∀v Mo,R Mo v->Wf v->(∀o∈Mo,o.Wf)->ko.length=Mo.length /\
    K (((L1.Wg ks).kills (rowsOf L1 ks)).puts ko (Mo.map (TO.Wh (C.ren (aW ko))))) (eI (rowsOf L1 ks) ρ) (v.ren (aW ko)).slt
def vQ:List C->Option (List Value)
 | []=>some []
 | .int k n::l=>match vQ l with | some vs=>some (.int k n::vs) | none=>none
 | .bool b::l=>match vQ l with | some vs=>some (.bool b::vs) | none=>none
 | .str s::l=>match vQ l with | some vs=>some (.string s::vs) | none=>none
 | _=>none
def Bb:C->Option Value
 | .ifc t (.int k n)=>some (.iface t (.int k n))
 | .ifc t (.bool b)=>some (.iface t (.bool b))
 | .ifc t (.str s)=>some (.iface t (.string s))
 | .ifc t (.agg cs)=>match vQ cs with | some vs=>some (.iface t (.agg vs.toArray)) | none=>none
 | _=>none
structure Om (PS:oV) (L:TL) (c:C):Prop where
 out:∃v,Bb c=some v/\kQ L [] PS.hb=true/\PS.ps v
structure P2 (ps:Value->Prop) (hb:List (Nat×Nat)) (st:TL->Value->Prop) (L:TL) (c:C):Prop where
 out:∃v,Bb c=some v/\kQ L [] hb=true/\ps v/\st L v
inductive Cq (P:Program) (f:Nat) (args:List C) (L:TL) (ρ:aT) (K:TL->aT->C->Prop):Prop
 | mk (out:∃(ks ko:List Nat) (Lin:List TO) (R:List TO->C->Prop),L.sub ks=some Lin/\bE ks=true/\bE ko=true/\lg L ks ko=true/\aQ Lin ks ko=true /\
   CallsT P f (args.map fun c=>c.Wm.ren (cj ks 1000)) (Lin.map (TO.Wh (C.ren (cj ks 1000)))) R /\
   ∀v Mo,R Mo v->Wf v->(∀o∈Mo,o.Wf)->ko.length=Mo.length /\
    K (((L.Wg ks).kills (rowsOf L ks)).puts ko (Mo.map (TO.Wh (C.ren (aW ko))))) (eI (rowsOf L ks) ρ) (v.ren (aW ko)).slt)
 | inpl (ks:List Nat) (Lin:List TO) (R:List TO->C->Prop) (hs:L.sub ks=some Lin) (hn:bE ks=true) (h:zy P f (args.map fun c=>c.Wm.ren (cj ks 1000)) (Lin.map (TO.Wh (C.ren (cj ks 1000)))) R)
   (k:∀v Mo,R Mo v->Wf v->(∀o∈Mo,o.Wf)->ks.length=Mo.length/\K ((L.Wg ks).puts ks (Mo.map (TO.Wh (C.ren (aW ks))))) ρ (v.ren (aW ks)).slt)
def vR:List Nat->List Nat->Bool
 | [],_=>true
 | k::ks,a=>match fo a k with | true=>false | false=>vR ks a
structure mM (P:Program) (PS:oV) (fb:List Nat) (f:Nat) (args:List C) (L:TL) (ρ:aT) (K:TL->aT->C->Prop):Prop where
 out:∃(ks:List Nat) (Lin:List TO) (R:List TO->C->Prop) (Pp:Value->Prop),L.sub ks=some Lin/\bE ks=true/\vR ks fb=true/\aQ Lin ks ks=true/\kQ L ks PS.hb=true /\
   CallsTX P f (args.map fun c=>c.Wm.ren (cj ks 1000)) (Lin.map (TO.Wh (C.ren (cj ks 1000)))) R Pp/\(∀v,Pp v->PS.ps v) /\
   ∀v Mo,R Mo v->Wf v->(∀o∈Mo,o.Wf)->ks.length=Mo.length /\
    K (((L.Wg ks).kills (rowsOf L ks)).puts ks (Mo.map (TO.Wh (C.ren (aW ks))))) (eI (rowsOf L ks) ρ) (v.ren (aW ks)).slt
structure uP (P:Program) (ps:Value->Prop) (hb:List (Nat×Nat)) (st:TL->Value->Prop) (fb:List Nat) (f:Nat) (args:List C) (L:TL) (ρ:aT) (K:TL->aT->C->Prop):Prop where
 out:∃(ks:List Nat) (Lin:List TO) (R:List TO->C->Prop) (Pp:List TO->Value->Prop),L.sub ks=some Lin/\bE ks=true/\vR ks fb=true/\aQ Lin ks ks=true/\kQ L ks hb=true /\
   CallsTS P f (args.map fun c=>c.Wm.ren (cj ks 1000)) (Lin.map (TO.Wh (C.ren (cj ks 1000)))) R Pp /\
   (∀v Mo,Pp Mo v->(∀o∈Mo,o.Wf)->ks.length=Mo.length->ps v/\st (TL.puts [] ks (Mo.map (TO.Wh (C.ren (aW ks))))) v) /\
   ∀v Mo,R Mo v->Wf v->(∀o∈Mo,o.Wf)->ks.length=Mo.length /\
    K (((L.Wg ks).kills (rowsOf L ks)).puts ks (Mo.map (TO.Wh (C.ren (aW ks))))) (eI (rowsOf L ks) ρ) (v.ren (aW ks)).slt
def lX (P:Program) (f:Nat):Prop:=∃fn,P.funcs[f]?=some fn/\fn.body.isSome=true/\(fn.name == "runtime.NumGoroutine")=false
structure Oo (P:Program) (f:Nat) (args:List C) (t sz:Nat) (els:List (List C)) (x:C):Prop where
 out:∀(F:aA) (rv:Value) (xs vs:List Value),cN F (inp [.row rv t sz els.length xs]) (.row t sz els) (.row rv t sz els.length xs)->aB F (inp [.row rv t sz els.length xs]) args vs ->
  CallsA P f vs.toArray F [.row rv t sz els.length xs] (fun F' Lo v=>Lo=[.row rv t sz els.length xs]/\Rel F' (inp []) x v)
inductive vS (P:Program) (f:Nat) (args:List C) (L:TL) (ρ:aT) (d:Option Nat) (K:TL->aT->C->Prop):Prop
 | frz (R:List TO->C->Prop) (h:CallsT P f (args.map fun c=>c.Wm.ren (cj [] 1000)) [] R) (k:∀v Mo,R Mo v->Wf v->Mo=[]/\K L ρ v.slt)
 | own (R:List TO->C->Prop) (k:Nat) (h:CallsT P f (args.map fun c=>c.Wm.ren (cj [] 1000)) [] R) (hd:d=some k) (hk:L.get k=none)
   (kk:∀v Mo,R Mo v->Wf v->(∀o∈Mo,o.Wf)->∃o,Mo=[o]/\K (L.set k (o.Wh (C.ren (aW [k])))) ρ (v.ren (aW [k])).slt)
 | row (R:List TO->C->Prop) (kr t sz:Nat) (els:List (List C)) (he:lX P f) (hk:L.get kr=some (.row t sz els)) (h:CallsT P f (args.map fun c=>(c.frz kr els).Wm.ren (cj [] 1000)) [] R)
   (kk:∀v Mo,R Mo v->Wf v->Mo=[]/\K ((L.Wh (C.kill kr)).set kr (.row t sz [])) (fun j=>(ρ j).kill kr) v.slt)
 | lent (kr t sz:Nat) (els:List (List C)) (x:C) (hk:L.get kr=some (.row t sz els)) (h:Oo P f (args.map fun c=>c.Wm.ren (cj [kr] 1000)) t sz els x) (k:Wf x->K L ρ x.slt)
def ML:Value->C
 | .int k n=>.int k n
 | .bool b=>.bool b
 | .string s=>.str s
 | _=>.any
def isNil:X->Bool
 | .c (.slice none 0 0)=>true
 | _=>false
def Cr:X->Bool
 | .c (.pointer none)=>true
 | _=>false
def Cs:X->Bool
 | .c .nilFunc=>true
 | _=>false
def tj:List Bool->List C->List C->Bool->Option Bool
 | [],[],[],c=>some c
 | true::ks,.int k a::l,.int e b::d,c=>match oZ k e with | true=>tj ks l d (c&&decide (a=b)) | false=>none
 | false::ks,.bool a::l,.bool b::d,c=>tj ks l d (c&&decide (a=b))
 | _,_,_,_=>none
structure EQ (P:Program) (t:TypeId) (nm:String) (K:Nat->Prop):Prop where
 out:∃f,m8 P t nm=some f/\K f
def LN (P:Program) (t:TypeId):Bool:=match P.underlying t with | some (.interface _)=>true | _=>false
def zB (ρ:aT):List (Nat×Nat×X)->List C->(List C->Prop)->Prop
 | [],zs,K=>K zs
 | (off,n,x)::ps,zs,K=>match(bV ρ x).okc,cT (bS (bV ρ x)) n with
  | true,true=>fl (bS (bV ρ x)) fun vs=>fl (eH zs off vs) fun zs=>zB ρ ps zs K
  | _,_=>False
theorem tq {ρ:aT}:∀{ps:List (Nat×Nat×X)}{zs:List C}{K:List C->Prop},zB ρ ps zs K->∃cs,s8 ρ zs ps=some cs/\K cs
 | [],zs,K,h=>⟨zs,rfl,h⟩
 | (off,n,x)::ps,zs,K,h=>by
  simp only[zB] at h;simp only[s8];split at h
  ·rename_i a b;rw[dV,dV] at h
   first
   | exact tq h
   | (rw[a,b];exact tq h)
  ·exact h.elim
structure MN (k:Nat) (K:Nat->Prop):Prop where
 out:∃n,FK k=some n/\n<=9223372036854775807/\K n
def Io (t:Nat):Bool:=match Nat.beq t 0 with | true=>false | false=>Nat.ble t 1048575
structure MO (pre:List C) (off:Nat) (cs:List C) (n:Nat) (K:List C->Prop):Prop where
 out:(∃o,off=pre.length+o/\match cT ((cs.drop o).take n) n with | true=>K ((cs.drop o).take n) | false=>False)\/∃vs,(pre.drop off).take n=vs/\cT vs n=true/\K vs
structure P3 (pre:List C) (off:Nat) (cs:List C) (n:Nat) (vs:List C) (K:Nat->Prop) (K':List C->Prop):Prop where
 out:(∃o,off=pre.length+o/\match cT ((cs.drop o).take n) n with | true=>K o | false=>False)\/∃pre',off+n<=pre.length/\dF vs=true/\eH pre off vs=pre'/\K' pre'
structure P4 (offs:List Nat) (j:Nat) (K:Nat->Prop):Prop where
 out:∃o,offs[j]?=some o/\K o
def uc (k:Nat) (ρ:aT):List X->Option (List Nat)
 | []=>some []
 | x::xs=>match(bV ρ x).cel,uc k ρ xs with
  | .own j off,some l=>match Nat.beq j k with | true=>some (off::l) | false=>none
  | _,_=>none
def outT (o:dS) (L:TL) (ρ:aT) (V:C->Prop):Prop :=
 match o with
 | .mov x=>V (bV ρ x)
 | .pick c a b=>match bV ρ c with
  | .bool t=>vh t (V (bV ρ a)) (V (bV ρ b))
  | _=>False
 | .build zs ps=>fl (zs.map qI) fun zs=>zB ρ ps zs fun cs=>V (.agg cs)
 | .load agg n x=>match bV ρ x with
  | .own k off=>match L.get k with
   | some (.box _ cs)=>match cT ((cs.drop off).take n) n with
    | true=>V (zx agg ((cs.drop off).take n))
    | false=>False
   | some (.win _ pre cs _)=>MO pre off cs n fun vs=>V (zx agg vs)
   | _=>False
  | .pt es off=>match cT ((es.drop off).take n) n with
   | true=>V (zx agg ((es.drop off).take n))
   | false=>False
  | .ownv k off=>match L.get k with
   | some (.box _ cs)=>match cT ((cs.drop off).take n) n with
    | true=>V (zx agg ((cs.drop off).take n))
    | false=>False
   | some (.win _ pre cs _)=>MO pre off cs n fun vs=>V (zx agg vs)
   | _=>False
  | .elr k j off=>match L.get k with
   | some (.row _ _ els)=>Ji els j off n fun cs=>V (zx agg cs)
   | _=>False
  | .slp k d j=>match agg,Nat.beq n 1 with
   | false,true=>P4 d j fun o=>V (.ownv k o)
   | _,_=>False
  | _=>False
 | .loadR agg n x=>match bV ρ x with
  | .own k off=>match L.get k with
   | some (.box _ cs)=>match cT ((cs.drop off).take n) n with
    | true=>V (zx agg ((cs.drop off).take n))
    | false=>False
   | _=>False
  | .pt es off=>match cT ((es.drop off).take n) n with
   | true=>V (zx agg ((es.drop off).take n))
   | false=>False
  | .ownv k off=>match L.get k with
   | some (.box _ cs)=>match cT ((cs.drop off).take n) n with
    | true=>V (zx agg ((cs.drop off).take n))
    | false=>False
   | _=>False
  | .elr k j off=>match L.get k with
   | some (.row _ _ els)=>Ji els j off n fun cs=>V (zx agg cs)
   | _=>False
  | _=>False
 | .loadD agg n x=>match bV ρ x with
  | .own k off=>match L.get k with
   | some (.box _ cs)=>match cT ((cs.drop off).take n) n with
    | true=>V (zx agg ((cs.drop off).take n))
    | false=>False
   | some (.win _ pre cs _)=>MO pre off cs n fun vs=>V (zx agg vs)
   | _=>False
  | .pt es off=>match cT ((es.drop off).take n) n with
   | true=>V (zx agg ((es.drop off).take n))
   | false=>False
  | _=>False
 | .gload g=>match uH g with
  | some k=>V (.opq k)
  | none=>False
 | .loadF agg n x=>match bV ρ x with
  | .pt es off=>match cT ((es.drop off).take n) n with
   | true=>V (zx agg ((es.drop off).take n))
   | false=>False
  | _=>False
 | .loadK key agg n x=>match bV ρ x with
  | .own k off=>match Nat.beq k key with
   | true=>match L.get k with
    | some (.box _ cs)=>match cT ((cs.drop off).take n) n with
     | true=>V (zx agg ((cs.drop off).take n))
     | false=>False
    | _=>False
   | false=>False
  | _=>False
 | .b2sD x=>match(bV ρ x).can with
  | .sl els=>gR els fun bs=>V (.str ⟨bs.toArray⟩)
  | _=>False
 | .b2sR x=>match bV ρ x with
  | .rw k=>match L.get k with
   | some (.row _ sz els)=>match Nat.beq sz 1 with
    | true=>gR els fun bs=>V (.str ⟨bs.toArray⟩)
    | false=>False
   | _=>False
  | _=>False
 | .nilck x=>match bV ρ x with
  | .own k off=>V (.own k off)
  | .pt es off=>V (.pt es off)
  | .ownv k off=>V (.ownv k off)
  | .fn f fi ca=>V (.fn f fi ca)
  | .mval nm c=>match c with
   | .ifc t c=>LC Er t nm=true/\V (.mval nm (.ifc t c))
   | _=>False
  | .ifo (some nm) t k off=>LC Er t nm=true/\V (.ifo (some nm) t k off)
  | _=>False
 | .mkmv nm x=>match bV ρ x with
  | .ifc t c=>V (.mval nm (.ifc t c))
  | .ifo none t k off=>V (.ifo (some nm) t k off)
  | _=>False
 | .bin op x y=>match bV ρ x,bV ρ y with
  | .int k a,.int q b=>match FP op with
   | true=>shI op k a b fun v=>V (ML v)
   | false=>match oZ k q with
    | true=>binI op k a b fun v=>V (ML v)
    | false=>False
  | .str a,.str b=>binS op a b fun v=>V (ML v)
  | _,_=>False
 | .eqB neg x y=>match bV ρ x,bV ρ y with
  | .bool a,.bool b=>V (.bool (mT neg (decide (a=b))))
  | _,_=>False
 | .eqP neg x y=>match Cr y,bV ρ x with
  | true,.own _ _=>V (.bool (mT neg false))
  | true,.ownv _ _=>V (.bool (mT neg false))
  | true,.pt _ _=>V (.bool (mT neg false))
  | true,.nilp=>V (.bool (mT neg true))
  | _,_=>False
 | .eqS neg x y=>match isNil y,bV ρ x with
  | true,.sl els=>∀b,(els≠[]->b=false)->V (.bool (mT neg b))
  | true,.slx _=>V (.bool (mT neg false))
  | true,.nils=>V (.bool (mT neg true))
  | _,_=>False
 | .eqF neg x y=>match Cs y,bV ρ x with
  | true,.nilf=>V (.bool (mT neg true))
  | true,.fn _ _ _=>V (.bool (mT neg false))
  | _,_=>False
 | .eqN neg x=>match bV ρ x with
  | .ifc _ _=>V (.bool (mT neg false))
  | .ifo none _ _ _=>V (.bool (mT neg false))
  | .opq k=>match Cc k with
   | some b=>V (.bool (mT neg b))
   | none=>False
  | _=>False
 | .tas t z x=>match bV ρ x with
  | .ifc p c=>match Nat.beq p t with
   | true=>fc c fun c=>V (.tup [c,.bool true])
   | false=>fc (cv z).cel fun c=>V (.tup [c,.bool false])
  | .ifo none p k off=>match Nat.beq p t with
   | true=>V (.tup [.own k off,.bool true])
   | false=>fc (cv z).cel fun c=>V (.tup [c,.bool false])
  | _=>False
 | .eqA neg ks x y=>match bV ρ x,bV ρ y with
  | .agg cs,.agg ds=>match tj ks cs ds true with
   | some b=>V (.bool (mT neg b))
   | none=>False
  | _,_=>False
 | .mkif t x=>match bV ρ x with
  | .int k n=>V (.ifc t (.int k n))
  | .bool b=>V (.ifc t (.bool b))
  | .str s=>V (.ifc t (.str s))
  | .pt es off=>V (.ifc t (.pt es off))
  | .own k off=>V (.ifo none t k off)
  | .ownv k off=>V (.ifo none t k off)
  | .agg cs=>match dF cs with
   | true=>fl cs fun cs=>V (.ifc t (.agg cs))
   | false=>False
  | _=>False
 | .un op x=>match op,bV ρ x with
  | .not,.bool b=>V (.bool (!b))
  | .neg,.int k n=>Fit k (0-n) fun m=>V (.int k m)
  | .xor,.int k n=>V (.int k (k.wrap (BitVec.ofInt k.bits (if k.signed then -1 else k.max) ^^^ BitVec.ofInt k.bits n).toNat))
  | _,_=>False
 | .conv k x=>match bV ρ x with
  | .int _ n=>Fit k n fun m=>V (.int k m)
  | _=>False
 | .b2s x=>match(bV ρ x).can with
  | .sl els=>gR els fun bs=>V (.str ⟨bs.toArray⟩)
  | _=>False
 | .mkfn f fi ca=>V (.fn f (dM ρ fi) (dM ρ ca))
 | .slc sz x lo hi=>match(bV ρ x).can with
  | .sl els=>match EP ρ 0 lo,EP ρ els.length hi with
   | some l,some h=>AZ l h els sz fun l h=>V (.sl ((els.drop l).take (h-l)))
   | _,_=>False
  | _=>False
 | .slcS x lo hi=>match bV ρ x with
  | .str s=>match EP ρ 0 lo,EP ρ s.size hi with
   | some l,some h=>mI l h s.size fun l h=>V (.str (s.extract l h))
   | _,_=>False
  | _=>False
 | .fieldA off x=>match bV ρ x with
  | .own k o=>V (.own k (o+off))
  | .pt es o=>V (.pt es (o+off))
  | .elr k j o=>V (.elr k j (o+off))
  | .ownv k o=>V (.ownv k (o+off))
  | _=>False
 | .fieldV agg off n x=>match bV ρ x with
  | .agg cs=>match cT ((cs.drop off).take n) n with
   | true=>V (zx agg ((cs.drop off).take n))
   | false=>False
  | _=>False
 | .idxA sz x i=>match(bV ρ x).can,bV ρ i with
  | .sl els,.int _ i=>Cp els i sz fun es=>V (.pt es 0)
  | .rw k,.int _ i=>match L.get k with
   | some (.row _ e els)=>match Nat.beq sz e with
    | true=>Mg i els.length (V (.elr k i.toNat 0))
    | false=>False
   | _=>False
  | .slo k d,.int _ i=>match Nat.beq sz 1 with
   | true=>Mg i d.length (V (.slp k d i.toNat))
   | false=>False
  | _,_=>False
 | .idxS x i=>match bV ρ x,bV ρ i with
  | .str s,.int _ i=>Mg i s.size (V (.int .u8 ((s.data.toList.getD i.toNat 0).toNat)))
  | _,_=>False
 | .extr x i=>match bV ρ x with
  | .tup vs=>match vs[i]? with
   | some v=>V v.slt
   | none=>False
  | _=>False
 | .len x=>match(bV ρ x).can with
  | .sl els=>V (.int .i64 els.length)
  | .rw k=>match L.get k with
   | some (.row _ _ els)=>V (.int .i64 els.length)
   | _=>False
  | .opq k=>MN k fun n=>V (.int .i64 n)
  | .slo k d=>V (.int .i64 d.length)
  | _=>False
 | .lenS x=>match bV ρ x with
  | .str s=>V (.int .i64 s.size)
  | _=>False
 | .mlook str ok z x i=>match bV ρ x with
  | .mpr k=>match L.get k with
   | some (.map es)=>MK str es (bV ρ i) (fun v=>match ok with | true=>V (.tup [v,.bool true]) | false=>V v.slt) (match ok with | true=>V (.tup [cv z,.bool false]) | false=>V (cv z))
   | _=>False
  | _=>False
 | .mlen x=>match bV ρ x with
  | .mpr k=>match L.get k with
   | some (.map es)=>es.length<=maxLen/\V (.int .i64 es.length)
   | _=>False
  | _=>False
 | .mm mx args=>match args.map (bV ρ) with
  | .int k a::l=>match PG mx a l with
   | some m=>(Lit.int k m).wf=true/\V (.int k m)
   | none=>False
  | _=>False
 | _=>False
abbrev TK:=TL->aT->Prop
def storeT (b:Bool) (n:Nat) (a x:X) (d:Option Nat) (L:TL) (ρ:aT) (K:TK):Prop :=
 match(bV ρ x).okc,cT (bS (bV ρ x)) n,dm (bS (bV ρ x)),bV ρ a with
 | true,true,true,.own k off=>match L.get k with
  | some (.box t cs)=>match cT ((cs.drop off).take n) n with
   | true=>fl (eH cs off (bS (bV ρ x))) fun cs=>K (L.set k (.box t cs)) (bw d .und ρ)
   | false=>False
  | some (.win t pre cs post)=>match b with
   | false=>P3 pre off cs n (bS (bV ρ x)) (fun o=>fl (eH cs o (bS (bV ρ x))) fun cs=>K (L.set k (.win t pre cs post)) (bw d .und ρ)) fun pre'=>K (L.set k (.win t pre' cs post)) (bw d .und ρ)
   | true=>False
  | _=>False
 | true,true,true,.elr k j off=>match b,L.get k,dF (bS (bV ρ x)) with
  | false,some (.row t sz els),true=>Nat.ble (off+n) sz=true/\Ji els j off n fun _=>∀es,els[j]?=some es->K (L.set k (.row t sz (els.set j (eH es off ((bS (bV ρ x)).map C.can))))) (bw d .und ρ)
  | _,_,_=>False
 | _,_,_,_=>False
structure Jk (es:List C) (off:Nat) (b:Bool) (K:Prop):Prop where
 same:es[off]?=some (.bool b)
 out:K
def Ct (n:Nat) (a x:X) (d:Option Nat) (L:TL) (ρ:aT) (K:TK):Prop :=
 match bV ρ a,bV ρ x with
 | .pt es off,.bool b=>match Nat.beq n 1 with
  | true=>Jk es off b (K L (bw d .und ρ))
  | false=>False
 | _,_=>storeT false n a x d L ρ K
def Jl (e sz bytes:Nat) (s x:C) (d:Option Nat) (L:TL) (ρ:aT) (K:TK):Prop :=
 match s,x.can,d with
 | .rw k,.sl news,_=>match L.get k with
  | some (.row h b els)=>match Nat.beq e h,Nat.beq sz b with
   | true,true=>rj els news sz bytes (fT ((L.Wh (C.kill k)).set k (.row e sz (els++news))) fun L=>K L (bw d (.rw k) fun j=>(ρ j).kill k))
   | _,_=>False
  | _=>False
 | .nils,.sl news,some k=>match L.get k with
  | none=>rj [] news sz bytes (fT (L.set k (.row e sz news)) fun L=>K L (bw d (.rw k) ρ))
  | some _=>False
 | .slx els,.sl news,some k=>match L.get k with
  | none=>0<news.length/\(∀es∈els,es.length=sz)/\rj els news sz bytes (fT (L.set k (.row e sz (els++news))) fun L=>K L (bw d (.rw k) ρ))
  | some _=>False
 | .rw k,.rw c,_=>match L.get k,L.get c with
  | some (.row h b els),some (.row f a news)=>match Nat.beq e h,Nat.beq sz b,Nat.beq sz a with
   | true,true,true=>rj els news sz bytes (fT ((L.Wh (C.kill k)).set k (.row e sz (els++news))) fun L=>K L (bw d (.rw k) fun j=>(ρ j).kill k))
   | _,_,_=>False
  | _,_=>False
 | .nils,.rw c,some k=>match L.get k,L.get c with
  | none,some (.row f a news)=>match Nat.beq sz a with
   | true=>rj [] news sz bytes (K (L.set k (.row e sz news)) (bw d (.rw k) ρ))
   | false=>False
  | _,_=>False
 | _,_,_=>False
structure Oq (P:Program) (o:dS) (d:Option Nat) (M:TL) (τ:aT) (K:TL->aT->Prop):Prop where
 out:∀(G:Nat->Option (Nat×TypeId)) (F:aA) (L:Loc) (ρ:Env),TS G F L ρ M τ->evalOp P o d F L ρ fun F L ρ=>∃M τ,TS G F L ρ M τ/\K M τ
def bH (P:Program) (o:dS) (d:Option Nat) (L:TL) (ρ:aT) (K:TK):Prop :=
 match o with
 | .box t x=>match d with
  | some k=>match L.get k,(bV ρ x).okc,Io t with
   | none,true,true=>fl (bS (bV ρ x)) fun cs=>K (L.set k (.box t cs)) (bw d (.own k 0) ρ)
   | _,_,_=>False
  | none=>False
 | .boxD t x=>match d with
  | some k=>match L.get k,(bV ρ x).okc,Io t with
   | none,true,true=>fl (bS (bV ρ x)) fun cs=>K (L.set k (.box t cs)) (bw d (.own k 0) ρ)
   | _,_,_=>False
  | none=>False
 | .boxF t x=>match(bV ρ x).okc,dm (bS (bV ρ x)),dF (bS (bV ρ x)) with
  | true,true,true=>fl ((bS (bV ρ x)).map C.can) fun cs=>K L (bw d (.pt cs 0) ρ)
  | _,_,_=>False
 | .alloc t zs=>match d with
  | some k=>match L.get k,Io t with
   | none,true=>fl (zs.map qI) fun cs=>K (L.set k (.box t cs)) (bw d (.own k 0) ρ)
   | _,_=>False
  | none=>False
 | .allocD t zs=>match d with
  | some k=>match L.get k,Io t with
   | none,true=>fl (zs.map qI) fun cs=>K (L.set k (.box t cs)) (bw d (.own k 0) ρ)
   | _,_=>False
  | none=>False
 | .mkF e n sz xs=>match pI ρ sz xs,Nat.beq xs.length n,Nat.ble n 9223372036854775807 with
  | true,true,true=>K L (bw d (.slx (s6 ρ xs)) ρ)
  | false,true,true=>match Nat.beq sz 1,xs with
   | true,x::_=>match(bV ρ x).cel with
    | .own k _=>match uc k ρ xs with
     | some q=>K L (bw d (.slo k q) ρ)
     | none=>False
    | _=>False
   | _,_=>False
  | _,_,_=>False
 | .mkFD e n sz xs=>match pI ρ sz xs,Nat.beq xs.length n,Nat.ble n 9223372036854775807 with
  | true,true,true=>K L (bw d (.slx (s6 ρ xs)) ρ)
  | false,true,true=>match Nat.beq sz 1,xs with
   | true,x::_=>match(bV ρ x).cel with
    | .own k _=>match uc k ρ xs with
     | some q=>K L (bw d (.slo k q) ρ)
     | none=>False
    | _=>False
   | _,_=>False
  | _,_,_=>False
 | .mkR e n sz xs=>match pI ρ sz xs,Nat.beq xs.length n,Nat.ble n 9223372036854775807,d with
  | true,true,true,some k=>match L.get k with
   | none=>K (L.set k (.row e sz (s6 ρ xs))) (bw d (.rw k) ρ)
   | some _=>False
  | _,_,_,_=>False
 | .s2b _ x=>match bV ρ x with
  | .str s=>K L (bw d (.sl (af s.data.toList)) ρ)
  | _=>False
 | .makeS e sz bytes zs l c=>match bV ρ l,bV ρ c,d with
  | .int _ n,.int _ m,some k=>match L.get k,cT (zs.map qI) sz,dm (zs.map qI) with
   | none,true,true=>sP n m bytes fun n=>K (L.set k (.row e sz (List.replicate n ((zs.map qI).map C.can)))) (bw d (.rw k) ρ)
   | _,_,_=>False
  | _,_,_=>False
 | .makeSD e sz n zs=>match d with
  | some k=>match L.get k,cT (zs.map qI) sz,(Nat.beq n 0||dm (zs.map qI)),Nat.ble n 9223372036854775807 with
   | none,true,true,true=>K (L.set k (.row e sz (List.replicate n ((zs.map qI).map C.can)))) (bw d (.rw k) ρ)
   | _,_,_,_=>False
  | none=>False
 | .makeSV e sz bytes zs x=>match bV ρ x,d with
  | .int _ n,some k=>match L.get k,cT (zs.map qI) sz,dm (zs.map qI) with
   | none,true,true=>sP n n bytes fun n=>K (L.set k (.row e sz (List.replicate n ((zs.map qI).map C.can)))) (bw d (.rw k) ρ)
   | _,_,_=>False
  | _,_=>False
 | .storeK key n a x=>match bV ρ a with
  | .own k _=>match Nat.beq k key with
   | true=>storeT true n a x d L ρ K
   | false=>False
  | _=>False
 | .copy e sz a b=>Oq P (.copy e sz a b) d L ρ K
 | .copyX _ _ _ _=>False
 | .storeX n a x=>storeT false n a x d L ρ K
 | .store n a x=>Ct n a x d L ρ K
 | .storeD n a x=>storeT true n a x d L ρ K
 | .call f args=>fl (dM ρ args) fun args=>pL P f args L ρ fun L' ρ' v=>fT L' fun L'=>uz v fun v=>K L' (bw d v ρ')
 | .callV f args=>match bV ρ f with
  | .fn f fi ca=>fl (fi++dM ρ args++ca) fun args=>pL P f args L ρ fun L' ρ' v=>fT L' fun L'=>uz v fun v=>K L' (bw d v ρ')
  | .mval nm c=>match c with
   | .ifc t c=>EQ P t nm fun f=>fl (dM ρ args) fun args=>pL P f (c::args) L ρ fun L' ρ' v=>fT L' fun L'=>uz v fun v=>K L' (bw d v ρ')
   | _=>False
  | .ifo (some nm) t k off=>EQ P t nm fun f=>fl (dM ρ args) fun args=>pL P f (.own k off::args) L ρ fun L' ρ' v=>fT L' fun L'=>uz v fun v=>K L' (bw d v ρ')
  | .mof t nm=>match LN P t,dM ρ args with
   | true,.ifc y c::p=>EQ P y nm fun f=>fl p fun p=>pL P f (c::p) L ρ fun L' ρ' v=>fT L' fun L'=>uz v fun v=>K L' (bw d v ρ')
   | _,_=>False
  | _=>False
 | .callD f args=>fl (dM ρ args) fun args=>vS P f args L ρ d fun L' ρ' v=>fT L' fun L'=>uz v fun v=>K L' (bw d v ρ')
 | .callVD f args=>match bV ρ f with
  | .fn f fi ca=>fl (fi++dM ρ args++ca) fun args=>vS P f args L ρ d fun L' ρ' v=>fT L' fun L'=>uz v fun v=>K L' (bw d v ρ')
  | .mval nm c=>match c with
   | .ifc t c=>EQ P t nm fun f=>fl (dM ρ args) fun args=>vS P f (c::args) L ρ d fun L' ρ' v=>fT L' fun L'=>uz v fun v=>K L' (bw d v ρ')
   | _=>False
  | _=>False
 | .callO f args=>fl (dM ρ args) fun args=>Cq P f args L ρ fun L' ρ' v=>fT L' fun L'=>uz v fun v=>K L' (bw d v ρ')
 | .callVO f args=>match bV ρ f with
  | .fn f fi ca=>fl (fi++dM ρ args++ca) fun args=>Cq P f args L ρ fun L' ρ' v=>fT L' fun L'=>uz v fun v=>K L' (bw d v ρ')
  | _=>False
 | .mkmap=>match d with
  | some k=>match L.get k with
   | none=>K (L.set k (.map [])) (bw d (.mpr k) ρ)
   | some _=>False
  | none=>False
 | .mupd str x i v=>match bV ρ x with
  | .mpr k=>match L.get k,Gy str (bV ρ i),(bV ρ v).okc,dF (bS (bV ρ v)) with
   | some (.map es),true,true,true=>Oj str es (bV ρ i) ((bV ρ v).cel.Wm) fun es=>K (L.set k (.map es)) (bw d .und ρ)
   | _,_,_,_=>False
  | _=>False
 | .look x i=>match bV ρ x,bV ρ i with
  | .opq k,.int .i64 n=>match uI k n with
   | some (r,b)=>K L (bw d (.tup [.int .i64 r,.bool b]) ρ)
   | none=>False
  | _,_=>False
 | .app e sz bytes _ s x=>Jl e sz bytes (bV ρ s) (bV ρ x) d L ρ K
 | .appX e sz bytes _ s x=>Jl e sz bytes (bV ρ s) (bV ρ x) d L ρ K
 | .appD e sz bytes _ s x=>match bV ρ s,(bV ρ x).can,d with
  | .rw k,.sl news,_=>match L.get k with
   | some (.row u h els)=>match Nat.beq e u,Nat.beq sz h with
    | true,true=>rj els news sz bytes (fT ((L.Wh (C.kill k)).set k (.row e sz (els++news))) fun L=>K L (bw d (.rw k) fun j=>(ρ j).kill k))
    | _,_=>False
   | _=>False
  | .nils,.sl news,some k=>match L.get k with
   | none=>rj [] news sz bytes (fT (L.set k (.row e sz news)) fun L=>K L (bw d (.rw k) ρ))
   | some _=>False
  | .slx els,.sl news,some k=>match L.get k with
   | none=>0<news.length/\(∀es∈els,es.length=sz)/\rj els news sz bytes (fT (L.set k (.row e sz (els++news))) fun L=>K L (bw d (.rw k) ρ))
   | some _=>False
  | _,_,_=>False
 | .appS e s x=>match bV ρ s,bV ρ x,d with
  | .rw k,.str t,_=>match L.get k with
   | some (.row u h els)=>match Nat.beq e u,Nat.beq 1 h with
    | true,true=>rj els (af t.data.toList) 1 1 (fT ((L.Wh (C.kill k)).set k (.row e 1 (els++af t.data.toList))) fun L=>K L (bw d (.rw k) fun j=>(ρ j).kill k))
    | _,_=>False
   | _=>False
  | .nils,.str t,some k=>match L.get k with
   | none=>rj [] (af t.data.toList) 1 1 (K (L.set k (.row e 1 (af t.data.toList))) (bw d (.rw k) ρ))
   | some _=>False
  | _,_,_=>False
 | .appZ e bytes w s x=>match bV ρ s,bV ρ x,d with
  | .rw k,.int _ i,_=>match L.get k with
   | some (.row u h els)=>match Nat.beq e u,Nat.beq 1 h with
    | true,true=>GA i fun m=>rj els (List.replicate m [.int w 0]) 1 bytes (fT ((L.Wh (C.kill k)).set k (.row e 1 (els++List.replicate m [.int w 0]))) fun L=>K L (bw d (.rw k) fun j=>(ρ j).kill k))
    | _,_=>False
   | _=>False
  | .nils,.int _ i,some k=>match L.get k with
   | none=>GA i fun m=>rj [] (List.replicate m [.int w 0]) 1 bytes (K (L.set k (.row e 1 (List.replicate m [.int w 0]))) (bw d (.rw k) ρ))
   | some _=>False
  | _,_,_=>False
 | o=>outT o L ρ fun v=>uz v fun v=>K L (bw d v ρ)
def tu (P:Program) (PS:oV) (o:dS) (d:Option Nat) (L:TL) (ρ:aT) (K:TK):Prop :=
 match o with
 | .call f args=>fl (dM ρ args) fun args=>match PS.st with
  | none=>n9 P PS f args L ρ fun L' ρ' v=>fT L' fun L'=>uz v fun v=>K L' (bw d v ρ')
  | some s=>zA P PS.ps PS.hb s f args L ρ fun L' ρ' v=>fT L' fun L'=>uz v fun v=>K L' (bw d v ρ')
 | .callV f args=>match bV ρ f with
  | .fn f fi ca=>fl (fi++dM ρ args++ca) fun args=>match PS.st with
   | none=>n9 P PS f args L ρ fun L' ρ' v=>fT L' fun L'=>uz v fun v=>K L' (bw d v ρ')
   | some s=>zA P PS.ps PS.hb s f args L ρ fun L' ρ' v=>fT L' fun L'=>uz v fun v=>K L' (bw d v ρ')
  | .ifo (some nm) t k off=>EQ P t nm fun f=>fl (dM ρ args) fun args=>match PS.st with
   | none=>n9 P PS f (.own k off::args) L ρ fun L' ρ' v=>fT L' fun L'=>uz v fun v=>K L' (bw d v ρ')
   | some s=>zA P PS.ps PS.hb s f (.own k off::args) L ρ fun L' ρ' v=>fT L' fun L'=>uz v fun v=>K L' (bw d v ρ')
  | _=>False
 | .pan x=>match PS.st with
  | none=>Om PS L (bV ρ x)
  | some s=>P2 PS.ps PS.hb s L (bV ρ x)
 | _=>False
def Cu (P:Program) (PS:oV) (a:List Nat) (o:dS) (d:Option Nat) (L:TL) (ρ:aT) (K:TK):Prop :=
 match o with
 | .call f args=>fl (dM ρ args) fun args=>match PS.st with
  | some s=>uP P PS.ps PS.hb s a f args L ρ fun L' ρ' v=>fT L' fun L'=>uz v fun v=>K L' (bw d v ρ')
  | none=>mM P PS a f args L ρ fun L' ρ' v=>fT L' fun L'=>uz v fun v=>K L' (bw d v ρ')
 | .callV f args=>match bV ρ f with
  | .fn f fi ca=>fl (fi++dM ρ args++ca) fun args=>match PS.st with
   | some s=>uP P PS.ps PS.hb s a f args L ρ fun L' ρ' v=>fT L' fun L'=>uz v fun v=>K L' (bw d v ρ')
   | none=>mM P PS a f args L ρ fun L' ρ' v=>fT L' fun L'=>uz v fun v=>K L' (bw d v ρ')
  | .ifo (some nm) t k off=>EQ P t nm fun f=>fl (dM ρ args) fun args=>match PS.st with
   | some s=>uP P PS.ps PS.hb s a f (.own k off::args) L ρ fun L' ρ' v=>fT L' fun L'=>uz v fun v=>K L' (bw d v ρ')
   | none=>mM P PS a f (.own k off::args) L ρ fun L' ρ' v=>fT L' fun L'=>uz v fun v=>K L' (bw d v ρ')
  | _=>False
 | _=>False
def yA:List ak->TL->Bool
 | [],_=>true
 | s::l,L=>match rV s with
  | none=>yA l L
  | some k=>match L.get k with | none=>yA l L | some _=>false
def qJ (d:Option Nat) (ρ:aT):aT :=
 match d with
 | some k=>fun j=>match Nat.beq j k with | true=>(ρ k).WH | false=>ρ j
 | none=>ρ
def GJ (a:Bool) (d:Option Nat) (ρ:aT):aT:=match a with | true=>ρ | false=>qJ d ρ
def stepT (P:Program) (PS:oV) (e:Bool) (s:ak) (c:TL->aT->TK->Prop) (L:TL) (ρ:aT) (K:TK):Prop :=
 match s with
 | .op d o none=>bH P o d L ρ fun L' ρ'=>c L' (GJ e d ρ') K
 | .op d o (some (s,a))=>match ρ s with
  | .bool b=>vh b
    (match a with
     | true=>bH P o d L (bw (some s) (.bool true) ρ) fun L' ρ'=>c L' (GJ e d ρ') K
     | false=>c L (bw d .und (bw (some s) (.bool true) ρ)) K)
    (match a with
     | false=>bH P o d L (bw (some s) (.bool false) ρ) fun L' ρ'=>c L' (GJ e d ρ') K
     | true=>c L (bw d .und (bw (some s) (.bool false) ρ)) K)
  | .und=>c L (bw d .und ρ) K
  | _=>False
 | .frz k=>match e,L.get k with
  | false,some (.row _ _ els)=>fT ((L.del k).Wh (C.frz k els)) fun L=>c L (fun j=>(ρ j).frz k els) K
  | false,some (.box _ cs)=>match dm cs,dF cs,Nat.blt k 1000,fo (PS.hb.map (·.1)) k with
   | true,true,true,false=>fT ((L.del k).Wh (C.frb k cs)) fun L=>c L (fun j=>(ρ j).frb k cs) K
   | _,_,_,_=>False
  | _,_=>False
 | .pc d o none=>match e with
  | true=>False
  | false=>tu P PS o d L ρ fun L' ρ'=>c L' (qJ d ρ') K
 | .pc d o (some (s,a))=>match e,ρ s with
  | false,.bool b=>vh b
    (match a with
     | true=>tu P PS o d L (bw (some s) (.bool true) ρ) fun L' ρ'=>c L' (qJ d ρ') K
     | false=>c L (bw d .und (bw (some s) (.bool true) ρ)) K)
    (match a with
     | false=>tu P PS o d L (bw (some s) (.bool false) ρ) fun L' ρ'=>c L' (qJ d ρ') K
     | true=>c L (bw d .und (bw (some s) (.bool false) ρ)) K)
  | false,.und=>c L (bw d .und ρ) K
  | _,_=>False
def yB (P:Program) (PS:oV) (b:List Nat) (s:ak) (a:TL->aT->TK->Prop) (L:TL) (ρ:aT) (K:TK):Prop :=
 match s with
 | .pc d o none=>Cu P PS b o d L ρ fun L' ρ'=>a L' ρ' K
 | s=>stepT P PS true s a L ρ K
noncomputable def dn (P:Program) (PS:oV) (b:Bool) (ss:List ak):TL->aT->TK->Prop :=
 List.rec (motive:=fun _=>TL->aT->TK->Prop) (fun L ρ K=>K L ρ) (fun s _ a L ρ K=>stepT P PS b s a L ρ K) ss
noncomputable def jP (P:Program) (PS:oV) (b:List Nat) (ss:List ak):TL->aT->TK->Prop :=
 List.rec (motive:=fun _=>TL->aT->TK->Prop) (fun L ρ K=>K L ρ) (fun s _ a L ρ K=>yB P PS b s a L ρ K) ss
theorem jf {P:Program}{PS:oV}{b:List Nat}{s:ak}{a:List ak}{L:TL}{ρ:aT}{K:TK}:jP P PS b (s::a) L ρ K=yB P PS b s (jP P PS b a) L ρ K:=rfl
theorem eP {P:Program}{PS:oV}{b:Bool}{s:ak}{a:List ak}{L:TL}{ρ:aT}{K:TK}:dn P PS b (s::a) L ρ K=stepT P PS b s (dn P PS b a) L ρ K:=rfl
def rm:List C->C
 | [v]=>v
 | l=>.tup l
def pM (L:TL) (ρ:aT):List RV->(List C->Prop)->Prop
 | [],K=>K []
 | (t,none)::l,K=>pM L ρ l fun vs=>K ((ρ t).cel::vs)
 | (t,some (agg,n))::l,K=>match ρ t with
  | .own k off=>match L.get k with
   | some (.box _ cs)=>match cT ((cs.drop off).take n) n with
    | true=>pM L ρ l fun vs=>K ((zx agg ((cs.drop off).take n)).cel::vs)
    | false=>False
   | _=>False
  | _=>False
structure oP (Lin:List TO) (L:TL) (v:C) (R:List TO->C->Prop):Prop where
 out:∃(fz ko:List Nat),vP fz L (fun _=>.any) [v] fun L _ vs =>
  ∃(L1:TL) (c c1:C) (Mo:List TO),vs=[c]/\((L1=L/\c1=c)\/(gives L L1 L1/\Im L L1 c c1))/\L1.sub ko=some Mo/\bE ko=true/\aQ Lin (List.range' 1000 Lin.length) ko=true /\
   (s9 [c1]->R (Mo.map (TO.Wh (C.ren (cj ko 1000)))) (c1.Ww.ren (cj ko 1000)))
def r9 (asg:List Nat) (ρ:aT):aT:=fun j=>match fo asg j with | true=>.any | false=>(ρ j).WU
structure vT (body:TL->aT->TK->Prop) (asg:List Nat) (L:TL) (ρ:aT):Prop where
 out:∃(σ:Type) (x0:σ) (Inv:σ->Prop) (ls:List Nat) (lv:σ->List C) (Lf:σ->TL) (μ:σ->Nat),
  Inv x0/\mW L (Lf x0) ls (lv x0) ρ/\gives L (Lf x0) (Lf x0)/\(∀x,lW L (Lf x)=true)/\(∀x,(lv x).length=ls.length) /\
  ∀x,Inv x->s9 (lv x)->(∀k o,(Lf x).get k=some o->o.Wf)->body (Lf x) (pJ ls (lv x) (r9 asg ρ)) fun L' ρ' =>
   ∃x',Inv x'/\mW L' (Lf x') ls (lv x') ρ'/\gives L' (Lf x') (Lf x')/\μ x'<μ x
def dw:List ak->List Nat
 | []=>[]
 | .frz k::l=>k::dw l
 | .op _ _ _::l=>dw l
 | .pc _ _ _::l=>dw l
def ic:aJ->List Nat
 | .reg d=>dw d
 | .regD d=>dw d
 | .regX d=>dw d
 | .seq a b=>ic a++ic b
 | .cond _ a b=>ic a++ic b
 | .block _ c=>ic c
 | .loop _ c=>ic c
 | _=>[]
def rp (L:TL):List Nat->Bool
 | []=>true
 | k::ks=>match L.get k with | some (.box _ _)=>false | some (.map _)=>false | some (.win _ _ _ _)=>false | _=>rp L ks
def GK:List ak->Bool
 | []=>false
 | .op _ (.copyX _ _ _ _) _::_=>true
 | _::l=>GK l
structure MP (P:Program) (PS:oV) (ops:List ak) (M:TL) (τ:aT) (N:TK):Prop where
 st:PS.st=none
 out:∀(G:Nat->Option (Nat×TypeId)) (PX:aA->Loc->Value->Prop),
  (∀(F:aA) (L:Loc) (ρ:Env) (M:TL) (τ:aT) (f:Nat) (args:List C) (vs:List Value) (K:TL->aT->C->Prop),TS G F L ρ M τ->aB F L args vs->mM P PS (zu ops) f args M τ K ->
   CallXDPt P PX (zu ops) f vs F L fun F' L' v=>∃M' τ' c,TS G F' L' ρ M' τ'/\aN F' L' c (.v v)/\K M' τ' c) ->
  ∀(F:aA) (L:Loc) (ρ:Env),Real F L->TS G F L ρ M τ->bg P PX (zu ops) ops F L ρ fun F L ρ=>∃M τ,TS G F L ρ M τ/\N M τ
noncomputable def eJ (P:Program) (PS:oV) (c:aJ):(Nat->TK)->TK->TK->TK :=
 aJ.rec (motive:=fun _=>(Nat->TK)->TK->TK->TK)
  (fun _ _ N L ρ=>N L ρ)
  (fun a _ _ N L ρ=>dn P PS false a L ρ N)
  (fun a _ _ N L ρ=>dn P PS true a L ρ N)
  (fun a _ _ N L ρ=>match yA a L with | true=>(match GK a with | true=>MP P PS a L ρ N | false=>jP P PS (zu a) a L ρ N) | false=>False)
  (fun _ _ d b E R N L ρ=>d E R (fun L ρ=>b E R N L ρ) L ρ)
  (fun c _ _ d b E R N L ρ=>match bV ρ c with
   | .bool t=>vh t (d E R N L ρ) (b E R N L ρ)
   | _=>False)
  (fun id _ e E R N L ρ=>e (fun j=>match Nat.beq j id with | true=>N | false=>E j) R N L ρ)
  (fun asg c e E R _ L ρ=>match rp L (ic c) with | true=>vT (fun L ρ K=>e E R K L ρ) asg L ρ | false=>False)
  (fun id E _ _ L ρ=>E id L ρ)
  (fun _ R _ L ρ=>R L ρ) c
section
variable {P:Program}{PS:oV}{E:Nat->TK}{R N:TK}{L:TL}{ρ:aT}
theorem kh:eJ P PS .skip E R N L ρ=N L ρ:=rfl
theorem lY {a:List ak}:eJ P PS (.reg a) E R N L ρ=dn P PS false a L ρ N:=rfl
theorem ku {a:List ak}:eJ P PS (.regD a) E R N L ρ=dn P PS true a L ρ N:=rfl
theorem Bc {a:List ak}:eJ P PS (.regX a) E R N L ρ=(match yA a L with | true=>(match GK a with | true=>MP P PS a L ρ N | false=>jP P PS (zu a) a L ρ N) | false=>False):=rfl
theorem lZ {a b:aJ}:eJ P PS (.seq a b) E R N L ρ=eJ P PS a E R (fun L ρ=>eJ P PS b E R N L ρ) L ρ:=rfl
theorem kC {c:X}{a b:aJ}:eJ P PS (.cond c a b) E R N L ρ=(match bV ρ c with
   | .bool t=>vh t (eJ P PS a E R N L ρ) (eJ P PS b E R N L ρ)
   | _=>False):=rfl
theorem jg {id:Nat}{c:aJ}:eJ P PS (.block id c) E R N L ρ=eJ P PS c (fun j=>match Nat.beq j id with | true=>N | false=>E j) R N L ρ:=rfl
theorem kD {asg:List Nat}{c:aJ}:eJ P PS (.loop asg c) E R N L ρ=(match rp L (ic c) with | true=>vT (fun L ρ K=>eJ P PS c E R K L ρ) asg L ρ | false=>False):=rfl
theorem kE {id:Nat}:eJ P PS (.exit id) E R N L ρ=E id L ρ:=rfl
theorem l9:eJ P PS .ret E R N L ρ=R L ρ:=rfl
end
def uD:Nat->List C->aT
 | _,[]=>fun _=>.und
 | k,v::l=>bw (some k) v (uD (k+1) l)
theorem wf_wrap (k:IntKind) (n:Int):(Lit.int k (k.wrap n)).wf=true:=by
 cases k<;>simp[Lit.wf,IntKind.wrap,IntKind.min,IntKind.max,IntKind.bits,IntKind.signed]<;>(try split)<;>omega
theorem zC (k:IntKind) (n:Int):(Lit.int k n).wf=true↔k.min<=n/\n<=k.max:=by simp[Lit.wf]
theorem Dl (k:IntKind):k.min<=0:=by cases k<;>simp[IntKind.min,IntKind.bits,IntKind.signed]
theorem Dn (k:IntKind):127<=k.max:=by cases k<;>simp[IntKind.max,IntKind.bits,IntKind.signed]
def okB:Value->Prop
 | .int k n=>(Lit.int k n).wf=true
 | .bool _=>True
 | .string s=>s.size<=maxLen
 | _=>False
section
variable {P:Program}{G:Nat->Option (Nat×TypeId)}{F:aA}{L:Loc}{ρ:Env}{M:TL}{τ:aT}
theorem vU {v:Value}(h:okB v):aN F L (ML v) (.v v):=by
 cases v
 case int k n=>exact⟨.int k n,rfl,by simp only[ML,Rel];exact⟨trivial,h⟩⟩
 case bool b=>exact⟨.bool b,rfl,by simp only[ML,Rel]⟩
 case string b=>exact⟨.string b,rfl,by simp only[ML,Rel];exact⟨trivial,h⟩⟩
 all_goals exact h.elim
theorem Jm {k:IntKind}{a b:Int}(h:(Lit.int k a).wf=true):(Lit.int k (a.tmod b)).wf=true:=by
 rw[zC] at h ⊢;have j:=Dl k;have e:=Dn k
 by_cases d:0<=a
 ·have:=Int.tmod_nonneg b d;have c:a.tmod b<=a:=by
   have:(a.tmod b).natAbs<=a.natAbs:=by rw[Int.natAbs_tmod];exact Nat.mod_le _ _
   omega
  omega
 ·have c:(a.tmod b).natAbs<=a.natAbs:=by rw[Int.natAbs_tmod];exact Nat.mod_le _ _
  have f:a.tmod b<=0:=by
   have:=Int.tmod_nonneg b (show 0<=-a by omega);rw[Int.neg_tmod] at this;omega
  omega
theorem Jo {k:IntKind}{a:Int}{m:Nat}(h:(Lit.int k a).wf=true):(Lit.int k (a.fdiv (2 ^ m))).wf=true:=by
 rw[zC] at h ⊢;have j:=Dl k;have f:=Dn k;have b:(0:Int)<2 ^ m:=Int.pow_pos (by omega);rw[Int.fdiv_eq_ediv_of_nonneg _ (by omega)]
 by_cases c:0<=a
 ·have e:=Int.ediv_nonneg c (Int.le_of_lt b);have d:=Int.ediv_le_self (2 ^ m) c;omega
 ·have e:a / 2 ^ m<0:=Int.ediv_neg_of_neg_of_pos (by omega) b;have d:a<=a / 2 ^ m:=by
   have:a*1<=a / 2 ^ m:=by
    apply Int.le_ediv_of_mul_le b;rw[Int.mul_one];have:a*2 ^ m<=a*1:=Int.mul_le_mul_of_nonpos_left (by omega) (by omega);omega
   omega
  omega
theorem ER {op:BinOp}{k:IntKind}{a b:Int}{K K':Value->Prop}(d:(Lit.int k a).wf=true) (h:binI op k a b K) (c:∀v,okB v->K v->K' v):binI op k a b K':=by
 cases op<;>simp only[binI] at h ⊢<;>first
  | exact h.elim
  | exact⟨c _ (wf_wrap _ _) h.out⟩
  | exact⟨h.ne,⟨c _ (wf_wrap _ _) h.out.out⟩⟩
  | exact⟨h.ne,c _ (Jm d) h.out⟩
  | exact c _ (wf_wrap _ _) h
  | exact c _ trivial h
theorem GL {op:BinOp}{k:IntKind}{a b:Int}{K K':Value->Prop}(d:(Lit.int k a).wf=true) (h:shI op k a b K) (c:∀v,okB v->K v->K' v):shI op k a b K':=by
 cases op<;>simp only[shI] at h ⊢<;>first
  | exact h.elim
  | exact⟨h.1,⟨c _ (wf_wrap _ _) h.2.out⟩⟩
  | exact⟨h.1,c _ (Jo d) h.2⟩
theorem ES {op:BinOp}{a b:ByteArray}{K K':Value->Prop}(h:binS op a b K) (c:∀v,okB v->K v->K' v):binS op a b K':=by
 cases op<;>simp only[binS] at h ⊢<;>first
  | exact h.elim
  | exact c _ trivial h
  | exact⟨h.1,c _ (by
    have d:=h.1;simp[IntKind.max,IntKind.bits,IntKind.signed] at d;show(a++b).size<=maxLen;rw[ByteArray.size_append];simp only[maxLen];omega) h.2⟩
theorem zD (v:Value):Rel F L (qI v) v:=by
 unfold qI;split
 ·split
  ·rename_i h;simp only[Rel];exact⟨trivial,h⟩
  ·simp only[Rel]
 ·simp only[Rel]
 ·split
  ·rename_i h;simp only[Rel];exact⟨trivial,Xd h⟩
  ·simp only[Rel]
 ·simp only[Rel]
 ·simp only[Rel]
 ·simp only[Rel]
 ·simp only[Rel];exact za
 ·simp only[Rel]
 ·simp only[Rel]
theorem kF:∀vs:List Value,aB F L (vs.map qI) vs
 | []=>by simp only[XV,aB]
 | v::vs=>by simp only[W6,aB];exact⟨v,vs,rfl,zD v,kF vs⟩
theorem Ot (v:Value):aN F L (qI v) (.v v):=by
 have h:=zD (F:=F) (L:=L) v
 revert h
 unfold qI;split
 ·split
  ·exact fun h=>⟨_,rfl,h⟩
  ·exact fun h=>trivial
 ·exact fun h=>⟨_,rfl,h⟩
 ·split
  ·exact fun h=>⟨_,rfl,h⟩
  ·exact fun h=>trivial
 ·exact fun h=>⟨_,rfl,h⟩
 ·exact fun h=>⟨_,rfl,h⟩
 ·exact fun h=>⟨_,rfl,h⟩
 ·exact fun h=>⟨_,rfl,h⟩
 ·exact fun h=>⟨_,rfl,h⟩
 ·exact fun h=>trivial
theorem MQ (v:Value):aN F L (cv v) (.v v):=by
 unfold cv;split
 ·rename_i cs;exact⟨_,rfl,by simp only[Rel];exact⟨cs.toList,by simp,kF _⟩⟩
 ·exact Ot v
theorem cZ (h:∀j,aN F L (τ j) (ρ j)) (x:X):aN F L (bV τ x) (ev ρ x):=by
 cases x with
 | t n=>exact h n
 | c v=>exact MQ v
 | fn f=>exact⟨_,rfl,by simp only[bV,Rel];exact⟨[],[],by simp,by simp only[aB],by simp only[aB]⟩⟩
 | mt nm n =>
  have a:=h n;simp only[bV,ev,Sc];split
  ·rename_i t c e;rw[e] at a;simp only[aN] at a ⊢;obtain⟨v,b,d⟩:=a;rw[b];refine⟨_,rfl,?_⟩;simp only[Rel] at d ⊢;exact⟨v,rfl,d⟩
  ·rename_i t k off e;rw[e] at a;simp only[aN,Rel] at a ⊢;obtain⟨v,b,g,m,cs,l,rfl⟩:=a;rw[b];exact⟨_,rfl,g,m,cs,l,rfl⟩
  ·simp only[aN]
theorem dX {x:X}{k:IntKind}{n:Int}(h:∀j,aN F L (τ j) (ρ j)) (e:bV τ x=.int k n):ev ρ x=.v (.int k n)/\(Lit.int k n).wf=true:=by
 have:=cZ h x;rw[e] at this;simp only[aN,Rel] at this;obtain⟨v,a,rfl,b⟩:=this;exact⟨a,b⟩
theorem gT {x:X}{b:Bool}(h:∀j,aN F L (τ j) (ρ j)) (e:bV τ x=.bool b):ev ρ x=.v (.bool b):=by
 have:=cZ h x;rw[e] at this;simp only[aN,Rel] at this;obtain⟨v,a,rfl⟩:=this;exact a
theorem jh {x:X}{s:ByteArray}(h:∀j,aN F L (τ j) (ρ j)) (e:bV τ x=.str s):ev ρ x=.v (.string s)/\s.size<=maxLen:=by
 have:=cZ h x;rw[e] at this;simp only[aN,Rel] at this;obtain⟨v,a,rfl,b⟩:=this;exact⟨a,b⟩
theorem MR {x:X}{els:List (List C)}(h:∀j,aN F L (τ j) (ρ j)) (e:bV τ x=.sl els) :
  ∃a c sz,ev ρ x=.v (.slice a els.length c)/\els.length<=c/\els.length<=maxLen/\(a=none->els=[]/\c=0)/\fE F a sz 0 els:=by
 have:=cZ h x;rw[e] at this;simp only[aN,Rel] at this;obtain⟨v,b,a,c,rfl,f,d,k,sz,l⟩:=this;exact⟨a,c,sz,b,f,d,k,l⟩
theorem nI {x:X}(h:∀j,aN F L (τ j) (ρ j)) (e:bV τ x=.nils):ev ρ x=.v (.slice none 0 0):=by
 have:=cZ h x;rw[e] at this;simp only[aN,Rel] at this;obtain⟨v,a,rfl⟩:=this;exact a
theorem rq {x:X}{k:Nat}(h:∀j,aN F L (τ j) (ρ j)) (e:bV τ x=.rw k):∃a c t sz n xs,ev ρ x=.v (.slice a n c)/\L.get k=some (.row (.slice a n c) t sz n xs):=by
 have:=cZ h x;rw[e] at this;simp only[aN,Rel] at this;obtain⟨v,b,a,c,t,sz,n,xs,rfl,d⟩:=this;exact⟨a,c,t,sz,n,xs,b,d⟩
theorem ep {x:X}{k off:Nat}(h:∀j,aN F L (τ j) (ρ j)) (e:bV τ x=.own k off):ev ρ x=.own k off/\∃g t cs,L.get k=some (.box g t cs):=by
 have:=cZ h x;rw[e] at this;simp only[aN] at this;exact this
theorem mg {x:X}{k off:Nat}(h:∀j,aN F L (τ j) (ρ j)) (e:bV τ x=.ownv k off):∃g t cs,L.get k=some (.box g t cs)/\PI (ev ρ x) (.pointer (some ⟨g,off,none⟩)):=by
 have:=cZ h x;rw[e] at this;simp only[aN,Rel] at this;obtain⟨v,a,g,t,cs,b,rfl⟩:=this;exact⟨g,t,cs,b,a⟩
theorem ru {x:X}{f:Nat}{fi ca:List C}(h:∀j,aN F L (τ j) (ρ j)) (e:bV τ x=.fn f fi ca):∃b a,ev ρ x=.v (.func (.func f) b.toArray a.toArray)/\aB F L fi b/\aB F L ca a:=by
 have:=cZ h x;rw[e] at this;simp only[aN,Rel] at this;obtain⟨v,c,b,a,rfl,k,d⟩:=this;exact⟨b,a,c,k,d⟩
theorem uQ {x:X}{cs:List C}(h:∀j,aN F L (τ j) (ρ j)) (e:bV τ x=.agg cs):∃vs,ev ρ x=.v (.agg vs.toArray)/\aB F L cs vs:=by
 have:=cZ h x;rw[e] at this;simp only[aN,Rel] at this;obtain⟨v,a,vs,rfl,b⟩:=this;exact⟨vs,a,b⟩
theorem Jp {x:X}{cs:List C}(h:∀j,aN F L (τ j) (ρ j)) (e:bV τ x=.tup cs):∃vs,ev ρ x=.v (.tuple vs.toArray)/\aB F L cs vs:=by
 have:=cZ h x;rw[e] at this;simp only[aN,Rel] at this;obtain⟨v,a,vs,rfl,b⟩:=this;exact⟨vs,a,b⟩
theorem GN {x:X}(h:∀j,aN F L (τ j) (ρ j)) (e:bV τ x=.nilp):ev ρ x=.v (.pointer none):=by
 have:=cZ h x;rw[e] at this;simp only[aN,Rel] at this;obtain⟨v,a,rfl⟩:=this;exact a
theorem GP {x:X}(h:∀j,aN F L (τ j) (ρ j)) (e:bV τ x=.nilf):ev ρ x=.v .nilFunc:=by
 have:=cZ h x;rw[e] at this;simp only[aN,Rel] at this;obtain⟨v,a,rfl⟩:=this;exact a
theorem zE {x:X}{t:TypeId}{c:C}(h:∀j,aN F L (τ j) (ρ j)) (e:bV τ x=.ifc t c):∃u,ev ρ x=.v (.iface t u)/\Rel F [] c u:=by
 have:=cZ h x;rw[e] at this;simp only[aN,Rel] at this;obtain⟨v,a,u,rfl,b⟩:=this;exact⟨u,a,b⟩
theorem oe {x:X}{m:Option String}{t:TypeId}{k off:Nat}(h:∀j,aN F L (τ j) (ρ j)) (e:bV τ x=.ifo m t k off):∃g a cs,L.get k=some (.box g a cs)/\ev ρ x=.v (Ba m t (.pointer (some ⟨g,off,none⟩))):=by
 have:=cZ h x;rw[e] at this;simp only[aN,Rel] at this;obtain⟨v,b,g,a,cs,c,rfl⟩:=this;exact⟨g,a,cs,c,b⟩
theorem zF {x:X}{k:Nat}(h:∀j,aN F L (τ j) (ρ j)) (e:bV τ x=.opq k):∃v,ev ρ x=.v v/\iY k F v:=by
 have:=cZ h x;rw[e] at this;simp only[aN,Rel] at this;exact this
theorem vV {x:X}{nm:String}{c:C}(h:∀j,aN F L (τ j) (ρ j)) (e:bV τ x=.mval nm c):∃u,ev ρ x=.v (.func (.method nm) #[u] #[])/\Rel F [] c u:=by
 have:=cZ h x;rw[e] at this;simp only[aN,Rel] at this;obtain⟨v,a,u,rfl,b⟩:=this;exact⟨u,a,b⟩
theorem Jq {x:X}{t:TypeId}{nm:String}(h:∀j,aN F L (τ j) (ρ j)) (e:bV τ x=.mof t nm):ev ρ x=.v (.func (.methodOf t nm) #[] #[]):=by
 have:=cZ h x;rw[e] at this;simp only[aN,Rel] at this;obtain⟨v,a,rfl⟩:=this;exact a
theorem Dp {x:X}{k:Nat}{a:List Nat}(h:∀j,aN F L (τ j) (ρ j)) (e:bV τ x=.slo k a):∃g t cs b,L.get k=some (.box g t cs)/\ev ρ x=.v (.slice (some b) a.length a.length)/\a.length<=maxLen/\bN F (some b) 0 (a.map fun o=>.pointer (some ⟨g,o,none⟩)):=by
 have:=cZ h x;rw[e] at this;simp only[aN,Rel] at this;obtain⟨v,l,g,t,cs,b,c,rfl,f,d⟩:=this;exact⟨g,t,cs,b,c,l,f,d⟩
theorem Jr {x:X}{k j:Nat}{a:List Nat}(h:∀j,aN F L (τ j) (ρ j)) (e:bV τ x=.slp k a j):∃g t cs b,L.get k=some (.box g t cs)/\ev ρ x=.el (some b) j/\bN F (some b) 0 (a.map fun o=>.pointer (some ⟨g,o,none⟩)):=by
 have:=cZ h x;rw[e] at this;simpa only[aN] using this
theorem Cv {F:aA}{f:Addr}{vs:List Value}{j:Nat}{v:Value}(h:bN F (some f) 0 vs) (k:vs[j]?=some v):bN F (some f) j [v]:=by
 obtain⟨a,b,t,m,e,hb,c,l⟩:=h;refine⟨a,b,t,m,e,hb,c,fun i u d=>?_⟩;cases i with
 | zero =>
  simp only[Xc,x5] at d;subst d;have:=l j v k;simpa using this
 | succ i=>simp at d
theorem og {x:X}{es:List C}{off:Nat}(h:∀j,aN F L (τ j) (ρ j)) (e:bV τ x=.pt es off) :
  ∃b o j vs,(ev ρ x=.v (.pointer (some ⟨b,o,none⟩))/\j=0\/ev ρ x=.el (some ⟨b,o,none⟩) j)/\Jj F b (o+j) off vs/\dm es=true/\aB F [] es vs:=by
 have:=cZ h x;rw[e] at this;simp only[aN] at this;exact this
theorem si {x:X}{k j off:Nat}(h:∀j,aN F L (τ j) (ρ j)) (e:bV τ x=.elr k j off) :
  ∃a t sz n c xs,ev ρ x=.el (some a) (j*sz+off)/\L.get k=some (.row (.slice (some a) n c) t sz n xs):=by
 have:=cZ h x;rw[e] at this;simp only[aN] at this;exact this
theorem jQ (h:cO F L M) {k:Nat}{t:TypeId}{cs:List C}(e:M.get k=some (.box t cs)):∃g a vs,L.get k=some (.box g a vs)/\aB F L cs vs/\tyOk t g a:=by
 have:=h k;rw[e] at this;cases b:L.get k with
 | none=>rw[b] at this;exact this.elim
 | some o =>
  rw[b] at this;cases o with
  | row=>exact this.elim
  | box g a vs=>obtain⟨c,d⟩:=this;exact⟨g,a,vs,rfl,d,c⟩
theorem rz (h:cO F L M) {k:Nat}{t:TypeId}{pre cs post:List C}(e:M.get k=some (.win t pre cs post)):∃g a v1 b v3,L.get k=some (.box g a (v1++(b++v3)))/\aB F [] pre v1/\aB F L cs b/\aB F [] post v3/\tyOk t g a:=by
 have:=h k;rw[e] at this;cases c:L.get k with
 | none=>rw[c] at this;exact this.elim
 | some o =>
  rw[c] at this;cases o with
  | row=>exact this.elim
  | box g a vs=>obtain⟨f,v1,b,v3,rfl,j,d,l⟩:=this;exact⟨g,a,v1,b,v3,rfl,j,d,l,f⟩
theorem Bd {v1 a v3:List Value}{o n:Nat}(b:((a.drop o).take n).length=n) (c:o+n<=a.length):((v1++(a++v3)).drop (v1.length+o)).take n=(a.drop o).take n:=by
 rw[List.drop_append,List.drop_eq_nil_of_le (by omega),Xz,show v1.length+o-v1.length=o by omega,List.drop_append,List.take_append_of_le_length (by simp;omega)]
theorem jT (h:cO F L M) {k:Nat}{t:TypeId}{sz:Nat}{els:List (List C)}(e:M.get k=some (.row t sz els)) :
  ∃v xs,L.get k=some (.row v t sz els.length xs)/\(els.length<=maxLen/\∃a c,v=.slice a els.length c/\(a=none->els.length=0))/\aL F sz els xs:=by
 have:=h k;rw[e] at this;cases b:L.get k with
 | none=>rw[b] at this;exact this.elim
 | some o =>
  rw[b] at this;cases o with
  | box=>exact this.elim
  | row v l d n xs=>obtain⟨rfl,rfl,rfl,j,f⟩:=this;exact⟨v,xs,rfl,j,f⟩
theorem bT (h:cO F L M) {k:Nat}(e:M.get k=none):L.get k=none:=by
 have:=h k;rw[e] at this;cases a:L.get k with
 | none=>rfl
 | some o=>rw[a] at this;exact this.elim
theorem br:∀{l:List C}{n:Nat},cT l n=true->l.length=n
 | [],0,_=>rfl
 | [],n+1,h=>by simp[cT] at h
 | _::l,0,h=>by simp[cT] at h
 | _::l,n+1,h=>by simp only[cT] at h;simp[br h]
theorem cQ:∀{l:List Value}{n:Nat},l.length=n->eT l n=true
 | [],0,_=>rfl
 | [],n+1,h=>by simp at h
 | _::l,0,h=>by simp at h
 | _::l,n+1,h=>by simp only[eT];exact cQ (by simpa using h)
theorem ji {c:C}{v:Value}(h:Rel F L c v):aN F L c.slt (.v v):=by
 cases c<;>(try simp only[C.slt])<;>try exact⟨v,rfl,h⟩
 case any=>trivial
 case pt es off =>
  simp only[Rel] at h;obtain⟨b,o,vs,rfl,d,a⟩:=h;exact⟨b,o,0,vs,.inl ⟨rfl,rfl⟩,d,a⟩
 case own=>exact⟨v,.inl rfl,h⟩
 case ownv=>exact h.elim
 case elr=>trivial
 case slp=>trivial
theorem cm {agg:Bool}{cs:List C}{vs:List Value}(h:aB F L cs vs):aN F L (zx agg cs) (.v (fM agg vs)):=by
 cases agg with
 | true=>exact⟨_,rfl,by simp only[zx,fM,Rel];exact⟨vs,rfl,h⟩⟩
 | false =>
  match cs,vs,h with
  | [],vs,h=>trivial
  | [c],vs,h =>
   simp only[aB] at h;obtain⟨v,b,rfl,a,rfl⟩:=h;exact ji a
  | _::_::_,vs,h=>trivial
theorem PI.conc {sv:SV}{v:Value}(h:PI sv v):Fr.conc L sv=v:=by
 rcases h with rfl | ⟨b,o,j,rfl,rfl⟩
 ·rfl
 ·simp only[Fr.conc,bU]
theorem Js {c:C}{sv:SV}(h:aN F L c sv) (q:c.one=true\/(∃k o,c=.ownv k o)\/c=.any\/(∃k j o,c=.elr k j o)\/(∃l,c=.agg l)\/(∃l,c=.tup l)\/c=.und\/(∃k o,c=.slo k o)\/(∃k o j,c=.slp k o j)):Rel F L c.cel (conc L sv):=by
 cases c<;>simp only[C.cel]<;>simp only[aN] at h
 case own k off =>
  obtain⟨rfl,g,t,cs,h⟩:=h;simp only[Rel,conc,h];exact⟨g,t,cs,rfl,rfl⟩
 case ownv k off =>
  obtain⟨v,f,h⟩:=h;rw[f.conc];exact h
 case pt es off =>
  obtain⟨b,o,j,vs,p,d,a,e⟩:=h;simp only[Rel];rcases p with⟨rfl,rfl⟩ | rfl
  ·exact⟨b,o,vs,rfl,d,a,e⟩
  ·exact⟨b,o+j,vs,by simp only[conc,bU],d,a,e⟩
 case elr =>
  obtain⟨m,t,sz,n,c,xs,rfl,h⟩:=h;simp only[Rel];exact⟨m,t,sz,n,c,xs,rfl,h⟩
 case slp=>simp only[Rel]
 case any=>simp only[Rel]
 all_goals
  obtain⟨v,rfl,h⟩:=h;simpa only[conc] using h
theorem kG {c:C}{sv:SV}(h:aN F L c sv):Rel F L c.cel (conc L sv):=by
 apply Js h;cases c<;>simp[C.one]
theorem sj (h:∀j,aN F L (τ j) (ρ j)) (x:X):Rel F L (bV τ x).cel (val L ρ x):=kG (cZ h x)
theorem cL (h:∀j,aN F L (τ j) (ρ j)):∀xs:List X,aB F L (dM τ xs) (bf L ρ xs)
 | []=>by simp only[dM,bf,aB]
 | x::xs=>by simp only[dM,bf,aB];exact⟨_,_,rfl,sj h x,cL h xs⟩
theorem Cw {c:C}{sv:SV}(h:aN F L c sv) (e:c.okc=true):aB F L (bS c) (aG (conc L sv)):=by
 have a:=kG h;cases c<;>simp only[C.okc,W9] at e<;>simp only[bS]<;>simp only[C.cel] at a ⊢
 case agg cs =>
  simp only[Rel] at a;obtain⟨vs,b,d⟩:=a;rw[b];simpa only[aG] using d
 all_goals
  simp only[aB];refine⟨_,[],?_,a,rfl⟩
  revert a
  generalize conc L sv=v;intro a;simp only[Rel] at a
  first
   | (have b:=iY.one a;cases v<;>first | rfl | (exact vz b (by decide)) | (simp[Value.oneCell'] at b))
   | (obtain⟨rfl,_⟩:=a;rfl)
   | (subst a;rfl)
   | (obtain⟨_,rfl,_⟩:=a;rfl)
   | (obtain⟨_,_,rfl,_⟩:=a;rfl)
   | (obtain⟨_,_,_,rfl,_⟩:=a;rfl)
   | (obtain⟨_,_,_,_,_,_,rfl,_⟩:=a;rfl)
   | (obtain⟨_,_,_,_,rfl⟩:=a;rfl)
   | (obtain⟨_,_,_,_,rfl⟩:=a;unfold Ba;split<;>rfl)
theorem dH (h:∀j,aN F L (τ j) (ρ j)) {x:X}(a:(bV τ x).okc=true):aB F L (bS (bV τ x)) (aG (val L ρ x)):=Cw (cZ h x) a
theorem fF {cs:List C}{vs:List Value}{off:Nat}{ds:List C}{us:List Value}(h:aB F L cs vs) (k:aB F L ds us):aB F L (eH cs off ds) (aM vs off us):=by
 simp only[eH,aM];rw[<-k.len];exact((h.take off).append k).append (h.drop _)
theorem yC (h:∀j,aN F L (τ j) (ρ j)):∀(ps:List (Nat×Nat×X)) {zs:List C}{vs:List Value}{cs:List C},aB F L zs vs->s8 τ zs ps=some cs->∃us,built L ρ vs ps=some us/\aB F L cs us
 | [],zs,vs,cs,a,hb=>by
  simp only[s8,x5] at hb;subst hb;exact⟨vs,rfl,a⟩
 | (off,n,x)::ps,zs,vs,cs,a,hb=>by
  simp only[s8] at hb;split at hb
  case h_2=>cases hb
  rename_i c e;have b:=dH h c;have d:eT (aG (val L ρ x)) n=true:=cQ (by rw[b.len];exact br e);simp only[built,d];exact yC h ps (fF a b) hb
theorem uR (h:∀j,aN F L (τ j) (ρ j)) {d i:Int}{x:Option X}(e:EP τ d x=some i):iW ρ d x=some i:=by
 cases x with
 | none=>exact e
 | some x =>
  simp only[EP] at e;split at e
  case h_2=>cases e
  rename_i k j a;injection e with e
  subst e;simp only[iW,(dX h a).1]
theorem GQ (h:∀j,aN F L (τ j) (ρ j)) (mx:Bool):∀(args:List X) {a m:Int},PG mx a (args.map (bV τ))=some m->LG mx a (args.map (ev ρ))=some m
 | [],a,m,e=>e
 | x::args,a,m,e=>by
  simp only[W6] at e ⊢;cases b:bV τ x<;>rw[b] at e<;>simp only[PG,reduceCtorEq] at e;rw[(dX h b).1];exact GQ h mx args e
theorem GR {a:Option Addr}{sz:Nat}{els:List (List C)}{c l h:Nat}(m:fE F a sz 0 els) (y:a=none->els=[]/\c=0) (hl:l<=h) (z:h<=els.length) (hc:els.length<=c) :
  fE F (if c=l then a else a.map (·.add (l*sz))) sz 0 ((els.drop l).take (h-l)):=by
 rw[lV] at m ⊢;intro j es d;rw[Xx] at d;split at d
 case isFalse=>cases d
 rename_i hj;rw[Xu] at d;obtain⟨vs,s,u,p,w⟩:=m _ es d;have n:l+j<els.length:=(WX.1 d).1;rw[vv (by omega)];refine⟨vs,s,?_,p,w⟩;obtain⟨r,k,t,x,e,hb,f,q⟩:=u;subst e;obtain⟨b,o,sp⟩:=r;simp only at f;subst f;refine⟨⟨b,o+l*sz,none⟩,k,t,x,by simp only[XQ,bU],hb,rfl,fun i v hi=>?_⟩;have:=q i v hi;simp only[Nat.zero_add,Nat.add_mul] at this ⊢;rw[show o+l*sz+j*sz+i=o+(l*sz+j*sz)+i by omega];exact this
theorem jl {b o j off n:Nat}{es:List C}{vs:List Value}(l:Jj F b (o+j) off vs):bN F (some ⟨b,o,none⟩) j ((vs.drop off).take n):=by
 obtain⟨d,a,t,e,f,k,h⟩:=l;refine⟨_,a,t,e,rfl,f,rfl,fun i v c=>?_⟩;rw[Xx] at c;split at c
 case isFalse=>cases c
 rw[Xu] at c;have:=h _ _ c;show a[o+j+i]?=_/\nR e (o+j+i);rw[k,Nat.add_assoc];exact this
theorem dU {L':Loc}{cs:List C}{vs:List Value}(p:dF cs=true) (h:aB F L cs vs):aB F L' cs vs:=by
 have b:∀(c:C) (v:Value),c.Wn=true->Rel F L c v->Rel F L' c v:=by
  intro c v d h;cases c<;>simp only[C.Wn,W9] at d<;>simp only[Rel] at h ⊢<;>exact h
 have a:∀(cs:List C) (vs:List Value),iO cs=true->aB F L cs vs->aB F L' cs vs:=by
  intro cs vs d h;rw[je] at h ⊢;exact⟨h.1,fun i c v e l=>b c v (pK.1 d c (W5 e)) (h.2 i c v e l)⟩
 rw[je] at h ⊢;refine⟨h.1,fun i c v e l=>?_⟩;have d:=n8.1 p c (W5 e);have k:=h.2 i c v e l;cases c<;>first
  | exact b _ _ d k
  | (simp only[C.pure,C.Wn,W9] at d;done)
  | (simp only[C.pure] at d
     split at d
     case h_2=>cases d
     rename_i f;simp only[Rel] at k ⊢;obtain⟨j,m,q,n,o⟩:=k;exact⟨j,m,q,a _ _ f n,a _ _ d o⟩)
theorem tv {els:List (List C)}{v:Value}(h:Rel F L (.slx els) v):Rel F L (.sl els) v:=by
 simp only[Rel] at h ⊢;obtain⟨a,b,d,sz,c⟩:=h;exact⟨some a,els.length,b,Xj _,d,fun e=>(by cases e),sz,c⟩
theorem sn {c:C}{v:Value}(h:Rel F L c v):Rel F L c.can v:=by
 cases c<;>first
  | exact h
  | exact tv h
  | (simp only[Rel] at h
     subst h;simp only[C.can,Rel];exact⟨none,0,by simp,by simp,by simp,fun _=>by simp,0,by simp only[fE]⟩)
theorem jm {cs:List C}{vs:List Value}(h:aB F L cs vs):aB F L (cs.map C.can) vs:=h.map fun c _ v=>sn
theorem gU {c:C}{v:Value}(h:Rel F L c v):Rel F L c.Wm v:=by
 cases c<;>first
  | exact h
  | exact sn (c:=.nils) h
  | exact tv h
  | (simp only[Rel] at h
     obtain⟨vs,a,b⟩:=h;simp only[C.Wm,Rel];exact⟨vs,a,jm b⟩)
theorem GS {c:C}{sv:SV}(h:aN F L c sv):aN F L c.can sv:=by
 cases c<;>first
  | exact h
  | (obtain⟨v,e,a⟩:=h;exact⟨v,e,tv a⟩)
  | (obtain⟨v,e,a⟩:=h;exact⟨v,e,sn (c:=.nils) a⟩)
theorem jn {x:X}{els:List (List C)}(h:∀j,aN F L (τ j) (ρ j)) (e:(bV τ x).can=.sl els) :
  ∃a c sz,ev ρ x=.v (.slice a els.length c)/\els.length<=c/\els.length<=maxLen/\(a=none->els=[]/\c=0)/\fE F a sz 0 els:=by
 have:=GS (cZ h x);rw[e] at this;simp only[aN,Rel] at this;obtain⟨v,b,a,c,rfl,f,d,k,sz,l⟩:=this;exact⟨a,c,sz,b,f,d,k,l⟩
theorem Jt {c:C}{k:Nat}(e:c.can=.opq k):c=.opq k:=by cases c<;>simp only[C.can,reduceCtorEq] at e<;>exact e
theorem Dq {c:C}{k:Nat}{a:List Nat}(e:c.can=.slo k a):c=.slo k a:=by cases c<;>simp only[C.can,reduceCtorEq] at e<;>exact e
theorem zG {c:C}{k:Nat}(e:c.can=.rw k):c=.rw k:=by cases c<;>simp only[C.can,reduceCtorEq] at e<;>exact e
theorem zH {x:X}{els:List (List C)}(h:∀j,aN F L (τ j) (ρ j)) (e:bV τ x=.slx els) :
  ∃a sz,ev ρ x=.v (.slice (some a) els.length els.length)/\els.length<=maxLen/\fE F (some a) sz 0 els:=by
 have:=cZ h x;rw[e] at this;simp only[aN,Rel] at this;obtain⟨v,b,a,rfl,d,sz,c⟩:=this;exact⟨a,sz,b,d,c⟩
theorem Ju {c:C}(h:c.one=true):c.can.one=true:=by cases c<;>first | exact h | rfl
theorem mh {cs:List C}(h:dm cs=true):dm (cs.map C.can)=true:=by
 rw[ia] at h ⊢;intro c b;obtain⟨d,a,rfl⟩:=Xv.1 b;exact Ju (h d a)
theorem fw {cs:List C}{vs:List Value}(h:aB F L cs vs) (b:dm cs=true):∀u∈vs,u.oneCell'=true:=by
 intro u d;obtain⟨i,hi⟩:=Xn.1 d;have a:i<cs.length:=by rw[<-h.len];exact(WX.1 hi).1
 have c:=h.at (yo a) hi;exact c.one (ia.1 b _ (List.getElem_mem a))
theorem j4:∀{vs:List Value},(∀u∈vs,u.oneCell'=true)->iR vs=true
 | [],_=>rfl
 | v::vs,h=>by simp only[iR,h v (by simp)];exact j4 fun u a=>h u (by simp[a])
end
section
variable {P:Program}{G:Nat->Option (Nat×TypeId)}{F:aA}{L:Loc}{ρ:Env}{M:TL}{τ:aT}
theorem gV {k:IntKind}{n:Int}(h:(Lit.int k n).wf=true):aN F L (.int k n) (.v (.int k n)):=⟨_,rfl,by simp only[Rel];exact⟨trivial,h⟩⟩
theorem cA {b:Bool}:aN F L (.bool b) (.v (.bool b)):=⟨_,rfl,by simp only[Rel]⟩
theorem su {s:ByteArray}(h:s.size<=maxLen):aN F L (.str s) (.v (.string s)):=⟨_,rfl,by simp only[Rel];exact⟨trivial,h⟩⟩
theorem GU {es:List C}{vs:List Value}{c:Addr}{j:Nat}{a:Array Value}{t:TypeId}{e:Nat×Nat}(hb:F c.block=some (.cells a t e)) (d:c.spot=none)
  (h:∀(i:Nat) v,vs[i]?=some v->a[c.off+j+i]?=some v/\nR e (c.off+j+i)) (f:dm es=true) (k:aB F [] es vs):aN F L (.pt es 0) (.el (some c) j):=by
 obtain⟨b,o,l⟩:=c;simp only at d;subst d;exact⟨b,o,j,vs,.inr rfl,⟨o+j,a,t,e,hb,rfl,h⟩,f,k⟩
theorem yD:∀{p:List UInt8}{xs:List Value},aL F 1 (af p) xs->xs=p.map fun b=>Value.int .u8 b.toNat
 | [],xs,h=>by simpa[af,aL] using h
 | b::p,xs,h=>by
  simp only[af,W6,aL] at h;obtain⟨vs,c,rfl,f,j,a,d⟩:=h;simp only[aB,Rel] at a;obtain⟨v,e,rfl,⟨rfl,_⟩,rfl⟩:=a;rw[yD (p:=p) d];rfl
theorem ud {a:Option Addr}{sz c:Nat}{bs:List UInt8}(k:fE F a sz 0 (af bs)) (hn:a=none->af bs=[]/\c=0) :
  (bN F a 0 (bs.map fun b=>Value.int .u8 b.toNat))\/bs.length=0:=by
 rw[lV] at k;cases hb:bs with
 | nil=>exact .inr rfl
 | cons w p =>
  refine .inl ?_;have h0:=k 0 [iE w] (by simp[af,hb]);obtain⟨us,q,⟨ad,l,t,fr,e,f,m,_⟩,_,h⟩:=h0;have n:sz=1:=by rw[<-q,h.len];rfl
  subst n;rw[<-hb];refine⟨ad,l,t,fr,e,f,m,fun i v hi=>?_⟩;simp only[XD,Option.map_eq_some_iff] at hi;obtain⟨b,o,rfl⟩:=hi;obtain⟨us,q,⟨y,r,t',z,j,d,s,x⟩,_,h⟩:=k i [iE b] (by simp[af,o]);rw[e] at j;injection j with j
  subst j;rw[f] at d;injection d with d
  injection d with q1 q2 q3
  subst q1 q3;simp only[aB,Rel] at h;obtain⟨u,ab,rfl,⟨rfl,_⟩,rfl⟩:=h;have:=x 0 _ (by simp;rfl);simpa using this
theorem Dr {els:List (List C)}{a:Option Addr}{c sz:Nat}(b:els.length<=c) (e:els.length<=maxLen) (d:a=none->els=[]/\c=0) (f:fE F a sz 0 els):aN F L (.sl els) (.v (.slice a els.length c)) :=
 ⟨_,rfl,by simp only[Rel];exact⟨a,c,rfl,b,e,d,sz,f⟩⟩
set_option maxHeartbeats 1000000 in
theorem Jv:∀{ks:List Bool}{cs ds:List C}{e b:Bool}{vs us:List Value},tj ks cs ds e=some b->aB F L cs vs->aB F L ds us->iB ks vs.toArray.toList us.toArray.toList e=some b:=by
 intro ks
 induction ks with
 | nil =>
  intro cs ds e b vs us h a d;cases cs with
  | cons c cs=>simp[tj] at h
  | nil =>
   cases ds with
   | cons c cs=>simp[tj] at h
   | nil =>
    simp only[aB] at a d;subst a d;simpa[iB,tj] using h
 | cons k ks l =>
  intro cs ds e b vs us h a d;cases cs with
  | nil=>cases k<;>simp[tj] at h
  | cons c cs =>
   cases ds with
   | nil=>cases k<;>cases c<;>simp[tj] at h
   | cons n ds =>
    cases k<;>cases c<;>try (simp[tj] at h;done)
    all_goals cases n<;>try (simp[tj] at h;done)
    all_goals simp only[aB,Rel] at a d
    ·obtain⟨v,f,rfl,rfl,a⟩:=a;obtain⟨u,j,rfl,rfl,d⟩:=d;simp only[tj] at h;have:=l h a d;simp only[iB];exact this
    ·obtain⟨v,f,rfl,⟨rfl,_⟩,a⟩:=a;obtain⟨u,j,rfl,⟨rfl,_⟩,d⟩:=d;simp only[tj] at h;split at h
     case h_2=>cases h
     rename_i m;have:=l h a d;simp only[iB,m];exact this
theorem MS (v:Value):Rel F L (cv v) v:=by
 unfold cv;split
 ·rename_i cs;simp only[Rel];exact⟨cs.toList,by simp,kF _⟩
 ·exact zD v
theorem zI {x:X}{k:Nat}(h:∀j,aN F L (τ j) (ρ j)) (e:bV τ x=.mpr k):∃g cs,ev ρ x=.v (.map (some g))/\L.get k=some (.box g 0 cs):=by
 have:=cZ h x;rw[e] at this;simp only[aN,Rel] at this;obtain⟨v,a,g,cs,b,rfl⟩:=this;exact⟨g,cs,a,b⟩
theorem Cx (h:cO F L M) {k:Nat}{es:List (C×C)}(e:M.get k=some (.map es)):∃g vs,L.get k=some (.box g 0 vs)/\iP F es vs:=by
 have:=h k;rw[e] at this;cases a:L.get k with
 | none=>rw[a] at this;exact this.elim
 | some o =>
  rw[a] at this;cases o with
  | row=>exact this.elim
  | box g c vs=>obtain⟨rfl,b⟩:=this;exact⟨g,vs,rfl,b⟩
theorem iP.isMap {es:List (C×C)}{vs:List Value}(h:iP F es vs):mH vs=true:=by
 cases es with
 | nil=>simp only[iP] at h;subst h;rfl
 | cons p l =>
  obtain⟨k,c⟩:=p;simp only[iP] at h;obtain⟨kv,v,a,rfl,_⟩:=h;rfl
theorem iP.len:∀{es:List (C×C)}{vs:List Value},iP F es vs->vs.length=es.length
 | [],vs,h=>by simp only[iP] at h;subst h;rfl
 | (k,c)::l,vs,h=>by
  simp only[iP] at h;obtain⟨kv,v,a,rfl,_,_,h⟩:=h;simp[iP.len h]
theorem pO {str:Bool}{a b:C}{u v:Value}{r:Bool}{L':Loc}(h:lU str a b=some r) (c:Rel F L a u) (hb:Rel F L' b v):fj str u v=some r:=by
 unfold lU at h;split at h
 ·simp only[Rel] at c hb;rw[c.1,hb.1];exact h
 ·simp only[Rel] at c hb;rw[c.1,hb.1];exact h
 ·cases h
theorem vW {str:Bool}{key:C}{kv:Value}(a:∀b v r,lU str key b=some r->Rel F [] b v->fj str kv v=some r):∀{es:List (C×C)}{vs:List Value}{o:Option C}(i:Nat),iP F es vs->yx str key es=some o ->
  match o with | some c=>∃j v,lK str kv vs i=some (some (j,v))/\Rel F [] c v | none=>lK str kv vs i=some none
 | [],vs,o,i,h,e=>by
  simp only[iP] at h;subst h;simp only[yx,x5] at e;subst e;rfl
 | (k,c)::l,vs,o,i,h,e=>by
  simp only[iP] at h;obtain⟨u,v,n,rfl,f,p,m⟩:=h;simp only[yx] at e;split at e
  ·rename_i d;injection e with e
   subst e;exact⟨i,v,by simp only[lK,a _ _ _ d f],p⟩
  ·rename_i d;have:=vW a (i+1) m e;simp only[lK,a _ _ _ d f];exact this
  ·cases e
theorem yE {c:C}{v:Value}{b:Bool}(h:Rel F L c v):aN F L (.tup [c,.bool b]) (.v (.tuple #[v,.bool b])) :=
 ⟨_,rfl,by simp only[Rel,aB];exact⟨[v,.bool b],rfl,v,_,rfl,h,_,[],rfl,rfl,rfl⟩⟩
theorem Dt (h:∀j,aN F L (τ j) (ρ j)) {str:Bool}{x:X}:∀b v r,lU str (bV τ x) b=some r->Rel F [] b v->fj str (val L ρ x) v=some r:=by
 intro b v r a hb;refine pO (F:=F) (L:=L) a ?_ hb;have:=sj h x
 revert this
 cases c:bV τ x<;>rw[c] at a<;>cases str<;>simp only[lU,reduceCtorEq] at a<;>simp only[C.cel]<;>exact fun h=>h
theorem P5 {o:dS}{V:C->Prop}(ht:TS G F L ρ M τ) (h:outT o M τ V):aI o F L ρ (fun sv=>∃c,aN F L c sv/\V c):=by
 have he:=ht.env;cases o<;>simp only[outT] at h<;>simp only[aI]
 case mov x=>exact⟨_,cZ he x,h⟩
 case pick c a b =>
  split at h
  case h_2=>exact h.elim
  rename_i t hc;rw[gT he hc];cases t
  ·exact⟨_,cZ he b,h⟩
  ·exact⟨_,cZ he a,h⟩
 case build zs ps =>
  rw[dV] at h;obtain⟨cs,hc,h⟩:=tq h;obtain⟨us,h1,h2⟩:=yC he ps (kF zs) hc;rw[h1];exact⟨.agg cs,⟨_,rfl,by simp only[Rel];exact⟨us,rfl,h2⟩⟩,h⟩
 case load agg n x =>
  split at h
  ·rename_i k off w;obtain⟨d,_⟩:=ep he w;rw[d];split at h
   case h_3=>exact h.elim
   case h_2 =>
    rename_i t pre cs post hk;obtain⟨g,ty,v1,v2,v3,hL,be,hr,cX,am⟩:=rz ht.tl hk;rcases h with⟨o,rfl,h⟩ | ⟨us,e,hl,h⟩
    case inr =>
     have p:=((be.lift (L:=L)).drop off).take n;rw[e] at p;have aa:((v1.drop off).take n).length=n:=by rw[p.len];exact br hl
     have hp:(((v1++(v2++v3)).drop off).take n)=(v1.drop off).take n:=by
      by_cases bi:n=0
      ·subst bi;simp
      have:off+n<=v1.length:=by simp at aa;omega
      rw[List.drop_append_of_le_length (by omega),List.take_append_of_le_length (by simp;omega)]
     simp only[hL];rw[hp,fk am.2.2 (cQ aa)];exact⟨_,cm p,h⟩
    split at h
    case h_2=>exact h.elim
    rename_i hl;have p:=(hr.drop o).take n;have aa:((v2.drop o).take n).length=n:=by rw[p.len];exact br hl
    simp only[hL]
    by_cases bi:n=0
    ·subst bi;rw[fk am.2.2 (cQ (by simp))];simp only[List.take_zero] at h p ⊢;exact⟨_,cm p,h⟩
    have hn:o+n<=v2.length:=by simp at aa;omega
    have hp:=Bd (v1:=v1) (v3:=v3) aa hn;rw[<-be.len,hp,fk am.2.2 (cQ aa)];exact⟨_,cm p,h⟩
   rename_i t cs hk;obtain⟨g,ty,vs,hL,hr,am⟩:=jQ ht.tl hk;split at h
   case h_2=>exact h.elim
   rename_i hl;have p:=(hr.drop off).take n;simp only[hL];rw[fk am.2.2 (cQ (by rw[p.len];exact br hl))];exact⟨_,cm p,h⟩
  ·rename_i es off w;split at h
   case h_2=>exact h.elim
   rename_i hl;obtain⟨b,o,j,vs,d,hp,ho,hr⟩:=og he w;have p:aB F L ((es.drop off).take n) ((vs.drop off).take n):=((hr.drop off).take n).lift;rcases d with⟨d,rfl⟩ | d
   ·rw[d];exact⟨_,by rw[p.len];exact br hl,.inl (jl (es:=es) hp),_,cm p,h⟩
   ·rw[d];exact⟨_,by rw[p.len];exact br hl,.inl (jl (es:=es) hp),_,cm p,h⟩
  ·rename_i k off w;split at h
   case h_3=>exact h.elim
   case h_2 =>
    rename_i t pre cs post hk;obtain⟨g',ty',cr,d,bl⟩:=mg he w;obtain⟨g,ty,v1,v2,v3,hL,be,hr,cX,am⟩:=rz ht.tl hk;rw[hL] at d;injection d with d
    injection d with q1 q2 q3
    subst q1 q2 q3;rcases h with⟨o,rfl,h⟩ | ⟨us,e,hl,h⟩
    case inr =>
     have p:=((be.lift (L:=L)).drop off).take n;rw[e] at p;have aa:((v1.drop off).take n).length=n:=by rw[p.len];exact br hl
     have az:∀(i:Nat) (u:Value),((v1.drop off).take n)[i]?=some u->(v1++(v2++v3))[off+i]?=some u:=by
      intro i u hu;rw[Xx] at hu;split at hu
      case isFalse=>cases hu
      rw[Xu] at hu;rw[W8 (WX.1 hu).1];exact hu
     rcases bl with e2 | ⟨b,q,j,e2,e3⟩
     ·rw[e2];exact⟨_,aa,.inr (.inr (.inr ⟨k,g,ty,_,_,hL,am.2.2,rfl,fun i u hu=>by rw[Nat.add_zero];exact az i u hu⟩)),_,cm p,h⟩
     ·injection e3 with e3
      injection e3 with e3
      injection e3 with q1 q2 q3
      subst q1;rw[e2];exact⟨_,aa,.inr (.inr (.inr ⟨k,g,ty,_,q,hL,am.2.2,rfl,fun i u hu=>by rw[<-q2];exact az i u hu⟩)),_,cm p,h⟩
    split at h
    case h_2=>exact h.elim
    rename_i hl;have p:=(hr.drop o).take n;have aa:((v2.drop o).take n).length=n:=by rw[p.len];exact br hl
    have az:∀(i:Nat) (u:Value),((v2.drop o).take n)[i]?=some u->(v1++(v2++v3))[pre.length+o+i]?=some u:=by
     intro i u hu;rw[Xx] at hu;split at hu
     case isFalse=>cases hu
     rw[Xu] at hu;have bu:=(WX.1 hu).1;rw[<-be.len,Xe (by omega),show v1.length+o+i-v1.length=o+i by omega,W8 bu];exact hu
    rcases bl with e2 | ⟨b,q,j,e2,e3⟩
    ·rw[e2];exact⟨_,aa,.inr (.inr (.inr ⟨k,g,ty,_,_,hL,am.2.2,rfl,fun i u hu=>by rw[Nat.add_zero];exact az i u hu⟩)),_,cm p,h⟩
    ·injection e3 with e3
     injection e3 with e3
     injection e3 with q1 q2 q3
     subst q1;rw[e2];exact⟨_,aa,.inr (.inr (.inr ⟨k,g,ty,_,q,hL,am.2.2,rfl,fun i u hu=>by rw[<-q2];exact az i u hu⟩)),_,cm p,h⟩
   rename_i t cs hk;obtain⟨g',ty',cr,d,bl⟩:=mg he w;obtain⟨g,ty,vs,hL,hr,am⟩:=jQ ht.tl hk;rw[hL] at d;injection d with d
   injection d with q1 q2 q3
   subst q1 q2 q3;split at h
   case h_2=>exact h.elim
   rename_i hl;have p:=(hr.drop off).take n;have aa:((vs.drop off).take n).length=n:=by rw[p.len];exact br hl
   have az:∀(i:Nat) (u:Value),((vs.drop off).take n)[i]?=some u->vs[off+i]?=some u:=by
    intro i u hu;rw[Xx] at hu;split at hu
    case isFalse=>cases hu
    rwa [Xu] at hu
   rcases bl with e2 | ⟨b,o,j,e2,e3⟩
   ·rw[e2];exact⟨_,aa,.inr (.inr (.inr ⟨k,g,ty,vs,off,hL,am.2.2,rfl,fun i u hu=>by rw[Nat.add_zero];exact az i u hu⟩)),_,cm p,h⟩
   ·injection e3 with e3
    injection e3 with e3
    injection e3 with q1 q2 q3
    subst q1 q2;rw[e2];exact⟨_,aa,.inr (.inr (.inr ⟨k,g,ty,vs,o,hL,am.2.2,rfl,fun i u hu=>az i u hu⟩)),_,cm p,h⟩
  ·rename_i k j off w;split at h
   case h_2=>exact h.elim
   rename_i t sz els hk;obtain⟨es,h1,h2,h3⟩:=h;obtain⟨ad,t',aE,m,c,cc,d,e2⟩:=si he w;obtain⟨v,xs,e3,_,hr⟩:=jT ht.tl hk;rw[e2] at e3;injection e3 with e3
   injection e3 with q1 q2 q3 q4 q5
   subst q2 q3 q5;obtain⟨vs,k1,k2,k3,k4⟩:=hr.at h1;have p:aB F L ((es.drop off).take n) ((vs.drop off).take n):=((k3.drop off).take n).lift;rw[d];refine⟨_,by rw[p.len];exact br h2,.inr (.inl ⟨k,_,_,_,_,_,ad,c,e2,rfl,rfl,fun i u hu=>?_⟩),_,cm p,h3⟩;rw[Xx] at hu;split at hu
   case isFalse=>cases hu
   rw[Xu] at hu;rw[Nat.add_assoc];exact k4 _ _ hu
  ·rename_i k bx j w;split at h
   case h_2=>exact h.elim
   rename_i hn;obtain rfl:=xo hn;obtain⟨o,h1,h2⟩:=h;obtain⟨g,t,cs,ad,d,e2,e3⟩:=Jr he w;rw[e2];exact⟨_,rfl,.inl (Cv e3 (v:=.pointer (some ⟨g,o,none⟩)) (by rw[XD,h1];rfl)),.ownv k o,⟨_,.inl rfl,by simp only[Rel];exact⟨g,t,cs,d,rfl⟩⟩,h2⟩
  ·exact h.elim
 case loadR agg n x =>
  split at h
  ·rename_i k off w;obtain⟨d,_⟩:=ep he w;rw[d];split at h
   case h_2=>exact h.elim
   rename_i t cs hk;obtain⟨g,ty,vs,hL,hr,am⟩:=jQ ht.tl hk;split at h
   case h_2=>exact h.elim
   rename_i hl;have p:=(hr.drop off).take n;simp only[hL];rw[fk am.2.2 (cQ (by rw[p.len];exact br hl))];exact⟨_,cm p,h⟩
  ·rename_i es off w;split at h
   case h_2=>exact h.elim
   rename_i hl;obtain⟨b,o,j,vs,d,hp,ho,hr⟩:=og he w;have p:aB F L ((es.drop off).take n) ((vs.drop off).take n):=((hr.drop off).take n).lift;rcases d with⟨d,rfl⟩ | d
   ·rw[d];exact⟨_,by rw[p.len];exact br hl,.inl (jl (es:=es) hp),_,cm p,h⟩
   ·rw[d];exact⟨_,by rw[p.len];exact br hl,.inl (jl (es:=es) hp),_,cm p,h⟩
  ·rename_i k off w;split at h
   case h_2=>exact h.elim
   rename_i t cs hk;obtain⟨g',ty',cr,d,bl⟩:=mg he w;obtain⟨g,ty,vs,hL,hr,am⟩:=jQ ht.tl hk;rw[hL] at d;injection d with d
   injection d with q1 q2 q3
   subst q1 q2 q3;split at h
   case h_2=>exact h.elim
   rename_i hl;have p:=(hr.drop off).take n;have aa:((vs.drop off).take n).length=n:=by rw[p.len];exact br hl
   have az:∀(i:Nat) (u:Value),((vs.drop off).take n)[i]?=some u->vs[off+i]?=some u:=by
    intro i u hu;rw[Xx] at hu;split at hu
    case isFalse=>cases hu
    rwa [Xu] at hu
   rcases bl with e2 | ⟨b,o,j,e2,e3⟩
   ·rw[e2];exact⟨_,aa,.inr (.inr (.inr ⟨k,g,ty,vs,off,hL,am.2.2,rfl,fun i u hu=>by rw[Nat.add_zero];exact az i u hu⟩)),_,cm p,h⟩
   ·injection e3 with e3
    injection e3 with e3
    injection e3 with q1 q2 q3
    subst q1 q2;rw[e2];exact⟨_,aa,.inr (.inr (.inr ⟨k,g,ty,vs,o,hL,am.2.2,rfl,fun i u hu=>az i u hu⟩)),_,cm p,h⟩
  ·rename_i k j off w;split at h
   case h_2=>exact h.elim
   rename_i t sz els hk;obtain⟨es,h1,h2,h3⟩:=h;obtain⟨ad,t',aE,m,c,cc,d,e2⟩:=si he w;obtain⟨v,xs,e3,_,hr⟩:=jT ht.tl hk;rw[e2] at e3;injection e3 with e3
   injection e3 with q1 q2 q3 q4 q5
   subst q2 q3 q5;obtain⟨vs,k1,k2,k3,k4⟩:=hr.at h1;have p:aB F L ((es.drop off).take n) ((vs.drop off).take n):=((k3.drop off).take n).lift;rw[d];refine⟨_,by rw[p.len];exact br h2,.inr (.inl ⟨k,_,_,_,_,_,ad,c,e2,rfl,rfl,fun i u hu=>?_⟩),_,cm p,h3⟩;rw[Xx] at hu;split at hu
   case isFalse=>cases hu
   rw[Xu] at hu;rw[Nat.add_assoc];exact k4 _ _ hu
  ·exact h.elim
 case loadD agg n x =>
  split at h
  ·rename_i k off w;obtain⟨d,_⟩:=ep he w;rw[d];split at h
   case h_3=>exact h.elim
   case h_2 =>
    rename_i t pre cs post hk;obtain⟨g,ty,v1,v2,v3,hL,be,hr,cX,am⟩:=rz ht.tl hk;rcases h with⟨o,rfl,h⟩ | ⟨us,e,hl,h⟩
    case inr =>
     have p:=((be.lift (L:=L)).drop off).take n;rw[e] at p;have aa:((v1.drop off).take n).length=n:=by rw[p.len];exact br hl
     have hp:(((v1++(v2++v3)).drop off).take n)=(v1.drop off).take n:=by
      by_cases bi:n=0
      ·subst bi;simp
      have:off+n<=v1.length:=by simp at aa;omega
      rw[List.drop_append_of_le_length (by omega),List.take_append_of_le_length (by simp;omega)]
     simp only[hL];rw[hp,fk am.2.2 (cQ aa)];exact⟨_,cm p,h⟩
    split at h
    case h_2=>exact h.elim
    rename_i hl;have p:=(hr.drop o).take n;have aa:((v2.drop o).take n).length=n:=by rw[p.len];exact br hl
    simp only[hL]
    by_cases bi:n=0
    ·subst bi;rw[fk am.2.2 (cQ (by simp))];simp only[List.take_zero] at h p ⊢;exact⟨_,cm p,h⟩
    have hn:o+n<=v2.length:=by simp at aa;omega
    have hp:=Bd (v1:=v1) (v3:=v3) aa hn;rw[<-be.len,hp,fk am.2.2 (cQ aa)];exact⟨_,cm p,h⟩
   rename_i t cs hk;obtain⟨g,ty,vs,hL,hr,am⟩:=jQ ht.tl hk;split at h
   case h_2=>exact h.elim
   rename_i hl;have p:=(hr.drop off).take n;simp only[hL];rw[fk am.2.2 (cQ (by rw[p.len];exact br hl))];exact⟨_,cm p,h⟩
  ·rename_i es off w;split at h
   case h_2=>exact h.elim
   rename_i hl;obtain⟨b,o,j,vs,d,hp,ho,hr⟩:=og he w;have p:aB F L ((es.drop off).take n) ((vs.drop off).take n):=((hr.drop off).take n).lift;rcases d with⟨d,rfl⟩ | d
   ·rw[d];exact⟨_,by rw[p.len];exact br hl,.inl (jl (es:=es) hp),_,cm p,h⟩
   ·rw[d];exact⟨_,by rw[p.len];exact br hl,.inl (jl (es:=es) hp),_,cm p,h⟩
  ·exact h.elim
 case gload g =>
  split at h
  case h_2=>exact h.elim
  rename_i k hg;obtain⟨v,t,fr,h1,h2⟩:=FL ht.glob hg;exact⟨v,t,fr,h1,.opq k,⟨_,rfl,by simp only[Rel];exact h2⟩,h⟩
 case loadF agg n x =>
  split at h
  ·rename_i es off w;split at h
   case h_2=>exact h.elim
   rename_i hl;obtain⟨b,o,j,vs,d,hp,ho,hr⟩:=og he w;have p:aB F L ((es.drop off).take n) ((vs.drop off).take n):=((hr.drop off).take n).lift;rcases d with⟨d,rfl⟩ | d
   ·rw[d];exact⟨_,by rw[p.len];exact br hl,.inl (jl (es:=es) hp),_,cm p,h⟩
   ·rw[d];exact⟨_,by rw[p.len];exact br hl,.inl (jl (es:=es) hp),_,cm p,h⟩
  ·exact h.elim
 case loadK key agg n x =>
  split at h
  ·rename_i k off w;obtain⟨d,_⟩:=ep he w;rw[d];split at h
   case h_2=>exact h.elim
   rename_i hb;simp only[hb];split at h
   case h_2=>exact h.elim
   rename_i t cs hk;obtain⟨g,ty,vs,hL,hr,am⟩:=jQ ht.tl hk;split at h
   case h_2=>exact h.elim
   rename_i hl;have p:=(hr.drop off).take n;simp only[hL];rw[fk am.2.2 (cQ (by rw[p.len];exact br hl))];exact⟨_,cm p,h⟩
  ·exact h.elim
 case b2sD x =>
  split at h
  ·rename_i els w;obtain⟨bs,rfl,h⟩:=h;obtain⟨a,c,sz,d,e2,e3,e4,e5⟩:=jn he w;rw[d];have aa:(af bs).length=bs.length:=by simp[af]
   refine⟨bs.map fun b=>Value.int .u8 b.toNat,by simp[aa],?_,bs,rfl,_,su ?_,h⟩
   ·rcases ud e5 e4 with h1 | h1
    ·exact .inl h1
    ·exact .inr (by rw[aa];exact h1)
   ·rw[aa] at e2;show bs.toArray.size<=maxLen;simp;exact(by simpa[af] using e3)
  ·exact h.elim
 case b2sR x =>
  split at h
  case h_2=>exact h.elim
  rename_i k w;split at h
  case h_2=>exact h.elim
  rename_i t sz els hk;split at h
  case h_2=>exact h.elim
  rename_i bz;have:=xo bz;subst this;obtain⟨bs,rfl,h⟩:=h;obtain⟨a,c,t',aE,n,cc,d,e2⟩:=rq he w;obtain⟨v,xs,e3,⟨hm,a',c',q6,q7⟩,hr⟩:=jT ht.tl hk;have aa:(af bs).length=bs.length:=by simp[af]
  rw[e2] at e3;injection e3 with e3
  injection e3 with q1 q2 q3 q4 q5
  subst q2 q3 q4 q5;have w:=yD hr;subst w;rw[<-q1] at q6;injection q6 with q6 q8
  subst q6;rw[d];refine⟨k,_,c,bs,e2,aa.symm,q7,_,su ?_,h⟩;show bs.toArray.size<=maxLen;simp;omega
 case mkif t x =>
  split at h
  ·rename_i k n w;obtain⟨d,e2⟩:=dX he w;rw[d];exact⟨.ifc t (.int k n),⟨_,rfl,by simp only[Rel];exact⟨_,rfl,rfl,e2⟩⟩,h⟩
  ·rename_i b w;rw[gT he w];exact⟨.ifc t (.bool b),⟨_,rfl,by simp only[Rel];exact⟨_,rfl,rfl⟩⟩,h⟩
  ·rename_i s w;obtain⟨d,e2⟩:=jh he w;rw[d];exact⟨.ifc t (.str s),⟨_,rfl,by simp only[Rel];exact⟨_,rfl,rfl,e2⟩⟩,h⟩
  ·rename_i es off w;obtain⟨b,o,j,vs,d,hp,ho,hr⟩:=og he w;rcases d with⟨d,rfl⟩ | d
   ·rw[d];exact⟨.ifc t (.pt es off),⟨_,rfl,by simp only[Rel];exact⟨_,rfl,b,o,vs,rfl,hp,ho,hr⟩⟩,h⟩
   ·rw[d];exact⟨.ifc t (.pt es off),⟨_,rfl,by simp only[Rel];exact⟨_,rfl,b,o+j,vs,by rw[bU],hp,ho,hr⟩⟩,h⟩
  ·rename_i k off w;obtain⟨d,g,t',cs,e2⟩:=ep he w;rw[d];simp only[e2];exact⟨.ifo none t k off,⟨_,rfl,by simp only[Rel];exact⟨g,t',cs,e2,rfl⟩⟩,h⟩
  ·rename_i k off w;obtain⟨g,t',cs,d,e2⟩:=mg he w;rcases e2 with e2 | ⟨b,o,j,e2,e3⟩
   ·rw[e2];exact⟨.ifo none t k off,⟨_,rfl,by simp only[Rel];exact⟨g,t',cs,d,rfl⟩⟩,h⟩
   ·rw[e2];exact⟨.ifo none t k off,⟨_,rfl,by simp only[Rel];exact⟨g,t',cs,d,by rw[bU,e3];rfl⟩⟩,h⟩
  ·rename_i cs w;split at h
   case h_2=>exact h.elim
   rename_i hp;rw[dV] at h;obtain⟨vs,d,e2⟩:=uQ he w;rw[d];exact⟨.ifc t (.agg cs),⟨_,rfl,by simp only[Rel];exact⟨_,rfl,vs,rfl,dU hp e2⟩⟩,h⟩
  ·exact h.elim
 case mkmv nm x =>
  split at h
  ·rename_i t c w;obtain⟨u,d,hr⟩:=zE he w;rw[d];exact⟨.mval nm (.ifc t c),⟨_,rfl,by simp only[Rel];exact⟨_,rfl,_,rfl,hr⟩⟩,h⟩
  ·rename_i t k off w;obtain⟨g,t',cs,hg,d⟩:=oe he w;rw[d];exact⟨.ifo (some nm) t k off,⟨_,rfl,by simp only[Rel];exact⟨g,t',cs,hg,rfl⟩⟩,h⟩
  ·exact h.elim
 case nilck x =>
  split at h
  ·rename_i k off w;obtain⟨d,e2⟩:=ep he w;rw[d];exact⟨.own k off,⟨rfl,e2⟩,h⟩
  ·rename_i es off w;obtain⟨b,o,j,vs,d,hp,ho,hr⟩:=og he w;rcases d with⟨d,rfl⟩ | d
   ·rw[d];exact⟨.pt es off,⟨b,o,0,vs,.inl ⟨rfl,rfl⟩,hp,ho,hr⟩,h⟩
   ·rw[d];exact⟨by simp,.pt es off,⟨b,o,j,vs,.inr rfl,hp,ho,hr⟩,h⟩
  ·rename_i k off w;obtain⟨g,t,cs,d,e2⟩:=mg he w;rcases e2 with e2 | ⟨b,o,j,e2,e3⟩
   ·rw[e2];exact⟨.ownv k off,⟨_,.inl rfl,by simp only[Rel];exact⟨g,t,cs,d,rfl⟩⟩,h⟩
   ·rw[e2];exact⟨by simp,.ownv k off,⟨_,.inr ⟨b,o,j,rfl,rfl⟩,by simp only[Rel];exact⟨g,t,cs,d,e3.symm⟩⟩,h⟩
  ·rename_i f fi ca w;obtain⟨cy,cY,d,h1,h2⟩:=ru he w;rw[d];exact⟨.fn f fi ca,⟨_,rfl,by simp only[Rel];exact⟨cy,cY,rfl,h1,h2⟩⟩,h⟩
  ·rename_i nm c w;split at h
   case h_2=>exact h.elim
   rename_i t c;obtain⟨u,d,hr⟩:=vV he w;have dT:=hr;simp only[Rel] at hr;obtain⟨u',rfl,hu⟩:=hr;rw[d];exact⟨h.1,.mval nm (.ifc t c),⟨_,rfl,by simp only[Rel];exact⟨_,rfl,_,rfl,hu⟩⟩,h.2⟩
  ·rename_i nm t k off w;obtain⟨g,t',cs,hg,d⟩:=oe he w;rw[d];exact⟨h.1,.ifo (some nm) t k off,⟨_,rfl,by simp only[Rel];exact⟨g,t',cs,hg,rfl⟩⟩,h.2⟩
  ·exact h.elim
 case bin op x y =>
  split at h
  ·rename_i k a k' b w hy;obtain⟨d,w1⟩:=dX he w;obtain⟨e2,w2⟩:=dX he hy;rw[d,e2];split at h
   ·rename_i cp;simp only[cp];exact GL w1 h fun v hv hV=>⟨_,vU hv,hV⟩
   ·rename_i cp;simp only[cp];split at h
    case h_2=>exact h.elim
    rename_i hk;simp only[hk];exact ER w1 h fun v hv hV=>⟨_,vU hv,hV⟩
  ·rename_i a b w hy;rw[(jh he w).1,(jh he hy).1];exact ES h fun v hv hV=>⟨_,vU hv,hV⟩
  ·exact h.elim
 case eqB neg x y =>
  split at h
  case h_2=>exact h.elim
  rename_i a b w hy;rw[gT he w,gT he hy];exact⟨_,cA,h⟩
 case eqP neg x y =>
  have hy:Cr y=true->ev ρ y=.v (.pointer none):=by
   unfold Cr;split
   ·intro _;rfl
   ·intro e;cases e
  split at h
  ·rename_i k off h1 w;rw[(ep he w).1,hy h1];exact⟨_,cA,h⟩
  ·rename_i k off h1 w;obtain⟨g,t,cs,d,e2⟩:=mg he w;rcases e2 with e2 | ⟨b,o,j,e2,_⟩
   ·rw[e2,hy h1];exact⟨_,cA,h⟩
   ·rw[e2,hy h1];exact⟨_,cA,h⟩
  ·rename_i es off h1 w;obtain⟨b,q,j,vs,d,hp,ho,hr⟩:=og he w;rcases d with⟨d,rfl⟩ | d
   ·rw[d,hy h1];exact⟨_,cA,h⟩
   ·rw[d,hy h1];exact⟨_,cA,h⟩
  ·rename_i h1 w;rw[GN he w,hy h1];exact⟨_,cA,h⟩
  ·exact h.elim
 case eqS neg x y =>
  have hy:isNil y=true->ev ρ y=.v (.slice none 0 0):=by
   unfold isNil;split
   ·intro _;rfl
   ·intro e;cases e
  split at h
  ·rename_i els h1 w;obtain⟨a,c,sz,d,e2,e3,e4,e5⟩:=MR he w;rw[d,hy h1];refine⟨_,cA,h _ fun bm=>?_⟩;cases a with
   | none=>exact vz (e4 rfl).1 bm
   | some a=>rfl
  ·rename_i els h1 w;obtain⟨a,sz,d,_⟩:=zH he w;rw[d,hy h1];exact⟨_,cA,h⟩
  ·rename_i h1 w;rw[nI he w,hy h1];exact⟨_,cA,h⟩
  ·exact h.elim
 case eqF neg x y =>
  have hy:Cs y=true->ev ρ y=.v .nilFunc:=by
   unfold Cs;split
   ·intro _;rfl
   ·intro e;cases e
  split at h
  ·rename_i h1 w;rw[GP he w,hy h1];exact⟨_,cA,h⟩
  ·rename_i f fi ca h1 w;obtain⟨cy,cY,d,_,_⟩:=ru he w;rw[d,hy h1];exact⟨_,cA,h⟩
  ·exact h.elim
 case eqN neg x =>
  split at h
  ·rename_i t c w;obtain⟨u,d,_⟩:=zE he w;rw[d];exact⟨_,cA,h⟩
  ·rename_i t k off w;obtain⟨g,t',cs,hg,d⟩:=oe he w;rw[d];exact⟨_,cA,h⟩
  ·rename_i k w;split at h
   case h_2=>exact h.elim
   rename_i b hb;obtain⟨v,d,h1⟩:=zF he w;rw[d];obtain⟨q1,q2⟩:=FN h1 hb;cases b with
   | true=>rw[q1 rfl];exact⟨_,cA,h⟩
   | false=>obtain⟨t,u,rfl⟩:=q2 rfl;exact⟨_,cA,h⟩
  ·exact h.elim
 case tas t z x =>
  have hz:Rel F L (cv z).cel z:=kG (MQ z);split at h
  ·rename_i t' c w;obtain⟨u,d,hr⟩:=zE he w;rw[d];simp only[Dk] at h;cases hb:Nat.beq t' t with
   | true =>
    rw[hb] at h;simp only[hb];exact⟨.tup [c,.bool true],⟨_,rfl,by simp only[Rel];exact⟨[u,.bool true],rfl,by simp only[aB,Rel];exact⟨_,_,rfl,hr.lift,_,_,rfl,rfl,rfl⟩⟩⟩,h⟩
   | false =>
    rw[hb] at h;simp only[hb];exact⟨.tup [(cv z).cel,.bool false],⟨_,rfl,by simp only[Rel];exact⟨[z,.bool false],rfl,by simp only[aB,Rel];exact⟨_,_,rfl,hz,_,_,rfl,rfl,rfl⟩⟩⟩,h⟩
  ·rename_i t' k off w;obtain⟨g,t0,cs,hg,d⟩:=oe he w;rw[d];simp only[Dk] at h;cases hb:Nat.beq t' t with
   | true =>
    rw[hb] at h;simp only[Ba,hb];exact⟨.tup [.own k off,.bool true],⟨_,rfl,by simp only[Rel];exact⟨[.pointer (some ⟨g,off,none⟩),.bool true],rfl,by simp only[aB,Rel];exact⟨_,_,rfl,⟨g,t0,cs,hg,rfl⟩,_,_,rfl,rfl,rfl⟩⟩⟩,h⟩
   | false =>
    rw[hb] at h;simp only[Ba,hb];exact⟨.tup [(cv z).cel,.bool false],⟨_,rfl,by simp only[Rel];exact⟨[z,.bool false],rfl,by simp only[aB,Rel];exact⟨_,_,rfl,hz,_,_,rfl,rfl,rfl⟩⟩⟩,h⟩
  ·exact h.elim
 case eqA neg ks x y =>
  split at h
  case h_2=>exact h.elim
  rename_i cs ds w hy;split at h
  case h_2=>exact h.elim
  rename_i b hb;obtain⟨vs,d,h1⟩:=uQ he w;obtain⟨us,e2,h2⟩:=uQ he hy;simp only[d,e2];rw[Jv hb h1 h2];exact⟨_,cA,h⟩
 case un op x =>
  split at h
  ·rename_i b w;rw[gT he w];exact⟨_,cA,h⟩
  ·rename_i k n w;rw[(dX he w).1];exact⟨⟨_,gV (wf_wrap _ _),h.out⟩⟩
  ·rename_i k n w;rw[(dX he w).1];exact⟨_,gV (wf_wrap _ _),h⟩
  ·exact h.elim
 case conv k x =>
  split at h
  case h_2=>exact h.elim
  rename_i k' n w;rw[(dX he w).1];exact⟨⟨_,gV (wf_wrap _ _),h.out⟩⟩
 case b2s x =>
  split at h
  ·rename_i els w;obtain⟨bs,rfl,h⟩:=h;obtain⟨a,c,sz,d,e2,e3,e4,e5⟩:=jn he w;rw[d];have aa:(af bs).length=bs.length:=by simp[af]
   refine⟨bs.map fun b=>Value.int .u8 b.toNat,by simp[aa],?_,bs,rfl,_,su ?_,h⟩
   ·rcases ud e5 e4 with h1 | h1
    ·exact .inl h1
    ·exact .inr (.inr (.inl (by rw[aa];exact h1)))
   ·rw[aa] at e2;show bs.toArray.size<=maxLen;simp;exact(by simpa[af] using e3)
  ·exact h.elim
 case mkfn f fi ca=>exact⟨.fn f _ _,⟨_,rfl,by simp only[Rel];exact⟨_,_,rfl,cL he fi,cL he ca⟩⟩,h⟩
 case slc sz x lo hi =>
  split at h
  case h_2=>exact h.elim
  rename_i els w;split at h
  case h_2=>exact h.elim
  rename_i l r hl hh;obtain⟨h1,h2,h3,h4,h5⟩:=h;obtain⟨a,c,aE,d,e2,e3,e4,e5⟩:=jn he w;rw[d];simp only[uR he hl,uR he hh];refine⟨h1,h2,by omega,_,?_,h5⟩;have aa:((els.drop l.toNat).take (r.toNat-l.toNat)).length=r.toNat-l.toNat:=by simp;omega
  have hs:els≠[]->aE=sz:=by
   intro bm;obtain⟨es,da⟩:=List.exists_mem_of_ne_nil _ bm;obtain⟨i,hi⟩:=Xn.1 da;obtain⟨vs,k1,_,_,k4⟩:=lV.1 e5 i es hi;rw[<-k1,k4.len,h4 es da]
  have key:=GR (l:=l.toNat) (h:=r.toNat) e5 e4 (by omega) (by omega) e2;unfold fu;have:=Dr (F:=F) (L:=L) (els:=(els.drop l.toNat).take (r.toNat-l.toNat)) (a:=if c=l.toNat then a else a.map (·.add (l.toNat*sz))) (c:=c-l.toNat) (sz:=sz) (by rw[aa];omega) (by rw[aa];omega) ?_ ?_
  ·rw[aa] at this;exact this
  ·intro hn;have ha:a=none:=by
    split at hn
    ·exact hn
    ·cases a with
     | none=>rfl
     | some a=>simp at hn
   obtain⟨q1,q2⟩:=e4 ha;subst q1;simp;omega
  ·by_cases bm:els=[]
   ·subst bm;simp only[List.drop_nil,List.take_nil,fE]
   ·rw[hs bm] at key;exact key
 case slcS x lo hi =>
  split at h
  case h_2=>exact h.elim
  rename_i s w;split at h
  case h_2=>exact h.elim
  rename_i l r hl hh;obtain⟨h1,h2,h3,h5⟩:=h;rw[(jh he w).1];simp only[uR he hl,uR he hh];refine⟨h1,h2,h3,_,su ?_,h5⟩;have:=(jh he w).2;rw[ByteArray.size_extract];omega
 case fieldA off x =>
  split at h
  ·rename_i k o w;obtain⟨d,e2⟩:=ep he w;rw[d];exact⟨.own k (o+off),⟨rfl,e2⟩,h⟩
  ·rename_i es o w;obtain⟨b,q,j,vs,d,hp,ho,hr⟩:=og he w;have cz:∀j',q+j'=q+j+off->Jj F b (q+j') (o+off) vs:=by
    intro j' hj;obtain⟨db,cx,t,fr,k1,k2,k3⟩:=hp;exact⟨db,cx,t,fr,k1,by omega,k3⟩
   rcases d with⟨d,rfl⟩ | d
   ·rw[d];exact⟨.pt es (o+off),⟨b,q,off,vs,.inr rfl,cz _ (by omega),ho,hr⟩,h⟩
   ·rw[d];exact⟨.pt es (o+off),⟨b,q,j+off,vs,.inr rfl,cz _ (by omega),ho,hr⟩,h⟩
  ·rename_i k j o w;obtain⟨ad,t,sz,n,c,xs,d,e2⟩:=si he w;rw[d];exact⟨.elr k j (o+off),⟨ad,t,sz,n,c,xs,by rw[Nat.add_assoc],e2⟩,h⟩
  ·rename_i k o w;obtain⟨g,t,cs,d,e2⟩:=mg he w;rcases e2 with e2 | ⟨b,q,j,e2,e3⟩
   ·rw[e2];exact⟨.ownv k (o+off),⟨_,.inr ⟨g,o,off,rfl,rfl⟩,by simp only[Rel];exact⟨g,t,cs,d,rfl⟩⟩,h⟩
   ·rw[e2];injection e3 with e3
    injection e3 with e3
    injection e3 with e4 e5
    subst e4;exact⟨.ownv k (o+off),⟨_,.inr ⟨g,q,j+off,rfl,rfl⟩,by simp only[Rel];exact⟨g,t,cs,d,by rw[e5,Nat.add_assoc]⟩⟩,h⟩
  ·exact h.elim
 case fieldV agg off n x =>
  split at h
  case h_2=>exact h.elim
  rename_i cs w;split at h
  case h_2=>exact h.elim
  rename_i hl;obtain⟨vs,d,hr⟩:=uQ he w;have p:=(hr.drop off).take n;rw[d];simp only[];rw[cQ (by rw[p.len];exact br hl)];exact⟨_,cm p,h⟩
 case idxA sz x i =>
  split at h
  ·rename_i els k i w hi;obtain⟨es,h1,h2,h3,h4⟩:=h;obtain⟨a,c,aE,d,e2,e3,e4,e5⟩:=jn he w;rw[d,(dX he hi).1];have bu:i.toNat<els.length:=(WX.1 h2).1;obtain⟨vs,k1,⟨ad,cx,t,fr,e,hb,dl,hv⟩,k3,k4⟩:=lV.1 e5 _ _ h2;have hs:aE=sz:=by rw[<-k1,k4.len,br h3]
   subst hs;subst e;refine⟨by simp,h1,by omega,_,GU hb dl (fun i v hi=>?_) k3 k4,h4⟩;have:=hv i v hi;simpa using this
  ·rename_i k i' i w hi;split at h
   case h_2=>exact h.elim
   rename_i t aE els hk;split at h
   case h_2=>exact h.elim
   rename_i bz;have:=xo bz;subst this;obtain⟨h1,h2,h3⟩:=h;obtain⟨a,c,t',aE,n,cc,d,e2⟩:=rq he (zG w);obtain⟨v,xs,e3,⟨_,a',c',q6,q7⟩,hr⟩:=jT ht.tl hk;rw[e2] at e3;injection e3 with e3
   injection e3 with q1 q2 q3 q4 q5
   subst q2 q3 q4;rw[d,(dX he hi).1];cases a with
   | none =>
    rw[<-q1] at q6;injection q6 with q6
    have:=q7 q6.symm;omega
   | some ad=>exact⟨by simp,h1,h2,.elr k i.toNat 0,⟨ad,_,_,_,c,_,by simp,e2⟩,h3⟩
  ·rename_i k bx k' i w hi;split at h
   case h_2=>exact h.elim
   rename_i bz;obtain rfl:=xo bz;obtain⟨h1,h2,h3⟩:=h;obtain⟨g,t,cs,ad,d,e2,e3,e4⟩:=Dp he (Dq w);rw[e2,(dX he hi).1];exact⟨by simp,h1,h2,.slp k bx i.toNat,⟨g,t,cs,ad,d,by rw[Nat.mul_one],e4⟩,h3⟩
  ·exact h.elim
 case idxS x i =>
  split at h
  case h_2=>exact h.elim
  rename_i s k i w hi;obtain⟨h1,h2,h3⟩:=h;rw[(jh he w).1,(dX he hi).1];refine⟨h1,h2,_,gV ?_,h3⟩;have:=(s.data.toList.getD i.toNat 0).toNat_lt;generalize(s.data.toList.getD i.toNat 0).toNat=m at *;simp[Lit.wf,IntKind.min,IntKind.max,IntKind.bits,IntKind.signed];omega
 case extr x i =>
  split at h
  case h_2=>exact h.elim
  rename_i cs w;split at h
  case h_2=>exact h.elim
  rename_i v hv;obtain⟨vs,d,hr⟩:=Jp he w;rw[d];have bu:i<vs.length:=by rw[hr.len];exact(WX.1 hv).1
  simp only[yo bu];exact⟨_,ji (hr.at hv (yo bu)),h⟩
 case len x =>
  have wl:∀n:Nat,n<=maxLen->(Lit.int .i64 (n:Int)).wf=true:=by
   intro n hn;simp only[maxLen] at hn;simp[Lit.wf,IntKind.min,IntKind.max,IntKind.bits,IntKind.signed];omega
  split at h
  ·rename_i els w;obtain⟨a,c,aE,d,e2,e3,e4,e5⟩:=jn he w;rw[d];exact⟨_,gV (wl _ e3),h⟩
  ·rename_i k w;split at h
   case h_2=>exact h.elim
   rename_i t aE els hk;obtain⟨a,c,t',aE,n,cc,d,e2⟩:=rq he (zG w);obtain⟨v,xs,e3,⟨hm,_⟩,hr⟩:=jT ht.tl hk;rw[e2] at e3;injection e3 with e3
   injection e3 with q1 q2 q3 q4 q5
   subst q4;rw[d];exact⟨_,gV (wl _ hm),h⟩
  ·rename_i k w;obtain⟨n,h1,h2,h3⟩:=h;obtain⟨v,d,e2⟩:=zF he (Jt w);obtain⟨a,c,rfl⟩:=Ir e2 h1;rw[d];exact⟨_,gV (wl _ (by simpa[maxLen] using h2)),h3⟩
  ·rename_i k bx w;obtain⟨g,t,cs,ad,d,e2,e3,e4⟩:=Dp he (Dq w);rw[e2];exact⟨_,gV (wl _ e3),h⟩
  ·exact h.elim
 case lenS x =>
  split at h
  case h_2=>exact h.elim
  rename_i s w;obtain⟨d,e2⟩:=jh he w;rw[d];refine⟨_,gV ?_,h⟩;simp only[maxLen] at e2;simp[Lit.wf,IntKind.min,IntKind.max,IntKind.bits,IntKind.signed];omega
 case mlook str ok z x i =>
  split at h
  case h_2=>exact h.elim
  rename_i k w;split at h
  case h_2=>exact h.elim
  rename_i es hk;obtain⟨g,cs,d,e2⟩:=zI he w;obtain⟨g',vs,e3,hE⟩:=Cx ht.tl hk;rw[e2] at e3;injection e3 with e3
  injection e3 with q1 q2 q3
  subst q1 q3;rw[d];refine⟨k,cs,e2,hE.isMap,⟨?_⟩⟩;rcases h.out with⟨c,h1,h2⟩ | ⟨h1,h2⟩
  ·obtain⟨j,v,h3,h4⟩:=vW (Dt he) 0 hE h1;refine .inl ⟨j,v,h3,?_⟩;have h5:Rel F L c v:=h4.lift;cases ok with
   | true=>exact⟨_,yE h5,h2⟩
   | false=>exact⟨_,ji h5,h2⟩
  ·refine .inr ⟨vW (Dt he) 0 hE h1,?_⟩;have h5:Rel F L (cv z) z:=MS z;cases ok with
   | true=>exact⟨_,yE h5,h2⟩
   | false=>exact⟨_,MQ z,h2⟩
 case mlen x =>
  split at h
  case h_2=>exact h.elim
  rename_i k w;split at h
  case h_2=>exact h.elim
  rename_i es hk;obtain⟨g,cs,d,e2⟩:=zI he w;obtain⟨g',vs,e3,hE⟩:=Cx ht.tl hk;rw[e2] at e3;injection e3 with e3
  injection e3 with q1 q2 q3
  subst q1 q3;rw[d];refine⟨k,cs,e2,hE.isMap,_,gV ?_,?_⟩
  ·rw[hE.len];have:=h.1;simp only[maxLen] at this;simp[Lit.wf,IntKind.min,IntKind.max,IntKind.bits,IntKind.signed];omega
  ·rw[hE.len];exact h.2
 case mm mx args =>
  split at h
  case h_2=>exact h.elim
  rename_i k a l hl;split at h
  case h_2=>exact h.elim
  rename_i m hm
  match args,hl with
  | x::args,hl =>
   simp only[W6,List.cons.injEq] at hl;obtain⟨w,rfl⟩:=hl;simp only[W6,(dX he w).1,GQ he mx args hm];exact⟨_,gV h.1,h.2⟩
end
theorem TL.Wc (L:TL) (k:Nat) (o:TO) (j:Nat):(L.set k o).get j=if j=k then some o else L.get j:=by
 induction L with
 | nil =>
  simp only[TL.set,TL.get];cases h:Nat.beq k j with
  | true=>have:=xo h;simp[this]
  | false=>have:=eV h;simp;omega
 | cons p l c =>
  obtain⟨i,q⟩:=p;simp only[TL.set];cases h:Nat.beq i k with
  | true =>
   have e:=xo h;subst e;simp only[TL.get];cases a:Nat.beq i j with
   | true=>have:=xo a;simp[this]
   | false=>have:=eV a;simp;omega
  | false =>
   have b:=eV h;simp only[];cases d:Nat.ble i k with
   | true =>
    simp only[TL.get];cases a:Nat.beq i j with
    | true=>have:=xo a;simp;omega
    | false=>simpa using c
   | false =>
    simp only[TL.get];cases a:Nat.beq k j with
    | true=>have:=xo a;simp[this]
    | false =>
     have:=eV a;simp only[];rw[vv (by omega)]
theorem TL.Wk (L:TL) (k j:Nat):(L.del k).get j=if j=k then none else L.get j:=by
 induction L with
 | nil=>simp[TL.del,TL.get]
 | cons p l c =>
  obtain⟨i,q⟩:=p;simp only[TL.del];cases h:Nat.beq i k with
  | true =>
   have e:=xo h;subst e;simp only[TL.get,c]
   by_cases a:j=i
   ·simp[a]
   ·have:Nat.beq i j=false:=by cases b:Nat.beq i j with | true=>exact vz (xo b).symm a | false=>rfl
    simp[a,this]
  | false =>
   have d:=eV h;simp only[TL.get];cases b:Nat.beq i j with
   | true=>have:=xo b;simp;omega
   | false=>simpa using c
theorem sw:∀(l:List TO) (k j:Nat),TL.get (iD k l) j=if k<=j then l[j-k]? else none
 | [],k,j=>by simp[iD,TL.get]
 | o::l,k,j=>by
  simp only[iD,TL.get];cases h:Nat.beq k j with
  | true=>have:=xo h;subst this;simp
  | false =>
   have b:=eV h;simp only[sw l (k+1) j]
   by_cases a:k<=j
   ·rw[j3 (by omega),j3 a,show j-k=(j-(k+1))+1 by omega,XH]
   ·rw[vv (by omega),vv a]
theorem bZ (l:List TO) (j:Nat):TL.get (iN l) j=if 1000<=j then l[j-1000]? else none:=sw l 1000 j
theorem Be:∀{L:TL}{ks:List Nat}{l:List TO},L.sub ks=some l->l.length=ks.length/\∀(i:Nat) (k:Nat),ks[i]?=some k->L.get k=l[i]?
 | L,[],l,h=>by simp only[TL.sub,x5] at h;subst h;simp
 | L,k::ks,l,h=>by
  simp only[TL.sub] at h;split at h
  case h_2=>cases h
  rename_i o f a c;injection h with h
  subst h;obtain⟨d,e⟩:=Be c;refine⟨by simp[d],fun i b hi=>?_⟩;cases i with
  | zero=>simp at hi;subst hi;simpa using a
  | succ i=>simp at hi;simpa using e i b hi
theorem nJ:∀(ks:List Nat) (L:TL) (j:Nat),(L.Wg ks).get j=if j∈ks then none else L.get j
 | [],L,j=>by simp[TL.Wg]
 | k::ks,L,j=>by
  simp only[TL.Wg,nJ ks,TL.Wk,WZ]
  by_cases a:j=k<;>by_cases b:j∈ks<;>simp[a,b]
theorem lI:∀(ko:List Nat) (l:List TO) (L:TL) (j:Nat),ko.Nodup->ko.length=l.length ->
  ((L.puts ko l).get j=L.get j/\j∉ko)\/∃i,ko[i]?=some j/\(L.puts ko l).get j=l[i]?/\i<l.length
 | [],l,L,j,_,h=>by
  refine .inl ⟨?_,by simp⟩;cases l<;>rfl
 | k::ko,[],L,j,_,h=>by simp at h
 | k::ko,o::l,L,j,d,h=>by
  simp only[Xh,Nat.add_right_cancel_iff] at h;rw[List.nodup_cons] at d;simp only[TL.puts];rcases lI ko l (L.set k o) j d.2 h with⟨a,b⟩ | ⟨i,a,b,e⟩
  ·rw[TL.Wc] at a
   by_cases c:j=k
   ·subst c;rw[j3 rfl] at a;exact .inr ⟨0,by simp,by simpa using a,by simp⟩
   ·rw[vv c] at a;exact .inl ⟨a,by simp[c,b]⟩
  ·exact .inr ⟨i+1,by simpa using a,by simpa using b,by simp;omega⟩
theorem pQ (g:C->C):∀(L:TL) (k:Nat),(TL.Wh g L).get k=(L.get k).map (TO.Wh g)
 | [],k=>rfl
 | (j,o)::l,k=>by
  simp only[TL.Wh,TL.get];cases h:Nat.beq j k with
  | true=>rfl
  | false=>exact pQ g l k
section
variable {P:Program}{G:Nat->Option (Nat×TypeId)}{F:aA}{L:Loc}{ρ:Env}{M:TL}{τ:aT}
theorem zJ (d:Option Nat) (c:C) (τ:aT) (t:Nat):bw d c τ t=match d with | some k=>if t=k then c else τ t | none=>τ t:=by
 cases d with
 | none=>rfl
 | some k =>
  simp only[bw];cases h:Nat.beq t k with
  | true=>have:=xo h;simp[this]
  | false=>have:=eV h;simp[this]
theorem Jw {F:aA}{L:Loc}{τ:aT}{ρ:Env}(h:∀j,aN F L (τ j) (ρ j)) {c:C}{sv:SV}(a:aN F L c sv) (d:Option Nat):∀j,aN F L (bw d c τ j) (put d sv ρ j):=by
 intro j;rw[zJ,put_eq];cases d with
 | none=>exact h j
 | some k =>
  simp only[];split
  ·exact a
  ·exact h j
theorem TS.put (a:TS G F L ρ M τ) {c:C}{sv:SV}(b:aN F L c sv) (d:Option Nat):TS G F L (put d sv ρ) M (bw d c τ):=⟨a.tl,Jw a.env b d,a.kp,a.glob⟩
theorem dR {F:aA}{L:Loc}{a:Option TO}{b:Option Own}(h:GH F L a b):(a=none/\b=none)\/∃o p,a=some o/\b=some p/\cN F L o p:=by
 cases a<;>cases b<;>simp only[GH] at h
 ·exact .inl ⟨rfl,rfl⟩
 ·exact .inr ⟨_,_,rfl,rfl,h⟩
theorem TS.new {F':aA}(c:F.le F') (b:TS G F L ρ M τ) {k:Nat}(l:L.get k=none) {o:Own}{to:TO}(m:cN F' (L.set k o) to o):TS G F' (L.set k o) ρ (M.set k to) τ:=by
 have a:Ext L (L.set k o):=by
  intro j p e;refine⟨p,?_,Own.Wj p⟩;rw[Loc.Wc,vv (by rintro rfl;rw[l] at e;cases e)];exact e
 refine⟨fun j=>?_,fun j=>(b.env j).ext c a,fun j g t e=>?_,b.glob.mono c⟩
 ·rw[TL.Wc,Loc.Wc];split
  ·exact m
  ·rcases dR (b.tl j) with⟨f,d⟩ | ⟨p,q,f,d,n⟩
   ·rw[f,d];trivial
   ·rw[f,d];exact n.ext c a
 ·obtain⟨cs,h⟩:=b.kp j g t e;exact⟨cs,by rw[Loc.Wc,vv (by rintro rfl;rw[l] at h;cases h)];exact h⟩
theorem TS.mono {F':aA}(b:F.le F') (a:TS G F L ρ M τ):TS G F' L ρ M τ:=⟨a.tl.mono b,fun j=>(a.env j).mono b,a.kp,a.glob.mono b⟩
theorem TS.turn (c:TS G F L ρ M τ) {k:Nat}{o o':Own}(m:L.get k=some o) (s:Own.like o o') (b:∀g t cs,o=.box g t cs->∃cs',o'=.box g t cs') {to:TO}(n:∀L',Ext L L'->cN F L' to o') :
  TS G F (L.set k o') ρ (M.set k to) τ:=by
 have a:Ext L (L.set k o'):=by
  intro j p e;rw[Loc.Wc];split
  ·rename_i l;subst l;rw[m] at e;injection e with e
   subst e;exact⟨o',rfl,s⟩
  ·exact⟨p,e,Own.Wj p⟩
 refine⟨fun j=>?_,fun j=>(c.env j).ext (aA.le_refl F) a,fun j g t e=>?_,c.glob⟩
 ·rw[TL.Wc,Loc.Wc];split
  ·exact n _ a
  ·rcases dR (c.tl j) with⟨f,d⟩ | ⟨p,q,f,d,r⟩
   ·rw[f,d];trivial
   ·rw[f,d];exact r.ext (aA.le_refl F) a
 ·obtain⟨cs,h⟩:=c.kp j g t e;rw[Loc.Wc];split
  ·rename_i l;subst l;rw[m] at h;injection h with h
   obtain⟨cs',u⟩:=b g t cs h;exact⟨cs',by rw[u]⟩
  ·exact⟨cs,h⟩
theorem jU {L':Loc}{k:Nat}(d:∀g t cs,L.get k≠some (.box g t cs)) (n:∀j,j≠k->∀o,L.get j=some o->∃o',L'.get j=some o'/\Own.like o o') {F':aA}(f:F.le F') (c:C) (v:Value) (r:c.leaf=true)
  (h:Rel F L c v):Rel F' L' (fS k c) v:=by
 cases c<;>simp only[C.leaf,W9] at r<;>simp only[fS]
 case rw j =>
  cases q:Nat.beq j k with
  | true=>simp only[Rel]
  | false=>exact bq f (fun p e=>by
    rcases e with⟨off,e⟩ | e | e | ⟨_,_,_,e⟩ | ⟨_,_,e⟩
    ·cases e
    ·injection e with e;subst e;exact n j (eV q)
    ·cases e
    ·cases e
    ·cases e) rfl h
 case own j off =>
  refine bq f (fun p e=>?_) rfl h;rcases e with⟨off,e⟩ | e | e | ⟨_,_,_,e⟩ | ⟨_,_,e⟩
  ·injection e with e e2
   subst e;simp only[Rel] at h;obtain⟨g,t,cs,l,_⟩:=h;exact n j (by rintro rfl;exact d _ _ _ l)
  ·cases e
  ·cases e
  ·cases e
  ·cases e
 case ifo m ti j off =>
  refine bq f (fun p e=>?_) rfl h;rcases e with⟨off,e⟩ | e | e | ⟨_,_,_,e⟩ | ⟨_,_,e⟩
  ·cases e
  ·cases e
  ·cases e
  ·injection e with _ _ e
   subst e;simp only[Rel] at h;obtain⟨g,t,cs,l,_⟩:=h;exact n j (by rintro rfl;exact d _ _ _ l)
  ·cases e
 case elr j a b =>
  cases q:Nat.beq j k with
  | true=>simp only[Rel]
  | false=>exact bq f (fun p e=>by
    rcases e with⟨off,e⟩ | e | e | ⟨_,_,_,e⟩ | ⟨_,_,e⟩<;>first | cases e;done | skip
    injection e with e;subst e;exact n j (eV q)) rfl h
 case mpr j =>
  refine bq f (fun p e=>?_) rfl h;rcases e with⟨off,e⟩ | e | e | ⟨_,_,_,e⟩ | ⟨_,_,e⟩
  ·cases e
  ·cases e
  ·injection e with e
   subst e;simp only[Rel] at h;obtain⟨g,cs,l,_⟩:=h;exact n j (by rintro rfl;exact d _ _ _ l)
  ·cases e
  ·cases e
 case slo j a =>
  refine qo f ?_ h;simp only[Rel] at h;obtain⟨g,t,cs,s,l,_⟩:=h;exact n j (by rintro rfl;exact d _ _ _ l)
 case slp=>simp only[Rel]
 all_goals
  exact bq f (fun p e=>by rcases e with⟨off,e⟩ | e | e | ⟨_,_,_,e⟩ | ⟨_,_,e⟩<;>cases e) rfl h
theorem oh {L':Loc}{k:Nat}(d:∀g t cs,L.get k≠some (.box g t cs)) (p:∀j,j≠k->∀o,L.get j=some o->∃o',L'.get j=some o'/\Own.like o o') {F':aA}(n:F.le F') (c:C) (sv:SV) (s:c.leaf=true)
  (h:aN F L c sv):aN F' L' (fS k c) sv:=by
 cases c<;>simp only[C.leaf,W9] at s<;>simp only[fS]
 case rw j =>
  cases r:Nat.beq j k with
  | true=>trivial
  | false=>exact cK n (fun q e=>by
    rcases e with⟨off,e⟩ | ⟨off,e⟩ | e | ⟨a,b,e⟩ | e | ⟨_,_,_,e⟩<;>first | cases e;done | skip
    injection e with e;subst e;exact p j (eV r)) rfl h
 case elr j a b =>
  cases r:Nat.beq j k with
  | true=>trivial
  | false=>exact cK n (fun q e=>by
    rcases e with⟨off,e⟩ | ⟨off,e⟩ | e | ⟨a,b,e⟩ | e | ⟨_,_,_,e⟩<;>first | cases e;done | skip
    injection e with e;subst e;exact p j (eV r)) rfl h
 case own j off =>
  refine cK n (fun q e=>?_) rfl h;obtain⟨_,g,t,cs,l⟩:=h;rcases e with⟨off,e⟩ | ⟨off,e⟩ | e | ⟨a,b,e⟩ | e | ⟨_,_,_,e⟩<;>first | cases e;done | skip
  injection e with e
  subst e;exact p j (by rintro rfl;exact d _ _ _ l)
 case ifo m ti j off =>
  refine cK n (fun q e=>?_) rfl h;obtain⟨v,_,f⟩:=h;simp only[Rel] at f;obtain⟨g,t,cs,l,_⟩:=f;rcases e with⟨off,e⟩ | ⟨off,e⟩ | e | ⟨a,b,e⟩ | e | ⟨_,_,_,e⟩<;>first | cases e;done | skip
  injection e with _ _ e
  subst e;exact p j (by rintro rfl;exact d _ _ _ l)
 case ownv j off =>
  refine cK n (fun q e=>?_) rfl h;obtain⟨v,_,f⟩:=h;simp only[Rel] at f;obtain⟨g,t,cs,l,_⟩:=f;rcases e with⟨off,e⟩ | ⟨off,e⟩ | e | ⟨a,b,e⟩ | e | ⟨_,_,_,e⟩<;>first | cases e;done | skip
  injection e with e
  subst e;exact p j (by rintro rfl;exact d _ _ _ l)
 case mpr j =>
  refine cK n (fun q e=>?_) rfl h;obtain⟨v,_,f⟩:=h;simp only[Rel] at f;obtain⟨g,cs,l,_⟩:=f;rcases e with⟨off,e⟩ | ⟨off,e⟩ | e | ⟨a,b,e⟩ | e | ⟨_,_,_,e⟩<;>first | cases e;done | skip
  injection e with e
  subst e;exact p j (by rintro rfl;exact d _ _ _ l)
 case slo j a =>
  refine rZ n ?_ h;obtain⟨v,_,f⟩:=h;simp only[Rel] at f;obtain⟨g,t,cs,u,l,_⟩:=f;exact p j (by rintro rfl;exact d _ _ _ l)
 case slp=>trivial
 all_goals
  exact cK n (fun q e=>by rcases e with⟨off,e⟩ | ⟨off,e⟩ | e | ⟨a,b,e⟩ | e | ⟨_,_,_,e⟩<;>cases e) rfl h
theorem cN.WA {L':Loc}{k:Nat}(a:∀g t cs,L.get k≠some (.box g t cs)) (d:∀j,j≠k->∀o,L.get j=some o->∃o',L'.get j=some o'/\Own.like o o') {F':aA}(b:F.le F'):∀{o:TO}{p:Own},cN F L o p->cN F' L' (o.Wh (C.kill k)) p
 | .box t cs,.box g f vs,r=>⟨r.1,r.2.map fun c _ v h=>Rel.mp (jU a d b) 3 h⟩
 | .row t sz els,.row v f m n xs,r=>⟨r.1,r.2.1,r.2.2.1,r.2.2.2.1,r.2.2.2.2.mono b⟩
 | .box _ _,.row ..,r=>r.elim
 | .row ..,.box ..,r=>r.elim
 | .map _,.row ..,r=>r.elim
 | .map es,.box g f vs,r=>⟨r.1,r.2.mono b⟩
 | .win ..,.row ..,r=>r.elim
 | .win ..,.box ..,⟨l,v1,s,v3,e,u,w,q⟩=>⟨l,v1,s,v3,e,u.mono b,w.map fun c _ v h=>Rel.mp (jU a d b) 3 h,q.mono b⟩
theorem TS.WA (b:TS G F L ρ M τ) {k:Nat}{o':Own}(a:∀g t cs,L.get k≠some (.box g t cs)) {to:TO}(l:cN F (L.set k o') to o') :
  TS G F (L.set k o') ρ ((M.Wh (C.kill k)).set k to) (fun j=>(τ j).kill k):=by
 have c:∀j,j≠k->∀o,L.get j=some o->∃p,(L.set k o').get j=some p/\Own.like o p:=fun j n o e=>⟨o,by rw[Loc.Wc,vv n];exact e,Own.Wj o⟩;refine⟨fun j=>?_,fun j=>aN.mp (jU a c (aA.le_refl F)) (oh a c (aA.le_refl F)) 3 (b.env j),fun j g t e=>?_,b.glob⟩
 ·rw[TL.Wc,Loc.Wc,pQ];split
  ·exact l
  ·rcases dR (b.tl j) with⟨f,d⟩ | ⟨p,q,f,d,m⟩
   ·rw[f,d];trivial
   ·rw[f,d];exact m.WA a c (aA.le_refl F)
 ·obtain⟨cs,h⟩:=b.kp j g t e;exact⟨cs,by rw[Loc.Wc,vv (by rintro rfl;exact a _ _ _ h)];exact h⟩
theorem ig {a:Option Addr}{sz b:Nat}{els:List (List C)}(h:fE F a b 0 els) (hs:∀es∈els,es.length=sz):∃xs,xs.length=els.length*sz/\(bN F a 0 xs\/(els.length=0/\xs=[]))/\aL F sz els xs:=by
 cases k:els with
 | nil=>exact⟨[],by simp,.inr ⟨rfl,rfl⟩,by simp only[aL]⟩
 | cons u f =>
  rw[k] at h hs;have h0:=lV.1 h 0 u (by simp);obtain⟨aw,k1,⟨d,m,t,fr,ea,hb,p,_⟩,_,k4⟩:=h0;have r:b=sz:=by rw[<-k1,k4.len,hs u (by simp)]
  subst r;subst ea;have key:∀(l:List (List C)) (i:Nat),fE F (some d) b i l->∃xs,aL F b l xs/\∀(j:Nat) v,xs[j]?=some v->m[d.off+i*b+j]?=some v/\nR fr (d.off+i*b+j):=by
   intro l
   induction l with
   | nil=>intro i _;exact⟨[],by simp only[aL],by simp⟩
   | cons es l ih =>
    intro i x;simp only[fE] at x;obtain⟨⟨vs,w,⟨am,y,t',ao,s,c,z,hv⟩,q3,q4⟩,q5⟩:=x;injection s with s
    subst s;rw[hb] at c;injection c with c
    injection c with r1 r2 r3
    subst r1 r3;obtain⟨xs,n,q⟩:=ih (i+1) q5;refine⟨vs++xs,by simp only[aL];exact⟨vs,xs,rfl,w,q3,q4,n⟩,fun j v e=>?_⟩
    by_cases o:j<vs.length
    ·rw[W8 o] at e;exact hv j v e
    ·rw[Xe (by omega)] at e;have:=q _ _ e;rw[show d.off+i*b+j=d.off+(i+1)*b+(j-vs.length) by rw[w,Nat.add_mul];omega];exact this
  obtain⟨xs,n,q⟩:=key (u::f) 0 h;exact⟨xs,gS n,.inl ⟨d,m,t,fr,rfl,hb,p,fun j v e=>by have:=q j v e;simpa using this⟩,n⟩
theorem aL.ones {sz:Nat}:∀{l:List (List C)}{xs:List Value},aL F sz l xs->∀u∈xs,u.oneCell'=true
 | [],xs,h=>by simp only[aL] at h;subst h;simp
 | es::l,xs,h=>by
  simp only[aL] at h;obtain⟨vs,b,rfl,f,c,d,e⟩:=h;intro u a;rcases WW.1 a with a | a
  ·exact fw d c u a
  ·exact aL.ones e u a
theorem lm (bs:List UInt8):aL F 1 (af bs) (bs.map fun b=>Value.int .u8 b.toNat):=by
 induction bs with
 | nil=>simp only[af,XV,aL]
 | cons b bs a =>
  simp only[af,W6,aL];refine⟨[.int .u8 b.toNat],_,rfl,rfl,rfl,?_,a⟩;simp only[aB,Rel];refine⟨_,_,rfl,⟨rfl,?_⟩,rfl⟩;have:=b.toNat_lt;simp[Lit.wf,IntKind.min,IntKind.max,IntKind.bits,IntKind.signed];omega
theorem Cy {g:Nat}{bs:List UInt8}(h:bN F (some ⟨g,0,none⟩) 0 (bs.map fun b=>Value.int .u8 b.toNat)):fE F (some ⟨g,0,none⟩) 1 0 (af bs):=(lm bs).frz h
theorem aL.set {sz:Nat}:∀{l:List (List C)}{xs:List Value},aL F sz l xs->∀{j:Nat}{es ds:List C}{us:List Value}{off:Nat},l[j]?=some es->off+us.length<=sz->aB F [] ds us->dm ds=true ->
  aL F sz (l.set j (eH es off ds)) (aM xs (j*sz+off) us)
 | [],xs,h,j,es,ds,us,off,e,_,_,_=>by simp at e
 | x::l,xs,h,j,es,ds,us,off,e,p,k,d=>by
  simp only[aL] at h;obtain⟨vs,f,rfl,n,b,o,m⟩:=h;cases j with
  | zero =>
   simp only[Xc,x5] at e;subst e;simp only[List.set_cons_zero,aL];refine⟨aM vs off us,f,?_,?_,?_,fF o k,m⟩
   ·simp only[aM,Nat.zero_mul,Nat.zero_add];rw[List.take_append_of_le_length (by omega),List.drop_append_of_le_length (by omega)];simp
   ·simp only[aM,W4,Xk,XM];omega
   ·rw[ia] at b d ⊢;intro c a;simp only[eH,WW] at a;rcases a with(a | a) | a
    ·exact b c (List.mem_of_mem_take a)
    ·exact d c a
    ·exact b c (List.mem_of_mem_drop a)
  | succ j =>
   simp only[List.set_cons_succ,aL];have q:=aL.set m (j:=j) (by simpa using e) p k d;refine⟨vs,_,?_,n,b,o,q⟩;simp only[aM];rw[show(j+1)*sz+off=vs.length+(j*sz+off) by rw[n,Nat.add_mul];omega];rw[List.take_length_add_append,show vs.length+(j*sz+off)+us.length=vs.length+(j*sz+off+us.length) by omega,List.drop_length_add_append];simp[W7]
end
section
variable {P:Program}{G:Nat->Option (Nat×TypeId)}{F:aA}{L:Loc}{ρ:Env}{M:TL}{τ:aT}
def Both (G:Nat->Option (Nat×TypeId)) (K:TK):cE:=fun F L ρ=>∃M τ,TS G F L ρ M τ/\K M τ
theorem mN {k:Nat}{a:Option Addr}{c n:Nat}{t sz:Nat}{xs:List Value}(h:L.get k=some (.row (.slice a n c) t sz n xs)):aN F L (.rw k) (.v (.slice a n c)) :=
 ⟨_,rfl,by simp only[Rel];exact⟨a,c,t,sz,n,xs,rfl,h⟩⟩
theorem MT {g:Nat}{F':aA}{t:TypeId}{cs:List C}{vs:List Value}(a:F' g=some (.cells vs.toArray t (0,0))) (b:dm cs=true) (c:aB F' [] cs vs):aN F' L (.pt cs 0) (.v (.pointer (some ⟨g,0,none⟩))) :=
 ⟨g,0,0,vs,.inl ⟨rfl,rfl⟩,⟨0,_,t,(0,0),a,rfl,fun i v hi=>⟨by simpa using hi,rL _⟩⟩,b,c⟩
theorem iT (b:∀j,aN F L (τ j) (ρ j)) {sz:Nat}:∀{xs:List X},pI τ sz xs=true->eU L ρ sz xs=true/\aL F sz (s6 τ xs) (cellsOf L ρ xs)/\(s6 τ xs).length=xs.length
 | [],_=>⟨rfl,by simp only[s6,cellsOf,aL],rfl⟩
 | x::xs,h=>by
  simp only[pI] at h;split at h
  case h_2=>cases h
  rename_i d f e k;obtain⟨n,l,m⟩:=iT b h;have c:=dH b d;have a:(aG (val L ρ x)).length=sz:=by rw[c.len];exact br f
  refine⟨by simp only[eU,cQ a];exact n,?_,by simp only[s6,Xh,m]⟩;simp only[s6,cellsOf,aL];exact⟨_,_,rfl,a,mh e,jm (dU k c),l⟩
theorem zK {t:Nat}(h:Io t=true):t<1048576/\t≠0:=by
 unfold Io at h;split at h
 ·cases h
 ·rename_i a;have:=Xd h;exact⟨by omega,fun e=>by subst e;simp at a⟩
theorem Du {t:TypeId}{x:X}{k:Nat}{K:TK}(f:TS G F L ρ M τ) (m:M.get k=none) (n:(bV τ x).okc=true) (d:t<1048576/\t≠0) (h:K (M.set k (.box t (bS (bV τ x)))) (bw (some k) (.own k 0) τ)) (g:Nat) :
  Both G K F (L.set k (.box g t (aG (val L ρ x)))) (put (some k) (.own k 0) ρ):=by
 have b:=bT f.tl m;have a:Ext L (L.set k (.box g t (aG (val L ρ x)))):=by
  intro j p e;refine⟨p,?_,Own.Wj p⟩;rw[Loc.Wc,vv (by rintro rfl;rw[b] at e;cases e)];exact e
 have l:=f.new (aA.le_refl F) b (o:=.box g t (aG (val L ρ x))) (to:=.box t (bS (bV τ x))) ⟨⟨d.1,.inl rfl,d.2⟩,(dH f.env n).ext (aA.le_refl F) a⟩;exact⟨_,_,l.put (c:=.own k 0) (sv:=.own k 0) ⟨rfl,g,t,_,by rw[Loc.Wc,j3 rfl]⟩ (some k),h⟩
theorem yF {t:TypeId}{zs:List Value}{k:Nat}{K:TK}(d:TS G F L ρ M τ) (f:M.get k=none) (a:t<1048576/\t≠0) (h:K (M.set k (.box t (zs.map qI))) (bw (some k) (.own k 0) τ)) (g:Nat) :
  Both G K F (L.set k (.box g t zs)) (put (some k) (.own k 0) ρ):=by
 have b:=bT d.tl f;have e:=d.new (aA.le_refl F) b (o:=.box g t zs) (to:=.box t (zs.map qI)) ⟨⟨a.1,.inl rfl,a.2⟩,kF zs⟩;exact⟨_,_,e.put (c:=.own k 0) (sv:=.own k 0) ⟨rfl,g,t,_,by rw[Loc.Wc,j3 rfl]⟩ (some k),h⟩
theorem Dv {e n sz:Nat}{xs:List X}{d:Option Nat}{K:TK}(b:TS G F L ρ M τ) (l:pI τ sz xs=true) (f:xs.length=n) (p:n<=maxLen) (h:K M (bw d (.slx (s6 τ xs)) τ)) {g:Nat}{F':aA}(a:F.le F')
  (k:F' g=some (.cells (cellsOf L ρ xs).toArray e (0,0))):Both G K F' L (put d (.v (.slice (some ⟨g,0,none⟩) n n)) ρ):=by
 obtain⟨q,m,j⟩:=iT b.env l;have o:bN F' (some ⟨g,0,none⟩) 0 (cellsOf L ρ xs):=⟨_,_,_,_,rfl,k,rfl,fun i v hi=>⟨by simpa using hi,rL _⟩⟩;refine⟨_,_,(b.mono a).put (c:=.slx (s6 τ xs)) ⟨_,rfl,?_⟩ d,h⟩;simp only[Rel];exact⟨⟨g,0,none⟩,by rw[j,f],by omega,sz,(m.mono a).frz o⟩
theorem vX (f:∀j,aN F L (τ j) (ρ j)) {k g:Nat}{t:TypeId}{cs:List Value}(d:L.get k=some (.box g t cs)):∀{xs:List X}{a:List Nat},uc k τ xs=some a ->
  eU L ρ 1 xs=true/\cellsOf L ρ xs=a.map (fun o=>.pointer (some ⟨g,o,none⟩))/\a.length=xs.length
 | [],a,h=>by
  simp only[uc,x5] at h;subst h;exact⟨rfl,rfl,rfl⟩
 | x::xs,a,h=>by
  simp only[uc] at h;split at h
  case h_2=>cases h
  rename_i j off l p u;split at h
  case h_2=>cases h
  rename_i s;obtain rfl:=xo s;injection h with h
  subst h;obtain⟨r,q,n⟩:=vX f d u;have c:=sj f x;rw[p] at c;simp only[Rel] at c;obtain⟨w,v,cs',b,m⟩:=c;rw[d] at b;injection b with b
  injection b with q1 q2 q3
  subst q1;have e:aG (val L ρ x)=[.pointer (some ⟨g,off,none⟩)]:=by rw[m];rfl
  exact⟨by simp only[eU,e,eT];exact r,by simp only[cellsOf,e,q];rfl,by simp[n]⟩
theorem Dw {e n k:Nat}{a:List Nat}{xs:List X}{d:Option Nat}{K:TK}(q:TS G F L ρ M τ) (f:uc k τ xs=some a) (p:xs≠[]) (r:xs.length=n) (hm:n<=maxLen) (h:K M (bw d (.slo k a) τ)) :
  eU L ρ 1 xs=true/\∀{g:Nat}{F':aA},F.le F'->F' g=some (.cells (cellsOf L ρ xs).toArray e (0,0))->Both G K F' L (put d (.v (.slice (some ⟨g,0,none⟩) n n)) ρ):=by
 obtain⟨x,b,rfl⟩:∃x b,xs=x::b:=by
  cases xs with
  | nil=>exact vz rfl p
  | cons x b=>exact⟨x,b,rfl⟩
 have m:∃g t cs,L.get k=some (.box g t cs):=by
  have f:=f;simp only[uc] at f;split at f
  case h_2=>cases f
  rename_i j off l z hl;split at f
  case h_2=>cases f
  rename_i hj;obtain rfl:=xo hj;have o:=sj q.env x;rw[z] at o;simp only[Rel] at o;obtain⟨g',t',cs',e1,e2⟩:=o;exact⟨g',t',cs',e1⟩
 obtain⟨gb,t,cs,m⟩:=m;obtain⟨k1,k2,s⟩:=vX q.env m f;refine⟨k1,fun{g F'} w y=>?_⟩;have u:bN F' (some ⟨g,0,none⟩) 0 (cellsOf L ρ (x::b)):=⟨_,_,_,_,rfl,y,rfl,fun i v hi=>⟨by simpa using hi,rL _⟩⟩;refine⟨_,_,(q.mono w).put (c:=.slo k a) ⟨_,rfl,?_⟩ d,h⟩;simp only[Rel];exact⟨gb,t,cs,⟨g,0,none⟩,m,by rw[s,r],by rw[s,r];exact hm,by rw[k2] at u;exact u⟩
theorem Jy {e n sz:Nat}{xs:List X}{k:Nat}{K:TK}(b:TS G F L ρ M τ) (l:pI τ sz xs=true) (j:xs.length=n) (f:n<=maxLen) (m:M.get k=none) (h:K (M.set k (.row e sz (s6 τ xs))) (bw (some k) (.rw k) τ)) (g:Nat) :
  Both G K F (L.set k (.row (.slice (some ⟨g,0,none⟩) n n) e sz n (cellsOf L ρ xs))) (put (some k) (.v (.slice (some ⟨g,0,none⟩) n n)) ρ):=by
 obtain⟨r,p,q⟩:=iT b.env l;have a:=bT b.tl m;have d:=b.new (aA.le_refl F) a (o:=.row (.slice (some ⟨g,0,none⟩) n n) e sz n (cellsOf L ρ xs)) (to:=.row e sz (s6 τ xs)) ⟨rfl,rfl,by rw[q,j],⟨f,_,_,rfl,fun e=>(by cases e)⟩,p⟩;exact⟨_,_,d.put (c:=.rw k) (mN (by rw[Loc.Wc,j3 rfl])) (some k),h⟩
theorem mo {e sz:Nat}{k:Nat}{els news:List (List C)}{d:Option Nat}{K:TK}(q:TS G F L ρ M τ) {s:Value}{xs ys:List Value}(l:L.get k=some (.row s e sz els.length xs)) (m:aL F sz els xs) (f:aL F sz news ys)
  (p:els.length+news.length<=maxLen) (h:K ((M.Wh (C.kill k)).set k (.row e sz (els++news))) (bw d (.rw k) fun j=>(τ j).kill k)) {v:Value}(n:∃a c,v=.slice a (els.length+news.length) c/\(a=none->els.length+news.length=0)) :
  Both G K F (L.set k (.row v e sz (els.length+news.length) (xs++ys))) (put d (.v v) ρ):=by
 obtain⟨a,c,rfl,b⟩:=n;have o:=q.WA (k:=k) (o':=.row (.slice a (els.length+news.length) c) e sz (els.length+news.length) (xs++ys)) (to:=.row e sz (els++news)) (fun g t cs e=>by rw[l] at e;injection e with e;cases e)
  ⟨rfl,rfl,by simp,⟨p,a,c,rfl,b⟩,m.append f⟩
 exact⟨_,_,o.put (c:=.rw k) (mN (by rw[Loc.Wc,j3 rfl])) d,h⟩
theorem kH {e sz:Nat}{k:Nat}{news:List (List C)}{d:Option Nat}{K:TK}(b:TS G F L ρ M τ) {ys:List Value}(l:M.get k=none) (j:aL F sz news ys)
  (p:news.length<=maxLen) (h:K (M.set k (.row e sz news)) (bw d (.rw k) τ)) {v:Value}(m:∃a c,v=.slice a (0+news.length) c/\(a=none->0+news.length=0)) :
  Both G K F (L.set k (.row v e sz (0+news.length) ([]++ys))) (put d (.v v) ρ):=by
 obtain⟨a,c,rfl,f⟩:=m;have n:=b.new (aA.le_refl F) (bT b.tl l) (o:=.row (.slice a (0+news.length) c) e sz (0+news.length) ([]++ys)) (to:=.row e sz news) ⟨rfl,rfl,by simp,⟨by omega,a,c,rfl,f⟩,j⟩;exact⟨_,_,n.put (c:=.rw k) (mN (by rw[Loc.Wc,j3 rfl])) d,h⟩
theorem ol {x:X}{k e sz:Nat}{els:List (List C)}(f:TS G F L ρ M τ) (m:bV τ x=.rw k) (h:M.get k=some (.row e sz els)) :
  ∃a c xs,ev ρ x=.v (.slice a els.length c)/\L.get k=some (.row (.slice a els.length c) e sz els.length xs)/\aL F sz els xs/\els.length<=maxLen:=by
 obtain⟨a,c,r,l,n,q,o,d⟩:=rq f.env m;obtain⟨v,xs,b,⟨p,_⟩,j⟩:=jT f.tl h;rw[d] at b;injection b with b
 injection b with q1 q2 q3 q4 q5
 subst q2 q3 q4 q5;exact⟨a,c,_,o,d,j,p⟩
set_option maxHeartbeats 1000000 in
theorem Bf {e sz b:Nat}{s x:X}{d:Option Nat}{K:TK}(j:TS G F L ρ M τ) (h:Jl e sz b (bV τ s) (bV τ x) d M τ K):∃sv xv,ev ρ s=.v sv/\ev ρ x=.v xv/\C9 F L e sz b sv xv fun L1 v=>Both G K F L1 (Fr.put d (.v v) ρ):=by
 have he:=j.env;simp only[Jl,eB] at h;split at h
 ·rename_i k news hs m;split at h
  case h_2=>exact h.elim
  rename_i e' be els n;split at h
  case h_2=>exact h.elim
  rename_i h1 h2;obtain rfl:=xo h1;obtain rfl:=xo h2;obtain⟨g1,l,t,g4⟩:=h;obtain⟨a,c,xs,e1,e2,hr,hm⟩:=ol j hs n;obtain⟨q,p,az,y,e4,e5,e6,e7⟩:=jn he m;obtain⟨ys,y1,y2,y3⟩:=ig e7 g1;exact⟨_,_,e1,y,k,els.length,xs,news.length,ys,.inl e2,⟨q,p,rfl,y1,y2.imp id .inl⟩,y3.ones,l,t,fun v hv=>mo j e2 hr y3 l g4 hv⟩
 ·rename_i news k hs m;split at h
  case h_2=>exact h.elim
  rename_i n;obtain⟨g1,l,t,g4⟩:=h;obtain⟨q,p,az,y,e4,e5,e6,e7⟩:=jn he m;obtain⟨ys,y1,y2,y3⟩:=ig e7 g1;simp only[XA] at l t;exact⟨_,_,nI he hs,y,k,0,[],news.length,ys,.inr (.inl ⟨bT j.tl n,rfl,rfl,rfl⟩),⟨q,p,rfl,y1,y2.imp id .inl⟩,y3.ones,l,t,fun v hv=>kH j n y3 (by omega) g4 hv⟩
 ·rename_i els news k hs m;split at h
  case h_2=>exact h.elim
  rename_i n;obtain⟨g0,bj,g1,l,t,g4⟩:=h;obtain⟨a,ca,e1,hm,e2⟩:=zH he hs;obtain⟨q,p,az,y,e4,e5,e6,e7⟩:=jn he m;obtain⟨ys,y1,y2,y3⟩:=ig e7 g1;obtain⟨xs,x1,x2,x3⟩:=ig e2 bj;refine⟨_,_,e1,y,k,els.length,xs,news.length,ys,.inr (.inr ⟨bT j.tl n,a,rfl,g0,x1,x2⟩),⟨q,p,rfl,y1,y2.imp id .inl⟩,y3.ones,l,t,fun v hv=>?_⟩;obtain⟨av,cv,rfl,hn⟩:=hv;have h1:=j.new (aA.le_refl F) (bT j.tl n) (o:=.row (.slice av (els.length+news.length) cv) e sz (els.length+news.length) (xs++ys)) (to:=.row e sz (els++news)) ⟨rfl,rfl,by simp,⟨l,av,cv,rfl,hn⟩,x3.append y3⟩;exact⟨_,_,h1.put (c:=.rw k) (mN (by rw[Loc.Wc,j3 rfl])) _,g4⟩
 ·rename_i k k' hs m;have m:=zG m;split at h
  case h_2=>exact h.elim
  rename_i e' be els bb ay news n r;split at h
  case h_2=>exact h.elim
  rename_i h1 h2 h3;obtain rfl:=xo h1;obtain rfl:=xo h2;obtain rfl:=xo h3;obtain⟨g1,l,t,g4⟩:=h;obtain⟨a,c,xs,e1,e2,hr,hm⟩:=ol j hs n;obtain⟨q,p,ys,y,e4,f,bs⟩:=ol j m r;refine⟨_,_,e1,y,k,els.length,xs,news.length,ys,.inl e2,⟨q,p,rfl,gS f,?_⟩,f.ones,l,t,fun v hv=>mo j e2 hr f l g4 hv⟩;cases q with
  | some ad=>exact .inr (.inr ⟨k',_,_,_,_,_,ad,p,e4,rfl,rfl,fun i u hu=>hu⟩)
  | none =>
   obtain⟨v,ba,w,⟨_,a2,c2,z,q3⟩,q4⟩:=jT j.tl r;rw[e4] at w;injection w with w
   injection w with r1 r2 r3 r4 r5
   rw[<-r1] at z;injection z with z
   have hz:=q3 z.symm;have hl:=gS f;refine .inr (.inl ⟨hz,List.length_eq_zero_iff.1 (by rw[hl,hz];simp)⟩)
 ·rename_i k' k hs m;have m:=zG m;split at h
  case h_2=>exact h.elim
  rename_i bb ay news n r;split at h
  case h_2=>exact h.elim
  rename_i h3;obtain rfl:=xo h3;obtain⟨g1,l,t,g4⟩:=h;obtain⟨q,p,ys,y,e4,f,bs⟩:=ol j m r;simp only[XA] at l t;refine⟨_,_,nI he hs,y,k,0,[],news.length,ys,.inr (.inl ⟨bT j.tl n,rfl,rfl,rfl⟩),⟨q,p,rfl,gS f,?_⟩,f.ones,l,t,fun v hv=>kH j n f (by omega) g4 hv⟩;cases q with
  | some ad=>exact .inr (.inr ⟨k',_,_,_,_,_,ad,p,e4,rfl,rfl,fun i u hu=>hu⟩)
  | none =>
   obtain⟨v,ba,w,⟨_,a2,c2,z,q3⟩,q4⟩:=jT j.tl r;rw[e4] at w;injection w with w
   injection w with r1 r2 r3 r4 r5
   rw[<-r1] at z;injection z with z
   have hz:=q3 z.symm;have hl:=gS f;refine .inr (.inl ⟨hz,List.length_eq_zero_iff.1 (by rw[hl,hz];simp)⟩)
 ·exact h.elim
theorem Jz {e sz b:Nat}{zs:List Value}{s x:X}{d:Option Nat}{K:TK}(j:TS G F L ρ M τ) (h:bH P (.app e sz b zs s x) d M τ K):evalOp P (.app e sz b zs s x) d F L ρ (Both G K):=by
 obtain⟨sv,k,f,c,a⟩:=Bf j h;simp only[evalOp,f,c];exact a
theorem GV {e sz b:Nat}{zs:List Value}{s x:X}{d:Option Nat}{K:TK}(t:TS G F L ρ M τ) (h:bH P (.appX e sz b zs s x) d M τ K):evalOp P (.appX e sz b zs s x) d F L ρ (Both G K):=by
 obtain⟨sv,u,k,a,⟨o,n,xs,m,news,l,q,f,r,p,c⟩⟩:=Bf t h;simp only[evalOp,k,a];exact⟨o,n,xs,m,news,l,q,f,r,p,fun v j _=>c v j⟩
set_option maxHeartbeats 1000000 in
theorem GW {e sz b:Nat}{zs:List Value}{s x:X}{d:Option Nat}{K:TK}(l:TS G F L ρ M τ) (h:bH P (.appD e sz b zs s x) d M τ K):evalOp P (.appD e sz b zs s x) d F L ρ (Both G K):=by
 have he:=l.env;simp only[bH,eB,dV,dG] at h;simp only[evalOp];split at h
 ·rename_i k news hs y;split at h
  case h_2=>exact h.elim
  rename_i e' ba els m;split at h
  case h_2=>exact h.elim
  rename_i h1 h2;obtain rfl:=xo h1;obtain rfl:=xo h2;obtain⟨g1,f,n,g4⟩:=h;obtain⟨a,c,xs,e1,e2,hr,hm⟩:=ol l hs m;obtain⟨u,q,r,w,e4,e5,e6,t⟩:=jn he y;obtain⟨ys,y1,p,j⟩:=ig t g1;rw[e1,w];exact⟨k,els.length,xs,news.length,ys,.inl e2,⟨u,q,rfl,y1,p⟩,j.ones,f,n,fun v z _=>mo l e2 hr j f g4 z⟩
 ·rename_i news k hs y;split at h
  case h_2=>exact h.elim
  rename_i m;obtain⟨g1,f,n,g4⟩:=h;obtain⟨u,q,r,w,e4,e5,e6,t⟩:=jn he y;obtain⟨ys,y1,p,j⟩:=ig t g1;simp only[XA] at f n;rw[nI he hs,w];exact⟨k,0,[],news.length,ys,.inr (.inl ⟨rfl,bT l.tl m,rfl,rfl,rfl⟩),⟨u,q,rfl,y1,p⟩,j.ones,f,n,fun v z _=>kH l m j (by omega) g4 z⟩
 ·rename_i els news k hs y;split at h
  case h_2=>exact h.elim
  rename_i m;obtain⟨g0,an,g1,f,n,g4⟩:=h;obtain⟨a,ay,e1,hm,e2⟩:=zH he hs;obtain⟨u,q,r,w,e4,e5,e6,t⟩:=jn he y;obtain⟨ys,y1,p,j⟩:=ig t g1;obtain⟨xs,x1,x2,x3⟩:=ig e2 an;rw[e1,w];refine⟨k,els.length,xs,news.length,ys,.inr (.inr ⟨rfl,bT l.tl m,a,rfl,g0,x1,x2⟩),⟨u,q,rfl,y1,p⟩,j.ones,f,n,fun v z _=>?_⟩;obtain⟨av,cv,rfl,hn⟩:=z;have h1:=l.new (aA.le_refl F) (bT l.tl m) (o:=.row (.slice av (els.length+news.length) cv) e sz (els.length+news.length) (xs++ys)) (to:=.row e sz (els++news)) ⟨rfl,rfl,by simp,⟨f,av,cv,rfl,hn⟩,x3.append j⟩;exact⟨_,_,h1.put (c:=.rw k) (mN (by rw[Loc.Wc,j3 rfl])) _,g4⟩
 ·exact h.elim
theorem GX {e:Nat}{s x:X}{d:Option Nat}{K:TK}(l:TS G F L ρ M τ) (h:bH P (.appS e s x) d M τ K):evalOp P (.appS e s x) d F L ρ (Both G K):=by
 have p:=l.env;simp only[bH,eB,dV,dG] at h;simp only[evalOp];split at h
 ·rename_i k t r n;split at h
  case h_2=>exact h.elim
  rename_i e' w els m;split at h
  case h_2=>exact h.elim
  rename_i h1 h2;obtain rfl:=xo h1;obtain rfl:=xo h2;obtain⟨g1,f,j,q⟩:=h;obtain⟨a,c,xs,z,u,y,hm⟩:=ol l r m;have b:(af t.data.toList).length=t.size:=by simp[af]
  rw[z,(jh p n).1];rw[b] at f j;refine⟨k,els.length,xs,.inl u,f,by simpa using j,fun v o=>?_⟩;have:=mo (news:=af t.data.toList) (v:=v) l u y (lm t.data.toList) (by rw[b];exact f) q (by rw[b];exact o);rw[b] at this;exact this
 ·rename_i t k r n;split at h
  case h_2=>exact h.elim
  rename_i m;obtain⟨g1,f,j,q⟩:=h;have b:(af t.data.toList).length=t.size:=by simp[af]
  rw[nI p r,(jh p n).1];rw[b] at f j;simp only[XA] at f j;refine⟨k,0,[],.inr ⟨bT l.tl m,rfl,rfl,rfl⟩,f,by simpa using j,fun v o=>?_⟩;have:=kH (news:=af t.data.toList) (v:=v) l m (lm t.data.toList) (by rw[b];omega) q (by rw[b];exact o);rw[b] at this;exact this
 ·exact h.elim
theorem om {F:aA}(a:IntKind):∀m:Nat,aL F 1 (List.replicate m [C.int a 0]) (List.replicate m (Value.int a 0))
 | 0=>by simp only[List.replicate_zero,aL]
 | m+1=>by
  simp only[XO,aL];refine⟨[.int a 0],_,rfl,rfl,rfl,?_,om a m⟩;simp only[aB,Rel];exact⟨_,_,rfl,⟨rfl,by cases a<;>rfl⟩,rfl⟩
theorem GY {e b:Nat}{j:IntKind}{s x:X}{d:Option Nat}{K:TK}(n:TS G F L ρ M τ) (h:bH P (.appZ e b j s x) d M τ K):evalOp P (.appZ e b j s x) d F L ρ (Both G K):=by
 have r:=n.env;simp only[bH,eB,dV,dG] at h;simp only[evalOp];split at h
 ·rename_i k kx i u p;split at h
  case h_2=>exact h.elim
  rename_i e' y els o;split at h
  case h_2=>exact h.elim
  rename_i h1 h2;obtain rfl:=xo h1;obtain rfl:=xo h2;obtain⟨m,rfl,g1,f,l,t⟩:=h;obtain⟨a,c,xs,e1,w,z,hm⟩:=ol n u o;rw[e1,(dX r p).1];rw[XG] at f l;refine⟨k,els.length,xs,.inl w,f,l,fun v q=>?_⟩;have:=mo (news:=List.replicate m [C.int j 0]) (v:=v) n w z (om j m) (by rw[XG];exact f) t (by rw[XG];exact q);rw[XG] at this;exact this
 ·rename_i kx i k u p;split at h
  case h_2=>exact h.elim
  rename_i o;obtain⟨m,rfl,g1,f,l,t⟩:=h;rw[nI r u,(dX r p).1];rw[XG] at f l;simp only[XA] at f l;refine⟨k,0,[],.inr ⟨bT n.tl o,rfl,rfl,rfl⟩,f,l,fun v q=>?_⟩;have:=kH (news:=List.replicate m [C.int j 0]) (v:=v) n o (om j m) (by rw[XG];omega) t (by rw[XG];exact q);rw[XG] at this;exact this
 ·exact h.elim
theorem ET {n:Nat}{y x:X}{d:Option Nat}{K:TK}(ht:TS G F L ρ M τ) (h:storeT false n y x d M τ K):evalOp P (.store n y x) d F L ρ (Both G K):=by
 have he:=ht.env;simp only[storeT,eB,dV,dG] at h;simp only[evalOp];split at h
 ·rename_i k off h1 h2 h3 hy;split at h
  case h_3=>exact h.elim
  case h_2 =>
   rename_i t pre cs post hk;rcases h with⟨o,rfl,h⟩ | ⟨pre',bj,bo,bk,h⟩
   case inr =>
    obtain⟨g,ty,v1,w,v3,hL,u,z,an,l⟩:=rz ht.tl hk;have p:=dH he h1;have f:(aG (val L ρ x)).length=n:=by rw[p.len];exact br h2
    have q:eT (aG (val L ρ x)) n=true:=cQ f;have ho:=j4 (fw p h3);rw[q,ho,(ep he hy).1];simp only[hL];have ba:off+n<=v1.length:=by rw[u.len];exact bj
    have s:(((v1++(w++v3)).drop off).take n).length=n:=by
     simp;omega
    rw[fk l.2.2 (cQ s)];have al:aM (v1++(w++v3)) off (aG (val L ρ x))=aM v1 off (aG (val L ρ x))++(w++v3):=by
     simp only[aM];rw[List.take_append_of_le_length (by omega),f,List.drop_append_of_le_length ba];simp
    have be:aB F [] pre' (aM v1 off (aG (val L ρ x))):=by rw[<-bk];exact fF u (dU bo p)
    have h4:=ht.turn (o':=.box g ty (aM (v1++(w++v3)) off (aG (val L ρ x)))) (to:=.win t pre' cs post) hL ⟨rfl,rfl⟩ (fun g' t' cs' e=>by injection e with a b c;subst a b;exact⟨_,rfl⟩)
     (fun L' hx=>⟨l,_,w,v3,al,be,z.ext (aA.le_refl F) hx,an⟩)
    exact⟨_,_,h4.put (c:=.und) (sv:=.v undef) ⟨_,rfl,by simp only[Rel]⟩ d,h⟩
   split at h
   case h_2=>exact h.elim
   rename_i hl;obtain⟨g,ty,v1,w,v3,hL,u,z,an,l⟩:=rz ht.tl hk;have p:=dH he h1;have f:(aG (val L ρ x)).length=n:=by rw[p.len];exact br h2
   have q:eT (aG (val L ρ x)) n=true:=cQ f;have ho:=j4 (fw p h3);rw[q,ho,(ep he hy).1];simp only[hL];have ao:=(z.drop o).take n;have ab:((w.drop o).take n).length=n:=by rw[ao.len];exact br hl
   have s:(((v1++(w++v3)).drop (pre.length+o)).take n).length=n:=by
    rw[<-u.len];simp at ab ⊢;omega
   rw[fk l.2.2 (cQ s)];have al:aM (v1++(w++v3)) (pre.length+o) (aG (val L ρ x))=v1++(aM w o (aG (val L ρ x))++v3):=by
    by_cases bz:n=0
    ·have:aG (val L ρ x)=[]:=Xp (by omega);rw[this];simp[aM]
    have hn:o+n<=w.length:=by simp at ab;omega
    simp only[aM];rw[<-u.len,List.take_append,XI (by omega),show v1.length+o-v1.length=o by omega,List.take_append_of_le_length (by omega),f,Nat.add_assoc,List.drop_append,List.drop_eq_nil_of_le (by omega),show v1.length+(o+n)-v1.length=o+n by omega,List.drop_append_of_le_length hn];simp
   have h4:=ht.turn (o':=.box g ty (aM (v1++(w++v3)) (pre.length+o) (aG (val L ρ x)))) (to:=.win t pre (eH cs o (bS (bV τ x))) post) hL ⟨rfl,rfl⟩ (fun g' t' cs' e=>by injection e with a b c;subst a b;exact⟨_,rfl⟩)
    (fun L' hx=>⟨l,v1,_,v3,al,u,(fF z p).ext (aA.le_refl F) hx,an⟩)
   exact⟨_,_,h4.put (c:=.und) (sv:=.v undef) ⟨_,rfl,by simp only[Rel]⟩ d,h⟩
  rename_i t cs hk;split at h
  case h_2=>exact h.elim
  rename_i hl;obtain⟨g,ty,vs,hL,z,l⟩:=jQ ht.tl hk;have p:=dH he h1;have q:eT (aG (val L ρ x)) n=true:=cQ (by rw[p.len];exact br h2);have ho:=j4 (fw p h3);rw[q,ho,(ep he hy).1];simp only[hL];have ao:=(z.drop off).take n;rw[fk l.2.2 (cQ (by rw[ao.len];exact br hl))];have h4:=ht.turn (o':=.box g ty (aM vs off (aG (val L ρ x)))) (to:=.box t (eH cs off (bS (bV τ x)))) hL ⟨rfl,rfl⟩ (fun g' t' cs' e=>by injection e with a b c;subst a b;exact⟨_,rfl⟩)
   (fun L' hx=>⟨l,(fF z p).ext (aA.le_refl F) hx⟩)
  exact⟨_,_,h4.put (c:=.und) (sv:=.v undef) ⟨_,rfl,by simp only[Rel]⟩ d,h⟩
 ·rename_i k j off h1 h2 h3 hy;split at h
  case h_2=>exact h.elim
  rename_i t sz els h0 hk hp;obtain⟨r0,es,r1,r2,r3⟩:=h;obtain⟨ad,t',r,m,c,bi,e1,e2⟩:=si he hy;obtain⟨v,xs,e3,⟨hm,q6⟩,z⟩:=jT ht.tl hk;rw[e2] at e3;injection e3 with e3
  injection e3 with q1 q2 q3 q4 q5
  subst q1 q2 q3 q4 q5;have p:=dH he h1;have f:(aG (val L ρ x)).length=n:=by rw[p.len];exact br h2
  have q:eT (aG (val L ρ x)) n=true:=cQ f;have ho:=j4 (fw p h3);rw[q,ho,e1];have ce:es.length=r:=by
   obtain⟨us,u1,_,u3,_⟩:=z.at r1;rw[<-u1,u3.len]
  have hn:off+n<=r:=Xd r0;have aE:=z.set (ds:=(bS (bV τ x)).map C.can) (us:=aG (val L ρ x)) (off:=off) r1 (by rw[f];exact hn) (jm (dU hp p)) (mh h3);have az:j<els.length:=(WX.1 r1).1;have bs:=gS z;have h4:=ht.turn (o':=.row (.slice (some ad) els.length c) t' r els.length (aM bi (j*r+off) (aG (val L ρ x)))) (to:=.row t' r (els.set j (eH es off ((bS (bV τ x)).map C.can)))) e2 ⟨rfl,rfl,rfl⟩
   (fun g' cc cs' e=>by cases e) (fun L' hx=>⟨rfl,rfl,by simp,⟨hm,_,_,rfl,fun e=>(by cases e)⟩,aE⟩)
  refine⟨.inl ⟨k,_,_,_,_,_,ad,c,e2,rfl,rfl,?_,fw p h3,_,_,h4.put (c:=.und) (sv:=.v undef) ⟨_,rfl,by simp only[Rel]⟩ d,r3 es r1⟩⟩;rw[bs,f];have:(j+1)*r<=els.length*r:=Nat.mul_le_mul_right _ az;rw[Nat.add_mul] at this;omega
 ·exact h.elim
theorem Cz {n:Nat}{y x:X}{d:Option Nat}{K:TK}(o:TS G F L ρ M τ) (h:Ct n y x d M τ K):evalOp P (.store n y x) d F L ρ (Both G K):=by
 have r:=o.env;unfold Ct at h;split at h
 ·rename_i es off b w hx;split at h
  case h_2=>exact h.elim
  rename_i t;obtain rfl:=xo t;obtain⟨s,h2⟩:=h;obtain⟨b',q,j,vs,k,hp,ho,hr⟩:=og r w;have ex:=gT r hx;have f:vs[off]?=some (.bool b):=by
   obtain⟨z,r2⟩:=je.1 hr;have a:off<vs.length:=by rw[z];exact(WX.1 s).1
   have:=r2 off _ _ s (yo a);simp only[Rel] at this;rw[yo a,this]
  have m:bN F (some ⟨b',q,none⟩) j [.bool b]:=by
   have:=jl (n:=1) (es:=es) hp;have e:(vs.drop off).take 1=[.bool b]:=by
    have a:off<vs.length:=(WX.1 f).1;rw[XS a];rw[yo a] at f;injection f with f
    rw[f];rfl
   rwa [e] at this
  have p:Both G K F L (Fr.put d (.v undef) ρ):=⟨_,_,o.put (c:=.und) (sv:=.v undef) ⟨_,rfl,by simp only[Rel]⟩ d,h2⟩;have l:∀u∈[Value.bool b],u.oneCell'=true:=fun u hu=>by rw[XF.1 hu];rfl
  have ec:aG (val L ρ x)=[.bool b]:=by simp only[val,ex,conc,aG]
  have e3:eT [Value.bool b] 1=true:=rfl;have e4:iR [Value.bool b]=true:=rfl;simp only[evalOp,ec,e3,e4];rcases k with⟨k,rfl⟩ | k
  ·rw[k];exact⟨.inr ⟨m,l,p⟩⟩
  ·rw[k];exact⟨.inr ⟨m,l,p⟩⟩
 ·exact ET o h
theorem CA {n:Nat}{y x:X}{d:Option Nat}{K:TK}(ht:TS G F L ρ M τ) (h:storeT false n y x d M τ K):evalOp P (.storeX n y x) d F L ρ (Both G K):=by
 have he:=ht.env;simp only[storeT,eB,dV,dG] at h;simp only[evalOp];split at h
 ·rename_i k off h1 h2 h3 hy;split at h
  case h_3=>exact h.elim
  case h_2 =>
   rename_i t pre cs post hk;rcases h with⟨o,rfl,h⟩ | ⟨pre',bj,bo,bk,h⟩
   case inr =>
    obtain⟨g,ty,v1,w,v3,hL,u,z,an,l⟩:=rz ht.tl hk;have p:=dH he h1;have f:(aG (val L ρ x)).length=n:=by rw[p.len];exact br h2
    have q:eT (aG (val L ρ x)) n=true:=cQ f;have ho:=j4 (fw p h3);rw[q,ho,(ep he hy).1];simp only[hL];have ba:off+n<=v1.length:=by rw[u.len];exact bj
    have s:(((v1++(w++v3)).drop off).take n).length=n:=by
     simp;omega
    rw[fk l.2.2 (cQ s)];have al:aM (v1++(w++v3)) off (aG (val L ρ x))=aM v1 off (aG (val L ρ x))++(w++v3):=by
     simp only[aM];rw[List.take_append_of_le_length (by omega),f,List.drop_append_of_le_length ba];simp
    have be:aB F [] pre' (aM v1 off (aG (val L ρ x))):=by rw[<-bk];exact fF u (dU bo p)
    have h4:=ht.turn (o':=.box g ty (aM (v1++(w++v3)) off (aG (val L ρ x)))) (to:=.win t pre' cs post) hL ⟨rfl,rfl⟩ (fun g' t' cs' e=>by injection e with a b c;subst a b;exact⟨_,rfl⟩)
     (fun L' hx=>⟨l,_,w,v3,al,be,z.ext (aA.le_refl F) hx,an⟩)
    exact fun _=>⟨_,_,h4.put (c:=.und) (sv:=.v undef) ⟨_,rfl,by simp only[Rel]⟩ d,h⟩
   split at h
   case h_2=>exact h.elim
   rename_i hl;obtain⟨g,ty,v1,w,v3,hL,u,z,an,l⟩:=rz ht.tl hk;have p:=dH he h1;have f:(aG (val L ρ x)).length=n:=by rw[p.len];exact br h2
   have q:eT (aG (val L ρ x)) n=true:=cQ f;have ho:=j4 (fw p h3);rw[q,ho,(ep he hy).1];simp only[hL];have ao:=(z.drop o).take n;have ab:((w.drop o).take n).length=n:=by rw[ao.len];exact br hl
   have s:(((v1++(w++v3)).drop (pre.length+o)).take n).length=n:=by
    rw[<-u.len];simp at ab ⊢;omega
   rw[fk l.2.2 (cQ s)];have al:aM (v1++(w++v3)) (pre.length+o) (aG (val L ρ x))=v1++(aM w o (aG (val L ρ x))++v3):=by
    by_cases bz:n=0
    ·have:aG (val L ρ x)=[]:=Xp (by omega);rw[this];simp[aM]
    have hn:o+n<=w.length:=by simp at ab;omega
    simp only[aM];rw[<-u.len,List.take_append,XI (by omega),show v1.length+o-v1.length=o by omega,List.take_append_of_le_length (by omega),f,Nat.add_assoc,List.drop_append,List.drop_eq_nil_of_le (by omega),show v1.length+(o+n)-v1.length=o+n by omega,List.drop_append_of_le_length hn];simp
   have h4:=ht.turn (o':=.box g ty (aM (v1++(w++v3)) (pre.length+o) (aG (val L ρ x)))) (to:=.win t pre (eH cs o (bS (bV τ x))) post) hL ⟨rfl,rfl⟩ (fun g' t' cs' e=>by injection e with a b c;subst a b;exact⟨_,rfl⟩)
    (fun L' hx=>⟨l,v1,_,v3,al,u,(fF z p).ext (aA.le_refl F) hx,an⟩)
   exact fun _=>⟨_,_,h4.put (c:=.und) (sv:=.v undef) ⟨_,rfl,by simp only[Rel]⟩ d,h⟩
  rename_i t cs hk;split at h
  case h_2=>exact h.elim
  rename_i hl;obtain⟨g,ty,vs,hL,z,l⟩:=jQ ht.tl hk;have p:=dH he h1;have q:eT (aG (val L ρ x)) n=true:=cQ (by rw[p.len];exact br h2);have ho:=j4 (fw p h3);rw[q,ho,(ep he hy).1];simp only[hL];have ao:=(z.drop off).take n;rw[fk l.2.2 (cQ (by rw[ao.len];exact br hl))];have h4:=ht.turn (o':=.box g ty (aM vs off (aG (val L ρ x)))) (to:=.box t (eH cs off (bS (bV τ x)))) hL ⟨rfl,rfl⟩ (fun g' t' cs' e=>by injection e with a b c;subst a b;exact⟨_,rfl⟩)
   (fun L' hx=>⟨l,(fF z p).ext (aA.le_refl F) hx⟩)
  exact fun _=>⟨_,_,h4.put (c:=.und) (sv:=.v undef) ⟨_,rfl,by simp only[Rel]⟩ d,h⟩
 ·rename_i k j off h1 h2 h3 hy;split at h
  case h_2=>exact h.elim
  rename_i t sz els h0 hk hp;obtain⟨r0,es,r1,r2,r3⟩:=h;obtain⟨ad,t',r,m,c,bi,e1,e2⟩:=si he hy;obtain⟨v,xs,e3,⟨hm,q6⟩,z⟩:=jT ht.tl hk;rw[e2] at e3;injection e3 with e3
  injection e3 with q1 q2 q3 q4 q5
  subst q1 q2 q3 q4 q5;have p:=dH he h1;have f:(aG (val L ρ x)).length=n:=by rw[p.len];exact br h2
  have q:eT (aG (val L ρ x)) n=true:=cQ f;have ho:=j4 (fw p h3);rw[q,ho,e1];have ce:es.length=r:=by
   obtain⟨us,u1,_,u3,_⟩:=z.at r1;rw[<-u1,u3.len]
  have hn:off+n<=r:=Xd r0;have aE:=z.set (ds:=(bS (bV τ x)).map C.can) (us:=aG (val L ρ x)) (off:=off) r1 (by rw[f];exact hn) (jm (dU hp p)) (mh h3);have az:j<els.length:=(WX.1 r1).1;have bs:=gS z;have h4:=ht.turn (o':=.row (.slice (some ad) els.length c) t' r els.length (aM bi (j*r+off) (aG (val L ρ x)))) (to:=.row t' r (els.set j (eH es off ((bS (bV τ x)).map C.can)))) e2 ⟨rfl,rfl,rfl⟩
   (fun g' cc cs' e=>by cases e) (fun L' hx=>⟨rfl,rfl,by simp,⟨hm,_,_,rfl,fun e=>(by cases e)⟩,aE⟩)
  refine⟨k,_,_,_,_,_,ad,c,e2,rfl,rfl,?_,fw p h3,fun _=>⟨_,_,h4.put (c:=.und) (sv:=.v undef) ⟨_,rfl,by simp only[Rel]⟩ d,r3 es r1⟩⟩;rw[bs,f];have:(j+1)*r<=els.length*r:=Nat.mul_le_mul_right _ az;rw[Nat.add_mul] at this;omega
 ·exact h.elim
theorem vY {n:Nat}{y x:X}{d:Option Nat}{K:TK}(o:TS G F L ρ M τ) (h:storeT true n y x d M τ K):evalOp P (.storeD n y x) d F L ρ (Both G K):=by
 have q:=o.env;simp only[storeT,eB,dV,dG] at h;simp only[evalOp];split at h
 ·rename_i k off h1 h2 h3 u;split at h
  case h_3=>exact h.elim
  case h_2=>exact h.elim
  rename_i t cs w;split at h
  case h_2=>exact h.elim
  rename_i hl;obtain⟨g,ty,vs,r,p,f⟩:=jQ o.tl w;have l:=dH q h1;have j:eT (aG (val L ρ x)) n=true:=cQ (by rw[l.len];exact br h2);have s:=j4 (fw l h3);rw[j,s,(ep q u).1];simp only[r];have m:=(p.drop off).take n;rw[fk f.2.2 (cQ (by rw[m.len];exact br hl))];have h4:=o.turn (o':=.box g ty (aM vs off (aG (val L ρ x)))) (to:=.box t (eH cs off (bS (bV τ x)))) r ⟨rfl,rfl⟩ (fun g' t' cs' e=>by injection e with a b c;subst a b;exact⟨_,rfl⟩)
   (fun L' z=>⟨f,(fF p l).ext (aA.le_refl F) z⟩)
  exact⟨_,_,h4.put (c:=.und) (sv:=.v undef) ⟨_,rfl,by simp only[Rel]⟩ d,h⟩
 ·exact h.elim
 ·exact h.elim
theorem EU {e sz b:Nat}{zs:List Value}{l c:X}{d:Option Nat}{K:TK}(j:TS G F L ρ M τ) (h:bH P (.makeS e sz b zs l c) d M τ K):evalOp P (.makeS e sz b zs l c) d F L ρ (Both G K):=by
 have q:=j.env;simp only[bH,eB,dV,dG] at h;simp only[evalOp];split at h
 case h_2=>exact h.elim
 rename_i k1 n k2 m k hl v;split at h
 case h_2=>exact h.elim
 rename_i s w h2;rw[(dX q hl).1,(dX q v).1];have a:=bT j.tl s;simp only[a];obtain⟨y,p,z,r,g5⟩:=h;refine⟨y,p,z,r,fun g=>?_⟩;have x:aB F [] ((zs.map qI).map C.can) zs:=jm (kF zs);have f:∀i:Nat,aL F sz (List.replicate i ((zs.map qI).map C.can)) (List.replicate i zs).flatten:=by
  intro i
  induction i with
  | zero=>simp only[List.replicate_zero,List.flatten_nil,aL]
  | succ i u =>
   simp only[XO,List.flatten_cons,aL];exact⟨zs,_,rfl,by have:=br w;simpa using this,mh h2,x,u⟩
 have t:=j.new (aA.le_refl F) a (o:=.row (.slice (some ⟨g,0,none⟩) n.toNat m.toNat) e sz n.toNat (List.replicate n.toNat zs).flatten) (to:=.row e sz (List.replicate n.toNat ((zs.map qI).map C.can)))
  ⟨rfl,rfl,by simp,⟨XK (Int.toNat_le_toNat p) r,_,_,rfl,fun e=>(by cases e)⟩,f _⟩
 exact⟨_,_,t.put (c:=.rw k) (mN (by rw[Loc.Wc,j3 rfl])) (some k),g5⟩
end
section
variable {P:Program}{G:Nat->Option (Nat×TypeId)}{F:aA}{L:Loc}{ρ:Env}{M:TL}{τ:aT}
theorem zL:∀{ks:List Nat}{i j m:Nat},cj ks i j=some m->∃n,ks[n]?=some j/\m=i+n
 | [],_,_,_,h=>by simp[cj] at h
 | k::ks,i,j,m,h=>by
  simp only[cj] at h;cases a:Nat.beq j k with
  | true =>
   have:=xo a;subst this;rw[a] at h;injection h with h
   exact⟨0,by simp,by omega⟩
  | false =>
   rw[a] at h;obtain⟨n,b,c⟩:=zL h;exact⟨n+1,by simpa using b,by omega⟩
theorem lJ {ko:List Nat}{j m:Nat}(h:aW ko j=some m):1000<=j/\ko[j-1000]?=some m:=by
 simp only[aW] at h;split at h
 ·rename_i a;exact⟨Xd a,h⟩
 ·cases h
theorem cJ:∀{l:List Nat},bE l=true->l.Nodup
 | [],_=>List.nodup_nil
 | k::l,h=>by
  simp only[bE] at h;split at h
  ·cases h
  ·rename_i a;exact List.nodup_cons.2 ⟨fun b=>(by rw[cH.2 b] at a;cases a),cJ h⟩
theorem GZ {L':Loc}{f:Nat->Option Nat}(k:∀j m,f j=some m->∀o,L.get j=some o->L'.get m=some o) (c:C) (v:Value) (q:c.leaf=true) (h:Rel F L c v):Rel F L' (rY f c) v:=by
 cases c<;>simp only[C.leaf,W9] at q<;>simp only[rY]
 case rw j =>
  simp only[Rel] at h;obtain⟨a,c,t,sz,n,xs,rfl,h⟩:=h;cases d:f j with
  | none=>simp only[Rel]
  | some m=>simp only[Rel];exact⟨a,c,t,sz,n,xs,rfl,k j m d _ h⟩
 case own j off =>
  simp only[Rel] at h;obtain⟨g,t,cs,h,rfl⟩:=h;cases d:f j with
  | none=>simp only[Rel]
  | some m=>simp only[Rel];exact⟨g,t,cs,k j m d _ h,rfl⟩
 case ifo m ti j off =>
  simp only[Rel] at h;obtain⟨g,t,cs,h,rfl⟩:=h;cases d:f j with
  | none=>simp only[Rel]
  | some m=>simp only[Rel];exact⟨g,t,cs,k j m d _ h,rfl⟩
 case mpr j =>
  simp only[Rel] at h;obtain⟨g,cs,h,rfl⟩:=h;cases d:f j with
  | none=>simp only[Rel]
  | some m=>simp only[Rel];exact⟨g,cs,k j m d _ h,rfl⟩
 case ownv=>exact h.elim
 case elr j a b =>
  simp only[Rel] at h;obtain⟨l,t,sz,n,c,xs,rfl,h⟩:=h;cases d:f j with
  | none=>simp only[Rel]
  | some m=>simp only[Rel];exact⟨l,t,sz,n,c,xs,rfl,k j m d _ h⟩
 case slo j a =>
  simp only[Rel] at h;obtain⟨g,t,cs,l,h,r,p,s⟩:=h;cases d:f j with
  | none=>simp only[Rel]
  | some m=>simp only[Rel];exact⟨g,t,cs,l,k j m d _ h,r,p,s⟩
 case slp=>exact h.elim
 all_goals
  exact bq (aA.le_refl F) (fun u e=>by rcases e with⟨off,e⟩ | e | e | ⟨_,_,_,e⟩ | ⟨_,_,e⟩<;>cases e) rfl h
theorem Rel.ren {L':Loc}{f:Nat->Option Nat}(a:∀j m,f j=some m->∀o,L.get j=some o->L'.get m=some o) {c:C}{v:Value}(h:Rel F L c v):Rel F L' (c.ren f) v:=Rel.mp (GZ a) 3 h
theorem cN.ren {L':Loc}{f:Nat->Option Nat}(b:∀j m,f j=some m->∀o,L.get j=some o->L'.get m=some o):∀{o:TO}{p:Own},cN F L o p->cN F L' (o.Wh (C.ren f)) p
 | .box t cs,.box g a vs,r=>⟨r.1,r.2.map fun c _ v h=>h.ren b⟩
 | .row t sz els,.row v a k n xs,r=>r
 | .box _ _,.row ..,r=>r.elim
 | .row ..,.box ..,r=>r.elim
 | .map _,.row ..,r=>r.elim
 | .map es,.box g a vs,r=>r
 | .win ..,.row ..,r=>r.elim
 | .win ..,.box ..,⟨d,v1,q,v3,e,s,u,l⟩=>⟨d,v1,q,v3,e,s,u.map fun c _ v h=>h.ren b,l⟩
theorem pR (j:cO F L M):∀{ks:List Nat}{Lin:List TO},M.sub ks=some Lin->∃Li,L.sub ks=some Li/\Li.length=Lin.length/\∀(i:Nat) o p,Lin[i]?=some o->Li[i]?=some p->cN F L o p
 | [],Lin,h=>by simp only[TL.sub,x5] at h;subst h;exact⟨[],rfl,rfl,by simp⟩
 | k::ks,Lin,h=>by
  simp only[TL.sub] at h;split at h
  case h_2=>cases h
  rename_i o l e s;injection h with h
  subst h;obtain⟨Li,r,m,q⟩:=pR j s;rcases dR (j k) with⟨a,f⟩ | ⟨o',p,a,f,n⟩
  ·rw[e] at a;cases a
  ·rw[e] at a;injection a with a
   subst a;refine⟨p::Li,by simp only[Loc.sub,f,r],by simp[m],fun i b d hi c=>?_⟩;cases i with
   | zero=>simp only[Xc,x5] at hi c;subst hi;subst c;exact n
   | succ i=>exact q i b d (by simpa using hi) (by simpa using c)
theorem mO {ks:List Nat}{Li:List Own}(d:L.sub ks=some Li):∀j m,cj ks 1000 j=some m->∀o,L.get j=some o->(inp Li).get m=some o:=by
 intro j m h o c;obtain⟨n,a,rfl⟩:=zL h;obtain⟨_,b⟩:=dW d;rw[aS,j3 (by omega),show 1000+n-1000=n by omega,<-b n j a];exact c
theorem rA (f:cO F L M) {ks:List Nat}{Lin:List TO}{Li:List Own}(e:Li.length=Lin.length) (d:L.sub ks=some Li) (c:∀(i:Nat) o p,Lin[i]?=some o->Li[i]?=some p->cN F L o p) :
  cO F (inp Li) (iN (Lin.map (TO.Wh (C.ren (cj ks 1000))))):=by
 intro k;rw[bZ,aS];split
 ·rw[XD];cases b:Lin[k-1000]? with
  | none =>
   have:Li[k-1000]?=none:=by rw[XP] at b ⊢;omega
   rw[this];trivial
  | some o =>
   have a:k-1000<Li.length:=by have:=(WX.1 b).1;omega
   rw[yo a];exact(c _ _ _ b (yo a)).ren (mO d)
 ·trivial
def lp (L:Loc) (k:Nat):Loc:=match L.get k with | some (.row ..)=>L.del k | _=>L
def mq:List Nat->Loc->Loc
 | [],L=>L
 | k::ks,L=>mq ks (lp L k)
theorem tw (k:Nat):(∀c v,c.leaf=true->Rel F L c v->Rel F (lp L k) (fS k c) v)/\(∀c sv,c.leaf=true->aN F L c sv->aN F (lp L k) (fS k c) sv):=by
 by_cases a:∃v t sz n xs,L.get k=some (.row v t sz n xs)
 ·obtain⟨v,t,sz,n,xs,a⟩:=a;have e:lp L k=L.del k:=by simp only[lp,a]
  rw[e];have b:∀g t cs,L.get k≠some (.box g t cs):=fun g t cs h=>by rw[a] at h;injection h with h;cases h
  have d:∀j,j≠k->∀o,L.get j=some o->∃o',(L.del k).get j=some o'/\Own.like o o':=fun j m o f=>⟨o,by rw[Loc.Wk,vv m];exact f,Own.Wj o⟩;exact⟨jU b d (aA.le_refl F),oh b d (aA.le_refl F)⟩
 ·have e:lp L k=L:=by
   simp only[lp];split
   ·rename_i h;exact vz ⟨_,_,_,_,_,h⟩ a
   ·rfl
  rw[e];refine⟨fun c v l h=>?_,fun c sv l h=>?_⟩
  ·cases c<;>simp only[fS]<;>first
    | exact h
    | exact h.elim
    | (split<;>first | exact h | (simp only[Rel];done))
  ·cases c<;>simp only[fS]<;>first
    | exact h
    | trivial
    | (split<;>first | exact h | trivial)
theorem Rel.kills:∀(ks:List Nat) {L:Loc}{c:C}{v:Value},Rel F L c v->Rel F (mq ks L) (C.kills ks c) v
 | [],L,c,v,h=>h
 | k::ks,L,c,v,h=>Rel.kills ks (Rel.mp (tw k).1 3 h)
theorem aN.kills:∀(ks:List Nat) {L:Loc}{c:C}{sv:SV},aN F L c sv->aN F (mq ks L) (C.kills ks c) sv
 | [],L,c,sv,h=>h
 | k::ks,L,c,sv,h=>aN.kills ks (aN.mp (tw k).1 (tw k).2 3 h)
theorem cN.kills (ks:List Nat) {L:Loc}:∀{o:TO}{p:Own},cN F L o p->cN F (mq ks L) (o.Wh (C.kills ks)) p
 | .box t cs,.box g a vs,r=>⟨r.1,r.2.map fun c _ v h=>h.kills ks⟩
 | .row t sz els,.row v a d n xs,r=>r
 | .box _ _,.row ..,r=>r.elim
 | .row ..,.box ..,r=>r.elim
 | .map _,.row ..,r=>r.elim
 | .map es,.box g a vs,r=>r
 | .win ..,.row ..,r=>r.elim
 | .win ..,.box ..,⟨b,v1,j,v3,e,k,l,f⟩=>⟨b,v1,j,v3,e,k,l.map fun c _ v h=>h.kills ks,f⟩
theorem Bg {k j:Nat}{o:Own}(h:(lp L k).get j=some o):L.get j=some o/\(j=k->∃g t cs,o=.box g t cs):=by
 unfold lp at h;split at h
 ·rw[Loc.Wk] at h;split at h
  ·cases h
  ·rename_i b;exact⟨h,fun e=>vz e b⟩
 ·rename_i a;refine⟨h,fun e=>?_⟩;subst e;cases o with
  | box g t cs=>exact⟨g,t,cs,rfl⟩
  | row v t sz n xs=>exact vz h (a v t sz n xs)
theorem oq:∀{ks:List Nat}{L:Loc}{j:Nat}{o:Own},(mq ks L).get j=some o->L.get j=some o/\(j∈ks->∃g t cs,o=.box g t cs)
 | [],L,j,o,h=>⟨h,by simp⟩
 | k::ks,L,j,o,h=>by
  obtain⟨a,d⟩:=oq (ks:=ks) h;obtain⟨c,f⟩:=Bg a;exact⟨c,fun b=>by
   rcases WZ.1 b with e | e
   ·exact f e
   ·exact d e⟩
theorem vZ (ks:List Nat) (M:TL) (k:Nat):(TL.kills ks M).get k=(M.get k).map (TO.Wh (C.kills ks)):=by
 cases ks with
 | nil =>
  simp only[TL.kills];cases M.get k with
  | none=>rfl
  | some o =>
   cases o with
   | box t cs =>
    have e:(C.kills []:C->C)=id:=rfl;simp[TO.Wh,e]
   | row t sz els=>rfl
   | map es=>rfl
   | win t pre cs post =>
    have e:(C.kills []:C->C)=id:=rfl;simp[TO.Wh,e]
 | cons a ks=>exact pQ _ _ _
theorem v9 (ks:List Nat) (τ:aT) (j:Nat):eI ks τ j=(τ j).kills ks:=by cases ks<;>rfl
def zM:TO->Bool
 | .row _ _ _=>true
 | _=>false
theorem dZ:∀{Lin:List TO}{ks ko:List Nat},aQ Lin ks ko=true->∀(i:Nat) o,Lin[i]?=some o->zM o=false->∃k,ks[i]?=some k/\ko[i]?=some k
 | [],_,_,_,i,o,e,_=>by simp at e
 | .box d f::l,[],ko,h,i,o,e,_=>by cases ko<;>simp[aQ] at h
 | .box d f::l,k::ks,[],h,i,o,e,_=>by simp[aQ] at h
 | .box d f::l,k::ks,c::ko,h,i,o,e,a=>by
  simp only[aQ] at h;split at h
  case h_2=>cases h
  rename_i b;have:=xo b;subst this;cases i with
  | zero=>exact⟨k,by simp,by simp⟩
  | succ i=>simpa using dZ h i o (by simpa using e) a
 | .map es::l,[],ko,h,i,o,e,_=>by cases ko<;>simp[aQ] at h
 | .map es::l,k::ks,[],h,i,o,e,_=>by simp[aQ] at h
 | .map es::l,k::ks,c::ko,h,i,o,e,a=>by
  simp only[aQ] at h;split at h
  case h_2=>cases h
  rename_i b;have:=xo b;subst this;cases i with
  | zero=>exact⟨k,by simp,by simp⟩
  | succ i=>simpa using dZ h i o (by simpa using e) a
 | .win ..::l,[],ko,h,i,o,e,_=>by cases ko<;>simp[aQ] at h
 | .win ..::l,k::ks,[],h,i,o,e,_=>by simp[aQ] at h
 | .win ..::l,k::ks,c::ko,h,i,o,e,a=>by
  simp only[aQ] at h;split at h
  case h_2=>cases h
  rename_i b;have:=xo b;subst this;cases i with
  | zero=>exact⟨k,by simp,by simp⟩
  | succ i=>simpa using dZ h i o (by simpa using e) a
 | .row ..::l,k::ks,c::ko,h,i,o,e,a=>by
  simp only[aQ] at h;cases i with
  | zero =>
   simp only[Xc,x5] at e;subst e;cases a
  | succ i=>simpa using dZ h i o (by simpa using e) a
 | .row ..::l,k::ks,[],h,i,o,e,a=>by
  simp only[aQ] at h;cases i with
  | zero =>
   simp only[Xc,x5] at e;subst e;cases a
  | succ i =>
   obtain⟨c,m,j⟩:=dZ h i o (by simpa using e) a;simp at j
 | .row ..::l,[],ko,h,i,o,e,_=>by simp[aQ] at h
theorem wg {Lin:List TO}{ks ko:List Nat}(h:aQ Lin ks ko=true) (i:Nat) (t:TypeId) (cs:List C) (e:Lin[i]?=some (.box t cs)):∃k,ks[i]?=some k/\ko[i]?=some k:=dZ h i _ e rfl
theorem qp {M:TL}{ks:List Nat}:∀{ko:List Nat},lg M ks ko=true->∀k∈ko,k∈ks\/M.get k=none
 | [],_,k,a=>by simp at a
 | k0::ko,h,k,a=>by
  simp only[lg] at h;rcases WZ.1 a with e | e
  ·subst e;split at h
   ·rename_i b;exact .inl (cH.1 b)
   ·rename_i b c;exact .inr c
   ·cases h
  ·split at h
   ·exact qp h k e
   ·exact qp h k e
   ·cases h
theorem cB {ko:List Nat}{Lo:List Own}{L:Loc}(b:ko.Nodup) (e:ko.length=Lo.length) {i k:Nat}{o:Own}(c:ko[i]?=some k) (f:Lo[i]?=some o):(L.puts ko Lo).get k=some o:=by
 rcases cW ko Lo L k b e with⟨_,a⟩ | ⟨h,d,a,_⟩
 ·exact vz (W5 c) a
 ·have:=yd b d c;subst this;rw[a,f]
theorem rB {k:Nat}{t sz:Nat}{els:List (List C)}(h:M.get k=some (.row t sz els)):∀{ks:List Nat},k∈ks->k∈rowsOf M ks
 | [],a=>by cases a
 | j::ks,a=>by
  simp only[rowsOf];rcases WZ.1 a with rfl | a
  ·rw[h];simp
  ·split
   ·exact Xq _ (rB h a)
   ·exact rB h a
theorem wh {ks:List Nat}{k:Nat}{o:Own}(f:cO F L M) (e:k∈ks) (h:L.get k=some o) (hb:k∈rowsOf M ks->∃g t cs,o=.box g t cs):∃g t cs,o=.box g t cs:=by
 rcases dR (f k) with⟨d,a⟩ | ⟨q,p,d,a,c⟩
 ·rw[h] at a;cases a
 ·rw[h] at a;injection a with a
  subst a;cases q with
  | row t sz els=>exact hb (rB d e)
  | box t cs =>
   cases o with
   | row=>exact c.elim
   | box g b cs'=>exact⟨g,b,cs',rfl⟩
  | map es =>
   cases o with
   | row=>exact c.elim
   | box g b cs'=>exact⟨g,b,cs',rfl⟩
  | win t pre cs post =>
   cases o with
   | row=>exact c.elim
   | box g b cs'=>exact⟨g,b,cs',rfl⟩
theorem qq {f:Nat}{args:List C}{vs:List Value}{ks ko:List Nat}{Lin:List TO}{R:List TO->C->Prop}{K:TL->aT->C->Prop}(ht:TS G F L ρ M τ) (ha:aB F L args vs)
  (h1:M.sub ks=some Lin) (h2:bE ks=true) (h3:bE ko=true) (h4:lg M ks ko=true) (h5:aQ Lin ks ko=true)
  (h6:CallsT P f (args.map fun c=>c.Wm.ren (cj ks 1000)) (Lin.map (TO.Wh (C.ren (cj ks 1000)))) R)
  (h7:∀v Mo,R Mo v->Wf v->(∀o∈Mo,o.Wf)->ko.length=Mo.length/\K (((M.Wg ks).kills (rowsOf M ks)).puts ko (Mo.map (TO.Wh (C.ren (aW ko))))) (eI (rowsOf M ks) τ) (v.ren (aW ko)).slt) :
  cV P f vs F L (fun F' L' v=>∃M' al c,TS G F' L' ρ M' al/\aN F' L' c (.v v)/\K M' al c):=by
 obtain⟨Li,e1,e2,e3⟩:=pR ht.tl h1;have hn:=cJ h2;have l:=cJ h3;have an:∀k,k∈ko->k∈ks\/L.get k=none:=fun k q=>(qp h4 k q).imp id fun e=>bT ht.tl e;have ay:=dW e1;refine⟨ks,ko,Li,gk Li R,e1,hn,l,an,h6.out F Li vs (by simp[e2]) (rA ht.tl e2 e1 e3) ?_,?_⟩
 ·exact ha.map fun c _ v hc=>(gU hc).ren (mO e1)
 ·rintro v F' Lo hF ⟨Mo,c,q1,q2,q3,q4,q5⟩;have az:∀o∈Mo,o.Wf:=by
   intro o x;obtain⟨i,hi⟩:=Xn.1 x;have d:i<Lo.length:=by rw[<-q1];exact(WX.1 hi).1
   have:=q2 (1000+i);rw[bZ,aS,j3 (by omega),j3 (by omega),show 1000+i-1000=i by omega,hi,yo d] at this;exact cN.wf this
  obtain⟨k1,k2⟩:=h7 c Mo q5 q3.wf az;have a:ko.length=Lo.length:=by rw[k1,q1]
  have b:∀k g t cs,k∈ks->L.get k=some (.box g t cs)->∃cs',Loc.get ((L.Wg ks).puts ko Lo) k=some (.box g t cs'):=by
   intro k g t cs q hg;obtain⟨i,hi⟩:=Xn.1 q;have r:Li[i]?=some (.box g t cs):=by rw[<-ay.2 i k hi];exact hg
   have d:i<Lin.length:=by rw[<-e2];exact(WX.1 r).1
   have hr:=e3 i _ _ (yo d) r;cases hL:Lin[i] with
   | row=>rw[hL] at hr;exact hr.elim
   | box t' cs' =>
    obtain⟨k',n,b2⟩:=wg h5 i t' cs' (by rw[yo d,hL]);rw[hi] at n;injection n with n
    subst n;obtain⟨w,s⟩:=q4 i g t cs r;exact⟨w,cB l a b2 s⟩
   | map es =>
    obtain⟨k',n,b2⟩:=dZ h5 i (.map es) (by rw[yo d,hL]) rfl;rw[hi] at n;injection n with n
    subst n;obtain⟨w,s⟩:=q4 i g t cs r;exact⟨w,cB l a b2 s⟩
   | win t0 p0 c0 q0 =>
    obtain⟨k',n,b2⟩:=dZ h5 i (.win t0 p0 c0 q0) (by rw[yo d,hL]) rfl;rw[hi] at n;injection n with n
    subst n;obtain⟨w,s⟩:=q4 i g t cs r;exact⟨w,cB l a b2 s⟩
  refine⟨a,b,?_⟩;generalize z:(L.Wg ks).puts ko Lo=L' at b
  -- what was there before
  have ab:∀k,k∉ks->∀o,L.get k=some o->L'.get k=some o:=by
   intro k q o x;rw[<-z];rcases cW ko Lo (L.Wg ks) k l a with⟨y,a2⟩ | ⟨i,y,a2,a3⟩
   ·rw[y,eX,vv q];exact x
   ·rcases an k (W5 y) with e | e
    ·exact vz e q
    ·rw[x] at e;cases e
  have aa:Ext (mq (rowsOf M ks) L) L':=by
   intro k o x;obtain⟨g1,g2⟩:=oq x
   by_cases q:k∈ks
   ·obtain⟨g,t,cs,rfl⟩:=wh ht.tl q g1 g2;obtain⟨cs',h⟩:=b k g t cs q g1;exact⟨_,h,rfl,rfl⟩
   ·exact⟨o,ab k q o g1,Own.Wj o⟩
  have u:∀j m,aW ko j=some m->∀o,(inp Lo).get j=some o->L'.get m=some o:=by
   intro j m hj o x;obtain⟨y,a2⟩:=lJ hj;rw[aS,j3 y] at x;rw[<-z];exact cB l a a2 x
  refine⟨_,_,_,⟨fun k=>?_,fun j=>?_,fun k g t e=>?_,ht.glob.mono hF⟩,ji (q3.ren u),k2⟩
  ·rcases lI ko (Mo.map (TO.Wh (C.ren (aW ko)))) ((M.Wg ks).kills (rowsOf M ks)) k l (by simp[k1]) with⟨y,a2⟩ | ⟨i,y,a2,a3⟩
   ·have ag:L'.get k=(L.Wg ks).get k:=by
     rw[<-z];rcases cW ko Lo (L.Wg ks) k l a with⟨n,_⟩ | ⟨i,n,_,_⟩
     ·exact n
     ·exact vz (W5 n) a2
    rw[y,ag,vZ,nJ,eX];split
    ·trivial
    ·rcases dR (ht.tl k) with⟨c1,c2⟩ | ⟨o,p,c1,c2,hr⟩
     ·rw[c1,c2];trivial
     ·rw[c1,c2];exact(hr.kills (rowsOf M ks)).ext hF aa
   ·rw[a2,XD];have d:i<Mo.length:=by simpa using a3
    have ad:i<Lo.length:=by omega
    have ag:L'.get k=some (Lo[i]):=by rw[<-z];exact cB l a y (yo ad)
    rw[ag,yo d];have:=q2 (1000+i);rw[bZ,aS,j3 (by omega),j3 (by omega),show 1000+i-1000=i by omega,yo d,yo ad] at this;exact cN.ren u this
  ·rw[v9];exact((ht.env j).kills (rowsOf M ks)).ext hF aa
  ·obtain⟨cs,h⟩:=ht.kp k g t e
   by_cases q:k∈ks
   ·exact b k g t cs q h
   ·exact⟨cs,ab k q _ h⟩
theorem tC {f:Nat}{args:List C}{vs:List Value}{ks:List Nat}{Lin:List TO}{R:List TO->C->Prop}{K:TL->aT->C->Prop}(ht:TS G F L ρ M τ) (ha:aB F L args vs)
  (h1:M.sub ks=some Lin) (h2:bE ks=true) (h6:zy P f (args.map fun c=>c.Wm.ren (cj ks 1000)) (Lin.map (TO.Wh (C.ren (cj ks 1000)))) R)
  (h7:∀v Mo,R Mo v->Wf v->(∀o∈Mo,o.Wf)->ks.length=Mo.length/\K ((M.Wg ks).puts ks (Mo.map (TO.Wh (C.ren (aW ks))))) τ (v.ren (aW ks)).slt) :
  cV P f vs F L (fun F' L' v=>∃M' ae c,TS G F' L' ρ M' ae/\aN F' L' c (.v v)/\K M' ae c):=by
 obtain⟨Li,e1,e2,e3⟩:=pR ht.tl h1;have s:=cJ h2;have ad:=dW e1;refine⟨ks,ks,Li,_,e1,s,s,fun k d=>.inl d,h6.out F Li vs (by simp[e2]) (rA ht.tl e2 e1 e3) ?_,?_⟩
 ·exact ha.map fun c _ v hc=>(gU hc).ren (mO e1)
 ·rintro v F' Lo hF ⟨⟨Mo,c,q1,q2,q3,q4,q5⟩,bk,an⟩;have av:∀o∈Mo,o.Wf:=by
   intro o q;obtain⟨i,hi⟩:=Xn.1 q;have r:i<Lo.length:=by rw[<-q1];exact(WX.1 hi).1
   have:=q2 (1000+i);rw[bZ,aS,j3 (by omega),j3 (by omega),show 1000+i-1000=i by omega,hi,yo r] at this;exact cN.wf this
  obtain⟨k1,k2⟩:=h7 c Mo q5 q3.wf av;have a:ks.length=Lo.length:=by rw[k1,q1]
  have b:∀k g t cs,k∈ks->L.get k=some (.box g t cs)->∃cs',Loc.get ((L.Wg ks).puts ks Lo) k=some (.box g t cs'):=by
   intro k g t cs d hg;obtain⟨i,hi⟩:=Xn.1 d;have z:Li[i]?=some (.box g t cs):=by rw[<-ad.2 i k hi];exact hg
   obtain⟨ap,am⟩:=q4 i g t cs z;exact⟨ap,cB s a hi am⟩
  refine⟨a,b,?_⟩;generalize n:(L.Wg ks).puts ks Lo=L' at b;have x:∀k,k∉ks->∀o,L.get k=some o->L'.get k=some o:=by
   intro k d o q;rw[<-n];rcases cW ks Lo (L.Wg ks) k s a with⟨u,a2⟩ | ⟨i,u,a2,a3⟩
   ·rw[u,eX,vv d];exact q
   ·exact vz (W5 u) d
  have w:Ext L L':=by
   intro k o q
   by_cases d:k∈ks
   ·obtain⟨i,hi⟩:=Xn.1 d;have z:Li[i]?=some o:=by rw[<-ad.2 i k hi];exact q
    obtain⟨o',h1,h2⟩:=an i o z;exact⟨o',by rw[<-n];exact cB s a hi h1,h2⟩
   ·exact⟨o,x k d o q,Own.Wj o⟩
  have l:∀j m,aW ks j=some m->∀o,(inp Lo).get j=some o->L'.get m=some o:=by
   intro j m hj o q;obtain⟨u,a2⟩:=lJ hj;rw[aS,j3 u] at q;rw[<-n];exact cB s a a2 q
  refine⟨_,_,_,⟨fun k=>?_,fun j=>(ht.env j).ext hF w,fun k g t e=>?_,ht.glob.mono hF⟩,ji (q3.ren l),k2⟩
  ·rcases lI ks (Mo.map (TO.Wh (C.ren (aW ks)))) (M.Wg ks) k s (by simp[k1]) with⟨u,a2⟩ | ⟨i,u,a2,a3⟩
   ·have ab:L'.get k=(L.Wg ks).get k:=by
     rw[<-n];rcases cW ks Lo (L.Wg ks) k s a with⟨b1,_⟩ | ⟨i,b1,_,_⟩
     ·exact b1
     ·exact vz (W5 b1) a2
    rw[u,ab,nJ,eX];split
    ·trivial
    ·rcases dR (ht.tl k) with⟨c1,c2⟩ | ⟨o,p,c1,c2,hr⟩
     ·rw[c1,c2];trivial
     ·rw[c1,c2];exact hr.ext hF w
   ·rw[a2,XD];have r:i<Mo.length:=by simpa using a3
    have y:i<Lo.length:=by omega
    have ab:L'.get k=some (Lo[i]):=by rw[<-n];exact cB s a u (yo y)
    rw[ab,yo r];have:=q2 (1000+i);rw[bZ,aS,j3 (by omega),j3 (by omega),show 1000+i-1000=i by omega,yo r,yo y] at this;exact cN.ren l this
  ·obtain⟨cs,h⟩:=ht.kp k g t e
   by_cases d:k∈ks
   ·exact b k g t cs d h
   ·exact⟨cs,x k d _ h⟩
theorem qt {ks:List Nat}:∀{ko:List Nat},(∀k∈ko,k∈ks)->lg M ks ko=true
 | [],_=>rfl
 | k::ko,h=>by
  simp only[lg,cH.2 (h k (by simp))];exact qt fun j a=>h j (by simp[a])
def P6 (hb:List (Nat×Nat)) (L:Loc):Prop:=∀k n,(k,n)∈hb->∃g t cs,L.get k=some (.box g t cs)/\cs.length=n
def G0 (F':aA) (L':Loc) (M':TL):Prop:=∀k o,M'.get k=some o->∃p,L'.get k=some p/\cN F' L' o p
theorem yG {F':aA}{L':Loc}{M':TL}(h:cO F' L' M'):G0 F' L' M':=fun k o e=>by
 rcases dR (h k) with⟨a,b⟩ | ⟨o',p,a,b,c⟩
 ·rw[e] at a;cases a
 ·rw[e] at a;injection a with a
  subst a;exact⟨p,b,c⟩
def G3 (PS:oV) (F':aA) (L':Loc) (v:Value):Prop:=∀s,PS.st=some s->∃M',G0 F' L' M'/\s M' v
theorem G3.no {PS:oV}(h:PS.st=none) {F':aA}{L':Loc}{v:Value}:G3 PS F' L' v:=fun s e=>by rw[h] at e;cases e
def xu (G:Nat->Option (Nat×TypeId)) (PS:oV) (F':aA) (L':Loc) (v:Value):Prop:=Kp G L'/\PS.ps v/\P6 PS.hb L'/\G3 PS F' L' v
theorem Bh:∀{hb:List (Nat×Nat)}{ks:List Nat},kQ M ks hb=true->∀k n,(k,n)∈hb->k∉ks/\∃t cs,M.get k=some (.box t cs)/\cs.length=n
 | [],ks,_,k,n,h=>by cases h
 | (j,m)::l,ks,h,k,n,a=>by
  simp only[kQ] at h;split at h
  case h_2=>cases h
  rename_i t cs b f;split at h
  case h_2=>cases h
  rename_i d;rcases WZ.1 a with e | a
  ·simp only[Prod.mk.injEq] at e;obtain⟨rfl,rfl⟩:=e;exact⟨fun c=>(by rw[cH.2 c] at b;cases b),t,cs,f,br d⟩
  ·exact Bh h k n a
theorem G5 {hb:List (Nat×Nat)}{ks:List Nat}{L':Loc}(l:cO F L M) (h:kQ M ks hb=true) (a:∀k g t cs,k∉ks->L.get k=some (.box g t cs)->L'.get k=some (.box g t cs)):P6 hb L':=by
 intro k n f;obtain⟨e,t,cs,j,d⟩:=Bh h k n f;obtain⟨g,ty,vs,b,c,_⟩:=jQ l j;exact⟨g,ty,vs,a k g ty vs e b,by rw[c.len,d]⟩
theorem uS {ks ko:List Nat}{Lin:List TO}{Li:List Own}{R:List TO->C->Prop}{K:TL->aT->C->Prop}(ht:TS G F L ρ M τ)
  (h2:bE ks=true) (h3:bE ko=true) (h4:lg M ks ko=true) (h5:aQ Lin ks ko=true) (e1:L.sub ks=some Li) (e2:Li.length=Lin.length) (e3:∀(i:Nat) o p,Lin[i]?=some o->Li[i]?=some p->cN F L o p)
  (h7:∀v Mo,R Mo v->Wf v->(∀o∈Mo,o.Wf)->ko.length=Mo.length/\K (((M.Wg ks).kills (rowsOf M ks)).puts ko (Mo.map (TO.Wh (C.ren (aW ko))))) (eI (rowsOf M ks) τ) (v.ren (aW ko)).slt) :
  ∀v F' Lo,F.le F'->gk Li R F' Lo v->ko.length=Lo.length/\(∀k g t cs,k∈ks->L.get k=some (.box g t cs)->∃cs',Loc.get ((L.Wg ks).puts ko Lo) k=some (.box g t cs')) /\
   ∃M' ag c,TS G F' ((L.Wg ks).puts ko Lo) ρ M' ag/\aN F' ((L.Wg ks).puts ko Lo) c (.v v)/\K M' ag c:=by
 have hn:=cJ h2;have l:=cJ h3;have az:∀k,k∈ko->k∈ks\/L.get k=none:=fun k n=>(qp h4 k n).imp id fun e=>bT ht.tl e;have ar:=dW e1;rintro v F' Lo hF ⟨Mo,c,q1,q2,q3,q4,q5⟩;have av:∀o∈Mo,o.Wf:=by
  intro o w;obtain⟨i,hi⟩:=Xn.1 w;have d:i<Lo.length:=by rw[<-q1];exact(WX.1 hi).1
  have:=q2 (1000+i);rw[bZ,aS,j3 (by omega),j3 (by omega),show 1000+i-1000=i by omega,hi,yo d] at this;exact cN.wf this
 obtain⟨k1,k2⟩:=h7 c Mo q5 q3.wf av;have a:ko.length=Lo.length:=by rw[k1,q1]
 have b:∀k g t cs,k∈ks->L.get k=some (.box g t cs)->∃cs',Loc.get ((L.Wg ks).puts ko Lo) k=some (.box g t cs'):=by
  intro k g t cs n hg;obtain⟨i,hi⟩:=Xn.1 n;have q:Li[i]?=some (.box g t cs):=by rw[<-ar.2 i k hi];exact hg
  have d:i<Lin.length:=by rw[<-e2];exact(WX.1 q).1
  have hr:=e3 i _ _ (yo d) q;cases hL:Lin[i] with
  | row=>rw[hL] at hr;exact hr.elim
  | box t' cs' =>
   obtain⟨k',f,b2⟩:=wg h5 i t' cs' (by rw[yo d,hL]);rw[hi] at f;injection f with f
   subst f;obtain⟨u,r⟩:=q4 i g t cs q;exact⟨u,cB l a b2 r⟩
  | map es =>
   obtain⟨k',f,b2⟩:=dZ h5 i (.map es) (by rw[yo d,hL]) rfl;rw[hi] at f;injection f with f
   subst f;obtain⟨u,r⟩:=q4 i g t cs q;exact⟨u,cB l a b2 r⟩
  | win t0 p0 c0 q0 =>
   obtain⟨k',f,b2⟩:=dZ h5 i (.win t0 p0 c0 q0) (by rw[yo d,hL]) rfl;rw[hi] at f;injection f with f
   subst f;obtain⟨u,r⟩:=q4 i g t cs q;exact⟨u,cB l a b2 r⟩
 refine⟨a,b,?_⟩;generalize y:(L.Wg ks).puts ko Lo=L' at b
 -- what was there before
 have aa:∀k,k∉ks->∀o,L.get k=some o->L'.get k=some o:=by
  intro k n o w;rw[<-y];rcases cW ko Lo (L.Wg ks) k l a with⟨x,a2⟩ | ⟨i,x,a2,a3⟩
  ·rw[x,eX,vv n];exact w
  ·rcases az k (W5 x) with e | e
   ·exact vz e n
   ·rw[w] at e;cases e
 have z:Ext (mq (rowsOf M ks) L) L':=by
  intro k o w;obtain⟨g1,g2⟩:=oq w
  by_cases n:k∈ks
  ·obtain⟨g,t,cs,rfl⟩:=wh ht.tl n g1 g2;obtain⟨cs',h⟩:=b k g t cs n g1;exact⟨_,h,rfl,rfl⟩
  ·exact⟨o,aa k n o g1,Own.Wj o⟩
 have s:∀j m,aW ko j=some m->∀o,(inp Lo).get j=some o->L'.get m=some o:=by
  intro j m hj o w;obtain⟨x,a2⟩:=lJ hj;rw[aS,j3 x] at w;rw[<-y];exact cB l a a2 w
 refine⟨_,_,_,⟨fun k=>?_,fun j=>?_,fun k g t e=>?_,ht.glob.mono hF⟩,ji (q3.ren s),k2⟩
 ·rcases lI ko (Mo.map (TO.Wh (C.ren (aW ko)))) ((M.Wg ks).kills (rowsOf M ks)) k l (by simp[k1]) with⟨x,a2⟩ | ⟨i,x,a2,a3⟩
  ·have ad:L'.get k=(L.Wg ks).get k:=by
    rw[<-y];rcases cW ko Lo (L.Wg ks) k l a with⟨f,_⟩ | ⟨i,f,_,_⟩
    ·exact f
    ·exact vz (W5 f) a2
   rw[x,ad,vZ,nJ,eX];split
   ·trivial
   ·rcases dR (ht.tl k) with⟨c1,c2⟩ | ⟨o,p,c1,c2,hr⟩
    ·rw[c1,c2];trivial
    ·rw[c1,c2];exact(hr.kills (rowsOf M ks)).ext hF z
  ·rw[a2,XD];have d:i<Mo.length:=by simpa using a3
   have ab:i<Lo.length:=by omega
   have ad:L'.get k=some (Lo[i]):=by rw[<-y];exact cB l a x (yo ab)
   rw[ad,yo d];have:=q2 (1000+i);rw[bZ,aS,j3 (by omega),j3 (by omega),show 1000+i-1000=i by omega,yo d,yo ab] at this;exact cN.ren s this
 ·rw[v9];exact((ht.env j).kills (rowsOf M ks)).ext hF z
 ·obtain⟨cs,h⟩:=ht.kp k g t e
  by_cases n:k∈ks
  ·exact b k g t cs n h
  ·exact⟨cs,aa k n _ h⟩
theorem wj {PS:oV}{Pp:Value->Prop}{f:Nat}{args:List C}{vs:List Value}{ks ko:List Nat}{Lin:List TO}{R:List TO->C->Prop}{K:TL->aT->C->Prop}(a:TS G F L ρ M τ) (ha:aB F L args vs)
  (h1:M.sub ks=some Lin) (y:bE ks=true) (x:bE ko=true) (z:lg M ks ko=true) (h5:aQ Lin ks ko=true) (u:kQ M ks PS.hb=true)
  (h6:CallsTX P f (args.map fun c=>c.Wm.ren (cj ks 1000)) (Lin.map (TO.Wh (C.ren (cj ks 1000)))) R Pp) (r:∀v,Pp v->PS.ps v) (p:PS.st=none)
  (h7:∀v Mo,R Mo v->Wf v->(∀o∈Mo,o.Wf)->ko.length=Mo.length/\K (((M.Wg ks).kills (rowsOf M ks)).puts ko (Mo.map (TO.Wh (C.ren (aW ko))))) (eI (rowsOf M ks) τ) (v.ren (aW ko)).slt) :
  ∃Li,L.sub ks=some Li/\ks.Nodup/\ko.Nodup/\(∀k,k∈ko->k∈ks\/L.get k=none)/\sO P f vs.toArray F Li (gk Li R) Pp/\(∀v F' L',vI ks L L'->Pp v->xu G PS F' L' v) /\
  ∀v F' Lo,F.le F'->gk Li R F' Lo v->ko.length=Lo.length/\(∀k g t cs,k∈ks->L.get k=some (.box g t cs)->∃cs',Loc.get ((L.Wg ks).puts ko Lo) k=some (.box g t cs')) /\
   ∃M' d c,TS G F' ((L.Wg ks).puts ko Lo) ρ M' d/\aN F' ((L.Wg ks).puts ko Lo) c (.v v)/\K M' d c:=by
 obtain⟨Li,b,m,w⟩:=pR a.tl h1;have hn:=cJ y;have s:=cJ x;have n:∀k,k∈ko->k∈ks\/L.get k=none:=fun k l=>(qp z k l).imp id fun e=>bT a.tl e;have ac:=dW b;refine⟨Li,b,hn,s,n,h6.out F Li vs (by simp[m]) (rA a.tl m b w) ?_,fun v F' L' j hv=>⟨fun k g t e=>let⟨cs,h⟩:=a.kp k g t e;let⟨cs',h',_⟩:=j k g t cs h;⟨cs',h'⟩,r v hv,G5 a.tl u fun k g t cs l e=>let⟨cs',h',q⟩:=j k g t cs e;by rw[h',q l],G3.no p⟩,?_⟩
 ·exact ha.map fun c _ v hc=>(gU hc).ren (mO b)
 ·exact uS a y x z h5 b m w h7
theorem yH {PS:oV}{Pp:Value->Prop}{f:Nat}{args:List C}{vs:List Value}{ks ko:List Nat}{Lin:List TO}{R:List TO->C->Prop}{K:TL->aT->C->Prop}(ht:TS G F L ρ M τ) (p:aB F L args vs)
  (r:M.sub ks=some Lin) (x:bE ks=true) (m:bE ko=true) (y:lg M ks ko=true) (w:aQ Lin ks ko=true) (e:kQ M ks PS.hb=true)
  (k:CallsTX P f (args.map fun c=>c.Wm.ren (cj ks 1000)) (Lin.map (TO.Wh (C.ren (cj ks 1000)))) R Pp) (d:∀v,Pp v->PS.ps v) (b:PS.st=none)
  (q:∀v Mo,R Mo v->Wf v->(∀o∈Mo,o.Wf)->ko.length=Mo.length/\K (((M.Wg ks).kills (rowsOf M ks)).puts ko (Mo.map (TO.Wh (C.ren (aW ko))))) (eI (rowsOf M ks) τ) (v.ren (aW ko)).slt) :
  eG P (xu G PS) f vs F L (fun F' L' v=>∃M' a c,TS G F' L' ρ M' a/\aN F' L' c (.v v)/\K M' a c):=by
 obtain⟨Li,h,s,u,l,j,z,t⟩:=wj ht p r x m y w e k d b q;exact⟨ks,ko,Li,gk Li R,fun _ _=>Pp,h,s,u,l,j.toS,fun v F' Lo _ _ hb n=>z v F' _ hb n,t⟩
theorem ij:∀{Lin:List TO}{ks ko:List Nat},aQ Lin ks ko=true->aQ Lin ks ks=true
 | [],ks,ko,h=>by simp only[aQ]
 | .box t cs::l,[],ko,h=>by simp only[aQ] at h;cases h
 | .map es::l,[],ko,h=>by simp only[aQ] at h;cases h
 | .win ..::l,[],ko,h=>by simp only[aQ] at h;cases h
 | .row t sz els::l,[],ko,h=>by simp only[aQ] at h;cases h
 | .box t cs::l,k::ks,[],h=>by simp only[aQ] at h;cases h
 | .map es::l,k::ks,[],h=>by simp only[aQ] at h;cases h
 | .win ..::l,k::ks,[],h=>by simp only[aQ] at h;cases h
 | .box t cs::l,k::ks,a::ko,h=>by
  have e:Nat.beq k k=true:=by simp
  simp only[aQ] at h ⊢;split at h
  ·rw[e];exact ij h
  ·cases h
 | .map es::l,k::ks,a::ko,h=>by
  have e:Nat.beq k k=true:=by simp
  simp only[aQ] at h ⊢;split at h
  ·rw[e];exact ij h
  ·cases h
 | .win ..::l,k::ks,a::ko,h=>by
  have e:Nat.beq k k=true:=by simp
  simp only[aQ] at h ⊢;split at h
  ·rw[e];exact ij h
  ·cases h
 | .row t sz els::l,k::ks,[],h=>by
  simp only[aQ] at h ⊢;exact ij h
 | .row t sz els::l,k::ks,a::ko,h=>by
  simp only[aQ] at h ⊢;exact ij h
theorem CB {PS:oV}{Pp:Value->Prop}{f:Nat}{args:List C}{vs:List Value}{ks:List Nat}{Lin:List TO}{R:List TO->C->Prop}{K:TL->aT->C->Prop}(z:TS G F L ρ M τ) (ha:aB F L args vs)
  (h1:M.sub ks=some Lin) (h2:bE ks=true) (h6:kg P f (args.map fun c=>c.Wm.ren (cj ks 1000)) (Lin.map (TO.Wh (C.ren (cj ks 1000)))) R Pp) (ay:∀v,Pp v->PS.ps v) (ax:PS.st=none) (az:kQ M ks PS.hb=true)
  (h7:∀v Mo,R Mo v->Wf v->(∀o∈Mo,o.Wf)->ks.length=Mo.length/\K ((M.Wg ks).puts ks (Mo.map (TO.Wh (C.ren (aW ks))))) τ (v.ren (aW ks)).slt) :
  eG P (xu G PS) f vs F L (fun F' L' v=>∃M' ag c,TS G F' L' ρ M' ag/\aN F' L' c (.v v)/\K M' ag c):=by
 obtain⟨Li,e1,e2,e3⟩:=pR z.tl h1;have u:=cJ h2;have ae:=dW e1;refine⟨ks,ks,Li,_,fun _ _=>Pp,e1,u,u,fun k d=>.inl d,(h6.out F Li vs (by simp[e2]) (rA z.tl e2 e1 e3) ?_).toS,fun v F' Lo _ _ al hv=>⟨fun k g t e=>let⟨cs,h⟩:=z.kp k g t e;let⟨cs',h',_⟩:=al k g t cs h;⟨cs',h'⟩,ay v hv,G5 z.tl az fun k g t cs d e=>let⟨cs',h',q⟩:=al k g t cs e;by rw[h',q d],G3.no ax⟩,?_⟩
 ·exact ha.map fun c _ v hc=>(gU hc).ren (mO e1)
 ·rintro v F' Lo hF ⟨⟨Mo,c,q1,q2,q3,q4,q5⟩,bs,ap⟩;have aE:∀o∈Mo,o.Wf:=by
   intro o r;obtain⟨i,hi⟩:=Xn.1 r;have s:i<Lo.length:=by rw[<-q1];exact(WX.1 hi).1
   have:=q2 (1000+i);rw[bZ,aS,j3 (by omega),j3 (by omega),show 1000+i-1000=i by omega,hi,yo s] at this;exact cN.wf this
  obtain⟨k1,k2⟩:=h7 c Mo q5 q3.wf aE;have a:ks.length=Lo.length:=by rw[k1,q1]
  have b:∀k g t cs,k∈ks->L.get k=some (.box g t cs)->∃cs',Loc.get ((L.Wg ks).puts ks Lo) k=some (.box g t cs'):=by
   intro k g t cs d hg;obtain⟨i,hi⟩:=Xn.1 d;have ab:Li[i]?=some (.box g t cs):=by rw[<-ae.2 i k hi];exact hg
   obtain⟨av,ao⟩:=q4 i g t cs ab;exact⟨av,cB u a hi ao⟩
  refine⟨a,b,?_⟩;generalize n:(L.Wg ks).puts ks Lo=L' at b;have y:∀k,k∉ks->∀o,L.get k=some o->L'.get k=some o:=by
   intro k d o r;rw[<-n];rcases cW ks Lo (L.Wg ks) k u a with⟨w,a2⟩ | ⟨i,w,a2,a3⟩
   ·rw[w,eX,vv d];exact r
   ·exact vz (W5 w) d
  have x:Ext L L':=by
   intro k o r
   by_cases d:k∈ks
   ·obtain⟨i,hi⟩:=Xn.1 d;have ab:Li[i]?=some o:=by rw[<-ae.2 i k hi];exact r
    obtain⟨o',h1,h2⟩:=ap i o ab;exact⟨o',by rw[<-n];exact cB u a hi h1,h2⟩
   ·exact⟨o,y k d o r,Own.Wj o⟩
  have l:∀j m,aW ks j=some m->∀o,(inp Lo).get j=some o->L'.get m=some o:=by
   intro j m hj o r;obtain⟨w,a2⟩:=lJ hj;rw[aS,j3 w] at r;rw[<-n];exact cB u a a2 r
  refine⟨_,_,_,⟨fun k=>?_,fun j=>(z.env j).ext hF x,fun k g t e=>?_,z.glob.mono hF⟩,ji (q3.ren l),k2⟩
  ·rcases lI ks (Mo.map (TO.Wh (C.ren (aW ks)))) (M.Wg ks) k u (by simp[k1]) with⟨w,a2⟩ | ⟨i,w,a2,a3⟩
   ·have ad:L'.get k=(L.Wg ks).get k:=by
     rw[<-n];rcases cW ks Lo (L.Wg ks) k u a with⟨b1,_⟩ | ⟨i,b1,_,_⟩
     ·exact b1
     ·exact vz (W5 b1) a2
    rw[w,ad,nJ,eX];split
    ·trivial
    ·rcases dR (z.tl k) with⟨c1,c2⟩ | ⟨o,p,c1,c2,hr⟩
     ·rw[c1,c2];trivial
     ·rw[c1,c2];exact hr.ext hF x
   ·rw[a2,XD];have s:i<Mo.length:=by simpa using a3
    have aa:i<Lo.length:=by omega
    have ad:L'.get k=some (Lo[i]):=by rw[<-n];exact cB u a w (yo aa)
    rw[ad,yo s];have:=q2 (1000+i);rw[bZ,aS,j3 (by omega),j3 (by omega),show 1000+i-1000=i by omega,yo s,yo aa] at this;exact cN.ren l this
  ·obtain⟨cs,h⟩:=z.kp k g t e
   by_cases d:k∈ks
   ·exact b k g t cs d h
   ·exact⟨cs,y k d _ h⟩
theorem yI {ps:Value->Prop}{hb:List (Nat×Nat)}{st:TL->Value->Prop}{PS:oV}{Pp:List TO->Value->Prop}{f:Nat}{args:List C}{vs:List Value}{ks ko:List Nat}{Lin:List TO}{R:List TO->C->Prop}{K:TL->aT->C->Prop}(m:TS G F L ρ M τ) (ha:aB F L args vs)
  (ag:PS=⟨ps,hb,some st⟩) (h1:M.sub ks=some Lin) (l:bE ks=true) (h3:bE ko=true) (h4:lg M ks ko=true) (h5:aQ Lin ks ko=true) (al:kQ M ks hb=true)
  (h6:CallsTS P f (args.map fun c=>c.Wm.ren (cj ks 1000)) (Lin.map (TO.Wh (C.ren (cj ks 1000)))) R Pp)
  (ad:∀v Mo,Pp Mo v->(∀o∈Mo,o.Wf)->ks.length=Mo.length->ps v/\st (((M.Wg ks).kills (rowsOf M ks)).puts ks (Mo.map (TO.Wh (C.ren (aW ks))))) v)
  (h7:∀v Mo,R Mo v->Wf v->(∀o∈Mo,o.Wf)->ko.length=Mo.length/\K (((M.Wg ks).kills (rowsOf M ks)).puts ko (Mo.map (TO.Wh (C.ren (aW ko))))) (eI (rowsOf M ks) τ) (v.ren (aW ko)).slt) :
  eG P (xu G PS) f vs F L (fun F' L' v=>∃M' d c,TS G F' L' ρ M' d/\aN F' L' c (.v v)/\K M' d c):=by
 subst ag;obtain⟨Li,j,x,z⟩:=pR m.tl h1;have hn:=cJ l;have ae:=cJ h3;have ac:∀k,k∈ko->k∈ks\/L.get k=none:=fun k n=>(qp h4 k n).imp id fun e=>bT m.tl e;obtain⟨y,ab⟩:=dW j;refine⟨ks,ko,Li,gk Li R,_,j,hn,ae,ac,h6.out F Li vs (by simp[x]) (rA m.tl x j z) (ha.map fun c _ v hc=>(gU hc).ren (mO j)),?_,uS m l h3 h4 h5 j x z h7⟩;rintro v F' Lo hF r p ⟨Mo,q1,q2,q3⟩;have am:∀o∈Mo,o.Wf:=by
  intro o ho;obtain⟨i,hi⟩:=Xn.1 ho;have a:i<Lo.length:=by rw[<-q1];exact(WX.1 hi).1
  have:=q2 (1000+i);rw[bZ,aS,j3 (by omega),j3 (by omega),show 1000+i-1000=i by omega,hi,yo a] at this;exact cN.wf this
 obtain⟨p1,p2⟩:=ad v Mo q3 am (by omega);have u:gk Li (fun Mo' _=>Mo'=Mo) F' Lo undef:=by
  refine⟨Mo,.any,q1,q2,by simp only[Rel],fun i g t cs e=>?_,rfl⟩;have a:i<ks.length:=by rw[<-y];exact(WX.1 e).1
  have w:=ab i _ (yo a);rw[e] at w;obtain⟨cs',h,_⟩:=p _ g t cs w;have l:Loc.get ((L.Wg ks).puts ks Lo) ks[i]=Lo[i]?:=by
   have b:i<Lo.length:=by omega
   rw[yo b];exact cB hn r (yo a) (yo b)
  exact⟨cs',by rw[<-l];exact h⟩
 have aa:aQ Lin ks ks=true:=ij h5;obtain⟨_,_,M',d,c,t1,_,rfl⟩:=uS (K:=fun M' _ _=>M'=((M.Wg ks).kills (rowsOf M ks)).puts ks (Mo.map (TO.Wh (C.ren (aW ks))))) m l l (qt fun k n=>n) aa j x z
  (fun v' Mo' e _ _=>by subst e;exact⟨by omega,rfl⟩) undef F' Lo hF u
 exact⟨t1.kp,p1,G5 m.tl al fun k g t cs n e=>(let⟨cs',h',q⟩:=p k g t cs e;by rw[h',q n]),fun s e=>by injection e with e;subst e;exact⟨_,yG t1.tl,p2⟩⟩
theorem TS.same {L2:Loc}(a:TS G F L ρ M τ) (b:L.sameAs L2):TS G F L2 ρ M τ:=by
 have f:Ext L L2:=fun k o e=>⟨o,by rw[b k];exact e,Own.Wj o⟩;refine⟨fun k=>?_,fun j=>(a.env j).ext (aA.le_refl F) f,fun k g t e=>?_,a.glob⟩
 ·rcases dR (a.tl k) with⟨d,c⟩ | ⟨o,p,d,c,l⟩
  ·rw[b k,d,c];trivial
  ·rw[b k,d,c];exact l.ext (aA.le_refl F) f
 ·obtain⟨cs,h⟩:=a.kp k g t e;exact⟨cs,by rw[b k];exact h⟩
theorem wk:∀{ks a:List Nat},vR ks a=true->∀k∈ks,k∉a
 | [],a,_,k,h=>by cases h
 | j::ks,a,h,k,b=>by
  simp only[vR] at h;split at h
  ·cases h
  ·rename_i c;rcases WZ.1 b with rfl | b
   ·intro d;rw[cH.2 d] at c;cases c
   ·exact wk h k b
theorem ou {PS:oV}{q:List Nat}{f:Nat}{args:List C}{vs:List Value}{K:TL->aT->C->Prop}(ht:TS G F L ρ M τ) (ha:aB F L args vs) (h:mM P PS q f args M τ K) (j:PS.st=none) :
  CallXDPt P (xu G PS) q f vs F L (fun F' L' v=>∃M' b c,TS G F' L' ρ M' b/\aN F' L' c (.v v)/\K M' b c):=by
 obtain⟨ks,Lin,R,Pp,h1,s,h0,h5,m,h6,l,h7⟩:=h;have h4:lg M ks ks=true:=qt (fun k x=>x);obtain⟨Li,u,r,q3,q4,z,q6,q7⟩:=wj ht ha h1 s s h4 h5 m h6 l j h7;refine⟨ks,Li,gk Li R,fun _ _=>Pp,u,r,wk h0,z.toS,fun v F' L' Lo _ _ d hp=>q6 v F' L' d hp,fun v F' Lo y p=>?_⟩;obtain⟨n,a2,M',b,c,a3,a4,a5⟩:=q7 v F' Lo y p;have a:=lH (L:=L) r n;refine⟨n,fun i g t cs e=>?_,fun _=>⟨M',b,c,a3.same a,a4.ext (aA.le_refl F') fun k o e=>⟨o,by rw[a k];exact e,Own.Wj o⟩,a5⟩⟩;obtain⟨Mo,c',_,_,_,w,_⟩:=p;exact w i g t cs e
theorem pT {ps:Value->Prop}{hb:List (Nat×Nat)}{st:TL->Value->Prop}{PS:oV}{fb:List Nat}{f:Nat}{args:List C}{vs:List Value}{K:TL->aT->C->Prop}(u:TS G F L ρ M τ) (ha:aB F L args vs) (ag:PS=⟨ps,hb,some st⟩) (h:uP P ps hb st fb f args M τ K) :
  CallXDPt P (xu G PS) fb f vs F L (fun F' L' v=>∃M' l c,TS G F' L' ρ M' l/\aN F' L' c (.v v)/\K M' l c):=by
 subst ag;obtain⟨ks,Lin,R,Pp,h1,h2,h0,h5,al,h6,ae,h7⟩:=h;have h4:lg M ks ks=true:=qt (fun k a=>a);obtain⟨Li,x,e2,e3⟩:=pR u.tl h1;have hn:=cJ h2;obtain⟨bj,bc⟩:=dW x;refine⟨ks,Li,gk Li R,_,x,hn,wk h0,h6.out F Li vs (by simp[e2]) (rA u.tl e2 x e3) (ha.map fun c _ v hc=>(gU hc).ren (mO x)),?_,fun v F' Lo hF hR=>?_⟩
 ·rintro v F' L' Lo hF ad y ⟨Mo,q1,q2,q3⟩;have am:∀o∈Mo,o.Wf:=by
   intro o z;obtain⟨i,hi⟩:=Xn.1 z;have d:i<Lo.length:=by rw[<-q1];exact(WX.1 hi).1
   have:=q2 (1000+i);rw[bZ,aS,j3 (by omega),j3 (by omega),show 1000+i-1000=i by omega,hi,yo d] at this;exact cN.wf this
  obtain⟨y1,y2⟩:=dW ad;obtain⟨p1,p2⟩:=ae v Mo q3 am (by omega);have r:∀j m,aW ks j=some m->∀o,(inp Lo).get j=some o->L'.get m=some o:=by
   intro j m hj o z;obtain⟨p,w⟩:=lJ hj;rw[aS,j3 p] at z;rw[y2 _ _ w];exact z
  refine⟨fun k g t e=>let⟨cs,h⟩:=u.kp k g t e;let⟨cs',h',_⟩:=y k g t cs h;⟨cs',h'⟩,p1,G5 u.tl al fun k g t cs a e=>(let⟨cs',h',q⟩:=y k g t cs e;by rw[h',q a]),fun s e=>?_⟩;injection e with e
  subst e;refine⟨_,fun k o a=>?_,p2⟩;rcases lI ks (Mo.map (TO.Wh (C.ren (aW ks)))) [] k hn (by simp;omega) with⟨p,w⟩ | ⟨i,p,w,a3⟩
  ·rw[p] at a;cases a
  ·rw[w,XD] at a;have d:i<Mo.length:=by simpa using a3
   have n:i<Lo.length:=by omega
   rw[yo d] at a;injection a with a
   subst a;refine⟨Lo[i],by rw[y2 _ _ p];exact yo n,?_⟩;have:=q2 (1000+i);rw[bZ,aS,j3 (by omega),j3 (by omega),show 1000+i-1000=i by omega,yo d,yo n] at this;exact cN.ren r this
 ·obtain⟨p,w,M',l,c,a3,a4,a5⟩:=uS u h2 h2 h4 h5 x e2 e3 h7 v F' Lo hF hR;have b:=lH (L:=L) hn p;refine⟨p,fun i g t cs e=>?_,fun _=>⟨M',l,c,a3.same b,a4.ext (aA.le_refl F') fun k o e=>⟨o,by rw[b k];exact e,Own.Wj o⟩,a5⟩⟩;obtain⟨Mo,c',_,_,_,b4,_⟩:=hR;exact b4 i g t cs e
end
section
variable {P:Program}{G:Nat->Option (Nat×TypeId)}{F:aA}{L:Loc}{ρ:Env}{M:TL}{τ:aT}{a:Act}{w:World}
theorem Bj {F':aA}(l:F.le F') {k:Nat}{a:Option Addr}{c:Nat}{t sz:Nat}{els:List (List C)}{xs:List Value}(n:L.get k=some (.row (.slice a els.length c) t sz els.length xs))
  (s:Rel F' (L.del k) (.sl els) (.slice a els.length c)):(∀d v,C.leaf d=true->Rel F L d v->Rel F' (L.del k) (mL k els d) v)/\(∀d sv,C.leaf d=true->aN F L d sv->aN F' (L.del k) (mL k els d) sv):=by
 have m:∀j,j≠k->∀o,L.get j=some o->∃o',(L.del k).get j=some o'/\Own.like o o':=fun j f o u=>⟨o,by rw[Loc.Wk,vv f];exact u,Own.Wj o⟩;have b:∀g t cs,L.get k≠some (.box g t cs):=fun g t cs h=>by rw[n] at h;injection h with h;cases h
 constructor
 ·intro d v q h;cases d<;>simp only[C.leaf,W9] at q
  case rw j =>
   simp only[mL];cases f:Nat.beq j k with
   | true =>
    have:=xo f;subst this;simp only[Rel] at h;obtain⟨y,x,z,p,n',r,rfl,h⟩:=h;rw[n] at h;injection h with h
    injection h with q1 q2 q3 q4 q5
    rw[<-q1];exact s
   | false =>
    have:=jU b m l (.rw j) v rfl h;simpa only[fS,f] using this
  all_goals
   have:=jU b m l _ v rfl h;simpa only[fS,mL] using this
 ·intro d sv q h;cases d<;>simp only[C.leaf,W9] at q
  case rw j =>
   simp only[mL];cases f:Nat.beq j k with
   | true =>
    have:=xo f;subst this;simp only[aN,Rel] at h;obtain⟨v,e,y,x,z,p,n',r,rfl,h⟩:=h;rw[n] at h;injection h with h
    injection h with q1 q2 q3 q4 q5
    rw[<-q1] at e;exact⟨_,e,s⟩
   | false =>
    have:=oh b m l (.rw j) sv rfl h;simpa only[fS,f] using this
  all_goals
   have:=oh b m l _ sv rfl h;simpa only[fS,mL] using this
theorem cN.frz {F':aA}(b:F.le F') {k:Nat}{els:List (List C)}(j:∀d v,C.leaf d=true->Rel F L d v->Rel F' (L.del k) (mL k els d) v):∀{o:TO}{p:Own},cN F L o p->cN F' (L.del k) (o.Wh (C.frz k els)) p
 | .box t cs,.box g f vs,r=>⟨r.1,r.2.map fun c _ v h=>Rel.mp j 3 h⟩
 | .row t sz els,.row v f m n xs,r=>⟨r.1,r.2.1,r.2.2.1,r.2.2.2.1,r.2.2.2.2.mono b⟩
 | .box _ _,.row ..,r=>r.elim
 | .row ..,.box ..,r=>r.elim
 | .map _,.row ..,r=>r.elim
 | .map es,.box g f vs,r=>⟨r.1,r.2.mono b⟩
 | .win ..,.row ..,r=>r.elim
 | .win ..,.box ..,⟨l,v1,s,v3,e,u,x,q⟩=>⟨l,v1,s,v3,e,u.mono b,x.map fun c _ v h=>Rel.mp j 3 h,q.mono b⟩
theorem wm {k:Nat}{t sz:Nat}{els:List (List C)}(hs:St F L w) (he:aC L ρ a) (n:TS G F L ρ M τ) (z:M.get k=some (.row t sz els)) :
  ∃F' L',St F' L' w/\aC L' ρ a/\Step F L w F' L' w/\TS G F' L' ρ ((M.del k).Wh (C.frz k els)) (fun j=>(τ j).frz k els)/\(∀{c v},Rel F L c v->Rel F' L' (c.frz k els) v):=by
 obtain⟨v,xs,s,⟨hm,u,cv,rfl,y⟩,hr⟩:=jT n.tl z;obtain⟨F',L',g1,g2,g3,f,b,rfl⟩:=nB (KK:=fun F' L'=>F.le F'/\FQ F' (.slice u els.length cv) sz els.length xs/\L'=L.del k) hs he ⟨_,_,_,_,_,s,fun F' f b=>⟨f,b,rfl⟩⟩;have m:Rel F' (L.del k) (.sl els) (.slice u els.length cv):=by
  simp only[Rel];rcases b with⟨d,l,x⟩ | ⟨ad,c2,d,l,x⟩
  ·injection d with q1 q2 q3
   have:els=[]:=List.length_eq_zero_iff.1 q2;subst this;exact⟨u,cv,rfl,by simp,by simp,fun _=>⟨rfl,q3⟩,sz,by simp only[fE]⟩
  ·injection d with q1 q2 q3
   subst q1 q3;exact⟨some ad,cv,rfl,x,hm,fun e=>(by cases e),sz,(hr.mono f).frz l⟩
 obtain⟨q,l2⟩:=Bj f s m;refine⟨F',L.del k,g1,g2,g3,⟨fun j=>?_,fun j=>aN.mp q l2 3 (n.env j),fun j g t e=>?_,n.glob.mono f⟩,fun h=>Rel.mp q 3 h⟩
 ·rw[pQ,TL.Wk,Loc.Wk];split
  ·trivial
  ·rcases dR (n.tl j) with⟨d,l⟩ | ⟨o,p,d,l,r⟩
   ·rw[d,l];trivial
   ·rw[d,l];exact r.frz f q
 ·obtain⟨cs,h⟩:=n.kp j g t e;exact⟨cs,by rw[Loc.Wk,vv (by rintro rfl;rw[s] at h;injection h with h;cases h)];exact h⟩
def wo (k g:Nat):SV->SV
 | .own b off=>match Nat.beq b k with | true=>.v (.pointer (some ⟨g,off,none⟩)) | false=>.own b off
 | .v x=>.v x
 | .el a i=>.el a i
theorem G6 {F':aA}(q:F.le F') {k g:Nat}{t:TypeId}{vs:List Value}{es:List C}(u:L.get k=some (.box g t vs)) (hg:F' g=some (.cells vs.toArray t (0,0))) (z:dm es=true) (y:aB F' [] es vs) :
  (∀d v,C.leaf d=true->Rel F L d v->Rel F' (L.del k) (qm k es d) v)/\(∀d sv,C.leaf d=true->aN F L d sv->aN F' (L.del k) (qm k es d) (wo k g sv)):=by
 have r:∀j,j≠k->∀o,L.get j=some o->∃o',(L.del k).get j=some o'/\Own.like o o':=fun j f o ho=>⟨o,by rw[Loc.Wk,vv f];exact ho,Own.Wj o⟩;have l:∀o,Jj F' g o o vs:=fun o=>⟨0,_,t,(0,0),hg,by omega,fun i v hi=>⟨by simpa using hi,rL _⟩⟩;constructor
 ·intro d v hc h;cases d<;>simp only[C.leaf,W9] at hc<;>simp only[qm]
  case own j off =>
   cases f:Nat.beq j k with
   | true =>
    have:=xo f;subst this;simp only[Rel] at h ⊢;obtain⟨g',t',cs,e,rfl⟩:=h;rw[u] at e;injection e with e
    injection e with e1 e2 e3
    subst e1;exact⟨_,_,vs,rfl,l off,z,y⟩
   | false=>exact bq q (fun s e=>by
     rcases e with⟨off,e⟩ | e | e | ⟨_,_,_,e⟩ | ⟨_,_,e⟩
     ·injection e with e;subst e;exact r j (eV f)
     ·cases e
     ·cases e
     ·cases e
     ·cases e) rfl h
  case ifo m ti j off =>
   cases f:Nat.beq j k with
   | true =>
    have:=xo f;subst this;simp only[Rel] at h;obtain⟨g',t',cs,e,rfl⟩:=h;rw[u] at e;injection e with e
    injection e with e1 e2 e3
    subst e1;cases m with
    | none=>simp only[Rel];exact⟨_,rfl,_,_,vs,rfl,l off,z,y⟩
    | some nm=>simp only[Rel];exact⟨_,rfl,_,rfl,_,_,vs,rfl,l off,z,y⟩
   | false=>exact bq q (fun s e=>by
     rcases e with⟨off,e⟩ | e | e | ⟨_,_,_,e⟩ | ⟨_,_,e⟩
     ·cases e
     ·cases e
     ·cases e
     ·injection e with _ _ e;subst e;exact r j (eV f)
     ·cases e) rfl h
  case rw j =>
   refine bq q (fun s e=>?_) rfl h;rcases e with⟨off,e⟩ | e | e | ⟨_,_,_,e⟩ | ⟨_,_,e⟩
   ·cases e
   ·injection e with e
    subst e;refine r j ?_;rintro rfl;simp only[Rel] at h;obtain⟨a',c',t',ag,n',an,rfl,h⟩:=h;rw[u] at h;injection h with h
    cases h
   ·cases e
   ·cases e
   ·cases e
  case mpr j =>
   cases f:Nat.beq j k with
   | true=>simp only[Rel]
   | false=>exact bq q (fun s e=>by
     rcases e with⟨off,e⟩ | e | e | ⟨_,_,_,e⟩ | ⟨_,_,e⟩
     ·cases e
     ·cases e
     ·injection e with e;subst e;exact r j (eV f)
     ·cases e
     ·cases e) rfl h
  case ownv=>exact h.elim
  case elr j a b =>
   refine bq q (fun s e=>?_) rfl h;rcases e with⟨off,e⟩ | e | e | ⟨_,_,_,e⟩ | ⟨_,_,e⟩<;>first | cases e;done | skip
   injection e with e
   subst e;refine r j ?_;rintro rfl;simp only[Rel] at h;obtain⟨ad,t,sz,n,c,xs,_,h⟩:=h;rw[u] at h;injection h with h
   cases h
  case slo j a =>
   cases f:Nat.beq j k with
   | true=>simp only[Rel]
   | false=>exact qo q (r j (eV f)) h
  case slp=>exact h.elim
  all_goals
   exact bq q (fun s e=>by rcases e with⟨off,e⟩ | e | e | ⟨_,_,_,e⟩ | ⟨_,_,e⟩<;>cases e) rfl h
 ·intro d sv hc h;have keep:∀{c:C},(∀j off,c≠.own j off)->c.leaf=true->c≠.any->aN F L c sv->wo k g sv=sv:=by
   intro c av hl ar hv;cases sv with
   | v x=>rfl
   | el a i=>rfl
   | own k' off =>
    exfalso;cases c<;>simp only[C.leaf,W9] at hl<;>first
     | exact av _ _ rfl
     | exact ar rfl
     | (obtain⟨v,e,_⟩:=hv;cases e;done)
     | (obtain⟨b,o,j,us,e | e,_⟩:=hv
        ·cases e.1
        ·cases e)
     | (obtain⟨ad,t,sz,n,c,xs,e,_⟩:=hv;cases e;done)
     | (obtain⟨_,_,_,_,_,e,_⟩:=hv;cases e;done)
     | (obtain⟨v,e | ⟨b,o,j,e,_⟩,_⟩:=hv
        ·cases e
        ·cases e)
  cases d<;>simp only[C.leaf,W9] at hc<;>simp only[qm]
  case any=>trivial
  case own j off =>
   obtain⟨rfl,g',t',cs,e⟩:=h;simp only[wo];cases f:Nat.beq j k with
   | true =>
    have:=xo f;subst this;exact⟨g,off,0,vs,.inl ⟨rfl,rfl⟩,l off,z,y⟩
   | false =>
    obtain⟨o',q1,q2⟩:=r j (eV f) _ e;cases o' with
    | row=>exact q2.elim
    | box g2 t2 ap=>exact⟨rfl,g2,t2,ap,q1⟩
  case ownv j off =>
   rw[keep (c:=.ownv j off) (fun _ _ e=>by cases e) rfl (fun e=>by cases e) h];cases f:Nat.beq j k with
   | true =>
    have:=xo f;subst this;obtain⟨v,al,p⟩:=h;simp only[Rel] at p;obtain⟨g',t',cs,e,rfl⟩:=p;rw[u] at e;injection e with e
    injection e with e1 e2 e3
    subst e1;rcases al with rfl | ⟨b,o,i,rfl,e⟩
    ·exact⟨g,off,0,vs,.inl ⟨rfl,rfl⟩,l off,z,y⟩
    ·injection e with e
     injection e with e
     injection e with q1 q2 q3
     subst q1 q2;exact⟨g,o,i,vs,.inr rfl,l (o+i),z,y⟩
   | false =>
    refine cK q (fun s e=>?_) rfl h;rcases e with⟨off,e⟩ | ⟨off,e⟩ | e | ⟨a,b,e⟩ | e | ⟨_,_,_,e⟩<;>first | cases e;done | skip
    injection e with e
    subst e;exact r j (eV f)
  case ifo m ti j off =>
   rw[keep (c:=.ifo m ti j off) (fun _ _ e=>by cases e) rfl (fun e=>by cases e) h];cases f:Nat.beq j k with
   | true =>
    have:=xo f;subst this;obtain⟨v,rfl,p⟩:=h;simp only[Rel] at p;obtain⟨g',t',cs,e,rfl⟩:=p;rw[u] at e;injection e with e
    injection e with e1 e2 e3
    subst e1;cases m with
    | none=>exact⟨_,rfl,by simp only[Rel];exact⟨_,rfl,_,_,vs,rfl,l off,z,y⟩⟩
    | some nm=>exact⟨_,rfl,by simp only[Rel];exact⟨_,rfl,_,rfl,_,_,vs,rfl,l off,z,y⟩⟩
   | false =>
    refine cK q (fun s e=>?_) rfl h;rcases e with⟨off,e⟩ | ⟨off,e⟩ | e | ⟨a,b,e⟩ | e | ⟨_,_,_,e⟩<;>first | cases e;done | skip
    injection e with _ _ e
    subst e;exact r j (eV f)
  case rw j =>
   rw[keep (c:=.rw j) (fun _ _ e=>by cases e) rfl (fun e=>by cases e) h];refine cK q (fun s e=>?_) rfl h;rcases e with⟨off,e⟩ | ⟨off,e⟩ | e | ⟨a,b,e⟩ | e | ⟨_,_,_,e⟩<;>first | cases e;done | skip
   injection e with e
   subst e;refine r j ?_;rintro rfl;obtain⟨v,_,p⟩:=h;simp only[Rel] at p;obtain⟨a',c',t',ag,n',an,rfl,h⟩:=p;rw[u] at h;injection h with h
   cases h
  case elr j a b =>
   rw[keep (c:=.elr j a b) (fun _ _ e=>by cases e) rfl (fun e=>by cases e) h];refine cK q (fun s e=>?_) rfl h;rcases e with⟨off,e⟩ | ⟨off,e⟩ | e | ⟨a,b,e⟩ | e | ⟨_,_,_,e⟩<;>first | cases e;done | skip
   injection e with e
   subst e;refine r j ?_;rintro rfl;obtain⟨ad,t,sz,n,c,xs,_,h⟩:=h;rw[u] at h;injection h with h
   cases h
  case mpr j =>
   rw[keep (c:=.mpr j) (fun _ _ e=>by cases e) rfl (fun e=>by cases e) h];cases f:Nat.beq j k with
   | true=>trivial
   | false =>
    refine cK q (fun s e=>?_) rfl h;rcases e with⟨off,e⟩ | ⟨off,e⟩ | e | ⟨a,b,e⟩ | e | ⟨_,_,_,e⟩<;>first | cases e;done | skip
    injection e with e
    subst e;exact r j (eV f)
  case slo j a =>
   rw[keep (c:=.slo j a) (fun _ _ e=>by cases e) rfl (fun e=>by cases e) h];cases f:Nat.beq j k with
   | true=>trivial
   | false=>exact rZ q (r j (eV f)) h
  case slp=>trivial
  all_goals
   rw[keep (fun _ _ e=>by cases e) rfl (fun e=>by cases e) h];exact cK q (fun s e=>by rcases e with⟨off,e⟩ | ⟨off,e⟩ | e | ⟨a,b,e⟩ | e | ⟨_,_,_,e⟩<;>cases e) rfl h
theorem G7 (k g:Nat) (ρ:Env) (j:Nat):vk k g ρ j=wo k g (ρ j):=by
 simp only[vk,wo];cases ρ j<;>rfl
theorem CC {k:Nat}{t:TypeId}{cs:List C}(hs:St F L w) (he:aC L ρ a) (l:TS G F L ρ M τ) (hk:M.get k=some (.box t cs)) (y:dm cs=true) (h2:dF cs=true) (hG:G k=none) :
  ∃F' L' ρ',St F' L' w/\aC L' ρ' a/\Step F L w F' L' w/\TS G F' L' ρ' ((M.del k).Wh (C.frb k cs)) (fun j=>(τ j).frb k cs):=by
 obtain⟨g,ty,vs,hL,hr,r⟩:=jQ l.tl hk;obtain⟨F',d,hg,g1,g2,g3⟩:=qV hs he hL;rw[gD r.2.2] at hg;obtain⟨u,l2⟩:=G6 (F:=F) d hL hg y ((dU h2 hr).mono d);refine⟨F',L.del k,_,g1,g2,g3,⟨fun j=>?_,fun j=>?_,fun j g t e=>?_,l.glob.mono d⟩⟩
 ·rw[pQ,TL.Wk,Loc.Wk];split
  ·trivial
  ·rcases dR (l.tl j) with⟨s,q⟩ | ⟨o,p,s,q,b⟩
   ·rw[s,q];trivial
   ·rw[s,q];cases o with
    | row t sz els =>
     cases p with
     | box=>exact b.elim
     | row v x am n xs=>exact⟨b.1,b.2.1,b.2.2.1,b.2.2.2.1,b.2.2.2.2.mono d⟩
    | box t cs =>
     cases p with
     | row=>exact b.elim
     | box g x us=>exact⟨b.1,b.2.map fun c _ v h=>Rel.mp u 3 h⟩
    | map es =>
     cases p with
     | row=>exact b.elim
     | box g x us=>exact⟨b.1,b.2.mono d⟩
    | win t pre cs post =>
     cases p with
     | row=>exact b.elim
     | box g x us =>
      obtain⟨r1,v1,v2,v3,e,y,h2,h3⟩:=b;exact⟨r1,v1,v2,v3,e,y.mono d,h2.map fun c _ v h=>Rel.mp u 3 h,h3.mono d⟩
 ·rw[G7];have m:=l.env j;cases f:(τ j).leaf with
  | true =>
   have e:(τ j).frb k cs=qm k cs (τ j):=uO f;simp only[e];exact l2 _ _ f m
  | false =>
   generalize ρ j=sv at m;generalize τ j=c at f m;have h':∃v,sv=.v v/\Rel F L c v:=by
    cases c<;>first | exact m | cases f
   obtain⟨v,rfl,hv⟩:=h';have z:Rel F' (L.del k) (c.frb k cs) v:=Rel.mp u 3 hv;cases c<;>first | exact⟨v,rfl,z⟩ | cases f
 ·obtain⟨cs,h⟩:=l.kp j g t e;exact⟨cs,by rw[Loc.Wk,vv (by rintro rfl;rw[hG] at e;cases e)];exact h⟩
theorem ow:∀{o:List Nat}{F:aA}{L:Loc}{M:TL}{τ:aT}{args:List C}{vs:List Value}{K:TL->aT->List C->Prop},St F L w->aC L ρ a->TS G F L ρ M τ->aB F L args vs->vP o M τ args K ->
  ∃F' L' M' e b,St F' L' w/\aC L' ρ a/\Step F L w F' L' w/\TS G F' L' ρ M' e/\aB F' L' b vs/\K M' e b
 | [],F,L,M,τ,args,vs,K,j,m,n,l,h=>⟨F,L,M,τ,args,j,m,Step.refl _ _ _,n,l,h⟩
 | k::o,F,L,M,τ,args,vs,K,j,m,n,l,h=>by
  simp only[vP] at h;split at h
  case h_2=>exact h.elim
  rename_i t sz els q;obtain⟨F1,L1,z,s,g3,g4,g5⟩:=wm j m n q;obtain⟨F2,L2,M2,f,d,k1,x,u,p,k5,r⟩:=ow z s g4 (l.map fun c _ v y=>g5 y) h;exact⟨F2,L2,M2,f,d,k1,x,g3.trans u,p,k5,r⟩
def uf (L:Loc):TL->Loc
 | []=>[]
 | (k,o)::l=>(k,match L.get k with
  | some p=>p
  | none=>match o with
   | .row t sz _=>.row (.slice none 0 0) t sz 0 []
   | .box _ _=>.row (.slice none 0 0) 0 0 0 []
   | .map _=>.row (.slice none 0 0) 0 0 0 []
   | .win _ _ _ _=>.row (.slice none 0 0) 0 0 0 [])::uf L l
theorem jo:∀(M1:TL) (k:Nat),(uf L M1).get k=match M1.get k with
  | some o=>some (match L.get k with | some p=>p | none=>match o with | .row t sz _=>.row (.slice none 0 0) t sz 0 [] | .box _ _=>.row (.slice none 0 0) 0 0 0 [] | .map _=>.row (.slice none 0 0) 0 0 0 [] | .win _ _ _ _=>.row (.slice none 0 0) 0 0 0 [])
  | none=>none
 | [],k=>rfl
 | (j,o)::l,k=>by
  simp only[uf,Loc.get,TL.get];cases h:Nat.beq j k with
  | true=>have:=xo h;subst this;rfl
  | false=>exact jo l k
theorem Bk:∀{l:TL}{M1:TL},gives M M1 l->∀{k o},l.get k=some o->(∃p,M.get k=some p/\P1 M M1 p o)\/(M.get k=none/\∃t sz,o=.row t sz [])
 | [],M1,h,k,o,e=>by cases e
 | (j,p)::l,M1,h,k,o,e=>by
  simp only[gives] at h;simp only[TL.get] at e;split at e
  ·rename_i b;have:=xo b;subst this;injection e with e
   subst e;exact h.1
  ·exact Bk h.2 e
theorem tD (c:cO F L M) {M1:TL}:∀{l:TL},gives M M1 l->L.gives (uf L l)
 | [],h=>trivial
 | (j,p)::l,h=>by
  simp only[gives] at h;refine⟨?_,tD c h.2⟩;rcases h.1 with⟨q,b,f⟩ | ⟨b,t,sz,rfl⟩
  ·rcases dR (c j) with⟨e,d⟩ | ⟨o,k,e,d,m⟩
   ·rw[e] at b;cases b
   ·simp only[d];exact .inl trivial
  ·have:=bT c b;simp only[this];exact .inr ⟨trivial,t,sz,rfl⟩
theorem pU {L':Loc}{M1:TL}(y:∀k o,M1.get k≠none->L.get k=some o->L'.get k=some o):∀(n:Nat) {c:C}{v:Value},eZ M1 n c=true->Rel F L c v->Rel F L' c v:=by
 have l:∀{c:C}{v:Value},c.leaf=true->lf M1 c=true->Rel F L c v->Rel F L' c v:=by
  intro c v f b h
  by_cases p:∃k d,c=.slo k d
  ·obtain⟨k,d,rfl⟩:=p;refine qo (aA.le_refl F) (fun o s=>⟨o,y k o ?_ s,Own.Wj o⟩) h;simp only[lf] at b;intro e;rw[e] at b;cases b
  refine bq (aA.le_refl F) (fun k e o s=>⟨o,y k o ?_ s,Own.Wj o⟩) f h (fun k d e=>p ⟨k,d,e⟩);rcases e with⟨off,rfl⟩ | rfl | rfl | ⟨m,t,off,rfl⟩ | ⟨j,off,rfl⟩
  ·simp only[lf] at b;intro e;rw[e] at b;cases b
  ·simp only[lf] at b;intro e;rw[e] at b;cases b
  ·simp only[lf] at b;intro e;rw[e] at b;cases b
  ·simp only[lf] at b;intro e;rw[e] at b;cases b
  ·simp only[lf,W9] at b
 intro n
 induction n with
 | zero =>
  intro c v b h;cases f:c.leaf
  ·cases c<;>simp only[C.leaf,Bool.true_eq_false] at f<;>simp only[eZ,W9] at b
  ·refine l f ?_ h;cases c<;>simp only[C.leaf,W9] at f<;>simpa only[eZ] using b
 | succ n ih =>
  intro c v b h;have all:∀{cs:List C}{vs:List Value},cs.all (eZ M1 n)=true->aB F L cs vs->aB F L' cs vs:=by
   intro cs vs q r;have:=r.map (g:=id) (F':=F) (L':=L') (fun c f v hv=>ih (Xb.1 q c f) hv);simpa using this
  cases f:c.leaf
  ·cases c<;>simp only[C.leaf,Bool.true_eq_false] at f<;>simp only[eZ,WY] at b<;>simp only[Rel] at h ⊢
   ·obtain⟨u,x,q,r,z⟩:=h;exact⟨u,x,q,all b.1 r,all b.2 z⟩
   ·obtain⟨vs,q,r⟩:=h;exact⟨vs,q,all b r⟩
   ·obtain⟨vs,q,r⟩:=h;exact⟨vs,q,all b r⟩
  ·refine l f ?_ h;cases c<;>simp only[C.leaf,W9] at f<;>simpa only[eZ] using b
theorem qu (m:cO F L M) {M1:TL}{c j:C}{v:Value}(h:Im M M1 c j) (b:Rel F L c v):Rel F (uf L M1) j v:=by
 rcases h with rfl | ⟨rfl,l⟩ | ⟨rfl,rfl⟩ | ⟨rfl,k,t,sz,rfl,d,f⟩ | ⟨els,rfl,rfl⟩
 ·simp only[Rel]
 ·refine pU (fun k o d f=>?_) 3 l b;rw[jo];cases e:M1.get k with
  | none=>exact vz e d
  | some q=>simp only[f]
 ·exact sn (c:=.nils) (by simpa only[Rel] using b)
 ·simp only[Rel] at b ⊢;subst b;refine⟨none,0,t,sz,0,[],rfl,?_⟩;rw[jo,f];simp only[bT m d]
 ·simpa only[Rel] using tv b
theorem Bl (j:cO F L M) {M1:TL}:∀{cs cs':List C}{vs:List Value},GD M M1 cs cs'->aB F L cs vs->aB F (uf L M1) cs' vs
 | [],cs',vs,h,b=>by simp only[GD] at h;subst h;simpa only[aB] using b
 | c::cs,cs',vs,h,b=>by
  simp only[GD] at h;obtain⟨n,m,rfl,k,l⟩:=h;simp only[aB] at b ⊢;obtain⟨v,e,rfl,f,d⟩:=b;exact⟨v,e,rfl,qu j k f,Bl j l d⟩
theorem JA (x:cO F L M) {M1:TL}{o o':TO}{p:Own}(h:P1 M M1 o o') (b:cN F L o p):cN F (uf L M1) o' p:=by
 rcases h with⟨rfl,j⟩ | ⟨t,cs,cs',rfl,rfl,h⟩
 ·cases o with
  | row t sz els=>cases p with
   | row=>exact b
   | box=>exact b.elim
  | map es=>cases p with
   | row=>exact b.elim
   | box=>exact b
  | win t pre cs post=>cases p with
   | row=>exact b.elim
   | box g n vs =>
    simp only[GF] at j;obtain⟨r,v1,u,v3,e,d,f,s⟩:=b;have:=f.map (g:=id) (F':=F) (L':=uf L M1) (fun c m v l=>pU (fun k o d f=>by
     rw[jo];cases e:M1.get k with
     | none=>exact vz e d
     | some q=>simp only[f]) 3 (Xb.1 j c m) l)
    exact⟨r,v1,u,v3,e,d,by simpa using this,s⟩
  | box t cs=>cases p with
   | row=>exact b.elim
   | box g n vs =>
    simp only[GF] at j;refine⟨b.1,?_⟩;have:=b.2.map (g:=id) (F':=F) (L':=uf L M1) (fun c m v l=>pU (fun k o d f=>by
     rw[jo];cases e:M1.get k with
     | none=>exact vz e d
     | some q=>simp only[f]) 3 (Xb.1 j c m) l)
    simpa using this
 ·cases p with
  | row=>exact b.elim
  | box g n vs=>exact⟨b.1,Bl x h b.2⟩
theorem sA (d:cO F L M) {M1:TL}(h:gives M M1 M1):cO F (uf L M1) M1:=by
 intro k;rw[jo];cases e:M1.get k with
 | none=>trivial
 | some o =>
  rcases Bk h e with⟨q,b,j⟩ | ⟨b,t,sz,rfl⟩
  ·rcases dR (d k) with⟨c,f⟩ | ⟨m,p,c,f,l⟩
   ·rw[c] at b;cases b
   ·rw[c] at b;injection b with b
    subst b;simp only[f];exact JA d j l
  ·simp only[bT d b];exact⟨rfl,rfl,rfl,⟨by simp,none,0,rfl,fun _=>rfl⟩,by simp only[aL]⟩
theorem sB (c:St F L w) (b:cO F L M) {M1:TL}(h:gives M M1 M1):St F (uf L M1) w/\Step F L w F (uf L M1) w:=⟨c.gives (tD b h),qW (tD b h)⟩
theorem iQ:∀{l M1:TL},lW l M1=true->∀{k o},l.get k=some o->zM o=false->∃o',M1.get k=some o'
 | [],M1,h,k,o,e,_=>by cases e
 | (j,.box q r)::l,M1,h,k,o,e,b=>by
  simp only[lW] at h;split at h
  case h_2=>cases h
  rename_i n f c;simp only[TL.get] at e;split at e
  ·rename_i d;have:=xo d;subst this;exact⟨_,c⟩
  ·exact iQ h e b
 | (j,.map es)::l,M1,h,k,o,e,b=>by
  simp only[lW] at h;split at h
  case h_2=>cases h
  rename_i m c;simp only[TL.get] at e;split at e
  ·rename_i d;have:=xo d;subst this;exact⟨_,c⟩
  ·exact iQ h e b
 | (j,.win ..)::l,M1,h,k,o,e,b=>by
  simp only[lW] at h;split at h
  case h_2=>cases h
  rename_i n s f p c;simp only[TL.get] at e;split at e
  ·rename_i d;have:=xo d;subst this;exact⟨_,c⟩
  ·exact iQ h e b
 | (j,.row ..)::l,M1,h,k,o,e,b=>by
  simp only[lW] at h;simp only[TL.get] at e;split at e
  ·injection e with e;subst e;cases b
  ·exact iQ h e b
theorem wq:∀{l M1:TL},covers l M1=true->∀{k o},l.get k=some o->∃o',M1.get k=some o'
 | [],M1,h,k,o,e=>by cases e
 | (j,p)::l,M1,h,k,o,e=>by
  simp only[covers] at h;split at h
  case h_2=>cases h
  rename_i q b;simp only[TL.get] at e;split at e
  ·rename_i c;have:=xo c;subst this;exact⟨_,b⟩
  ·exact wq h e
theorem G8 {L':Loc}(d:aC L ρ a) (h:∀k g t cs,L.get k=some (.box g t cs)->∃cs',L'.get k=some (.box g t cs')):aC L' ρ a:=by
 refine⟨fun t=>?_,fun t k off e=>?_,d.el⟩
 ·rw[d.eq t];cases e:ρ t with
  | v x=>rfl
  | el a j=>rfl
  | own k off =>
   obtain⟨g,ty,cs,c⟩:=d.own t k off e;obtain⟨cs',b⟩:=h _ _ _ _ c;simp only[conc,c,b]
 ·obtain⟨g,ty,cs,c⟩:=d.own t k off e;obtain⟨cs',b⟩:=h _ _ _ _ c;exact⟨g,ty,cs',b⟩
theorem pV (u:St F L w) (l:aC L ρ a) (c:TS G F L ρ M τ) {M1:TL}(h:gives M M1 M1) (m:covers M M1=true) :
  St F (uf L M1) w/\aC (uf L M1) ρ a/\Step F L w F (uf L M1) w/\TS G F (uf L M1) ρ M1 τ/\Ext L (uf L M1):=by
 obtain⟨n,r⟩:=sB u c.tl h;have b:∀k o,L.get k=some o->(uf L M1).get k=some o:=by
  intro k o e;rcases dR (c.tl k) with⟨d,f⟩ | ⟨q,p,d,f,v⟩
  ·rw[f] at e;cases e
  ·obtain⟨o',s⟩:=wq m d;rw[jo,s];simp only[e]
 refine⟨n,G8 l fun k g t cs e=>⟨cs,b _ _ e⟩,r,⟨sA c.tl h,fun j=>(c.env j).ext (aA.le_refl F) fun k o e=>⟨o,b k o e,Own.Wj o⟩,fun k g t e=>?_,c.glob⟩,fun k o e=>⟨o,b k o e,Own.Wj o⟩⟩;obtain⟨cs,h⟩:=c.kp k g t e;exact⟨cs,b _ _ h⟩
theorem MU {F:aA}{args:List C}{vs:List Value}(ha:aB F L args vs):aB F (inp []) (args.map fun c=>c.Wm.ren (cj [] 1000)) vs :=
 ha.map fun c _ v b=>(gU b).ren (fun j m e=>by cases e)
theorem P7 {F:aA}{L:Loc}{args:List C}{vs:List Value}{f:Nat}{o:Own}(k:L.get f=some o) (ha:aB F L args vs):aB F (inp [o]) (args.map fun c=>c.Wm.ren (cj [f] 1000)) vs :=
 ha.map fun c _ v h=>(gU h).ren (fun j m e o' b=>by
  obtain⟨n,d,rfl⟩:=zL e;cases n with
  | zero =>
   simp only[Xc,x5] at d;subst d;rw[k] at b;injection b with b
   subst b;rfl
  | succ n=>simp at d)
theorem CD:cO F (inp []) (iN []):=fun k=>by rw[bZ,aS];split<;>simp[GH]
theorem gk.Wr {Li:List Own}{R:List TO->C->Prop}:∀F G L v,aA.le F G->gk Li R F L v->gk Li R G L v:=by
 rintro F G L v b ⟨Mo,c,d,e,h,j,f⟩;exact⟨Mo,c,d,e.mono b,h.mono b,j,f⟩
theorem tE {f:Nat}{args:List C}{vs:List Value}{d:Option Nat}{K:TL->aT->C->Prop}(r:TS G F L ρ M τ) (ha:aB F L args vs) (h:vS P f args M τ d K) :
  dP P f vs F L d (fun F' L' v=>∃M' ap c,TS G F' L' ρ M' ap/\aN F' L' c (.v v)/\K M' ap c):=by
 cases h with
 | frz R h k =>
  refine .frz (gk [] R) (h.out F [] vs rfl CD (MU ha)) ?_;rintro v F' Lo l ⟨Mo,c,q,s,b,q4,q5⟩;obtain⟨rfl,k2⟩:=k c Mo q5 b.wf;have:Lo=[]:=List.length_eq_zero_iff.1 (by rw[<-q];rfl);subst this;exact⟨rfl,fun _=>⟨M,τ,_,r.mono l,ji (b.ext (aA.le_refl F') (fun k o e=>by rw[aS] at e;split at e<;>simp at e)),k2⟩⟩
 | own R k h hd hk kk =>
  refine .own (gk [] R) k (h.out F [] vs rfl CD (MU ha)) hd (bT r.tl hk) ?_;rintro v F' Lo l ⟨Mo,c,q,s,b,q4,q5⟩;have bj:∀o∈Mo,o.Wf:=by
   intro o ho;obtain⟨i,hi⟩:=Xn.1 ho;have ba:i<Lo.length:=by rw[<-q];exact(WX.1 hi).1
   have:=s (1000+i);rw[bZ,aS,j3 (by omega),j3 (by omega),show 1000+i-1000=i by omega,hi,yo ba] at this;exact cN.wf this
  obtain⟨o,rfl,k2⟩:=kk c Mo q5 b.wf bj
  match Lo,q with
  | [p],_ =>
   have n:∀j m,aW [k] j=some m->∀o,(inp [p]).get j=some o->(L.set k p).get m=some o:=by
    intro j m hj o ho;obtain⟨a1,a2⟩:=lJ hj;rw[aS,j3 a1] at ho;have:j-1000=0:=by have:=(WX.1 a2).1;simp at this;omega
    rw[this] at ho a2;simp at ho a2;subst ho a2;rw[Loc.Wc,j3 rfl]
   have am:=s 1000;rw[bZ,aS,j3 (by omega),j3 (by omega)] at am;refine⟨p,rfl,fun _=>⟨_,τ,_,r.new l (bT r.tl hk) (cN.ren n am),ji (b.ren n),k2⟩⟩
 | row R z t sz els ao hk h kk =>
  obtain⟨rv,xs,hL,⟨hm,av,cv,rfl,bs⟩,hr⟩:=jT r.tl hk;refine .row (fun F' Lo v=>Lo=[]/\gk [] R F' [] v) z _ t sz els.length xs ⟨ao,fun F1 F2 L v aE u=>⟨u.1,gk.Wr _ _ _ _ aE u.2⟩,fun w hs=>?_⟩ hL ?_
  ·have bd:aC (inp [.row (.slice av els.length cv) t sz els.length xs]) (fun _=>.v undef) (⟨#[],[]⟩:Act):=by
    refine⟨fun j=>?_,fun j k off e=>(by cases e),fun j a i e=>(by cases e)⟩;simp[conc]
   obtain⟨F2,L2,g1,_,g3,l,y,rfl⟩:=nB (k:=1000) (KK:=fun F' L'=>F.le F'/\FQ F' (.slice av els.length cv) sz els.length xs/\L'=(inp [.row (.slice av els.length cv) t sz els.length xs]).del 1000) hs bd ⟨_,_,_,_,_,rfl,fun F' l y=>⟨l,y,rfl⟩⟩;have ar:Rel F2 (L.del z) (.sl els) (.slice av els.length cv):=by
    simp only[Rel];rcases y with⟨e1,e2,e3⟩ | ⟨ad,c2,e1,e2,e3⟩
    ·injection e1 with q s b
     have:els=[]:=List.length_eq_zero_iff.1 s;subst this;exact⟨av,cv,rfl,by simp,by simp,fun _=>⟨rfl,b⟩,sz,by simp only[fE]⟩
    ·injection e1 with q s b
     subst q b;exact⟨some ad,cv,rfl,e3,hm,fun e=>(by cases e),sz,(hr.mono l).frz e2⟩
   obtain⟨l1,_⟩:=Bj l hL ar;have bc:aB F2 (L.del z) (args.map (C.frz z els)) vs:=ha.map fun c _ v hc=>Rel.mp l1 3 hc;have aw:=MU bc;rw[XR] at aw;refine((h.out F2 [] vs rfl CD aw).run w g1).mono ?_;rintro e w' ⟨v,F',Lo,rfl,bo,be,u⟩;have bb:Lo=[]:=by
    obtain⟨Mo,c,q,s,b,q4,q5⟩:=u;obtain⟨rfl,_⟩:=kk c Mo q5 b.wf;exact List.length_eq_zero_iff.1 (by rw[<-q];rfl)
   subst bb;exact⟨v,F',[],rfl,bo,g3.trans be,rfl,u⟩
  ·rintro v F' Lo l ⟨rfl,Mo,c,q,s,b,q4,q5⟩;obtain⟨rfl,k2⟩:=kk c Mo q5 b.wf;refine⟨rfl,fun _=>⟨_,_,_,(r.mono l).WA (k:=z) (o':=.row (.slice none 0 0) t sz 0 []) (to:=.row t sz []) (fun g t' cs e=>by rw[hL] at e;injection e with e;cases e) ⟨rfl,rfl,rfl,⟨Xt _,none,0,rfl,fun _=>rfl⟩,by simp only[aL]⟩,ji (b.ext (aA.le_refl F') (fun k o e=>by rw[aS] at e;split at e<;>simp at e)),k2⟩⟩
 | lent z t sz els x hk h k =>
  obtain⟨rv,xs,hL,aa,hr⟩:=jT r.tl hk;refine .lent (fun F' v=>Rel F' (inp []) x v) z rv t sz els.length xs (h.out F rv xs vs ⟨rfl,rfl,rfl,aa,hr⟩ (P7 hL ha)) hL fun v F' l u _=>?_;exact⟨M,τ,_,r.mono l,ji (u.ext (aA.le_refl F') (fun k o e=>by rw[aS] at e;split at e<;>simp at e)),k u.wf⟩
def jV:dS->Bool
 | .call _ _=>true
 | .callV _ _=>true
 | _=>false
theorem TS.Wq {F:aA}{L:Loc}{ρ:Env}{M:TL}{τ:aT}{K:TK}{d:Option Nat}(e:TS G F L ρ M τ) {c:C}{sv:SV}(b:aN F L c sv) (h:K M (bw d c τ)):Both G K F L (Fr.put d sv ρ):=⟨_,_,e.put b d,h⟩
theorem iU (h:∀j,aN F L (τ j) (ρ j)) {fi ca:List C}{c b:List Value}(d:aB F L fi c) (e:aB F L ca b) (args:List X):aB F L (fi++dM τ args++ca) (c.toArray.toList++bf L ρ args++b.toArray.toList):=by
 simpa using(d.append (cL h args)).append e
theorem cV.imp {f:Nat}{args:List Value}{F:aA}{L:Loc}{K K':aA->Loc->Value->Prop}(h:cV P f args F L K) (e:∀F' L' v,K F' L' v->K' F' L' v):cV P f args F L K':=by
 obtain⟨ks,ko,Lin,R,m,o,k,p,n,j⟩:=h;exact⟨ks,ko,Lin,R,m,o,k,p,n,fun v F' Lo d l=>let⟨a,b,c⟩:=j v F' Lo d l;⟨a,b,e _ _ _ c⟩⟩
theorem dP.imp' {f:Nat}{args:List Value}{F:aA}{L:Loc}{d:Option Nat}{K K':aA->Loc->Value->Prop}(h:dP P f args F L d K) (p:∀F' L' v,K F' L' v->K' F' L' v):dP P f args F L d K':=by
 cases h with
 | frz R h k=>exact .frz R h fun v F' Lo e l=>let⟨a,b⟩:=k v F' Lo e l;⟨a,fun j=>p _ _ _ (b j)⟩
 | own R k h s c m=>exact .own R k h s c fun v F' Lo e l=>let⟨o,a,b⟩:=m v F' Lo e l;⟨o,a,fun j=>p _ _ _ (b j)⟩
 | row R q r t sz n xs h c m=>exact .row R q r t sz n xs h c fun v F' Lo e l=>let⟨a,b⟩:=m v F' Lo e l;⟨a,fun j=>p _ _ _ (b j)⟩
 | lent R q r t sz n xs h c m=>exact .lent R q r t sz n xs h c fun v F' e l j=>p _ _ _ (m v F' e l j)
theorem G9 {op:BinOp}{k:IntKind}{a b:Int}{K K':Value->Prop}(h:binI op k a b K) (c:∀v,K v->K' v):binI op k a b K':=by
 cases op<;>simp only[binI] at h ⊢<;>first
  | exact h.elim
  | exact⟨c _ h.out⟩
  | exact⟨h.ne,⟨c _ h.out.out⟩⟩
  | exact⟨h.ne,c _ h.out⟩
  | exact c _ h
theorem JB {op:BinOp}{k:IntKind}{a b:Int}{K K':Value->Prop}(h:shI op k a b K) (c:∀v,K v->K' v):shI op k a b K':=by
 cases op<;>simp only[shI] at h ⊢<;>first
  | exact h.elim
  | exact⟨h.1,⟨c _ h.2.out⟩⟩
  | exact⟨h.1,c _ h.2⟩
theorem He {op:BinOp}{a b:ByteArray}{K K':Value->Prop}(h:binS op a b K) (c:∀v,K v->K' v):binS op a b K':=by
 cases op<;>simp only[binS] at h ⊢<;>first
  | exact h.elim
  | exact c _ h
  | exact⟨h.1,c _ h.2⟩
theorem Bm {o:dS}{V V':SV->Prop}{F:aA}{L:Loc}{ρ:Env}(h:aI o F L ρ V) (d:∀v,V v->V' v):aI o F L ρ V':=by
 have load:∀{a:Option Addr}{j n:Nat}{g:List Value->SV},iZ F L a j n (fun cs=>V (g cs))->iZ F L a j n (fun cs=>V' (g cs)):=fun h=>⟨let⟨cs,e,f,m⟩:=h.out;⟨cs,e,f,d _ m⟩⟩;have loadD:∀{a:Option Addr}{j n:Nat}{g:List Value->SV},gX F a j n (fun cs=>V (g cs))->gX F a j n (fun cs=>V' (g cs)):=fun h=>⟨let⟨cs,e,f,m⟩:=h.out;⟨cs,e,f,d _ m⟩⟩;cases o<;>simp only[aI] at h ⊢<;>first
  | exact h.elim
  | exact d _ h
  | skip
 case pick c a b =>
  generalize ev ρ c=z at h ⊢;split at h<;>first | exact h.elim | exact d _ h
 case build zs ps =>
  generalize built L ρ zs ps=z at h ⊢;split at h<;>first | exact h.elim | exact d _ h
 case load agg n x =>
  generalize ev ρ x=z at h ⊢;split at h
  ·rename_i k off;generalize L.get k=y at h ⊢;split at h
   ·rename_i t cs;generalize iA t ((cs.drop off).take n) n=b at h ⊢;cases b
    ·exact h.elim
    ·exact d _ h
   ·exact h.elim
  ·exact load h
  ·exact load h
  ·exact h.elim
 case loadR agg n x =>
  generalize ev ρ x=z at h ⊢;split at h
  ·rename_i k off;generalize L.get k=y at h ⊢;split at h
   ·rename_i t cs;generalize iA t ((cs.drop off).take n) n=b at h ⊢;cases b
    ·exact h.elim
    ·exact d _ h
   ·exact h.elim
  ·exact load h
  ·exact load h
  ·exact h.elim
 case loadD agg n x =>
  generalize ev ρ x=z at h ⊢;split at h
  ·rename_i k off;generalize L.get k=y at h ⊢;split at h
   ·rename_i t cs;generalize iA t ((cs.drop off).take n) n=b at h ⊢;cases b
    ·exact h.elim
    ·exact d _ h
   ·exact h.elim
  ·exact loadD h
  ·exact loadD h
  ·exact h.elim
 case gload g =>
  obtain⟨v,t,fr,e,f⟩:=h;exact⟨v,t,fr,e,d _ f⟩
 case loadF agg n x =>
  generalize ev ρ x=z at h ⊢;split at h
  ·exact loadD h
  ·exact loadD h
  ·exact h.elim
 case loadK key agg n x =>
  generalize ev ρ x=z at h ⊢;split at h
  ·rename_i k off;generalize Nat.beq k key=q at h ⊢;cases q
   ·exact h.elim
   ·simp only[] at h ⊢;generalize L.get k=y at h ⊢;split at h
    ·rename_i t cs;generalize iA t ((cs.drop off).take n) n=b at h ⊢;cases b
     ·exact h.elim
     ·exact d _ h
    ·exact h.elim
  ·exact h.elim
 case mlook str ok z0 x i =>
  generalize ev ρ x=z at h ⊢;split at h
  ·obtain⟨k,cs,e,f,⟨m⟩⟩:=h;exact⟨k,cs,e,f,⟨m.imp (fun⟨i,v,p,u⟩=>⟨i,v,p,d _ u⟩) fun⟨p,u⟩=>⟨p,d _ u⟩⟩⟩
  ·exact h.elim
 case mlen x =>
  generalize ev ρ x=z at h ⊢;split at h
  ·obtain⟨k,cs,e,f,m⟩:=h;exact⟨k,cs,e,f,d _ m⟩
  ·exact h.elim
 case b2sD x =>
  generalize ev ρ x=z at h ⊢;split at h
  ·exact⟨let⟨cs,e,f,⟨bs,m,p⟩⟩:=h.out;⟨cs,e,f,⟨bs,m,d _ p⟩⟩⟩
  ·exact h.elim
 case b2sR x =>
  generalize ev ρ x=z at h ⊢;split at h
  ·exact⟨let⟨k,t,c,bs,e,f,m,p⟩:=h.out;⟨k,t,c,bs,e,f,m,d _ p⟩⟩
  ·exact h.elim
 case mkif t x =>
  generalize ev ρ x=z at h ⊢;split at h<;>first
   | exact h.elim
   | exact d _ h
   | (split at h
      ·exact d _ h
      ·exact h.elim)
 case nilck x =>
  generalize ev ρ x=z at h ⊢;split at h<;>first
   | exact h.elim
   | exact d _ h
   | exact⟨h.1,d _ h.2⟩
   | (split at h
      ·exact⟨h.1,d _ h.2⟩
      ·exact h.elim)
 case mkmv nm x =>
  generalize ev ρ x=z at h ⊢;split at h<;>first | exact h.elim | exact d _ h
 case bin op x y =>
  generalize ev ρ x=z at h ⊢;generalize ev ρ y=z' at h ⊢;split at h
  ·rename_i k a k' b;generalize FP op=q at h ⊢;cases q
   ·generalize oZ k k'=r at h ⊢;cases r
    ·exact h.elim
    ·exact G9 h fun v=>d _
   ·exact JB h fun v=>d _
  ·exact He h fun v=>d _
  ·exact h.elim
 case eqB neg x y =>
  generalize ev ρ x=z at h ⊢;generalize ev ρ y=z' at h ⊢;split at h<;>first | exact h.elim | exact d _ h
 case eqP neg x y =>
  generalize ev ρ x=z at h ⊢;generalize ev ρ y=z' at h ⊢;split at h<;>first | exact h.elim | exact d _ h
 case eqS neg x y =>
  generalize ev ρ x=z at h ⊢;generalize ev ρ y=z' at h ⊢;split at h<;>first | exact h.elim | exact d _ h
 case eqF neg x y =>
  generalize ev ρ x=z at h ⊢;generalize ev ρ y=z' at h ⊢;split at h<;>first | exact h.elim | exact d _ h
 case tas t z x =>
  generalize ev ρ x=y at h ⊢;split at h<;>first
   | exact d _ h
   | (split at h<;>exact d _ h)
   | exact h.elim
 case eqN neg x =>
  generalize ev ρ x=z at h ⊢;split at h<;>first | exact h.elim | exact d _ h
 case eqA neg ks x y =>
  generalize ev ρ x=z at h ⊢;generalize ev ρ y=z' at h ⊢;split at h
  case h_2=>exact h.elim
  rename_i cs ds;generalize iB ks cs.toList ds.toList true=q at h ⊢;cases q with
  | none=>exact h.elim
  | some b=>exact d _ h
 case un op x =>
  generalize ev ρ x=z at h ⊢;split at h<;>first | exact h.elim | exact d _ h | exact⟨d _ h.out⟩
 case conv k x =>
  generalize ev ρ x=z at h ⊢;split at h<;>first | exact h.elim | exact⟨d _ h.out⟩
 case b2s x =>
  generalize ev ρ x=z at h ⊢;split at h
  ·exact⟨let⟨cs,e,f,⟨bs,m,p⟩⟩:=h.out;⟨cs,e,f,⟨bs,m,d _ p⟩⟩⟩
  ·exact h.elim
 case slc sz x lo hi =>
  generalize ev ρ x=z at h ⊢;split at h
  ·rename_i a n c;generalize iW ρ 0 lo=y at h ⊢;generalize iW ρ n hi=y' at h ⊢;split at h
   ·exact⟨h.lo,h.le,h.hi,d _ h.out⟩
   ·exact h.elim
  ·exact h.elim
 case slcS x lo hi =>
  generalize ev ρ x=z at h ⊢;split at h
  ·rename_i s;generalize iW ρ 0 lo=y at h ⊢;generalize iW ρ s.size hi=y' at h ⊢;split at h
   ·exact⟨h.lo,h.le,h.hi,d _ h.out⟩
   ·exact h.elim
  ·exact h.elim
 case fieldA off x =>
  generalize ev ρ x=z at h ⊢;split at h<;>first | exact h.elim | exact d _ h
 case fieldV agg off n x =>
  generalize ev ρ x=z at h ⊢;split at h
  ·rename_i cs;generalize eT ((cs.toList.drop off).take n) n=b at h ⊢;cases b
   ·exact h.elim
   ·exact d _ h
  ·exact h.elim
 case idxA sz x i =>
  generalize ev ρ x=z at h ⊢;generalize ev ρ i=z' at h ⊢;split at h
  ·exact⟨h.ne,h.lo,h.hi,d _ h.out⟩
  ·exact h.elim
 case idxS x i =>
  generalize ev ρ x=z at h ⊢;generalize ev ρ i=z' at h ⊢;split at h
  ·exact⟨h.lo,h.hi,d _ h.out⟩
  ·exact h.elim
 case extr x i =>
  generalize ev ρ x=z at h ⊢;split at h
  ·rename_i vs;generalize vs.toList[i]?=y at h ⊢;cases y
   ·exact h.elim
   ·exact d _ h
  ·exact h.elim
 case len x =>
  generalize ev ρ x=z at h ⊢;split at h<;>first | exact h.elim | exact d _ h
 case lenS x =>
  generalize ev ρ x=z at h ⊢;split at h<;>first | exact h.elim | exact d _ h
 case capa x =>
  generalize ev ρ x=z at h ⊢;split at h<;>first | exact h.elim | exact d _ h
 case mm mx args =>
  generalize args.map (ev ρ)=z at h ⊢;split at h
  ·rename_i k a l;generalize LG mx a l=y at h ⊢;cases y
   ·exact h.elim
   ·exact d _ h
  ·exact h.elim
theorem MV {o:dS}{d:Option Nat}{K:TK}{F:aA}{L:Loc}{ρ:Env}{M:TL}{τ:aT}(b:TS G F L ρ M τ) (h:outT o M τ fun v=>K M (bw d v τ)):aI o F L ρ (fun v=>Both G K F L (Fr.put d v ρ)) :=
 Bm (P5 b h) fun sv ⟨c,f,e⟩=>b.Wq f e
set_option maxHeartbeats 1000000 in
theorem JC {str:Bool}{c:C}(h:Gy str c=true):(∃n,str=false/\c=.int .i64 n)\/∃s,str=true/\c=.str s:=by
 unfold Gy at h;split at h
 ·exact .inl ⟨_,rfl,rfl⟩
 ·exact .inr ⟨_,rfl,rfl⟩
 ·cases h
theorem Dx {F:aA}{str:Bool}{key c:C}{kv v:Value}(f:Rel F [] key kv) (j:Rel F [] c v):∀{es es':List (C×C)}{vs:List Value},iP F es vs->Gz str key c es=some es'->∃b,vg str kv v vs=some b/\iP F es' b
 | [],es',vs,h,e=>by
  simp only[iP] at h;subst h;simp only[Gz,x5] at e;subst e;exact⟨_,rfl,by simp only[iP];exact⟨kv,v,[],rfl,f,j,rfl⟩⟩
 | (k,d)::l,es',vs,h,e=>by
  simp only[iP] at h;obtain⟨u,x,b,rfl,m,t,o⟩:=h;simp only[Gz] at e;split at e
  ·rename_i n;injection e with e
   subst e;exact⟨_,by simp only[vg,pO n f m];rfl,by simp only[iP];exact⟨kv,v,b,rfl,f,j,o⟩⟩
  ·rename_i n;split at e
   case h_2=>cases e
   rename_i y s;injection e with e
   subst e;obtain⟨q,r,p⟩:=Dx f j o s;exact⟨_,by simp only[vg,pO n f m,r];rfl,by simp only[iP];exact⟨u,x,q,rfl,m,t,p⟩⟩
  ·cases e
theorem EV {F:aA}{L:Loc}{c:C}{v:Value}(h:Rel F L c.cel v) (b:dF (bS c)=true):Rel F [] c.cel.Wm v:=by
 have leaf:dF [c]=true->Rel F L c v->Rel F [] c v:=fun b h=>by
  have:=dU (L':=[]) b (show aB F L [c] [v] by simp only[aB];exact⟨v,[],rfl,h,rfl⟩);simp only[aB] at this;obtain⟨u,us,e,d,_⟩:=this;injection e with e1 e2
  rw[e1];exact d
 cases c
 case agg cs =>
  simp only[C.cel,bS] at h b ⊢;refine gU ?_;simp only[Rel] at h ⊢;obtain⟨vs,d,f⟩:=h;exact⟨vs,d,dU b f⟩
 case ownv k o=>simp[bS,dF,C.pure,C.Wn] at b
 case elr k j o=>simp[bS,dF,C.pure,C.Wn] at b
 case slp k o j=>simp[bS,dF,C.pure,C.Wn] at b
 case slo k o=>simp[bS,dF,C.pure,C.Wn] at b
 all_goals
  simp only[C.cel,bS] at h b ⊢;exact gU (leaf b h)
theorem Hf {o:dS}{d:Option Nat}{K:TK}{F:aA}{L:Loc}{ρ:Env}{M:TL}{τ:aT}(ho:jV o=false) (l:TS G F L ρ M τ) (h:bH P o d M τ K):evalOp P o d F L ρ (Both G K):=by
 have z:=l.env;cases o
 case call=>cases ho
 case callV=>cases ho
 case box t x =>
  simp only[bH,eB,dV,dG] at h;simp only[evalOp];split at h
  case h_2=>exact h.elim
  rename_i k;split at h
  case h_2=>exact h.elim
  rename_i hk hc hb;simp only[bT l.tl hk];exact fun g=>Du l hk hc (zK hb) h g
 case boxD t x =>
  simp only[bH,eB,dV,dG] at h;simp only[evalOp];split at h
  case h_2=>exact h.elim
  rename_i k;split at h
  case h_2=>exact h.elim
  rename_i hk hc hb;simp only[bT l.tl hk];exact fun g _=>Du l hk hc (zK hb) h g
 case boxF t x =>
  simp only[bH,eB,dV,dG] at h;simp only[evalOp];split at h
  case h_2=>exact h.elim
  rename_i m j p;intro g F' hF hg;exact(l.mono hF).Wq (MT hg (mh j) (jm ((dU p (dH z m)).mono hF))) h
 case alloc t zs =>
  simp only[bH,eB,dV,dG] at h;simp only[evalOp];split at h
  case h_2=>exact h.elim
  rename_i k;split at h
  case h_2=>exact h.elim
  rename_i hk hb;simp only[bT l.tl hk];exact fun g=>yF l hk (zK hb) h g
 case allocD t zs =>
  simp only[bH,eB,dV,dG] at h;simp only[evalOp];split at h
  case h_2=>exact h.elim
  rename_i k;split at h
  case h_2=>exact h.elim
  rename_i hk hb;simp only[bT l.tl hk];exact fun g _=>yF l hk (zK hb) h g
 case mkF e n sz xs =>
  simp only[bH,eB,dV,dG] at h;simp only[evalOp];split at h
  ·rename_i m j p;rw[(iT z m).1];exact fun g F' hF hg=>Dv l m (xo j) (Xd p) h hF hg
  ·rename_i m j p;split at h
   case h_2=>exact h.elim
   rename_i bb;obtain rfl:=xo bb;split at h
   case h_2=>exact h.elim
   split at h
   case h_2=>exact h.elim
   rename_i be ho;obtain⟨q1,q2⟩:=Dw (e:=e) l ho (by simp) (xo j) (Xd p) h;rw[q1];exact fun g F' hF hg=>q2 hF hg
  ·exact h.elim
 case mkFD e n sz xs =>
  simp only[bH,eB,dV,dG] at h;simp only[evalOp];split at h
  ·rename_i m j p;rw[(iT z m).1];exact fun g F' hF hg _=>Dv l m (xo j) (Xd p) h hF hg
  ·rename_i m j p;split at h
   case h_2=>exact h.elim
   rename_i bb;obtain rfl:=xo bb;split at h
   case h_2=>exact h.elim
   split at h
   case h_2=>exact h.elim
   rename_i be ho;obtain⟨q1,q2⟩:=Dw (e:=e) l ho (by simp) (xo j) (Xd p) h;rw[q1];exact fun g F' hF hg _=>q2 hF hg
  ·exact h.elim
 case mkR e n sz xs =>
  simp only[bH,eB,dV,dG] at h;simp only[evalOp];split at h
  case h_2=>exact h.elim
  rename_i k m j p;split at h
  case h_2=>exact h.elim
  rename_i hk;rw[(iT z m).1];simp only[bT l.tl hk];exact fun g=>Jy l m (xo j) (Xd p) hk h g
 case s2b e x =>
  simp only[bH,eB,dV,dG] at h;simp only[evalOp];split at h
  case h_2=>exact h.elim
  rename_i s hx;obtain⟨e1,e2⟩:=jh z hx;rw[e1];intro g c F' hF hf hc;have hl:(af s.data.toList).length=s.size:=by simp[af]
  have:=Dr (F:=F') (L:=L) (els:=af s.data.toList) (a:=some ⟨g,0,none⟩) (c:=c) (sz:=1) (by rw[hl];exact hc) (by rw[hl];exact e2) (fun e=>by cases e) (Cy hf);rw[hl] at this;exact(l.mono hF).Wq this h
 case makeS=>exact EU l h
 case store n y x=>exact Cz l h
 case storeD n y x=>exact vY l h
 case storeK key n y x =>
  simp only[bH] at h;split at h
  case h_2=>exact h.elim
  rename_i k off hy;split at h
  case h_2=>exact h.elim
  rename_i hb;obtain⟨n',a',x',k',ce,g,t,cs,ho,e1,e2,e3,e4,e5,hK⟩:=hO (P:=P) rfl (vY l h);rcases ho with ho | ho
  ·injection ho with q1 q2 q3
   subst q1 q2 q3;rw[(ep z hy).1] at e3;injection e3 with q1 q2
   subst q1 q2;have hb:=xo hb;subst hb;exact gP (.inr rfl) e1 e2 (ep z hy).1 e4 e5 hK
  ·cases ho
 case makeSD e sz n zs =>
  simp only[bH] at h;split at h
  case h_2=>exact h.elim
  rename_i k;split at h
  case h_2=>exact h.elim
  rename_i hk m j p;have ab:=bT l.tl hk;have an:zs.length=sz:=by have:=br m;simpa using this
  simp only[evalOp,ab,cQ an,p];intro g _;have hz:aB F [] ((zs.map qI).map C.can) zs:=jm (kF zs);have aE:dm (zs.map qI)=true->∀i:Nat,aL F sz (List.replicate i ((zs.map qI).map C.can)) (List.replicate i zs).flatten:=by
   intro j i
   induction i with
   | zero=>simp only[List.replicate_zero,List.flatten_nil,aL]
   | succ i ih =>
    simp only[XO,List.flatten_cons,aL];exact⟨zs,_,rfl,an,mh j,hz,ih⟩
  have am:∀i:Nat,i=n->aL F sz (List.replicate i ((zs.map qI).map C.can)) (List.replicate i zs).flatten:=by
   intro i hi;rw[Xw] at j;rcases j with j | j
   ·have j:=xo j;rw[hi,j];simp only[List.replicate_zero,List.flatten_nil,aL]
   ·exact aE j i
  have p:=l.new (aA.le_refl F) ab (o:=.row (.slice (some ⟨g,0,none⟩) n n) e sz n (List.replicate n zs).flatten) (to:=.row e sz (List.replicate n ((zs.map qI).map C.can)))
   ⟨rfl,rfl,by simp,⟨Xd p,_,_,rfl,fun e=>(by cases e)⟩,am _ rfl⟩
  exact⟨_,_,p.put (c:=.rw k) (mN (by rw[Loc.Wc,j3 rfl])) (some k),h⟩
 case makeSV e sz b zs x =>
  simp only[bH] at h;split at h
  case h_2=>exact h.elim
  rename_i ki n k hx;split at h
  case h_2=>exact h.elim
  rename_i hk m j;have ab:=bT l.tl hk;have an:zs.length=sz:=by have:=br m;simpa using this
  obtain⟨m1,_,m3,m4,h⟩:=h;have hv:val L ρ x=.int ki n:=by rw[val,(dX z hx).1];rfl
  have az:rN b (val L ρ x)=true:=by
   rw[hv,rN,WY,WY];exact⟨⟨Nat.ble_eq_true_of_le m3,Nat.ble_eq_true_of_le m4⟩,decide_eq_true m1⟩
  have hc:lM (val L ρ x)=n.toNat:=by rw[hv];rfl
  simp only[evalOp,ab,cQ an,az];rw[hc];intro g _;have hz:aB F [] ((zs.map qI).map C.can) zs:=jm (kF zs);have am:∀i:Nat,aL F sz (List.replicate i ((zs.map qI).map C.can)) (List.replicate i zs).flatten:=by
   intro i
   induction i with
   | zero=>simp only[List.replicate_zero,List.flatten_nil,aL]
   | succ i ih =>
    simp only[XO,List.flatten_cons,aL];exact⟨zs,_,rfl,an,mh j,hz,ih⟩
  have p:=l.new (aA.le_refl F) ab (o:=.row (.slice (some ⟨g,0,none⟩) n.toNat n.toNat) e sz n.toNat (List.replicate n.toNat zs).flatten) (to:=.row e sz (List.replicate n.toNat ((zs.map qI).map C.can)))
   ⟨rfl,rfl,by simp,⟨m4,_,_,rfl,fun e=>(by cases e)⟩,am _⟩
  exact⟨_,_,p.put (c:=.rw k) (mN (by rw[Loc.Wc,j3 rfl])) (some k),h⟩
 case callD f args =>
  simp only[bH,eB,dV,dG] at h;simp only[evalOp];refine dP.imp' (tE l (cL z args) h) ?_;rintro F' L' v ⟨M',q,c,m,j,p⟩;exact m.Wq j p
 case callVD f args =>
  simp only[bH,eB,dV,dG] at h;simp only[evalOp];split at h
  ·rename_i f' fi ca hx;obtain⟨bo,bx,e1,m,j⟩:=ru z hx;rw[e1];refine dP.imp' (tE l (iU z m j args) h) ?_;rintro F' L' v ⟨M',q,c,m,j,p⟩;exact m.Wq j p
  ·rename_i nm c hx;split at h
   case h_2=>exact h.elim
   rename_i t c;obtain⟨u,e1,hr⟩:=vV z hx;simp only[Rel] at hr;obtain⟨u',rfl,hu⟩:=hr;obtain⟨f',hm,h⟩:=h;have e2:kX P (ev ρ f)=some (f',[u'],[]):=by rw[e1];simp only[kX,hm]
   rw[e2];have ba:aB F L (c::dM τ args) ([u']++bf L ρ args++[]):=by
    rw[Xl];simp only[Xg,Xz,aB];exact⟨_,_,rfl,hu.lift,cL z args⟩
   refine dP.imp' (tE l ba h) ?_;rintro F' L' v ⟨M',q,c,m,j,p⟩;exact m.Wq j p
  ·exact h.elim
 case callO f args =>
  simp only[bH,eB,dV,dG] at h;simp only[evalOp];cases h with
  | mk h =>
   obtain⟨ks,ko,Lin,R,m,j,p,h4,h5,h6,h7⟩:=h;refine cV.imp (qq (K:=fun M' q v=>K M' (bw d v q)) l (cL z args) m j p h4 h5 h6 h7) ?_;rintro F' L' v ⟨M',q,c,m,j,p⟩ _;exact m.Wq j p
  | inpl ks Lin R m j p h4 =>
   refine cV.imp (tC (K:=fun M' q v=>K M' (bw d v q)) l (cL z args) m j p h4) ?_;rintro F' L' v ⟨M',q,c,m,j,p⟩ _;exact m.Wq j p
 case callVO f args =>
  simp only[bH,eB,dV,dG] at h;simp only[evalOp];split at h
  case h_2=>exact h.elim
  rename_i f' fi ca hx;obtain⟨bo,bx,e1,g1,g2⟩:=ru z hx;rw[e1];cases h with
  | mk h =>
   obtain⟨ks,ko,Lin,R,m,j,p,h4,h5,h6,h7⟩:=h;refine cV.imp (qq (K:=fun M' q v=>K M' (bw d v q)) l (iU z g1 g2 args) m j p h4 h5 h6 h7) ?_;rintro F' L' v ⟨M',q,c,m,j,p⟩ _;exact m.Wq j p
  | inpl ks Lin R m j p h4 =>
   refine cV.imp (tC (K:=fun M' q v=>K M' (bw d v q)) l (iU z g1 g2 args) m j p h4) ?_;rintro F' L' v ⟨M',q,c,m,j,p⟩ _;exact m.Wq j p
 case look x i =>
  simp only[bH] at h;simp only[evalOp];split at h
  case h_2=>exact h.elim
  rename_i k n hx hi;split at h
  case h_2=>exact h.elim
  rename_i r b hl;obtain⟨mv,e1,hm⟩:=zF z hx;obtain⟨e2,_⟩:=dX z hi;rw[e1,e2];refine⟨k,r,b,hm,hl,l.Wq (c:=.tup [.int .i64 r,.bool b]) ⟨_,rfl,?_⟩ h⟩;simp only[Rel,aB];exact⟨_,rfl,_,_,rfl,⟨rfl,Ar hl⟩,_,_,rfl,rfl,rfl⟩
 case app=>exact Jz l h
 case appX=>exact GV l h
 case appD=>exact GW l h
 case appS=>exact GX l h
 case appZ=>exact GY l h
 case mkmap =>
  simp only[bH] at h;simp only[evalOp];split at h
  case h_2=>exact h.elim
  rename_i k;split at h
  case h_2=>exact h.elim
  rename_i hk;have ab:=bT l.tl hk;simp only[ab];intro g;have m:=l.new (aA.le_refl F) ab (o:=.box g 0 []) (to:=.map []) ⟨rfl,rfl⟩;exact⟨_,_,m.put (c:=.mpr k) (sv:=.v (.map (some g))) ⟨_,rfl,by simp only[Rel];exact⟨g,[],by rw[Loc.Wc,j3 rfl],rfl⟩⟩ (some k),h⟩
 case mrange=>exact h.elim
 case mnext=>exact h.elim
 case mentry=>exact h.elim
 case mupd str x i v =>
  simp only[bH] at h;simp only[evalOp];split at h
  case h_2=>exact h.elim
  rename_i k hx;split at h
  case h_2=>exact h.elim
  rename_i es hk bd az hp;obtain⟨es',bi,h⟩:=h;obtain⟨g,cs,e1,e2⟩:=zI z hx;obtain⟨g',vs,e3,hE⟩:=Cx l.tl hk;rw[e2] at e3;injection e3 with e3
  injection e3 with q1 q2 q3
  subst q1 q3;rw[e1];have bj:Rel F [] (bV τ i) (val L ρ i)/\fj str (val L ρ i) (val L ρ i)=some true:=by
   rcases JC bd with⟨n,rfl,e⟩ | ⟨t,rfl,e⟩
   ·obtain⟨e2,w⟩:=dX z e;simp only[e,val,e2,conc,Rel,fj,decide_true];exact⟨⟨trivial,w⟩,trivial⟩
   ·obtain⟨e2,w⟩:=jh z e;simp only[e,val,e2,conc,Rel,fj,decide_true];exact⟨⟨trivial,w⟩,trivial⟩
  have bp:Rel F [] ((bV τ v).cel.Wm) (val L ρ v):=by
   have bm:=dH z az;have cw:=dU (L':=[]) hp bm;exact EV (sj z v) hp
  obtain⟨cs',ay,bv⟩:=Dx bj.1 bp hE bi;refine⟨k,cs,e2,hE.isMap,bj.2,cs',ay,?_⟩;have h4:=l.turn (o':=.box g 0 cs') (to:=.map es') e2 ⟨rfl,rfl⟩ (fun g' t' cY e=>by injection e with a b c;subst a b;exact⟨_,rfl⟩) (fun _ _=>⟨rfl,bv⟩);exact h4.Wq (c:=.und) (sv:=.v undef) ⟨_,rfl,by simp only[Rel]⟩ h
 case copy e sz a b=>exact h.out _ _ _ _ l
 case copyX=>exact h.elim
 case storeX n a x=>exact CA l h
 all_goals
  simp only[bH,eB,dV,dG] at h;simp only[evalOp];exact MV (d:=d) (K:=K) l h
end
end Go.Fr.T
