/- Part of the proofs of the statements of this seat. -/
import Derived.Test.YtnlegbokpofcaaaDoorFW1
set_option maxRecDepth 10000
set_option linter.unusedVariables false
set_option linter.unusedSimpArgs false
namespace Go.Fr.T
open Go Go.RowKit Go.Fr
def gu (Li:List Own) (R:List TO->C->Prop):aA->List Own->Value->Prop:=fun F Lo v =>
 ∃Mo c,Mo.length=Lo.length/\cP F (inp Lo) (iO Mo)/\Rel F (inp Lo) c v/\(∀(i:Nat) g t cs,Li[i]?=some (.box g t cs)->∃cs',Lo[i]?=some (.box g t cs'))/\R Mo c
structure CallsT (P:Program) (f:Nat) (args:List C) (Lin:List TO) (R:List TO->C->Prop):Prop where
 out:∀(F:aA) (Li:List Own) (vs:List Value),Li.length=Lin.length->cP F (inp Li) (iO Lin)->aB F (inp Li) args vs->CallsA P f vs.toArray F Li (gu Li R)
structure CallsTX (P:Program) (f:Nat) (args:List C) (Lin:List TO) (R:List TO->C->Prop) (Pp:Value->Prop):Prop where
 out:∀(F:aA) (Li:List Own) (vs:List Value),Li.length=Lin.length->cP F (inp Li) (iO Lin)->aB F (inp Li) args vs->sS P f vs.toArray F Li (gu Li R) Pp
theorem CallsT.toX {P:Program}{f:Nat}{args:List C}{Lin:List TO}{R:List TO->C->Prop}{Pp:Value->Prop}(h:CallsT P f args Lin R):CallsTX P f args Lin R Pp:=⟨fun F Li vs a c b=>(h.out F Li vs a c b).toX⟩
def aQ:List TO->List Nat->List Nat->Bool
 | .box _ _::l,k::ks,a::ko=>match Nat.beq k a with | true=>aQ l ks ko | false=>false
 | .box _ _::_,_,_=>false
 | .map _::l,k::ks,a::ko=>match Nat.beq k a with | true=>aQ l ks ko | false=>false
 | .map _::_,_,_=>false
 | .win _ _ _ _::l,k::ks,a::ko=>match Nat.beq k a with | true=>aQ l ks ko | false=>false
 | .win _ _ _ _::_,_,_=>false
 | .row _ _ _::l,_::ks,_::ko=>aQ l ks ko
 | .row _ _ _::l,_::ks,[]=>aQ l ks []
 | .row _ _ _::_,[],_=>false
 | [],_,_=>true
def lu (L:TL) (ks:List Nat):List Nat->Bool
 | []=>true
 | k::ko=>match fw ks k,L.get k with
  | true,_=>lu L ks ko
  | false,none=>lu L ks ko
  | false,some _=>false
def covers:TL->TL->Bool
 | [],_=>true
 | (k,_)::l,L1=>match L1.get k with | some _=>covers l L1 | none=>false
def l9:TL->TL->Bool
 | [],_=>true
 | (k,.box _ _)::l,L1=>match L1.get k with | some (.box _ _)=>l9 l L1 | _=>false
 | (k,.map _)::l,L1=>match L1.get k with | some (.map _)=>l9 l L1 | _=>false
 | (k,.win _ _ _ _)::l,L1=>match L1.get k with | some (.win _ _ _ _)=>l9 l L1 | _=>false
 | (_,.row _ _ _)::l,L1=>l9 l L1
def TL.kills (ks:List Nat) (L:TL):TL:=match ks with | []=>L | _=>L.Wv (C.kills ks)
def eK (ks:List Nat) (ρ:aU):aU:=match ks with | []=>ρ | _=>fun j=>(ρ j).kills ks
def rowsOf (L:TL):List Nat->List Nat
 | []=>[]
 | k::ks=>match L.get k with
  | some (.row _ _ _)=>k::rowsOf L ks
  | _=>rowsOf L ks
def OE (Li Lo:List Own):Prop:=Lo.length=Li.length/\∀(i:Nat) o,Li[i]?=some o->∃o',Lo[i]?=some o'/\Own.like o o'
structure zE (P:Program) (f:Nat) (args:List C) (Lin:List TO) (R:List TO->C->Prop):Prop where
 out:∀(F:aA) (Li:List Own) (vs:List Value),Li.length=Lin.length->cP F (inp Li) (iO Lin)->aB F (inp Li) args vs->CallsA P f vs.toArray F Li (fun F' Lo v=>gu Li R F' Lo v/\OE Li Lo)
inductive pR (P:Program) (f:Nat) (args:List C) (L:TL) (ρ:aU) (K:TL->aU->C->Prop):Prop
 | mk (out:∃(fz ks ko:List Nat),vS fz L ρ args fun L ρ args =>
  ∃(L1:TL) (Lin:List TO) (R:List TO->C->Prop),(L1=L\/(gives L L1 L1/\covers L L1=true))/\L1.sub ks=some Lin/\bE ks=true/\bE ko=true/\lu L1 ks ko=true/\aQ Lin ks ko=true /\
   CallsT P f (args.map fun c=>c.WA.ren (cn ks 1000)) (Lin.map (TO.Wv (C.ren (cn ks 1000)))) R /\
   ∀v Mo,R Mo v->Wf v->(∀o∈Mo,o.Wf)->ko.length=Mo.length /\
    K (((L1.Wu ks).kills (rowsOf L1 ks)).puts ko (Mo.map (TO.Wv (C.ren (aW ko))))) (eK (rowsOf L1 ks) ρ) (v.ren (aW ko)).slt)
 | inpl (ks:List Nat) (Lin:List TO) (R:List TO->C->Prop) (hs:L.sub ks=some Lin) (hn:bE ks=true) (h:zE P f (args.map fun c=>c.WA.ren (cn ks 1000)) (Lin.map (TO.Wv (C.ren (cn ks 1000)))) R)
   (k:∀v Mo,R Mo v->Wf v->(∀o∈Mo,o.Wf)->ks.length=Mo.length/\K ((L.Wu ks).puts ks (Mo.map (TO.Wv (C.ren (aW ks))))) ρ (v.ren (aW ks)).slt)
structure o7 where
 ps:Value->Prop
 hb:List (Nat×Nat):=[]
 st:Option (TL->Value->Prop):=none
def kU (L:TL) (ks:List Nat):List (Nat×Nat)->Bool
 | []=>true
 | (k,n)::l=>match fw ks k,L.get k with
  | false,some (.box _ cs)=>match cU cs n with | true=>kU L ks l | false=>false
  | _,_=>false
structure kC (P:Program) (f:Nat) (args:List C) (Lin:List TO) (R:List TO->C->Prop) (Pp:Value->Prop):Prop where
 out:∀(F:aA) (Li:List Own) (vs:List Value),Li.length=Lin.length->cP F (inp Li) (iO Lin)->aB F (inp Li) args vs->sS P f vs.toArray F Li (fun F' Lo v=>gu Li R F' Lo v/\OE Li Lo) Pp
inductive oh (P:Program) (PS:o7) (f:Nat) (args:List C) (L:TL) (ρ:aU) (K:TL->aU->C->Prop):Prop
 | mk (out:∃(fz ks ko:List Nat),vS fz L ρ args fun L ρ args =>
  ∃(L1:TL) (Lin:List TO) (R:List TO->C->Prop) (Pp:Value->Prop),(L1=L\/(gives L L1 L1/\covers L L1=true))/\L1.sub ks=some Lin/\bE ks=true/\bE ko=true/\lu L1 ks ko=true/\aQ Lin ks ko=true/\kU L1 ks PS.hb=true /\
   CallsTX P f (args.map fun c=>c.WA.ren (cn ks 1000)) (Lin.map (TO.Wv (C.ren (cn ks 1000)))) R Pp/\(∀v,Pp v->PS.ps v) /\
   ∀v Mo,R Mo v->Wf v->(∀o∈Mo,o.Wf)->ko.length=Mo.length /\
    K (((L1.Wu ks).kills (rowsOf L1 ks)).puts ko (Mo.map (TO.Wv (C.ren (aW ko))))) (eK (rowsOf L1 ks) ρ) (v.ren (aW ko)).slt)
 | inpl (ks:List Nat) (Lin:List TO) (R:List TO->C->Prop) (Pp:Value->Prop) (hs:L.sub ks=some Lin) (hn:bE ks=true) (hh:kU L ks PS.hb=true) (h:kC P f (args.map fun c=>c.WA.ren (cn ks 1000)) (Lin.map (TO.Wv (C.ren (cn ks 1000)))) R Pp) (hp:∀v,Pp v->PS.ps v)
   (k:∀v Mo,R Mo v->Wf v->(∀o∈Mo,o.Wf)->ks.length=Mo.length/\K ((L.Wu ks).puts ks (Mo.map (TO.Wv (C.ren (aW ks))))) ρ (v.ren (aW ks)).slt)
structure CallsTS (P:Program) (f:Nat) (args:List C) (Lin:List TO) (R:List TO->C->Prop) (Pp:List TO->Value->Prop):Prop where
 out:∀(F:aA) (Li:List Own) (vs:List Value),Li.length=Lin.length->cP F (inp Li) (iO Lin)->aB F (inp Li) args vs->uM P f vs.toArray F Li (gu Li R) (fun F' Lo v=>∃Mo,Mo.length=Lo.length/\cP F' (inp Lo) (iO Mo)/\Pp Mo v)
structure zF (P:Program) (ps:Value->Prop) (hb:List (Nat×Nat)) (st:TL->Value->Prop) (f:Nat) (args:List C) (L:TL) (ρ:aU) (K:TL->aU->C->Prop):Prop where
 out:∃(ks ko:List Nat) (L1:TL) (Lin:List TO) (R:List TO->C->Prop) (Pp:List TO->Value->Prop),(L1=L\/(gives L L1 L1/\covers L L1=true))/\L1.sub ks=some Lin/\bE ks=true/\bE ko=true/\lu L1 ks ko=true/\aQ Lin ks ko=true/\kU L1 ks hb=true /\
   CallsTS P f (args.map fun c=>c.WA.ren (cn ks 1000)) (Lin.map (TO.Wv (C.ren (cn ks 1000)))) R Pp /\
   (∀v Mo,Pp Mo v->(∀o∈Mo,o.Wf)->ks.length=Mo.length->ps v/\st (((L1.Wu ks).kills (rowsOf L1 ks)).puts ks (Mo.map (TO.Wv (C.ren (aW ks))))) v) /\
   ∀v Mo,R Mo v->Wf v->(∀o∈Mo,o.Wf)->ko.length=Mo.length /\
    K (((L1.Wu ks).kills (rowsOf L1 ks)).puts ko (Mo.map (TO.Wv (C.ren (aW ko))))) (eK (rowsOf L1 ks) ρ) (v.ren (aW ko)).slt
def vT:List C->Option (List Value)
 | []=>some []
 | .int k n::l=>match vT l with | some vs=>some (.int k n::vs) | none=>none
 | .bool b::l=>match vT l with | some vs=>some (.bool b::vs) | none=>none
 | .str s::l=>match vT l with | some vs=>some (.string s::vs) | none=>none
 | _=>none
def Bg:C->Option Value
 | .ifc t (.int k n)=>some (.iface t (.int k n))
 | .ifc t (.bool b)=>some (.iface t (.bool b))
 | .ifc t (.str s)=>some (.iface t (.string s))
 | .ifc t (.agg cs)=>match vT cs with | some vs=>some (.iface t (.agg vs.toArray)) | none=>none
 | _=>none
structure OG (PS:o7) (L:TL) (c:C):Prop where
 out:∃v,Bg c=some v/\kU L [] PS.hb=true/\PS.ps v
structure Qg (ps:Value->Prop) (hb:List (Nat×Nat)) (st:TL->Value->Prop) (L:TL) (c:C):Prop where
 out:∃v,Bg c=some v/\kU L [] hb=true/\ps v/\st L v
inductive Cx (P:Program) (f:Nat) (args:List C) (L:TL) (ρ:aU) (K:TL->aU->C->Prop):Prop
 | mk (out:∃(ks ko:List Nat) (Lin:List TO) (R:List TO->C->Prop),L.sub ks=some Lin/\bE ks=true/\bE ko=true/\lu L ks ko=true/\aQ Lin ks ko=true /\
   CallsT P f (args.map fun c=>c.WA.ren (cn ks 1000)) (Lin.map (TO.Wv (C.ren (cn ks 1000)))) R /\
   ∀v Mo,R Mo v->Wf v->(∀o∈Mo,o.Wf)->ko.length=Mo.length /\
    K (((L.Wu ks).kills (rowsOf L ks)).puts ko (Mo.map (TO.Wv (C.ren (aW ko))))) (eK (rowsOf L ks) ρ) (v.ren (aW ko)).slt)
 | inpl (ks:List Nat) (Lin:List TO) (R:List TO->C->Prop) (hs:L.sub ks=some Lin) (hn:bE ks=true) (h:zE P f (args.map fun c=>c.WA.ren (cn ks 1000)) (Lin.map (TO.Wv (C.ren (cn ks 1000)))) R)
   (k:∀v Mo,R Mo v->Wf v->(∀o∈Mo,o.Wf)->ks.length=Mo.length/\K ((L.Wu ks).puts ks (Mo.map (TO.Wv (C.ren (aW ks))))) ρ (v.ren (aW ks)).slt)
def vU:List Nat->List Nat->Bool
 | [],_=>true
 | k::ks,a=>match fw a k with | true=>false | false=>vU ks a
structure mS (P:Program) (PS:o7) (fb:List Nat) (f:Nat) (args:List C) (L:TL) (ρ:aU) (K:TL->aU->C->Prop):Prop where
 out:∃(ks:List Nat) (Lin:List TO) (R:List TO->C->Prop) (Pp:Value->Prop),L.sub ks=some Lin/\bE ks=true/\vU ks fb=true/\aQ Lin ks ks=true/\kU L ks PS.hb=true /\
   CallsTX P f (args.map fun c=>c.WA.ren (cn ks 1000)) (Lin.map (TO.Wv (C.ren (cn ks 1000)))) R Pp/\(∀v,Pp v->PS.ps v) /\
   ∀v Mo,R Mo v->Wf v->(∀o∈Mo,o.Wf)->ks.length=Mo.length /\
    K (((L.Wu ks).kills (rowsOf L ks)).puts ks (Mo.map (TO.Wv (C.ren (aW ks))))) (eK (rowsOf L ks) ρ) (v.ren (aW ks)).slt
structure uS (P:Program) (ps:Value->Prop) (hb:List (Nat×Nat)) (st:TL->Value->Prop) (fb:List Nat) (f:Nat) (args:List C) (L:TL) (ρ:aU) (K:TL->aU->C->Prop):Prop where
 out:∃(ks:List Nat) (Lin:List TO) (R:List TO->C->Prop) (Pp:List TO->Value->Prop),L.sub ks=some Lin/\bE ks=true/\vU ks fb=true/\aQ Lin ks ks=true/\kU L ks hb=true /\
   CallsTS P f (args.map fun c=>c.WA.ren (cn ks 1000)) (Lin.map (TO.Wv (C.ren (cn ks 1000)))) R Pp /\
   (∀v Mo,Pp Mo v->(∀o∈Mo,o.Wf)->ks.length=Mo.length->ps v/\st (TL.puts [] ks (Mo.map (TO.Wv (C.ren (aW ks))))) v) /\
   ∀v Mo,R Mo v->Wf v->(∀o∈Mo,o.Wf)->ks.length=Mo.length /\
    K (((L.Wu ks).kills (rowsOf L ks)).puts ks (Mo.map (TO.Wv (C.ren (aW ks))))) (eK (rowsOf L ks) ρ) (v.ren (aW ks)).slt
def mg (P:Program) (f:Nat):Prop:=∃fn,P.funcs[f]?=some fn/\fn.body.isSome=true/\(fn.name == "runtime.NumGoroutine")=false
structure OH (P:Program) (f:Nat) (args:List C) (t sz:Nat) (els:List (List C)) (x:C):Prop where
 out:∀(F:aA) (rv:Value) (xs vs:List Value),cO F (inp [.row rv t sz els.length xs]) (.row t sz els) (.row rv t sz els.length xs)->aB F (inp [.row rv t sz els.length xs]) args vs ->
  CallsA P f vs.toArray F [.row rv t sz els.length xs] (fun F' Lo v=>Lo=[.row rv t sz els.length xs]/\Rel F' (inp []) x v)
inductive vV (P:Program) (f:Nat) (args:List C) (L:TL) (ρ:aU) (d:Option Nat) (K:TL->aU->C->Prop):Prop
 | frz (R:List TO->C->Prop) (h:CallsT P f (args.map fun c=>c.WA.ren (cn [] 1000)) [] R) (k:∀v Mo,R Mo v->Wf v->Mo=[]/\K L ρ v.slt)
 | own (R:List TO->C->Prop) (k:Nat) (h:CallsT P f (args.map fun c=>c.WA.ren (cn [] 1000)) [] R) (hd:d=some k) (hk:L.get k=none)
   (kk:∀v Mo,R Mo v->Wf v->(∀o∈Mo,o.Wf)->∃o,Mo=[o]/\K (L.set k (o.Wv (C.ren (aW [k])))) ρ (v.ren (aW [k])).slt)
 | row (R:List TO->C->Prop) (kr t sz:Nat) (els:List (List C)) (he:mg P f) (hk:L.get kr=some (.row t sz els)) (h:CallsT P f (args.map fun c=>(c.frz kr els).WA.ren (cn [] 1000)) [] R)
   (kk:∀v Mo,R Mo v->Wf v->Mo=[]/\K ((L.Wv (C.kill kr)).set kr (.row t sz [])) (fun j=>(ρ j).kill kr) v.slt)
 | lent (kr t sz:Nat) (els:List (List C)) (x:C) (hk:L.get kr=some (.row t sz els)) (h:OH P f (args.map fun c=>c.WA.ren (cn [kr] 1000)) t sz els x) (k:Wf x->K L ρ x.slt)
def MZ:Value->C
 | .int k n=>.int k n
 | .bool b=>.bool b
 | .string s=>.str s
 | _=>.any
def isNil:X->Bool
 | .c (.slice none 0 0)=>true
 | _=>false
def Cy:X->Bool
 | .c (.pointer none)=>true
 | _=>false
def Cz:X->Bool
 | .c .nilFunc=>true
 | _=>false
def tv:List Bool->List C->List C->Bool->Option Bool
 | [],[],[],c=>some c
 | true::ks,.int k a::l,.int e b::d,c=>match pq k e with | true=>tv ks l d (c&&decide (a=b)) | false=>none
 | false::ks,.bool a::l,.bool b::d,c=>tv ks l d (c&&decide (a=b))
 | _,_,_,_=>none
structure EV (P:Program) (t:TypeId) (nm:String) (K:Nat->Prop):Prop where
 out:∃f,nk P t nm=some f/\K f
def L8 (P:Program) (t:TypeId):Bool:=match P.underlying t with | some (.interface _)=>true | _=>false
def zG (ρ:aU):List (Nat×Nat×X)->List C->(List C->Prop)->Prop
 | [],zs,K=>K zs
 | (off,n,x)::ps,zs,K=>match(bW ρ x).okc,cU (bT (bW ρ x)) n with
  | true,true=>fl (bT (bW ρ x)) fun vs=>fl (eJ zs off vs) fun zs=>zG ρ ps zs K
  | _,_=>False
theorem tw {ρ:aU}:∀{ps:List (Nat×Nat×X)}{zs:List C}{K:List C->Prop},zG ρ ps zs K->∃cs,tq ρ zs ps=some cs/\K cs
 | [],zs,K,h=>⟨zs,rfl,h⟩
 | (off,n,x)::ps,zs,K,h=>by
  simp only[zG] at h;simp only[tq];split at h
  ·rename_i a b;rw[dW,dW] at h
   first
   | exact tw h
   | (rw[a,b];exact tw h)
  ·exact h.elim
structure M0 (k:Nat) (K:Nat->Prop):Prop where
 out:∃n,FP k=some n/\n<=9223372036854775807/\K n
def IK (t:Nat):Bool:=match Nat.beq t 0 with | true=>false | false=>Nat.ble t 1048575
structure M5 (pre:List C) (off:Nat) (cs:List C) (n:Nat) (K:List C->Prop):Prop where
 out:(∃o,off=pre.length+o/\match cU ((cs.drop o).take n) n with | true=>K ((cs.drop o).take n) | false=>False)\/∃vs,(pre.drop off).take n=vs/\cU vs n=true/\K vs
structure Qh (pre:List C) (off:Nat) (cs:List C) (n:Nat) (vs:List C) (K:Nat->Prop) (K':List C->Prop):Prop where
 out:(∃o,off=pre.length+o/\match cU ((cs.drop o).take n) n with | true=>K o | false=>False)\/∃pre',off+n<=pre.length/\dH vs=true/\eJ pre off vs=pre'/\K' pre'
structure Qi (offs:List Nat) (j:Nat) (K:Nat->Prop):Prop where
 out:∃o,offs[j]?=some o/\K o
def ug (k:Nat) (ρ:aU):List X->Option (List Nat)
 | []=>some []
 | x::xs=>match(bW ρ x).cel,ug k ρ xs with
  | .own j off,some l=>match Nat.beq j k with | true=>some (off::l) | false=>none
  | _,_=>none
def outT (o:dU) (L:TL) (ρ:aU) (V:C->Prop):Prop :=
 match o with
 | .mov x=>V (bW ρ x)
 | .pick c a b=>match bW ρ c with
  | .bool t=>vo t (V (bW ρ a)) (V (bW ρ b))
  | _=>False
 | .build zs ps=>fl (zs.map qN) fun zs=>zG ρ ps zs fun cs=>V (.agg cs)
 | .load agg n x=>match bW ρ x with
  | .own k off=>match L.get k with
   | some (.box _ cs)=>match cU ((cs.drop off).take n) n with
    | true=>V (zD agg ((cs.drop off).take n))
    | false=>False
   | some (.win _ pre cs _)=>M5 pre off cs n fun vs=>V (zD agg vs)
   | _=>False
  | .pt es off=>match cU ((es.drop off).take n) n with
   | true=>V (zD agg ((es.drop off).take n))
   | false=>False
  | .ownv k off=>match L.get k with
   | some (.box _ cs)=>match cU ((cs.drop off).take n) n with
    | true=>V (zD agg ((cs.drop off).take n))
    | false=>False
   | some (.win _ pre cs _)=>M5 pre off cs n fun vs=>V (zD agg vs)
   | _=>False
  | .elr k j off=>match L.get k with
   | some (.row _ _ els)=>Jz els j off n fun cs=>V (zD agg cs)
   | _=>False
  | .slp k d j=>match agg,Nat.beq n 1 with
   | false,true=>Qi d j fun o=>V (.ownv k o)
   | _,_=>False
  | _=>False
 | .loadR agg n x=>match bW ρ x with
  | .own k off=>match L.get k with
   | some (.box _ cs)=>match cU ((cs.drop off).take n) n with
    | true=>V (zD agg ((cs.drop off).take n))
    | false=>False
   | _=>False
  | .pt es off=>match cU ((es.drop off).take n) n with
   | true=>V (zD agg ((es.drop off).take n))
   | false=>False
  | .ownv k off=>match L.get k with
   | some (.box _ cs)=>match cU ((cs.drop off).take n) n with
    | true=>V (zD agg ((cs.drop off).take n))
    | false=>False
   | _=>False
  | .elr k j off=>match L.get k with
   | some (.row _ _ els)=>Jz els j off n fun cs=>V (zD agg cs)
   | _=>False
  | _=>False
 | .loadD agg n x=>match bW ρ x with
  | .own k off=>match L.get k with
   | some (.box _ cs)=>match cU ((cs.drop off).take n) n with
    | true=>V (zD agg ((cs.drop off).take n))
    | false=>False
   | some (.win _ pre cs _)=>M5 pre off cs n fun vs=>V (zD agg vs)
   | _=>False
  | .pt es off=>match cU ((es.drop off).take n) n with
   | true=>V (zD agg ((es.drop off).take n))
   | false=>False
  | _=>False
 | .gload g=>match uK g with
  | some k=>V (.opq k)
  | none=>False
 | .loadF agg n x=>match bW ρ x with
  | .pt es off=>match cU ((es.drop off).take n) n with
   | true=>V (zD agg ((es.drop off).take n))
   | false=>False
  | _=>False
 | .loadK key agg n x=>match bW ρ x with
  | .own k off=>match Nat.beq k key with
   | true=>match L.get k with
    | some (.box _ cs)=>match cU ((cs.drop off).take n) n with
     | true=>V (zD agg ((cs.drop off).take n))
     | false=>False
    | _=>False
   | false=>False
  | _=>False
 | .b2sD x=>match(bW ρ x).can with
  | .sl els=>jT els fun bs=>V (.str ⟨bs.toArray⟩)
  | _=>False
 | .b2sR x=>match bW ρ x with
  | .rw k=>match L.get k with
   | some (.row _ sz els)=>match Nat.beq sz 1 with
    | true=>jT els fun bs=>V (.str ⟨bs.toArray⟩)
    | false=>False
   | _=>False
  | _=>False
 | .nilck x=>match bW ρ x with
  | .own k off=>V (.own k off)
  | .pt es off=>V (.pt es off)
  | .ownv k off=>V (.ownv k off)
  | .fn f fi ca=>V (.fn f fi ca)
  | .mval nm c=>match c with
   | .ifc t c=>LR Ew t nm=true/\V (.mval nm (.ifc t c))
   | _=>False
  | .ifo (some nm) t k off=>LR Ew t nm=true/\V (.ifo (some nm) t k off)
  | _=>False
 | .mkmv nm x=>match bW ρ x with
  | .ifc t c=>V (.mval nm (.ifc t c))
  | .ifo none t k off=>V (.ifo (some nm) t k off)
  | _=>False
 | .bin op x y=>match bW ρ x,bW ρ y with
  | .int k a,.int q b=>match FV op with
   | true=>shI op k a b fun v=>V (MZ v)
   | false=>match pq k q with
    | true=>binI op k a b fun v=>V (MZ v)
    | false=>False
  | .str a,.str b=>binS op a b fun v=>V (MZ v)
  | _,_=>False
 | .eqB neg x y=>match bW ρ x,bW ρ y with
  | .bool a,.bool b=>V (.bool (mX neg (decide (a=b))))
  | _,_=>False
 | .eqP neg x y=>match Cy y,bW ρ x with
  | true,.own _ _=>V (.bool (mX neg false))
  | true,.ownv _ _=>V (.bool (mX neg false))
  | true,.pt _ _=>V (.bool (mX neg false))
  | true,.nilp=>V (.bool (mX neg true))
  | _,_=>False
 | .eqS neg x y=>match isNil y,bW ρ x with
  | true,.sl els=>∀b,(els≠[]->b=false)->V (.bool (mX neg b))
  | true,.slx _=>V (.bool (mX neg false))
  | true,.nils=>V (.bool (mX neg true))
  | _,_=>False
 | .eqF neg x y=>match Cz y,bW ρ x with
  | true,.nilf=>V (.bool (mX neg true))
  | true,.fn _ _ _=>V (.bool (mX neg false))
  | _,_=>False
 | .eqN neg x=>match bW ρ x with
  | .ifc _ _=>V (.bool (mX neg false))
  | .ifo none _ _ _=>V (.bool (mX neg false))
  | .opq k=>match Ck k with
   | some b=>V (.bool (mX neg b))
   | none=>False
  | _=>False
 | .tas t z x=>match bW ρ x with
  | .ifc p c=>match Nat.beq p t with
   | true=>fc c fun c=>V (.tup [c,.bool true])
   | false=>fc (cv z).cel fun c=>V (.tup [c,.bool false])
  | .ifo none p k off=>match Nat.beq p t with
   | true=>V (.tup [.own k off,.bool true])
   | false=>fc (cv z).cel fun c=>V (.tup [c,.bool false])
  | _=>False
 | .eqA neg ks x y=>match bW ρ x,bW ρ y with
  | .agg cs,.agg ds=>match tv ks cs ds true with
   | some b=>V (.bool (mX neg b))
   | none=>False
  | _,_=>False
 | .mkif t x=>match bW ρ x with
  | .int k n=>V (.ifc t (.int k n))
  | .bool b=>V (.ifc t (.bool b))
  | .str s=>V (.ifc t (.str s))
  | .pt es off=>V (.ifc t (.pt es off))
  | .own k off=>V (.ifo none t k off)
  | .ownv k off=>V (.ifo none t k off)
  | .agg cs=>match dH cs with
   | true=>fl cs fun cs=>V (.ifc t (.agg cs))
   | false=>False
  | _=>False
 | .un op x=>match op,bW ρ x with
  | .not,.bool b=>V (.bool (!b))
  | .neg,.int k n=>Fit k (0-n) fun m=>V (.int k m)
  | .xor,.int k n=>V (.int k (k.wrap (BitVec.ofInt k.bits (if k.signed then -1 else k.max) ^^^ BitVec.ofInt k.bits n).toNat))
  | _,_=>False
 | .conv k x=>match bW ρ x with
  | .int _ n=>Fit k n fun m=>V (.int k m)
  | _=>False
 | .b2s x=>match(bW ρ x).can with
  | .sl els=>jT els fun bs=>V (.str ⟨bs.toArray⟩)
  | _=>False
 | .mkfn f fi ca=>V (.fn f (dO ρ fi) (dO ρ ca))
 | .slc sz x lo hi=>match(bW ρ x).can with
  | .sl els=>match EU ρ 0 lo,EU ρ els.length hi with
   | some l,some h=>xL l h els sz fun l h=>V (.sl ((els.drop l).take (h-l)))
   | _,_=>False
  | _=>False
 | .slcS x lo hi=>match bW ρ x with
  | .str s=>match EU ρ 0 lo,EU ρ s.size hi with
   | some l,some h=>mO l h s.size fun l h=>V (.str (s.extract l h))
   | _,_=>False
  | _=>False
 | .fieldA off x=>match bW ρ x with
  | .own k o=>V (.own k (o+off))
  | .pt es o=>V (.pt es (o+off))
  | .elr k j o=>V (.elr k j (o+off))
  | .ownv k o=>V (.ownv k (o+off))
  | _=>False
 | .fieldV agg off n x=>match bW ρ x with
  | .agg cs=>match cU ((cs.drop off).take n) n with
   | true=>V (zD agg ((cs.drop off).take n))
   | false=>False
  | _=>False
 | .idxA sz x i=>match(bW ρ x).can,bW ρ i with
  | .sl els,.int _ i=>Cw els i sz fun es=>V (.pt es 0)
  | .rw k,.int _ i=>match L.get k with
   | some (.row _ e els)=>match Nat.beq sz e with
    | true=>Mv i els.length (V (.elr k i.toNat 0))
    | false=>False
   | _=>False
  | .slo k d,.int _ i=>match Nat.beq sz 1 with
   | true=>Mv i d.length (V (.slp k d i.toNat))
   | false=>False
  | _,_=>False
 | .idxS x i=>match bW ρ x,bW ρ i with
  | .str s,.int _ i=>Mv i s.size (V (.int .u8 ((s.data.toList.getD i.toNat 0).toNat)))
  | _,_=>False
 | .extr x i=>match bW ρ x with
  | .tup vs=>match vs[i]? with
   | some v=>V v.slt
   | none=>False
  | _=>False
 | .len x=>match(bW ρ x).can with
  | .sl els=>V (.int .i64 els.length)
  | .rw k=>match L.get k with
   | some (.row _ _ els)=>V (.int .i64 els.length)
   | _=>False
  | .opq k=>M0 k fun n=>V (.int .i64 n)
  | .slo k d=>V (.int .i64 d.length)
  | _=>False
 | .lenS x=>match bW ρ x with
  | .str s=>V (.int .i64 s.size)
  | _=>False
 | .mlook str ok z x i=>match bW ρ x with
  | .mpr k=>match L.get k with
   | some (.map es)=>MY str es (bW ρ i) (fun v=>match ok with | true=>V (.tup [v,.bool true]) | false=>V v.slt) (match ok with | true=>V (.tup [cv z,.bool false]) | false=>V (cv z))
   | _=>False
  | _=>False
 | .mlen x=>match bW ρ x with
  | .mpr k=>match L.get k with
   | some (.map es)=>es.length<=maxLen/\V (.int .i64 es.length)
   | _=>False
  | _=>False
 | .mm mx args=>match args.map (bW ρ) with
  | .int k a::l=>match P3 mx a l with
   | some m=>(Lit.int k m).wf=true/\V (.int k m)
   | none=>False
  | _=>False
 | _=>False
abbrev TK:=TL->aU->Prop
def storeT (b:Bool) (n:Nat) (a x:X) (d:Option Nat) (L:TL) (ρ:aU) (K:TK):Prop :=
 match(bW ρ x).okc,cU (bT (bW ρ x)) n,dn (bT (bW ρ x)),bW ρ a with
 | true,true,true,.own k off=>match L.get k with
  | some (.box t cs)=>match cU ((cs.drop off).take n) n with
   | true=>fl (eJ cs off (bT (bW ρ x))) fun cs=>K (L.set k (.box t cs)) (bw d .und ρ)
   | false=>False
  | some (.win t pre cs post)=>match b with
   | false=>Qh pre off cs n (bT (bW ρ x)) (fun o=>fl (eJ cs o (bT (bW ρ x))) fun cs=>K (L.set k (.win t pre cs post)) (bw d .und ρ)) fun pre'=>K (L.set k (.win t pre' cs post)) (bw d .und ρ)
   | true=>False
  | _=>False
 | true,true,true,.elr k j off=>match b,L.get k,dH (bT (bW ρ x)) with
  | false,some (.row t sz els),true=>Nat.ble (off+n) sz=true/\Jz els j off n fun _=>∀es,els[j]?=some es->K (L.set k (.row t sz (els.set j (eJ es off ((bT (bW ρ x)).map C.can))))) (bw d .und ρ)
  | _,_,_=>False
 | _,_,_,_=>False
structure JB (es:List C) (off:Nat) (b:Bool) (K:Prop):Prop where
 same:es[off]?=some (.bool b)
 out:K
def CA (n:Nat) (a x:X) (d:Option Nat) (L:TL) (ρ:aU) (K:TK):Prop :=
 match bW ρ a,bW ρ x with
 | .pt es off,.bool b=>match Nat.beq n 1 with
  | true=>JB es off b (K L (bw d .und ρ))
  | false=>False
 | _,_=>storeT false n a x d L ρ K
def JC (e sz bytes:Nat) (s x:C) (d:Option Nat) (L:TL) (ρ:aU) (K:TK):Prop :=
 match s,x.can,d with
 | .rw k,.sl news,_=>match L.get k with
  | some (.row h b els)=>match Nat.beq e h,Nat.beq sz b with
   | true,true=>rz els news sz bytes (fT ((L.Wv (C.kill k)).set k (.row e sz (els++news))) fun L=>K L (bw d (.rw k) fun j=>(ρ j).kill k))
   | _,_=>False
  | _=>False
 | .nils,.sl news,some k=>match L.get k with
  | none=>rz [] news sz bytes (fT (L.set k (.row e sz news)) fun L=>K L (bw d (.rw k) ρ))
  | some _=>False
 | .slx els,.sl news,some k=>match L.get k with
  | none=>0<news.length/\(∀es∈els,es.length=sz)/\rz els news sz bytes (fT (L.set k (.row e sz (els++news))) fun L=>K L (bw d (.rw k) ρ))
  | some _=>False
 | .rw k,.rw c,_=>match L.get k,L.get c with
  | some (.row h b els),some (.row f a news)=>match Nat.beq e h,Nat.beq sz b,Nat.beq sz a with
   | true,true,true=>rz els news sz bytes (fT ((L.Wv (C.kill k)).set k (.row e sz (els++news))) fun L=>K L (bw d (.rw k) fun j=>(ρ j).kill k))
   | _,_,_=>False
  | _,_=>False
 | .nils,.rw c,some k=>match L.get k,L.get c with
  | none,some (.row f a news)=>match Nat.beq sz a with
   | true=>rz [] news sz bytes (K (L.set k (.row e sz news)) (bw d (.rw k) ρ))
   | false=>False
  | _,_=>False
 | _,_,_=>False
structure OI (P:Program) (o:dU) (d:Option Nat) (M:TL) (τ:aU) (K:TL->aU->Prop):Prop where
 out:∀(G:Nat->Option (Nat×TypeId)) (F:aA) (L:Loc) (ρ:Env),TS G F L ρ M τ->evalOp P o d F L ρ fun F L ρ=>∃M τ,TS G F L ρ M τ/\K M τ
def bH (P:Program) (o:dU) (d:Option Nat) (L:TL) (ρ:aU) (K:TK):Prop :=
 match o with
 | .box t x=>match d with
  | some k=>match L.get k,(bW ρ x).okc,IK t with
   | none,true,true=>fl (bT (bW ρ x)) fun cs=>K (L.set k (.box t cs)) (bw d (.own k 0) ρ)
   | _,_,_=>False
  | none=>False
 | .boxD t x=>match d with
  | some k=>match L.get k,(bW ρ x).okc,IK t with
   | none,true,true=>fl (bT (bW ρ x)) fun cs=>K (L.set k (.box t cs)) (bw d (.own k 0) ρ)
   | _,_,_=>False
  | none=>False
 | .boxF t x=>match(bW ρ x).okc,dn (bT (bW ρ x)),dH (bT (bW ρ x)) with
  | true,true,true=>fl ((bT (bW ρ x)).map C.can) fun cs=>K L (bw d (.pt cs 0) ρ)
  | _,_,_=>False
 | .alloc t zs=>match d with
  | some k=>match L.get k,IK t with
   | none,true=>fl (zs.map qN) fun cs=>K (L.set k (.box t cs)) (bw d (.own k 0) ρ)
   | _,_=>False
  | none=>False
 | .allocD t zs=>match d with
  | some k=>match L.get k,IK t with
   | none,true=>fl (zs.map qN) fun cs=>K (L.set k (.box t cs)) (bw d (.own k 0) ρ)
   | _,_=>False
  | none=>False
 | .mkF e n sz xs=>match pM ρ sz xs,Nat.beq xs.length n,Nat.ble n 9223372036854775807 with
  | true,true,true=>K L (bw d (.slx (tj ρ xs)) ρ)
  | false,true,true=>match Nat.beq sz 1,xs with
   | true,x::_=>match(bW ρ x).cel with
    | .own k _=>match ug k ρ xs with
     | some p=>K L (bw d (.slo k p) ρ)
     | none=>False
    | _=>False
   | _,_=>False
  | _,_,_=>False
 | .mkFD e n sz xs=>match pM ρ sz xs,Nat.beq xs.length n,Nat.ble n 9223372036854775807 with
  | true,true,true=>K L (bw d (.slx (tj ρ xs)) ρ)
  | false,true,true=>match Nat.beq sz 1,xs with
   | true,x::_=>match(bW ρ x).cel with
    | .own k _=>match ug k ρ xs with
     | some p=>K L (bw d (.slo k p) ρ)
     | none=>False
    | _=>False
   | _,_=>False
  | _,_,_=>False
 | .mkR e n sz xs=>match pM ρ sz xs,Nat.beq xs.length n,Nat.ble n 9223372036854775807,d with
  | true,true,true,some k=>match L.get k with
   | none=>K (L.set k (.row e sz (tj ρ xs))) (bw d (.rw k) ρ)
   | some _=>False
  | _,_,_,_=>False
 | .s2b _ x=>match bW ρ x with
  | .str s=>K L (bw d (.sl (af s.data.toList)) ρ)
  | _=>False
 | .makeS e sz bytes zs l c=>match bW ρ l,bW ρ c,d with
  | .int _ n,.int _ m,some k=>match L.get k,cU (zs.map qN) sz,dn (zs.map qN) with
   | none,true,true=>sU n m bytes fun n=>K (L.set k (.row e sz (List.replicate n ((zs.map qN).map C.can)))) (bw d (.rw k) ρ)
   | _,_,_=>False
  | _,_,_=>False
 | .makeSD e sz n zs=>match d with
  | some k=>match L.get k,cU (zs.map qN) sz,(Nat.beq n 0||dn (zs.map qN)),Nat.ble n 9223372036854775807 with
   | none,true,true,true=>K (L.set k (.row e sz (List.replicate n ((zs.map qN).map C.can)))) (bw d (.rw k) ρ)
   | _,_,_,_=>False
  | none=>False
 | .makeSV e sz bytes zs x=>match bW ρ x,d with
  | .int _ n,some k=>match L.get k,cU (zs.map qN) sz,dn (zs.map qN) with
   | none,true,true=>sU n n bytes fun n=>K (L.set k (.row e sz (List.replicate n ((zs.map qN).map C.can)))) (bw d (.rw k) ρ)
   | _,_,_=>False
  | _,_=>False
 | .storeK key n a x=>match bW ρ a with
  | .own k _=>match Nat.beq k key with
   | true=>storeT true n a x d L ρ K
   | false=>False
  | _=>False
 | .copy e sz a b=>OI P (.copy e sz a b) d L ρ K
 | .copyX _ _ _ _=>False
 | .storeX n a x=>storeT false n a x d L ρ K
 | .store n a x=>CA n a x d L ρ K
 | .storeD n a x=>storeT true n a x d L ρ K
 | .call f args=>fl (dO ρ args) fun args=>pR P f args L ρ fun L' ρ' v=>fT L' fun L'=>uF v fun v=>K L' (bw d v ρ')
 | .callV f args=>match bW ρ f with
  | .fn f fi ca=>fl (fi++dO ρ args++ca) fun args=>pR P f args L ρ fun L' ρ' v=>fT L' fun L'=>uF v fun v=>K L' (bw d v ρ')
  | .mval nm c=>match c with
   | .ifc t c=>EV P t nm fun f=>fl (dO ρ args) fun args=>pR P f (c::args) L ρ fun L' ρ' v=>fT L' fun L'=>uF v fun v=>K L' (bw d v ρ')
   | _=>False
  | .ifo (some nm) t k off=>EV P t nm fun f=>fl (dO ρ args) fun args=>pR P f (.own k off::args) L ρ fun L' ρ' v=>fT L' fun L'=>uF v fun v=>K L' (bw d v ρ')
  | .mof t nm=>match L8 P t,dO ρ args with
   | true,.ifc y c::q=>EV P y nm fun f=>fl q fun q=>pR P f (c::q) L ρ fun L' ρ' v=>fT L' fun L'=>uF v fun v=>K L' (bw d v ρ')
   | _,_=>False
  | _=>False
 | .callD f args=>fl (dO ρ args) fun args=>vV P f args L ρ d fun L' ρ' v=>fT L' fun L'=>uF v fun v=>K L' (bw d v ρ')
 | .callVD f args=>match bW ρ f with
  | .fn f fi ca=>fl (fi++dO ρ args++ca) fun args=>vV P f args L ρ d fun L' ρ' v=>fT L' fun L'=>uF v fun v=>K L' (bw d v ρ')
  | .mval nm c=>match c with
   | .ifc t c=>EV P t nm fun f=>fl (dO ρ args) fun args=>vV P f (c::args) L ρ d fun L' ρ' v=>fT L' fun L'=>uF v fun v=>K L' (bw d v ρ')
   | _=>False
  | _=>False
 | .callO f args=>fl (dO ρ args) fun args=>Cx P f args L ρ fun L' ρ' v=>fT L' fun L'=>uF v fun v=>K L' (bw d v ρ')
 | .callVO f args=>match bW ρ f with
  | .fn f fi ca=>fl (fi++dO ρ args++ca) fun args=>Cx P f args L ρ fun L' ρ' v=>fT L' fun L'=>uF v fun v=>K L' (bw d v ρ')
  | _=>False
 | .mkmap=>match d with
  | some k=>match L.get k with
   | none=>K (L.set k (.map [])) (bw d (.mpr k) ρ)
   | some _=>False
  | none=>False
 | .mupd str x i v=>match bW ρ x with
  | .mpr k=>match L.get k,GH str (bW ρ i),(bW ρ v).okc,dH (bT (bW ρ v)) with
   | some (.map es),true,true,true=>OD str es (bW ρ i) ((bW ρ v).cel.WA) fun es=>K (L.set k (.map es)) (bw d .und ρ)
   | _,_,_,_=>False
  | _=>False
 | .look x i=>match bW ρ x,bW ρ i with
  | .opq k,.int .i64 n=>match uL k n with
   | some (r,b)=>K L (bw d (.tup [.int .i64 r,.bool b]) ρ)
   | none=>False
  | _,_=>False
 | .app e sz bytes _ s x=>JC e sz bytes (bW ρ s) (bW ρ x) d L ρ K
 | .appX e sz bytes _ s x=>JC e sz bytes (bW ρ s) (bW ρ x) d L ρ K
 | .appD e sz bytes _ s x=>match bW ρ s,(bW ρ x).can,d with
  | .rw k,.sl news,_=>match L.get k with
   | some (.row u h els)=>match Nat.beq e u,Nat.beq sz h with
    | true,true=>rz els news sz bytes (fT ((L.Wv (C.kill k)).set k (.row e sz (els++news))) fun L=>K L (bw d (.rw k) fun j=>(ρ j).kill k))
    | _,_=>False
   | _=>False
  | .nils,.sl news,some k=>match L.get k with
   | none=>rz [] news sz bytes (fT (L.set k (.row e sz news)) fun L=>K L (bw d (.rw k) ρ))
   | some _=>False
  | .slx els,.sl news,some k=>match L.get k with
   | none=>0<news.length/\(∀es∈els,es.length=sz)/\rz els news sz bytes (fT (L.set k (.row e sz (els++news))) fun L=>K L (bw d (.rw k) ρ))
   | some _=>False
  | _,_,_=>False
 | .appS e s x=>match bW ρ s,bW ρ x,d with
  | .rw k,.str t,_=>match L.get k with
   | some (.row u h els)=>match Nat.beq e u,Nat.beq 1 h with
    | true,true=>rz els (af t.data.toList) 1 1 (fT ((L.Wv (C.kill k)).set k (.row e 1 (els++af t.data.toList))) fun L=>K L (bw d (.rw k) fun j=>(ρ j).kill k))
    | _,_=>False
   | _=>False
  | .nils,.str t,some k=>match L.get k with
   | none=>rz [] (af t.data.toList) 1 1 (K (L.set k (.row e 1 (af t.data.toList))) (bw d (.rw k) ρ))
   | some _=>False
  | _,_,_=>False
 | .appZ e bytes w s x=>match bW ρ s,bW ρ x,d with
  | .rw k,.int _ i,_=>match L.get k with
   | some (.row u h els)=>match Nat.beq e u,Nat.beq 1 h with
    | true,true=>GJ i fun m=>rz els (List.replicate m [.int w 0]) 1 bytes (fT ((L.Wv (C.kill k)).set k (.row e 1 (els++List.replicate m [.int w 0]))) fun L=>K L (bw d (.rw k) fun j=>(ρ j).kill k))
    | _,_=>False
   | _=>False
  | .nils,.int _ i,some k=>match L.get k with
   | none=>GJ i fun m=>rz [] (List.replicate m [.int w 0]) 1 bytes (K (L.set k (.row e 1 (List.replicate m [.int w 0]))) (bw d (.rw k) ρ))
   | some _=>False
  | _,_,_=>False
 | o=>outT o L ρ fun v=>uF v fun v=>K L (bw d v ρ)
def tC (P:Program) (PS:o7) (o:dU) (d:Option Nat) (L:TL) (ρ:aU) (K:TK):Prop :=
 match o with
 | .call f args=>fl (dO ρ args) fun args=>match PS.st with
  | none=>oh P PS f args L ρ fun L' ρ' v=>fT L' fun L'=>uF v fun v=>K L' (bw d v ρ')
  | some s=>zF P PS.ps PS.hb s f args L ρ fun L' ρ' v=>fT L' fun L'=>uF v fun v=>K L' (bw d v ρ')
 | .callV f args=>match bW ρ f with
  | .fn f fi ca=>fl (fi++dO ρ args++ca) fun args=>match PS.st with
   | none=>oh P PS f args L ρ fun L' ρ' v=>fT L' fun L'=>uF v fun v=>K L' (bw d v ρ')
   | some s=>zF P PS.ps PS.hb s f args L ρ fun L' ρ' v=>fT L' fun L'=>uF v fun v=>K L' (bw d v ρ')
  | .ifo (some nm) t k off=>EV P t nm fun f=>fl (dO ρ args) fun args=>match PS.st with
   | none=>oh P PS f (.own k off::args) L ρ fun L' ρ' v=>fT L' fun L'=>uF v fun v=>K L' (bw d v ρ')
   | some s=>zF P PS.ps PS.hb s f (.own k off::args) L ρ fun L' ρ' v=>fT L' fun L'=>uF v fun v=>K L' (bw d v ρ')
  | _=>False
 | .pan x=>match PS.st with
  | none=>OG PS L (bW ρ x)
  | some s=>Qg PS.ps PS.hb s L (bW ρ x)
 | _=>False
def CB (P:Program) (PS:o7) (a:List Nat) (o:dU) (d:Option Nat) (L:TL) (ρ:aU) (K:TK):Prop :=
 match o with
 | .call f args=>fl (dO ρ args) fun args=>match PS.st with
  | some s=>uS P PS.ps PS.hb s a f args L ρ fun L' ρ' v=>fT L' fun L'=>uF v fun v=>K L' (bw d v ρ')
  | none=>mS P PS a f args L ρ fun L' ρ' v=>fT L' fun L'=>uF v fun v=>K L' (bw d v ρ')
 | .callV f args=>match bW ρ f with
  | .fn f fi ca=>fl (fi++dO ρ args++ca) fun args=>match PS.st with
   | some s=>uS P PS.ps PS.hb s a f args L ρ fun L' ρ' v=>fT L' fun L'=>uF v fun v=>K L' (bw d v ρ')
   | none=>mS P PS a f args L ρ fun L' ρ' v=>fT L' fun L'=>uF v fun v=>K L' (bw d v ρ')
  | .ifo (some nm) t k off=>EV P t nm fun f=>fl (dO ρ args) fun args=>match PS.st with
   | some s=>uS P PS.ps PS.hb s a f (.own k off::args) L ρ fun L' ρ' v=>fT L' fun L'=>uF v fun v=>K L' (bw d v ρ')
   | none=>mS P PS a f (.own k off::args) L ρ fun L' ρ' v=>fT L' fun L'=>uF v fun v=>K L' (bw d v ρ')
  | _=>False
 | _=>False
def yD:List ak->TL->Bool
 | [],_=>true
 | s::l,L=>match rZ s with
  | none=>yD l L
  | some k=>match L.get k with | none=>yD l L | some _=>false
def qO (d:Option Nat) (ρ:aU):aU :=
 match d with
 | some k=>fun j=>match Nat.beq j k with | true=>(ρ k).WW | false=>ρ j
 | none=>ρ
def GQ (a:Bool) (d:Option Nat) (ρ:aU):aU:=match a with | true=>ρ | false=>qO d ρ
def stepT (P:Program) (PS:o7) (e:Bool) (s:ak) (c:TL->aU->TK->Prop) (L:TL) (ρ:aU) (K:TK):Prop :=
 match s with
 | .op d o none=>bH P o d L ρ fun L' ρ'=>c L' (GQ e d ρ') K
 | .op d o (some (s,a))=>match ρ s with
  | .bool b=>vo b
    (match a with
     | true=>bH P o d L (bw (some s) (.bool true) ρ) fun L' ρ'=>c L' (GQ e d ρ') K
     | false=>c L (bw d .und (bw (some s) (.bool true) ρ)) K)
    (match a with
     | false=>bH P o d L (bw (some s) (.bool false) ρ) fun L' ρ'=>c L' (GQ e d ρ') K
     | true=>c L (bw d .und (bw (some s) (.bool false) ρ)) K)
  | .und=>c L (bw d .und ρ) K
  | _=>False
 | .frz k=>match e,L.get k with
  | false,some (.row _ _ els)=>fT ((L.del k).Wv (C.frz k els)) fun L=>c L (fun j=>(ρ j).frz k els) K
  | false,some (.box _ cs)=>match dn cs,dH cs,Nat.blt k 1000,fw (PS.hb.map (·.1)) k with
   | true,true,true,false=>fT ((L.del k).Wv (C.frb k cs)) fun L=>c L (fun j=>(ρ j).frb k cs) K
   | _,_,_,_=>False
  | _,_=>False
 | .pc d o none=>match e with
  | true=>False
  | false=>tC P PS o d L ρ fun L' ρ'=>c L' (qO d ρ') K
 | .pc d o (some (s,a))=>match e,ρ s with
  | false,.bool b=>vo b
    (match a with
     | true=>tC P PS o d L (bw (some s) (.bool true) ρ) fun L' ρ'=>c L' (qO d ρ') K
     | false=>c L (bw d .und (bw (some s) (.bool true) ρ)) K)
    (match a with
     | false=>tC P PS o d L (bw (some s) (.bool false) ρ) fun L' ρ'=>c L' (qO d ρ') K
     | true=>c L (bw d .und (bw (some s) (.bool false) ρ)) K)
  | false,.und=>c L (bw d .und ρ) K
  | _,_=>False
def yE (P:Program) (PS:o7) (b:List Nat) (s:ak) (a:TL->aU->TK->Prop) (L:TL) (ρ:aU) (K:TK):Prop :=
 match s with
 | .pc d o none=>CB P PS b o d L ρ fun L' ρ'=>a L' ρ' K
 | s=>stepT P PS true s a L ρ K
noncomputable def dw (P:Program) (PS:o7) (a:Bool) (ss:List ak):TL->aU->TK->Prop :=
 List.rec (motive:=fun _=>TL->aU->TK->Prop) (fun L ρ K=>K L ρ) (fun s _ b L ρ K=>stepT P PS a s b L ρ K) ss
noncomputable def jU (P:Program) (PS:o7) (b:List Nat) (ss:List ak):TL->aU->TK->Prop :=
 List.rec (motive:=fun _=>TL->aU->TK->Prop) (fun L ρ K=>K L ρ) (fun s _ a L ρ K=>yE P PS b s a L ρ K) ss
theorem jo {P:Program}{PS:o7}{b:List Nat}{s:ak}{a:List ak}{L:TL}{ρ:aU}{K:TK}:jU P PS b (s::a) L ρ K=yE P PS b s (jU P PS b a) L ρ K:=rfl
theorem eU {P:Program}{PS:o7}{b:Bool}{s:ak}{a:List ak}{L:TL}{ρ:aU}{K:TK}:dw P PS b (s::a) L ρ K=stepT P PS b s (dw P PS b a) L ρ K:=rfl
def rA:List C->C
 | [v]=>v
 | l=>.tup l
def pT (L:TL) (ρ:aU):List RV->(List C->Prop)->Prop
 | [],K=>K []
 | (t,none)::l,K=>pT L ρ l fun vs=>K ((ρ t).cel::vs)
 | (t,some (agg,n))::l,K=>match ρ t with
  | .own k off=>match L.get k with
   | some (.box _ cs)=>match cU ((cs.drop off).take n) n with
    | true=>pT L ρ l fun vs=>K ((zD agg ((cs.drop off).take n)).cel::vs)
    | false=>False
   | _=>False
  | _=>False
structure oU (Lin:List TO) (L:TL) (v:C) (R:List TO->C->Prop):Prop where
 out:∃(fz ko:List Nat),vS fz L (fun _=>.any) [v] fun L _ vs =>
  ∃(L1:TL) (c c1:C) (Mo:List TO),vs=[c]/\((L1=L/\c1=c)\/(gives L L1 L1/\IJ L L1 c c1))/\L1.sub ko=some Mo/\bE ko=true/\aQ Lin (List.range' 1000 Lin.length) ko=true /\
   (tu [c1]->R (Mo.map (TO.Wv (C.ren (cn ko 1000)))) (c1.WM.ren (cn ko 1000)))
def su (asg:List Nat) (ρ:aU):aU:=fun j=>match fw asg j with | true=>.any | false=>(ρ j).Xc
structure uh (body:TL->aU->TK->Prop) (asg:List Nat) (L:TL) (ρ:aU):Prop where
 out:∃(σ:Type) (x0:σ) (Inv:σ->Prop) (ls:List Nat) (lv:σ->List C) (Lf:σ->TL) (μ:σ->Nat),
  Inv x0/\m5 L (Lf x0) ls (lv x0) ρ/\gives L (Lf x0) (Lf x0)/\(∀x,l9 L (Lf x)=true)/\(∀x,(lv x).length=ls.length) /\
  ∀x,Inv x->tu (lv x)->(∀k o,(Lf x).get k=some o->o.Wf)->body (Lf x) (pO ls (lv x) (su asg ρ)) fun L' ρ' =>
   ∃x',Inv x'/\m5 L' (Lf x') ls (lv x') ρ'/\gives L' (Lf x') (Lf x')/\μ x'<μ x
def dz:List ak->List Nat
 | []=>[]
 | .frz k::l=>k::dz l
 | .op _ _ _::l=>dz l
 | .pc _ _ _::l=>dz l
def iw:aJ->List Nat
 | .reg d=>dz d
 | .regD d=>dz d
 | .regX d=>dz d
 | .seq a b=>iw a++iw b
 | .cond _ a b=>iw a++iw b
 | .block _ c=>iw c
 | .loop _ c=>iw c
 | _=>[]
def rB (L:TL):List Nat->Bool
 | []=>true
 | k::ks=>match L.get k with | some (.box _ _)=>false | some (.map _)=>false | some (.win _ _ _ _)=>false | _=>rB L ks
def GR:List ak->Bool
 | []=>false
 | .op _ (.copyX _ _ _ _) _::_=>true
 | _::l=>GR l
structure M6 (P:Program) (PS:o7) (ops:List ak) (M:TL) (τ:aU) (N:TK):Prop where
 st:PS.st=none
 out:∀(G:Nat->Option (Nat×TypeId)) (PX:aA->Loc->Value->Prop),
  (∀(F:aA) (L:Loc) (ρ:Env) (M:TL) (τ:aU) (f:Nat) (args:List C) (vs:List Value) (K:TL->aU->C->Prop),TS G F L ρ M τ->aB F L args vs->mS P PS (zB ops) f args M τ K ->
   CallXDPt P PX (zB ops) f vs F L fun F' L' v=>∃M' τ' c,TS G F' L' ρ M' τ'/\aN F' L' c (.v v)/\K M' τ' c) ->
  ∀(F:aA) (L:Loc) (ρ:Env),Real F L->TS G F L ρ M τ->bg P PX (zB ops) ops F L ρ fun F L ρ=>∃M τ,TS G F L ρ M τ/\N M τ
noncomputable def eL (P:Program) (PS:o7) (c:aJ):(Nat->TK)->TK->TK->TK :=
 aJ.rec (motive:=fun _=>(Nat->TK)->TK->TK->TK)
  (fun _ _ N L ρ=>N L ρ)
  (fun a _ _ N L ρ=>dw P PS false a L ρ N)
  (fun a _ _ N L ρ=>dw P PS true a L ρ N)
  (fun a _ _ N L ρ=>match yD a L with | true=>(match GR a with | true=>M6 P PS a L ρ N | false=>jU P PS (zB a) a L ρ N) | false=>False)
  (fun _ _ d b E R N L ρ=>d E R (fun L ρ=>b E R N L ρ) L ρ)
  (fun c _ _ d b E R N L ρ=>match bW ρ c with
   | .bool t=>vo t (d E R N L ρ) (b E R N L ρ)
   | _=>False)
  (fun id _ e E R N L ρ=>e (fun j=>match Nat.beq j id with | true=>N | false=>E j) R N L ρ)
  (fun asg c e E R _ L ρ=>match rB L (iw c) with | true=>uh (fun L ρ K=>e E R K L ρ) asg L ρ | false=>False)
  (fun id E _ _ L ρ=>E id L ρ)
  (fun _ R _ L ρ=>R L ρ) c
section
variable {P:Program}{PS:o7}{E:Nat->TK}{R N:TK}{L:TL}{ρ:aU}
theorem kD:eL P PS .skip E R N L ρ=N L ρ:=rfl
theorem mh {a:List ak}:eL P PS (.reg a) E R N L ρ=dw P PS false a L ρ N:=rfl
theorem kE {a:List ak}:eL P PS (.regD a) E R N L ρ=dw P PS true a L ρ N:=rfl
theorem Bh {a:List ak}:eL P PS (.regX a) E R N L ρ=(match yD a L with | true=>(match GR a with | true=>M6 P PS a L ρ N | false=>jU P PS (zB a) a L ρ N) | false=>False):=rfl
theorem mo {a b:aJ}:eL P PS (.seq a b) E R N L ρ=eL P PS a E R (fun L ρ=>eL P PS b E R N L ρ) L ρ:=rfl
theorem kF {c:X}{a b:aJ}:eL P PS (.cond c a b) E R N L ρ=(match bW ρ c with
   | .bool t=>vo t (eL P PS a E R N L ρ) (eL P PS b E R N L ρ)
   | _=>False):=rfl
theorem jq {id:Nat}{c:aJ}:eL P PS (.block id c) E R N L ρ=eL P PS c (fun j=>match Nat.beq j id with | true=>N | false=>E j) R N L ρ:=rfl
theorem kG {asg:List Nat}{c:aJ}:eL P PS (.loop asg c) E R N L ρ=(match rB L (iw c) with | true=>uh (fun L ρ K=>eL P PS c E R K L ρ) asg L ρ | false=>False):=rfl
theorem kH {id:Nat}:eL P PS (.exit id) E R N L ρ=E id L ρ:=rfl
theorem mq:eL P PS .ret E R N L ρ=R L ρ:=rfl
end
def uG:Nat->List C->aU
 | _,[]=>fun _=>.und
 | k,v::l=>bw (some k) v (uG (k+1) l)
theorem wf_wrap (k:IntKind) (n:Int):(Lit.int k (k.wrap n)).wf=true:=by
 cases k<;>simp[Lit.wf,IntKind.wrap,IntKind.min,IntKind.max,IntKind.bits,IntKind.signed]<;>(try split)<;>omega
theorem vW (k:IntKind) (n:Int):(Lit.int k n).wf=true↔k.min<=n/\n<=k.max:=by simp[Lit.wf]
theorem Du (k:IntKind):k.min<=0:=by cases k<;>simp[IntKind.min,IntKind.bits,IntKind.signed]
theorem Dv (k:IntKind):127<=k.max:=by cases k<;>simp[IntKind.max,IntKind.bits,IntKind.signed]
def okB:Value->Prop
 | .int k n=>(Lit.int k n).wf=true
 | .bool _=>True
 | .string s=>s.size<=maxLen
 | _=>False
section
variable {P:Program}{G:Nat->Option (Nat×TypeId)}{F:aA}{L:Loc}{ρ:Env}{M:TL}{τ:aU}
theorem vX {v:Value}(h:okB v):aN F L (MZ v) (.v v):=by
 cases v
 case int k n=>exact⟨.int k n,rfl,by simp only[MZ,Rel];exact⟨trivial,h⟩⟩
 case bool b=>exact⟨.bool b,rfl,by simp only[MZ,Rel]⟩
 case string b=>exact⟨.string b,rfl,by simp only[MZ,Rel];exact⟨trivial,h⟩⟩
 all_goals exact h.elim
theorem JD {k:IntKind}{a b:Int}(h:(Lit.int k a).wf=true):(Lit.int k (a.tmod b)).wf=true:=by
 rw[vW] at h ⊢;have j:=Du k;have e:=Dv k
 by_cases c:0<=a
 ·have:=Int.tmod_nonneg b c;have d:a.tmod b<=a:=by
   have:(a.tmod b).natAbs<=a.natAbs:=by rw[Int.natAbs_tmod];exact Nat.mod_le _ _
   omega
  omega
 ·have d:(a.tmod b).natAbs<=a.natAbs:=by rw[Int.natAbs_tmod];exact Nat.mod_le _ _
  have f:a.tmod b<=0:=by
   have:=Int.tmod_nonneg b (show 0<=-a by omega);rw[Int.neg_tmod] at this;omega
  omega
theorem JE {k:IntKind}{a:Int}{m:Nat}(h:(Lit.int k a).wf=true):(Lit.int k (a.fdiv (2 ^ m))).wf=true:=by
 rw[vW] at h ⊢;have j:=Du k;have f:=Dv k;have b:(0:Int)<2 ^ m:=Int.pow_pos (by omega);rw[Int.fdiv_eq_ediv_of_nonneg _ (by omega)]
 by_cases c:0<=a
 ·have e:=Int.ediv_nonneg c (Int.le_of_lt b);have d:=Int.ediv_le_self (2 ^ m) c;omega
 ·have e:a / 2 ^ m<0:=Int.ediv_neg_of_neg_of_pos (by omega) b;have d:a<=a / 2 ^ m:=by
   have:a*1<=a / 2 ^ m:=by
    apply Int.le_ediv_of_mul_le b;rw[Int.mul_one];have:a*2 ^ m<=a*1:=Int.mul_le_mul_of_nonpos_left (by omega) (by omega);omega
   omega
  omega
theorem EW {op:BinOp}{k:IntKind}{a b:Int}{K K':Value->Prop}(d:(Lit.int k a).wf=true) (h:binI op k a b K) (c:∀v,okB v->K v->K' v):binI op k a b K':=by
 cases op<;>simp only[binI] at h ⊢<;>first
  | exact h.elim
  | exact⟨c _ (wf_wrap _ _) h.out⟩
  | exact⟨h.ne,⟨c _ (wf_wrap _ _) h.out.out⟩⟩
  | exact⟨h.ne,c _ (JD d) h.out⟩
  | exact c _ (wf_wrap _ _) h
  | exact c _ trivial h
theorem GS {op:BinOp}{k:IntKind}{a b:Int}{K K':Value->Prop}(d:(Lit.int k a).wf=true) (h:shI op k a b K) (c:∀v,okB v->K v->K' v):shI op k a b K':=by
 cases op<;>simp only[shI] at h ⊢<;>first
  | exact h.elim
  | exact⟨h.1,⟨c _ (wf_wrap _ _) h.2.out⟩⟩
  | exact⟨h.1,c _ (JE d) h.2⟩
theorem EX {op:BinOp}{a b:ByteArray}{K K':Value->Prop}(h:binS op a b K) (c:∀v,okB v->K v->K' v):binS op a b K':=by
 cases op<;>simp only[binS] at h ⊢<;>first
  | exact h.elim
  | exact c _ trivial h
  | exact⟨h.1,c _ (by
    have d:=h.1;simp[IntKind.max,IntKind.bits,IntKind.signed] at d;show(a++b).size<=maxLen;rw[ByteArray.size_append];simp only[maxLen];omega) h.2⟩
theorem zH (v:Value):Rel F L (qN v) v:=by
 unfold qN;split
 ·split
  ·rename_i h;simp only[Rel];exact⟨trivial,h⟩
  ·simp only[Rel]
 ·simp only[Rel]
 ·split
  ·rename_i h;simp only[Rel];exact⟨trivial,Xq h⟩
  ·simp only[Rel]
 ·simp only[Rel]
 ·simp only[Rel]
 ·simp only[Rel]
 ·simp only[Rel];exact zi
 ·simp only[Rel]
 ·simp only[Rel]
theorem kI:∀vs:List Value,aB F L (vs.map qN) vs
 | []=>by simp only[X9,aB]
 | v::vs=>by simp only[Xj,aB];exact⟨v,vs,rfl,zH v,kI vs⟩
theorem OJ (v:Value):aN F L (qN v) (.v v):=by
 have h:=zH (F:=F) (L:=L) v
 revert h
 unfold qN;split
 ·split
  ·exact fun h=>⟨_,rfl,h⟩
  ·exact fun h=>trivial
 ·exact fun h=>⟨_,rfl,h⟩
 ·split
  ·exact fun h=>⟨_,rfl,h⟩
  ·exact fun h=>trivial
 ·exact fun h=>⟨_,rfl,h⟩
 ·exact fun h=>⟨_,rfl,h⟩
 ·exact fun h=>⟨_,rfl,h⟩
 ·exact fun h=>⟨_,rfl,h⟩
 ·exact fun h=>⟨_,rfl,h⟩
 ·exact fun h=>trivial
theorem M7 (v:Value):aN F L (cv v) (.v v):=by
 unfold cv;split
 ·rename_i cs;exact⟨_,rfl,by simp only[Rel];exact⟨cs.toList,by simp,kI _⟩⟩
 ·exact OJ v
theorem dc (h:∀j,aN F L (τ j) (ρ j)) (x:X):aN F L (bW τ x) (ev ρ x):=by
 cases x with
 | t n=>exact h n
 | c v=>exact M7 v
 | fn f=>exact⟨_,rfl,by simp only[bW,Rel];exact⟨[],[],by simp,by simp only[aB],by simp only[aB]⟩⟩
 | mt nm n =>
  have a:=h n;simp only[bW,ev,Sw];split
  ·rename_i t c e;rw[e] at a;simp only[aN] at a ⊢;obtain⟨v,b,d⟩:=a;rw[b];refine⟨_,rfl,?_⟩;simp only[Rel] at d ⊢;exact⟨v,rfl,d⟩
  ·rename_i t k off e;rw[e] at a;simp only[aN,Rel] at a ⊢;obtain⟨v,b,g,m,cs,l,rfl⟩:=a;rw[b];exact⟨_,rfl,g,m,cs,l,rfl⟩
  ·simp only[aN]
theorem dY {x:X}{k:IntKind}{n:Int}(h:∀j,aN F L (τ j) (ρ j)) (e:bW τ x=.int k n):ev ρ x=.v (.int k n)/\(Lit.int k n).wf=true:=by
 have:=dc h x;rw[e] at this;simp only[aN,Rel] at this;obtain⟨v,a,rfl,b⟩:=this;exact⟨a,b⟩
theorem gW {x:X}{b:Bool}(h:∀j,aN F L (τ j) (ρ j)) (e:bW τ x=.bool b):ev ρ x=.v (.bool b):=by
 have:=dc h x;rw[e] at this;simp only[aN,Rel] at this;obtain⟨v,a,rfl⟩:=this;exact a
theorem jr {x:X}{s:ByteArray}(h:∀j,aN F L (τ j) (ρ j)) (e:bW τ x=.str s):ev ρ x=.v (.string s)/\s.size<=maxLen:=by
 have:=dc h x;rw[e] at this;simp only[aN,Rel] at this;obtain⟨v,a,rfl,b⟩:=this;exact⟨a,b⟩
theorem M8 {x:X}{els:List (List C)}(h:∀j,aN F L (τ j) (ρ j)) (e:bW τ x=.sl els) :
  ∃a c sz,ev ρ x=.v (.slice a els.length c)/\els.length<=c/\els.length<=maxLen/\(a=none->els=[]/\c=0)/\fI F a sz 0 els:=by
 have:=dc h x;rw[e] at this;simp only[aN,Rel] at this;obtain⟨v,b,a,c,rfl,k,f,l,sz,d⟩:=this;exact⟨a,c,sz,b,k,f,l,d⟩
theorem nL {x:X}(h:∀j,aN F L (τ j) (ρ j)) (e:bW τ x=.nils):ev ρ x=.v (.slice none 0 0):=by
 have:=dc h x;rw[e] at this;simp only[aN,Rel] at this;obtain⟨v,a,rfl⟩:=this;exact a
theorem rC {x:X}{k:Nat}(h:∀j,aN F L (τ j) (ρ j)) (e:bW τ x=.rw k):∃a c t sz n xs,ev ρ x=.v (.slice a n c)/\L.get k=some (.row (.slice a n c) t sz n xs):=by
 have:=dc h x;rw[e] at this;simp only[aN,Rel] at this;obtain⟨v,b,a,c,t,sz,n,xs,rfl,d⟩:=this;exact⟨a,c,t,sz,n,xs,b,d⟩
theorem eB {x:X}{k off:Nat}(h:∀j,aN F L (τ j) (ρ j)) (e:bW τ x=.own k off):ev ρ x=.own k off/\∃g t cs,L.get k=some (.box g t cs):=by
 have:=dc h x;rw[e] at this;simp only[aN] at this;exact this
theorem mr {x:X}{k off:Nat}(h:∀j,aN F L (τ j) (ρ j)) (e:bW τ x=.ownv k off):∃g t cs,L.get k=some (.box g t cs)/\P4 (ev ρ x) (.pointer (some ⟨g,off,none⟩)):=by
 have:=dc h x;rw[e] at this;simp only[aN,Rel] at this;obtain⟨v,a,g,t,cs,b,rfl⟩:=this;exact⟨g,t,cs,b,a⟩
theorem rD {x:X}{f:Nat}{fi ca:List C}(h:∀j,aN F L (τ j) (ρ j)) (e:bW τ x=.fn f fi ca):∃a b,ev ρ x=.v (.func (.func f) a.toArray b.toArray)/\aB F L fi a/\aB F L ca b:=by
 have:=dc h x;rw[e] at this;simp only[aN,Rel] at this;obtain⟨v,c,a,b,rfl,k,d⟩:=this;exact⟨a,b,c,k,d⟩
theorem uT {x:X}{cs:List C}(h:∀j,aN F L (τ j) (ρ j)) (e:bW τ x=.agg cs):∃vs,ev ρ x=.v (.agg vs.toArray)/\aB F L cs vs:=by
 have:=dc h x;rw[e] at this;simp only[aN,Rel] at this;obtain⟨v,a,vs,rfl,b⟩:=this;exact⟨vs,a,b⟩
theorem JF {x:X}{cs:List C}(h:∀j,aN F L (τ j) (ρ j)) (e:bW τ x=.tup cs):∃vs,ev ρ x=.v (.tuple vs.toArray)/\aB F L cs vs:=by
 have:=dc h x;rw[e] at this;simp only[aN,Rel] at this;obtain⟨v,a,vs,rfl,b⟩:=this;exact⟨vs,a,b⟩
theorem GU {x:X}(h:∀j,aN F L (τ j) (ρ j)) (e:bW τ x=.nilp):ev ρ x=.v (.pointer none):=by
 have:=dc h x;rw[e] at this;simp only[aN,Rel] at this;obtain⟨v,a,rfl⟩:=this;exact a
theorem GV {x:X}(h:∀j,aN F L (τ j) (ρ j)) (e:bW τ x=.nilf):ev ρ x=.v .nilFunc:=by
 have:=dc h x;rw[e] at this;simp only[aN,Rel] at this;obtain⟨v,a,rfl⟩:=this;exact a
theorem zI {x:X}{t:TypeId}{c:C}(h:∀j,aN F L (τ j) (ρ j)) (e:bW τ x=.ifc t c):∃u,ev ρ x=.v (.iface t u)/\Rel F [] c u:=by
 have:=dc h x;rw[e] at this;simp only[aN,Rel] at this;obtain⟨v,a,u,rfl,b⟩:=this;exact⟨u,a,b⟩
theorem ol {x:X}{m:Option String}{t:TypeId}{k off:Nat}(h:∀j,aN F L (τ j) (ρ j)) (e:bW τ x=.ifo m t k off):∃g a cs,L.get k=some (.box g a cs)/\ev ρ x=.v (Bf m t (.pointer (some ⟨g,off,none⟩))):=by
 have:=dc h x;rw[e] at this;simp only[aN,Rel] at this;obtain⟨v,b,g,a,cs,c,rfl⟩:=this;exact⟨g,a,cs,c,b⟩
theorem zJ {x:X}{k:Nat}(h:∀j,aN F L (τ j) (ρ j)) (e:bW τ x=.opq k):∃v,ev ρ x=.v v/\je k F v:=by
 have:=dc h x;rw[e] at this;simp only[aN,Rel] at this;exact this
theorem vY {x:X}{nm:String}{c:C}(h:∀j,aN F L (τ j) (ρ j)) (e:bW τ x=.mval nm c):∃u,ev ρ x=.v (.func (.method nm) #[u] #[])/\Rel F [] c u:=by
 have:=dc h x;rw[e] at this;simp only[aN,Rel] at this;obtain⟨v,a,u,rfl,b⟩:=this;exact⟨u,a,b⟩
theorem JG {x:X}{t:TypeId}{nm:String}(h:∀j,aN F L (τ j) (ρ j)) (e:bW τ x=.mof t nm):ev ρ x=.v (.func (.methodOf t nm) #[] #[]):=by
 have:=dc h x;rw[e] at this;simp only[aN,Rel] at this;obtain⟨v,a,rfl⟩:=this;exact a
theorem Dw {x:X}{k:Nat}{a:List Nat}(h:∀j,aN F L (τ j) (ρ j)) (e:bW τ x=.slo k a):∃g t cs b,L.get k=some (.box g t cs)/\ev ρ x=.v (.slice (some b) a.length a.length)/\a.length<=maxLen/\bM F (some b) 0 (a.map fun o=>.pointer (some ⟨g,o,none⟩)):=by
 have:=dc h x;rw[e] at this;simp only[aN,Rel] at this;obtain⟨v,l,g,t,cs,b,c,rfl,f,d⟩:=this;exact⟨g,t,cs,b,c,l,f,d⟩
theorem JH {x:X}{k j:Nat}{a:List Nat}(h:∀j,aN F L (τ j) (ρ j)) (e:bW τ x=.slp k a j):∃g t cs b,L.get k=some (.box g t cs)/\ev ρ x=.el (some b) j/\bM F (some b) 0 (a.map fun o=>.pointer (some ⟨g,o,none⟩)):=by
 have:=dc h x;rw[e] at this;simpa only[aN] using this
theorem CC {F:aA}{f:Addr}{vs:List Value}{j:Nat}{v:Value}(h:bM F (some f) 0 vs) (m:vs[j]?=some v):bM F (some f) j [v]:=by
 obtain⟨d,c,t,l,e,hb,b,k⟩:=h;refine⟨d,c,t,l,e,hb,b,fun i u a=>?_⟩;cases i with
 | zero =>
  simp only[Xp,xo] at a;subst a;have:=k j v m;simpa using this
 | succ i=>simp at a
theorem om {x:X}{es:List C}{off:Nat}(h:∀j,aN F L (τ j) (ρ j)) (e:bW τ x=.pt es off) :
  ∃b o j vs,(ev ρ x=.v (.pointer (some ⟨b,o,none⟩))/\j=0\/ev ρ x=.el (some ⟨b,o,none⟩) j)/\JA F b (o+j) off vs/\dn es=true/\aB F [] es vs:=by
 have:=dc h x;rw[e] at this;simp only[aN] at this;exact this
theorem sw {x:X}{k j off:Nat}(h:∀j,aN F L (τ j) (ρ j)) (e:bW τ x=.elr k j off) :
  ∃a t sz n c xs,ev ρ x=.el (some a) (j*sz+off)/\L.get k=some (.row (.slice (some a) n c) t sz n xs):=by
 have:=dc h x;rw[e] at this;simp only[aN] at this;exact this
theorem jV (h:cP F L M) {k:Nat}{t:TypeId}{cs:List C}(e:M.get k=some (.box t cs)):∃g a vs,L.get k=some (.box g a vs)/\aB F L cs vs/\tyOk t g a:=by
 have:=h k;rw[e] at this;cases b:L.get k with
 | none=>rw[b] at this;exact this.elim
 | some o =>
  rw[b] at this;cases o with
  | row=>exact this.elim
  | box g a vs=>obtain⟨c,d⟩:=this;exact⟨g,a,vs,rfl,d,c⟩
theorem rE (h:cP F L M) {k:Nat}{t:TypeId}{pre cs post:List C}(e:M.get k=some (.win t pre cs post)):∃g b v1 a v3,L.get k=some (.box g b (v1++(a++v3)))/\aB F [] pre v1/\aB F L cs a/\aB F [] post v3/\tyOk t g b:=by
 have:=h k;rw[e] at this;cases c:L.get k with
 | none=>rw[c] at this;exact this.elim
 | some o =>
  rw[c] at this;cases o with
  | row=>exact this.elim
  | box g b vs=>obtain⟨d,v1,a,v3,rfl,f,l,j⟩:=this;exact⟨g,b,v1,a,v3,rfl,f,l,j,d⟩
theorem Bj {v1 a v3:List Value}{o n:Nat}(b:((a.drop o).take n).length=n) (c:o+n<=a.length):((v1++(a++v3)).drop (v1.length+o)).take n=(a.drop o).take n:=by
 rw[List.drop_append,List.drop_eq_nil_of_le (by omega),XO,show v1.length+o-v1.length=o by omega,List.drop_append,List.take_append_of_le_length (by simp;omega)]
theorem jW (h:cP F L M) {k:Nat}{t:TypeId}{sz:Nat}{els:List (List C)}(e:M.get k=some (.row t sz els)) :
  ∃v xs,L.get k=some (.row v t sz els.length xs)/\(els.length<=maxLen/\∃a c,v=.slice a els.length c/\(a=none->els.length=0))/\aL F sz els xs:=by
 have:=h k;rw[e] at this;cases b:L.get k with
 | none=>rw[b] at this;exact this.elim
 | some o =>
  rw[b] at this;cases o with
  | box=>exact this.elim
  | row v l d n xs=>obtain⟨rfl,rfl,rfl,f,j⟩:=this;exact⟨v,xs,rfl,f,j⟩
theorem bU (h:cP F L M) {k:Nat}(e:M.get k=none):L.get k=none:=by
 have:=h k;rw[e] at this;cases a:L.get k with
 | none=>rfl
 | some o=>rw[a] at this;exact this.elim
theorem br:∀{l:List C}{n:Nat},cU l n=true->l.length=n
 | [],0,_=>rfl
 | [],n+1,h=>by simp[cU] at h
 | _::l,0,h=>by simp[cU] at h
 | _::l,n+1,h=>by simp only[cU] at h;simp[br h]
theorem cR:∀{l:List Value}{n:Nat},l.length=n->eW l n=true
 | [],0,_=>rfl
 | [],n+1,h=>by simp at h
 | _::l,0,h=>by simp at h
 | _::l,n+1,h=>by simp only[eW];exact cR (by simpa using h)
theorem js {c:C}{v:Value}(h:Rel F L c v):aN F L c.slt (.v v):=by
 cases c<;>(try simp only[C.slt])<;>try exact⟨v,rfl,h⟩
 case any=>trivial
 case pt es off =>
  simp only[Rel] at h;obtain⟨b,o,vs,rfl,d,a⟩:=h;exact⟨b,o,0,vs,.inl ⟨rfl,rfl⟩,d,a⟩
 case own=>exact⟨v,.inl rfl,h⟩
 case ownv=>exact h.elim
 case elr=>trivial
 case slp=>trivial
theorem ct {agg:Bool}{cs:List C}{vs:List Value}(h:aB F L cs vs):aN F L (zD agg cs) (.v (fR agg vs)):=by
 cases agg with
 | true=>exact⟨_,rfl,by simp only[zD,fR,Rel];exact⟨vs,rfl,h⟩⟩
 | false =>
  match cs,vs,h with
  | [],vs,h=>trivial
  | [c],vs,h =>
   simp only[aB] at h;obtain⟨v,b,rfl,a,rfl⟩:=h;exact js a
  | _::_::_,vs,h=>trivial
theorem P4.conc {sv:SV}{v:Value}(h:P4 sv v):Fr.conc L sv=v:=by
 rcases h with rfl | ⟨b,o,j,rfl,rfl⟩
 ·rfl
 ·simp only[Fr.conc,bV]
theorem JI {c:C}{sv:SV}(h:aN F L c sv) (q:c.one=true\/(∃k o,c=.ownv k o)\/c=.any\/(∃k j o,c=.elr k j o)\/(∃l,c=.agg l)\/(∃l,c=.tup l)\/c=.und\/(∃k o,c=.slo k o)\/(∃k o j,c=.slp k o j)):Rel F L c.cel (conc L sv):=by
 cases c<;>simp only[C.cel]<;>simp only[aN] at h
 case own k off =>
  obtain⟨rfl,g,t,cs,h⟩:=h;simp only[Rel,conc,h];exact⟨g,t,cs,rfl,rfl⟩
 case ownv k off =>
  obtain⟨v,m,h⟩:=h;rw[m.conc];exact h
 case pt es off =>
  obtain⟨b,o,j,vs,f,a,e,d⟩:=h;simp only[Rel];rcases f with⟨rfl,rfl⟩ | rfl
  ·exact⟨b,o,vs,rfl,a,e,d⟩
  ·exact⟨b,o+j,vs,by simp only[conc,bV],a,e,d⟩
 case elr =>
  obtain⟨p,t,sz,n,c,xs,rfl,h⟩:=h;simp only[Rel];exact⟨p,t,sz,n,c,xs,rfl,h⟩
 case slp=>simp only[Rel]
 case any=>simp only[Rel]
 all_goals
  obtain⟨v,rfl,h⟩:=h;simpa only[conc] using h
theorem kJ {c:C}{sv:SV}(h:aN F L c sv):Rel F L c.cel (conc L sv):=by
 apply JI h;cases c<;>simp[C.one]
theorem sA (h:∀j,aN F L (τ j) (ρ j)) (x:X):Rel F L (bW τ x).cel (val L ρ x):=kJ (dc h x)
theorem cN (h:∀j,aN F L (τ j) (ρ j)):∀xs:List X,aB F L (dO τ xs) (bf L ρ xs)
 | []=>by simp only[dO,bf,aB]
 | x::xs=>by simp only[dO,bf,aB];exact⟨_,_,rfl,sA h x,cN h xs⟩
theorem CD {c:C}{sv:SV}(h:aN F L c sv) (e:c.okc=true):aB F L (bT c) (aG (conc L sv)):=by
 have a:=kJ h;cases c<;>simp only[C.okc,Xm] at e<;>simp only[bT]<;>simp only[C.cel] at a ⊢
 case agg cs =>
  simp only[Rel] at a;obtain⟨vs,b,d⟩:=a;rw[b];simpa only[aG] using d
 all_goals
  simp only[aB];refine⟨_,[],?_,a,rfl⟩
  revert a
  generalize conc L sv=v;intro a;simp only[Rel] at a
  first
   | (have b:=je.one a;cases v<;>first | rfl | (exact v7 b (by decide)) | (simp[Value.oneCell'] at b))
   | (obtain⟨rfl,_⟩:=a;rfl)
   | (subst a;rfl)
   | (obtain⟨_,rfl,_⟩:=a;rfl)
   | (obtain⟨_,_,rfl,_⟩:=a;rfl)
   | (obtain⟨_,_,_,rfl,_⟩:=a;rfl)
   | (obtain⟨_,_,_,_,_,_,rfl,_⟩:=a;rfl)
   | (obtain⟨_,_,_,_,rfl⟩:=a;rfl)
   | (obtain⟨_,_,_,_,rfl⟩:=a;unfold Bf;split<;>rfl)
theorem dJ (h:∀j,aN F L (τ j) (ρ j)) {x:X}(a:(bW τ x).okc=true):aB F L (bT (bW τ x)) (aG (val L ρ x)):=CD (dc h x) a
theorem fJ {cs:List C}{vs:List Value}{off:Nat}{ds:List C}{us:List Value}(h:aB F L cs vs) (k:aB F L ds us):aB F L (eJ cs off ds) (aM vs off us):=by
 simp only[eJ,aM];rw[<-k.len];exact((h.take off).append k).append (h.drop _)
theorem yF (h:∀j,aN F L (τ j) (ρ j)):∀(ps:List (Nat×Nat×X)) {zs:List C}{vs:List Value}{cs:List C},aB F L zs vs->tq τ zs ps=some cs->∃us,built L ρ vs ps=some us/\aB F L cs us
 | [],zs,vs,cs,a,hb=>by
  simp only[tq,xo] at hb;subst hb;exact⟨vs,rfl,a⟩
 | (off,n,x)::ps,zs,vs,cs,a,hb=>by
  simp only[tq] at hb;split at hb
  case h_2=>cases hb
  rename_i c e;have b:=dJ h c;have d:eW (aG (val L ρ x)) n=true:=cR (by rw[b.len];exact br e);simp only[built,d];exact yF h ps (fJ a b) hb
theorem uU (h:∀j,aN F L (τ j) (ρ j)) {d i:Int}{x:Option X}(e:EU τ d x=some i):iY ρ d x=some i:=by
 cases x with
 | none=>exact e
 | some x =>
  simp only[EU] at e;split at e
  case h_2=>cases e
  rename_i k j a;injection e with e
  subst e;simp only[iY,(dY h a).1]
theorem GW (h:∀j,aN F L (τ j) (ρ j)) (mx:Bool):∀(args:List X) {a m:Int},P3 mx a (args.map (bW τ))=some m->LV mx a (args.map (ev ρ))=some m
 | [],a,m,e=>e
 | x::args,a,m,e=>by
  simp only[Xj] at e ⊢;cases b:bW τ x<;>rw[b] at e<;>simp only[P3,reduceCtorEq] at e;rw[(dY h b).1];exact GW h mx args e
theorem GX {a:Option Addr}{sz:Nat}{els:List (List C)}{c l h:Nat}(m:fI F a sz 0 els) (hn:a=none->els=[]/\c=0) (y:l<=h) (z:h<=els.length) (hc:els.length<=c) :
  fI F (if c=l then a else a.map (·.add (l*sz))) sz 0 ((els.drop l).take (h-l)):=by
 rw[lZ] at m ⊢;intro j es d;rw[XL] at d;split at d
 case isFalse=>cases d
 rename_i hj;rw[XH] at d;obtain⟨vs,n,q,x,w⟩:=m _ es d;have p:l+j<els.length:=(Xe.1 d).1;rw[vv (by omega)];refine⟨vs,n,?_,x,w⟩;obtain⟨u,k,t,r,e,hb,f,s⟩:=q;subst e;obtain⟨b,o,sp⟩:=u;simp only at f;subst f;refine⟨⟨b,o+l*sz,none⟩,k,t,r,by simp only[X4,bV],hb,rfl,fun i v hi=>?_⟩;have:=s i v hi;simp only[Nat.zero_add,Nat.add_mul] at this ⊢;rw[show o+l*sz+j*sz+i=o+(l*sz+j*sz)+i by omega];exact this
theorem jt {b o j off n:Nat}{es:List C}{vs:List Value}(l:JA F b (o+j) off vs):bM F (some ⟨b,o,none⟩) j ((vs.drop off).take n):=by
 obtain⟨d,a,t,e,f,k,h⟩:=l;refine⟨_,a,t,e,rfl,f,rfl,fun i v c=>?_⟩;rw[XL] at c;split at c
 case isFalse=>cases c
 rw[XH] at c;have:=h _ _ c;show a[o+j+i]?=_/\nU e (o+j+i);rw[k,Nat.add_assoc];exact this
theorem dV {L':Loc}{cs:List C}{vs:List Value}(o:dH cs=true) (h:aB F L cs vs):aB F L' cs vs:=by
 have b:∀(c:C) (v:Value),c.WC=true->Rel F L c v->Rel F L' c v:=by
  intro c v d h;cases c<;>simp only[C.WC,Xm] at d<;>simp only[Rel] at h ⊢<;>exact h
 have a:∀(cs:List C) (vs:List Value),iP cs=true->aB F L cs vs->aB F L' cs vs:=by
  intro cs vs d h;rw[jn] at h ⊢;exact⟨h.1,fun i c v e k=>b c v (pQ.1 d c (Xi e)) (h.2 i c v e k)⟩
 rw[jn] at h ⊢;refine⟨h.1,fun i c v e k=>?_⟩;have d:=og.1 o c (Xi e);have f:=h.2 i c v e k;cases c<;>first
  | exact b _ _ d f
  | (simp only[C.pure,C.WC,Xm] at d;done)
  | (simp only[C.pure] at d
     split at d
     case h_2=>cases d
     rename_i l;simp only[Rel] at f ⊢;obtain⟨m,j,q,p,n⟩:=f;exact⟨m,j,q,a _ _ l p,a _ _ d n⟩)
theorem tD {els:List (List C)}{v:Value}(h:Rel F L (.slx els) v):Rel F L (.sl els) v:=by
 simp only[Rel] at h ⊢;obtain⟨a,b,d,sz,c⟩:=h;exact⟨some a,els.length,b,Xy _,d,fun e=>(by cases e),sz,c⟩
theorem sB {c:C}{v:Value}(h:Rel F L c v):Rel F L c.can v:=by
 cases c<;>first
  | exact h
  | exact tD h
  | (simp only[Rel] at h
     subst h;simp only[C.can,Rel];exact⟨none,0,by simp,by simp,by simp,fun _=>by simp,0,by simp only[fI]⟩)
theorem ju {cs:List C}{vs:List Value}(h:aB F L cs vs):aB F L (cs.map C.can) vs:=h.map fun c _ v=>sB
theorem gX {c:C}{v:Value}(h:Rel F L c v):Rel F L c.WA v:=by
 cases c<;>first
  | exact h
  | exact sB (c:=.nils) h
  | exact tD h
  | (simp only[Rel] at h
     obtain⟨vs,a,b⟩:=h;simp only[C.WA,Rel];exact⟨vs,a,ju b⟩)
theorem GY {c:C}{sv:SV}(h:aN F L c sv):aN F L c.can sv:=by
 cases c<;>first
  | exact h
  | (obtain⟨v,e,a⟩:=h;exact⟨v,e,tD a⟩)
  | (obtain⟨v,e,a⟩:=h;exact⟨v,e,sB (c:=.nils) a⟩)
theorem jv {x:X}{els:List (List C)}(h:∀j,aN F L (τ j) (ρ j)) (e:(bW τ x).can=.sl els) :
  ∃a c sz,ev ρ x=.v (.slice a els.length c)/\els.length<=c/\els.length<=maxLen/\(a=none->els=[]/\c=0)/\fI F a sz 0 els:=by
 have:=GY (dc h x);rw[e] at this;simp only[aN,Rel] at this;obtain⟨v,b,a,c,rfl,k,f,l,sz,d⟩:=this;exact⟨a,c,sz,b,k,f,l,d⟩
theorem JJ {c:C}{k:Nat}(e:c.can=.opq k):c=.opq k:=by cases c<;>simp only[C.can,reduceCtorEq] at e<;>exact e
theorem Dx {c:C}{k:Nat}{a:List Nat}(e:c.can=.slo k a):c=.slo k a:=by cases c<;>simp only[C.can,reduceCtorEq] at e<;>exact e
theorem zK {c:C}{k:Nat}(e:c.can=.rw k):c=.rw k:=by cases c<;>simp only[C.can,reduceCtorEq] at e<;>exact e
theorem zL {x:X}{els:List (List C)}(h:∀j,aN F L (τ j) (ρ j)) (e:bW τ x=.slx els) :
  ∃a sz,ev ρ x=.v (.slice (some a) els.length els.length)/\els.length<=maxLen/\fI F (some a) sz 0 els:=by
 have:=dc h x;rw[e] at this;simp only[aN,Rel] at this;obtain⟨v,b,a,rfl,d,sz,c⟩:=this;exact⟨a,sz,b,d,c⟩
theorem JK {c:C}(h:c.one=true):c.can.one=true:=by cases c<;>first | exact h | rfl
theorem mA {cs:List C}(h:dn cs=true):dn (cs.map C.can)=true:=by
 rw[iq] at h ⊢;intro c b;obtain⟨d,a,rfl⟩:=XI.1 b;exact JK (h d a)
theorem fD {cs:List C}{vs:List Value}(h:aB F L cs vs) (c:dn cs=true):∀u∈vs,u.oneCell'=true:=by
 intro u b;obtain⟨i,hi⟩:=XB.1 b;have a:i<cs.length:=by rw[<-h.len];exact(Xe.1 hi).1
 have d:=h.at (x5 a) hi;exact d.one (iq.1 c _ (List.getElem_mem a))
theorem j7:∀{vs:List Value},(∀u∈vs,u.oneCell'=true)->iS vs=true
 | [],_=>rfl
 | v::vs,h=>by simp only[iS,h v (by simp)];exact j7 fun u a=>h u (by simp[a])
end
section
variable {P:Program}{G:Nat->Option (Nat×TypeId)}{F:aA}{L:Loc}{ρ:Env}{M:TL}{τ:aU}
theorem gY {k:IntKind}{n:Int}(h:(Lit.int k n).wf=true):aN F L (.int k n) (.v (.int k n)):=⟨_,rfl,by simp only[Rel];exact⟨trivial,h⟩⟩
theorem cC {b:Bool}:aN F L (.bool b) (.v (.bool b)):=⟨_,rfl,by simp only[Rel]⟩
theorem sD {s:ByteArray}(h:s.size<=maxLen):aN F L (.str s) (.v (.string s)):=⟨_,rfl,by simp only[Rel];exact⟨trivial,h⟩⟩
theorem GZ {es:List C}{vs:List Value}{c:Addr}{j:Nat}{a:Array Value}{t:TypeId}{e:Nat×Nat}(hb:F c.block=some (.cells a t e)) (d:c.spot=none)
  (k:∀(i:Nat) v,vs[i]?=some v->a[c.off+j+i]?=some v/\nU e (c.off+j+i)) (f:dn es=true) (h:aB F [] es vs):aN F L (.pt es 0) (.el (some c) j):=by
 obtain⟨b,o,l⟩:=c;simp only at d;subst d;exact⟨b,o,j,vs,.inr rfl,⟨o+j,a,t,e,hb,rfl,k⟩,f,h⟩
theorem yG:∀{p:List UInt8}{xs:List Value},aL F 1 (af p) xs->xs=p.map fun b=>Value.int .u8 b.toNat
 | [],xs,h=>by simpa[af,aL] using h
 | b::p,xs,h=>by
  simp only[af,Xj,aL] at h;obtain⟨vs,e,rfl,f,j,a,d⟩:=h;simp only[aB,Rel] at a;obtain⟨v,c,rfl,⟨rfl,_⟩,rfl⟩:=a;rw[yG (p:=p) d];rfl
theorem uj {a:Option Addr}{sz c:Nat}{bs:List UInt8}(k:fI F a sz 0 (af bs)) (hn:a=none->af bs=[]/\c=0) :
  (bM F a 0 (bs.map fun b=>Value.int .u8 b.toNat))\/bs.length=0:=by
 rw[lZ] at k;cases hb:bs with
 | nil=>exact .inr rfl
 | cons y r =>
  refine .inl ?_;have x:=k 0 [iG y] (by simp[af,hb]);obtain⟨us,p,⟨ad,n,t,z,e,f,l,_⟩,_,h⟩:=x;have m:sz=1:=by rw[<-p,h.len];rfl
  subst m;rw[<-hb];refine⟨ad,n,t,z,e,f,l,fun i v hi=>?_⟩;simp only[XR,Option.map_eq_some_iff] at hi;obtain⟨b,o,rfl⟩:=hi;obtain⟨us,p,⟨ae,s,t',w,j,d,q,hv⟩,_,h⟩:=k i [iG b] (by simp[af,o]);rw[e] at j;injection j with j
  subst j;rw[f] at d;injection d with d
  injection d with q1 q2 q3
  subst q1 q3;simp only[aB,Rel] at h;obtain⟨u,ac,rfl,⟨rfl,_⟩,rfl⟩:=h;have:=hv 0 _ (by simp;rfl);simpa using this
theorem Dy {els:List (List C)}{a:Option Addr}{c sz:Nat}(b:els.length<=c) (e:els.length<=maxLen) (d:a=none->els=[]/\c=0) (f:fI F a sz 0 els):aN F L (.sl els) (.v (.slice a els.length c)) :=
 ⟨_,rfl,by simp only[Rel];exact⟨a,c,rfl,b,e,d,sz,f⟩⟩
set_option maxHeartbeats 1000000 in
theorem JL:∀{ks:List Bool}{cs ds:List C}{e b:Bool}{vs us:List Value},tv ks cs ds e=some b->aB F L cs vs->aB F L ds us->iD ks vs.toArray.toList us.toArray.toList e=some b:=by
 intro ks
 induction ks with
 | nil =>
  intro cs ds e b vs us h a d;cases cs with
  | cons c cs=>simp[tv] at h
  | nil =>
   cases ds with
   | cons c cs=>simp[tv] at h
   | nil =>
    simp only[aB] at a d;subst a d;simpa[iD,tv] using h
 | cons k ks l =>
  intro cs ds e b vs us h a d;cases cs with
  | nil=>cases k<;>simp[tv] at h
  | cons c cs =>
   cases ds with
   | nil=>cases k<;>cases c<;>simp[tv] at h
   | cons n ds =>
    cases k<;>cases c<;>try (simp[tv] at h;done)
    all_goals cases n<;>try (simp[tv] at h;done)
    all_goals simp only[aB,Rel] at a d
    ·obtain⟨v,f,rfl,rfl,a⟩:=a;obtain⟨u,j,rfl,rfl,d⟩:=d;simp only[tv] at h;have:=l h a d;simp only[iD];exact this
    ·obtain⟨v,f,rfl,⟨rfl,_⟩,a⟩:=a;obtain⟨u,j,rfl,⟨rfl,_⟩,d⟩:=d;simp only[tv] at h;split at h
     case h_2=>cases h
     rename_i m;have:=l h a d;simp only[iD,m];exact this
theorem M9 (v:Value):Rel F L (cv v) v:=by
 unfold cv;split
 ·rename_i cs;simp only[Rel];exact⟨cs.toList,by simp,kI _⟩
 ·exact zH v
theorem zM {x:X}{k:Nat}(h:∀j,aN F L (τ j) (ρ j)) (e:bW τ x=.mpr k):∃g cs,ev ρ x=.v (.map (some g))/\L.get k=some (.box g 0 cs):=by
 have:=dc h x;rw[e] at this;simp only[aN,Rel] at this;obtain⟨v,a,g,cs,b,rfl⟩:=this;exact⟨g,cs,a,b⟩
theorem CF (h:cP F L M) {k:Nat}{es:List (C×C)}(e:M.get k=some (.map es)):∃g vs,L.get k=some (.box g 0 vs)/\iQ F es vs:=by
 have:=h k;rw[e] at this;cases a:L.get k with
 | none=>rw[a] at this;exact this.elim
 | some o =>
  rw[a] at this;cases o with
  | row=>exact this.elim
  | box g c vs=>obtain⟨rfl,b⟩:=this;exact⟨g,vs,rfl,b⟩
theorem iQ.isMap {es:List (C×C)}{vs:List Value}(h:iQ F es vs):mN vs=true:=by
 cases es with
 | nil=>simp only[iQ] at h;subst h;rfl
 | cons p l =>
  obtain⟨k,c⟩:=p;simp only[iQ] at h;obtain⟨kv,v,a,rfl,_⟩:=h;rfl
theorem iQ.len:∀{es:List (C×C)}{vs:List Value},iQ F es vs->vs.length=es.length
 | [],vs,h=>by simp only[iQ] at h;subst h;rfl
 | (k,c)::l,vs,h=>by
  simp only[iQ] at h;obtain⟨kv,v,a,rfl,_,_,h⟩:=h;simp[iQ.len h]
theorem pU {str:Bool}{a b:C}{u v:Value}{r:Bool}{L':Loc}(h:lY str a b=some r) (c:Rel F L a u) (hb:Rel F L' b v):fq str u v=some r:=by
 unfold lY at h;split at h
 ·simp only[Rel] at c hb;rw[c.1,hb.1];exact h
 ·simp only[Rel] at c hb;rw[c.1,hb.1];exact h
 ·cases h
theorem vZ {str:Bool}{key:C}{kv:Value}(a:∀b v r,lY str key b=some r->Rel F [] b v->fq str kv v=some r):∀{es:List (C×C)}{vs:List Value}{o:Option C}(i:Nat),iQ F es vs->yC str key es=some o ->
  match o with | some c=>∃j v,lQ str kv vs i=some (some (j,v))/\Rel F [] c v | none=>lQ str kv vs i=some none
 | [],vs,o,i,h,e=>by
  simp only[iQ] at h;subst h;simp only[yC,xo] at e;subst e;rfl
 | (k,c)::l,vs,o,i,h,e=>by
  simp only[iQ] at h;obtain⟨u,v,n,rfl,f,m,p⟩:=h;simp only[yC] at e;split at e
  ·rename_i d;injection e with e
   subst e;exact⟨i,v,by simp only[lQ,a _ _ _ d f],m⟩
  ·rename_i d;have:=vZ a (i+1) p e;simp only[lQ,a _ _ _ d f];exact this
  ·cases e
theorem yH {c:C}{v:Value}{b:Bool}(h:Rel F L c v):aN F L (.tup [c,.bool b]) (.v (.tuple #[v,.bool b])) :=
 ⟨_,rfl,by simp only[Rel,aB];exact⟨[v,.bool b],rfl,v,_,rfl,h,_,[],rfl,rfl,rfl⟩⟩
theorem Dz (h:∀j,aN F L (τ j) (ρ j)) {str:Bool}{x:X}:∀b v r,lY str (bW τ x) b=some r->Rel F [] b v->fq str (val L ρ x) v=some r:=by
 intro b v r a hb;refine pU (F:=F) (L:=L) a ?_ hb;have:=sA h x
 revert this
 cases c:bW τ x<;>rw[c] at a<;>cases str<;>simp only[lY,reduceCtorEq] at a<;>simp only[C.cel]<;>exact fun h=>h
theorem Qj {o:dU}{V:C->Prop}(ht:TS G F L ρ M τ) (h:outT o M τ V):aI o F L ρ (fun sv=>∃c,aN F L c sv/\V c):=by
 have he:=ht.env;cases o<;>simp only[outT] at h<;>simp only[aI]
 case mov x=>exact⟨_,dc he x,h⟩
 case pick c a b =>
  split at h
  case h_2=>exact h.elim
  rename_i t hc;rw[gW he hc];cases t
  ·exact⟨_,dc he b,h⟩
  ·exact⟨_,dc he a,h⟩
 case build zs ps =>
  rw[dW] at h;obtain⟨cs,hc,h⟩:=tw h;obtain⟨us,h1,h2⟩:=yF he ps (kI zs) hc;rw[h1];exact⟨.agg cs,⟨_,rfl,by simp only[Rel];exact⟨us,rfl,h2⟩⟩,h⟩
 case load agg n x =>
  split at h
  ·rename_i k off w;obtain⟨d,_⟩:=eB he w;rw[d];split at h
   case h_3=>exact h.elim
   case h_2 =>
    rename_i t pre cs post hk;obtain⟨g,ty,v1,v2,v3,hL,be,hr,cz,an⟩:=rE ht.tl hk;rcases h with⟨o,rfl,h⟩ | ⟨us,e,hl,h⟩
    case inr =>
     have p:=((be.lift (L:=L)).drop off).take n;rw[e] at p;have aa:((v1.drop off).take n).length=n:=by rw[p.len];exact br hl
     have hp:(((v1++(v2++v3)).drop off).take n)=(v1.drop off).take n:=by
      by_cases bi:n=0
      ·subst bi;simp
      have:off+n<=v1.length:=by simp at aa;omega
      rw[List.drop_append_of_le_length (by omega),List.take_append_of_le_length (by simp;omega)]
     simp only[hL];rw[hp,fu an.2.2 (cR aa)];exact⟨_,ct p,h⟩
    split at h
    case h_2=>exact h.elim
    rename_i hl;have p:=(hr.drop o).take n;have aa:((v2.drop o).take n).length=n:=by rw[p.len];exact br hl
    simp only[hL]
    by_cases bi:n=0
    ·subst bi;rw[fu an.2.2 (cR (by simp))];simp only[List.take_zero] at h p ⊢;exact⟨_,ct p,h⟩
    have hn:o+n<=v2.length:=by simp at aa;omega
    have hp:=Bj (v1:=v1) (v3:=v3) aa hn;rw[<-be.len,hp,fu an.2.2 (cR aa)];exact⟨_,ct p,h⟩
   rename_i t cs hk;obtain⟨g,ty,vs,hL,hr,an⟩:=jV ht.tl hk;split at h
   case h_2=>exact h.elim
   rename_i hl;have p:=(hr.drop off).take n;simp only[hL];rw[fu an.2.2 (cR (by rw[p.len];exact br hl))];exact⟨_,ct p,h⟩
  ·rename_i es off w;split at h
   case h_2=>exact h.elim
   rename_i hl;obtain⟨b,o,j,vs,d,hp,ho,hr⟩:=om he w;have p:aB F L ((es.drop off).take n) ((vs.drop off).take n):=((hr.drop off).take n).lift;rcases d with⟨d,rfl⟩ | d
   ·rw[d];exact⟨_,by rw[p.len];exact br hl,.inl (jt (es:=es) hp),_,ct p,h⟩
   ·rw[d];exact⟨_,by rw[p.len];exact br hl,.inl (jt (es:=es) hp),_,ct p,h⟩
  ·rename_i k off w;split at h
   case h_3=>exact h.elim
   case h_2 =>
    rename_i t pre cs post hk;obtain⟨g',ty',cw,d,bl⟩:=mr he w;obtain⟨g,ty,v1,v2,v3,hL,be,hr,cz,an⟩:=rE ht.tl hk;rw[hL] at d;injection d with d
    injection d with q1 q2 q3
    subst q1 q2 q3;rcases h with⟨o,rfl,h⟩ | ⟨us,e,hl,h⟩
    case inr =>
     have p:=((be.lift (L:=L)).drop off).take n;rw[e] at p;have aa:((v1.drop off).take n).length=n:=by rw[p.len];exact br hl
     have az:∀(i:Nat) (u:Value),((v1.drop off).take n)[i]?=some u->(v1++(v2++v3))[off+i]?=some u:=by
      intro i u hu;rw[XL] at hu;split at hu
      case isFalse=>cases hu
      rw[XH] at hu;rw[Xl (Xe.1 hu).1];exact hu
     rcases bl with e2 | ⟨b,q,j,e2,e3⟩
     ·rw[e2];exact⟨_,aa,.inr (.inr (.inr ⟨k,g,ty,_,_,hL,an.2.2,rfl,fun i u hu=>by rw[Nat.add_zero];exact az i u hu⟩)),_,ct p,h⟩
     ·injection e3 with e3
      injection e3 with e3
      injection e3 with q1 q2 q3
      subst q1;rw[e2];exact⟨_,aa,.inr (.inr (.inr ⟨k,g,ty,_,q,hL,an.2.2,rfl,fun i u hu=>by rw[<-q2];exact az i u hu⟩)),_,ct p,h⟩
    split at h
    case h_2=>exact h.elim
    rename_i hl;have p:=(hr.drop o).take n;have aa:((v2.drop o).take n).length=n:=by rw[p.len];exact br hl
    have az:∀(i:Nat) (u:Value),((v2.drop o).take n)[i]?=some u->(v1++(v2++v3))[pre.length+o+i]?=some u:=by
     intro i u hu;rw[XL] at hu;split at hu
     case isFalse=>cases hu
     rw[XH] at hu;have bz:=(Xe.1 hu).1;rw[<-be.len,Xr (by omega),show v1.length+o+i-v1.length=o+i by omega,Xl bz];exact hu
    rcases bl with e2 | ⟨b,q,j,e2,e3⟩
    ·rw[e2];exact⟨_,aa,.inr (.inr (.inr ⟨k,g,ty,_,_,hL,an.2.2,rfl,fun i u hu=>by rw[Nat.add_zero];exact az i u hu⟩)),_,ct p,h⟩
    ·injection e3 with e3
     injection e3 with e3
     injection e3 with q1 q2 q3
     subst q1;rw[e2];exact⟨_,aa,.inr (.inr (.inr ⟨k,g,ty,_,q,hL,an.2.2,rfl,fun i u hu=>by rw[<-q2];exact az i u hu⟩)),_,ct p,h⟩
   rename_i t cs hk;obtain⟨g',ty',cw,d,bl⟩:=mr he w;obtain⟨g,ty,vs,hL,hr,an⟩:=jV ht.tl hk;rw[hL] at d;injection d with d
   injection d with q1 q2 q3
   subst q1 q2 q3;split at h
   case h_2=>exact h.elim
   rename_i hl;have p:=(hr.drop off).take n;have aa:((vs.drop off).take n).length=n:=by rw[p.len];exact br hl
   have az:∀(i:Nat) (u:Value),((vs.drop off).take n)[i]?=some u->vs[off+i]?=some u:=by
    intro i u hu;rw[XL] at hu;split at hu
    case isFalse=>cases hu
    rwa [XH] at hu
   rcases bl with e2 | ⟨b,o,j,e2,e3⟩
   ·rw[e2];exact⟨_,aa,.inr (.inr (.inr ⟨k,g,ty,vs,off,hL,an.2.2,rfl,fun i u hu=>by rw[Nat.add_zero];exact az i u hu⟩)),_,ct p,h⟩
   ·injection e3 with e3
    injection e3 with e3
    injection e3 with q1 q2 q3
    subst q1 q2;rw[e2];exact⟨_,aa,.inr (.inr (.inr ⟨k,g,ty,vs,o,hL,an.2.2,rfl,fun i u hu=>az i u hu⟩)),_,ct p,h⟩
  ·rename_i k j off w;split at h
   case h_2=>exact h.elim
   rename_i t sz els hk;obtain⟨es,h1,h2,h3⟩:=h;obtain⟨ad,t',aE,m,c,cc,d,e2⟩:=sw he w;obtain⟨v,xs,e3,_,hr⟩:=jW ht.tl hk;rw[e2] at e3;injection e3 with e3
   injection e3 with q1 q2 q3 q4 q5
   subst q2 q3 q5;obtain⟨vs,k1,k2,k3,k4⟩:=hr.at h1;have p:aB F L ((es.drop off).take n) ((vs.drop off).take n):=((k3.drop off).take n).lift;rw[d];refine⟨_,by rw[p.len];exact br h2,.inr (.inl ⟨k,_,_,_,_,_,ad,c,e2,rfl,rfl,fun i u hu=>?_⟩),_,ct p,h3⟩;rw[XL] at hu;split at hu
   case isFalse=>cases hu
   rw[XH] at hu;rw[Nat.add_assoc];exact k4 _ _ hu
  ·rename_i k bx j w;split at h
   case h_2=>exact h.elim
   rename_i hn;obtain rfl:=v8 hn;obtain⟨o,h1,h2⟩:=h;obtain⟨g,t,cs,ad,d,e2,e3⟩:=JH he w;rw[e2];exact⟨_,rfl,.inl (CC e3 (v:=.pointer (some ⟨g,o,none⟩)) (by rw[XR,h1];rfl)),.ownv k o,⟨_,.inl rfl,by simp only[Rel];exact⟨g,t,cs,d,rfl⟩⟩,h2⟩
  ·exact h.elim
 case loadR agg n x =>
  split at h
  ·rename_i k off w;obtain⟨d,_⟩:=eB he w;rw[d];split at h
   case h_2=>exact h.elim
   rename_i t cs hk;obtain⟨g,ty,vs,hL,hr,an⟩:=jV ht.tl hk;split at h
   case h_2=>exact h.elim
   rename_i hl;have p:=(hr.drop off).take n;simp only[hL];rw[fu an.2.2 (cR (by rw[p.len];exact br hl))];exact⟨_,ct p,h⟩
  ·rename_i es off w;split at h
   case h_2=>exact h.elim
   rename_i hl;obtain⟨b,o,j,vs,d,hp,ho,hr⟩:=om he w;have p:aB F L ((es.drop off).take n) ((vs.drop off).take n):=((hr.drop off).take n).lift;rcases d with⟨d,rfl⟩ | d
   ·rw[d];exact⟨_,by rw[p.len];exact br hl,.inl (jt (es:=es) hp),_,ct p,h⟩
   ·rw[d];exact⟨_,by rw[p.len];exact br hl,.inl (jt (es:=es) hp),_,ct p,h⟩
  ·rename_i k off w;split at h
   case h_2=>exact h.elim
   rename_i t cs hk;obtain⟨g',ty',cw,d,bl⟩:=mr he w;obtain⟨g,ty,vs,hL,hr,an⟩:=jV ht.tl hk;rw[hL] at d;injection d with d
   injection d with q1 q2 q3
   subst q1 q2 q3;split at h
   case h_2=>exact h.elim
   rename_i hl;have p:=(hr.drop off).take n;have aa:((vs.drop off).take n).length=n:=by rw[p.len];exact br hl
   have az:∀(i:Nat) (u:Value),((vs.drop off).take n)[i]?=some u->vs[off+i]?=some u:=by
    intro i u hu;rw[XL] at hu;split at hu
    case isFalse=>cases hu
    rwa [XH] at hu
   rcases bl with e2 | ⟨b,o,j,e2,e3⟩
   ·rw[e2];exact⟨_,aa,.inr (.inr (.inr ⟨k,g,ty,vs,off,hL,an.2.2,rfl,fun i u hu=>by rw[Nat.add_zero];exact az i u hu⟩)),_,ct p,h⟩
   ·injection e3 with e3
    injection e3 with e3
    injection e3 with q1 q2 q3
    subst q1 q2;rw[e2];exact⟨_,aa,.inr (.inr (.inr ⟨k,g,ty,vs,o,hL,an.2.2,rfl,fun i u hu=>az i u hu⟩)),_,ct p,h⟩
  ·rename_i k j off w;split at h
   case h_2=>exact h.elim
   rename_i t sz els hk;obtain⟨es,h1,h2,h3⟩:=h;obtain⟨ad,t',aE,m,c,cc,d,e2⟩:=sw he w;obtain⟨v,xs,e3,_,hr⟩:=jW ht.tl hk;rw[e2] at e3;injection e3 with e3
   injection e3 with q1 q2 q3 q4 q5
   subst q2 q3 q5;obtain⟨vs,k1,k2,k3,k4⟩:=hr.at h1;have p:aB F L ((es.drop off).take n) ((vs.drop off).take n):=((k3.drop off).take n).lift;rw[d];refine⟨_,by rw[p.len];exact br h2,.inr (.inl ⟨k,_,_,_,_,_,ad,c,e2,rfl,rfl,fun i u hu=>?_⟩),_,ct p,h3⟩;rw[XL] at hu;split at hu
   case isFalse=>cases hu
   rw[XH] at hu;rw[Nat.add_assoc];exact k4 _ _ hu
  ·exact h.elim
 case loadD agg n x =>
  split at h
  ·rename_i k off w;obtain⟨d,_⟩:=eB he w;rw[d];split at h
   case h_3=>exact h.elim
   case h_2 =>
    rename_i t pre cs post hk;obtain⟨g,ty,v1,v2,v3,hL,be,hr,cz,an⟩:=rE ht.tl hk;rcases h with⟨o,rfl,h⟩ | ⟨us,e,hl,h⟩
    case inr =>
     have p:=((be.lift (L:=L)).drop off).take n;rw[e] at p;have aa:((v1.drop off).take n).length=n:=by rw[p.len];exact br hl
     have hp:(((v1++(v2++v3)).drop off).take n)=(v1.drop off).take n:=by
      by_cases bi:n=0
      ·subst bi;simp
      have:off+n<=v1.length:=by simp at aa;omega
      rw[List.drop_append_of_le_length (by omega),List.take_append_of_le_length (by simp;omega)]
     simp only[hL];rw[hp,fu an.2.2 (cR aa)];exact⟨_,ct p,h⟩
    split at h
    case h_2=>exact h.elim
    rename_i hl;have p:=(hr.drop o).take n;have aa:((v2.drop o).take n).length=n:=by rw[p.len];exact br hl
    simp only[hL]
    by_cases bi:n=0
    ·subst bi;rw[fu an.2.2 (cR (by simp))];simp only[List.take_zero] at h p ⊢;exact⟨_,ct p,h⟩
    have hn:o+n<=v2.length:=by simp at aa;omega
    have hp:=Bj (v1:=v1) (v3:=v3) aa hn;rw[<-be.len,hp,fu an.2.2 (cR aa)];exact⟨_,ct p,h⟩
   rename_i t cs hk;obtain⟨g,ty,vs,hL,hr,an⟩:=jV ht.tl hk;split at h
   case h_2=>exact h.elim
   rename_i hl;have p:=(hr.drop off).take n;simp only[hL];rw[fu an.2.2 (cR (by rw[p.len];exact br hl))];exact⟨_,ct p,h⟩
  ·rename_i es off w;split at h
   case h_2=>exact h.elim
   rename_i hl;obtain⟨b,o,j,vs,d,hp,ho,hr⟩:=om he w;have p:aB F L ((es.drop off).take n) ((vs.drop off).take n):=((hr.drop off).take n).lift;rcases d with⟨d,rfl⟩ | d
   ·rw[d];exact⟨_,by rw[p.len];exact br hl,.inl (jt (es:=es) hp),_,ct p,h⟩
   ·rw[d];exact⟨_,by rw[p.len];exact br hl,.inl (jt (es:=es) hp),_,ct p,h⟩
  ·exact h.elim
 case gload g =>
  split at h
  case h_2=>exact h.elim
  rename_i k hg;obtain⟨v,t,fr,h1,h2⟩:=FQ ht.glob hg;exact⟨v,t,fr,h1,.opq k,⟨_,rfl,by simp only[Rel];exact h2⟩,h⟩
 case loadF agg n x =>
  split at h
  ·rename_i es off w;split at h
   case h_2=>exact h.elim
   rename_i hl;obtain⟨b,o,j,vs,d,hp,ho,hr⟩:=om he w;have p:aB F L ((es.drop off).take n) ((vs.drop off).take n):=((hr.drop off).take n).lift;rcases d with⟨d,rfl⟩ | d
   ·rw[d];exact⟨_,by rw[p.len];exact br hl,.inl (jt (es:=es) hp),_,ct p,h⟩
   ·rw[d];exact⟨_,by rw[p.len];exact br hl,.inl (jt (es:=es) hp),_,ct p,h⟩
  ·exact h.elim
 case loadK key agg n x =>
  split at h
  ·rename_i k off w;obtain⟨d,_⟩:=eB he w;rw[d];split at h
   case h_2=>exact h.elim
   rename_i hb;simp only[hb];split at h
   case h_2=>exact h.elim
   rename_i t cs hk;obtain⟨g,ty,vs,hL,hr,an⟩:=jV ht.tl hk;split at h
   case h_2=>exact h.elim
   rename_i hl;have p:=(hr.drop off).take n;simp only[hL];rw[fu an.2.2 (cR (by rw[p.len];exact br hl))];exact⟨_,ct p,h⟩
  ·exact h.elim
 case b2sD x =>
  split at h
  ·rename_i els w;obtain⟨bs,rfl,h⟩:=h;obtain⟨a,c,sz,d,e2,e3,e4,e5⟩:=jv he w;rw[d];have aa:(af bs).length=bs.length:=by simp[af]
   refine⟨bs.map fun b=>Value.int .u8 b.toNat,by simp[aa],?_,bs,rfl,_,sD ?_,h⟩
   ·rcases uj e5 e4 with h1 | h1
    ·exact .inl h1
    ·exact .inr (by rw[aa];exact h1)
   ·rw[aa] at e2;show bs.toArray.size<=maxLen;simp;exact(by simpa[af] using e3)
  ·exact h.elim
 case b2sR x =>
  split at h
  case h_2=>exact h.elim
  rename_i k w;split at h
  case h_2=>exact h.elim
  rename_i t sz els hk;split at h
  case h_2=>exact h.elim
  rename_i bu;have:=v8 bu;subst this;obtain⟨bs,rfl,h⟩:=h;obtain⟨a,c,t',aE,n,cc,d,e2⟩:=rC he w;obtain⟨v,xs,e3,⟨hm,a',c',q6,q7⟩,hr⟩:=jW ht.tl hk;have aa:(af bs).length=bs.length:=by simp[af]
  rw[e2] at e3;injection e3 with e3
  injection e3 with q1 q2 q3 q4 q5
  subst q2 q3 q4 q5;have w:=yG hr;subst w;rw[<-q1] at q6;injection q6 with q6 q8
  subst q6;rw[d];refine⟨k,_,c,bs,e2,aa.symm,q7,_,sD ?_,h⟩;show bs.toArray.size<=maxLen;simp;omega
 case mkif t x =>
  split at h
  ·rename_i k n w;obtain⟨d,e2⟩:=dY he w;rw[d];exact⟨.ifc t (.int k n),⟨_,rfl,by simp only[Rel];exact⟨_,rfl,rfl,e2⟩⟩,h⟩
  ·rename_i b w;rw[gW he w];exact⟨.ifc t (.bool b),⟨_,rfl,by simp only[Rel];exact⟨_,rfl,rfl⟩⟩,h⟩
  ·rename_i s w;obtain⟨d,e2⟩:=jr he w;rw[d];exact⟨.ifc t (.str s),⟨_,rfl,by simp only[Rel];exact⟨_,rfl,rfl,e2⟩⟩,h⟩
  ·rename_i es off w;obtain⟨b,o,j,vs,d,hp,ho,hr⟩:=om he w;rcases d with⟨d,rfl⟩ | d
   ·rw[d];exact⟨.ifc t (.pt es off),⟨_,rfl,by simp only[Rel];exact⟨_,rfl,b,o,vs,rfl,hp,ho,hr⟩⟩,h⟩
   ·rw[d];exact⟨.ifc t (.pt es off),⟨_,rfl,by simp only[Rel];exact⟨_,rfl,b,o+j,vs,by rw[bV],hp,ho,hr⟩⟩,h⟩
  ·rename_i k off w;obtain⟨d,g,t',cs,e2⟩:=eB he w;rw[d];simp only[e2];exact⟨.ifo none t k off,⟨_,rfl,by simp only[Rel];exact⟨g,t',cs,e2,rfl⟩⟩,h⟩
  ·rename_i k off w;obtain⟨g,t',cs,d,e2⟩:=mr he w;rcases e2 with e2 | ⟨b,o,j,e2,e3⟩
   ·rw[e2];exact⟨.ifo none t k off,⟨_,rfl,by simp only[Rel];exact⟨g,t',cs,d,rfl⟩⟩,h⟩
   ·rw[e2];exact⟨.ifo none t k off,⟨_,rfl,by simp only[Rel];exact⟨g,t',cs,d,by rw[bV,e3];rfl⟩⟩,h⟩
  ·rename_i cs w;split at h
   case h_2=>exact h.elim
   rename_i hp;rw[dW] at h;obtain⟨vs,d,e2⟩:=uT he w;rw[d];exact⟨.ifc t (.agg cs),⟨_,rfl,by simp only[Rel];exact⟨_,rfl,vs,rfl,dV hp e2⟩⟩,h⟩
  ·exact h.elim
 case mkmv nm x =>
  split at h
  ·rename_i t c w;obtain⟨u,d,hr⟩:=zI he w;rw[d];exact⟨.mval nm (.ifc t c),⟨_,rfl,by simp only[Rel];exact⟨_,rfl,_,rfl,hr⟩⟩,h⟩
  ·rename_i t k off w;obtain⟨g,t',cs,hg,d⟩:=ol he w;rw[d];exact⟨.ifo (some nm) t k off,⟨_,rfl,by simp only[Rel];exact⟨g,t',cs,hg,rfl⟩⟩,h⟩
  ·exact h.elim
 case nilck x =>
  split at h
  ·rename_i k off w;obtain⟨d,e2⟩:=eB he w;rw[d];exact⟨.own k off,⟨rfl,e2⟩,h⟩
  ·rename_i es off w;obtain⟨b,o,j,vs,d,hp,ho,hr⟩:=om he w;rcases d with⟨d,rfl⟩ | d
   ·rw[d];exact⟨.pt es off,⟨b,o,0,vs,.inl ⟨rfl,rfl⟩,hp,ho,hr⟩,h⟩
   ·rw[d];exact⟨by simp,.pt es off,⟨b,o,j,vs,.inr rfl,hp,ho,hr⟩,h⟩
  ·rename_i k off w;obtain⟨g,t,cs,d,e2⟩:=mr he w;rcases e2 with e2 | ⟨b,o,j,e2,e3⟩
   ·rw[e2];exact⟨.ownv k off,⟨_,.inl rfl,by simp only[Rel];exact⟨g,t,cs,d,rfl⟩⟩,h⟩
   ·rw[e2];exact⟨by simp,.ownv k off,⟨_,.inr ⟨b,o,j,rfl,rfl⟩,by simp only[Rel];exact⟨g,t,cs,d,e3.symm⟩⟩,h⟩
  ·rename_i f fi ca w;obtain⟨db,cy,d,h1,h2⟩:=rD he w;rw[d];exact⟨.fn f fi ca,⟨_,rfl,by simp only[Rel];exact⟨db,cy,rfl,h1,h2⟩⟩,h⟩
  ·rename_i nm c w;split at h
   case h_2=>exact h.elim
   rename_i t c;obtain⟨u,d,hr⟩:=vY he w;have dy:=hr;simp only[Rel] at hr;obtain⟨u',rfl,hu⟩:=hr;rw[d];exact⟨h.1,.mval nm (.ifc t c),⟨_,rfl,by simp only[Rel];exact⟨_,rfl,_,rfl,hu⟩⟩,h.2⟩
  ·rename_i nm t k off w;obtain⟨g,t',cs,hg,d⟩:=ol he w;rw[d];exact⟨h.1,.ifo (some nm) t k off,⟨_,rfl,by simp only[Rel];exact⟨g,t',cs,hg,rfl⟩⟩,h.2⟩
  ·exact h.elim
 case bin op x y =>
  split at h
  ·rename_i k a k' b w hy;obtain⟨d,w1⟩:=dY he w;obtain⟨e2,w2⟩:=dY he hy;rw[d,e2];split at h
   ·rename_i ci;simp only[ci];exact GS w1 h fun v hv hV=>⟨_,vX hv,hV⟩
   ·rename_i ci;simp only[ci];split at h
    case h_2=>exact h.elim
    rename_i hk;simp only[hk];exact EW w1 h fun v hv hV=>⟨_,vX hv,hV⟩
  ·rename_i a b w hy;rw[(jr he w).1,(jr he hy).1];exact EX h fun v hv hV=>⟨_,vX hv,hV⟩
  ·exact h.elim
 case eqB neg x y =>
  split at h
  case h_2=>exact h.elim
  rename_i a b w hy;rw[gW he w,gW he hy];exact⟨_,cC,h⟩
 case eqP neg x y =>
  have hy:Cy y=true->ev ρ y=.v (.pointer none):=by
   unfold Cy;split
   ·intro _;rfl
   ·intro e;cases e
  split at h
  ·rename_i k off h1 w;rw[(eB he w).1,hy h1];exact⟨_,cC,h⟩
  ·rename_i k off h1 w;obtain⟨g,t,cs,d,e2⟩:=mr he w;rcases e2 with e2 | ⟨b,o,j,e2,_⟩
   ·rw[e2,hy h1];exact⟨_,cC,h⟩
   ·rw[e2,hy h1];exact⟨_,cC,h⟩
  ·rename_i es off h1 w;obtain⟨b,q,j,vs,d,hp,ho,hr⟩:=om he w;rcases d with⟨d,rfl⟩ | d
   ·rw[d,hy h1];exact⟨_,cC,h⟩
   ·rw[d,hy h1];exact⟨_,cC,h⟩
  ·rename_i h1 w;rw[GU he w,hy h1];exact⟨_,cC,h⟩
  ·exact h.elim
 case eqS neg x y =>
  have hy:isNil y=true->ev ρ y=.v (.slice none 0 0):=by
   unfold isNil;split
   ·intro _;rfl
   ·intro e;cases e
  split at h
  ·rename_i els h1 w;obtain⟨a,c,sz,d,e2,e3,e4,e5⟩:=M8 he w;rw[d,hy h1];refine⟨_,cC,h _ fun bk=>?_⟩;cases a with
   | none=>exact v7 (e4 rfl).1 bk
   | some a=>rfl
  ·rename_i els h1 w;obtain⟨a,sz,d,_⟩:=zL he w;rw[d,hy h1];exact⟨_,cC,h⟩
  ·rename_i h1 w;rw[nL he w,hy h1];exact⟨_,cC,h⟩
  ·exact h.elim
 case eqF neg x y =>
  have hy:Cz y=true->ev ρ y=.v .nilFunc:=by
   unfold Cz;split
   ·intro _;rfl
   ·intro e;cases e
  split at h
  ·rename_i h1 w;rw[GV he w,hy h1];exact⟨_,cC,h⟩
  ·rename_i f fi ca h1 w;obtain⟨db,cy,d,_,_⟩:=rD he w;rw[d,hy h1];exact⟨_,cC,h⟩
  ·exact h.elim
 case eqN neg x =>
  split at h
  ·rename_i t c w;obtain⟨u,d,_⟩:=zI he w;rw[d];exact⟨_,cC,h⟩
  ·rename_i t k off w;obtain⟨g,t',cs,hg,d⟩:=ol he w;rw[d];exact⟨_,cC,h⟩
  ·rename_i k w;split at h
   case h_2=>exact h.elim
   rename_i b hb;obtain⟨v,d,h1⟩:=zJ he w;rw[d];obtain⟨q1,q2⟩:=FT h1 hb;cases b with
   | true=>rw[q1 rfl];exact⟨_,cC,h⟩
   | false=>obtain⟨t,u,rfl⟩:=q2 rfl;exact⟨_,cC,h⟩
  ·exact h.elim
 case tas t z x =>
  have hz:Rel F L (cv z).cel z:=kJ (M7 z);split at h
  ·rename_i t' c w;obtain⟨u,d,hr⟩:=zI he w;rw[d];simp only[Dt] at h;cases hb:Nat.beq t' t with
   | true =>
    rw[hb] at h;simp only[hb];exact⟨.tup [c,.bool true],⟨_,rfl,by simp only[Rel];exact⟨[u,.bool true],rfl,by simp only[aB,Rel];exact⟨_,_,rfl,hr.lift,_,_,rfl,rfl,rfl⟩⟩⟩,h⟩
   | false =>
    rw[hb] at h;simp only[hb];exact⟨.tup [(cv z).cel,.bool false],⟨_,rfl,by simp only[Rel];exact⟨[z,.bool false],rfl,by simp only[aB,Rel];exact⟨_,_,rfl,hz,_,_,rfl,rfl,rfl⟩⟩⟩,h⟩
  ·rename_i t' k off w;obtain⟨g,t0,cs,hg,d⟩:=ol he w;rw[d];simp only[Dt] at h;cases hb:Nat.beq t' t with
   | true =>
    rw[hb] at h;simp only[Bf,hb];exact⟨.tup [.own k off,.bool true],⟨_,rfl,by simp only[Rel];exact⟨[.pointer (some ⟨g,off,none⟩),.bool true],rfl,by simp only[aB,Rel];exact⟨_,_,rfl,⟨g,t0,cs,hg,rfl⟩,_,_,rfl,rfl,rfl⟩⟩⟩,h⟩
   | false =>
    rw[hb] at h;simp only[Bf,hb];exact⟨.tup [(cv z).cel,.bool false],⟨_,rfl,by simp only[Rel];exact⟨[z,.bool false],rfl,by simp only[aB,Rel];exact⟨_,_,rfl,hz,_,_,rfl,rfl,rfl⟩⟩⟩,h⟩
  ·exact h.elim
 case eqA neg ks x y =>
  split at h
  case h_2=>exact h.elim
  rename_i cs ds w hy;split at h
  case h_2=>exact h.elim
  rename_i b hb;obtain⟨vs,d,h1⟩:=uT he w;obtain⟨us,e2,h2⟩:=uT he hy;simp only[d,e2];rw[JL hb h1 h2];exact⟨_,cC,h⟩
 case un op x =>
  split at h
  ·rename_i b w;rw[gW he w];exact⟨_,cC,h⟩
  ·rename_i k n w;rw[(dY he w).1];exact⟨⟨_,gY (wf_wrap _ _),h.out⟩⟩
  ·rename_i k n w;rw[(dY he w).1];exact⟨_,gY (wf_wrap _ _),h⟩
  ·exact h.elim
 case conv k x =>
  split at h
  case h_2=>exact h.elim
  rename_i k' n w;rw[(dY he w).1];exact⟨⟨_,gY (wf_wrap _ _),h.out⟩⟩
 case b2s x =>
  split at h
  ·rename_i els w;obtain⟨bs,rfl,h⟩:=h;obtain⟨a,c,sz,d,e2,e3,e4,e5⟩:=jv he w;rw[d];have aa:(af bs).length=bs.length:=by simp[af]
   refine⟨bs.map fun b=>Value.int .u8 b.toNat,by simp[aa],?_,bs,rfl,_,sD ?_,h⟩
   ·rcases uj e5 e4 with h1 | h1
    ·exact .inl h1
    ·exact .inr (.inr (.inl (by rw[aa];exact h1)))
   ·rw[aa] at e2;show bs.toArray.size<=maxLen;simp;exact(by simpa[af] using e3)
  ·exact h.elim
 case mkfn f fi ca=>exact⟨.fn f _ _,⟨_,rfl,by simp only[Rel];exact⟨_,_,rfl,cN he fi,cN he ca⟩⟩,h⟩
 case slc sz x lo hi =>
  split at h
  case h_2=>exact h.elim
  rename_i els w;split at h
  case h_2=>exact h.elim
  rename_i l r hl hh;obtain⟨h1,h2,h3,h4,h5⟩:=h;obtain⟨a,c,aE,d,e2,e3,e4,e5⟩:=jv he w;rw[d];simp only[uU he hl,uU he hh];refine⟨h1,h2,by omega,_,?_,h5⟩;have aa:((els.drop l.toNat).take (r.toNat-l.toNat)).length=r.toNat-l.toNat:=by simp;omega
  have hs:els≠[]->aE=sz:=by
   intro bk;obtain⟨es,cY⟩:=List.exists_mem_of_ne_nil _ bk;obtain⟨i,hi⟩:=XB.1 cY;obtain⟨vs,k1,_,_,k4⟩:=lZ.1 e5 i es hi;rw[<-k1,k4.len,h4 es cY]
  have key:=GX (l:=l.toNat) (h:=r.toNat) e5 e4 (by omega) (by omega) e2;unfold fC;have:=Dy (F:=F) (L:=L) (els:=(els.drop l.toNat).take (r.toNat-l.toNat)) (a:=if c=l.toNat then a else a.map (·.add (l.toNat*sz))) (c:=c-l.toNat) (sz:=sz) (by rw[aa];omega) (by rw[aa];omega) ?_ ?_
  ·rw[aa] at this;exact this
  ·intro hn;have ha:a=none:=by
    split at hn
    ·exact hn
    ·cases a with
     | none=>rfl
     | some a=>simp at hn
   obtain⟨q1,q2⟩:=e4 ha;subst q1;simp;omega
  ·by_cases bk:els=[]
   ·subst bk;simp only[List.drop_nil,List.take_nil,fI]
   ·rw[hs bk] at key;exact key
 case slcS x lo hi =>
  split at h
  case h_2=>exact h.elim
  rename_i s w;split at h
  case h_2=>exact h.elim
  rename_i l r hl hh;obtain⟨h1,h2,h3,h5⟩:=h;rw[(jr he w).1];simp only[uU he hl,uU he hh];refine⟨h1,h2,h3,_,sD ?_,h5⟩;have:=(jr he w).2;rw[ByteArray.size_extract];omega
 case fieldA off x =>
  split at h
  ·rename_i k o w;obtain⟨d,e2⟩:=eB he w;rw[d];exact⟨.own k (o+off),⟨rfl,e2⟩,h⟩
  ·rename_i es o w;obtain⟨b,q,j,vs,d,hp,ho,hr⟩:=om he w;have cr:∀j',q+j'=q+j+off->JA F b (q+j') (o+off) vs:=by
    intro j' hj;obtain⟨da,cM,t,fr,k1,k2,k3⟩:=hp;exact⟨da,cM,t,fr,k1,by omega,k3⟩
   rcases d with⟨d,rfl⟩ | d
   ·rw[d];exact⟨.pt es (o+off),⟨b,q,off,vs,.inr rfl,cr _ (by omega),ho,hr⟩,h⟩
   ·rw[d];exact⟨.pt es (o+off),⟨b,q,j+off,vs,.inr rfl,cr _ (by omega),ho,hr⟩,h⟩
  ·rename_i k j o w;obtain⟨ad,t,sz,n,c,xs,d,e2⟩:=sw he w;rw[d];exact⟨.elr k j (o+off),⟨ad,t,sz,n,c,xs,by rw[Nat.add_assoc],e2⟩,h⟩
  ·rename_i k o w;obtain⟨g,t,cs,d,e2⟩:=mr he w;rcases e2 with e2 | ⟨b,q,j,e2,e3⟩
   ·rw[e2];exact⟨.ownv k (o+off),⟨_,.inr ⟨g,o,off,rfl,rfl⟩,by simp only[Rel];exact⟨g,t,cs,d,rfl⟩⟩,h⟩
   ·rw[e2];injection e3 with e3
    injection e3 with e3
    injection e3 with e4 e5
    subst e4;exact⟨.ownv k (o+off),⟨_,.inr ⟨g,q,j+off,rfl,rfl⟩,by simp only[Rel];exact⟨g,t,cs,d,by rw[e5,Nat.add_assoc]⟩⟩,h⟩
  ·exact h.elim
 case fieldV agg off n x =>
  split at h
  case h_2=>exact h.elim
  rename_i cs w;split at h
  case h_2=>exact h.elim
  rename_i hl;obtain⟨vs,d,hr⟩:=uT he w;have p:=(hr.drop off).take n;rw[d];simp only[];rw[cR (by rw[p.len];exact br hl)];exact⟨_,ct p,h⟩
 case idxA sz x i =>
  split at h
  ·rename_i els k i w hi;obtain⟨es,h1,h2,h3,h4⟩:=h;obtain⟨a,c,aE,d,e2,e3,e4,e5⟩:=jv he w;rw[d,(dY he hi).1];have bz:i.toNat<els.length:=(Xe.1 h2).1;obtain⟨vs,k1,⟨ad,cM,t,fr,e,hb,dj,hv⟩,k3,k4⟩:=lZ.1 e5 _ _ h2;have hs:aE=sz:=by rw[<-k1,k4.len,br h3]
   subst hs;subst e;refine⟨by simp,h1,by omega,_,GZ hb dj (fun i v hi=>?_) k3 k4,h4⟩;have:=hv i v hi;simpa using this
  ·rename_i k i' i w hi;split at h
   case h_2=>exact h.elim
   rename_i t aE els hk;split at h
   case h_2=>exact h.elim
   rename_i bu;have:=v8 bu;subst this;obtain⟨h1,h2,h3⟩:=h;obtain⟨a,c,t',aE,n,cc,d,e2⟩:=rC he (zK w);obtain⟨v,xs,e3,⟨_,a',c',q6,q7⟩,hr⟩:=jW ht.tl hk;rw[e2] at e3;injection e3 with e3
   injection e3 with q1 q2 q3 q4 q5
   subst q2 q3 q4;rw[d,(dY he hi).1];cases a with
   | none =>
    rw[<-q1] at q6;injection q6 with q6
    have:=q7 q6.symm;omega
   | some ad=>exact⟨by simp,h1,h2,.elr k i.toNat 0,⟨ad,_,_,_,c,_,by simp,e2⟩,h3⟩
  ·rename_i k bx k' i w hi;split at h
   case h_2=>exact h.elim
   rename_i bu;obtain rfl:=v8 bu;obtain⟨h1,h2,h3⟩:=h;obtain⟨g,t,cs,ad,d,e2,e3,e4⟩:=Dw he (Dx w);rw[e2,(dY he hi).1];exact⟨by simp,h1,h2,.slp k bx i.toNat,⟨g,t,cs,ad,d,by rw[Nat.mul_one],e4⟩,h3⟩
  ·exact h.elim
 case idxS x i =>
  split at h
  case h_2=>exact h.elim
  rename_i s k i w hi;obtain⟨h1,h2,h3⟩:=h;rw[(jr he w).1,(dY he hi).1];refine⟨h1,h2,_,gY ?_,h3⟩;have:=(s.data.toList.getD i.toNat 0).toNat_lt;generalize(s.data.toList.getD i.toNat 0).toNat=m at *;simp[Lit.wf,IntKind.min,IntKind.max,IntKind.bits,IntKind.signed];omega
 case extr x i =>
  split at h
  case h_2=>exact h.elim
  rename_i cs w;split at h
  case h_2=>exact h.elim
  rename_i v hv;obtain⟨vs,d,hr⟩:=JF he w;rw[d];have bz:i<vs.length:=by rw[hr.len];exact(Xe.1 hv).1
  simp only[x5 bz];exact⟨_,js (hr.at hv (x5 bz)),h⟩
 case len x =>
  have wl:∀n:Nat,n<=maxLen->(Lit.int .i64 (n:Int)).wf=true:=by
   intro n hn;simp only[maxLen] at hn;simp[Lit.wf,IntKind.min,IntKind.max,IntKind.bits,IntKind.signed];omega
  split at h
  ·rename_i els w;obtain⟨a,c,aE,d,e2,e3,e4,e5⟩:=jv he w;rw[d];exact⟨_,gY (wl _ e3),h⟩
  ·rename_i k w;split at h
   case h_2=>exact h.elim
   rename_i t aE els hk;obtain⟨a,c,t',aE,n,cc,d,e2⟩:=rC he (zK w);obtain⟨v,xs,e3,⟨hm,_⟩,hr⟩:=jW ht.tl hk;rw[e2] at e3;injection e3 with e3
   injection e3 with q1 q2 q3 q4 q5
   subst q4;rw[d];exact⟨_,gY (wl _ hm),h⟩
  ·rename_i k w;obtain⟨n,h1,h2,h3⟩:=h;obtain⟨v,d,e2⟩:=zJ he (JJ w);obtain⟨a,c,rfl⟩:=IU e2 h1;rw[d];exact⟨_,gY (wl _ (by simpa[maxLen] using h2)),h3⟩
  ·rename_i k bx w;obtain⟨g,t,cs,ad,d,e2,e3,e4⟩:=Dw he (Dx w);rw[e2];exact⟨_,gY (wl _ e3),h⟩
  ·exact h.elim
 case lenS x =>
  split at h
  case h_2=>exact h.elim
  rename_i s w;obtain⟨d,e2⟩:=jr he w;rw[d];refine⟨_,gY ?_,h⟩;simp only[maxLen] at e2;simp[Lit.wf,IntKind.min,IntKind.max,IntKind.bits,IntKind.signed];omega
 case mlook str ok z x i =>
  split at h
  case h_2=>exact h.elim
  rename_i k w;split at h
  case h_2=>exact h.elim
  rename_i es hk;obtain⟨g,cs,d,e2⟩:=zM he w;obtain⟨g',vs,e3,hE⟩:=CF ht.tl hk;rw[e2] at e3;injection e3 with e3
  injection e3 with q1 q2 q3
  subst q1 q3;rw[d];refine⟨k,cs,e2,hE.isMap,⟨?_⟩⟩;rcases h.out with⟨c,h1,h2⟩ | ⟨h1,h2⟩
  ·obtain⟨j,v,h3,h4⟩:=vZ (Dz he) 0 hE h1;refine .inl ⟨j,v,h3,?_⟩;have h5:Rel F L c v:=h4.lift;cases ok with
   | true=>exact⟨_,yH h5,h2⟩
   | false=>exact⟨_,js h5,h2⟩
  ·refine .inr ⟨vZ (Dz he) 0 hE h1,?_⟩;have h5:Rel F L (cv z) z:=M9 z;cases ok with
   | true=>exact⟨_,yH h5,h2⟩
   | false=>exact⟨_,M7 z,h2⟩
 case mlen x =>
  split at h
  case h_2=>exact h.elim
  rename_i k w;split at h
  case h_2=>exact h.elim
  rename_i es hk;obtain⟨g,cs,d,e2⟩:=zM he w;obtain⟨g',vs,e3,hE⟩:=CF ht.tl hk;rw[e2] at e3;injection e3 with e3
  injection e3 with q1 q2 q3
  subst q1 q3;rw[d];refine⟨k,cs,e2,hE.isMap,_,gY ?_,?_⟩
  ·rw[hE.len];have:=h.1;simp only[maxLen] at this;simp[Lit.wf,IntKind.min,IntKind.max,IntKind.bits,IntKind.signed];omega
  ·rw[hE.len];exact h.2
 case mm mx args =>
  split at h
  case h_2=>exact h.elim
  rename_i k a l hl;split at h
  case h_2=>exact h.elim
  rename_i m hm
  match args,hl with
  | x::args,hl =>
   simp only[Xj,List.cons.injEq] at hl;obtain⟨w,rfl⟩:=hl;simp only[Xj,(dY he w).1,GW he mx args hm];exact⟨_,gY h.1,h.2⟩
end
theorem TL.Wt (L:TL) (k:Nat) (o:TO) (j:Nat):(L.set k o).get j=if j=k then some o else L.get j:=by
 induction L with
 | nil =>
  simp only[TL.set,TL.get];cases h:Nat.beq k j with
  | true=>have:=v8 h;simp[this]
  | false=>have:=eZ h;simp;omega
 | cons p l b =>
  obtain⟨i,q⟩:=p;simp only[TL.set];cases h:Nat.beq i k with
  | true =>
   have e:=v8 h;subst e;simp only[TL.get];cases a:Nat.beq i j with
   | true=>have:=v8 a;simp[this]
   | false=>have:=eZ a;simp;omega
  | false =>
   have c:=eZ h;simp only[];cases d:Nat.ble i k with
   | true =>
    simp only[TL.get];cases a:Nat.beq i j with
    | true=>have:=v8 a;simp;omega
    | false=>simpa using b
   | false =>
    simp only[TL.get];cases a:Nat.beq k j with
    | true=>have:=v8 a;simp[this]
    | false =>
     have:=eZ a;simp only[];rw[vv (by omega)]
theorem TL.Wy (L:TL) (k j:Nat):(L.del k).get j=if j=k then none else L.get j:=by
 induction L with
 | nil=>simp[TL.del,TL.get]
 | cons p l c =>
  obtain⟨i,q⟩:=p;simp only[TL.del];cases h:Nat.beq i k with
  | true =>
   have e:=v8 h;subst e;simp only[TL.get,c]
   by_cases b:j=i
   ·simp[b]
   ·have:Nat.beq i j=false:=by cases a:Nat.beq i j with | true=>exact v7 (v8 a).symm b | false=>rfl
    simp[b,this]
  | false =>
   have d:=eZ h;simp only[TL.get];cases a:Nat.beq i j with
   | true=>have:=v8 a;simp;omega
   | false=>simpa using c
theorem sF:∀(l:List TO) (k j:Nat),TL.get (iF k l) j=if k<=j then l[j-k]? else none
 | [],k,j=>by simp[iF,TL.get]
 | o::l,k,j=>by
  simp only[iF,TL.get];cases h:Nat.beq k j with
  | true=>have:=v8 h;subst this;simp
  | false =>
   have b:=eZ h;simp only[sF l (k+1) j]
   by_cases a:k<=j
   ·rw[j3 (by omega),j3 a,show j-k=(j-(k+1))+1 by omega,XY]
   ·rw[vv (by omega),vv a]
theorem ck (l:List TO) (j:Nat):TL.get (iO l) j=if 1000<=j then l[j-1000]? else none:=sF l 1000 j
theorem Bk:∀{L:TL}{ks:List Nat}{l:List TO},L.sub ks=some l->l.length=ks.length/\∀(i:Nat) (k:Nat),ks[i]?=some k->L.get k=l[i]?
 | L,[],l,h=>by simp only[TL.sub,xo] at h;subst h;simp
 | L,k::ks,l,h=>by
  simp only[TL.sub] at h;split at h
  case h_2=>cases h
  rename_i o f a c;injection h with h
  subst h;obtain⟨e,d⟩:=Bk c;refine⟨by simp[e],fun i b hi=>?_⟩;cases i with
  | zero=>simp at hi;subst hi;simpa using a
  | succ i=>simp at hi;simpa using d i b hi
theorem nM:∀(ks:List Nat) (L:TL) (j:Nat),(L.Wu ks).get j=if j∈ks then none else L.get j
 | [],L,j=>by simp[TL.Wu]
 | k::ks,L,j=>by
  simp only[TL.Wu,nM ks,TL.Wy,Xh]
  by_cases a:j=k<;>by_cases b:j∈ks<;>simp[a,b]
theorem lN:∀(ko:List Nat) (l:List TO) (L:TL) (j:Nat),ko.Nodup->ko.length=l.length ->
  ((L.puts ko l).get j=L.get j/\j∉ko)\/∃i,ko[i]?=some j/\(L.puts ko l).get j=l[i]?/\i<l.length
 | [],l,L,j,_,h=>by
  refine .inl ⟨?_,by simp⟩;cases l<;>rfl
 | k::ko,[],L,j,_,h=>by simp at h
 | k::ko,o::l,L,j,d,h=>by
  simp only[Xv,Nat.add_right_cancel_iff] at h;rw[List.nodup_cons] at d;simp only[TL.puts];rcases lN ko l (L.set k o) j d.2 h with⟨a,b⟩ | ⟨i,a,b,e⟩
  ·rw[TL.Wt] at a
   by_cases c:j=k
   ·subst c;rw[j3 rfl] at a;exact .inr ⟨0,by simp,by simpa using a,by simp⟩
   ·rw[vv c] at a;exact .inl ⟨a,by simp[c,b]⟩
  ·exact .inr ⟨i+1,by simpa using a,by simpa using b,by simp;omega⟩
theorem pV (g:C->C):∀(L:TL) (k:Nat),(TL.Wv g L).get k=(L.get k).map (TO.Wv g)
 | [],k=>rfl
 | (j,o)::l,k=>by
  simp only[TL.Wv,TL.get];cases h:Nat.beq j k with
  | true=>rfl
  | false=>exact pV g l k
section
variable {P:Program}{G:Nat->Option (Nat×TypeId)}{F:aA}{L:Loc}{ρ:Env}{M:TL}{τ:aU}
theorem zN (d:Option Nat) (c:C) (τ:aU) (t:Nat):bw d c τ t=match d with | some k=>if t=k then c else τ t | none=>τ t:=by
 cases d with
 | none=>rfl
 | some k =>
  simp only[bw];cases h:Nat.beq t k with
  | true=>have:=v8 h;simp[this]
  | false=>have:=eZ h;simp[this]
theorem JM {F:aA}{L:Loc}{τ:aU}{ρ:Env}(h:∀j,aN F L (τ j) (ρ j)) {c:C}{sv:SV}(a:aN F L c sv) (d:Option Nat):∀j,aN F L (bw d c τ j) (put d sv ρ j):=by
 intro j;rw[zN,put_eq];cases d with
 | none=>exact h j
 | some k =>
  simp only[];split
  ·exact a
  ·exact h j
theorem TS.put (a:TS G F L ρ M τ) {c:C}{sv:SV}(b:aN F L c sv) (d:Option Nat):TS G F L (put d sv ρ) M (bw d c τ):=⟨a.tl,JM a.env b d,a.kp,a.glob⟩
theorem dS {F:aA}{L:Loc}{a:Option TO}{b:Option Own}(h:GN F L a b):(a=none/\b=none)\/∃o p,a=some o/\b=some p/\cO F L o p:=by
 cases a<;>cases b<;>simp only[GN] at h
 ·exact .inl ⟨rfl,rfl⟩
 ·exact .inr ⟨_,_,rfl,rfl,h⟩
theorem TS.new {F':aA}(f:F.le F') (b:TS G F L ρ M τ) {k:Nat}(l:L.get k=none) {o:Own}{to:TO}(n:cO F' (L.set k o) to o):TS G F' (L.set k o) ρ (M.set k to) τ:=by
 have a:Ext L (L.set k o):=by
  intro j p e;refine⟨p,?_,Own.Wx p⟩;rw[Loc.Wt,vv (by rintro rfl;rw[l] at e;cases e)];exact e
 refine⟨fun j=>?_,fun j=>(b.env j).ext f a,fun j g t e=>?_,b.glob.mono f⟩
 ·rw[TL.Wt,Loc.Wt];split
  ·exact n
  ·rcases dS (b.tl j) with⟨d,c⟩ | ⟨p,q,d,c,m⟩
   ·rw[d,c];trivial
   ·rw[d,c];exact m.ext f a
 ·obtain⟨cs,h⟩:=b.kp j g t e;exact⟨cs,by rw[Loc.Wt,vv (by rintro rfl;rw[l] at h;cases h)];exact h⟩
theorem TS.mono {F':aA}(b:F.le F') (a:TS G F L ρ M τ):TS G F' L ρ M τ:=⟨a.tl.mono b,fun j=>(a.env j).mono b,a.kp,a.glob.mono b⟩
theorem TS.turn (c:TS G F L ρ M τ) {k:Nat}{o o':Own}(m:L.get k=some o) (n:Own.like o o') (b:∀g t cs,o=.box g t cs->∃cs',o'=.box g t cs') {to:TO}(s:∀L',Ext L L'->cO F L' to o') :
  TS G F (L.set k o') ρ (M.set k to) τ:=by
 have a:Ext L (L.set k o'):=by
  intro j p e;rw[Loc.Wt];split
  ·rename_i d;subst d;rw[m] at e;injection e with e
   subst e;exact⟨o',rfl,n⟩
  ·exact⟨p,e,Own.Wx p⟩
 refine⟨fun j=>?_,fun j=>(c.env j).ext (aA.le_refl F) a,fun j g t e=>?_,c.glob⟩
 ·rw[TL.Wt,Loc.Wt];split
  ·exact s _ a
  ·rcases dS (c.tl j) with⟨l,f⟩ | ⟨p,q,l,f,r⟩
   ·rw[l,f];trivial
   ·rw[l,f];exact r.ext (aA.le_refl F) a
 ·obtain⟨cs,h⟩:=c.kp j g t e;rw[Loc.Wt];split
  ·rename_i d;subst d;rw[m] at h;injection h with h
   obtain⟨cs',u⟩:=b g t cs h;exact⟨cs',by rw[u]⟩
  ·exact⟨cs,h⟩
theorem jY {L':Loc}{k:Nat}(d:∀g t cs,L.get k≠some (.box g t cs)) (n:∀j,j≠k->∀o,L.get j=some o->∃o',L'.get j=some o'/\Own.like o o') {F':aA}(l:F.le F') (c:C) (v:Value) (r:c.leaf=true)
  (h:Rel F L c v):Rel F' L' (fW k c) v:=by
 cases c<;>simp only[C.leaf,Xm] at r<;>simp only[fW]
 case rw j =>
  cases q:Nat.beq j k with
  | true=>simp only[Rel]
  | false=>exact bq l (fun p e=>by
    rcases e with⟨off,e⟩ | e | e | ⟨_,_,_,e⟩ | ⟨_,_,e⟩
    ·cases e
    ·injection e with e;subst e;exact n j (eZ q)
    ·cases e
    ·cases e
    ·cases e) rfl h
 case own j off =>
  refine bq l (fun p e=>?_) rfl h;rcases e with⟨off,e⟩ | e | e | ⟨_,_,_,e⟩ | ⟨_,_,e⟩
  ·injection e with e e2
   subst e;simp only[Rel] at h;obtain⟨g,t,cs,f,_⟩:=h;exact n j (by rintro rfl;exact d _ _ _ f)
  ·cases e
  ·cases e
  ·cases e
  ·cases e
 case ifo m ti j off =>
  refine bq l (fun p e=>?_) rfl h;rcases e with⟨off,e⟩ | e | e | ⟨_,_,_,e⟩ | ⟨_,_,e⟩
  ·cases e
  ·cases e
  ·cases e
  ·injection e with _ _ e
   subst e;simp only[Rel] at h;obtain⟨g,t,cs,f,_⟩:=h;exact n j (by rintro rfl;exact d _ _ _ f)
  ·cases e
 case elr j a b =>
  cases q:Nat.beq j k with
  | true=>simp only[Rel]
  | false=>exact bq l (fun p e=>by
    rcases e with⟨off,e⟩ | e | e | ⟨_,_,_,e⟩ | ⟨_,_,e⟩<;>first | cases e;done | skip
    injection e with e;subst e;exact n j (eZ q)) rfl h
 case mpr j =>
  refine bq l (fun p e=>?_) rfl h;rcases e with⟨off,e⟩ | e | e | ⟨_,_,_,e⟩ | ⟨_,_,e⟩
  ·cases e
  ·cases e
  ·injection e with e
   subst e;simp only[Rel] at h;obtain⟨g,cs,f,_⟩:=h;exact n j (by rintro rfl;exact d _ _ _ f)
  ·cases e
  ·cases e
 case slo j a =>
  refine qw l ?_ h;simp only[Rel] at h;obtain⟨g,t,cs,s,f,_⟩:=h;exact n j (by rintro rfl;exact d _ _ _ f)
 case slp=>simp only[Rel]
 all_goals
  exact bq l (fun p e=>by rcases e with⟨off,e⟩ | e | e | ⟨_,_,_,e⟩ | ⟨_,_,e⟩<;>cases e) rfl h
theorem oq {L':Loc}{k:Nat}(d:∀g t cs,L.get k≠some (.box g t cs)) (p:∀j,j≠k->∀o,L.get j=some o->∃o',L'.get j=some o'/\Own.like o o') {F':aA}(n:F.le F') (c:C) (sv:SV) (s:c.leaf=true)
  (h:aN F L c sv):aN F' L' (fW k c) sv:=by
 cases c<;>simp only[C.leaf,Xm] at s<;>simp only[fW]
 case rw j =>
  cases r:Nat.beq j k with
  | true=>trivial
  | false=>exact cL n (fun q e=>by
    rcases e with⟨off,e⟩ | ⟨off,e⟩ | e | ⟨a,b,e⟩ | e | ⟨_,_,_,e⟩<;>first | cases e;done | skip
    injection e with e;subst e;exact p j (eZ r)) rfl h
 case elr j a b =>
  cases r:Nat.beq j k with
  | true=>trivial
  | false=>exact cL n (fun q e=>by
    rcases e with⟨off,e⟩ | ⟨off,e⟩ | e | ⟨a,b,e⟩ | e | ⟨_,_,_,e⟩<;>first | cases e;done | skip
    injection e with e;subst e;exact p j (eZ r)) rfl h
 case own j off =>
  refine cL n (fun q e=>?_) rfl h;obtain⟨_,g,t,cs,l⟩:=h;rcases e with⟨off,e⟩ | ⟨off,e⟩ | e | ⟨a,b,e⟩ | e | ⟨_,_,_,e⟩<;>first | cases e;done | skip
  injection e with e
  subst e;exact p j (by rintro rfl;exact d _ _ _ l)
 case ifo m ti j off =>
  refine cL n (fun q e=>?_) rfl h;obtain⟨v,_,f⟩:=h;simp only[Rel] at f;obtain⟨g,t,cs,l,_⟩:=f;rcases e with⟨off,e⟩ | ⟨off,e⟩ | e | ⟨a,b,e⟩ | e | ⟨_,_,_,e⟩<;>first | cases e;done | skip
  injection e with _ _ e
  subst e;exact p j (by rintro rfl;exact d _ _ _ l)
 case ownv j off =>
  refine cL n (fun q e=>?_) rfl h;obtain⟨v,_,f⟩:=h;simp only[Rel] at f;obtain⟨g,t,cs,l,_⟩:=f;rcases e with⟨off,e⟩ | ⟨off,e⟩ | e | ⟨a,b,e⟩ | e | ⟨_,_,_,e⟩<;>first | cases e;done | skip
  injection e with e
  subst e;exact p j (by rintro rfl;exact d _ _ _ l)
 case mpr j =>
  refine cL n (fun q e=>?_) rfl h;obtain⟨v,_,f⟩:=h;simp only[Rel] at f;obtain⟨g,cs,l,_⟩:=f;rcases e with⟨off,e⟩ | ⟨off,e⟩ | e | ⟨a,b,e⟩ | e | ⟨_,_,_,e⟩<;>first | cases e;done | skip
  injection e with e
  subst e;exact p j (by rintro rfl;exact d _ _ _ l)
 case slo j a =>
  refine sn n ?_ h;obtain⟨v,_,f⟩:=h;simp only[Rel] at f;obtain⟨g,t,cs,u,l,_⟩:=f;exact p j (by rintro rfl;exact d _ _ _ l)
 case slp=>trivial
 all_goals
  exact cL n (fun q e=>by rcases e with⟨off,e⟩ | ⟨off,e⟩ | e | ⟨a,b,e⟩ | e | ⟨_,_,_,e⟩<;>cases e) rfl h
theorem cO.WR {L':Loc}{k:Nat}(a:∀g t cs,L.get k≠some (.box g t cs)) (d:∀j,j≠k->∀o,L.get j=some o->∃o',L'.get j=some o'/\Own.like o o') {F':aA}(b:F.le F'):∀{o:TO}{p:Own},cO F L o p->cO F' L' (o.Wv (C.kill k)) p
 | .box t cs,.box g f vs,r=>⟨r.1,r.2.map fun c _ v h=>Rel.mp (jY a d b) 3 h⟩
 | .row t sz els,.row v f q n xs,r=>⟨r.1,r.2.1,r.2.2.1,r.2.2.2.1,r.2.2.2.2.mono b⟩
 | .box _ _,.row ..,r=>r.elim
 | .row ..,.box ..,r=>r.elim
 | .map _,.row ..,r=>r.elim
 | .map es,.box g f vs,r=>⟨r.1,r.2.mono b⟩
 | .win ..,.row ..,r=>r.elim
 | .win ..,.box ..,⟨m,v1,s,v3,e,l,u,w⟩=>⟨m,v1,s,v3,e,l.mono b,u.map fun c _ v h=>Rel.mp (jY a d b) 3 h,w.mono b⟩
theorem TS.WR (b:TS G F L ρ M τ) {k:Nat}{o':Own}(a:∀g t cs,L.get k≠some (.box g t cs)) {to:TO}(n:cO F (L.set k o') to o') :
  TS G F (L.set k o') ρ ((M.Wv (C.kill k)).set k to) (fun j=>(τ j).kill k):=by
 have c:∀j,j≠k->∀o,L.get j=some o->∃p,(L.set k o').get j=some p/\Own.like o p:=fun j m o e=>⟨o,by rw[Loc.Wt,vv m];exact e,Own.Wx o⟩;refine⟨fun j=>?_,fun j=>aN.mp (jY a c (aA.le_refl F)) (oq a c (aA.le_refl F)) 3 (b.env j),fun j g t e=>?_,b.glob⟩
 ·rw[TL.Wt,Loc.Wt,pV];split
  ·exact n
  ·rcases dS (b.tl j) with⟨f,d⟩ | ⟨p,q,f,d,l⟩
   ·rw[f,d];trivial
   ·rw[f,d];exact l.WR a c (aA.le_refl F)
 ·obtain⟨cs,h⟩:=b.kp j g t e;exact⟨cs,by rw[Loc.Wt,vv (by rintro rfl;exact a _ _ _ h)];exact h⟩
theorem iy {a:Option Addr}{sz b:Nat}{els:List (List C)}(h:fI F a b 0 els) (hs:∀es∈els,es.length=sz):∃xs,xs.length=els.length*sz/\(bM F a 0 xs\/(els.length=0/\xs=[]))/\aL F sz els xs:=by
 cases k:els with
 | nil=>exact⟨[],by simp,.inr ⟨rfl,rfl⟩,by simp only[aL]⟩
 | cons s m =>
  rw[k] at h hs;have h0:=lZ.1 h 0 s (by simp);obtain⟨aw,k1,⟨e,f,t,z,ea,hb,o,_⟩,_,k4⟩:=h0;have r:b=sz:=by rw[<-k1,k4.len,hs s (by simp)]
  subst r;subst ea;have key:∀(l:List (List C)) (i:Nat),fI F (some e) b i l->∃xs,aL F b l xs/\∀(j:Nat) v,xs[j]?=some v->f[e.off+i*b+j]?=some v/\nU z (e.off+i*b+j):=by
   intro l
   induction l with
   | nil=>intro i _;exact⟨[],by simp only[aL],by simp⟩
   | cons es l ih =>
    intro i y;simp only[fI] at y;obtain⟨⟨vs,w,⟨av,ab,t',ac,u,c,x,hv⟩,q3,q4⟩,q5⟩:=y;injection u with u
    subst u;rw[hb] at c;injection c with c
    injection c with r1 r2 r3
    subst r1 r3;obtain⟨xs,n,p⟩:=ih (i+1) q5;refine⟨vs++xs,by simp only[aL];exact⟨vs,xs,rfl,w,q3,q4,n⟩,fun j v d=>?_⟩
    by_cases q:j<vs.length
    ·rw[Xl q] at d;exact hv j v d
    ·rw[Xr (by omega)] at d;have:=p _ _ d;rw[show e.off+i*b+j=e.off+(i+1)*b+(j-vs.length) by rw[w,Nat.add_mul];omega];exact this
  obtain⟨xs,n,p⟩:=key (s::m) 0 h;exact⟨xs,gV n,.inl ⟨e,f,t,z,rfl,hb,o,fun j v d=>by have:=p j v d;simpa using this⟩,n⟩
theorem aL.ones {sz:Nat}:∀{l:List (List C)}{xs:List Value},aL F sz l xs->∀u∈xs,u.oneCell'=true
 | [],xs,h=>by simp only[aL] at h;subst h;simp
 | es::l,xs,h=>by
  simp only[aL] at h;obtain⟨vs,e,rfl,f,c,d,b⟩:=h;intro u a;rcases yo.1 a with a | a
  ·exact fD d c u a
  ·exact aL.ones b u a
theorem lz (bs:List UInt8):aL F 1 (af bs) (bs.map fun b=>Value.int .u8 b.toNat):=by
 induction bs with
 | nil=>simp only[af,X9,aL]
 | cons b bs a =>
  simp only[af,Xj,aL];refine⟨[.int .u8 b.toNat],_,rfl,rfl,rfl,?_,a⟩;simp only[aB,Rel];refine⟨_,_,rfl,⟨rfl,?_⟩,rfl⟩;have:=b.toNat_lt;simp[Lit.wf,IntKind.min,IntKind.max,IntKind.bits,IntKind.signed];omega
theorem CG {g:Nat}{bs:List UInt8}(h:bM F (some ⟨g,0,none⟩) 0 (bs.map fun b=>Value.int .u8 b.toNat)):fI F (some ⟨g,0,none⟩) 1 0 (af bs):=(lz bs).frz h
theorem aL.set {sz:Nat}:∀{l:List (List C)}{xs:List Value},aL F sz l xs->∀{j:Nat}{es ds:List C}{us:List Value}{off:Nat},l[j]?=some es->off+us.length<=sz->aB F [] ds us->dn ds=true ->
  aL F sz (l.set j (eJ es off ds)) (aM xs (j*sz+off) us)
 | [],xs,h,j,es,ds,us,off,e,_,_,_=>by simp at e
 | x::l,xs,h,j,es,ds,us,off,e,q,m,d=>by
  simp only[aL] at h;obtain⟨vs,f,rfl,n,b,o,k⟩:=h;cases j with
  | zero =>
   simp only[Xp,xo] at e;subst e;simp only[List.set_cons_zero,aL];refine⟨aM vs off us,f,?_,?_,?_,fJ o m,k⟩
   ·simp only[aM,Nat.zero_mul,Nat.zero_add];rw[List.take_append_of_le_length (by omega),List.drop_append_of_le_length (by omega)];simp
   ·simp only[aM,Xg,Xx,XV];omega
   ·rw[iq] at b d ⊢;intro c a;simp only[eJ,yo] at a;rcases a with(a | a) | a
    ·exact b c (List.mem_of_mem_take a)
    ·exact d c a
    ·exact b c (List.mem_of_mem_drop a)
  | succ j =>
   simp only[List.set_cons_succ,aL];have p:=aL.set k (j:=j) (by simpa using e) q m d;refine⟨vs,_,?_,n,b,o,p⟩;simp only[aM];rw[show(j+1)*sz+off=vs.length+(j*sz+off) by rw[n,Nat.add_mul];omega];rw[List.take_length_add_append,show vs.length+(j*sz+off)+us.length=vs.length+(j*sz+off+us.length) by omega,List.drop_length_add_append];simp[Xk]
end
section
variable {P:Program}{G:Nat->Option (Nat×TypeId)}{F:aA}{L:Loc}{ρ:Env}{M:TL}{τ:aU}
def Both (G:Nat->Option (Nat×TypeId)) (K:TK):cF:=fun F L ρ=>∃M τ,TS G F L ρ M τ/\K M τ
theorem mT {k:Nat}{a:Option Addr}{c n:Nat}{t sz:Nat}{xs:List Value}(h:L.get k=some (.row (.slice a n c) t sz n xs)):aN F L (.rw k) (.v (.slice a n c)) :=
 ⟨_,rfl,by simp only[Rel];exact⟨a,c,t,sz,n,xs,rfl,h⟩⟩
theorem Na {g:Nat}{F':aA}{t:TypeId}{cs:List C}{vs:List Value}(b:F' g=some (.cells vs.toArray t (0,0))) (a:dn cs=true) (c:aB F' [] cs vs):aN F' L (.pt cs 0) (.v (.pointer (some ⟨g,0,none⟩))) :=
 ⟨g,0,0,vs,.inl ⟨rfl,rfl⟩,⟨0,_,t,(0,0),b,rfl,fun i v hi=>⟨by simpa using hi,rP _⟩⟩,a,c⟩
theorem iU (b:∀j,aN F L (τ j) (ρ j)) {sz:Nat}:∀{xs:List X},pM τ sz xs=true->eY L ρ sz xs=true/\aL F sz (tj τ xs) (cellsOf L ρ xs)/\(tj τ xs).length=xs.length
 | [],_=>⟨rfl,by simp only[tj,cellsOf,aL],rfl⟩
 | x::xs,h=>by
  simp only[pM] at h;split at h
  case h_2=>cases h
  rename_i d f e m;obtain⟨k,l,n⟩:=iU b h;have a:=dJ b d;have c:(aG (val L ρ x)).length=sz:=by rw[a.len];exact br f
  refine⟨by simp only[eY,cR c];exact k,?_,by simp only[tj,Xv,n]⟩;simp only[tj,cellsOf,aL];exact⟨_,_,rfl,c,mA e,ju (dV m a),l⟩
theorem zO {t:Nat}(h:IK t=true):t<1048576/\t≠0:=by
 unfold IK at h;split at h
 ·cases h
 ·rename_i a;have:=Xq h;exact⟨by omega,fun e=>by subst e;simp at a⟩
theorem DA {t:TypeId}{x:X}{k:Nat}{K:TK}(f:TS G F L ρ M τ) (n:M.get k=none) (m:(bW τ x).okc=true) (b:t<1048576/\t≠0) (h:K (M.set k (.box t (bT (bW τ x)))) (bw (some k) (.own k 0) τ)) (g:Nat) :
  Both G K F (L.set k (.box g t (aG (val L ρ x)))) (put (some k) (.own k 0) ρ):=by
 have a:=bU f.tl n;have d:Ext L (L.set k (.box g t (aG (val L ρ x)))):=by
  intro j p e;refine⟨p,?_,Own.Wx p⟩;rw[Loc.Wt,vv (by rintro rfl;rw[a] at e;cases e)];exact e
 have l:=f.new (aA.le_refl F) a (o:=.box g t (aG (val L ρ x))) (to:=.box t (bT (bW τ x))) ⟨⟨b.1,.inl rfl,b.2⟩,(dJ f.env m).ext (aA.le_refl F) d⟩;exact⟨_,_,l.put (c:=.own k 0) (sv:=.own k 0) ⟨rfl,g,t,_,by rw[Loc.Wt,j3 rfl]⟩ (some k),h⟩
theorem yI {t:TypeId}{zs:List Value}{k:Nat}{K:TK}(d:TS G F L ρ M τ) (f:M.get k=none) (a:t<1048576/\t≠0) (h:K (M.set k (.box t (zs.map qN))) (bw (some k) (.own k 0) τ)) (g:Nat) :
  Both G K F (L.set k (.box g t zs)) (put (some k) (.own k 0) ρ):=by
 have b:=bU d.tl f;have e:=d.new (aA.le_refl F) b (o:=.box g t zs) (to:=.box t (zs.map qN)) ⟨⟨a.1,.inl rfl,a.2⟩,kI zs⟩;exact⟨_,_,e.put (c:=.own k 0) (sv:=.own k 0) ⟨rfl,g,t,_,by rw[Loc.Wt,j3 rfl]⟩ (some k),h⟩
theorem DC {e n sz:Nat}{xs:List X}{d:Option Nat}{K:TK}(b:TS G F L ρ M τ) (m:pM τ sz xs=true) (l:xs.length=n) (p:n<=maxLen) (h:K M (bw d (.slx (tj τ xs)) τ)) {g:Nat}{F':aA}(a:F.le F')
  (f:F' g=some (.cells (cellsOf L ρ xs).toArray e (0,0))):Both G K F' L (put d (.v (.slice (some ⟨g,0,none⟩) n n)) ρ):=by
 obtain⟨q,o,k⟩:=iU b.env m;have j:bM F' (some ⟨g,0,none⟩) 0 (cellsOf L ρ xs):=⟨_,_,_,_,rfl,f,rfl,fun i v hi=>⟨by simpa using hi,rP _⟩⟩;refine⟨_,_,(b.mono a).put (c:=.slx (tj τ xs)) ⟨_,rfl,?_⟩ d,h⟩;simp only[Rel];exact⟨⟨g,0,none⟩,by rw[k,l],by omega,sz,(o.mono a).frz j⟩
theorem v9 (d:∀j,aN F L (τ j) (ρ j)) {k g:Nat}{t:TypeId}{cs:List Value}(e:L.get k=some (.box g t cs)):∀{xs:List X}{a:List Nat},ug k τ xs=some a ->
  eY L ρ 1 xs=true/\cellsOf L ρ xs=a.map (fun o=>.pointer (some ⟨g,o,none⟩))/\a.length=xs.length
 | [],a,h=>by
  simp only[ug,xo] at h;subst h;exact⟨rfl,rfl,rfl⟩
 | x::xs,a,h=>by
  simp only[ug] at h;split at h
  case h_2=>cases h
  rename_i j off l r m;split at h
  case h_2=>cases h
  rename_i q;obtain rfl:=v8 q;injection h with h
  subst h;obtain⟨n,u,p⟩:=v9 d e m;have c:=sA d x;rw[r] at c;simp only[Rel] at c;obtain⟨v,w,cs',b,s⟩:=c;rw[e] at b;injection b with b
  injection b with q1 q2 q3
  subst q1;have f:aG (val L ρ x)=[.pointer (some ⟨g,off,none⟩)]:=by rw[s];rfl
  exact⟨by simp only[eY,f,eW];exact n,by simp only[cellsOf,f,u];rfl,by simp[p]⟩
theorem DE {e n k:Nat}{a:List Nat}{xs:List X}{d:Option Nat}{K:TK}(q:TS G F L ρ M τ) (f:ug k τ xs=some a) (o:xs≠[]) (u:xs.length=n) (z:n<=maxLen) (h:K M (bw d (.slo k a) τ)) :
  eY L ρ 1 xs=true/\∀{g:Nat}{F':aA},F.le F'->F' g=some (.cells (cellsOf L ρ xs).toArray e (0,0))->Both G K F' L (put d (.v (.slice (some ⟨g,0,none⟩) n n)) ρ):=by
 obtain⟨x,b,rfl⟩:∃x b,xs=x::b:=by
  cases xs with
  | nil=>exact v7 rfl o
  | cons x b=>exact⟨x,b,rfl⟩
 have m:∃g t cs,L.get k=some (.box g t cs):=by
  have f:=f;simp only[ug] at f;split at f
  case h_2=>cases f
  rename_i j off l hx hl;split at f
  case h_2=>cases f
  rename_i hj;obtain rfl:=v8 hj;have p:=sA q.env x;rw[hx] at p;simp only[Rel] at p;obtain⟨y,t',cs',e1,e2⟩:=p;exact⟨y,t',cs',e1⟩
 obtain⟨gb,t,cs,m⟩:=m;obtain⟨k1,k2,s⟩:=v9 q.env m f;refine⟨k1,fun{g F'} hF w=>?_⟩;have r:bM F' (some ⟨g,0,none⟩) 0 (cellsOf L ρ (x::b)):=⟨_,_,_,_,rfl,w,rfl,fun i v hi=>⟨by simpa using hi,rP _⟩⟩;refine⟨_,_,(q.mono hF).put (c:=.slo k a) ⟨_,rfl,?_⟩ d,h⟩;simp only[Rel];exact⟨gb,t,cs,⟨g,0,none⟩,m,by rw[s,u],by rw[s,u];exact z,by rw[k2] at r;exact r⟩
theorem JN {e n sz:Nat}{xs:List X}{k:Nat}{K:TK}(b:TS G F L ρ M τ) (m:pM τ sz xs=true) (p:xs.length=n) (f:n<=maxLen) (q:M.get k=none) (h:K (M.set k (.row e sz (tj τ xs))) (bw (some k) (.rw k) τ)) (g:Nat) :
  Both G K F (L.set k (.row (.slice (some ⟨g,0,none⟩) n n) e sz n (cellsOf L ρ xs))) (put (some k) (.v (.slice (some ⟨g,0,none⟩) n n)) ρ):=by
 obtain⟨r,j,l⟩:=iU b.env m;have a:=bU b.tl q;have d:=b.new (aA.le_refl F) a (o:=.row (.slice (some ⟨g,0,none⟩) n n) e sz n (cellsOf L ρ xs)) (to:=.row e sz (tj τ xs)) ⟨rfl,rfl,by rw[l,p],⟨f,_,_,rfl,fun e=>(by cases e)⟩,j⟩;exact⟨_,_,d.put (c:=.rw k) (mT (by rw[Loc.Wt,j3 rfl])) (some k),h⟩
theorem mB {e sz:Nat}{k:Nat}{els news:List (List C)}{d:Option Nat}{K:TK}(q:TS G F L ρ M τ) {s:Value}{xs ys:List Value}(o:L.get k=some (.row s e sz els.length xs)) (f:aL F sz els xs) (p:aL F sz news ys)
  (l:els.length+news.length<=maxLen) (h:K ((M.Wv (C.kill k)).set k (.row e sz (els++news))) (bw d (.rw k) fun j=>(τ j).kill k)) {v:Value}(n:∃a c,v=.slice a (els.length+news.length) c/\(a=none->els.length+news.length=0)) :
  Both G K F (L.set k (.row v e sz (els.length+news.length) (xs++ys))) (put d (.v v) ρ):=by
 obtain⟨a,c,rfl,m⟩:=n;have b:=q.WR (k:=k) (o':=.row (.slice a (els.length+news.length) c) e sz (els.length+news.length) (xs++ys)) (to:=.row e sz (els++news)) (fun g t cs e=>by rw[o] at e;injection e with e;cases e)
  ⟨rfl,rfl,by simp,⟨l,a,c,rfl,m⟩,f.append p⟩
 exact⟨_,_,b.put (c:=.rw k) (mT (by rw[Loc.Wt,j3 rfl])) d,h⟩
theorem kK {e sz:Nat}{k:Nat}{news:List (List C)}{d:Option Nat}{K:TK}(b:TS G F L ρ M τ) {ys:List Value}(m:M.get k=none) (n:aL F sz news ys)
  (p:news.length<=maxLen) (h:K (M.set k (.row e sz news)) (bw d (.rw k) τ)) {v:Value}(l:∃a c,v=.slice a (0+news.length) c/\(a=none->0+news.length=0)) :
  Both G K F (L.set k (.row v e sz (0+news.length) ([]++ys))) (put d (.v v) ρ):=by
 obtain⟨a,c,rfl,j⟩:=l;have f:=b.new (aA.le_refl F) (bU b.tl m) (o:=.row (.slice a (0+news.length) c) e sz (0+news.length) ([]++ys)) (to:=.row e sz news) ⟨rfl,rfl,by simp,⟨by omega,a,c,rfl,j⟩,n⟩;exact⟨_,_,f.put (c:=.rw k) (mT (by rw[Loc.Wt,j3 rfl])) d,h⟩
theorem ou {x:X}{k e sz:Nat}{els:List (List C)}(f:TS G F L ρ M τ) (p:bW τ x=.rw k) (o:M.get k=some (.row e sz els)) :
  ∃a c xs,ev ρ x=.v (.slice a els.length c)/\L.get k=some (.row (.slice a els.length c) e sz els.length xs)/\aL F sz els xs/\els.length<=maxLen:=by
 obtain⟨a,c,r,h,n,m,q,d⟩:=rC f.env p;obtain⟨v,xs,b,⟨l,_⟩,j⟩:=jW f.tl o;rw[d] at b;injection b with b
 injection b with q1 q2 q3 q4 q5
 subst q2 q3 q4 q5;exact⟨a,c,_,q,d,j,l⟩
set_option maxHeartbeats 1000000 in
theorem Bl {e sz b:Nat}{s x:X}{d:Option Nat}{K:TK}(j:TS G F L ρ M τ) (h:JC e sz b (bW τ s) (bW τ x) d M τ K):∃sv xv,ev ρ s=.v sv/\ev ρ x=.v xv/\Dh F L e sz b sv xv fun L1 v=>Both G K F L1 (Fr.put d (.v v) ρ):=by
 have he:=j.env;simp only[JC,eD] at h;split at h
 ·rename_i k news hs m;split at h
  case h_2=>exact h.elim
  rename_i e' bj els n;split at h
  case h_2=>exact h.elim
  rename_i h1 h2;obtain rfl:=v8 h1;obtain rfl:=v8 h2;obtain⟨g1,l,q,g4⟩:=h;obtain⟨a,c,xs,e1,e2,hr,hm⟩:=ou j hs n;obtain⟨t,r,ay,e3,e4,e5,e6,e7⟩:=jv he m;obtain⟨ys,y1,y2,y3⟩:=iy e7 g1;exact⟨_,_,e1,e3,k,els.length,xs,news.length,ys,.inl e2,⟨t,r,rfl,y1,y2.imp id .inl⟩,y3.ones,l,q,fun v y=>mB j e2 hr y3 l g4 y⟩
 ·rename_i news k hs m;split at h
  case h_2=>exact h.elim
  rename_i n;obtain⟨g1,l,q,g4⟩:=h;obtain⟨t,r,ay,e3,e4,e5,e6,e7⟩:=jv he m;obtain⟨ys,y1,y2,y3⟩:=iy e7 g1;simp only[XJ] at l q;exact⟨_,_,nL he hs,e3,k,0,[],news.length,ys,.inr (.inl ⟨bU j.tl n,rfl,rfl,rfl⟩),⟨t,r,rfl,y1,y2.imp id .inl⟩,y3.ones,l,q,fun v y=>kK j n y3 (by omega) g4 y⟩
 ·rename_i els news k hs m;split at h
  case h_2=>exact h.elim
  rename_i n;obtain⟨g0,bl,g1,l,q,g4⟩:=h;obtain⟨a,ch,e1,hm,e2⟩:=zL he hs;obtain⟨t,r,ay,e3,e4,e5,e6,e7⟩:=jv he m;obtain⟨ys,y1,y2,y3⟩:=iy e7 g1;obtain⟨xs,x1,x2,x3⟩:=iy e2 bl;refine⟨_,_,e1,e3,k,els.length,xs,news.length,ys,.inr (.inr ⟨bU j.tl n,a,rfl,g0,x1,x2⟩),⟨t,r,rfl,y1,y2.imp id .inl⟩,y3.ones,l,q,fun v y=>?_⟩;obtain⟨av,cv,rfl,hn⟩:=y;have h1:=j.new (aA.le_refl F) (bU j.tl n) (o:=.row (.slice av (els.length+news.length) cv) e sz (els.length+news.length) (xs++ys)) (to:=.row e sz (els++news)) ⟨rfl,rfl,by simp,⟨l,av,cv,rfl,hn⟩,x3.append y3⟩;exact⟨_,_,h1.put (c:=.rw k) (mT (by rw[Loc.Wt,j3 rfl])) _,g4⟩
 ·rename_i k k' hs m;have m:=zK m;split at h
  case h_2=>exact h.elim
  rename_i e' bj els bs ax news n p;split at h
  case h_2=>exact h.elim
  rename_i h1 h2 h3;obtain rfl:=v8 h1;obtain rfl:=v8 h2;obtain rfl:=v8 h3;obtain⟨g1,l,q,g4⟩:=h;obtain⟨a,c,xs,e1,e2,hr,hm⟩:=ou j hs n;obtain⟨t,r,ys,e3,e4,f,bi⟩:=ou j m p;refine⟨_,_,e1,e3,k,els.length,xs,news.length,ys,.inl e2,⟨t,r,rfl,gV f,?_⟩,f.ones,l,q,fun v y=>mB j e2 hr f l g4 y⟩;cases t with
  | some ad=>exact .inr (.inr ⟨k',_,_,_,_,_,ad,r,e4,rfl,rfl,fun i u hu=>hu⟩)
  | none =>
   obtain⟨v,bk,z,⟨_,a2,c2,w,q3⟩,q4⟩:=jW j.tl p;rw[e4] at z;injection z with z
   injection z with r1 r2 r3 r4 r5
   rw[<-r1] at w;injection w with w
   have hz:=q3 w.symm;have hl:=gV f;refine .inr (.inl ⟨hz,List.length_eq_zero_iff.1 (by rw[hl,hz];simp)⟩)
 ·rename_i k' k hs m;have m:=zK m;split at h
  case h_2=>exact h.elim
  rename_i bs ax news n p;split at h
  case h_2=>exact h.elim
  rename_i h3;obtain rfl:=v8 h3;obtain⟨g1,l,q,g4⟩:=h;obtain⟨t,r,ys,e3,e4,f,bi⟩:=ou j m p;simp only[XJ] at l q;refine⟨_,_,nL he hs,e3,k,0,[],news.length,ys,.inr (.inl ⟨bU j.tl n,rfl,rfl,rfl⟩),⟨t,r,rfl,gV f,?_⟩,f.ones,l,q,fun v y=>kK j n f (by omega) g4 y⟩;cases t with
  | some ad=>exact .inr (.inr ⟨k',_,_,_,_,_,ad,r,e4,rfl,rfl,fun i u hu=>hu⟩)
  | none =>
   obtain⟨v,bk,z,⟨_,a2,c2,w,q3⟩,q4⟩:=jW j.tl p;rw[e4] at z;injection z with z
   injection z with r1 r2 r3 r4 r5
   rw[<-r1] at w;injection w with w
   have hz:=q3 w.symm;have hl:=gV f;refine .inr (.inl ⟨hz,List.length_eq_zero_iff.1 (by rw[hl,hz];simp)⟩)
 ·exact h.elim
theorem JO {e sz b:Nat}{zs:List Value}{s x:X}{d:Option Nat}{K:TK}(c:TS G F L ρ M τ) (h:bH P (.app e sz b zs s x) d M τ K):evalOp P (.app e sz b zs s x) d F L ρ (Both G K):=by
 obtain⟨sv,k,j,f,a⟩:=Bl c h;simp only[evalOp,j,f];exact a
theorem G0 {e sz b:Nat}{zs:List Value}{s x:X}{d:Option Nat}{K:TK}(t:TS G F L ρ M τ) (h:bH P (.appX e sz b zs s x) d M τ K):evalOp P (.appX e sz b zs s x) d F L ρ (Both G K):=by
 obtain⟨sv,u,q,p,⟨f,n,xs,m,news,a,j,r,l,c,o⟩⟩:=Bl t h;simp only[evalOp,q,p];exact⟨f,n,xs,m,news,a,j,r,l,c,fun v k _=>o v k⟩
set_option maxHeartbeats 1000000 in
theorem G3 {e sz b:Nat}{zs:List Value}{s x:X}{d:Option Nat}{K:TK}(l:TS G F L ρ M τ) (h:bH P (.appD e sz b zs s x) d M τ K):evalOp P (.appD e sz b zs s x) d F L ρ (Both G K):=by
 have r:=l.env;simp only[bH,eD,dW,dI] at h;simp only[evalOp];split at h
 ·rename_i k news hs y;split at h
  case h_2=>exact h.elim
  rename_i e' ay els m;split at h
  case h_2=>exact h.elim
  rename_i h1 h2;obtain rfl:=v8 h1;obtain rfl:=v8 h2;obtain⟨q,j,n,u⟩:=h;obtain⟨a,c,xs,e1,e2,hr,hm⟩:=ou l hs m;obtain⟨a',c',w,z,e4,e5,e6,p⟩:=jv r y;obtain⟨ys,y1,y2,f⟩:=iy p q;rw[e1,z];exact⟨k,els.length,xs,news.length,ys,.inl e2,⟨a',c',rfl,y1,y2⟩,f.ones,j,n,fun v t _=>mB l e2 hr f j u t⟩
 ·rename_i news k hs y;split at h
  case h_2=>exact h.elim
  rename_i m;obtain⟨q,j,n,u⟩:=h;obtain⟨a',c',w,z,e4,e5,e6,p⟩:=jv r y;obtain⟨ys,y1,y2,f⟩:=iy p q;simp only[XJ] at j n;rw[nL r hs,z];exact⟨k,0,[],news.length,ys,.inr (.inl ⟨rfl,bU l.tl m,rfl,rfl,rfl⟩),⟨a',c',rfl,y1,y2⟩,f.ones,j,n,fun v t _=>kK l m f (by omega) u t⟩
 ·rename_i els news k hs y;split at h
  case h_2=>exact h.elim
  rename_i m;obtain⟨g0,am,q,j,n,u⟩:=h;obtain⟨a,bd,e1,hm,e2⟩:=zL r hs;obtain⟨a',c',w,z,e4,e5,e6,p⟩:=jv r y;obtain⟨ys,y1,y2,f⟩:=iy p q;obtain⟨xs,x1,x2,x3⟩:=iy e2 am;rw[e1,z];refine⟨k,els.length,xs,news.length,ys,.inr (.inr ⟨rfl,bU l.tl m,a,rfl,g0,x1,x2⟩),⟨a',c',rfl,y1,y2⟩,f.ones,j,n,fun v t _=>?_⟩;obtain⟨av,cv,rfl,hn⟩:=t;have h1:=l.new (aA.le_refl F) (bU l.tl m) (o:=.row (.slice av (els.length+news.length) cv) e sz (els.length+news.length) (xs++ys)) (to:=.row e sz (els++news)) ⟨rfl,rfl,by simp,⟨j,av,cv,rfl,hn⟩,x3.append f⟩;exact⟨_,_,h1.put (c:=.rw k) (mT (by rw[Loc.Wt,j3 rfl])) _,u⟩
 ·exact h.elim
theorem G5 {e:Nat}{s x:X}{d:Option Nat}{K:TK}(l:TS G F L ρ M τ) (h:bH P (.appS e s x) d M τ K):evalOp P (.appS e s x) d F L ρ (Both G K):=by
 have n:=l.env;simp only[bH,eD,dW,dI] at h;simp only[evalOp];split at h
 ·rename_i k t r q;split at h
  case h_2=>exact h.elim
  rename_i e' y els m;split at h
  case h_2=>exact h.elim
  rename_i w h2;obtain rfl:=v8 w;obtain rfl:=v8 h2;obtain⟨g1,f,j,p⟩:=h;obtain⟨a,c,xs,e1,u,z,hm⟩:=ou l r m;have b:(af t.data.toList).length=t.size:=by simp[af]
  rw[e1,(jr n q).1];rw[b] at f j;refine⟨k,els.length,xs,.inl u,f,by simpa using j,fun v o=>?_⟩;have:=mB (news:=af t.data.toList) (v:=v) l u z (lz t.data.toList) (by rw[b];exact f) p (by rw[b];exact o);rw[b] at this;exact this
 ·rename_i t k r q;split at h
  case h_2=>exact h.elim
  rename_i m;obtain⟨g1,f,j,p⟩:=h;have b:(af t.data.toList).length=t.size:=by simp[af]
  rw[nL n r,(jr n q).1];rw[b] at f j;simp only[XJ] at f j;refine⟨k,0,[],.inr ⟨bU l.tl m,rfl,rfl,rfl⟩,f,by simpa using j,fun v o=>?_⟩;have:=kK (news:=af t.data.toList) (v:=v) l m (lz t.data.toList) (by rw[b];omega) p (by rw[b];exact o);rw[b] at this;exact this
 ·exact h.elim
theorem ow {F:aA}(a:IntKind):∀m:Nat,aL F 1 (List.replicate m [C.int a 0]) (List.replicate m (Value.int a 0))
 | 0=>by simp only[List.replicate_zero,aL]
 | m+1=>by
  simp only[X2,aL];refine⟨[.int a 0],_,rfl,rfl,rfl,?_,ow a m⟩;simp only[aB,Rel];exact⟨_,_,rfl,⟨rfl,by cases a<;>rfl⟩,rfl⟩
theorem G6 {e b:Nat}{l:IntKind}{s x:X}{d:Option Nat}{K:TK}(n:TS G F L ρ M τ) (h:bH P (.appZ e b l s x) d M τ K):evalOp P (.appZ e b l s x) d F L ρ (Both G K):=by
 have p:=n.env;simp only[bH,eD,dW,dI] at h;simp only[evalOp];split at h
 ·rename_i k kx i u t;split at h
  case h_2=>exact h.elim
  rename_i e' z els o;split at h
  case h_2=>exact h.elim
  rename_i y h2;obtain rfl:=v8 y;obtain rfl:=v8 h2;obtain⟨m,rfl,g1,f,j,r⟩:=h;obtain⟨a,c,xs,e1,w,hr,hm⟩:=ou n u o;rw[e1,(dY p t).1];rw[XW] at f j;refine⟨k,els.length,xs,.inl w,f,j,fun v q=>?_⟩;have:=mB (news:=List.replicate m [C.int l 0]) (v:=v) n w hr (ow l m) (by rw[XW];exact f) r (by rw[XW];exact q);rw[XW] at this;exact this
 ·rename_i kx i k u t;split at h
  case h_2=>exact h.elim
  rename_i o;obtain⟨m,rfl,g1,f,j,r⟩:=h;rw[nL p u,(dY p t).1];rw[XW] at f j;simp only[XJ] at f j;refine⟨k,0,[],.inr ⟨bU n.tl o,rfl,rfl,rfl⟩,f,j,fun v q=>?_⟩;have:=kK (news:=List.replicate m [C.int l 0]) (v:=v) n o (ow l m) (by rw[XW];omega) r (by rw[XW];exact q);rw[XW] at this;exact this
 ·exact h.elim
theorem EY {n:Nat}{y x:X}{d:Option Nat}{K:TK}(ht:TS G F L ρ M τ) (h:storeT false n y x d M τ K):evalOp P (.store n y x) d F L ρ (Both G K):=by
 have he:=ht.env;simp only[storeT,eD,dW,dI] at h;simp only[evalOp];split at h
 ·rename_i k off h1 h2 h3 hy;split at h
  case h_3=>exact h.elim
  case h_2 =>
   rename_i t pre cs post hk;rcases h with⟨o,rfl,h⟩ | ⟨pre',bi,bt,bk,h⟩
   case inr =>
    obtain⟨g,ty,v1,w,v3,hL,u,z,am,l⟩:=rE ht.tl hk;have p:=dJ he h1;have f:(aG (val L ρ x)).length=n:=by rw[p.len];exact br h2
    have r:eW (aG (val L ρ x)) n=true:=cR f;have ho:=j7 (fD p h3);rw[r,ho,(eB he hy).1];simp only[hL];have az:off+n<=v1.length:=by rw[u.len];exact bi
    have q:(((v1++(w++v3)).drop off).take n).length=n:=by
     simp;omega
    rw[fu l.2.2 (cR q)];have ag:aM (v1++(w++v3)) off (aG (val L ρ x))=aM v1 off (aG (val L ρ x))++(w++v3):=by
     simp only[aM];rw[List.take_append_of_le_length (by omega),f,List.drop_append_of_le_length az];simp
    have bp:aB F [] pre' (aM v1 off (aG (val L ρ x))):=by rw[<-bk];exact fJ u (dV bt p)
    have h4:=ht.turn (o':=.box g ty (aM (v1++(w++v3)) off (aG (val L ρ x)))) (to:=.win t pre' cs post) hL ⟨rfl,rfl⟩ (fun g' t' cs' e=>by injection e with a b c;subst a b;exact⟨_,rfl⟩)
     (fun L' hx=>⟨l,_,w,v3,ag,bp,z.ext (aA.le_refl F) hx,am⟩)
    exact⟨_,_,h4.put (c:=.und) (sv:=.v undef) ⟨_,rfl,by simp only[Rel]⟩ d,h⟩
   split at h
   case h_2=>exact h.elim
   rename_i hl;obtain⟨g,ty,v1,w,v3,hL,u,z,am,l⟩:=rE ht.tl hk;have p:=dJ he h1;have f:(aG (val L ρ x)).length=n:=by rw[p.len];exact br h2
   have r:eW (aG (val L ρ x)) n=true:=cR f;have ho:=j7 (fD p h3);rw[r,ho,(eB he hy).1];simp only[hL];have an:=(z.drop o).take n;have ab:((w.drop o).take n).length=n:=by rw[an.len];exact br hl
   have q:(((v1++(w++v3)).drop (pre.length+o)).take n).length=n:=by
    rw[<-u.len];simp at ab ⊢;omega
   rw[fu l.2.2 (cR q)];have ag:aM (v1++(w++v3)) (pre.length+o) (aG (val L ρ x))=v1++(aM w o (aG (val L ρ x))++v3):=by
    by_cases cc:n=0
    ·have:aG (val L ρ x)=[]:=XD (by omega);rw[this];simp[aM]
    have hn:o+n<=w.length:=by simp at ab;omega
    simp only[aM];rw[<-u.len,List.take_append,XS (by omega),show v1.length+o-v1.length=o by omega,List.take_append_of_le_length (by omega),f,Nat.add_assoc,List.drop_append,List.drop_eq_nil_of_le (by omega),show v1.length+(o+n)-v1.length=o+n by omega,List.drop_append_of_le_length hn];simp
   have h4:=ht.turn (o':=.box g ty (aM (v1++(w++v3)) (pre.length+o) (aG (val L ρ x)))) (to:=.win t pre (eJ cs o (bT (bW τ x))) post) hL ⟨rfl,rfl⟩ (fun g' t' cs' e=>by injection e with a b c;subst a b;exact⟨_,rfl⟩)
    (fun L' hx=>⟨l,v1,_,v3,ag,u,(fJ z p).ext (aA.le_refl F) hx,am⟩)
   exact⟨_,_,h4.put (c:=.und) (sv:=.v undef) ⟨_,rfl,by simp only[Rel]⟩ d,h⟩
  rename_i t cs hk;split at h
  case h_2=>exact h.elim
  rename_i hl;obtain⟨g,ty,vs,hL,z,l⟩:=jV ht.tl hk;have p:=dJ he h1;have r:eW (aG (val L ρ x)) n=true:=cR (by rw[p.len];exact br h2);have ho:=j7 (fD p h3);rw[r,ho,(eB he hy).1];simp only[hL];have an:=(z.drop off).take n;rw[fu l.2.2 (cR (by rw[an.len];exact br hl))];have h4:=ht.turn (o':=.box g ty (aM vs off (aG (val L ρ x)))) (to:=.box t (eJ cs off (bT (bW τ x)))) hL ⟨rfl,rfl⟩ (fun g' t' cs' e=>by injection e with a b c;subst a b;exact⟨_,rfl⟩)
   (fun L' hx=>⟨l,(fJ z p).ext (aA.le_refl F) hx⟩)
  exact⟨_,_,h4.put (c:=.und) (sv:=.v undef) ⟨_,rfl,by simp only[Rel]⟩ d,h⟩
 ·rename_i k j off h1 h2 h3 hy;split at h
  case h_2=>exact h.elim
  rename_i t sz els h0 hk hp;obtain⟨r0,es,r1,r2,r3⟩:=h;obtain⟨ad,t',s,m,c,bm,e1,e2⟩:=sw he hy;obtain⟨v,xs,e3,⟨hm,q6⟩,z⟩:=jW ht.tl hk;rw[e2] at e3;injection e3 with e3
  injection e3 with q1 q2 q3 q4 q5
  subst q1 q2 q3 q4 q5;have p:=dJ he h1;have f:(aG (val L ρ x)).length=n:=by rw[p.len];exact br h2
  have r:eW (aG (val L ρ x)) n=true:=cR f;have ho:=j7 (fD p h3);rw[r,ho,e1];have cb:es.length=s:=by
   obtain⟨us,u1,_,u3,_⟩:=z.at r1;rw[<-u1,u3.len]
  have hn:off+n<=s:=Xq r0;have aE:=z.set (ds:=(bT (bW τ x)).map C.can) (us:=aG (val L ρ x)) (off:=off) r1 (by rw[f];exact hn) (ju (dV hp p)) (mA h3);have aw:j<els.length:=(Xe.1 r1).1;have bj:=gV z;have h4:=ht.turn (o':=.row (.slice (some ad) els.length c) t' s els.length (aM bm (j*s+off) (aG (val L ρ x)))) (to:=.row t' s (els.set j (eJ es off ((bT (bW τ x)).map C.can)))) e2 ⟨rfl,rfl,rfl⟩
   (fun g' cf cs' e=>by cases e) (fun L' hx=>⟨rfl,rfl,by simp,⟨hm,_,_,rfl,fun e=>(by cases e)⟩,aE⟩)
  refine⟨.inl ⟨k,_,_,_,_,_,ad,c,e2,rfl,rfl,?_,fD p h3,_,_,h4.put (c:=.und) (sv:=.v undef) ⟨_,rfl,by simp only[Rel]⟩ d,r3 es r1⟩⟩;rw[bj,f];have:(j+1)*s<=els.length*s:=Nat.mul_le_mul_right _ aw;rw[Nat.add_mul] at this;omega
 ·exact h.elim
theorem CH {n:Nat}{y x:X}{d:Option Nat}{K:TK}(o:TS G F L ρ M τ) (h:CA n y x d M τ K):evalOp P (.store n y x) d F L ρ (Both G K):=by
 have r:=o.env;unfold CA at h;split at h
 ·rename_i es off b hy hx;split at h
  case h_2=>exact h.elim
  rename_i hn;obtain rfl:=v8 hn;obtain⟨p,h2⟩:=h;obtain⟨b',q,j,vs,l,hp,ho,z⟩:=om r hy;have ex:=gW r hx;have f:vs[off]?=some (.bool b):=by
   obtain⟨w,r2⟩:=jn.1 z;have a:off<vs.length:=by rw[w];exact(Xe.1 p).1
   have:=r2 off _ _ p (x5 a);simp only[Rel] at this;rw[x5 a,this]
  have k:bM F (some ⟨b',q,none⟩) j [.bool b]:=by
   have:=jt (n:=1) (es:=es) hp;have e:(vs.drop off).take 1=[.bool b]:=by
    have a:off<vs.length:=(Xe.1 f).1;rw[X6 a];rw[x5 a] at f;injection f with f
    rw[f];rfl
   rwa [e] at this
  have s:Both G K F L (Fr.put d (.v undef) ρ):=⟨_,_,o.put (c:=.und) (sv:=.v undef) ⟨_,rfl,by simp only[Rel]⟩ d,h2⟩;have m:∀u∈[Value.bool b],u.oneCell'=true:=fun u t=>by rw[XU.1 t];rfl
  have ec:aG (val L ρ x)=[.bool b]:=by simp only[val,ex,conc,aG]
  have e3:eW [Value.bool b] 1=true:=rfl;have e4:iS [Value.bool b]=true:=rfl;simp only[evalOp,ec,e3,e4];rcases l with⟨l,rfl⟩ | l
  ·rw[l];exact⟨.inr ⟨k,m,s⟩⟩
  ·rw[l];exact⟨.inr ⟨k,m,s⟩⟩
 ·exact EY o h
theorem CI {n:Nat}{y x:X}{d:Option Nat}{K:TK}(ht:TS G F L ρ M τ) (h:storeT false n y x d M τ K):evalOp P (.storeX n y x) d F L ρ (Both G K):=by
 have he:=ht.env;simp only[storeT,eD,dW,dI] at h;simp only[evalOp];split at h
 ·rename_i k off h1 h2 h3 hy;split at h
  case h_3=>exact h.elim
  case h_2 =>
   rename_i t pre cs post hk;rcases h with⟨o,rfl,h⟩ | ⟨pre',bi,bt,bk,h⟩
   case inr =>
    obtain⟨g,ty,v1,w,v3,hL,u,z,am,l⟩:=rE ht.tl hk;have p:=dJ he h1;have f:(aG (val L ρ x)).length=n:=by rw[p.len];exact br h2
    have r:eW (aG (val L ρ x)) n=true:=cR f;have ho:=j7 (fD p h3);rw[r,ho,(eB he hy).1];simp only[hL];have az:off+n<=v1.length:=by rw[u.len];exact bi
    have q:(((v1++(w++v3)).drop off).take n).length=n:=by
     simp;omega
    rw[fu l.2.2 (cR q)];have ag:aM (v1++(w++v3)) off (aG (val L ρ x))=aM v1 off (aG (val L ρ x))++(w++v3):=by
     simp only[aM];rw[List.take_append_of_le_length (by omega),f,List.drop_append_of_le_length az];simp
    have bp:aB F [] pre' (aM v1 off (aG (val L ρ x))):=by rw[<-bk];exact fJ u (dV bt p)
    have h4:=ht.turn (o':=.box g ty (aM (v1++(w++v3)) off (aG (val L ρ x)))) (to:=.win t pre' cs post) hL ⟨rfl,rfl⟩ (fun g' t' cs' e=>by injection e with a b c;subst a b;exact⟨_,rfl⟩)
     (fun L' hx=>⟨l,_,w,v3,ag,bp,z.ext (aA.le_refl F) hx,am⟩)
    exact fun _=>⟨_,_,h4.put (c:=.und) (sv:=.v undef) ⟨_,rfl,by simp only[Rel]⟩ d,h⟩
   split at h
   case h_2=>exact h.elim
   rename_i hl;obtain⟨g,ty,v1,w,v3,hL,u,z,am,l⟩:=rE ht.tl hk;have p:=dJ he h1;have f:(aG (val L ρ x)).length=n:=by rw[p.len];exact br h2
   have r:eW (aG (val L ρ x)) n=true:=cR f;have ho:=j7 (fD p h3);rw[r,ho,(eB he hy).1];simp only[hL];have an:=(z.drop o).take n;have ab:((w.drop o).take n).length=n:=by rw[an.len];exact br hl
   have q:(((v1++(w++v3)).drop (pre.length+o)).take n).length=n:=by
    rw[<-u.len];simp at ab ⊢;omega
   rw[fu l.2.2 (cR q)];have ag:aM (v1++(w++v3)) (pre.length+o) (aG (val L ρ x))=v1++(aM w o (aG (val L ρ x))++v3):=by
    by_cases cc:n=0
    ·have:aG (val L ρ x)=[]:=XD (by omega);rw[this];simp[aM]
    have hn:o+n<=w.length:=by simp at ab;omega
    simp only[aM];rw[<-u.len,List.take_append,XS (by omega),show v1.length+o-v1.length=o by omega,List.take_append_of_le_length (by omega),f,Nat.add_assoc,List.drop_append,List.drop_eq_nil_of_le (by omega),show v1.length+(o+n)-v1.length=o+n by omega,List.drop_append_of_le_length hn];simp
   have h4:=ht.turn (o':=.box g ty (aM (v1++(w++v3)) (pre.length+o) (aG (val L ρ x)))) (to:=.win t pre (eJ cs o (bT (bW τ x))) post) hL ⟨rfl,rfl⟩ (fun g' t' cs' e=>by injection e with a b c;subst a b;exact⟨_,rfl⟩)
    (fun L' hx=>⟨l,v1,_,v3,ag,u,(fJ z p).ext (aA.le_refl F) hx,am⟩)
   exact fun _=>⟨_,_,h4.put (c:=.und) (sv:=.v undef) ⟨_,rfl,by simp only[Rel]⟩ d,h⟩
  rename_i t cs hk;split at h
  case h_2=>exact h.elim
  rename_i hl;obtain⟨g,ty,vs,hL,z,l⟩:=jV ht.tl hk;have p:=dJ he h1;have r:eW (aG (val L ρ x)) n=true:=cR (by rw[p.len];exact br h2);have ho:=j7 (fD p h3);rw[r,ho,(eB he hy).1];simp only[hL];have an:=(z.drop off).take n;rw[fu l.2.2 (cR (by rw[an.len];exact br hl))];have h4:=ht.turn (o':=.box g ty (aM vs off (aG (val L ρ x)))) (to:=.box t (eJ cs off (bT (bW τ x)))) hL ⟨rfl,rfl⟩ (fun g' t' cs' e=>by injection e with a b c;subst a b;exact⟨_,rfl⟩)
   (fun L' hx=>⟨l,(fJ z p).ext (aA.le_refl F) hx⟩)
  exact fun _=>⟨_,_,h4.put (c:=.und) (sv:=.v undef) ⟨_,rfl,by simp only[Rel]⟩ d,h⟩
 ·rename_i k j off h1 h2 h3 hy;split at h
  case h_2=>exact h.elim
  rename_i t sz els h0 hk hp;obtain⟨r0,es,r1,r2,r3⟩:=h;obtain⟨ad,t',s,m,c,bm,e1,e2⟩:=sw he hy;obtain⟨v,xs,e3,⟨hm,q6⟩,z⟩:=jW ht.tl hk;rw[e2] at e3;injection e3 with e3
  injection e3 with q1 q2 q3 q4 q5
  subst q1 q2 q3 q4 q5;have p:=dJ he h1;have f:(aG (val L ρ x)).length=n:=by rw[p.len];exact br h2
  have r:eW (aG (val L ρ x)) n=true:=cR f;have ho:=j7 (fD p h3);rw[r,ho,e1];have cb:es.length=s:=by
   obtain⟨us,u1,_,u3,_⟩:=z.at r1;rw[<-u1,u3.len]
  have hn:off+n<=s:=Xq r0;have aE:=z.set (ds:=(bT (bW τ x)).map C.can) (us:=aG (val L ρ x)) (off:=off) r1 (by rw[f];exact hn) (ju (dV hp p)) (mA h3);have aw:j<els.length:=(Xe.1 r1).1;have bj:=gV z;have h4:=ht.turn (o':=.row (.slice (some ad) els.length c) t' s els.length (aM bm (j*s+off) (aG (val L ρ x)))) (to:=.row t' s (els.set j (eJ es off ((bT (bW τ x)).map C.can)))) e2 ⟨rfl,rfl,rfl⟩
   (fun g' cf cs' e=>by cases e) (fun L' hx=>⟨rfl,rfl,by simp,⟨hm,_,_,rfl,fun e=>(by cases e)⟩,aE⟩)
  refine⟨k,_,_,_,_,_,ad,c,e2,rfl,rfl,?_,fD p h3,fun _=>⟨_,_,h4.put (c:=.und) (sv:=.v undef) ⟨_,rfl,by simp only[Rel]⟩ d,r3 es r1⟩⟩;rw[bj,f];have:(j+1)*s<=els.length*s:=Nat.mul_le_mul_right _ aw;rw[Nat.add_mul] at this;omega
 ·exact h.elim
theorem wg {n:Nat}{y x:X}{d:Option Nat}{K:TK}(o:TS G F L ρ M τ) (h:storeT true n y x d M τ K):evalOp P (.storeD n y x) d F L ρ (Both G K):=by
 have r:=o.env;simp only[storeT,eD,dW,dI] at h;simp only[evalOp];split at h
 ·rename_i k off s w h3 hy;split at h
  case h_3=>exact h.elim
  case h_2=>exact h.elim
  rename_i t cs z;split at h
  case h_2=>exact h.elim
  rename_i u;obtain⟨g,ty,vs,p,q,f⟩:=jV o.tl z;have j:=dJ r s;have m:eW (aG (val L ρ x)) n=true:=cR (by rw[j.len];exact br w);have ho:=j7 (fD j h3);rw[m,ho,(eB r hy).1];simp only[p];have l:=(q.drop off).take n;rw[fu f.2.2 (cR (by rw[l.len];exact br u))];have h4:=o.turn (o':=.box g ty (aM vs off (aG (val L ρ x)))) (to:=.box t (eJ cs off (bT (bW τ x)))) p ⟨rfl,rfl⟩ (fun g' t' cs' e=>by injection e with a b c;subst a b;exact⟨_,rfl⟩)
   (fun L' hx=>⟨f,(fJ q j).ext (aA.le_refl F) hx⟩)
  exact⟨_,_,h4.put (c:=.und) (sv:=.v undef) ⟨_,rfl,by simp only[Rel]⟩ d,h⟩
 ·exact h.elim
 ·exact h.elim
theorem EZ {e sz b:Nat}{zs:List Value}{l c:X}{d:Option Nat}{K:TK}(j:TS G F L ρ M τ) (h:bH P (.makeS e sz b zs l c) d M τ K):evalOp P (.makeS e sz b zs l c) d F L ρ (Both G K):=by
 have p:=j.env;simp only[bH,eD,dW,dI] at h;simp only[evalOp];split at h
 case h_2=>exact h.elim
 rename_i k1 n k2 m k t v;split at h
 case h_2=>exact h.elim
 rename_i z s w;rw[(dY p t).1,(dY p v).1];have a:=bU j.tl z;simp only[a];obtain⟨u,r,x,q,g5⟩:=h;refine⟨u,r,x,q,fun g=>?_⟩;have hz:aB F [] ((zs.map qN).map C.can) zs:=ju (kI zs);have f:∀i:Nat,aL F sz (List.replicate i ((zs.map qN).map C.can)) (List.replicate i zs).flatten:=by
  intro i
  induction i with
  | zero=>simp only[List.replicate_zero,List.flatten_nil,aL]
  | succ i y =>
   simp only[X2,List.flatten_cons,aL];exact⟨zs,_,rfl,by have:=br s;simpa using this,mA w,hz,y⟩
 have h3:=j.new (aA.le_refl F) a (o:=.row (.slice (some ⟨g,0,none⟩) n.toNat m.toNat) e sz n.toNat (List.replicate n.toNat zs).flatten) (to:=.row e sz (List.replicate n.toNat ((zs.map qN).map C.can)))
  ⟨rfl,rfl,by simp,⟨X0 (Int.toNat_le_toNat r) q,_,_,rfl,fun e=>(by cases e)⟩,f _⟩
 exact⟨_,_,h3.put (c:=.rw k) (mT (by rw[Loc.Wt,j3 rfl])) (some k),g5⟩
end
section
variable {P:Program}{G:Nat->Option (Nat×TypeId)}{F:aA}{L:Loc}{ρ:Env}{M:TL}{τ:aU}
theorem zP:∀{ks:List Nat}{i j m:Nat},cn ks i j=some m->∃n,ks[n]?=some j/\m=i+n
 | [],_,_,_,h=>by simp[cn] at h
 | k::ks,i,j,m,h=>by
  simp only[cn] at h;cases a:Nat.beq j k with
  | true =>
   have:=v8 a;subst this;rw[a] at h;injection h with h
   exact⟨0,by simp,by omega⟩
  | false =>
   rw[a] at h;obtain⟨n,b,c⟩:=zP h;exact⟨n+1,by simpa using b,by omega⟩
theorem lO {ko:List Nat}{j m:Nat}(h:aW ko j=some m):1000<=j/\ko[j-1000]?=some m:=by
 simp only[aW] at h;split at h
 ·rename_i a;exact⟨Xq a,h⟩
 ·cases h
theorem cK:∀{l:List Nat},bE l=true->l.Nodup
 | [],_=>List.nodup_nil
 | k::l,h=>by
  simp only[bE] at h;split at h
  ·cases h
  ·rename_i a;exact List.nodup_cons.2 ⟨fun b=>(by rw[cI.2 b] at a;cases a),cK h⟩
theorem G7 {L':Loc}{f:Nat->Option Nat}(k:∀j m,f j=some m->∀o,L.get j=some o->L'.get m=some o) (c:C) (v:Value) (p:c.leaf=true) (h:Rel F L c v):Rel F L' (sj f c) v:=by
 cases c<;>simp only[C.leaf,Xm] at p<;>simp only[sj]
 case rw j =>
  simp only[Rel] at h;obtain⟨a,c,t,sz,n,xs,rfl,h⟩:=h;cases d:f j with
  | none=>simp only[Rel]
  | some m=>simp only[Rel];exact⟨a,c,t,sz,n,xs,rfl,k j m d _ h⟩
 case own j off =>
  simp only[Rel] at h;obtain⟨g,t,cs,h,rfl⟩:=h;cases d:f j with
  | none=>simp only[Rel]
  | some m=>simp only[Rel];exact⟨g,t,cs,k j m d _ h,rfl⟩
 case ifo m ti j off =>
  simp only[Rel] at h;obtain⟨g,t,cs,h,rfl⟩:=h;cases d:f j with
  | none=>simp only[Rel]
  | some m=>simp only[Rel];exact⟨g,t,cs,k j m d _ h,rfl⟩
 case mpr j =>
  simp only[Rel] at h;obtain⟨g,cs,h,rfl⟩:=h;cases d:f j with
  | none=>simp only[Rel]
  | some m=>simp only[Rel];exact⟨g,cs,k j m d _ h,rfl⟩
 case ownv=>exact h.elim
 case elr j a b =>
  simp only[Rel] at h;obtain⟨l,t,sz,n,c,xs,rfl,h⟩:=h;cases d:f j with
  | none=>simp only[Rel]
  | some m=>simp only[Rel];exact⟨l,t,sz,n,c,xs,rfl,k j m d _ h⟩
 case slo j a =>
  simp only[Rel] at h;obtain⟨g,t,cs,l,h,q,s,r⟩:=h;cases d:f j with
  | none=>simp only[Rel]
  | some m=>simp only[Rel];exact⟨g,t,cs,l,k j m d _ h,q,s,r⟩
 case slp=>exact h.elim
 all_goals
  exact bq (aA.le_refl F) (fun u e=>by rcases e with⟨off,e⟩ | e | e | ⟨_,_,_,e⟩ | ⟨_,_,e⟩<;>cases e) rfl h
theorem Rel.ren {L':Loc}{f:Nat->Option Nat}(a:∀j m,f j=some m->∀o,L.get j=some o->L'.get m=some o) {c:C}{v:Value}(h:Rel F L c v):Rel F L' (c.ren f) v:=Rel.mp (G7 a) 3 h
theorem cO.ren {L':Loc}{f:Nat->Option Nat}(a:∀j m,f j=some m->∀o,L.get j=some o->L'.get m=some o):∀{o:TO}{p:Own},cO F L o p->cO F L' (o.Wv (C.ren f)) p
 | .box t cs,.box g b vs,r=>⟨r.1,r.2.map fun c _ v h=>h.ren a⟩
 | .row t sz els,.row v b l n xs,r=>r
 | .box _ _,.row ..,r=>r.elim
 | .row ..,.box ..,r=>r.elim
 | .map _,.row ..,r=>r.elim
 | .map es,.box g b vs,r=>r
 | .win ..,.row ..,r=>r.elim
 | .win ..,.box ..,⟨k,v1,q,v3,e,d,s,u⟩=>⟨k,v1,q,v3,e,d,s.map fun c _ v h=>h.ren a,u⟩
theorem pW (j:cP F L M):∀{ks:List Nat}{Lin:List TO},M.sub ks=some Lin->∃Li,L.sub ks=some Li/\Li.length=Lin.length/\∀(i:Nat) o p,Lin[i]?=some o->Li[i]?=some p->cO F L o p
 | [],Lin,h=>by simp only[TL.sub,xo] at h;subst h;exact⟨[],rfl,rfl,by simp⟩
 | k::ks,Lin,h=>by
  simp only[TL.sub] at h;split at h
  case h_2=>cases h
  rename_i o l e n;injection h with h
  subst h;obtain⟨Li,s,r,q⟩:=pW j n;rcases dS (j k) with⟨a,f⟩ | ⟨o',p,a,f,m⟩
  ·rw[e] at a;cases a
  ·rw[e] at a;injection a with a
   subst a;refine⟨p::Li,by simp only[Loc.sub,f,s],by simp[r],fun i c b hi d=>?_⟩;cases i with
   | zero=>simp only[Xp,xo] at hi d;subst hi;subst d;exact m
   | succ i=>exact q i c b (by simpa using hi) (by simpa using d)
theorem mU {ks:List Nat}{Li:List Own}(c:L.sub ks=some Li):∀j m,cn ks 1000 j=some m->∀o,L.get j=some o->(inp Li).get m=some o:=by
 intro j m h o d;obtain⟨n,a,rfl⟩:=zP h;obtain⟨_,b⟩:=dX c;rw[aT,j3 (by omega),show 1000+n-1000=n by omega,<-b n j a];exact d
theorem rF (f:cP F L M) {ks:List Nat}{Lin:List TO}{Li:List Own}(e:Li.length=Lin.length) (d:L.sub ks=some Li) (c:∀(i:Nat) o p,Lin[i]?=some o->Li[i]?=some p->cO F L o p) :
  cP F (inp Li) (iO (Lin.map (TO.Wv (C.ren (cn ks 1000))))):=by
 intro k;rw[ck,aT];split
 ·rw[XR];cases b:Lin[k-1000]? with
  | none =>
   have:Li[k-1000]?=none:=by rw[X3] at b ⊢;omega
   rw[this];trivial
  | some o =>
   have a:k-1000<Li.length:=by have:=(Xe.1 b).1;omega
   rw[x5 a];exact(c _ _ _ b (x5 a)).ren (mU d)
 ·trivial
def lA (L:Loc) (k:Nat):Loc:=match L.get k with | some (.row ..)=>L.del k | _=>L
def mC:List Nat->Loc->Loc
 | [],L=>L
 | k::ks,L=>mC ks (lA L k)
theorem tE (k:Nat):(∀c v,c.leaf=true->Rel F L c v->Rel F (lA L k) (fW k c) v)/\(∀c sv,c.leaf=true->aN F L c sv->aN F (lA L k) (fW k c) sv):=by
 by_cases a:∃v t sz n xs,L.get k=some (.row v t sz n xs)
 ·obtain⟨v,t,sz,n,xs,a⟩:=a;have e:lA L k=L.del k:=by simp only[lA,a]
  rw[e];have b:∀g t cs,L.get k≠some (.box g t cs):=fun g t cs h=>by rw[a] at h;injection h with h;cases h
  have d:∀j,j≠k->∀o,L.get j=some o->∃o',(L.del k).get j=some o'/\Own.like o o':=fun j l o m=>⟨o,by rw[Loc.Wy,vv l];exact m,Own.Wx o⟩;exact⟨jY b d (aA.le_refl F),oq b d (aA.le_refl F)⟩
 ·have e:lA L k=L:=by
   simp only[lA];split
   ·rename_i h;exact v7 ⟨_,_,_,_,_,h⟩ a
   ·rfl
  rw[e];refine⟨fun c v f h=>?_,fun c sv f h=>?_⟩
  ·cases c<;>simp only[fW]<;>first
    | exact h
    | exact h.elim
    | (split<;>first | exact h | (simp only[Rel];done))
  ·cases c<;>simp only[fW]<;>first
    | exact h
    | trivial
    | (split<;>first | exact h | trivial)
theorem Rel.kills:∀(ks:List Nat) {L:Loc}{c:C}{v:Value},Rel F L c v->Rel F (mC ks L) (C.kills ks c) v
 | [],L,c,v,h=>h
 | k::ks,L,c,v,h=>Rel.kills ks (Rel.mp (tE k).1 3 h)
theorem aN.kills:∀(ks:List Nat) {L:Loc}{c:C}{sv:SV},aN F L c sv->aN F (mC ks L) (C.kills ks c) sv
 | [],L,c,sv,h=>h
 | k::ks,L,c,sv,h=>aN.kills ks (aN.mp (tE k).1 (tE k).2 3 h)
theorem cO.kills (ks:List Nat) {L:Loc}:∀{o:TO}{p:Own},cO F L o p->cO F (mC ks L) (o.Wv (C.kills ks)) p
 | .box t cs,.box g a vs,r=>⟨r.1,r.2.map fun c _ v h=>h.kills ks⟩
 | .row t sz els,.row v a f n xs,r=>r
 | .box _ _,.row ..,r=>r.elim
 | .row ..,.box ..,r=>r.elim
 | .map _,.row ..,r=>r.elim
 | .map es,.box g a vs,r=>r
 | .win ..,.row ..,r=>r.elim
 | .win ..,.box ..,⟨d,v1,j,v3,e,b,k,l⟩=>⟨d,v1,j,v3,e,b,k.map fun c _ v h=>h.kills ks,l⟩
theorem Bm {k j:Nat}{o:Own}(h:(lA L k).get j=some o):L.get j=some o/\(j=k->∃g t cs,o=.box g t cs):=by
 unfold lA at h;split at h
 ·rw[Loc.Wy] at h;split at h
  ·cases h
  ·rename_i b;exact⟨h,fun e=>v7 e b⟩
 ·rename_i a;refine⟨h,fun e=>?_⟩;subst e;cases o with
  | box g t cs=>exact⟨g,t,cs,rfl⟩
  | row v t sz n xs=>exact v7 h (a v t sz n xs)
theorem oz:∀{ks:List Nat}{L:Loc}{j:Nat}{o:Own},(mC ks L).get j=some o->L.get j=some o/\(j∈ks->∃g t cs,o=.box g t cs)
 | [],L,j,o,h=>⟨h,by simp⟩
 | k::ks,L,j,o,h=>by
  obtain⟨b,d⟩:=oz (ks:=ks) h;obtain⟨c,f⟩:=Bm b;exact⟨c,fun a=>by
   rcases Xh.1 a with e | e
   ·exact f e
   ·exact d e⟩
theorem wh (ks:List Nat) (M:TL) (k:Nat):(TL.kills ks M).get k=(M.get k).map (TO.Wv (C.kills ks)):=by
 cases ks with
 | nil =>
  simp only[TL.kills];cases M.get k with
  | none=>rfl
  | some o =>
   cases o with
   | box t cs =>
    have e:(C.kills []:C->C)=id:=rfl;simp[TO.Wv,e]
   | row t sz els=>rfl
   | map es=>rfl
   | win t pre cs post =>
    have e:(C.kills []:C->C)=id:=rfl;simp[TO.Wv,e]
 | cons a ks=>exact pV _ _ _
theorem wj (ks:List Nat) (τ:aU) (j:Nat):eK ks τ j=(τ j).kills ks:=by cases ks<;>rfl
def zQ:TO->Bool
 | .row _ _ _=>true
 | _=>false
theorem d9:∀{Lin:List TO}{ks ko:List Nat},aQ Lin ks ko=true->∀(i:Nat) o,Lin[i]?=some o->zQ o=false->∃k,ks[i]?=some k/\ko[i]?=some k
 | [],_,_,_,i,o,e,_=>by simp at e
 | .box f d::l,[],ko,h,i,o,e,_=>by cases ko<;>simp[aQ] at h
 | .box f d::l,k::ks,[],h,i,o,e,_=>by simp[aQ] at h
 | .box f d::l,k::ks,c::ko,h,i,o,e,a=>by
  simp only[aQ] at h;split at h
  case h_2=>cases h
  rename_i b;have:=v8 b;subst this;cases i with
  | zero=>exact⟨k,by simp,by simp⟩
  | succ i=>simpa using d9 h i o (by simpa using e) a
 | .map es::l,[],ko,h,i,o,e,_=>by cases ko<;>simp[aQ] at h
 | .map es::l,k::ks,[],h,i,o,e,_=>by simp[aQ] at h
 | .map es::l,k::ks,c::ko,h,i,o,e,a=>by
  simp only[aQ] at h;split at h
  case h_2=>cases h
  rename_i b;have:=v8 b;subst this;cases i with
  | zero=>exact⟨k,by simp,by simp⟩
  | succ i=>simpa using d9 h i o (by simpa using e) a
 | .win ..::l,[],ko,h,i,o,e,_=>by cases ko<;>simp[aQ] at h
 | .win ..::l,k::ks,[],h,i,o,e,_=>by simp[aQ] at h
 | .win ..::l,k::ks,c::ko,h,i,o,e,a=>by
  simp only[aQ] at h;split at h
  case h_2=>cases h
  rename_i b;have:=v8 b;subst this;cases i with
  | zero=>exact⟨k,by simp,by simp⟩
  | succ i=>simpa using d9 h i o (by simpa using e) a
 | .row ..::l,k::ks,c::ko,h,i,o,e,a=>by
  simp only[aQ] at h;cases i with
  | zero =>
   simp only[Xp,xo] at e;subst e;cases a
  | succ i=>simpa using d9 h i o (by simpa using e) a
 | .row ..::l,k::ks,[],h,i,o,e,a=>by
  simp only[aQ] at h;cases i with
  | zero =>
   simp only[Xp,xo] at e;subst e;cases a
  | succ i =>
   obtain⟨c,m,j⟩:=d9 h i o (by simpa using e) a;simp at j
 | .row ..::l,[],ko,h,i,o,e,_=>by simp[aQ] at h
theorem wk {Lin:List TO}{ks ko:List Nat}(h:aQ Lin ks ko=true) (i:Nat) (t:TypeId) (cs:List C) (e:Lin[i]?=some (.box t cs)):∃k,ks[i]?=some k/\ko[i]?=some k:=d9 h i _ e rfl
theorem qx {M:TL}{ks:List Nat}:∀{ko:List Nat},lu M ks ko=true->∀k∈ko,k∈ks\/M.get k=none
 | [],_,k,a=>by simp at a
 | k0::ko,h,k,a=>by
  simp only[lu] at h;rcases Xh.1 a with e | e
  ·subst e;split at h
   ·rename_i b;exact .inl (cI.1 b)
   ·rename_i b c;exact .inr c
   ·cases h
  ·split at h
   ·exact qx h k e
   ·exact qx h k e
   ·cases h
theorem cD {ko:List Nat}{Lo:List Own}{L:Loc}(b:ko.Nodup) (e:ko.length=Lo.length) {i k:Nat}{o:Own}(c:ko[i]?=some k) (f:Lo[i]?=some o):(L.puts ko Lo).get k=some o:=by
 rcases cZ ko Lo L k b e with⟨_,a⟩ | ⟨h,d,a,_⟩
 ·exact v7 (Xi c) a
 ·have:=yh b d c;subst this;rw[a,f]
theorem rG {k:Nat}{t sz:Nat}{els:List (List C)}(h:M.get k=some (.row t sz els)):∀{ks:List Nat},k∈ks->k∈rowsOf M ks
 | [],a=>by cases a
 | j::ks,a=>by
  simp only[rowsOf];rcases Xh.1 a with rfl | a
  ·rw[h];simp
  ·split
   ·exact XE _ (rG h a)
   ·exact rG h a
theorem wm {ks:List Nat}{k:Nat}{o:Own}(f:cP F L M) (e:k∈ks) (h:L.get k=some o) (hb:k∈rowsOf M ks->∃g t cs,o=.box g t cs):∃g t cs,o=.box g t cs:=by
 rcases dS (f k) with⟨d,a⟩ | ⟨q,p,d,a,c⟩
 ·rw[h] at a;cases a
 ·rw[h] at a;injection a with a
  subst a;cases q with
  | row t sz els=>exact hb (rG d e)
  | box t cs =>
   cases o with
   | row=>exact c.elim
   | box g b cs'=>exact⟨g,b,cs',rfl⟩
  | map es =>
   cases o with
   | row=>exact c.elim
   | box g b cs'=>exact⟨g,b,cs',rfl⟩
  | win t pre cs post =>
   cases o with
   | row=>exact c.elim
   | box g b cs'=>exact⟨g,b,cs',rfl⟩
theorem qy {f:Nat}{args:List C}{vs:List Value}{ks ko:List Nat}{Lin:List TO}{R:List TO->C->Prop}{K:TL->aU->C->Prop}(ht:TS G F L ρ M τ) (ha:aB F L args vs)
  (h1:M.sub ks=some Lin) (h2:bE ks=true) (h3:bE ko=true) (h4:lu M ks ko=true) (h5:aQ Lin ks ko=true)
  (h6:CallsT P f (args.map fun c=>c.WA.ren (cn ks 1000)) (Lin.map (TO.Wv (C.ren (cn ks 1000)))) R)
  (h7:∀v Mo,R Mo v->Wf v->(∀o∈Mo,o.Wf)->ko.length=Mo.length/\K (((M.Wu ks).kills (rowsOf M ks)).puts ko (Mo.map (TO.Wv (C.ren (aW ko))))) (eK (rowsOf M ks) τ) (v.ren (aW ko)).slt) :
  cW P f vs F L (fun F' L' v=>∃M' an c,TS G F' L' ρ M' an/\aN F' L' c (.v v)/\K M' an c):=by
 obtain⟨Li,e1,e2,e3⟩:=pW ht.tl h1;have hn:=cK h2;have l:=cK h3;have al:∀k,k∈ko->k∈ks\/L.get k=none:=fun k q=>(qx h4 k q).imp id fun e=>bU ht.tl e;have ax:=dX e1;refine⟨ks,ko,Li,gu Li R,e1,hn,l,al,h6.out F Li vs (by simp[e2]) (rF ht.tl e2 e1 e3) ?_,?_⟩
 ·exact ha.map fun c _ v hc=>(gX hc).ren (mU e1)
 ·rintro v F' Lo hF ⟨Mo,c,q1,q2,q3,q4,q5⟩;have bb:∀o∈Mo,o.Wf:=by
   intro o z;obtain⟨i,hi⟩:=XB.1 z;have d:i<Lo.length:=by rw[<-q1];exact(Xe.1 hi).1
   have:=q2 (1000+i);rw[ck,aT,j3 (by omega),j3 (by omega),show 1000+i-1000=i by omega,hi,x5 d] at this;exact cO.wf this
  obtain⟨k1,k2⟩:=h7 c Mo q5 q3.wf bb;have a:ko.length=Lo.length:=by rw[k1,q1]
  have b:∀k g t cs,k∈ks->L.get k=some (.box g t cs)->∃cs',Loc.get ((L.Wu ks).puts ko Lo) k=some (.box g t cs'):=by
   intro k g t cs q hg;obtain⟨i,hi⟩:=XB.1 q;have w:Li[i]?=some (.box g t cs):=by rw[<-ax.2 i k hi];exact hg
   have d:i<Lin.length:=by rw[<-e2];exact(Xe.1 w).1
   have hr:=e3 i _ _ (x5 d) w;cases hL:Lin[i] with
   | row=>rw[hL] at hr;exact hr.elim
   | box t' cs' =>
    obtain⟨k',n,b2⟩:=wk h5 i t' cs' (by rw[x5 d,hL]);rw[hi] at n;injection n with n
    subst n;obtain⟨u,r⟩:=q4 i g t cs w;exact⟨u,cD l a b2 r⟩
   | map es =>
    obtain⟨k',n,b2⟩:=d9 h5 i (.map es) (by rw[x5 d,hL]) rfl;rw[hi] at n;injection n with n
    subst n;obtain⟨u,r⟩:=q4 i g t cs w;exact⟨u,cD l a b2 r⟩
   | win t0 p0 c0 q0 =>
    obtain⟨k',n,b2⟩:=d9 h5 i (.win t0 p0 c0 q0) (by rw[x5 d,hL]) rfl;rw[hi] at n;injection n with n
    subst n;obtain⟨u,r⟩:=q4 i g t cs w;exact⟨u,cD l a b2 r⟩
  refine⟨a,b,?_⟩;generalize x:(L.Wu ks).puts ko Lo=L' at b
  -- what was there before
  have aa:∀k,k∉ks->∀o,L.get k=some o->L'.get k=some o:=by
   intro k q o z;rw[<-x];rcases cZ ko Lo (L.Wu ks) k l a with⟨y,a2⟩ | ⟨i,y,a2,a3⟩
   ·rw[y,fj,vv q];exact z
   ·rcases al k (Xi y) with e | e
    ·exact v7 e q
    ·rw[z] at e;cases e
  have ac:Ext (mC (rowsOf M ks) L) L':=by
   intro k o z;obtain⟨g1,g2⟩:=oz z
   by_cases q:k∈ks
   ·obtain⟨g,t,cs,rfl⟩:=wm ht.tl q g1 g2;obtain⟨cs',h⟩:=b k g t cs q g1;exact⟨_,h,rfl,rfl⟩
   ·exact⟨o,aa k q o g1,Own.Wx o⟩
  have s:∀j m,aW ko j=some m->∀o,(inp Lo).get j=some o->L'.get m=some o:=by
   intro j m hj o z;obtain⟨y,a2⟩:=lO hj;rw[aT,j3 y] at z;rw[<-x];exact cD l a a2 z
  refine⟨_,_,_,⟨fun k=>?_,fun j=>?_,fun k g t e=>?_,ht.glob.mono hF⟩,js (q3.ren s),k2⟩
  ·rcases lN ko (Mo.map (TO.Wv (C.ren (aW ko)))) ((M.Wu ks).kills (rowsOf M ks)) k l (by simp[k1]) with⟨y,a2⟩ | ⟨i,y,a2,a3⟩
   ·have ag:L'.get k=(L.Wu ks).get k:=by
     rw[<-x];rcases cZ ko Lo (L.Wu ks) k l a with⟨n,_⟩ | ⟨i,n,_,_⟩
     ·exact n
     ·exact v7 (Xi n) a2
    rw[y,ag,wh,nM,fj];split
    ·trivial
    ·rcases dS (ht.tl k) with⟨c1,c2⟩ | ⟨o,p,c1,c2,hr⟩
     ·rw[c1,c2];trivial
     ·rw[c1,c2];exact(hr.kills (rowsOf M ks)).ext hF ac
   ·rw[a2,XR];have d:i<Mo.length:=by simpa using a3
    have ab:i<Lo.length:=by omega
    have ag:L'.get k=some (Lo[i]):=by rw[<-x];exact cD l a y (x5 ab)
    rw[ag,x5 d];have:=q2 (1000+i);rw[ck,aT,j3 (by omega),j3 (by omega),show 1000+i-1000=i by omega,x5 d,x5 ab] at this;exact cO.ren s this
  ·rw[wj];exact((ht.env j).kills (rowsOf M ks)).ext hF ac
  ·obtain⟨cs,h⟩:=ht.kp k g t e
   by_cases q:k∈ks
   ·exact b k g t cs q h
   ·exact⟨cs,aa k q _ h⟩
theorem tF {f:Nat}{args:List C}{vs:List Value}{ks:List Nat}{Lin:List TO}{R:List TO->C->Prop}{K:TL->aU->C->Prop}(ht:TS G F L ρ M τ) (ha:aB F L args vs)
  (h1:M.sub ks=some Lin) (h2:bE ks=true) (h6:zE P f (args.map fun c=>c.WA.ren (cn ks 1000)) (Lin.map (TO.Wv (C.ren (cn ks 1000)))) R)
  (h7:∀v Mo,R Mo v->Wf v->(∀o∈Mo,o.Wf)->ks.length=Mo.length/\K ((M.Wu ks).puts ks (Mo.map (TO.Wv (C.ren (aW ks))))) τ (v.ren (aW ks)).slt) :
  cW P f vs F L (fun F' L' v=>∃M' ae c,TS G F' L' ρ M' ae/\aN F' L' c (.v v)/\K M' ae c):=by
 obtain⟨Li,e1,e2,e3⟩:=pW ht.tl h1;have r:=cK h2;have ad:=dX e1;refine⟨ks,ks,Li,_,e1,r,r,fun k d=>.inl d,h6.out F Li vs (by simp[e2]) (rF ht.tl e2 e1 e3) ?_,?_⟩
 ·exact ha.map fun c _ v hc=>(gX hc).ren (mU e1)
 ·rintro v F' Lo hF ⟨⟨Mo,c,q1,q2,q3,q4,q5⟩,bl,am⟩;have ax:∀o∈Mo,o.Wf:=by
   intro o u;obtain⟨i,hi⟩:=XB.1 u;have s:i<Lo.length:=by rw[<-q1];exact(Xe.1 hi).1
   have:=q2 (1000+i);rw[ck,aT,j3 (by omega),j3 (by omega),show 1000+i-1000=i by omega,hi,x5 s] at this;exact cO.wf this
  obtain⟨k1,k2⟩:=h7 c Mo q5 q3.wf ax;have a:ks.length=Lo.length:=by rw[k1,q1]
  have b:∀k g t cs,k∈ks->L.get k=some (.box g t cs)->∃cs',Loc.get ((L.Wu ks).puts ks Lo) k=some (.box g t cs'):=by
   intro k g t cs d hg;obtain⟨i,hi⟩:=XB.1 d;have ab:Li[i]?=some (.box g t cs):=by rw[<-ad.2 i k hi];exact hg
   obtain⟨av,al⟩:=q4 i g t cs ab;exact⟨av,cD r a hi al⟩
  refine⟨a,b,?_⟩;generalize l:(L.Wu ks).puts ks Lo=L' at b;have w:∀k,k∉ks->∀o,L.get k=some o->L'.get k=some o:=by
   intro k d o u;rw[<-l];rcases cZ ks Lo (L.Wu ks) k r a with⟨q,z⟩ | ⟨i,q,z,a3⟩
   ·rw[q,fj,vv d];exact u
   ·exact v7 (Xi q) d
  have y:Ext L L':=by
   intro k o u
   by_cases d:k∈ks
   ·obtain⟨i,hi⟩:=XB.1 d;have ab:Li[i]?=some o:=by rw[<-ad.2 i k hi];exact u
    obtain⟨o',h1,h2⟩:=am i o ab;exact⟨o',by rw[<-l];exact cD r a hi h1,h2⟩
   ·exact⟨o,w k d o u,Own.Wx o⟩
  have n:∀j m,aW ks j=some m->∀o,(inp Lo).get j=some o->L'.get m=some o:=by
   intro j m hj o u;obtain⟨q,z⟩:=lO hj;rw[aT,j3 q] at u;rw[<-l];exact cD r a z u
  refine⟨_,_,_,⟨fun k=>?_,fun j=>(ht.env j).ext hF y,fun k g t e=>?_,ht.glob.mono hF⟩,js (q3.ren n),k2⟩
  ·rcases lN ks (Mo.map (TO.Wv (C.ren (aW ks)))) (M.Wu ks) k r (by simp[k1]) with⟨q,z⟩ | ⟨i,q,z,a3⟩
   ·have aa:L'.get k=(L.Wu ks).get k:=by
     rw[<-l];rcases cZ ks Lo (L.Wu ks) k r a with⟨b1,_⟩ | ⟨i,b1,_,_⟩
     ·exact b1
     ·exact v7 (Xi b1) z
    rw[q,aa,nM,fj];split
    ·trivial
    ·rcases dS (ht.tl k) with⟨c1,c2⟩ | ⟨o,p,c1,c2,hr⟩
     ·rw[c1,c2];trivial
     ·rw[c1,c2];exact hr.ext hF y
   ·rw[z,XR];have s:i<Mo.length:=by simpa using a3
    have x:i<Lo.length:=by omega
    have aa:L'.get k=some (Lo[i]):=by rw[<-l];exact cD r a q (x5 x)
    rw[aa,x5 s];have:=q2 (1000+i);rw[ck,aT,j3 (by omega),j3 (by omega),show 1000+i-1000=i by omega,x5 s,x5 x] at this;exact cO.ren n this
  ·obtain⟨cs,h⟩:=ht.kp k g t e
   by_cases d:k∈ks
   ·exact b k g t cs d h
   ·exact⟨cs,w k d _ h⟩
theorem qz {ks:List Nat}:∀{ko:List Nat},(∀k∈ko,k∈ks)->lu M ks ko=true
 | [],_=>rfl
 | k::ko,h=>by
  simp only[lu,cI.2 (h k (by simp))];exact qz fun j a=>h j (by simp[a])
def Qk (hb:List (Nat×Nat)) (L:Loc):Prop:=∀k n,(k,n)∈hb->∃g t cs,L.get k=some (.box g t cs)/\cs.length=n
def G8 (F':aA) (L':Loc) (M':TL):Prop:=∀k o,M'.get k=some o->∃p,L'.get k=some p/\cO F' L' o p
theorem yJ {F':aA}{L':Loc}{M':TL}(h:cP F' L' M'):G8 F' L' M':=fun k o e=>by
 rcases dS (h k) with⟨a,b⟩ | ⟨o',p,a,b,c⟩
 ·rw[e] at a;cases a
 ·rw[e] at a;injection a with a
  subst a;exact⟨p,b,c⟩
def G9 (PS:o7) (F':aA) (L':Loc) (v:Value):Prop:=∀s,PS.st=some s->∃M',G8 F' L' M'/\s M' v
theorem G9.no {PS:o7}(h:PS.st=none) {F':aA}{L':Loc}{v:Value}:G9 PS F' L' v:=fun s e=>by rw[h] at e;cases e
def xC (G:Nat->Option (Nat×TypeId)) (PS:o7) (F':aA) (L':Loc) (v:Value):Prop:=Kp G L'/\PS.ps v/\Qk PS.hb L'/\G9 PS F' L' v
theorem Bn:∀{hb:List (Nat×Nat)}{ks:List Nat},kU M ks hb=true->∀k n,(k,n)∈hb->k∉ks/\∃t cs,M.get k=some (.box t cs)/\cs.length=n
 | [],ks,_,k,n,h=>by cases h
 | (j,m)::l,ks,h,k,n,a=>by
  simp only[kU] at h;split at h
  case h_2=>cases h
  rename_i t cs b f;split at h
  case h_2=>cases h
  rename_i d;rcases Xh.1 a with e | a
  ·simp only[Prod.mk.injEq] at e;obtain⟨rfl,rfl⟩:=e;exact⟨fun c=>(by rw[cI.2 c] at b;cases b),t,cs,f,br d⟩
  ·exact Bn h k n a
theorem He {hb:List (Nat×Nat)}{ks:List Nat}{L':Loc}(l:cP F L M) (h:kU M ks hb=true) (e:∀k g t cs,k∉ks->L.get k=some (.box g t cs)->L'.get k=some (.box g t cs)):Qk hb L':=by
 intro k n c;obtain⟨a,t,cs,d,j⟩:=Bn h k n c;obtain⟨g,ty,vs,f,b,_⟩:=jV l d;exact⟨g,ty,vs,e k g ty vs a f,by rw[b.len,j]⟩
theorem uV {ks ko:List Nat}{Lin:List TO}{Li:List Own}{R:List TO->C->Prop}{K:TL->aU->C->Prop}(ht:TS G F L ρ M τ)
  (h2:bE ks=true) (h3:bE ko=true) (h4:lu M ks ko=true) (h5:aQ Lin ks ko=true) (e1:L.sub ks=some Li) (e2:Li.length=Lin.length) (e3:∀(i:Nat) o p,Lin[i]?=some o->Li[i]?=some p->cO F L o p)
  (h7:∀v Mo,R Mo v->Wf v->(∀o∈Mo,o.Wf)->ko.length=Mo.length/\K (((M.Wu ks).kills (rowsOf M ks)).puts ko (Mo.map (TO.Wv (C.ren (aW ko))))) (eK (rowsOf M ks) τ) (v.ren (aW ko)).slt) :
  ∀v F' Lo,F.le F'->gu Li R F' Lo v->ko.length=Lo.length/\(∀k g t cs,k∈ks->L.get k=some (.box g t cs)->∃cs',Loc.get ((L.Wu ks).puts ko Lo) k=some (.box g t cs')) /\
   ∃M' al c,TS G F' ((L.Wu ks).puts ko Lo) ρ M' al/\aN F' ((L.Wu ks).puts ko Lo) c (.v v)/\K M' al c:=by
 have hn:=cK h2;have l:=cK h3;have ay:∀k,k∈ko->k∈ks\/L.get k=none:=fun k n=>(qx h4 k n).imp id fun e=>bU ht.tl e;have ar:=dX e1;rintro v F' Lo hF ⟨Mo,c,q1,q2,q3,q4,q5⟩;have az:∀o∈Mo,o.Wf:=by
  intro o y;obtain⟨i,hi⟩:=XB.1 y;have d:i<Lo.length:=by rw[<-q1];exact(Xe.1 hi).1
  have:=q2 (1000+i);rw[ck,aT,j3 (by omega),j3 (by omega),show 1000+i-1000=i by omega,hi,x5 d] at this;exact cO.wf this
 obtain⟨k1,k2⟩:=h7 c Mo q5 q3.wf az;have a:ko.length=Lo.length:=by rw[k1,q1]
 have b:∀k g t cs,k∈ks->L.get k=some (.box g t cs)->∃cs',Loc.get ((L.Wu ks).puts ko Lo) k=some (.box g t cs'):=by
  intro k g t cs n hg;obtain⟨i,hi⟩:=XB.1 n;have u:Li[i]?=some (.box g t cs):=by rw[<-ar.2 i k hi];exact hg
  have d:i<Lin.length:=by rw[<-e2];exact(Xe.1 u).1
  have hr:=e3 i _ _ (x5 d) u;cases hL:Lin[i] with
  | row=>rw[hL] at hr;exact hr.elim
  | box t' cs' =>
   obtain⟨k',f,b2⟩:=wk h5 i t' cs' (by rw[x5 d,hL]);rw[hi] at f;injection f with f
   subst f;obtain⟨s,q⟩:=q4 i g t cs u;exact⟨s,cD l a b2 q⟩
  | map es =>
   obtain⟨k',f,b2⟩:=d9 h5 i (.map es) (by rw[x5 d,hL]) rfl;rw[hi] at f;injection f with f
   subst f;obtain⟨s,q⟩:=q4 i g t cs u;exact⟨s,cD l a b2 q⟩
  | win t0 p0 c0 q0 =>
   obtain⟨k',f,b2⟩:=d9 h5 i (.win t0 p0 c0 q0) (by rw[x5 d,hL]) rfl;rw[hi] at f;injection f with f
   subst f;obtain⟨s,q⟩:=q4 i g t cs u;exact⟨s,cD l a b2 q⟩
 refine⟨a,b,?_⟩;generalize w:(L.Wu ks).puts ko Lo=L' at b
 -- what was there before
 have z:∀k,k∉ks->∀o,L.get k=some o->L'.get k=some o:=by
  intro k n o y;rw[<-w];rcases cZ ko Lo (L.Wu ks) k l a with⟨x,a2⟩ | ⟨i,x,a2,a3⟩
  ·rw[x,fj,vv n];exact y
  ·rcases ay k (Xi x) with e | e
   ·exact v7 e n
   ·rw[y] at e;cases e
 have ab:Ext (mC (rowsOf M ks) L) L':=by
  intro k o y;obtain⟨g1,g2⟩:=oz y
  by_cases n:k∈ks
  ·obtain⟨g,t,cs,rfl⟩:=wm ht.tl n g1 g2;obtain⟨cs',h⟩:=b k g t cs n g1;exact⟨_,h,rfl,rfl⟩
  ·exact⟨o,z k n o g1,Own.Wx o⟩
 have r:∀j m,aW ko j=some m->∀o,(inp Lo).get j=some o->L'.get m=some o:=by
  intro j m hj o y;obtain⟨x,a2⟩:=lO hj;rw[aT,j3 x] at y;rw[<-w];exact cD l a a2 y
 refine⟨_,_,_,⟨fun k=>?_,fun j=>?_,fun k g t e=>?_,ht.glob.mono hF⟩,js (q3.ren r),k2⟩
 ·rcases lN ko (Mo.map (TO.Wv (C.ren (aW ko)))) ((M.Wu ks).kills (rowsOf M ks)) k l (by simp[k1]) with⟨x,a2⟩ | ⟨i,x,a2,a3⟩
  ·have ad:L'.get k=(L.Wu ks).get k:=by
    rw[<-w];rcases cZ ko Lo (L.Wu ks) k l a with⟨f,_⟩ | ⟨i,f,_,_⟩
    ·exact f
    ·exact v7 (Xi f) a2
   rw[x,ad,wh,nM,fj];split
   ·trivial
   ·rcases dS (ht.tl k) with⟨c1,c2⟩ | ⟨o,p,c1,c2,hr⟩
    ·rw[c1,c2];trivial
    ·rw[c1,c2];exact(hr.kills (rowsOf M ks)).ext hF ab
  ·rw[a2,XR];have d:i<Mo.length:=by simpa using a3
   have aa:i<Lo.length:=by omega
   have ad:L'.get k=some (Lo[i]):=by rw[<-w];exact cD l a x (x5 aa)
   rw[ad,x5 d];have:=q2 (1000+i);rw[ck,aT,j3 (by omega),j3 (by omega),show 1000+i-1000=i by omega,x5 d,x5 aa] at this;exact cO.ren r this
 ·rw[wj];exact((ht.env j).kills (rowsOf M ks)).ext hF ab
 ·obtain⟨cs,h⟩:=ht.kp k g t e
  by_cases n:k∈ks
  ·exact b k g t cs n h
  ·exact⟨cs,z k n _ h⟩
theorem wo {PS:o7}{Pp:Value->Prop}{f:Nat}{args:List C}{vs:List Value}{ks ko:List Nat}{Lin:List TO}{R:List TO->C->Prop}{K:TL->aU->C->Prop}(a:TS G F L ρ M τ) (ha:aB F L args vs)
  (h1:M.sub ks=some Lin) (w:bE ks=true) (z:bE ko=true) (y:lu M ks ko=true) (h5:aQ Lin ks ko=true) (u:kU M ks PS.hb=true)
  (h6:CallsTX P f (args.map fun c=>c.WA.ren (cn ks 1000)) (Lin.map (TO.Wv (C.ren (cn ks 1000)))) R Pp) (l:∀v,Pp v->PS.ps v) (s:PS.st=none)
  (h7:∀v Mo,R Mo v->Wf v->(∀o∈Mo,o.Wf)->ko.length=Mo.length/\K (((M.Wu ks).kills (rowsOf M ks)).puts ko (Mo.map (TO.Wv (C.ren (aW ko))))) (eK (rowsOf M ks) τ) (v.ren (aW ko)).slt) :
  ∃Li,L.sub ks=some Li/\ks.Nodup/\ko.Nodup/\(∀k,k∈ko->k∈ks\/L.get k=none)/\sS P f vs.toArray F Li (gu Li R) Pp/\(∀v F' L',vL ks L L'->Pp v->xC G PS F' L' v) /\
  ∀v F' Lo,F.le F'->gu Li R F' Lo v->ko.length=Lo.length/\(∀k g t cs,k∈ks->L.get k=some (.box g t cs)->∃cs',Loc.get ((L.Wu ks).puts ko Lo) k=some (.box g t cs')) /\
   ∃M' j c,TS G F' ((L.Wu ks).puts ko Lo) ρ M' j/\aN F' ((L.Wu ks).puts ko Lo) c (.v v)/\K M' j c:=by
 obtain⟨Li,d,r,x⟩:=pW a.tl h1;have hn:=cK w;have m:=cK z;have p:∀k,k∈ko->k∈ks\/L.get k=none:=fun k n=>(qx y k n).imp id fun e=>bU a.tl e;have an:=dX d;refine⟨Li,d,hn,m,p,h6.out F Li vs (by simp[r]) (rF a.tl r d x) ?_,fun v F' L' b hv=>⟨fun k g t e=>let⟨cs,h⟩:=a.kp k g t e;let⟨cs',h',_⟩:=b k g t cs h;⟨cs',h'⟩,l v hv,He a.tl u fun k g t cs n e=>let⟨cs',h',q⟩:=b k g t cs e;by rw[h',q n],G9.no s⟩,?_⟩
 ·exact ha.map fun c _ v hc=>(gX hc).ren (mU d)
 ·exact uV a w z y h5 d r x h7
theorem yK {PS:o7}{Pp:Value->Prop}{f:Nat}{args:List C}{vs:List Value}{ks ko:List Nat}{Lin:List TO}{R:List TO->C->Prop}{K:TL->aU->C->Prop}(ht:TS G F L ρ M τ) (s:aB F L args vs)
  (j:M.sub ks=some Lin) (p:bE ks=true) (z:bE ko=true) (w:lu M ks ko=true) (k:aQ Lin ks ko=true) (e:kU M ks PS.hb=true)
  (x:CallsTX P f (args.map fun c=>c.WA.ren (cn ks 1000)) (Lin.map (TO.Wv (C.ren (cn ks 1000)))) R Pp) (b:∀v,Pp v->PS.ps v) (d:PS.st=none)
  (u:∀v Mo,R Mo v->Wf v->(∀o∈Mo,o.Wf)->ko.length=Mo.length/\K (((M.Wu ks).kills (rowsOf M ks)).puts ko (Mo.map (TO.Wv (C.ren (aW ko))))) (eK (rowsOf M ks) τ) (v.ren (aW ko)).slt) :
  eI P (xC G PS) f vs F L (fun F' L' v=>∃M' a c,TS G F' L' ρ M' a/\aN F' L' c (.v v)/\K M' a c):=by
 obtain⟨Li,h,l,n,q,t,r,m⟩:=wo ht s j p z w k e x b d u;exact⟨ks,ko,Li,gu Li R,fun _ _=>Pp,h,l,n,q,t.toS,fun v F' Lo _ _ hb y=>r v F' _ hb y,m⟩
theorem iz:∀{Lin:List TO}{ks ko:List Nat},aQ Lin ks ko=true->aQ Lin ks ks=true
 | [],ks,ko,h=>by simp only[aQ]
 | .box t cs::l,[],ko,h=>by simp only[aQ] at h;cases h
 | .map es::l,[],ko,h=>by simp only[aQ] at h;cases h
 | .win ..::l,[],ko,h=>by simp only[aQ] at h;cases h
 | .row t sz els::l,[],ko,h=>by simp only[aQ] at h;cases h
 | .box t cs::l,k::ks,[],h=>by simp only[aQ] at h;cases h
 | .map es::l,k::ks,[],h=>by simp only[aQ] at h;cases h
 | .win ..::l,k::ks,[],h=>by simp only[aQ] at h;cases h
 | .box t cs::l,k::ks,a::ko,h=>by
  have e:Nat.beq k k=true:=by simp
  simp only[aQ] at h ⊢;split at h
  ·rw[e];exact iz h
  ·cases h
 | .map es::l,k::ks,a::ko,h=>by
  have e:Nat.beq k k=true:=by simp
  simp only[aQ] at h ⊢;split at h
  ·rw[e];exact iz h
  ·cases h
 | .win ..::l,k::ks,a::ko,h=>by
  have e:Nat.beq k k=true:=by simp
  simp only[aQ] at h ⊢;split at h
  ·rw[e];exact iz h
  ·cases h
 | .row t sz els::l,k::ks,[],h=>by
  simp only[aQ] at h ⊢;exact iz h
 | .row t sz els::l,k::ks,a::ko,h=>by
  simp only[aQ] at h ⊢;exact iz h
theorem CJ {PS:o7}{Pp:Value->Prop}{f:Nat}{args:List C}{vs:List Value}{ks:List Nat}{Lin:List TO}{R:List TO->C->Prop}{K:TL->aU->C->Prop}(ht:TS G F L ρ M τ) (ha:aB F L args vs)
  (h1:M.sub ks=some Lin) (h2:bE ks=true) (h6:kC P f (args.map fun c=>c.WA.ren (cn ks 1000)) (Lin.map (TO.Wv (C.ren (cn ks 1000)))) R Pp) (ay:∀v,Pp v->PS.ps v) (bc:PS.st=none) (ar:kU M ks PS.hb=true)
  (h7:∀v Mo,R Mo v->Wf v->(∀o∈Mo,o.Wf)->ks.length=Mo.length/\K ((M.Wu ks).puts ks (Mo.map (TO.Wv (C.ren (aW ks))))) τ (v.ren (aW ks)).slt) :
  eI P (xC G PS) f vs F L (fun F' L' v=>∃M' al c,TS G F' L' ρ M' al/\aN F' L' c (.v v)/\K M' al c):=by
 obtain⟨Li,e1,e2,e3⟩:=pW ht.tl h1;have s:=cK h2;have ag:=dX e1;refine⟨ks,ks,Li,_,fun _ _=>Pp,e1,s,s,fun k d=>.inl d,(h6.out F Li vs (by simp[e2]) (rF ht.tl e2 e1 e3) ?_).toS,fun v F' Lo _ _ ae hv=>⟨fun k g t e=>let⟨cs,h⟩:=ht.kp k g t e;let⟨cs',h',_⟩:=ae k g t cs h;⟨cs',h'⟩,ay v hv,He ht.tl ar fun k g t cs d e=>let⟨cs',h',q⟩:=ae k g t cs e;by rw[h',q d],G9.no bc⟩,?_⟩
 ·exact ha.map fun c _ v hc=>(gX hc).ren (mU e1)
 ·rintro v F' Lo hF ⟨⟨Mo,c,q1,q2,q3,q4,q5⟩,bt,ao⟩;have ba:∀o∈Mo,o.Wf:=by
   intro o w;obtain⟨i,hi⟩:=XB.1 w;have u:i<Lo.length:=by rw[<-q1];exact(Xe.1 hi).1
   have:=q2 (1000+i);rw[ck,aT,j3 (by omega),j3 (by omega),show 1000+i-1000=i by omega,hi,x5 u] at this;exact cO.wf this
  obtain⟨k1,k2⟩:=h7 c Mo q5 q3.wf ba;have a:ks.length=Lo.length:=by rw[k1,q1]
  have b:∀k g t cs,k∈ks->L.get k=some (.box g t cs)->∃cs',Loc.get ((L.Wu ks).puts ks Lo) k=some (.box g t cs'):=by
   intro k g t cs d hg;obtain⟨i,hi⟩:=XB.1 d;have ad:Li[i]?=some (.box g t cs):=by rw[<-ag.2 i k hi];exact hg
   obtain⟨az,an⟩:=q4 i g t cs ad;exact⟨az,cD s a hi an⟩
  refine⟨a,b,?_⟩;generalize l:(L.Wu ks).puts ks Lo=L' at b;have x:∀k,k∉ks->∀o,L.get k=some o->L'.get k=some o:=by
   intro k d o w;rw[<-l];rcases cZ ks Lo (L.Wu ks) k s a with⟨r,a2⟩ | ⟨i,r,a2,a3⟩
   ·rw[r,fj,vv d];exact w
   ·exact v7 (Xi r) d
  have z:Ext L L':=by
   intro k o w
   by_cases d:k∈ks
   ·obtain⟨i,hi⟩:=XB.1 d;have ad:Li[i]?=some o:=by rw[<-ag.2 i k hi];exact w
    obtain⟨o',h1,h2⟩:=ao i o ad;exact⟨o',by rw[<-l];exact cD s a hi h1,h2⟩
   ·exact⟨o,x k d o w,Own.Wx o⟩
  have n:∀j m,aW ks j=some m->∀o,(inp Lo).get j=some o->L'.get m=some o:=by
   intro j m hj o w;obtain⟨r,a2⟩:=lO hj;rw[aT,j3 r] at w;rw[<-l];exact cD s a a2 w
  refine⟨_,_,_,⟨fun k=>?_,fun j=>(ht.env j).ext hF z,fun k g t e=>?_,ht.glob.mono hF⟩,js (q3.ren n),k2⟩
  ·rcases lN ks (Mo.map (TO.Wv (C.ren (aW ks)))) (M.Wu ks) k s (by simp[k1]) with⟨r,a2⟩ | ⟨i,r,a2,a3⟩
   ·have ac:L'.get k=(L.Wu ks).get k:=by
     rw[<-l];rcases cZ ks Lo (L.Wu ks) k s a with⟨b1,_⟩ | ⟨i,b1,_,_⟩
     ·exact b1
     ·exact v7 (Xi b1) a2
    rw[r,ac,nM,fj];split
    ·trivial
    ·rcases dS (ht.tl k) with⟨c1,c2⟩ | ⟨o,p,c1,c2,hr⟩
     ·rw[c1,c2];trivial
     ·rw[c1,c2];exact hr.ext hF z
   ·rw[a2,XR];have u:i<Mo.length:=by simpa using a3
    have y:i<Lo.length:=by omega
    have ac:L'.get k=some (Lo[i]):=by rw[<-l];exact cD s a r (x5 y)
    rw[ac,x5 u];have:=q2 (1000+i);rw[ck,aT,j3 (by omega),j3 (by omega),show 1000+i-1000=i by omega,x5 u,x5 y] at this;exact cO.ren n this
  ·obtain⟨cs,h⟩:=ht.kp k g t e
   by_cases d:k∈ks
   ·exact b k g t cs d h
   ·exact⟨cs,x k d _ h⟩
theorem yL {ps:Value->Prop}{hb:List (Nat×Nat)}{st:TL->Value->Prop}{PS:o7}{Pp:List TO->Value->Prop}{f:Nat}{args:List C}{vs:List Value}{ks ko:List Nat}{Lin:List TO}{R:List TO->C->Prop}{K:TL->aU->C->Prop}(m:TS G F L ρ M τ) (ha:aB F L args vs)
  (ag:PS=⟨ps,hb,some st⟩) (h1:M.sub ks=some Lin) (j:bE ks=true) (h3:bE ko=true) (h4:lu M ks ko=true) (h5:aQ Lin ks ko=true) (am:kU M ks hb=true)
  (h6:CallsTS P f (args.map fun c=>c.WA.ren (cn ks 1000)) (Lin.map (TO.Wv (C.ren (cn ks 1000)))) R Pp)
  (z:∀v Mo,Pp Mo v->(∀o∈Mo,o.Wf)->ks.length=Mo.length->ps v/\st (((M.Wu ks).kills (rowsOf M ks)).puts ks (Mo.map (TO.Wv (C.ren (aW ks))))) v)
  (h7:∀v Mo,R Mo v->Wf v->(∀o∈Mo,o.Wf)->ko.length=Mo.length/\K (((M.Wu ks).kills (rowsOf M ks)).puts ko (Mo.map (TO.Wv (C.ren (aW ko))))) (eK (rowsOf M ks) τ) (v.ren (aW ko)).slt) :
  eI P (xC G PS) f vs F L (fun F' L' v=>∃M' d c,TS G F' L' ρ M' d/\aN F' L' c (.v v)/\K M' d c):=by
 subst ag;obtain⟨Li,l,x,e3⟩:=pW m.tl h1;have hn:=cK j;have ab:=cK h3;have ac:∀k,k∈ko->k∈ks\/L.get k=none:=fun k u=>(qx h4 k u).imp id fun e=>bU m.tl e;obtain⟨aa,al⟩:=dX l;refine⟨ks,ko,Li,gu Li R,_,l,hn,ab,ac,h6.out F Li vs (by simp[x]) (rF m.tl x l e3) (ha.map fun c _ v hc=>(gX hc).ren (mU l)),?_,uV m j h3 h4 h5 l x e3 h7⟩;rintro v F' Lo hF w n ⟨Mo,q1,q2,q3⟩;have ad:∀o∈Mo,o.Wf:=by
  intro o ho;obtain⟨i,hi⟩:=XB.1 ho;have a:i<Lo.length:=by rw[<-q1];exact(Xe.1 hi).1
  have:=q2 (1000+i);rw[ck,aT,j3 (by omega),j3 (by omega),show 1000+i-1000=i by omega,hi,x5 a] at this;exact cO.wf this
 obtain⟨p1,p2⟩:=z v Mo q3 ad (by omega);have p:gu Li (fun Mo' _=>Mo'=Mo) F' Lo undef:=by
  refine⟨Mo,.any,q1,q2,by simp only[Rel],fun i g t cs e=>?_,rfl⟩;have a:i<ks.length:=by rw[<-aa];exact(Xe.1 e).1
  have r:=al i _ (x5 a);rw[e] at r;obtain⟨cs',h,_⟩:=n _ g t cs r;have j:Loc.get ((L.Wu ks).puts ks Lo) ks[i]=Lo[i]?:=by
   have b:i<Lo.length:=by omega
   rw[x5 b];exact cD hn w (x5 a) (x5 b)
  exact⟨cs',by rw[<-j];exact h⟩
 have y:aQ Lin ks ks=true:=iz h5;obtain⟨_,_,M',d,c,t1,_,rfl⟩:=uV (K:=fun M' _ _=>M'=((M.Wu ks).kills (rowsOf M ks)).puts ks (Mo.map (TO.Wv (C.ren (aW ks))))) m j j (qz fun k u=>u) y l x e3
  (fun v' Mo' e _ _=>by subst e;exact⟨by omega,rfl⟩) undef F' Lo hF p
 exact⟨t1.kp,p1,He m.tl am fun k g t cs u e=>(let⟨cs',h',q⟩:=n k g t cs e;by rw[h',q u]),fun s e=>by injection e with e;subst e;exact⟨_,yJ t1.tl,p2⟩⟩
theorem TS.same {L2:Loc}(a:TS G F L ρ M τ) (b:L.sameAs L2):TS G F L2 ρ M τ:=by
 have f:Ext L L2:=fun k o e=>⟨o,by rw[b k];exact e,Own.Wx o⟩;refine⟨fun k=>?_,fun j=>(a.env j).ext (aA.le_refl F) f,fun k g t e=>?_,a.glob⟩
 ·rcases dS (a.tl k) with⟨d,c⟩ | ⟨o,p,d,c,l⟩
  ·rw[b k,d,c];trivial
  ·rw[b k,d,c];exact l.ext (aA.le_refl F) f
 ·obtain⟨cs,h⟩:=a.kp k g t e;exact⟨cs,by rw[b k];exact h⟩
theorem wq:∀{ks a:List Nat},vU ks a=true->∀k∈ks,k∉a
 | [],a,_,k,h=>by cases h
 | j::ks,a,h,k,b=>by
  simp only[vU] at h;split at h
  ·cases h
  ·rename_i c;rcases Xh.1 b with rfl | b
   ·intro d;rw[cI.2 d] at c;cases c
   ·exact wq h k b
theorem oC {PS:o7}{s:List Nat}{f:Nat}{args:List C}{vs:List Value}{K:TL->aU->C->Prop}(ht:TS G F L ρ M τ) (ha:aB F L args vs) (h:mS P PS s f args M τ K) (l:PS.st=none) :
  CallXDPt P (xC G PS) s f vs F L (fun F' L' v=>∃M' b c,TS G F' L' ρ M' b/\aN F' L' c (.v v)/\K M' b c):=by
 obtain⟨ks,Lin,R,Pp,u,q,h0,x,m,h6,j,h7⟩:=h;have h4:lu M ks ks=true:=qz (fun k hk=>hk);obtain⟨Li,w,n,q3,q4,q5,q6,q7⟩:=wo ht ha u q q h4 x m h6 j l h7;refine⟨ks,Li,gu Li R,fun _ _=>Pp,w,n,wq h0,q5.toS,fun v F' L' Lo _ _ d hp=>q6 v F' L' d hp,fun v F' Lo hF p=>?_⟩;obtain⟨r,a2,M',b,c,y,a4,z⟩:=q7 v F' Lo hF p;have a:=lM (L:=L) n r;refine⟨r,fun i g t cs e=>?_,fun _=>⟨M',b,c,y.same a,a4.ext (aA.le_refl F') fun k o e=>⟨o,by rw[a k];exact e,Own.Wx o⟩,z⟩⟩;obtain⟨Mo,c',_,_,_,b4,_⟩:=p;exact b4 i g t cs e
theorem pX {ps:Value->Prop}{hb:List (Nat×Nat)}{st:TL->Value->Prop}{PS:o7}{fb:List Nat}{f:Nat}{args:List C}{vs:List Value}{K:TL->aU->C->Prop}(y:TS G F L ρ M τ) (ha:aB F L args vs) (an:PS=⟨ps,hb,some st⟩) (h:uS P ps hb st fb f args M τ K) :
  CallXDPt P (xC G PS) fb f vs F L (fun F' L' v=>∃M' l c,TS G F' L' ρ M' l/\aN F' L' c (.v v)/\K M' l c):=by
 subst an;obtain⟨ks,Lin,R,Pp,h1,h2,h0,h5,ab,h6,ae,h7⟩:=h;have h4:lu M ks ks=true:=qz (fun k b=>b);obtain⟨Li,x,e2,e3⟩:=pW y.tl h1;have hn:=cK h2;obtain⟨bs,bb⟩:=dX x;refine⟨ks,Li,gu Li R,_,x,hn,wq h0,h6.out F Li vs (by simp[e2]) (rF y.tl e2 x e3) (ha.map fun c _ v hc=>(gX hc).ren (mU x)),?_,fun v F' Lo hF hR=>?_⟩
 ·rintro v F' L' Lo hF aa u ⟨Mo,q1,q2,q3⟩;have am:∀o∈Mo,o.Wf:=by
   intro o z;obtain⟨i,hi⟩:=XB.1 z;have d:i<Lo.length:=by rw[<-q1];exact(Xe.1 hi).1
   have:=q2 (1000+i);rw[ck,aT,j3 (by omega),j3 (by omega),show 1000+i-1000=i by omega,hi,x5 d] at this;exact cO.wf this
  obtain⟨y1,y2⟩:=dX aa;obtain⟨p1,p2⟩:=ae v Mo q3 am (by omega);have r:∀j m,aW ks j=some m->∀o,(inp Lo).get j=some o->L'.get m=some o:=by
   intro j m hj o z;obtain⟨n,w⟩:=lO hj;rw[aT,j3 n] at z;rw[y2 _ _ w];exact z
  refine⟨fun k g t e=>let⟨cs,h⟩:=y.kp k g t e;let⟨cs',h',_⟩:=u k g t cs h;⟨cs',h'⟩,p1,He y.tl ab fun k g t cs b e=>(let⟨cs',h',q⟩:=u k g t cs e;by rw[h',q b]),fun s e=>?_⟩;injection e with e
  subst e;refine⟨_,fun k o b=>?_,p2⟩;rcases lN ks (Mo.map (TO.Wv (C.ren (aW ks)))) [] k hn (by simp;omega) with⟨n,w⟩ | ⟨i,n,w,a3⟩
  ·rw[n] at b;cases b
  ·rw[w,XR] at b;have d:i<Mo.length:=by simpa using a3
   have p:i<Lo.length:=by omega
   rw[x5 d] at b;injection b with b
   subst b;refine⟨Lo[i],by rw[y2 _ _ n];exact x5 p,?_⟩;have:=q2 (1000+i);rw[ck,aT,j3 (by omega),j3 (by omega),show 1000+i-1000=i by omega,x5 d,x5 p] at this;exact cO.ren r this
 ·obtain⟨n,w,M',l,c,a3,a4,a5⟩:=uV y h2 h2 h4 h5 x e2 e3 h7 v F' Lo hF hR;have a:=lM (L:=L) hn n;refine⟨n,fun i g t cs e=>?_,fun _=>⟨M',l,c,a3.same a,a4.ext (aA.le_refl F') fun k o e=>⟨o,by rw[a k];exact e,Own.Wx o⟩,a5⟩⟩;obtain⟨Mo,c',_,_,_,b4,_⟩:=hR;exact b4 i g t cs e
end
section
variable {P:Program}{G:Nat->Option (Nat×TypeId)}{F:aA}{L:Loc}{ρ:Env}{M:TL}{τ:aU}{a:Act}{w:World}
theorem Bo {F':aA}(m:F.le F') {k:Nat}{a:Option Addr}{c:Nat}{t sz:Nat}{els:List (List C)}{xs:List Value}(r:L.get k=some (.row (.slice a els.length c) t sz els.length xs))
  (s:Rel F' (L.del k) (.sl els) (.slice a els.length c)):(∀d v,C.leaf d=true->Rel F L d v->Rel F' (L.del k) (mR k els d) v)/\(∀d sv,C.leaf d=true->aN F L d sv->aN F' (L.del k) (mR k els d) sv):=by
 have l:∀j,j≠k->∀o,L.get j=some o->∃o',(L.del k).get j=some o'/\Own.like o o':=fun j f o y=>⟨o,by rw[Loc.Wy,vv f];exact y,Own.Wx o⟩;have b:∀g t cs,L.get k≠some (.box g t cs):=fun g t cs h=>by rw[r] at h;injection h with h;cases h
 constructor
 ·intro d v p h;cases d<;>simp only[C.leaf,Xm] at p
  case rw j =>
   simp only[mR];cases f:Nat.beq j k with
   | true =>
    have:=v8 f;subst this;simp only[Rel] at h;obtain⟨x,u,z,n,n',q,rfl,h⟩:=h;rw[r] at h;injection h with h
    injection h with q1 q2 q3 q4 q5
    rw[<-q1];exact s
   | false =>
    have:=jY b l m (.rw j) v rfl h;simpa only[fW,f] using this
  all_goals
   have:=jY b l m _ v rfl h;simpa only[fW,mR] using this
 ·intro d sv p h;cases d<;>simp only[C.leaf,Xm] at p
  case rw j =>
   simp only[mR];cases f:Nat.beq j k with
   | true =>
    have:=v8 f;subst this;simp only[aN,Rel] at h;obtain⟨v,e,x,u,z,n,n',q,rfl,h⟩:=h;rw[r] at h;injection h with h
    injection h with q1 q2 q3 q4 q5
    rw[<-q1] at e;exact⟨_,e,s⟩
   | false =>
    have:=oq b l m (.rw j) sv rfl h;simpa only[fW,f] using this
  all_goals
   have:=oq b l m _ sv rfl h;simpa only[fW,mR] using this
theorem cO.frz {F':aA}(b:F.le F') {k:Nat}{els:List (List C)}(f:∀d v,C.leaf d=true->Rel F L d v->Rel F' (L.del k) (mR k els d) v):∀{o:TO}{p:Own},cO F L o p->cO F' (L.del k) (o.Wv (C.frz k els)) p
 | .box t cs,.box g j vs,r=>⟨r.1,r.2.map fun c _ v h=>Rel.mp f 3 h⟩
 | .row t sz els,.row v j q n xs,r=>⟨r.1,r.2.1,r.2.2.1,r.2.2.2.1,r.2.2.2.2.mono b⟩
 | .box _ _,.row ..,r=>r.elim
 | .row ..,.box ..,r=>r.elim
 | .map _,.row ..,r=>r.elim
 | .map es,.box g j vs,r=>⟨r.1,r.2.mono b⟩
 | .win ..,.row ..,r=>r.elim
 | .win ..,.box ..,⟨m,v1,s,v3,e,l,u,x⟩=>⟨m,v1,s,v3,e,l.mono b,u.map fun c _ v h=>Rel.mp f 3 h,x.mono b⟩
theorem wu {k:Nat}{t sz:Nat}{els:List (List C)}(hs:St F L w) (he:aC L ρ a) (n:TS G F L ρ M τ) (hk:M.get k=some (.row t sz els)) :
  ∃F' L',St F' L' w/\aC L' ρ a/\Step F L w F' L' w/\TS G F' L' ρ ((M.del k).Wv (C.frz k els)) (fun j=>(τ j).frz k els)/\(∀{c v},Rel F L c v->Rel F' L' (c.frz k els) v):=by
 obtain⟨v,xs,q,⟨hm,r,cv,rfl,x⟩,hr⟩:=jW n.tl hk;obtain⟨F',L',g1,g2,g3,l,b,rfl⟩:=nE (KK:=fun F' L'=>F.le F'/\FW F' (.slice r els.length cv) sz els.length xs/\L'=L.del k) hs he ⟨_,_,_,_,_,q,fun F' l b=>⟨l,b,rfl⟩⟩;have m:Rel F' (L.del k) (.sl els) (.slice r els.length cv):=by
  simp only[Rel];rcases b with⟨d,f,y⟩ | ⟨ad,c2,d,f,y⟩
  ·injection d with q1 q2 q3
   have:els=[]:=List.length_eq_zero_iff.1 q2;subst this;exact⟨r,cv,rfl,by simp,by simp,fun _=>⟨rfl,q3⟩,sz,by simp only[fI]⟩
  ·injection d with q1 q2 q3
   subst q1 q3;exact⟨some ad,cv,rfl,y,hm,fun e=>(by cases e),sz,(hr.mono l).frz f⟩
 obtain⟨u,z⟩:=Bo l q m;refine⟨F',L.del k,g1,g2,g3,⟨fun j=>?_,fun j=>aN.mp u z 3 (n.env j),fun j g t e=>?_,n.glob.mono l⟩,fun h=>Rel.mp u 3 h⟩
 ·rw[pV,TL.Wy,Loc.Wy];split
  ·trivial
  ·rcases dS (n.tl j) with⟨d,f⟩ | ⟨o,p,d,f,s⟩
   ·rw[d,f];trivial
   ·rw[d,f];exact s.frz l u
 ·obtain⟨cs,h⟩:=n.kp j g t e;exact⟨cs,by rw[Loc.Wy,vv (by rintro rfl;rw[q] at h;injection h with h;cases h)];exact h⟩
def wz (k g:Nat):SV->SV
 | .own b off=>match Nat.beq b k with | true=>.v (.pointer (some ⟨g,off,none⟩)) | false=>.own b off
 | .v x=>.v x
 | .el a i=>.el a i
theorem Hf {F':aA}(q:F.le F') {k g:Nat}{t:TypeId}{vs:List Value}{es:List C}(z:L.get k=some (.box g t vs)) (hg:F' g=some (.cells vs.toArray t (0,0))) (u:dn es=true) (y:aB F' [] es vs) :
  (∀d v,C.leaf d=true->Rel F L d v->Rel F' (L.del k) (qu k es d) v)/\(∀d sv,C.leaf d=true->aN F L d sv->aN F' (L.del k) (qu k es d) (wz k g sv)):=by
 have r:∀j,j≠k->∀o,L.get j=some o->∃o',(L.del k).get j=some o'/\Own.like o o':=fun j f o ho=>⟨o,by rw[Loc.Wy,vv f];exact ho,Own.Wx o⟩;have p:∀o,JA F' g o o vs:=fun o=>⟨0,_,t,(0,0),hg,by omega,fun i v hi=>⟨by simpa using hi,rP _⟩⟩;constructor
 ·intro d v hc h;cases d<;>simp only[C.leaf,Xm] at hc<;>simp only[qu]
  case own j off =>
   cases f:Nat.beq j k with
   | true =>
    have:=v8 f;subst this;simp only[Rel] at h ⊢;obtain⟨g',t',cs,e,rfl⟩:=h;rw[z] at e;injection e with e
    injection e with e1 e2 e3
    subst e1;exact⟨_,_,vs,rfl,p off,u,y⟩
   | false=>exact bq q (fun s e=>by
     rcases e with⟨off,e⟩ | e | e | ⟨_,_,_,e⟩ | ⟨_,_,e⟩
     ·injection e with e;subst e;exact r j (eZ f)
     ·cases e
     ·cases e
     ·cases e
     ·cases e) rfl h
  case ifo m ti j off =>
   cases f:Nat.beq j k with
   | true =>
    have:=v8 f;subst this;simp only[Rel] at h;obtain⟨g',t',cs,e,rfl⟩:=h;rw[z] at e;injection e with e
    injection e with e1 e2 e3
    subst e1;cases m with
    | none=>simp only[Rel];exact⟨_,rfl,_,_,vs,rfl,p off,u,y⟩
    | some nm=>simp only[Rel];exact⟨_,rfl,_,rfl,_,_,vs,rfl,p off,u,y⟩
   | false=>exact bq q (fun s e=>by
     rcases e with⟨off,e⟩ | e | e | ⟨_,_,_,e⟩ | ⟨_,_,e⟩
     ·cases e
     ·cases e
     ·cases e
     ·injection e with _ _ e;subst e;exact r j (eZ f)
     ·cases e) rfl h
  case rw j =>
   refine bq q (fun s e=>?_) rfl h;rcases e with⟨off,e⟩ | e | e | ⟨_,_,_,e⟩ | ⟨_,_,e⟩
   ·cases e
   ·injection e with e
    subst e;refine r j ?_;rintro rfl;simp only[Rel] at h;obtain⟨a',c',t',am,n',ap,rfl,h⟩:=h;rw[z] at h;injection h with h
    cases h
   ·cases e
   ·cases e
   ·cases e
  case mpr j =>
   cases f:Nat.beq j k with
   | true=>simp only[Rel]
   | false=>exact bq q (fun s e=>by
     rcases e with⟨off,e⟩ | e | e | ⟨_,_,_,e⟩ | ⟨_,_,e⟩
     ·cases e
     ·cases e
     ·injection e with e;subst e;exact r j (eZ f)
     ·cases e
     ·cases e) rfl h
  case ownv=>exact h.elim
  case elr j a b =>
   refine bq q (fun s e=>?_) rfl h;rcases e with⟨off,e⟩ | e | e | ⟨_,_,_,e⟩ | ⟨_,_,e⟩<;>first | cases e;done | skip
   injection e with e
   subst e;refine r j ?_;rintro rfl;simp only[Rel] at h;obtain⟨ad,t,sz,n,c,xs,_,h⟩:=h;rw[z] at h;injection h with h
   cases h
  case slo j a =>
   cases f:Nat.beq j k with
   | true=>simp only[Rel]
   | false=>exact qw q (r j (eZ f)) h
  case slp=>exact h.elim
  all_goals
   exact bq q (fun s e=>by rcases e with⟨off,e⟩ | e | e | ⟨_,_,_,e⟩ | ⟨_,_,e⟩<;>cases e) rfl h
 ·intro d sv hc h;have keep:∀{c:C},(∀j off,c≠.own j off)->c.leaf=true->c≠.any->aN F L c sv->wz k g sv=sv:=by
   intro c al hl ar hv;cases sv with
   | v x=>rfl
   | el a i=>rfl
   | own k' off =>
    exfalso;cases c<;>simp only[C.leaf,Xm] at hl<;>first
     | exact al _ _ rfl
     | exact ar rfl
     | (obtain⟨v,e,_⟩:=hv;cases e;done)
     | (obtain⟨b,o,j,us,e | e,_⟩:=hv
        ·cases e.1
        ·cases e)
     | (obtain⟨ad,t,sz,n,c,xs,e,_⟩:=hv;cases e;done)
     | (obtain⟨_,_,_,_,_,e,_⟩:=hv;cases e;done)
     | (obtain⟨v,e | ⟨b,o,j,e,_⟩,_⟩:=hv
        ·cases e
        ·cases e)
  cases d<;>simp only[C.leaf,Xm] at hc<;>simp only[qu]
  case any=>trivial
  case own j off =>
   obtain⟨rfl,g',t',cs,e⟩:=h;simp only[wz];cases f:Nat.beq j k with
   | true =>
    have:=v8 f;subst this;exact⟨g,off,0,vs,.inl ⟨rfl,rfl⟩,p off,u,y⟩
   | false =>
    obtain⟨o',q1,q2⟩:=r j (eZ f) _ e;cases o' with
    | row=>exact q2.elim
    | box g2 t2 an=>exact⟨rfl,g2,t2,an,q1⟩
  case ownv j off =>
   rw[keep (c:=.ownv j off) (fun _ _ e=>by cases e) rfl (fun e=>by cases e) h];cases f:Nat.beq j k with
   | true =>
    have:=v8 f;subst this;obtain⟨v,av,l⟩:=h;simp only[Rel] at l;obtain⟨g',t',cs,e,rfl⟩:=l;rw[z] at e;injection e with e
    injection e with e1 e2 e3
    subst e1;rcases av with rfl | ⟨b,o,i,rfl,e⟩
    ·exact⟨g,off,0,vs,.inl ⟨rfl,rfl⟩,p off,u,y⟩
    ·injection e with e
     injection e with e
     injection e with q1 q2 q3
     subst q1 q2;exact⟨g,o,i,vs,.inr rfl,p (o+i),u,y⟩
   | false =>
    refine cL q (fun s e=>?_) rfl h;rcases e with⟨off,e⟩ | ⟨off,e⟩ | e | ⟨a,b,e⟩ | e | ⟨_,_,_,e⟩<;>first | cases e;done | skip
    injection e with e
    subst e;exact r j (eZ f)
  case ifo m ti j off =>
   rw[keep (c:=.ifo m ti j off) (fun _ _ e=>by cases e) rfl (fun e=>by cases e) h];cases f:Nat.beq j k with
   | true =>
    have:=v8 f;subst this;obtain⟨v,rfl,l⟩:=h;simp only[Rel] at l;obtain⟨g',t',cs,e,rfl⟩:=l;rw[z] at e;injection e with e
    injection e with e1 e2 e3
    subst e1;cases m with
    | none=>exact⟨_,rfl,by simp only[Rel];exact⟨_,rfl,_,_,vs,rfl,p off,u,y⟩⟩
    | some nm=>exact⟨_,rfl,by simp only[Rel];exact⟨_,rfl,_,rfl,_,_,vs,rfl,p off,u,y⟩⟩
   | false =>
    refine cL q (fun s e=>?_) rfl h;rcases e with⟨off,e⟩ | ⟨off,e⟩ | e | ⟨a,b,e⟩ | e | ⟨_,_,_,e⟩<;>first | cases e;done | skip
    injection e with _ _ e
    subst e;exact r j (eZ f)
  case rw j =>
   rw[keep (c:=.rw j) (fun _ _ e=>by cases e) rfl (fun e=>by cases e) h];refine cL q (fun s e=>?_) rfl h;rcases e with⟨off,e⟩ | ⟨off,e⟩ | e | ⟨a,b,e⟩ | e | ⟨_,_,_,e⟩<;>first | cases e;done | skip
   injection e with e
   subst e;refine r j ?_;rintro rfl;obtain⟨v,_,l⟩:=h;simp only[Rel] at l;obtain⟨a',c',t',am,n',ap,rfl,h⟩:=l;rw[z] at h;injection h with h
   cases h
  case elr j a b =>
   rw[keep (c:=.elr j a b) (fun _ _ e=>by cases e) rfl (fun e=>by cases e) h];refine cL q (fun s e=>?_) rfl h;rcases e with⟨off,e⟩ | ⟨off,e⟩ | e | ⟨a,b,e⟩ | e | ⟨_,_,_,e⟩<;>first | cases e;done | skip
   injection e with e
   subst e;refine r j ?_;rintro rfl;obtain⟨ad,t,sz,n,c,xs,_,h⟩:=h;rw[z] at h;injection h with h
   cases h
  case mpr j =>
   rw[keep (c:=.mpr j) (fun _ _ e=>by cases e) rfl (fun e=>by cases e) h];cases f:Nat.beq j k with
   | true=>trivial
   | false =>
    refine cL q (fun s e=>?_) rfl h;rcases e with⟨off,e⟩ | ⟨off,e⟩ | e | ⟨a,b,e⟩ | e | ⟨_,_,_,e⟩<;>first | cases e;done | skip
    injection e with e
    subst e;exact r j (eZ f)
  case slo j a =>
   rw[keep (c:=.slo j a) (fun _ _ e=>by cases e) rfl (fun e=>by cases e) h];cases f:Nat.beq j k with
   | true=>trivial
   | false=>exact sn q (r j (eZ f)) h
  case slp=>trivial
  all_goals
   rw[keep (fun _ _ e=>by cases e) rfl (fun e=>by cases e) h];exact cL q (fun s e=>by rcases e with⟨off,e⟩ | ⟨off,e⟩ | e | ⟨a,b,e⟩ | e | ⟨_,_,_,e⟩<;>cases e) rfl h
theorem Hg (k g:Nat) (ρ:Env) (j:Nat):vp k g ρ j=wz k g (ρ j):=by
 simp only[vp,wz];cases ρ j<;>rfl
theorem CK {k:Nat}{t:TypeId}{cs:List C}(hs:St F L w) (he:aC L ρ a) (l:TS G F L ρ M τ) (hk:M.get k=some (.box t cs)) (q:dn cs=true) (s:dH cs=true) (hG:G k=none) :
  ∃F' L' ρ',St F' L' w/\aC L' ρ' a/\Step F L w F' L' w/\TS G F' L' ρ' ((M.del k).Wv (C.frb k cs)) (fun j=>(τ j).frb k cs):=by
 obtain⟨g,ty,vs,hL,hr,u⟩:=jV l.tl hk;obtain⟨F',d,hg,g1,g2,g3⟩:=q9 hs he hL;rw[gH u.2.2] at hg;obtain⟨x,l2⟩:=Hf (F:=F) d hL hg q ((dV s hr).mono d);refine⟨F',L.del k,_,g1,g2,g3,⟨fun j=>?_,fun j=>?_,fun j g t e=>?_,l.glob.mono d⟩⟩
 ·rw[pV,TL.Wy,Loc.Wy];split
  ·trivial
  ·rcases dS (l.tl j) with⟨z,y⟩ | ⟨o,p,z,y,b⟩
   ·rw[z,y];trivial
   ·rw[z,y];cases o with
    | row t sz els =>
     cases p with
     | box=>exact b.elim
     | row v t' ag n xs=>exact⟨b.1,b.2.1,b.2.2.1,b.2.2.2.1,b.2.2.2.2.mono d⟩
    | box t cs =>
     cases p with
     | row=>exact b.elim
     | box g t' us=>exact⟨b.1,b.2.map fun c _ v h=>Rel.mp x 3 h⟩
    | map es =>
     cases p with
     | row=>exact b.elim
     | box g t' us=>exact⟨b.1,b.2.mono d⟩
    | win t pre cs post =>
     cases p with
     | row=>exact b.elim
     | box g t' us =>
      obtain⟨r1,v1,v2,v3,e,q,s,h3⟩:=b;exact⟨r1,v1,v2,v3,e,q.mono d,s.map fun c _ v h=>Rel.mp x 3 h,h3.mono d⟩
 ·rw[Hg];have m:=l.env j;cases f:(τ j).leaf with
  | true =>
   have e:(τ j).frb k cs=qu k cs (τ j):=uR f;simp only[e];exact l2 _ _ f m
  | false =>
   generalize ρ j=sv at m;generalize τ j=c at f m;have h':∃v,sv=.v v/\Rel F L c v:=by
    cases c<;>first | exact m | cases f
   obtain⟨v,rfl,hv⟩:=h';have r:Rel F' (L.del k) (c.frb k cs) v:=Rel.mp x 3 hv;cases c<;>first | exact⟨v,rfl,r⟩ | cases f
 ·obtain⟨cs,h⟩:=l.kp j g t e;exact⟨cs,by rw[Loc.Wy,vv (by rintro rfl;rw[hG] at e;cases e)];exact h⟩
theorem oD:∀{o:List Nat}{F:aA}{L:Loc}{M:TL}{τ:aU}{args:List C}{vs:List Value}{K:TL->aU->List C->Prop},St F L w->aC L ρ a->TS G F L ρ M τ->aB F L args vs->vS o M τ args K ->
  ∃F' L' M' e b,St F' L' w/\aC L' ρ a/\Step F L w F' L' w/\TS G F' L' ρ M' e/\aB F' L' b vs/\K M' e b
 | [],F,L,M,τ,args,vs,K,m,f,n,l,h=>⟨F,L,M,τ,args,m,f,Step.refl _ _ _,n,l,h⟩
 | k::o,F,L,M,τ,args,vs,K,m,f,n,l,h=>by
  simp only[vS] at h;split at h
  case h_2=>exact h.elim
  rename_i t sz els y;obtain⟨F1,L1,p,g2,r,g4,g5⟩:=wu m f n y;obtain⟨F2,L2,M2,j,d,s,k2,u,x,z,k6⟩:=oD p g2 g4 (l.map fun c _ v q=>g5 q) h;exact⟨F2,L2,M2,j,d,s,k2,r.trans u,x,z,k6⟩
def ul (L:Loc):TL->Loc
 | []=>[]
 | (k,o)::l=>(k,match L.get k with
  | some p=>p
  | none=>match o with
   | .row t sz _=>.row (.slice none 0 0) t sz 0 []
   | .box _ _=>.row (.slice none 0 0) 0 0 0 []
   | .map _=>.row (.slice none 0 0) 0 0 0 []
   | .win _ _ _ _=>.row (.slice none 0 0) 0 0 0 [])::ul L l
theorem jw:∀(M1:TL) (k:Nat),(ul L M1).get k=match M1.get k with
  | some o=>some (match L.get k with | some p=>p | none=>match o with | .row t sz _=>.row (.slice none 0 0) t sz 0 [] | .box _ _=>.row (.slice none 0 0) 0 0 0 [] | .map _=>.row (.slice none 0 0) 0 0 0 [] | .win _ _ _ _=>.row (.slice none 0 0) 0 0 0 [])
  | none=>none
 | [],k=>rfl
 | (j,o)::l,k=>by
  simp only[ul,Loc.get,TL.get];cases h:Nat.beq j k with
  | true=>have:=v8 h;subst this;rfl
  | false=>exact jw l k
theorem Bp:∀{l:TL}{M1:TL},gives M M1 l->∀{k o},l.get k=some o->(∃p,M.get k=some p/\Qf M M1 p o)\/(M.get k=none/\∃t sz,o=.row t sz [])
 | [],M1,h,k,o,e=>by cases e
 | (j,p)::l,M1,h,k,o,e=>by
  simp only[gives] at h;simp only[TL.get] at e;split at e
  ·rename_i b;have:=v8 b;subst this;injection e with e
   subst e;exact h.1
  ·exact Bp h.2 e
theorem tG (c:cP F L M) {M1:TL}:∀{l:TL},gives M M1 l->L.gives (ul L l)
 | [],h=>trivial
 | (j,p)::l,h=>by
  simp only[gives] at h;refine⟨?_,tG c h.2⟩;rcases h.1 with⟨q,b,m⟩ | ⟨b,t,sz,rfl⟩
  ·rcases dS (c j) with⟨e,d⟩ | ⟨o,f,e,d,k⟩
   ·rw[e] at b;cases b
   ·simp only[d];exact .inl trivial
  ·have:=bU c b;simp only[this];exact .inr ⟨trivial,t,sz,rfl⟩
theorem pY {L':Loc}{M1:TL}(y:∀k o,M1.get k≠none->L.get k=some o->L'.get k=some o):∀(n:Nat) {c:C}{v:Value},fo M1 n c=true->Rel F L c v->Rel F L' c v:=by
 have f:∀{c:C}{v:Value},c.leaf=true->lq M1 c=true->Rel F L c v->Rel F L' c v:=by
  intro c v l b h
  by_cases p:∃k d,c=.slo k d
  ·obtain⟨k,d,rfl⟩:=p;refine qw (aA.le_refl F) (fun o x=>⟨o,y k o ?_ x,Own.Wx o⟩) h;simp only[lq] at b;intro e;rw[e] at b;cases b
  refine bq (aA.le_refl F) (fun k e o x=>⟨o,y k o ?_ x,Own.Wx o⟩) l h (fun k d e=>p ⟨k,d,e⟩);rcases e with⟨off,rfl⟩ | rfl | rfl | ⟨m,t,off,rfl⟩ | ⟨j,off,rfl⟩
  ·simp only[lq] at b;intro e;rw[e] at b;cases b
  ·simp only[lq] at b;intro e;rw[e] at b;cases b
  ·simp only[lq] at b;intro e;rw[e] at b;cases b
  ·simp only[lq] at b;intro e;rw[e] at b;cases b
  ·simp only[lq,Xm] at b
 intro n
 induction n with
 | zero =>
  intro c v b h;cases l:c.leaf
  ·cases c<;>simp only[C.leaf,Bool.true_eq_false] at l<;>simp only[fo,Xm] at b
  ·refine f l ?_ h;cases c<;>simp only[C.leaf,Xm] at l<;>simpa only[fo] using b
 | succ n z =>
  intro c v b h;have all:∀{cs:List C}{vs:List Value},cs.all (fo M1 n)=true->aB F L cs vs->aB F L' cs vs:=by
   intro cs vs q r;have:=r.map (g:=id) (F':=F) (L':=L') (fun c l v hv=>z (Xo.1 q c l) hv);simpa using this
  cases l:c.leaf
  ·cases c<;>simp only[C.leaf,Bool.true_eq_false] at l<;>simp only[fo,Xf] at b<;>simp only[Rel] at h ⊢
   ·obtain⟨u,s,q,r,h3⟩:=h;exact⟨u,s,q,all b.1 r,all b.2 h3⟩
   ·obtain⟨vs,q,r⟩:=h;exact⟨vs,q,all b r⟩
   ·obtain⟨vs,q,r⟩:=h;exact⟨vs,q,all b r⟩
  ·refine f l ?_ h;cases c<;>simp only[C.leaf,Xm] at l<;>simpa only[fo] using b
theorem qA (m:cP F L M) {M1:TL}{c j:C}{v:Value}(h:IJ M M1 c j) (b:Rel F L c v):Rel F (ul L M1) j v:=by
 rcases h with rfl | ⟨rfl,l⟩ | ⟨rfl,rfl⟩ | ⟨rfl,k,t,sz,rfl,d,f⟩ | ⟨els,rfl,rfl⟩
 ·simp only[Rel]
 ·refine pY (fun k o d f=>?_) 3 l b;rw[jw];cases e:M1.get k with
  | none=>exact v7 e d
  | some q=>simp only[f]
 ·exact sB (c:=.nils) (by simpa only[Rel] using b)
 ·simp only[Rel] at b ⊢;subst b;refine⟨none,0,t,sz,0,[],rfl,?_⟩;rw[jw,f];simp only[bU m d]
 ·simpa only[Rel] using tD b
theorem Bq (j:cP F L M) {M1:TL}:∀{cs cs':List C}{vs:List Value},GK M M1 cs cs'->aB F L cs vs->aB F (ul L M1) cs' vs
 | [],cs',vs,h,b=>by simp only[GK] at h;subst h;simpa only[aB] using b
 | c::cs,cs',vs,h,b=>by
  simp only[GK] at h;obtain⟨n,m,rfl,k,l⟩:=h;simp only[aB] at b ⊢;obtain⟨v,e,rfl,d,f⟩:=b;exact⟨v,e,rfl,qA j k d,Bq j l f⟩
theorem JP (x:cP F L M) {M1:TL}{o o':TO}{p:Own}(h:Qf M M1 o o') (b:cO F L o p):cO F (ul L M1) o' p:=by
 rcases h with⟨rfl,j⟩ | ⟨t,cs,cs',rfl,rfl,h⟩
 ·cases o with
  | row t sz els=>cases p with
   | row=>exact b
   | box=>exact b.elim
  | map es=>cases p with
   | row=>exact b.elim
   | box=>exact b
  | win t pre cs post=>cases p with
   | row=>exact b.elim
   | box g n vs =>
    simp only[GL] at j;obtain⟨r,v1,s,v3,e,d,f,u⟩:=b;have:=f.map (g:=id) (F':=F) (L':=ul L M1) (fun c l v m=>pY (fun k o d f=>by
     rw[jw];cases e:M1.get k with
     | none=>exact v7 e d
     | some q=>simp only[f]) 3 (Xo.1 j c l) m)
    exact⟨r,v1,s,v3,e,d,by simpa using this,u⟩
  | box t cs=>cases p with
   | row=>exact b.elim
   | box g n vs =>
    simp only[GL] at j;refine⟨b.1,?_⟩;have:=b.2.map (g:=id) (F':=F) (L':=ul L M1) (fun c l v m=>pY (fun k o d f=>by
     rw[jw];cases e:M1.get k with
     | none=>exact v7 e d
     | some q=>simp only[f]) 3 (Xo.1 j c l) m)
    simpa using this
 ·cases p with
  | row=>exact b.elim
  | box g n vs=>exact⟨b.1,Bq x h b.2⟩
theorem sG (d:cP F L M) {M1:TL}(h:gives M M1 M1):cP F (ul L M1) M1:=by
 intro k;rw[jw];cases e:M1.get k with
 | none=>trivial
 | some o =>
  rcases Bp h e with⟨q,b,l⟩ | ⟨b,t,sz,rfl⟩
  ·rcases dS (d k) with⟨c,f⟩ | ⟨m,p,c,f,j⟩
   ·rw[c] at b;cases b
   ·rw[c] at b;injection b with b
    subst b;simp only[f];exact JP d l j
  ·simp only[bU d b];exact⟨rfl,rfl,rfl,⟨by simp,none,0,rfl,fun _=>rfl⟩,by simp only[aL]⟩
theorem sH (c:St F L w) (b:cP F L M) {M1:TL}(h:gives M M1 M1):St F (ul L M1) w/\Step F L w F (ul L M1) w:=⟨c.gives (tG b h),rf (tG b h)⟩
theorem iR:∀{l M1:TL},l9 l M1=true->∀{k o},l.get k=some o->zQ o=false->∃o',M1.get k=some o'
 | [],M1,h,k,o,e,_=>by cases e
 | (j,.box s r)::l,M1,h,k,o,e,b=>by
  simp only[l9] at h;split at h
  case h_2=>cases h
  rename_i f n c;simp only[TL.get] at e;split at e
  ·rename_i d;have:=v8 d;subst this;exact⟨_,c⟩
  ·exact iR h e b
 | (j,.map es)::l,M1,h,k,o,e,b=>by
  simp only[l9] at h;split at h
  case h_2=>cases h
  rename_i m c;simp only[TL.get] at e;split at e
  ·rename_i d;have:=v8 d;subst this;exact⟨_,c⟩
  ·exact iR h e b
 | (j,.win ..)::l,M1,h,k,o,e,b=>by
  simp only[l9] at h;split at h
  case h_2=>cases h
  rename_i f q n p c;simp only[TL.get] at e;split at e
  ·rename_i d;have:=v8 d;subst this;exact⟨_,c⟩
  ·exact iR h e b
 | (j,.row ..)::l,M1,h,k,o,e,b=>by
  simp only[l9] at h;simp only[TL.get] at e;split at e
  ·injection e with e;subst e;cases b
  ·exact iR h e b
theorem wA:∀{l M1:TL},covers l M1=true->∀{k o},l.get k=some o->∃o',M1.get k=some o'
 | [],M1,h,k,o,e=>by cases e
 | (j,p)::l,M1,h,k,o,e=>by
  simp only[covers] at h;split at h
  case h_2=>cases h
  rename_i q b;simp only[TL.get] at e;split at e
  ·rename_i c;have:=v8 c;subst this;exact⟨_,b⟩
  ·exact wA h e
theorem Hh {L':Loc}(d:aC L ρ a) (h:∀k g t cs,L.get k=some (.box g t cs)->∃cs',L'.get k=some (.box g t cs')):aC L' ρ a:=by
 refine⟨fun t=>?_,fun t k off e=>?_,d.el⟩
 ·rw[d.eq t];cases e:ρ t with
  | v x=>rfl
  | el a j=>rfl
  | own k off =>
   obtain⟨g,ty,cs,c⟩:=d.own t k off e;obtain⟨cs',b⟩:=h _ _ _ _ c;simp only[conc,c,b]
 ·obtain⟨g,ty,cs,c⟩:=d.own t k off e;obtain⟨cs',b⟩:=h _ _ _ _ c;exact⟨g,ty,cs',b⟩
theorem qa (s:St F L w) (n:aC L ρ a) (c:TS G F L ρ M τ) {M1:TL}(h:gives M M1 M1) (m:covers M M1=true) :
  St F (ul L M1) w/\aC (ul L M1) ρ a/\Step F L w F (ul L M1) w/\TS G F (ul L M1) ρ M1 τ/\Ext L (ul L M1):=by
 obtain⟨l,r⟩:=sH s c.tl h;have b:∀k o,L.get k=some o->(ul L M1).get k=some o:=by
  intro k o e;rcases dS (c.tl k) with⟨f,d⟩ | ⟨q,p,f,d,v⟩
  ·rw[d] at e;cases e
  ·obtain⟨o',u⟩:=wA m f;rw[jw,u];simp only[e]
 refine⟨l,Hh n fun k g t cs e=>⟨cs,b _ _ e⟩,r,⟨sG c.tl h,fun j=>(c.env j).ext (aA.le_refl F) fun k o e=>⟨o,b k o e,Own.Wx o⟩,fun k g t e=>?_,c.glob⟩,fun k o e=>⟨o,b k o e,Own.Wx o⟩⟩;obtain⟨cs,h⟩:=c.kp k g t e;exact⟨cs,b _ _ h⟩
theorem Nb {F:aA}{args:List C}{vs:List Value}(ha:aB F L args vs):aB F (inp []) (args.map fun c=>c.WA.ren (cn [] 1000)) vs :=
 ha.map fun c _ v b=>(gX b).ren (fun j m e=>by cases e)
theorem Ql {F:aA}{L:Loc}{args:List C}{vs:List Value}{f:Nat}{o:Own}(h:L.get f=some o) (ha:aB F L args vs):aB F (inp [o]) (args.map fun c=>c.WA.ren (cn [f] 1000)) vs :=
 ha.map fun c _ v k=>(gX k).ren (fun j m e o' b=>by
  obtain⟨n,d,rfl⟩:=zP e;cases n with
  | zero =>
   simp only[Xp,xo] at d;subst d;rw[h] at b;injection b with b
   subst b;rfl
  | succ n=>simp at d)
theorem CM:cP F (inp []) (iO []):=fun k=>by rw[ck,aT];split<;>simp[GN]
theorem gu.WH {Li:List Own}{R:List TO->C->Prop}:∀F G L v,aA.le F G->gu Li R F L v->gu Li R G L v:=by
 rintro F G L v b ⟨Mo,c,d,e,h,j,f⟩;exact⟨Mo,c,d,e.mono b,h.mono b,j,f⟩
theorem tH {f:Nat}{args:List C}{vs:List Value}{d:Option Nat}{K:TL->aU->C->Prop}(u:TS G F L ρ M τ) (ha:aB F L args vs) (h:vV P f args M τ d K) :
  dQ P f vs F L d (fun F' L' v=>∃M' aw c,TS G F' L' ρ M' aw/\aN F' L' c (.v v)/\K M' aw c):=by
 cases h with
 | frz R h k =>
  refine .frz (gu [] R) (h.out F [] vs rfl CM (Nb ha)) ?_;rintro v F' Lo l ⟨Mo,c,q,r,b,q4,q5⟩;obtain⟨rfl,k2⟩:=k c Mo q5 b.wf;have:Lo=[]:=List.length_eq_zero_iff.1 (by rw[<-q];rfl);subst this;exact⟨rfl,fun _=>⟨M,τ,_,u.mono l,js (b.ext (aA.le_refl F') (fun k o e=>by rw[aT] at e;split at e<;>simp at e)),k2⟩⟩
 | own R k h hd hk kk =>
  refine .own (gu [] R) k (h.out F [] vs rfl CM (Nb ha)) hd (bU u.tl hk) ?_;rintro v F' Lo l ⟨Mo,c,q,r,b,q4,q5⟩;have bk:∀o∈Mo,o.Wf:=by
   intro o ho;obtain⟨i,hi⟩:=XB.1 ho;have bi:i<Lo.length:=by rw[<-q];exact(Xe.1 hi).1
   have:=r (1000+i);rw[ck,aT,j3 (by omega),j3 (by omega),show 1000+i-1000=i by omega,hi,x5 bi] at this;exact cO.wf this
  obtain⟨o,rfl,k2⟩:=kk c Mo q5 b.wf bk
  match Lo,q with
  | [p],_ =>
   have n:∀j m,aW [k] j=some m->∀o,(inp [p]).get j=some o->(L.set k p).get m=some o:=by
    intro j m hj o ho;obtain⟨a1,a2⟩:=lO hj;rw[aT,j3 a1] at ho;have:j-1000=0:=by have:=(Xe.1 a2).1;simp at this;omega
    rw[this] at ho a2;simp at ho a2;subst ho a2;rw[Loc.Wt,j3 rfl]
   have an:=r 1000;rw[ck,aT,j3 (by omega),j3 (by omega)] at an;refine⟨p,rfl,fun _=>⟨_,τ,_,u.new l (bU u.tl hk) (cO.ren n an),js (b.ren n),k2⟩⟩
 | row R kr t sz els ar hk h kk =>
  obtain⟨rv,xs,hL,⟨hm,av,cv,rfl,bp⟩,hr⟩:=jW u.tl hk;refine .row (fun F' Lo v=>Lo=[]/\gu [] R F' [] v) kr _ t sz els.length xs ⟨ar,fun F1 F2 L v ba s=>⟨s.1,gu.WH _ _ _ _ ba s.2⟩,fun w hs=>?_⟩ hL ?_
  ·have bl:aC (inp [.row (.slice av els.length cv) t sz els.length xs]) (fun _=>.v undef) (⟨#[],[]⟩:Act):=by
    refine⟨fun j=>?_,fun j k off e=>(by cases e),fun j a i e=>(by cases e)⟩;simp[conc]
   obtain⟨F2,L2,g1,_,g3,l,y,rfl⟩:=nE (k:=1000) (KK:=fun F' L'=>F.le F'/\FW F' (.slice av els.length cv) sz els.length xs/\L'=(inp [.row (.slice av els.length cv) t sz els.length xs]).del 1000) hs bl ⟨_,_,_,_,_,rfl,fun F' l y=>⟨l,y,rfl⟩⟩;have ao:Rel F2 (L.del kr) (.sl els) (.slice av els.length cv):=by
    simp only[Rel];rcases y with⟨e1,e2,e3⟩ | ⟨ad,c2,e1,e2,e3⟩
    ·injection e1 with q r b
     have:els=[]:=List.length_eq_zero_iff.1 r;subst this;exact⟨av,cv,rfl,by simp,by simp,fun _=>⟨rfl,b⟩,sz,by simp only[fI]⟩
    ·injection e1 with q r b
     subst q b;exact⟨some ad,cv,rfl,e3,hm,fun e=>(by cases e),sz,(hr.mono l).frz e2⟩
   obtain⟨l1,_⟩:=Bo l hL ao;have bm:aB F2 (L.del kr) (args.map (C.frz kr els)) vs:=ha.map fun c _ v hc=>Rel.mp l1 3 hc;have am:=Nb bm;rw[X5] at am;refine((h.out F2 [] vs rfl CM am).run w g1).mono ?_;rintro e w' ⟨v,F',Lo,rfl,be,bo,s⟩;have aE:Lo=[]:=by
    obtain⟨Mo,c,q,r,b,q4,q5⟩:=s;obtain⟨rfl,_⟩:=kk c Mo q5 b.wf;exact List.length_eq_zero_iff.1 (by rw[<-q];rfl)
   subst aE;exact⟨v,F',[],rfl,be,g3.trans bo,rfl,s⟩
  ·rintro v F' Lo l ⟨rfl,Mo,c,q,r,b,q4,q5⟩;obtain⟨rfl,k2⟩:=kk c Mo q5 b.wf;refine⟨rfl,fun _=>⟨_,_,_,(u.mono l).WR (k:=kr) (o':=.row (.slice none 0 0) t sz 0 []) (to:=.row t sz []) (fun g t' cs e=>by rw[hL] at e;injection e with e;cases e) ⟨rfl,rfl,rfl,⟨XG _,none,0,rfl,fun _=>rfl⟩,by simp only[aL]⟩,js (b.ext (aA.le_refl F') (fun k o e=>by rw[aT] at e;split at e<;>simp at e)),k2⟩⟩
 | lent kr t sz els x hk h k =>
  obtain⟨rv,xs,hL,z,hr⟩:=jW u.tl hk;refine .lent (fun F' v=>Rel F' (inp []) x v) kr rv t sz els.length xs (h.out F rv xs vs ⟨rfl,rfl,rfl,z,hr⟩ (Ql hL ha)) hL fun v F' l s _=>?_;exact⟨M,τ,_,u.mono l,js (s.ext (aA.le_refl F') (fun k o e=>by rw[aT] at e;split at e<;>simp at e)),k s.wf⟩
def jZ:dU->Bool
 | .call _ _=>true
 | .callV _ _=>true
 | _=>false
theorem TS.WG {F:aA}{L:Loc}{ρ:Env}{M:TL}{τ:aU}{K:TK}{d:Option Nat}(e:TS G F L ρ M τ) {c:C}{sv:SV}(b:aN F L c sv) (h:K M (bw d c τ)):Both G K F L (Fr.put d sv ρ):=⟨_,_,e.put b d,h⟩
theorem iV (h:∀j,aN F L (τ j) (ρ j)) {fi ca:List C}{b c:List Value}(d:aB F L fi b) (e:aB F L ca c) (args:List X):aB F L (fi++dO τ args++ca) (b.toArray.toList++bf L ρ args++c.toArray.toList):=by
 simpa using(d.append (cN h args)).append e
theorem cW.imp {f:Nat}{args:List Value}{F:aA}{L:Loc}{K K':aA->Loc->Value->Prop}(h:cW P f args F L K) (l:∀F' L' v,K F' L' v->K' F' L' v):cW P f args F L K':=by
 obtain⟨ks,ko,Lin,R,d,k,o,m,e,n⟩:=h;exact⟨ks,ko,Lin,R,d,k,o,m,e,fun v F' Lo p j=>let⟨a,b,c⟩:=n v F' Lo p j;⟨a,b,l _ _ _ c⟩⟩
theorem dQ.imp' {f:Nat}{args:List Value}{F:aA}{L:Loc}{d:Option Nat}{K K':aA->Loc->Value->Prop}(h:dQ P f args F L d K) (p:∀F' L' v,K F' L' v->K' F' L' v):dQ P f args F L d K':=by
 cases h with
 | frz R h k=>exact .frz R h fun v F' Lo l j=>let⟨a,b⟩:=k v F' Lo l j;⟨a,fun e=>p _ _ _ (b e)⟩
 | own R k h s c m=>exact .own R k h s c fun v F' Lo l j=>let⟨o,a,b⟩:=m v F' Lo l j;⟨o,a,fun e=>p _ _ _ (b e)⟩
 | row R q r t sz n xs h c m=>exact .row R q r t sz n xs h c fun v F' Lo l j=>let⟨a,b⟩:=m v F' Lo l j;⟨a,fun e=>p _ _ _ (b e)⟩
 | lent R q r t sz n xs h c m=>exact .lent R q r t sz n xs h c fun v F' l j e=>p _ _ _ (m v F' l j e)
theorem Hj {op:BinOp}{k:IntKind}{a b:Int}{K K':Value->Prop}(h:binI op k a b K) (c:∀v,K v->K' v):binI op k a b K':=by
 cases op<;>simp only[binI] at h ⊢<;>first
  | exact h.elim
  | exact⟨c _ h.out⟩
  | exact⟨h.ne,⟨c _ h.out.out⟩⟩
  | exact⟨h.ne,c _ h.out⟩
  | exact c _ h
theorem JQ {op:BinOp}{k:IntKind}{a b:Int}{K K':Value->Prop}(h:shI op k a b K) (c:∀v,K v->K' v):shI op k a b K':=by
 cases op<;>simp only[shI] at h ⊢<;>first
  | exact h.elim
  | exact⟨h.1,⟨c _ h.2.out⟩⟩
  | exact⟨h.1,c _ h.2⟩
theorem Hl {op:BinOp}{a b:ByteArray}{K K':Value->Prop}(h:binS op a b K) (c:∀v,K v->K' v):binS op a b K':=by
 cases op<;>simp only[binS] at h ⊢<;>first
  | exact h.elim
  | exact c _ h
  | exact⟨h.1,c _ h.2⟩
theorem Br {o:dU}{V V':SV->Prop}{F:aA}{L:Loc}{ρ:Env}(h:aI o F L ρ V) (d:∀v,V v->V' v):aI o F L ρ V':=by
 have load:∀{a:Option Addr}{j n:Nat}{g:List Value->SV},jf F L a j n (fun cs=>V (g cs))->jf F L a j n (fun cs=>V' (g cs)):=fun h=>⟨let⟨cs,e,f,m⟩:=h.out;⟨cs,e,f,d _ m⟩⟩;have loadD:∀{a:Option Addr}{j n:Nat}{g:List Value->SV},hU F a j n (fun cs=>V (g cs))->hU F a j n (fun cs=>V' (g cs)):=fun h=>⟨let⟨cs,e,f,m⟩:=h.out;⟨cs,e,f,d _ m⟩⟩;cases o<;>simp only[aI] at h ⊢<;>first
  | exact h.elim
  | exact d _ h
  | skip
 case pick c a b =>
  generalize ev ρ c=z at h ⊢;split at h<;>first | exact h.elim | exact d _ h
 case build zs ps =>
  generalize built L ρ zs ps=z at h ⊢;split at h<;>first | exact h.elim | exact d _ h
 case load agg n x =>
  generalize ev ρ x=z at h ⊢;split at h
  ·rename_i k off;generalize L.get k=y at h ⊢;split at h
   ·rename_i t cs;generalize iC t ((cs.drop off).take n) n=b at h ⊢;cases b
    ·exact h.elim
    ·exact d _ h
   ·exact h.elim
  ·exact load h
  ·exact load h
  ·exact h.elim
 case loadR agg n x =>
  generalize ev ρ x=z at h ⊢;split at h
  ·rename_i k off;generalize L.get k=y at h ⊢;split at h
   ·rename_i t cs;generalize iC t ((cs.drop off).take n) n=b at h ⊢;cases b
    ·exact h.elim
    ·exact d _ h
   ·exact h.elim
  ·exact load h
  ·exact load h
  ·exact h.elim
 case loadD agg n x =>
  generalize ev ρ x=z at h ⊢;split at h
  ·rename_i k off;generalize L.get k=y at h ⊢;split at h
   ·rename_i t cs;generalize iC t ((cs.drop off).take n) n=b at h ⊢;cases b
    ·exact h.elim
    ·exact d _ h
   ·exact h.elim
  ·exact loadD h
  ·exact loadD h
  ·exact h.elim
 case gload g =>
  obtain⟨v,t,fr,e,f⟩:=h;exact⟨v,t,fr,e,d _ f⟩
 case loadF agg n x =>
  generalize ev ρ x=z at h ⊢;split at h
  ·exact loadD h
  ·exact loadD h
  ·exact h.elim
 case loadK key agg n x =>
  generalize ev ρ x=z at h ⊢;split at h
  ·rename_i k off;generalize Nat.beq k key=q at h ⊢;cases q
   ·exact h.elim
   ·simp only[] at h ⊢;generalize L.get k=y at h ⊢;split at h
    ·rename_i t cs;generalize iC t ((cs.drop off).take n) n=b at h ⊢;cases b
     ·exact h.elim
     ·exact d _ h
    ·exact h.elim
  ·exact h.elim
 case mlook str ok z0 x i =>
  generalize ev ρ x=z at h ⊢;split at h
  ·obtain⟨k,cs,e,f,⟨m⟩⟩:=h;exact⟨k,cs,e,f,⟨m.imp (fun⟨i,v,p,u⟩=>⟨i,v,p,d _ u⟩) fun⟨p,u⟩=>⟨p,d _ u⟩⟩⟩
  ·exact h.elim
 case mlen x =>
  generalize ev ρ x=z at h ⊢;split at h
  ·obtain⟨k,cs,e,f,m⟩:=h;exact⟨k,cs,e,f,d _ m⟩
  ·exact h.elim
 case b2sD x =>
  generalize ev ρ x=z at h ⊢;split at h
  ·exact⟨let⟨cs,e,f,⟨bs,m,p⟩⟩:=h.out;⟨cs,e,f,⟨bs,m,d _ p⟩⟩⟩
  ·exact h.elim
 case b2sR x =>
  generalize ev ρ x=z at h ⊢;split at h
  ·exact⟨let⟨k,t,c,bs,e,f,m,p⟩:=h.out;⟨k,t,c,bs,e,f,m,d _ p⟩⟩
  ·exact h.elim
 case mkif t x =>
  generalize ev ρ x=z at h ⊢;split at h<;>first
   | exact h.elim
   | exact d _ h
   | (split at h
      ·exact d _ h
      ·exact h.elim)
 case nilck x =>
  generalize ev ρ x=z at h ⊢;split at h<;>first
   | exact h.elim
   | exact d _ h
   | exact⟨h.1,d _ h.2⟩
   | (split at h
      ·exact⟨h.1,d _ h.2⟩
      ·exact h.elim)
 case mkmv nm x =>
  generalize ev ρ x=z at h ⊢;split at h<;>first | exact h.elim | exact d _ h
 case bin op x y =>
  generalize ev ρ x=z at h ⊢;generalize ev ρ y=z' at h ⊢;split at h
  ·rename_i k a k' b;generalize FV op=q at h ⊢;cases q
   ·generalize pq k k'=r at h ⊢;cases r
    ·exact h.elim
    ·exact Hj h fun v=>d _
   ·exact JQ h fun v=>d _
  ·exact Hl h fun v=>d _
  ·exact h.elim
 case eqB neg x y =>
  generalize ev ρ x=z at h ⊢;generalize ev ρ y=z' at h ⊢;split at h<;>first | exact h.elim | exact d _ h
 case eqP neg x y =>
  generalize ev ρ x=z at h ⊢;generalize ev ρ y=z' at h ⊢;split at h<;>first | exact h.elim | exact d _ h
 case eqS neg x y =>
  generalize ev ρ x=z at h ⊢;generalize ev ρ y=z' at h ⊢;split at h<;>first | exact h.elim | exact d _ h
 case eqF neg x y =>
  generalize ev ρ x=z at h ⊢;generalize ev ρ y=z' at h ⊢;split at h<;>first | exact h.elim | exact d _ h
 case tas t z x =>
  generalize ev ρ x=y at h ⊢;split at h<;>first
   | exact d _ h
   | (split at h<;>exact d _ h)
   | exact h.elim
 case eqN neg x =>
  generalize ev ρ x=z at h ⊢;split at h<;>first | exact h.elim | exact d _ h
 case eqA neg ks x y =>
  generalize ev ρ x=z at h ⊢;generalize ev ρ y=z' at h ⊢;split at h
  case h_2=>exact h.elim
  rename_i cs ds;generalize iD ks cs.toList ds.toList true=q at h ⊢;cases q with
  | none=>exact h.elim
  | some b=>exact d _ h
 case un op x =>
  generalize ev ρ x=z at h ⊢;split at h<;>first | exact h.elim | exact d _ h | exact⟨d _ h.out⟩
 case conv k x =>
  generalize ev ρ x=z at h ⊢;split at h<;>first | exact h.elim | exact⟨d _ h.out⟩
 case b2s x =>
  generalize ev ρ x=z at h ⊢;split at h
  ·exact⟨let⟨cs,e,f,⟨bs,m,p⟩⟩:=h.out;⟨cs,e,f,⟨bs,m,d _ p⟩⟩⟩
  ·exact h.elim
 case slc sz x lo hi =>
  generalize ev ρ x=z at h ⊢;split at h
  ·rename_i a n c;generalize iY ρ 0 lo=y at h ⊢;generalize iY ρ n hi=y' at h ⊢;split at h
   ·exact⟨h.lo,h.le,h.hi,d _ h.out⟩
   ·exact h.elim
  ·exact h.elim
 case slcS x lo hi =>
  generalize ev ρ x=z at h ⊢;split at h
  ·rename_i s;generalize iY ρ 0 lo=y at h ⊢;generalize iY ρ s.size hi=y' at h ⊢;split at h
   ·exact⟨h.lo,h.le,h.hi,d _ h.out⟩
   ·exact h.elim
  ·exact h.elim
 case fieldA off x =>
  generalize ev ρ x=z at h ⊢;split at h<;>first | exact h.elim | exact d _ h
 case fieldV agg off n x =>
  generalize ev ρ x=z at h ⊢;split at h
  ·rename_i cs;generalize eW ((cs.toList.drop off).take n) n=b at h ⊢;cases b
   ·exact h.elim
   ·exact d _ h
  ·exact h.elim
 case idxA sz x i =>
  generalize ev ρ x=z at h ⊢;generalize ev ρ i=z' at h ⊢;split at h
  ·exact⟨h.ne,h.lo,h.hi,d _ h.out⟩
  ·exact h.elim
 case idxS x i =>
  generalize ev ρ x=z at h ⊢;generalize ev ρ i=z' at h ⊢;split at h
  ·exact⟨h.lo,h.hi,d _ h.out⟩
  ·exact h.elim
 case extr x i =>
  generalize ev ρ x=z at h ⊢;split at h
  ·rename_i vs;generalize vs.toList[i]?=y at h ⊢;cases y
   ·exact h.elim
   ·exact d _ h
  ·exact h.elim
 case len x =>
  generalize ev ρ x=z at h ⊢;split at h<;>first | exact h.elim | exact d _ h
 case lenS x =>
  generalize ev ρ x=z at h ⊢;split at h<;>first | exact h.elim | exact d _ h
 case capa x =>
  generalize ev ρ x=z at h ⊢;split at h<;>first | exact h.elim | exact d _ h
 case mm mx args =>
  generalize args.map (ev ρ)=z at h ⊢;split at h
  ·rename_i k a l;generalize LV mx a l=y at h ⊢;cases y
   ·exact h.elim
   ·exact d _ h
  ·exact h.elim
theorem Nc {o:dU}{d:Option Nat}{K:TK}{F:aA}{L:Loc}{ρ:Env}{M:TL}{τ:aU}(b:TS G F L ρ M τ) (h:outT o M τ fun v=>K M (bw d v τ)):aI o F L ρ (fun v=>Both G K F L (Fr.put d v ρ)) :=
 Br (Qj b h) fun sv ⟨c,e,f⟩=>b.WG e f
set_option maxHeartbeats 1000000 in
theorem JR {str:Bool}{c:C}(h:GH str c=true):(∃n,str=false/\c=.int .i64 n)\/∃s,str=true/\c=.str s:=by
 unfold GH at h;split at h
 ·exact .inl ⟨_,rfl,rfl⟩
 ·exact .inr ⟨_,rfl,rfl⟩
 ·cases h
theorem DF {F:aA}{str:Bool}{key c:C}{kv v:Value}(f:Rel F [] key kv) (m:Rel F [] c v):∀{es es':List (C×C)}{vs:List Value},iQ F es vs->GI str key c es=some es'->∃b,vn str kv v vs=some b/\iQ F es' b
 | [],es',vs,h,e=>by
  simp only[iQ] at h;subst h;simp only[GI,xo] at e;subst e;exact⟨_,rfl,by simp only[iQ];exact⟨kv,v,[],rfl,f,m,rfl⟩⟩
 | (k,d)::l,es',vs,h,e=>by
  simp only[iQ] at h;obtain⟨u,x,b,rfl,j,r,o⟩:=h;simp only[GI] at e;split at e
  ·rename_i n;injection e with e
   subst e;exact⟨_,by simp only[vn,pU n f j];rfl,by simp only[iQ];exact⟨kv,v,b,rfl,f,m,o⟩⟩
  ·rename_i n;split at e
   case h_2=>cases e
   rename_i y p;injection e with e
   subst e;obtain⟨s,q,t⟩:=DF f m o p;exact⟨_,by simp only[vn,pU n f j,q];rfl,by simp only[iQ];exact⟨u,x,s,rfl,j,r,t⟩⟩
  ·cases e
theorem E0 {F:aA}{L:Loc}{c:C}{v:Value}(h:Rel F L c.cel v) (b:dH (bT c)=true):Rel F [] c.cel.WA v:=by
 have leaf:dH [c]=true->Rel F L c v->Rel F [] c v:=fun b h=>by
  have:=dV (L':=[]) b (show aB F L [c] [v] by simp only[aB];exact⟨v,[],rfl,h,rfl⟩);simp only[aB] at this;obtain⟨u,us,e,d,_⟩:=this;injection e with e1 e2
  rw[e1];exact d
 cases c
 case agg cs =>
  simp only[C.cel,bT] at h b ⊢;refine gX ?_;simp only[Rel] at h ⊢;obtain⟨vs,d,f⟩:=h;exact⟨vs,d,dV b f⟩
 case ownv k o=>simp[bT,dH,C.pure,C.WC] at b
 case elr k j o=>simp[bT,dH,C.pure,C.WC] at b
 case slp k o j=>simp[bT,dH,C.pure,C.WC] at b
 case slo k o=>simp[bT,dH,C.pure,C.WC] at b
 all_goals
  simp only[C.cel,bT] at h b ⊢;exact gX (leaf b h)
theorem Ho {o:dU}{d:Option Nat}{K:TK}{F:aA}{L:Loc}{ρ:Env}{M:TL}{τ:aU}(ho:jZ o=false) (l:TS G F L ρ M τ) (h:bH P o d M τ K):evalOp P o d F L ρ (Both G K):=by
 have z:=l.env;cases o
 case call=>cases ho
 case callV=>cases ho
 case box t x =>
  simp only[bH,eD,dW,dI] at h;simp only[evalOp];split at h
  case h_2=>exact h.elim
  rename_i k;split at h
  case h_2=>exact h.elim
  rename_i hk hc hb;simp only[bU l.tl hk];exact fun g=>DA l hk hc (zO hb) h g
 case boxD t x =>
  simp only[bH,eD,dW,dI] at h;simp only[evalOp];split at h
  case h_2=>exact h.elim
  rename_i k;split at h
  case h_2=>exact h.elim
  rename_i hk hc hb;simp only[bU l.tl hk];exact fun g _=>DA l hk hc (zO hb) h g
 case boxF t x =>
  simp only[bH,eD,dW,dI] at h;simp only[evalOp];split at h
  case h_2=>exact h.elim
  rename_i m j p;intro g F' hF hg;exact(l.mono hF).WG (Na hg (mA j) (ju ((dV p (dJ z m)).mono hF))) h
 case alloc t zs =>
  simp only[bH,eD,dW,dI] at h;simp only[evalOp];split at h
  case h_2=>exact h.elim
  rename_i k;split at h
  case h_2=>exact h.elim
  rename_i hk hb;simp only[bU l.tl hk];exact fun g=>yI l hk (zO hb) h g
 case allocD t zs =>
  simp only[bH,eD,dW,dI] at h;simp only[evalOp];split at h
  case h_2=>exact h.elim
  rename_i k;split at h
  case h_2=>exact h.elim
  rename_i hk hb;simp only[bU l.tl hk];exact fun g _=>yI l hk (zO hb) h g
 case mkF e n sz xs =>
  simp only[bH,eD,dW,dI] at h;simp only[evalOp];split at h
  ·rename_i m j p;rw[(iU z m).1];exact fun g F' hF hg=>DC l m (v8 j) (Xq p) h hF hg
  ·rename_i m j p;split at h
   case h_2=>exact h.elim
   rename_i ay;obtain rfl:=v8 ay;split at h
   case h_2=>exact h.elim
   split at h
   case h_2=>exact h.elim
   rename_i bi ho;obtain⟨q1,q2⟩:=DE (e:=e) l ho (by simp) (v8 j) (Xq p) h;rw[q1];exact fun g F' hF hg=>q2 hF hg
  ·exact h.elim
 case mkFD e n sz xs =>
  simp only[bH,eD,dW,dI] at h;simp only[evalOp];split at h
  ·rename_i m j p;rw[(iU z m).1];exact fun g F' hF hg _=>DC l m (v8 j) (Xq p) h hF hg
  ·rename_i m j p;split at h
   case h_2=>exact h.elim
   rename_i ay;obtain rfl:=v8 ay;split at h
   case h_2=>exact h.elim
   split at h
   case h_2=>exact h.elim
   rename_i bi ho;obtain⟨q1,q2⟩:=DE (e:=e) l ho (by simp) (v8 j) (Xq p) h;rw[q1];exact fun g F' hF hg _=>q2 hF hg
  ·exact h.elim
 case mkR e n sz xs =>
  simp only[bH,eD,dW,dI] at h;simp only[evalOp];split at h
  case h_2=>exact h.elim
  rename_i k m j p;split at h
  case h_2=>exact h.elim
  rename_i hk;rw[(iU z m).1];simp only[bU l.tl hk];exact fun g=>JN l m (v8 j) (Xq p) hk h g
 case s2b e x =>
  simp only[bH,eD,dW,dI] at h;simp only[evalOp];split at h
  case h_2=>exact h.elim
  rename_i s hx;obtain⟨e1,e2⟩:=jr z hx;rw[e1];intro g c F' hF hf hc;have hl:(af s.data.toList).length=s.size:=by simp[af]
  have:=Dy (F:=F') (L:=L) (els:=af s.data.toList) (a:=some ⟨g,0,none⟩) (c:=c) (sz:=1) (by rw[hl];exact hc) (by rw[hl];exact e2) (fun e=>by cases e) (CG hf);rw[hl] at this;exact(l.mono hF).WG this h
 case makeS=>exact EZ l h
 case store n y x=>exact CH l h
 case storeD n y x=>exact wg l h
 case storeK key n y x =>
  simp only[bH] at h;split at h
  case h_2=>exact h.elim
  rename_i k off hy;split at h
  case h_2=>exact h.elim
  rename_i hb;obtain⟨n',a',x',k',cr,g,t,cs,ho,e1,e2,e3,e4,e5,hK⟩:=ig (P:=P) rfl (wg l h);rcases ho with ho | ho
  ·injection ho with q1 q2 q3
   subst q1 q2 q3;rw[(eB z hy).1] at e3;injection e3 with q1 q2
   subst q1 q2;have hb:=v8 hb;subst hb;exact gT (.inr rfl) e1 e2 (eB z hy).1 e4 e5 hK
  ·cases ho
 case makeSD e sz n zs =>
  simp only[bH] at h;split at h
  case h_2=>exact h.elim
  rename_i k;split at h
  case h_2=>exact h.elim
  rename_i hk m j p;have ab:=bU l.tl hk;have am:zs.length=sz:=by have:=br m;simpa using this
  simp only[evalOp,ab,cR am,p];intro g _;have hz:aB F [] ((zs.map qN).map C.can) zs:=ju (kI zs);have aw:dn (zs.map qN)=true->∀i:Nat,aL F sz (List.replicate i ((zs.map qN).map C.can)) (List.replicate i zs).flatten:=by
   intro j i
   induction i with
   | zero=>simp only[List.replicate_zero,List.flatten_nil,aL]
   | succ i ih =>
    simp only[X2,List.flatten_cons,aL];exact⟨zs,_,rfl,am,mA j,hz,ih⟩
  have an:∀i:Nat,i=n->aL F sz (List.replicate i ((zs.map qN).map C.can)) (List.replicate i zs).flatten:=by
   intro i hi;rw[XK] at j;rcases j with j | j
   ·have j:=v8 j;rw[hi,j];simp only[List.replicate_zero,List.flatten_nil,aL]
   ·exact aw j i
  have p:=l.new (aA.le_refl F) ab (o:=.row (.slice (some ⟨g,0,none⟩) n n) e sz n (List.replicate n zs).flatten) (to:=.row e sz (List.replicate n ((zs.map qN).map C.can)))
   ⟨rfl,rfl,by simp,⟨Xq p,_,_,rfl,fun e=>(by cases e)⟩,an _ rfl⟩
  exact⟨_,_,p.put (c:=.rw k) (mT (by rw[Loc.Wt,j3 rfl])) (some k),h⟩
 case makeSV e sz b zs x =>
  simp only[bH] at h;split at h
  case h_2=>exact h.elim
  rename_i ki n k hx;split at h
  case h_2=>exact h.elim
  rename_i hk m j;have ab:=bU l.tl hk;have am:zs.length=sz:=by have:=br m;simpa using this
  obtain⟨m1,_,m3,m4,h⟩:=h;have hv:val L ρ x=.int ki n:=by rw[val,(dY z hx).1];rfl
  have ax:rR b (val L ρ x)=true:=by
   rw[hv,rR,Xf,Xf];exact⟨⟨Nat.ble_eq_true_of_le m3,Nat.ble_eq_true_of_le m4⟩,Yd m1⟩
  have hc:lR (val L ρ x)=n.toNat:=by rw[hv];rfl
  simp only[evalOp,ab,cR am,ax];rw[hc];intro g _;have hz:aB F [] ((zs.map qN).map C.can) zs:=ju (kI zs);have an:∀i:Nat,aL F sz (List.replicate i ((zs.map qN).map C.can)) (List.replicate i zs).flatten:=by
   intro i
   induction i with
   | zero=>simp only[List.replicate_zero,List.flatten_nil,aL]
   | succ i ih =>
    simp only[X2,List.flatten_cons,aL];exact⟨zs,_,rfl,am,mA j,hz,ih⟩
  have p:=l.new (aA.le_refl F) ab (o:=.row (.slice (some ⟨g,0,none⟩) n.toNat n.toNat) e sz n.toNat (List.replicate n.toNat zs).flatten) (to:=.row e sz (List.replicate n.toNat ((zs.map qN).map C.can)))
   ⟨rfl,rfl,by simp,⟨m4,_,_,rfl,fun e=>(by cases e)⟩,an _⟩
  exact⟨_,_,p.put (c:=.rw k) (mT (by rw[Loc.Wt,j3 rfl])) (some k),h⟩
 case callD f args =>
  simp only[bH,eD,dW,dI] at h;simp only[evalOp];refine dQ.imp' (tH l (cN z args) h) ?_;rintro F' L' v ⟨M',q,c,m,j,p⟩;exact m.WG j p
 case callVD f args =>
  simp only[bH,eD,dW,dI] at h;simp only[evalOp];split at h
  ·rename_i f' fi ca hx;obtain⟨bz,bs,e1,m,j⟩:=rD z hx;rw[e1];refine dQ.imp' (tH l (iV z m j args) h) ?_;rintro F' L' v ⟨M',q,c,m,j,p⟩;exact m.WG j p
  ·rename_i nm c hx;split at h
   case h_2=>exact h.elim
   rename_i t c;obtain⟨u,e1,hr⟩:=vY z hx;simp only[Rel] at hr;obtain⟨u',rfl,hu⟩:=hr;obtain⟨f',hm,h⟩:=h;have e2:lf P (ev ρ f)=some (f',[u'],[]):=by rw[e1];simp only[lf,hm]
   rw[e2];have ba:aB F L (c::dO τ args) ([u']++bf L ρ args++[]):=by
    rw[Xz];simp only[Xu,XO,aB];exact⟨_,_,rfl,hu.lift,cN z args⟩
   refine dQ.imp' (tH l ba h) ?_;rintro F' L' v ⟨M',q,c,m,j,p⟩;exact m.WG j p
  ·exact h.elim
 case callO f args =>
  simp only[bH,eD,dW,dI] at h;simp only[evalOp];cases h with
  | mk h =>
   obtain⟨ks,ko,Lin,R,m,j,p,h4,h5,h6,h7⟩:=h;refine cW.imp (qy (K:=fun M' q v=>K M' (bw d v q)) l (cN z args) m j p h4 h5 h6 h7) ?_;rintro F' L' v ⟨M',q,c,m,j,p⟩ _;exact m.WG j p
  | inpl ks Lin R m j p h4 =>
   refine cW.imp (tF (K:=fun M' q v=>K M' (bw d v q)) l (cN z args) m j p h4) ?_;rintro F' L' v ⟨M',q,c,m,j,p⟩ _;exact m.WG j p
 case callVO f args =>
  simp only[bH,eD,dW,dI] at h;simp only[evalOp];split at h
  case h_2=>exact h.elim
  rename_i f' fi ca hx;obtain⟨bz,bs,e1,g1,g2⟩:=rD z hx;rw[e1];cases h with
  | mk h =>
   obtain⟨ks,ko,Lin,R,m,j,p,h4,h5,h6,h7⟩:=h;refine cW.imp (qy (K:=fun M' q v=>K M' (bw d v q)) l (iV z g1 g2 args) m j p h4 h5 h6 h7) ?_;rintro F' L' v ⟨M',q,c,m,j,p⟩ _;exact m.WG j p
  | inpl ks Lin R m j p h4 =>
   refine cW.imp (tF (K:=fun M' q v=>K M' (bw d v q)) l (iV z g1 g2 args) m j p h4) ?_;rintro F' L' v ⟨M',q,c,m,j,p⟩ _;exact m.WG j p
 case look x i =>
  simp only[bH] at h;simp only[evalOp];split at h
  case h_2=>exact h.elim
  rename_i k n hx hi;split at h
  case h_2=>exact h.elim
  rename_i r b hl;obtain⟨mv,e1,hm⟩:=zJ z hx;obtain⟨e2,_⟩:=dY z hi;rw[e1,e2];refine⟨k,r,b,hm,hl,l.WG (c:=.tup [.int .i64 r,.bool b]) ⟨_,rfl,?_⟩ h⟩;simp only[Rel,aB];exact⟨_,rfl,_,_,rfl,⟨rfl,AA hl⟩,_,_,rfl,rfl,rfl⟩
 case app=>exact JO l h
 case appX=>exact G0 l h
 case appD=>exact G3 l h
 case appS=>exact G5 l h
 case appZ=>exact G6 l h
 case mkmap =>
  simp only[bH] at h;simp only[evalOp];split at h
  case h_2=>exact h.elim
  rename_i k;split at h
  case h_2=>exact h.elim
  rename_i hk;have ab:=bU l.tl hk;simp only[ab];intro g;have m:=l.new (aA.le_refl F) ab (o:=.box g 0 []) (to:=.map []) ⟨rfl,rfl⟩;exact⟨_,_,m.put (c:=.mpr k) (sv:=.v (.map (some g))) ⟨_,rfl,by simp only[Rel];exact⟨g,[],by rw[Loc.Wt,j3 rfl],rfl⟩⟩ (some k),h⟩
 case mrange=>exact h.elim
 case mnext=>exact h.elim
 case mentry=>exact h.elim
 case mupd str x i v =>
  simp only[bH] at h;simp only[evalOp];split at h
  case h_2=>exact h.elim
  rename_i k hx;split at h
  case h_2=>exact h.elim
  rename_i es hk bd ax hp;obtain⟨es',bj,h⟩:=h;obtain⟨g,cs,e1,e2⟩:=zM z hx;obtain⟨g',vs,e3,hE⟩:=CF l.tl hk;rw[e2] at e3;injection e3 with e3
  injection e3 with q1 q2 q3
  subst q1 q3;rw[e1];have be:Rel F [] (bW τ i) (val L ρ i)/\fq str (val L ρ i) (val L ρ i)=some true:=by
   rcases JR bd with⟨n,rfl,e⟩ | ⟨t,rfl,e⟩
   ·obtain⟨e2,w⟩:=dY z e;simp only[e,val,e2,conc,Rel,fq,decide_true];exact⟨⟨trivial,w⟩,trivial⟩
   ·obtain⟨e2,w⟩:=jr z e;simp only[e,val,e2,conc,Rel,fq,decide_true];exact⟨⟨trivial,w⟩,trivial⟩
  have bu:Rel F [] ((bW τ v).cel.WA) (val L ρ v):=by
   have bo:=dJ z ax;have cY:=dV (L':=[]) hp bo;exact E0 (sA z v) hp
  obtain⟨cs',bb,bv⟩:=DF be.1 bu hE bj;refine⟨k,cs,e2,hE.isMap,be.2,cs',bb,?_⟩;have h4:=l.turn (o':=.box g 0 cs') (to:=.map es') e2 ⟨rfl,rfl⟩ (fun g' t' dd e=>by injection e with a b c;subst a b;exact⟨_,rfl⟩) (fun _ _=>⟨rfl,bv⟩);exact h4.WG (c:=.und) (sv:=.v undef) ⟨_,rfl,by simp only[Rel]⟩ h
 case copy e sz a b=>exact h.out _ _ _ _ l
 case copyX=>exact h.elim
 case storeX n a x=>exact CI l h
 all_goals
  simp only[bH,eD,dW,dI] at h;simp only[evalOp];exact Nc (d:=d) (K:=K) l h
end
end Go.Fr.T
