/- Part of the proofs of the statements of this seat. -/
import Derived.Test.YtnlegbokpofcaaaGreatDoorFW1
set_option maxRecDepth 10000
set_option linter.unusedVariables false
set_option linter.unusedSimpArgs false
namespace Go.Fr.T
open Go Go.RowKit Go.Fr
def gW (Li:List Own) (R:List TO->C->Prop):aD->List Own->Value->Prop:=fun F Lo v =>
 ∃Mo c,Mo.length=Lo.length/\dc F (inp Lo) (jm Mo)/\Rel F (inp Lo) c v/\(∀(i:Nat) g t cs,Li[i]?=some (.box g t cs)->∃cs',Lo[i]?=some (.box g t cs'))/\R Mo c
structure CallsT (P:Program) (f:Nat) (args:List C) (Lin:List TO) (R:List TO->C->Prop):Prop where
 out:∀(F:aD) (Li:List Own) (vs:List Value),Li.length=Lin.length->dc F (inp Li) (jm Lin)->aF F (inp Li) args vs->CallsA P f vs.toArray F Li (gW Li R)
structure CallsTX (P:Program) (f:Nat) (args:List C) (Lin:List TO) (R:List TO->C->Prop) (Pp:Value->Prop):Prop where
 out:∀(F:aD) (Li:List Own) (vs:List Value),Li.length=Lin.length->dc F (inp Li) (jm Lin)->aF F (inp Li) args vs->uZ P f vs.toArray F Li (gW Li R) Pp
theorem CallsT.toX {P:Program}{f:Nat}{args:List C}{Lin:List TO}{R:List TO->C->Prop}{Pp:Value->Prop}(h:CallsT P f args Lin R):CallsTX P f args Lin R Pp:=⟨fun F Li vs a b c=>(h.out F Li vs a b c).toX⟩
def aT:List TO->List Nat->List Nat->Bool
 | .box _ _::l,k::ks,a::ko=>match Nat.beq k a with | true=>aT l ks ko | false=>false
 | .box _ _::_,_,_=>false
 | .map _::l,k::ks,a::ko=>match Nat.beq k a with | true=>aT l ks ko | false=>false
 | .map _::_,_,_=>false
 | .win _ _ _ _::l,k::ks,a::ko=>match Nat.beq k a with | true=>aT l ks ko | false=>false
 | .win _ _ _ _::_,_,_=>false
 | .row _ _ _::l,_::ks,_::ko=>aT l ks ko
 | .row _ _ _::l,_::ks,[]=>aT l ks []
 | .row _ _ _::_,[],_=>false
 | [],_,_=>true
def mE (L:TL) (ks:List Nat):List Nat->Bool
 | []=>true
 | k::ko=>match fW ks k,L.get k with
  | true,_=>mE L ks ko
  | false,none=>mE L ks ko
  | false,some _=>false
def covers:TL->TL->Bool
 | [],_=>true
 | (k,_)::l,L1=>match L1.get k with | some _=>covers l L1 | none=>false
def m9:TL->TL->Bool
 | [],_=>true
 | (k,.box _ _)::l,L1=>match L1.get k with | some (.box _ _)=>m9 l L1 | _=>false
 | (k,.map _)::l,L1=>match L1.get k with | some (.map _)=>m9 l L1 | _=>false
 | (k,.win _ _ _ _)::l,L1=>match L1.get k with | some (.win _ _ _ _)=>m9 l L1 | _=>false
 | (_,.row _ _ _)::l,L1=>m9 l L1
def TL.kills (ks:List Nat) (L:TL):TL:=match ks with | []=>L | _=>L.aag (C.kills ks)
def fw (ks:List Nat) (ρ:aV):aV:=match ks with | []=>ρ | _=>fun j=>(ρ j).kills ks
def rowsOf (L:TL):List Nat->List Nat
 | []=>[]
 | k::ks=>match L.get k with
  | some (.row _ _ _)=>k::rowsOf L ks
  | _=>rowsOf L ks
def Tp (Li Lo:List Own):Prop:=Lo.length=Li.length/\∀(i:Nat) o,Li[i]?=some o->∃o',Lo[i]?=some o'/\Own.like o o'
structure wM (P:Program) (f:Nat) (args:List C) (Lin:List TO) (R:List TO->C->Prop):Prop where
 out:∀(F:aD) (Li:List Own) (vs:List Value),Li.length=Lin.length->dc F (inp Li) (jm Lin)->aF F (inp Li) args vs->CallsA P f vs.toArray F Li (fun F' Lo v=>gW Li R F' Lo v/\Tp Li Lo)
inductive oZ (P:Program) (f:Nat) (args:List C) (L:TL) (ρ:aV) (K:TL->aV->C->Prop):Prop
 | mk (out:∃(fz ks ko:List Nat),xY fz L ρ args fun L ρ args =>
  ∃(L1:TL) (Lin:List TO) (R:List TO->C->Prop),(L1=L\/(gives L L1 L1/\covers L L1=true))/\L1.sub ks=some Lin/\bJ ks=true/\bJ ko=true/\mE L1 ks ko=true/\aT Lin ks ko=true /\
   CallsT P f (args.map fun c=>c.aaj.ren (bZ ks 1000)) (Lin.map (TO.aag (C.ren (bZ ks 1000)))) R /\
   ∀v Mo,R Mo v->Wf v->(∀o∈Mo,o.Wf)->ko.length=Mo.length /\
    K (((L1.aaf ks).kills (rowsOf L1 ks)).puts ko (Mo.map (TO.aag (C.ren (aZ ko))))) (fw (rowsOf L1 ks) ρ) (v.ren (aZ ko)).slt)
 | inpl (ks:List Nat) (Lin:List TO) (R:List TO->C->Prop) (hs:L.sub ks=some Lin) (hn:bJ ks=true) (h:wM P f (args.map fun c=>c.aaj.ren (bZ ks 1000)) (Lin.map (TO.aag (C.ren (bZ ks 1000)))) R)
   (k:∀v Mo,R Mo v->Wf v->(∀o∈Mo,o.Wf)->ks.length=Mo.length/\K ((L.aaf ks).puts ks (Mo.map (TO.aag (C.ren (aZ ks))))) ρ (v.ren (aZ ks)).slt)
structure qw where
 ps:Value->Prop
 hb:List (Nat×Nat):=[]
 st:Option (TL->Value->Prop):=none
def lW (L:TL) (ks:List Nat):List (Nat×Nat)->Bool
 | []=>true
 | (k,n)::l=>match fW ks k,L.get k with
  | false,some (.box _ cs)=>match cR cs n with | true=>lW L ks l | false=>false
  | _,_=>false
structure lp (P:Program) (f:Nat) (args:List C) (Lin:List TO) (R:List TO->C->Prop) (Pp:Value->Prop):Prop where
 out:∀(F:aD) (Li:List Own) (vs:List Value),Li.length=Lin.length->dc F (inp Li) (jm Lin)->aF F (inp Li) args vs->uZ P f vs.toArray F Li (fun F' Lo v=>gW Li R F' Lo v/\Tp Li Lo) Pp
inductive pR (P:Program) (PS:qw) (f:Nat) (args:List C) (L:TL) (ρ:aV) (K:TL->aV->C->Prop):Prop
 | mk (out:∃(fz ks ko:List Nat),xY fz L ρ args fun L ρ args =>
  ∃(L1:TL) (Lin:List TO) (R:List TO->C->Prop) (Pp:Value->Prop),(L1=L\/(gives L L1 L1/\covers L L1=true))/\L1.sub ks=some Lin/\bJ ks=true/\bJ ko=true/\mE L1 ks ko=true/\aT Lin ks ko=true/\lW L1 ks PS.hb=true /\
   CallsTX P f (args.map fun c=>c.aaj.ren (bZ ks 1000)) (Lin.map (TO.aag (C.ren (bZ ks 1000)))) R Pp/\(∀v,Pp v->PS.ps v) /\
   ∀v Mo,R Mo v->Wf v->(∀o∈Mo,o.Wf)->ko.length=Mo.length /\
    K (((L1.aaf ks).kills (rowsOf L1 ks)).puts ko (Mo.map (TO.aag (C.ren (aZ ko))))) (fw (rowsOf L1 ks) ρ) (v.ren (aZ ko)).slt)
 | inpl (ks:List Nat) (Lin:List TO) (R:List TO->C->Prop) (Pp:Value->Prop) (hs:L.sub ks=some Lin) (hn:bJ ks=true) (hh:lW L ks PS.hb=true) (h:lp P f (args.map fun c=>c.aaj.ren (bZ ks 1000)) (Lin.map (TO.aag (C.ren (bZ ks 1000)))) R Pp) (hp:∀v,Pp v->PS.ps v)
   (k:∀v Mo,R Mo v->Wf v->(∀o∈Mo,o.Wf)->ks.length=Mo.length/\K ((L.aaf ks).puts ks (Mo.map (TO.aag (C.ren (aZ ks))))) ρ (v.ren (aZ ks)).slt)
structure CallsTS (P:Program) (f:Nat) (args:List C) (Lin:List TO) (R:List TO->C->Prop) (Pp:List TO->Value->Prop):Prop where
 out:∀(F:aD) (Li:List Own) (vs:List Value),Li.length=Lin.length->dc F (inp Li) (jm Lin)->aF F (inp Li) args vs->wF P f vs.toArray F Li (gW Li R) (fun F' Lo v=>∃Mo,Mo.length=Lo.length/\dc F' (inp Lo) (jm Mo)/\Pp Mo v)
structure Bx (P:Program) (ps:Value->Prop) (hb:List (Nat×Nat)) (st:TL->Value->Prop) (f:Nat) (args:List C) (L:TL) (ρ:aV) (K:TL->aV->C->Prop):Prop where
 out:∃(ks ko:List Nat) (L1:TL) (Lin:List TO) (R:List TO->C->Prop) (Pp:List TO->Value->Prop),(L1=L\/(gives L L1 L1/\covers L L1=true))/\L1.sub ks=some Lin/\bJ ks=true/\bJ ko=true/\mE L1 ks ko=true/\aT Lin ks ko=true/\lW L1 ks hb=true /\
   CallsTS P f (args.map fun c=>c.aaj.ren (bZ ks 1000)) (Lin.map (TO.aag (C.ren (bZ ks 1000)))) R Pp /\
   (∀v Mo,Pp Mo v->(∀o∈Mo,o.Wf)->ks.length=Mo.length->ps v/\st (((L1.aaf ks).kills (rowsOf L1 ks)).puts ks (Mo.map (TO.aag (C.ren (aZ ks))))) v) /\
   ∀v Mo,R Mo v->Wf v->(∀o∈Mo,o.Wf)->ko.length=Mo.length /\
    K (((L1.aaf ks).kills (rowsOf L1 ks)).puts ko (Mo.map (TO.aag (C.ren (aZ ko))))) (fw (rowsOf L1 ks) ρ) (v.ren (aZ ko)).slt
def xZ:List C->Option (List Value)
 | []=>some []
 | .int k n::l=>match xZ l with | some vs=>some (.int k n::vs) | none=>none
 | .bool b::l=>match xZ l with | some vs=>some (.bool b::vs) | none=>none
 | .str s::l=>match xZ l with | some vs=>some (.string s::vs) | none=>none
 | _=>none
def C5:C->Option Value
 | .ifc t (.int k n)=>some (.iface t (.int k n))
 | .ifc t (.bool b)=>some (.iface t (.bool b))
 | .ifc t (.str s)=>some (.iface t (.string s))
 | .ifc t (.agg cs)=>match xZ cs with | some vs=>some (.iface t (.agg vs.toArray)) | none=>none
 | _=>none
structure Tq (PS:qw) (L:TL) (c:C):Prop where
 out:∃v,C5 c=some v/\lW L [] PS.hb=true/\PS.ps v
structure Vv (ps:Value->Prop) (hb:List (Nat×Nat)) (st:TL->Value->Prop) (L:TL) (c:C):Prop where
 out:∃v,C5 c=some v/\lW L [] hb=true/\ps v/\st L v
inductive Bz (P:Program) (f:Nat) (args:List C) (L:TL) (ρ:aV) (K:TL->aV->C->Prop):Prop
 | mk (out:∃(ks ko:List Nat) (Lin:List TO) (R:List TO->C->Prop),L.sub ks=some Lin/\bJ ks=true/\bJ ko=true/\mE L ks ko=true/\aT Lin ks ko=true /\
   CallsT P f (args.map fun c=>c.aaj.ren (bZ ks 1000)) (Lin.map (TO.aag (C.ren (bZ ks 1000)))) R /\
   ∀v Mo,R Mo v->Wf v->(∀o∈Mo,o.Wf)->ko.length=Mo.length /\
    K (((L.aaf ks).kills (rowsOf L ks)).puts ko (Mo.map (TO.aag (C.ren (aZ ko))))) (fw (rowsOf L ks) ρ) (v.ren (aZ ko)).slt)
 | inpl (ks:List Nat) (Lin:List TO) (R:List TO->C->Prop) (hs:L.sub ks=some Lin) (hn:bJ ks=true) (h:wM P f (args.map fun c=>c.aaj.ren (bZ ks 1000)) (Lin.map (TO.aag (C.ren (bZ ks 1000)))) R)
   (k:∀v Mo,R Mo v->Wf v->(∀o∈Mo,o.Wf)->ks.length=Mo.length/\K ((L.aaf ks).puts ks (Mo.map (TO.aag (C.ren (aZ ks))))) ρ (v.ren (aZ ks)).slt)
def x6:List Nat->List Nat->Bool
 | [],_=>true
 | k::ks,a=>match fW a k with | true=>false | false=>x6 ks a
structure nT (P:Program) (PS:qw) (fb:List Nat) (f:Nat) (args:List C) (L:TL) (ρ:aV) (K:TL->aV->C->Prop):Prop where
 out:∃(ks:List Nat) (Lin:List TO) (R:List TO->C->Prop) (Pp:Value->Prop),L.sub ks=some Lin/\bJ ks=true/\x6 ks fb=true/\aT Lin ks ks=true/\lW L ks PS.hb=true /\
   CallsTX P f (args.map fun c=>c.aaj.ren (bZ ks 1000)) (Lin.map (TO.aag (C.ren (bZ ks 1000)))) R Pp/\(∀v,Pp v->PS.ps v) /\
   ∀v Mo,R Mo v->Wf v->(∀o∈Mo,o.Wf)->ks.length=Mo.length /\
    K (((L.aaf ks).kills (rowsOf L ks)).puts ks (Mo.map (TO.aag (C.ren (aZ ks))))) (fw (rowsOf L ks) ρ) (v.ren (aZ ks)).slt
structure wN (P:Program) (ps:Value->Prop) (hb:List (Nat×Nat)) (st:TL->Value->Prop) (fb:List Nat) (f:Nat) (args:List C) (L:TL) (ρ:aV) (K:TL->aV->C->Prop):Prop where
 out:∃(ks:List Nat) (Lin:List TO) (R:List TO->C->Prop) (Pp:List TO->Value->Prop),L.sub ks=some Lin/\bJ ks=true/\x6 ks fb=true/\aT Lin ks ks=true/\lW L ks hb=true /\
   CallsTS P f (args.map fun c=>c.aaj.ren (bZ ks 1000)) (Lin.map (TO.aag (C.ren (bZ ks 1000)))) R Pp /\
   (∀v Mo,Pp Mo v->(∀o∈Mo,o.Wf)->ks.length=Mo.length->ps v/\st (TL.puts [] ks (Mo.map (TO.aag (C.ren (aZ ks))))) v) /\
   ∀v Mo,R Mo v->Wf v->(∀o∈Mo,o.Wf)->ks.length=Mo.length /\
    K (((L.aaf ks).kills (rowsOf L ks)).puts ks (Mo.map (TO.aag (C.ren (aZ ks))))) (fw (rowsOf L ks) ρ) (v.ren (aZ ks)).slt
def ni (P:Program) (f:Nat):Prop:=∃fn,P.funcs[f]?=some fn/\fn.body.isSome=true/\(fn.name == "runtime.NumGoroutine")=false
structure Tr (P:Program) (f:Nat) (args:List C) (t sz:Nat) (els:List (List C)) (x:C):Prop where
 out:∀(F:aD) (rv:Value) (xs vs:List Value),cZ F (inp [.row rv t sz els.length xs]) (.row t sz els) (.row rv t sz els.length xs)->aF F (inp [.row rv t sz els.length xs]) args vs ->
  CallsA P f vs.toArray F [.row rv t sz els.length xs] (fun F' Lo v=>Lo=[.row rv t sz els.length xs]/\Rel F' (inp []) x v)
inductive s9 (P:Program) (f:Nat) (args:List C) (L:TL) (ρ:aV) (d:Option Nat) (K:TL->aV->C->Prop):Prop
 | frz (R:List TO->C->Prop) (h:CallsT P f (args.map fun c=>c.aaj.ren (bZ [] 1000)) [] R) (k:∀v Mo,R Mo v->Wf v->Mo=[]/\K L ρ v.slt)
 | own (R:List TO->C->Prop) (k:Nat) (h:CallsT P f (args.map fun c=>c.aaj.ren (bZ [] 1000)) [] R) (hd:d=some k) (hk:L.get k=none)
   (kk:∀v Mo,R Mo v->Wf v->(∀o∈Mo,o.Wf)->∃o,Mo=[o]/\K (L.set k (o.aag (C.ren (aZ [k])))) ρ (v.ren (aZ [k])).slt)
 | row (R:List TO->C->Prop) (kr t sz:Nat) (els:List (List C)) (he:ni P f) (hk:L.get kr=some (.row t sz els)) (h:CallsT P f (args.map fun c=>(c.frz kr els).aaj.ren (bZ [] 1000)) [] R)
   (kk:∀v Mo,R Mo v->Wf v->Mo=[]/\K ((L.aag (C.kill kr)).set kr (.row t sz [])) (fun j=>(ρ j).kill kr) v.slt)
 | lent (kr t sz:Nat) (els:List (List C)) (x:C) (hk:L.get kr=some (.row t sz els)) (h:Tr P f (args.map fun c=>c.aaj.ren (bZ [kr] 1000)) t sz els x) (k:Wf x->K L ρ x.slt)
def Rn:Value->C
 | .int k n=>.int k n
 | .bool b=>.bool b
 | .string s=>.str s
 | _=>.any
def isNil:X->Bool
 | .c (.slice none 0 0)=>true
 | _=>false
def EI:X->Bool
 | .c (.pointer none)=>true
 | _=>false
def EJ:X->Bool
 | .c .nilFunc=>true
 | _=>false
def vo:List Bool->List C->List C->Bool->Option Bool
 | [],[],[],c=>some c
 | true::ks,.int k a::l,.int e b::d,c=>match qy k e with | true=>vo ks l d (c&&decide (a=b)) | false=>none
 | false::ks,.bool a::l,.bool b::d,c=>vo ks l d (c&&decide (a=b))
 | _,_,_,_=>none
structure HK (P:Program) (t:TypeId) (nm:String) (K:Nat->Prop):Prop where
 out:∃f,oI P t nm=some f/\K f
def PV (P:Program) (t:TypeId):Bool:=match P.underlying t with | some (.interface _)=>true | _=>false
def BA (ρ:aV):List (Nat×Nat×X)->List C->(List C->Prop)->Prop
 | [],zs,K=>K zs
 | (off,n,x)::ps,zs,K=>match(cm ρ x).okc,cR (cg (cm ρ x)) n with
  | true,true=>fl (cg (cm ρ x)) fun vs=>fl (fu zs off vs) fun zs=>BA ρ ps zs K
  | _,_=>False
theorem vp {ρ:aV}:∀{ps:List (Nat×Nat×X)}{zs:List C}{K:List C->Prop},BA ρ ps zs K->∃cs,vn ρ zs ps=some cs/\K cs
 | [],zs,K,h=>⟨zs,rfl,h⟩
 | (off,n,x)::ps,zs,K,h=>by
  simp only[BA] at h;simp only[vn];split at h
  ·rename_i a b;rw[eL,eL] at h
   first
   | exact vp h
   | (rw[a,b];exact vp h)
  ·exact h.elim
structure Ro (k:Nat) (K:Nat->Prop):Prop where
 out:∃n,IX k=some n/\n<=9223372036854775807/\K n
def Mn (t:Nat):Bool:=match Nat.beq t 0 with | true=>false | false=>Nat.ble t 1048575
structure Rp (pre:List C) (off:Nat) (cs:List C) (n:Nat) (K:List C->Prop):Prop where
 out:(∃o,off=pre.length+o/\match cR ((cs.drop o).take n) n with | true=>K ((cs.drop o).take n) | false=>False)\/∃vs,(pre.drop off).take n=vs/\cR vs n=true/\K vs
structure Vw (pre:List C) (off:Nat) (cs:List C) (n:Nat) (vs:List C) (K:Nat->Prop) (K':List C->Prop):Prop where
 out:(∃o,off=pre.length+o/\match cR ((cs.drop o).take n) n with | true=>K o | false=>False)\/∃pre',off+n<=pre.length/\dP vs=true/\fu pre off vs=pre'/\K' pre'
structure Vx (offs:List Nat) (j:Nat) (K:Nat->Prop):Prop where
 out:∃o,offs[j]?=some o/\K o
def vW (k:Nat) (ρ:aV):List X->Option (List Nat)
 | []=>some []
 | x::xs=>match(cm ρ x).cel,vW k ρ xs with
  | .own j off,some l=>match Nat.beq j k with | true=>some (off::l) | false=>none
  | _,_=>none
def outT (o:eH) (L:TL) (ρ:aV) (V:C->Prop):Prop :=
 match o with
 | .mov x=>V (cm ρ x)
 | .pick c a b=>match cm ρ c with
  | .bool t=>xk t (V (cm ρ a)) (V (cm ρ b))
  | _=>False
 | .build zs ps=>fl (zs.map sG) fun zs=>BA ρ ps zs fun cs=>V (.agg cs)
 | .load agg n x=>match cm ρ x with
  | .own k off=>match L.get k with
   | some (.box _ cs)=>match cR ((cs.drop off).take n) n with
    | true=>V (Bu agg ((cs.drop off).take n))
    | false=>False
   | some (.win _ pre cs _)=>Rp pre off cs n fun vs=>V (Bu agg vs)
   | _=>False
  | .pt es off=>match cR ((es.drop off).take n) n with
   | true=>V (Bu agg ((es.drop off).take n))
   | false=>False
  | .ownv k off=>match L.get k with
   | some (.box _ cs)=>match cR ((cs.drop off).take n) n with
    | true=>V (Bu agg ((cs.drop off).take n))
    | false=>False
   | some (.win _ pre cs _)=>Rp pre off cs n fun vs=>V (Bu agg vs)
   | _=>False
  | .elr k j off=>match L.get k with
   | some (.row _ _ els)=>HJ els j off n fun cs=>V (Bu agg cs)
   | _=>False
  | .slp k d j=>match agg,Nat.beq n 1 with
   | false,true=>Vx d j fun o=>V (.ownv k o)
   | _,_=>False
  | _=>False
 | .loadR agg n x=>match cm ρ x with
  | .own k off=>match L.get k with
   | some (.box _ cs)=>match cR ((cs.drop off).take n) n with
    | true=>V (Bu agg ((cs.drop off).take n))
    | false=>False
   | _=>False
  | .pt es off=>match cR ((es.drop off).take n) n with
   | true=>V (Bu agg ((es.drop off).take n))
   | false=>False
  | .ownv k off=>match L.get k with
   | some (.box _ cs)=>match cR ((cs.drop off).take n) n with
    | true=>V (Bu agg ((cs.drop off).take n))
    | false=>False
   | _=>False
  | .elr k j off=>match L.get k with
   | some (.row _ _ els)=>HJ els j off n fun cs=>V (Bu agg cs)
   | _=>False
  | _=>False
 | .loadD agg n x=>match cm ρ x with
  | .own k off=>match L.get k with
   | some (.box _ cs)=>match cR ((cs.drop off).take n) n with
    | true=>V (Bu agg ((cs.drop off).take n))
    | false=>False
   | some (.win _ pre cs _)=>Rp pre off cs n fun vs=>V (Bu agg vs)
   | _=>False
  | .pt es off=>match cR ((es.drop off).take n) n with
   | true=>V (Bu agg ((es.drop off).take n))
   | false=>False
  | _=>False
 | .gload g=>match wD g with
  | some k=>V (.opq k)
  | none=>False
 | .loadF agg n x=>match cm ρ x with
  | .pt es off=>match cR ((es.drop off).take n) n with
   | true=>V (Bu agg ((es.drop off).take n))
   | false=>False
  | _=>False
 | .loadK key agg n x=>match cm ρ x with
  | .own k off=>match Nat.beq k key with
   | true=>match L.get k with
    | some (.box _ cs)=>match cR ((cs.drop off).take n) n with
     | true=>V (Bu agg ((cs.drop off).take n))
     | false=>False
    | _=>False
   | false=>False
  | _=>False
 | .b2sD x=>match(cm ρ x).can with
  | .sl els=>m6 els fun bs=>V (.str ⟨bs.toArray⟩)
  | _=>False
 | .b2sR x=>match cm ρ x with
  | .rw k=>match L.get k with
   | some (.row _ sz els)=>match Nat.beq sz 1 with
    | true=>m6 els fun bs=>V (.str ⟨bs.toArray⟩)
    | false=>False
   | _=>False
  | _=>False
 | .nilck x=>match cm ρ x with
  | .own k off=>V (.own k off)
  | .pt es off=>V (.pt es off)
  | .ownv k off=>V (.ownv k off)
  | .fn f fi ca=>V (.fn f fi ca)
  | .mval nm c=>match c with
   | .ifc t c=>PE Hg t nm=true/\V (.mval nm (.ifc t c))
   | _=>False
  | .ifo (some nm) t k off=>PE Hg t nm=true/\V (.ifo (some nm) t k off)
  | _=>False
 | .mkmv nm x=>match cm ρ x with
  | .ifc t c=>V (.mval nm (.ifc t c))
  | .ifo none t k off=>V (.ifo (some nm) t k off)
  | _=>False
 | .bin op x y=>match cm ρ x,cm ρ y with
  | .int k a,.int q b=>match I4 op with
   | true=>shI op k a b fun v=>V (Rn v)
   | false=>match qy k q with
    | true=>binI op k a b fun v=>V (Rn v)
    | false=>False
  | .str a,.str b=>binS op a b fun v=>V (Rn v)
  | _,_=>False
 | .eqB neg x y=>match cm ρ x,cm ρ y with
  | .bool a,.bool b=>V (.bool (n9 neg (decide (a=b))))
  | _,_=>False
 | .eqP neg x y=>match EI y,cm ρ x with
  | true,.own _ _=>V (.bool (n9 neg false))
  | true,.ownv _ _=>V (.bool (n9 neg false))
  | true,.pt _ _=>V (.bool (n9 neg false))
  | true,.nilp=>V (.bool (n9 neg true))
  | _,_=>False
 | .eqS neg x y=>match isNil y,cm ρ x with
  | true,.sl els=>∀b,(els≠[]->b=false)->V (.bool (n9 neg b))
  | true,.slx _=>V (.bool (n9 neg false))
  | true,.nils=>V (.bool (n9 neg true))
  | _,_=>False
 | .eqF neg x y=>match EJ y,cm ρ x with
  | true,.nilf=>V (.bool (n9 neg true))
  | true,.fn _ _ _=>V (.bool (n9 neg false))
  | _,_=>False
 | .eqN neg x=>match cm ρ x with
  | .ifc _ _=>V (.bool (n9 neg false))
  | .ifo none _ _ _=>V (.bool (n9 neg false))
  | .opq k=>match Et k with
   | some b=>V (.bool (n9 neg b))
   | none=>False
  | _=>False
 | .tas t z x=>match cm ρ x with
  | .ifc p c=>match Nat.beq p t with
   | true=>fc c fun c=>V (.tup [c,.bool true])
   | false=>fc (cv z).cel fun c=>V (.tup [c,.bool false])
  | .ifo none p k off=>match Nat.beq p t with
   | true=>V (.tup [.own k off,.bool true])
   | false=>fc (cv z).cel fun c=>V (.tup [c,.bool false])
  | _=>False
 | .eqA neg ks x y=>match cm ρ x,cm ρ y with
  | .agg cs,.agg ds=>match vo ks cs ds true with
   | some b=>V (.bool (n9 neg b))
   | none=>False
  | _,_=>False
 | .mkif t x=>match cm ρ x with
  | .int k n=>V (.ifc t (.int k n))
  | .bool b=>V (.ifc t (.bool b))
  | .str s=>V (.ifc t (.str s))
  | .pt es off=>V (.ifc t (.pt es off))
  | .own k off=>V (.ifo none t k off)
  | .ownv k off=>V (.ifo none t k off)
  | .agg cs=>match dP cs with
   | true=>fl cs fun cs=>V (.ifc t (.agg cs))
   | false=>False
  | _=>False
 | .un op x=>match op,cm ρ x with
  | .not,.bool b=>V (.bool (!b))
  | .neg,.int k n=>Fit k (0-n) fun m=>V (.int k m)
  | .xor,.int k n=>V (.int k (k.wrap (BitVec.ofInt k.bits (if k.signed then -1 else k.max) ^^^ BitVec.ofInt k.bits n).toNat))
  | _,_=>False
 | .conv k x=>match cm ρ x with
  | .int _ n=>Fit k n fun m=>V (.int k m)
  | _=>False
 | .b2s x=>match(cm ρ x).can with
  | .sl els=>m6 els fun bs=>V (.str ⟨bs.toArray⟩)
  | _=>False
 | .mkfn f fi ca=>V (.fn f (dZ ρ fi) (dZ ρ ca))
 | .slc sz x lo hi=>match(cm ρ x).can with
  | .sl els=>match HI ρ 0 lo,HI ρ els.length hi with
   | some l,some h=>Bw l h els sz fun l h=>V (.sl ((els.drop l).take (h-l)))
   | _,_=>False
  | _=>False
 | .slcS x lo hi=>match cm ρ x with
  | .str s=>match HI ρ 0 lo,HI ρ s.size hi with
   | some l,some h=>nP l h s.size fun l h=>V (.str (s.extract l h))
   | _,_=>False
  | _=>False
 | .fieldA off x=>match cm ρ x with
  | .own k o=>V (.own k (o+off))
  | .pt es o=>V (.pt es (o+off))
  | .elr k j o=>V (.elr k j (o+off))
  | .ownv k o=>V (.ownv k (o+off))
  | _=>False
 | .fieldV agg off n x=>match cm ρ x with
  | .agg cs=>match cR ((cs.drop off).take n) n with
   | true=>V (Bu agg ((cs.drop off).take n))
   | false=>False
  | _=>False
 | .idxA sz x i=>match(cm ρ x).can,cm ρ i with
  | .sl els,.int _ i=>Bv els i sz fun es=>V (.pt es 0)
  | .rw k,.int _ i=>match L.get k with
   | some (.row _ e els)=>match Nat.beq sz e with
    | true=>Mu i els.length (V (.elr k i.toNat 0))
    | false=>False
   | _=>False
  | .slo k d,.int _ i=>match Nat.beq sz 1 with
   | true=>Mu i d.length (V (.slp k d i.toNat))
   | false=>False
  | _,_=>False
 | .idxS x i=>match cm ρ x,cm ρ i with
  | .str s,.int _ i=>Mu i s.size (V (.int .u8 ((s.data.toList.getD i.toNat 0).toNat)))
  | _,_=>False
 | .extr x i=>match cm ρ x with
  | .tup vs=>match vs[i]? with
   | some v=>V v.slt
   | none=>False
  | _=>False
 | .len x=>match(cm ρ x).can with
  | .sl els=>V (.int .i64 els.length)
  | .rw k=>match L.get k with
   | some (.row _ _ els)=>V (.int .i64 els.length)
   | _=>False
  | .opq k=>Ro k fun n=>V (.int .i64 n)
  | .slo k d=>V (.int .i64 d.length)
  | _=>False
 | .lenS x=>match cm ρ x with
  | .str s=>V (.int .i64 s.size)
  | _=>False
 | .mlook str ok z x i=>match cm ρ x with
  | .mpr k=>match L.get k with
   | some (.map es)=>Rm str es (cm ρ i) (fun v=>match ok with | true=>V (.tup [v,.bool true]) | false=>V v.slt) (match ok with | true=>V (.tup [cv z,.bool false]) | false=>V (cv z))
   | _=>False
  | _=>False
 | .mlen x=>match cm ρ x with
  | .mpr k=>match L.get k with
   | some (.map es)=>es.length<=maxLen/\V (.int .i64 es.length)
   | _=>False
  | _=>False
 | .mm mx args=>match args.map (cm ρ) with
  | .int k a::l=>match Ve mx a l with
   | some m=>(Lit.int k m).wf=true/\V (.int k m)
   | none=>False
  | _=>False
 | _=>False
abbrev TK:=TL->aV->Prop
def storeT (b:Bool) (n:Nat) (a x:X) (d:Option Nat) (L:TL) (ρ:aV) (K:TK):Prop :=
 match(cm ρ x).okc,cR (cg (cm ρ x)) n,dJ (cg (cm ρ x)),cm ρ a with
 | true,true,true,.own k off=>match L.get k with
  | some (.box t cs)=>match cR ((cs.drop off).take n) n with
   | true=>fl (fu cs off (cg (cm ρ x))) fun cs=>K (L.set k (.box t cs)) (bD d .und ρ)
   | false=>False
  | some (.win t pre cs post)=>match b with
   | false=>Vw pre off cs n (cg (cm ρ x)) (fun o=>fl (fu cs o (cg (cm ρ x))) fun cs=>K (L.set k (.win t pre cs post)) (bD d .und ρ)) fun pre'=>K (L.set k (.win t pre' cs post)) (bD d .und ρ)
   | true=>False
  | _=>False
 | true,true,true,.elr k j off=>match b,L.get k,dP (cg (cm ρ x)) with
  | false,some (.row t sz els),true=>Nat.ble (off+n) sz=true/\HJ els j off n fun _=>∀es,els[j]?=some es->K (L.set k (.row t sz (els.set j (fu es off ((cg (cm ρ x)).map C.can))))) (bD d .und ρ)
  | _,_,_=>False
 | _,_,_,_=>False
structure Na (es:List C) (off:Nat) (b:Bool) (K:Prop):Prop where
 same:es[off]?=some (.bool b)
 out:K
def EK (n:Nat) (a x:X) (d:Option Nat) (L:TL) (ρ:aV) (K:TK):Prop :=
 match cm ρ a,cm ρ x with
 | .pt es off,.bool b=>match Nat.beq n 1 with
  | true=>Na es off b (K L (bD d .und ρ))
  | false=>False
 | _,_=>storeT false n a x d L ρ K
def Nb (e sz bytes:Nat) (s x:C) (d:Option Nat) (L:TL) (ρ:aV) (K:TK):Prop :=
 match s,x.can,d with
 | .rw k,.sl news,_=>match L.get k with
  | some (.row c b els)=>match Nat.beq e c,Nat.beq sz b with
   | true,true=>rY els news sz bytes (fT ((L.aag (C.kill k)).set k (.row e sz (els++news))) fun L=>K L (bD d (.rw k) fun j=>(ρ j).kill k))
   | _,_=>False
  | _=>False
 | .nils,.sl news,some k=>match L.get k with
  | none=>rY [] news sz bytes (fT (L.set k (.row e sz news)) fun L=>K L (bD d (.rw k) ρ))
  | some _=>False
 | .slx els,.sl news,some k=>match L.get k with
  | none=>0<news.length/\(∀es∈els,es.length=sz)/\rY els news sz bytes (fT (L.set k (.row e sz (els++news))) fun L=>K L (bD d (.rw k) ρ))
  | some _=>False
 | .rw k,.rw h,_=>match L.get k,L.get h with
  | some (.row c b els),some (.row f a news)=>match Nat.beq e c,Nat.beq sz b,Nat.beq sz a with
   | true,true,true=>rY els news sz bytes (fT ((L.aag (C.kill k)).set k (.row e sz (els++news))) fun L=>K L (bD d (.rw k) fun j=>(ρ j).kill k))
   | _,_,_=>False
  | _,_=>False
 | .nils,.rw h,some k=>match L.get k,L.get h with
  | none,some (.row f a news)=>match Nat.beq sz a with
   | true=>rY [] news sz bytes (K (L.set k (.row e sz news)) (bD d (.rw k) ρ))
   | false=>False
  | _,_=>False
 | _,_,_=>False
structure Tt (P:Program) (o:eH) (d:Option Nat) (M:TL) (τ:aV) (K:TL->aV->Prop):Prop where
 out:∀(G:Nat->Option (Nat×TypeId)) (F:aD) (L:Loc) (ρ:Env),TS G F L ρ M τ->evalOp P o d F L ρ fun F L ρ=>∃M τ,TS G F L ρ M τ/\K M τ
def bN (P:Program) (o:eH) (d:Option Nat) (L:TL) (ρ:aV) (K:TK):Prop :=
 match o with
 | .box t x=>match d with
  | some k=>match L.get k,(cm ρ x).okc,Mn t with
   | none,true,true=>fl (cg (cm ρ x)) fun cs=>K (L.set k (.box t cs)) (bD d (.own k 0) ρ)
   | _,_,_=>False
  | none=>False
 | .boxD t x=>match d with
  | some k=>match L.get k,(cm ρ x).okc,Mn t with
   | none,true,true=>fl (cg (cm ρ x)) fun cs=>K (L.set k (.box t cs)) (bD d (.own k 0) ρ)
   | _,_,_=>False
  | none=>False
 | .boxF t x=>match(cm ρ x).okc,dJ (cg (cm ρ x)),dP (cg (cm ρ x)) with
  | true,true,true=>fl ((cg (cm ρ x)).map C.can) fun cs=>K L (bD d (.pt cs 0) ρ)
  | _,_,_=>False
 | .alloc t zs=>match d with
  | some k=>match L.get k,Mn t with
   | none,true=>fl (zs.map sG) fun cs=>K (L.set k (.box t cs)) (bD d (.own k 0) ρ)
   | _,_=>False
  | none=>False
 | .allocD t zs=>match d with
  | some k=>match L.get k,Mn t with
   | none,true=>fl (zs.map sG) fun cs=>K (L.set k (.box t cs)) (bD d (.own k 0) ρ)
   | _,_=>False
  | none=>False
 | .mkF e n sz xs=>match qN ρ sz xs,Nat.beq xs.length n,Nat.ble n 9223372036854775807 with
  | true,true,true=>K L (bD d (.slx (vk ρ xs)) ρ)
  | false,true,true=>match Nat.beq sz 1,xs with
   | true,x::_=>match(cm ρ x).cel with
    | .own k _=>match vW k ρ xs with
     | some p=>K L (bD d (.slo k p) ρ)
     | none=>False
    | _=>False
   | _,_=>False
  | _,_,_=>False
 | .mkFD e n sz xs=>match qN ρ sz xs,Nat.beq xs.length n,Nat.ble n 9223372036854775807 with
  | true,true,true=>K L (bD d (.slx (vk ρ xs)) ρ)
  | false,true,true=>match Nat.beq sz 1,xs with
   | true,x::_=>match(cm ρ x).cel with
    | .own k _=>match vW k ρ xs with
     | some p=>K L (bD d (.slo k p) ρ)
     | none=>False
    | _=>False
   | _,_=>False
  | _,_,_=>False
 | .mkR e n sz xs=>match qN ρ sz xs,Nat.beq xs.length n,Nat.ble n 9223372036854775807,d with
  | true,true,true,some k=>match L.get k with
   | none=>K (L.set k (.row e sz (vk ρ xs))) (bD d (.rw k) ρ)
   | some _=>False
  | _,_,_,_=>False
 | .s2b _ x=>match cm ρ x with
  | .str s=>K L (bD d (.sl (af s.data.toList)) ρ)
  | _=>False
 | .makeS e sz bytes zs l c=>match cm ρ l,cm ρ c,d with
  | .int _ n,.int _ m,some k=>match L.get k,cR (zs.map sG) sz,dJ (zs.map sG) with
   | none,true,true=>u4 n m bytes fun n=>K (L.set k (.row e sz (List.replicate n ((zs.map sG).map C.can)))) (bD d (.rw k) ρ)
   | _,_,_=>False
  | _,_,_=>False
 | .makeSD e sz n zs=>match d with
  | some k=>match L.get k,cR (zs.map sG) sz,(Nat.beq n 0||dJ (zs.map sG)),Nat.ble n 9223372036854775807 with
   | none,true,true,true=>K (L.set k (.row e sz (List.replicate n ((zs.map sG).map C.can)))) (bD d (.rw k) ρ)
   | _,_,_,_=>False
  | none=>False
 | .makeSV e sz bytes zs x=>match cm ρ x,d with
  | .int _ n,some k=>match L.get k,cR (zs.map sG) sz,dJ (zs.map sG) with
   | none,true,true=>u4 n n bytes fun n=>K (L.set k (.row e sz (List.replicate n ((zs.map sG).map C.can)))) (bD d (.rw k) ρ)
   | _,_,_=>False
  | _,_=>False
 | .storeK key n a x=>match cm ρ a with
  | .own k _=>match Nat.beq k key with
   | true=>storeT true n a x d L ρ K
   | false=>False
  | _=>False
 | .copy e sz a b=>Tt P (.copy e sz a b) d L ρ K
 | .copyX _ _ _ _=>False
 | .storeX n a x=>storeT false n a x d L ρ K
 | .store n a x=>EK n a x d L ρ K
 | .storeD n a x=>storeT true n a x d L ρ K
 | .call f args=>fl (dZ ρ args) fun args=>oZ P f args L ρ fun L' ρ' v=>fT L' fun L'=>wo v fun v=>K L' (bD d v ρ')
 | .callV f args=>match cm ρ f with
  | .fn f fi ca=>fl (fi++dZ ρ args++ca) fun args=>oZ P f args L ρ fun L' ρ' v=>fT L' fun L'=>wo v fun v=>K L' (bD d v ρ')
  | .mval nm c=>match c with
   | .ifc t c=>HK P t nm fun f=>fl (dZ ρ args) fun args=>oZ P f (c::args) L ρ fun L' ρ' v=>fT L' fun L'=>wo v fun v=>K L' (bD d v ρ')
   | _=>False
  | .ifo (some nm) t k off=>HK P t nm fun f=>fl (dZ ρ args) fun args=>oZ P f (.own k off::args) L ρ fun L' ρ' v=>fT L' fun L'=>wo v fun v=>K L' (bD d v ρ')
  | .mof t nm=>match PV P t,dZ ρ args with
   | true,.ifc y c::q=>HK P y nm fun f=>fl q fun q=>oZ P f (c::q) L ρ fun L' ρ' v=>fT L' fun L'=>wo v fun v=>K L' (bD d v ρ')
   | _,_=>False
  | _=>False
 | .callD f args=>fl (dZ ρ args) fun args=>s9 P f args L ρ d fun L' ρ' v=>fT L' fun L'=>wo v fun v=>K L' (bD d v ρ')
 | .callVD f args=>match cm ρ f with
  | .fn f fi ca=>fl (fi++dZ ρ args++ca) fun args=>s9 P f args L ρ d fun L' ρ' v=>fT L' fun L'=>wo v fun v=>K L' (bD d v ρ')
  | .mval nm c=>match c with
   | .ifc t c=>HK P t nm fun f=>fl (dZ ρ args) fun args=>s9 P f (c::args) L ρ d fun L' ρ' v=>fT L' fun L'=>wo v fun v=>K L' (bD d v ρ')
   | _=>False
  | _=>False
 | .callO f args=>fl (dZ ρ args) fun args=>Bz P f args L ρ fun L' ρ' v=>fT L' fun L'=>wo v fun v=>K L' (bD d v ρ')
 | .callVO f args=>match cm ρ f with
  | .fn f fi ca=>fl (fi++dZ ρ args++ca) fun args=>Bz P f args L ρ fun L' ρ' v=>fT L' fun L'=>wo v fun v=>K L' (bD d v ρ')
  | _=>False
 | .mkmap=>match d with
  | some k=>match L.get k with
   | none=>K (L.set k (.map [])) (bD d (.mpr k) ρ)
   | some _=>False
  | none=>False
 | .mupd str x i v=>match cm ρ x with
  | .mpr k=>match L.get k,JH str (cm ρ i),(cm ρ v).okc,dP (cg (cm ρ v)) with
   | some (.map es),true,true,true=>Tn str es (cm ρ i) ((cm ρ v).cel.aaj) fun es=>K (L.set k (.map es)) (bD d .und ρ)
   | _,_,_,_=>False
  | _=>False
 | .look x i=>match cm ρ x,cm ρ i with
  | .opq k,.int .i64 n=>match wE k n with
   | some (r,b)=>K L (bD d (.tup [.int .i64 r,.bool b]) ρ)
   | none=>False
  | _,_=>False
 | .app e sz bytes _ s x=>Nb e sz bytes (cm ρ s) (cm ρ x) d L ρ K
 | .appX e sz bytes _ s x=>Nb e sz bytes (cm ρ s) (cm ρ x) d L ρ K
 | .appD e sz bytes _ s x=>match cm ρ s,(cm ρ x).can,d with
  | .rw k,.sl news,_=>match L.get k with
   | some (.row u h els)=>match Nat.beq e u,Nat.beq sz h with
    | true,true=>rY els news sz bytes (fT ((L.aag (C.kill k)).set k (.row e sz (els++news))) fun L=>K L (bD d (.rw k) fun j=>(ρ j).kill k))
    | _,_=>False
   | _=>False
  | .nils,.sl news,some k=>match L.get k with
   | none=>rY [] news sz bytes (fT (L.set k (.row e sz news)) fun L=>K L (bD d (.rw k) ρ))
   | some _=>False
  | .slx els,.sl news,some k=>match L.get k with
   | none=>0<news.length/\(∀es∈els,es.length=sz)/\rY els news sz bytes (fT (L.set k (.row e sz (els++news))) fun L=>K L (bD d (.rw k) ρ))
   | some _=>False
  | _,_,_=>False
 | .appS e s x=>match cm ρ s,cm ρ x,d with
  | .rw k,.str t,_=>match L.get k with
   | some (.row u h els)=>match Nat.beq e u,Nat.beq 1 h with
    | true,true=>rY els (af t.data.toList) 1 1 (fT ((L.aag (C.kill k)).set k (.row e 1 (els++af t.data.toList))) fun L=>K L (bD d (.rw k) fun j=>(ρ j).kill k))
    | _,_=>False
   | _=>False
  | .nils,.str t,some k=>match L.get k with
   | none=>rY [] (af t.data.toList) 1 1 (K (L.set k (.row e 1 (af t.data.toList))) (bD d (.rw k) ρ))
   | some _=>False
  | _,_,_=>False
 | .appZ e bytes w s x=>match cm ρ s,cm ρ x,d with
  | .rw k,.int _ i,_=>match L.get k with
   | some (.row u h els)=>match Nat.beq e u,Nat.beq 1 h with
    | true,true=>JJ i fun m=>rY els (List.replicate m [.int w 0]) 1 bytes (fT ((L.aag (C.kill k)).set k (.row e 1 (els++List.replicate m [.int w 0]))) fun L=>K L (bD d (.rw k) fun j=>(ρ j).kill k))
    | _,_=>False
   | _=>False
  | .nils,.int _ i,some k=>match L.get k with
   | none=>JJ i fun m=>rY [] (List.replicate m [.int w 0]) 1 bytes (K (L.set k (.row e 1 (List.replicate m [.int w 0]))) (bD d (.rw k) ρ))
   | some _=>False
  | _,_,_=>False
 | o=>outT o L ρ fun v=>wo v fun v=>K L (bD d v ρ)
def vq (P:Program) (PS:qw) (o:eH) (d:Option Nat) (L:TL) (ρ:aV) (K:TK):Prop :=
 match o with
 | .call f args=>fl (dZ ρ args) fun args=>match PS.st with
  | none=>pR P PS f args L ρ fun L' ρ' v=>fT L' fun L'=>wo v fun v=>K L' (bD d v ρ')
  | some s=>Bx P PS.ps PS.hb s f args L ρ fun L' ρ' v=>fT L' fun L'=>wo v fun v=>K L' (bD d v ρ')
 | .callV f args=>match cm ρ f with
  | .fn f fi ca=>fl (fi++dZ ρ args++ca) fun args=>match PS.st with
   | none=>pR P PS f args L ρ fun L' ρ' v=>fT L' fun L'=>wo v fun v=>K L' (bD d v ρ')
   | some s=>Bx P PS.ps PS.hb s f args L ρ fun L' ρ' v=>fT L' fun L'=>wo v fun v=>K L' (bD d v ρ')
  | .ifo (some nm) t k off=>HK P t nm fun f=>fl (dZ ρ args) fun args=>match PS.st with
   | none=>pR P PS f (.own k off::args) L ρ fun L' ρ' v=>fT L' fun L'=>wo v fun v=>K L' (bD d v ρ')
   | some s=>Bx P PS.ps PS.hb s f (.own k off::args) L ρ fun L' ρ' v=>fT L' fun L'=>wo v fun v=>K L' (bD d v ρ')
  | _=>False
 | .pan x=>match PS.st with
  | none=>Tq PS L (cm ρ x)
  | some s=>Vv PS.ps PS.hb s L (cm ρ x)
 | _=>False
def EL (P:Program) (PS:qw) (a:List Nat) (o:eH) (d:Option Nat) (L:TL) (ρ:aV) (K:TK):Prop :=
 match o with
 | .call f args=>fl (dZ ρ args) fun args=>match PS.st with
  | some s=>wN P PS.ps PS.hb s a f args L ρ fun L' ρ' v=>fT L' fun L'=>wo v fun v=>K L' (bD d v ρ')
  | none=>nT P PS a f args L ρ fun L' ρ' v=>fT L' fun L'=>wo v fun v=>K L' (bD d v ρ')
 | .callV f args=>match cm ρ f with
  | .fn f fi ca=>fl (fi++dZ ρ args++ca) fun args=>match PS.st with
   | some s=>wN P PS.ps PS.hb s a f args L ρ fun L' ρ' v=>fT L' fun L'=>wo v fun v=>K L' (bD d v ρ')
   | none=>nT P PS a f args L ρ fun L' ρ' v=>fT L' fun L'=>wo v fun v=>K L' (bD d v ρ')
  | .ifo (some nm) t k off=>HK P t nm fun f=>fl (dZ ρ args) fun args=>match PS.st with
   | some s=>wN P PS.ps PS.hb s a f (.own k off::args) L ρ fun L' ρ' v=>fT L' fun L'=>wo v fun v=>K L' (bD d v ρ')
   | none=>nT P PS a f (.own k off::args) L ρ fun L' ρ' v=>fT L' fun L'=>wo v fun v=>K L' (bD d v ρ')
  | _=>False
 | _=>False
def Al:List aA->TL->Bool
 | [],_=>true
 | s::l,L=>match uc s with
  | none=>Al l L
  | some k=>match L.get k with | none=>Al l L | some _=>false
def sH (d:Option Nat) (ρ:aV):aV :=
 match d with
 | some k=>fun j=>match Nat.beq j k with | true=>(ρ k).aaC | false=>ρ j
 | none=>ρ
def JO (a:Bool) (d:Option Nat) (ρ:aV):aV:=match a with | true=>ρ | false=>sH d ρ
def stepT (P:Program) (PS:qw) (e:Bool) (s:aA) (c:TL->aV->TK->Prop) (L:TL) (ρ:aV) (K:TK):Prop :=
 match s with
 | .op d o none=>bN P o d L ρ fun L' ρ'=>c L' (JO e d ρ') K
 | .op d o (some (s,a))=>match ρ s with
  | .bool b=>xk b
    (match a with
     | true=>bN P o d L (bD (some s) (.bool true) ρ) fun L' ρ'=>c L' (JO e d ρ') K
     | false=>c L (bD d .und (bD (some s) (.bool true) ρ)) K)
    (match a with
     | false=>bN P o d L (bD (some s) (.bool false) ρ) fun L' ρ'=>c L' (JO e d ρ') K
     | true=>c L (bD d .und (bD (some s) (.bool false) ρ)) K)
  | .und=>c L (bD d .und ρ) K
  | _=>False
 | .frz k=>match e,L.get k with
  | false,some (.row _ _ els)=>fT ((L.del k).aag (C.frz k els)) fun L=>c L (fun j=>(ρ j).frz k els) K
  | false,some (.box _ cs)=>match dJ cs,dP cs,Nat.blt k 1000,fW (PS.hb.map (·.1)) k with
   | true,true,true,false=>fT ((L.del k).aag (C.frb k cs)) fun L=>c L (fun j=>(ρ j).frb k cs) K
   | _,_,_,_=>False
  | _,_=>False
 | .pc d o none=>match e with
  | true=>False
  | false=>vq P PS o d L ρ fun L' ρ'=>c L' (sH d ρ') K
 | .pc d o (some (s,a))=>match e,ρ s with
  | false,.bool b=>xk b
    (match a with
     | true=>vq P PS o d L (bD (some s) (.bool true) ρ) fun L' ρ'=>c L' (sH d ρ') K
     | false=>c L (bD d .und (bD (some s) (.bool true) ρ)) K)
    (match a with
     | false=>vq P PS o d L (bD (some s) (.bool false) ρ) fun L' ρ'=>c L' (sH d ρ') K
     | true=>c L (bD d .und (bD (some s) (.bool false) ρ)) K)
  | false,.und=>c L (bD d .und ρ) K
  | _,_=>False
def Am (P:Program) (PS:qw) (b:List Nat) (s:aA) (a:TL->aV->TK->Prop) (L:TL) (ρ:aV) (K:TK):Prop :=
 match s with
 | .pc d o none=>EL P PS b o d L ρ fun L' ρ'=>a L' ρ' K
 | s=>stepT P PS true s a L ρ K
noncomputable def dK (P:Program) (PS:qw) (b:Bool) (ss:List aA):TL->aV->TK->Prop :=
 List.rec (motive:=fun _=>TL->aV->TK->Prop) (fun L ρ K=>K L ρ) (fun s _ a L ρ K=>stepT P PS b s a L ρ K) ss
noncomputable def kP (P:Program) (PS:qw) (b:List Nat) (ss:List aA):TL->aV->TK->Prop :=
 List.rec (motive:=fun _=>TL->aV->TK->Prop) (fun L ρ K=>K L ρ) (fun s _ a L ρ K=>Am P PS b s a L ρ K) ss
theorem jV {P:Program}{PS:qw}{b:List Nat}{s:aA}{a:List aA}{L:TL}{ρ:aV}{K:TK}:kP P PS b (s::a) L ρ K=Am P PS b s (kP P PS b a) L ρ K:=rfl
theorem fF {P:Program}{PS:qw}{b:Bool}{s:aA}{a:List aA}{L:TL}{ρ:aV}{K:TK}:dK P PS b (s::a) L ρ K=stepT P PS b s (dK P PS b a) L ρ K:=rfl
def tj:List C->C
 | [v]=>v
 | l=>.tup l
def qQ (L:TL) (ρ:aV):List RV->(List C->Prop)->Prop
 | [],K=>K []
 | (t,none)::l,K=>qQ L ρ l fun vs=>K ((ρ t).cel::vs)
 | (t,some (agg,n))::l,K=>match ρ t with
  | .own k off=>match L.get k with
   | some (.box _ cs)=>match cR ((cs.drop off).take n) n with
    | true=>qQ L ρ l fun vs=>K ((Bu agg ((cs.drop off).take n)).cel::vs)
    | false=>False
   | _=>False
  | _=>False
structure o7 (Lin:List TO) (L:TL) (v:C) (R:List TO->C->Prop):Prop where
 out:∃(fz ko:List Nat),xY fz L (fun _=>.any) [v] fun L _ vs =>
  ∃(L1:TL) (c c1:C) (Mo:List TO),vs=[c]/\((L1=L/\c1=c)\/(gives L L1 L1/\Ml L L1 c c1))/\L1.sub ko=some Mo/\bJ ko=true/\aT Lin (List.range' 1000 Lin.length) ko=true /\
   (tL [c1]->R (Mo.map (TO.aag (C.ren (bZ ko 1000)))) (c1.aar.ren (bZ ko 1000)))
def ul (asg:List Nat) (ρ:aV):aV:=fun j=>match fW asg j with | true=>.any | false=>(ρ j).aaO
structure x7 (body:TL->aV->TK->Prop) (asg:List Nat) (L:TL) (ρ:aV):Prop where
 out:∃(σ:Type) (x0:σ) (Inv:σ->Prop) (ls:List Nat) (lv:σ->List C) (Lf:σ->TL) (μ:σ->Nat),
  Inv x0/\oh L (Lf x0) ls (lv x0) ρ/\gives L (Lf x0) (Lf x0)/\(∀x,m9 L (Lf x)=true)/\(∀x,(lv x).length=ls.length) /\
  ∀x,Inv x->tL (lv x)->(∀k o,(Lf x).get k=some o->o.Wf)->body (Lf x) (qO ls (lv x) (ul asg ρ)) fun L' ρ' =>
   ∃x',Inv x'/\oh L' (Lf x') ls (lv x') ρ'/\gives L' (Lf x') (Lf x')/\μ x'<μ x
def dL:List aA->List Nat
 | []=>[]
 | .frz k::l=>k::dL l
 | .op _ _ _::l=>dL l
 | .pc _ _ _::l=>dL l
def iX:aJ->List Nat
 | .reg d=>dL d
 | .regD d=>dL d
 | .regX d=>dL d
 | .seq a b=>iX a++iX b
 | .cond _ a b=>iX a++iX b
 | .block _ c=>iX c
 | .loop _ c=>iX c
 | _=>[]
def tq (L:TL):List Nat->Bool
 | []=>true
 | k::ks=>match L.get k with | some (.box _ _)=>false | some (.map _)=>false | some (.win _ _ _ _)=>false | _=>tq L ks
def JP:List aA->Bool
 | []=>false
 | .op _ (.copyX _ _ _ _) _::_=>true
 | _::l=>JP l
structure Rq (P:Program) (PS:qw) (ops:List aA) (M:TL) (τ:aV) (N:TK):Prop where
 st:PS.st=none
 out:∀(G:Nat->Option (Nat×TypeId)) (PX:aD->Loc->Value->Prop),
  (∀(F:aD) (L:Loc) (ρ:Env) (M:TL) (τ:aV) (f:Nat) (args:List C) (vs:List Value) (K:TL->aV->C->Prop),TS G F L ρ M τ->aF F L args vs->nT P PS (Bs ops) f args M τ K ->
   CallXDPt P PX (Bs ops) f vs F L fun F' L' v=>∃M' τ' c,TS G F' L' ρ M' τ'/\aQ F' L' c (.v v)/\K M' τ' c) ->
  ∀(F:aD) (L:Loc) (ρ:Env),Real F L->TS G F L ρ M τ->bq P PX (Bs ops) ops F L ρ fun F L ρ=>∃M τ,TS G F L ρ M τ/\N M τ
noncomputable def fA (P:Program) (PS:qw) (c:aJ):(Nat->TK)->TK->TK->TK :=
 aJ.rec (motive:=fun _=>(Nat->TK)->TK->TK->TK)
  (fun _ _ N L ρ=>N L ρ)
  (fun a _ _ N L ρ=>dK P PS false a L ρ N)
  (fun a _ _ N L ρ=>dK P PS true a L ρ N)
  (fun a _ _ N L ρ=>match Al a L with | true=>(match JP a with | true=>Rq P PS a L ρ N | false=>kP P PS (Bs a) a L ρ N) | false=>False)
  (fun _ _ d b E R N L ρ=>d E R (fun L ρ=>b E R N L ρ) L ρ)
  (fun c _ _ d b E R N L ρ=>match cm ρ c with
   | .bool t=>xk t (d E R N L ρ) (b E R N L ρ)
   | _=>False)
  (fun id _ e E R N L ρ=>e (fun j=>match Nat.beq j id with | true=>N | false=>E j) R N L ρ)
  (fun asg c e E R _ L ρ=>match tq L (iX c) with | true=>x7 (fun L ρ K=>e E R K L ρ) asg L ρ | false=>False)
  (fun id E _ _ L ρ=>E id L ρ)
  (fun _ R _ L ρ=>R L ρ) c
section
variable {P:Program}{PS:qw}{E:Nat->TK}{R N:TK}{L:TL}{ρ:aV}
theorem lq:fA P PS .skip E R N L ρ=N L ρ:=rfl
theorem nj {a:List aA}:fA P PS (.reg a) E R N L ρ=dK P PS false a L ρ N:=rfl
theorem lu {a:List aA}:fA P PS (.regD a) E R N L ρ=dK P PS true a L ρ N:=rfl
theorem C6 {a:List aA}:fA P PS (.regX a) E R N L ρ=(match Al a L with | true=>(match JP a with | true=>Rq P PS a L ρ N | false=>kP P PS (Bs a) a L ρ N) | false=>False):=rfl
theorem nk {a b:aJ}:fA P PS (.seq a b) E R N L ρ=fA P PS a E R (fun L ρ=>fA P PS b E R N L ρ) L ρ:=rfl
theorem lz {c:X}{a b:aJ}:fA P PS (.cond c a b) E R N L ρ=(match cm ρ c with
   | .bool t=>xk t (fA P PS a E R N L ρ) (fA P PS b E R N L ρ)
   | _=>False):=rfl
theorem jW {id:Nat}{c:aJ}:fA P PS (.block id c) E R N L ρ=fA P PS c (fun j=>match Nat.beq j id with | true=>N | false=>E j) R N L ρ:=rfl
theorem lF {asg:List Nat}{c:aJ}:fA P PS (.loop asg c) E R N L ρ=(match tq L (iX c) with | true=>x7 (fun L ρ K=>fA P PS c E R K L ρ) asg L ρ | false=>False):=rfl
theorem lH {id:Nat}:fA P PS (.exit id) E R N L ρ=E id L ρ:=rfl
theorem nu:fA P PS .ret E R N L ρ=R L ρ:=rfl
end
def wq:Nat->List C->aV
 | _,[]=>fun _=>.und
 | k,v::l=>bD (some k) v (wq (k+1) l)
theorem wf_wrap (k:IntKind) (n:Int):(Lit.int k (k.wrap n)).wf=true:=by
 cases k<;>simp[Lit.wf,IntKind.wrap,IntKind.min,IntKind.max,IntKind.bits,IntKind.signed]<;>(try split)<;>omega
theorem BB (k:IntKind) (n:Int):(Lit.int k n).wf=true↔k.min<=n/\n<=k.max:=by simp[Lit.wf]
theorem FR (k:IntKind):k.min<=0:=by cases k<;>simp[IntKind.min,IntKind.bits,IntKind.signed]
theorem FT (k:IntKind):127<=k.max:=by cases k<;>simp[IntKind.max,IntKind.bits,IntKind.signed]
def okB:Value->Prop
 | .int k n=>(Lit.int k n).wf=true
 | .bool _=>True
 | .string s=>s.size<=maxLen
 | _=>False
section
variable {P:Program}{G:Nat->Option (Nat×TypeId)}{F:aD}{L:Loc}{ρ:Env}{M:TL}{τ:aV}
theorem x9 {v:Value}(h:okB v):aQ F L (Rn v) (.v v):=by
 cases v
 case int k n=>exact⟨.int k n,rfl,by simp only[Rn,Rel];exact⟨trivial,h⟩⟩
 case bool b=>exact⟨.bool b,rfl,by simp only[Rn,Rel]⟩
 case string b=>exact⟨.string b,rfl,by simp only[Rn,Rel];exact⟨trivial,h⟩⟩
 all_goals exact h.elim
theorem Nc {k:IntKind}{a b:Int}(h:(Lit.int k a).wf=true):(Lit.int k (a.tmod b)).wf=true:=by
 rw[BB] at h ⊢;have e:=FR k;have f:=FT k
 by_cases d:0<=a
 ·have:=Int.tmod_nonneg b d;have c:a.tmod b<=a:=by
   have:(a.tmod b).natAbs<=a.natAbs:=by rw[Int.natAbs_tmod];exact Nat.mod_le _ _
   omega
  omega
 ·have c:(a.tmod b).natAbs<=a.natAbs:=by rw[Int.natAbs_tmod];exact Nat.mod_le _ _
  have j:a.tmod b<=0:=by
   have:=Int.tmod_nonneg b (show 0<=-a by omega);rw[Int.neg_tmod] at this;omega
  omega
theorem Nd {k:IntKind}{a:Int}{m:Nat}(h:(Lit.int k a).wf=true):(Lit.int k (a.fdiv (2 ^ m))).wf=true:=by
 rw[BB] at h ⊢;have f:=FR k;have j:=FT k;have b:(0:Int)<2 ^ m:=Int.pow_pos (by omega);rw[Int.fdiv_eq_ediv_of_nonneg _ (by omega)]
 by_cases c:0<=a
 ·have d:=Int.ediv_nonneg c (Int.le_of_lt b);have e:=Int.ediv_le_self (2 ^ m) c;omega
 ·have d:a / 2 ^ m<0:=Int.ediv_neg_of_neg_of_pos (by omega) b;have e:a<=a / 2 ^ m:=by
   have:a*1<=a / 2 ^ m:=by
    apply Int.le_ediv_of_mul_le b;rw[Int.mul_one];have:a*2 ^ m<=a*1:=Int.mul_le_mul_of_nonpos_left (by omega) (by omega);omega
   omega
  omega
theorem HL {op:BinOp}{k:IntKind}{a b:Int}{K K':Value->Prop}(d:(Lit.int k a).wf=true) (h:binI op k a b K) (c:∀v,okB v->K v->K' v):binI op k a b K':=by
 cases op<;>simp only[binI] at h ⊢<;>first
  | exact h.elim
  | exact⟨c _ (wf_wrap _ _) h.out⟩
  | exact⟨h.ne,⟨c _ (wf_wrap _ _) h.out.out⟩⟩
  | exact⟨h.ne,c _ (Nc d) h.out⟩
  | exact c _ (wf_wrap _ _) h
  | exact c _ trivial h
theorem JQ {op:BinOp}{k:IntKind}{a b:Int}{K K':Value->Prop}(d:(Lit.int k a).wf=true) (h:shI op k a b K) (c:∀v,okB v->K v->K' v):shI op k a b K':=by
 cases op<;>simp only[shI] at h ⊢<;>first
  | exact h.elim
  | exact⟨h.1,⟨c _ (wf_wrap _ _) h.2.out⟩⟩
  | exact⟨h.1,c _ (Nd d) h.2⟩
theorem HM {op:BinOp}{a b:ByteArray}{K K':Value->Prop}(h:binS op a b K) (c:∀v,okB v->K v->K' v):binS op a b K':=by
 cases op<;>simp only[binS] at h ⊢<;>first
  | exact h.elim
  | exact c _ trivial h
  | exact⟨h.1,c _ (by
    have d:=h.1;simp[IntKind.max,IntKind.bits,IntKind.signed] at d;show(a++b).size<=maxLen;rw[ByteArray.size_append];simp only[maxLen];omega) h.2⟩
theorem BD (v:Value):Rel F L (sG v) v:=by
 unfold sG;split
 ·split
  ·rename_i h;simp only[Rel];exact⟨trivial,h⟩
  ·simp only[Rel]
 ·simp only[Rel]
 ·split
  ·rename_i h;simp only[Rel];exact⟨trivial,aa1 h⟩
  ·simp only[Rel]
 ·simp only[Rel]
 ·simp only[Rel]
 ·simp only[Rel]
 ·simp only[Rel];exact Bd
 ·simp only[Rel]
 ·simp only[Rel]
theorem lI:∀vs:List Value,aF F L (vs.map sG) vs
 | []=>by simp only[abI,aF]
 | v::vs=>by simp only[aaS,aF];exact⟨v,vs,rfl,BD v,lI vs⟩
theorem Tv (v:Value):aQ F L (sG v) (.v v):=by
 have h:=BD (F:=F) (L:=L) v
 revert h
 unfold sG;split
 ·split
  ·exact fun h=>⟨_,rfl,h⟩
  ·exact fun h=>trivial
 ·exact fun h=>⟨_,rfl,h⟩
 ·split
  ·exact fun h=>⟨_,rfl,h⟩
  ·exact fun h=>trivial
 ·exact fun h=>⟨_,rfl,h⟩
 ·exact fun h=>⟨_,rfl,h⟩
 ·exact fun h=>⟨_,rfl,h⟩
 ·exact fun h=>⟨_,rfl,h⟩
 ·exact fun h=>⟨_,rfl,h⟩
 ·exact fun h=>trivial
theorem Rs (v:Value):aQ F L (cv v) (.v v):=by
 unfold cv;split
 ·rename_i cs;exact⟨_,rfl,by simp only[Rel];exact⟨cs.toList,by simp,lI _⟩⟩
 ·exact Tv v
theorem dD (h:∀j,aQ F L (τ j) (ρ j)) (x:X):aQ F L (cm τ x) (ev ρ x):=by
 cases x with
 | t n=>exact h n
 | c v=>exact Rs v
 | fn f=>exact⟨_,rfl,by simp only[cm,Rel];exact⟨[],[],by simp,by simp only[aF],by simp only[aF]⟩⟩
 | mt nm n =>
  have a:=h n;simp only[cm,ev,YO];split
  ·rename_i t c e;rw[e] at a;simp only[aQ] at a ⊢;obtain⟨v,b,d⟩:=a;rw[b];refine⟨_,rfl,?_⟩;simp only[Rel] at d ⊢;exact⟨v,rfl,d⟩
  ·rename_i t k off e;rw[e] at a;simp only[aQ,Rel] at a ⊢;obtain⟨v,b,g,m,cs,l,rfl⟩:=a;rw[b];exact⟨_,rfl,g,m,cs,l,rfl⟩
  ·simp only[aQ]
theorem eO {x:X}{k:IntKind}{n:Int}(h:∀j,aQ F L (τ j) (ρ j)) (e:cm τ x=.int k n):ev ρ x=.v (.int k n)/\(Lit.int k n).wf=true:=by
 have:=dD h x;rw[e] at this;simp only[aQ,Rel] at this;obtain⟨v,a,rfl,b⟩:=this;exact⟨a,b⟩
theorem iJ {x:X}{b:Bool}(h:∀j,aQ F L (τ j) (ρ j)) (e:cm τ x=.bool b):ev ρ x=.v (.bool b):=by
 have:=dD h x;rw[e] at this;simp only[aQ,Rel] at this;obtain⟨v,a,rfl⟩:=this;exact a
theorem jY {x:X}{s:ByteArray}(h:∀j,aQ F L (τ j) (ρ j)) (e:cm τ x=.str s):ev ρ x=.v (.string s)/\s.size<=maxLen:=by
 have:=dD h x;rw[e] at this;simp only[aQ,Rel] at this;obtain⟨v,a,rfl,b⟩:=this;exact⟨a,b⟩
theorem Rt {x:X}{els:List (List C)}(h:∀j,aQ F L (τ j) (ρ j)) (e:cm τ x=.sl els) :
  ∃a c sz,ev ρ x=.v (.slice a els.length c)/\els.length<=c/\els.length<=maxLen/\(a=none->els=[]/\c=0)/\gC F a sz 0 els:=by
 have:=dD h x;rw[e] at this;simp only[aQ,Rel] at this;obtain⟨v,b,a,c,rfl,d,k,f,sz,l⟩:=this;exact⟨a,c,sz,b,d,k,f,l⟩
theorem o8 {x:X}(h:∀j,aQ F L (τ j) (ρ j)) (e:cm τ x=.nils):ev ρ x=.v (.slice none 0 0):=by
 have:=dD h x;rw[e] at this;simp only[aQ,Rel] at this;obtain⟨v,a,rfl⟩:=this;exact a
theorem tu {x:X}{k:Nat}(h:∀j,aQ F L (τ j) (ρ j)) (e:cm τ x=.rw k):∃a c t sz n xs,ev ρ x=.v (.slice a n c)/\L.get k=some (.row (.slice a n c) t sz n xs):=by
 have:=dD h x;rw[e] at this;simp only[aQ,Rel] at this;obtain⟨v,b,a,c,t,sz,n,xs,rfl,d⟩:=this;exact⟨a,c,t,sz,n,xs,b,d⟩
theorem eX {x:X}{k off:Nat}(h:∀j,aQ F L (τ j) (ρ j)) (e:cm τ x=.own k off):ev ρ x=.own k off/\∃g t cs,L.get k=some (.box g t cs):=by
 have:=dD h x;rw[e] at this;simp only[aQ] at this;exact this
theorem nA {x:X}{k off:Nat}(h:∀j,aQ F L (τ j) (ρ j)) (e:cm τ x=.ownv k off):∃g t cs,L.get k=some (.box g t cs)/\Vf (ev ρ x) (.pointer (some ⟨g,off,none⟩)):=by
 have:=dD h x;rw[e] at this;simp only[aQ,Rel] at this;obtain⟨v,a,g,t,cs,b,rfl⟩:=this;exact⟨g,t,cs,b,a⟩
theorem tv {x:X}{f:Nat}{fi ca:List C}(h:∀j,aQ F L (τ j) (ρ j)) (e:cm τ x=.fn f fi ca):∃b a,ev ρ x=.v (.func (.func f) b.toArray a.toArray)/\aF F L fi b/\aF F L ca a:=by
 have:=dD h x;rw[e] at this;simp only[aQ,Rel] at this;obtain⟨v,c,b,a,rfl,d,k⟩:=this;exact⟨b,a,c,d,k⟩
theorem wO {x:X}{cs:List C}(h:∀j,aQ F L (τ j) (ρ j)) (e:cm τ x=.agg cs):∃vs,ev ρ x=.v (.agg vs.toArray)/\aF F L cs vs:=by
 have:=dD h x;rw[e] at this;simp only[aQ,Rel] at this;obtain⟨v,a,vs,rfl,b⟩:=this;exact⟨vs,a,b⟩
theorem Nf {x:X}{cs:List C}(h:∀j,aQ F L (τ j) (ρ j)) (e:cm τ x=.tup cs):∃vs,ev ρ x=.v (.tuple vs.toArray)/\aF F L cs vs:=by
 have:=dD h x;rw[e] at this;simp only[aQ,Rel] at this;obtain⟨v,a,vs,rfl,b⟩:=this;exact⟨vs,a,b⟩
theorem JR {x:X}(h:∀j,aQ F L (τ j) (ρ j)) (e:cm τ x=.nilp):ev ρ x=.v (.pointer none):=by
 have:=dD h x;rw[e] at this;simp only[aQ,Rel] at this;obtain⟨v,a,rfl⟩:=this;exact a
theorem JS {x:X}(h:∀j,aQ F L (τ j) (ρ j)) (e:cm τ x=.nilf):ev ρ x=.v .nilFunc:=by
 have:=dD h x;rw[e] at this;simp only[aQ,Rel] at this;obtain⟨v,a,rfl⟩:=this;exact a
theorem BF {x:X}{t:TypeId}{c:C}(h:∀j,aQ F L (τ j) (ρ j)) (e:cm τ x=.ifc t c):∃u,ev ρ x=.v (.iface t u)/\Rel F [] c u:=by
 have:=dD h x;rw[e] at this;simp only[aQ,Rel] at this;obtain⟨v,a,u,rfl,b⟩:=this;exact⟨u,a,b⟩
theorem pT {x:X}{m:Option String}{t:TypeId}{k off:Nat}(h:∀j,aQ F L (τ j) (ρ j)) (e:cm τ x=.ifo m t k off):∃g a cs,L.get k=some (.box g a cs)/\ev ρ x=.v (C4 m t (.pointer (some ⟨g,off,none⟩))):=by
 have:=dD h x;rw[e] at this;simp only[aQ,Rel] at this;obtain⟨v,b,g,a,cs,c,rfl⟩:=this;exact⟨g,a,cs,c,b⟩
theorem BG {x:X}{k:Nat}(h:∀j,aQ F L (τ j) (ρ j)) (e:cm τ x=.opq k):∃v,ev ρ x=.v v/\jK k F v:=by
 have:=dD h x;rw[e] at this;simp only[aQ,Rel] at this;exact this
theorem yc {x:X}{nm:String}{c:C}(h:∀j,aQ F L (τ j) (ρ j)) (e:cm τ x=.mval nm c):∃u,ev ρ x=.v (.func (.method nm) #[u] #[])/\Rel F [] c u:=by
 have:=dD h x;rw[e] at this;simp only[aQ,Rel] at this;obtain⟨v,a,u,rfl,b⟩:=this;exact⟨u,a,b⟩
theorem Ng {x:X}{t:TypeId}{nm:String}(h:∀j,aQ F L (τ j) (ρ j)) (e:cm τ x=.mof t nm):ev ρ x=.v (.func (.methodOf t nm) #[] #[]):=by
 have:=dD h x;rw[e] at this;simp only[aQ,Rel] at this;obtain⟨v,a,rfl⟩:=this;exact a
theorem FU {x:X}{k:Nat}{a:List Nat}(h:∀j,aQ F L (τ j) (ρ j)) (e:cm τ x=.slo k a):∃g t cs b,L.get k=some (.box g t cs)/\ev ρ x=.v (.slice (some b) a.length a.length)/\a.length<=maxLen/\bU F (some b) 0 (a.map fun o=>.pointer (some ⟨g,o,none⟩)):=by
 have:=dD h x;rw[e] at this;simp only[aQ,Rel] at this;obtain⟨v,d,g,t,cs,b,c,rfl,f,l⟩:=this;exact⟨g,t,cs,b,c,d,f,l⟩
theorem Nh {x:X}{k j:Nat}{a:List Nat}(h:∀j,aQ F L (τ j) (ρ j)) (e:cm τ x=.slp k a j):∃g t cs b,L.get k=some (.box g t cs)/\ev ρ x=.el (some b) j/\bU F (some b) 0 (a.map fun o=>.pointer (some ⟨g,o,none⟩)):=by
 have:=dD h x;rw[e] at this;simpa only[aQ] using this
theorem EM {F:aD}{f:Addr}{vs:List Value}{j:Nat}{v:Value}(h:bU F (some f) 0 vs) (l:vs[j]?=some v):bU F (some f) j [v]:=by
 obtain⟨d,a,t,k,e,hb,c,m⟩:=h;refine⟨d,a,t,k,e,hb,c,fun i u b=>?_⟩;cases i with
 | zero =>
  simp only[aa0,vz] at b;subst b;have:=m j v l;simpa using this
 | succ i=>simp at b
theorem pU {x:X}{es:List C}{off:Nat}(h:∀j,aQ F L (τ j) (ρ j)) (e:cm τ x=.pt es off) :
  ∃b o j vs,(ev ρ x=.v (.pointer (some ⟨b,o,none⟩))/\j=0\/ev ρ x=.el (some ⟨b,o,none⟩) j)/\M9 F b (o+j) off vs/\dJ es=true/\aF F [] es vs:=by
 have:=dD h x;rw[e] at this;simp only[aQ] at this;exact this
theorem um {x:X}{k j off:Nat}(h:∀j,aQ F L (τ j) (ρ j)) (e:cm τ x=.elr k j off) :
  ∃a t sz n c xs,ev ρ x=.el (some a) (j*sz+off)/\L.get k=some (.row (.slice (some a) n c) t sz n xs):=by
 have:=dD h x;rw[e] at this;simp only[aQ] at this;exact this
theorem kQ (h:dc F L M) {k:Nat}{t:TypeId}{cs:List C}(e:M.get k=some (.box t cs)):∃g a vs,L.get k=some (.box g a vs)/\aF F L cs vs/\tyOk t g a:=by
 have:=h k;rw[e] at this;cases b:L.get k with
 | none=>rw[b] at this;exact this.elim
 | some o =>
  rw[b] at this;cases o with
  | row=>exact this.elim
  | box g a vs=>obtain⟨c,d⟩:=this;exact⟨g,a,vs,rfl,d,c⟩
theorem tw (h:dc F L M) {k:Nat}{t:TypeId}{pre cs post:List C}(e:M.get k=some (.win t pre cs post)):∃g b v1 a v3,L.get k=some (.box g b (v1++(a++v3)))/\aF F [] pre v1/\aF F L cs a/\aF F [] post v3/\tyOk t g b:=by
 have:=h k;rw[e] at this;cases c:L.get k with
 | none=>rw[c] at this;exact this.elim
 | some o =>
  rw[c] at this;cases o with
  | row=>exact this.elim
  | box g b vs=>obtain⟨l,v1,a,v3,rfl,f,j,d⟩:=this;exact⟨g,b,v1,a,v3,rfl,f,j,d,l⟩
theorem C8 {v1 a v3:List Value}{o n:Nat}(b:((a.drop o).take n).length=n) (c:o+n<=a.length):((v1++(a++v3)).drop (v1.length+o)).take n=(a.drop o).take n:=by
 rw[List.drop_append,List.drop_eq_nil_of_le (by omega),aa5,show v1.length+o-v1.length=o by omega,List.drop_append,List.take_append_of_le_length (by simp;omega)]
theorem kR (h:dc F L M) {k:Nat}{t:TypeId}{sz:Nat}{els:List (List C)}(e:M.get k=some (.row t sz els)) :
  ∃v xs,L.get k=some (.row v t sz els.length xs)/\(els.length<=maxLen/\∃a c,v=.slice a els.length c/\(a=none->els.length=0))/\aN F sz els xs:=by
 have:=h k;rw[e] at this;cases b:L.get k with
 | none=>rw[b] at this;exact this.elim
 | some o =>
  rw[b] at this;cases o with
  | box=>exact this.elim
  | row v l j n xs=>obtain⟨rfl,rfl,rfl,d,f⟩:=this;exact⟨v,xs,rfl,d,f⟩
theorem cj (h:dc F L M) {k:Nat}(e:M.get k=none):L.get k=none:=by
 have:=h k;rw[e] at this;cases a:L.get k with
 | none=>rfl
 | some o=>rw[a] at this;exact this.elim
theorem bC:∀{l:List C}{n:Nat},cR l n=true->l.length=n
 | [],0,_=>rfl
 | [],n+1,h=>by simp[cR] at h
 | _::l,0,h=>by simp[cR] at h
 | _::l,n+1,h=>by simp only[cR] at h;simp[bC h]
theorem dh:∀{l:List Value}{n:Nat},l.length=n->fH l n=true
 | [],0,_=>rfl
 | [],n+1,h=>by simp at h
 | _::l,0,h=>by simp at h
 | _::l,n+1,h=>by simp only[fH];exact dh (by simpa using h)
theorem jZ {c:C}{v:Value}(h:Rel F L c v):aQ F L c.slt (.v v):=by
 cases c<;>(try simp only[C.slt])<;>try exact⟨v,rfl,h⟩
 case any=>trivial
 case pt es off =>
  simp only[Rel] at h;obtain⟨b,o,vs,rfl,a,d⟩:=h;exact⟨b,o,0,vs,.inl ⟨rfl,rfl⟩,a,d⟩
 case own=>exact⟨v,.inl rfl,h⟩
 case ownv=>exact h.elim
 case elr=>trivial
 case slp=>trivial
theorem cE {agg:Bool}{cs:List C}{vs:List Value}(h:aF F L cs vs):aQ F L (Bu agg cs) (.v (gL agg vs)):=by
 cases agg with
 | true=>exact⟨_,rfl,by simp only[Bu,gL,Rel];exact⟨vs,rfl,h⟩⟩
 | false =>
  match cs,vs,h with
  | [],vs,h=>trivial
  | [c],vs,h =>
   simp only[aF] at h;obtain⟨v,b,rfl,a,rfl⟩:=h;exact jZ a
  | _::_::_,vs,h=>trivial
theorem Vf.conc {sv:SV}{v:Value}(h:Vf sv v):Fr.conc L sv=v:=by
 rcases h with rfl | ⟨b,o,j,rfl,rfl⟩
 ·rfl
 ·simp only[Fr.conc,ck]
theorem Ni {c:C}{sv:SV}(h:aQ F L c sv) (q:c.one=true\/(∃k o,c=.ownv k o)\/c=.any\/(∃k j o,c=.elr k j o)\/(∃l,c=.agg l)\/(∃l,c=.tup l)\/c=.und\/(∃k o,c=.slo k o)\/(∃k o j,c=.slp k o j)):Rel F L c.cel (conc L sv):=by
 cases c<;>simp only[C.cel]<;>simp only[aQ] at h
 case own k off =>
  obtain⟨rfl,g,t,cs,h⟩:=h;simp only[Rel,conc,h];exact⟨g,t,cs,rfl,rfl⟩
 case ownv k off =>
  obtain⟨v,m,h⟩:=h;rw[m.conc];exact h
 case pt es off =>
  obtain⟨b,o,j,vs,p,d,e,a⟩:=h;simp only[Rel];rcases p with⟨rfl,rfl⟩ | rfl
  ·exact⟨b,o,vs,rfl,d,e,a⟩
  ·exact⟨b,o+j,vs,by simp only[conc,ck],d,e,a⟩
 case elr =>
  obtain⟨f,t,sz,n,c,xs,rfl,h⟩:=h;simp only[Rel];exact⟨f,t,sz,n,c,xs,rfl,h⟩
 case slp=>simp only[Rel]
 case any=>simp only[Rel]
 all_goals
  obtain⟨v,rfl,h⟩:=h;simpa only[conc] using h
theorem lJ {c:C}{sv:SV}(h:aQ F L c sv):Rel F L c.cel (conc L sv):=by
 apply Ni h;cases c<;>simp[C.one]
theorem uo (h:∀j,aQ F L (τ j) (ρ j)) (x:X):Rel F L (cm τ x).cel (val L ρ x):=lJ (dD h x)
theorem cW (h:∀j,aQ F L (τ j) (ρ j)):∀xs:List X,aF F L (dZ τ xs) (bn L ρ xs)
 | []=>by simp only[dZ,bn,aF]
 | x::xs=>by simp only[dZ,bn,aF];exact⟨_,_,rfl,uo h x,cW h xs⟩
theorem EN {c:C}{sv:SV}(h:aQ F L c sv) (d:c.okc=true):aF F L (cg c) (aK (conc L sv)):=by
 have a:=lJ h;cases c<;>simp only[C.okc,aaX] at d<;>simp only[cg]<;>simp only[C.cel] at a ⊢
 case agg cs =>
  simp only[Rel] at a;obtain⟨vs,b,e⟩:=a;rw[b];simpa only[aK] using e
 all_goals
  simp only[aF];refine⟨_,[],?_,a,rfl⟩
  revert a
  generalize conc L sv=v;intro a;simp only[Rel] at a
  first
   | (have b:=jK.one a;cases v<;>first | rfl | (exact o4 b (by decide)) | (simp[Value.oneCell'] at b))
   | (obtain⟨rfl,_⟩:=a;rfl)
   | (subst a;rfl)
   | (obtain⟨_,rfl,_⟩:=a;rfl)
   | (obtain⟨_,_,rfl,_⟩:=a;rfl)
   | (obtain⟨_,_,_,rfl,_⟩:=a;rfl)
   | (obtain⟨_,_,_,_,_,_,rfl,_⟩:=a;rfl)
   | (obtain⟨_,_,_,_,rfl⟩:=a;rfl)
   | (obtain⟨_,_,_,_,rfl⟩:=a;unfold C4;split<;>rfl)
theorem dS (h:∀j,aQ F L (τ j) (ρ j)) {x:X}(a:(cm τ x).okc=true):aF F L (cg (cm τ x)) (aK (val L ρ x)):=EN (dD h x) a
theorem gD {cs:List C}{vs:List Value}{off:Nat}{ds:List C}{us:List Value}(h:aF F L cs vs) (k:aF F L ds us):aF F L (fu cs off ds) (aP vs off us):=by
 simp only[fu,aP];rw[<-k.len];exact((h.take off).append k).append (h.drop _)
theorem Ao (h:∀j,aQ F L (τ j) (ρ j)):∀(ps:List (Nat×Nat×X)) {zs:List C}{vs:List Value}{cs:List C},aF F L zs vs->vn τ zs ps=some cs->∃us,built L ρ vs ps=some us/\aF F L cs us
 | [],zs,vs,cs,a,hb=>by
  simp only[vn,vz] at hb;subst hb;exact⟨vs,rfl,a⟩
 | (off,n,x)::ps,zs,vs,cs,a,hb=>by
  simp only[vn] at hb;split at hb
  case h_2=>cases hb
  rename_i d e;have b:=dS h d;have c:fH (aK (val L ρ x)) n=true:=dh (by rw[b.len];exact bC e);simp only[built,c];exact Ao h ps (gD a b) hb
theorem wP (h:∀j,aQ F L (τ j) (ρ j)) {d i:Int}{x:Option X}(e:HI τ d x=some i):jI ρ d x=some i:=by
 cases x with
 | none=>exact e
 | some x =>
  simp only[HI] at e;split at e
  case h_2=>cases e
  rename_i k j a;injection e with e
  subst e;simp only[jI,(eO h a).1]
theorem JT (h:∀j,aQ F L (τ j) (ρ j)) (mx:Bool):∀(args:List X) {a m:Int},Ve mx a (args.map (cm τ))=some m->PI mx a (args.map (ev ρ))=some m
 | [],a,m,e=>e
 | x::args,a,m,e=>by
  simp only[aaS] at e ⊢;cases b:cm τ x<;>rw[b] at e<;>simp only[Ve,reduceCtorEq] at e;rw[(eO h b).1];exact JT h mx args e
theorem JU {a:Option Addr}{sz:Nat}{els:List (List C)}{c l h:Nat}(m:gC F a sz 0 els) (z:a=none->els=[]/\c=0) (hl:l<=h) (y:h<=els.length) (hc:els.length<=c) :
  gC F (if c=l then a else a.map (·.add (l*sz))) sz 0 ((els.drop l).take (h-l)):=by
 rw[m8] at m ⊢;intro j es d;rw[abm] at d;split at d
 case isFalse=>cases d
 rename_i hj;rw[abj] at d;obtain⟨vs,x,p,r,n⟩:=m _ es d;have w:l+j<els.length:=(w7.1 d).1;rw[o6 (by omega)];refine⟨vs,x,?_,r,n⟩;obtain⟨q,k,t,s,e,hb,f,u⟩:=p;subst e;obtain⟨b,o,sp⟩:=q;simp only at f;subst f;refine⟨⟨b,o+l*sz,none⟩,k,t,s,by simp only[abE,ck],hb,rfl,fun i v hi=>?_⟩;have:=u i v hi;simp only[Nat.zero_add,Nat.add_mul] at this ⊢;rw[show o+l*sz+j*sz+i=o+(l*sz+j*sz)+i by omega];exact this
theorem j4 {b o j off n:Nat}{es:List C}{vs:List Value}(l:M9 F b (o+j) off vs):bU F (some ⟨b,o,none⟩) j ((vs.drop off).take n):=by
 obtain⟨e,c,t,d,f,h,k⟩:=l;refine⟨_,c,t,d,rfl,f,rfl,fun i v a=>?_⟩;rw[abm] at a;split at a
 case isFalse=>cases a
 rw[abj] at a;have:=k _ _ a;show c[o+j+i]?=_/\pF d (o+j+i);rw[h,Nat.add_assoc];exact this
theorem eI {L':Loc}{cs:List C}{vs:List Value}(o:dP cs=true) (h:aF F L cs vs):aF F L' cs vs:=by
 have b:∀(c:C) (v:Value),c.aak=true->Rel F L c v->Rel F L' c v:=by
  intro c v d h;cases c<;>simp only[C.aak,aaX] at d<;>simp only[Rel] at h ⊢<;>exact h
 have a:∀(cs:List C) (vs:List Value),jv cs=true->aF F L cs vs->aF F L' cs vs:=by
  intro cs vs d h;rw[jU] at h ⊢;exact⟨h.1,fun i c v e j=>b c v (qP.1 d c (aaQ e)) (h.2 i c v e j)⟩
 rw[jU] at h ⊢;refine⟨h.1,fun i c v e j=>?_⟩;have d:=pQ.1 o c (aaQ e);have l:=h.2 i c v e j;cases c<;>first
  | exact b _ _ d l
  | (simp only[C.pure,C.aak,aaX] at d;done)
  | (simp only[C.pure] at d
     split at d
     case h_2=>cases d
     rename_i m;simp only[Rel] at l ⊢;obtain⟨f,k,p,n,q⟩:=l;exact⟨f,k,p,a _ _ m n,a _ _ d q⟩)
theorem vu {els:List (List C)}{v:Value}(h:Rel F L (.slx els) v):Rel F L (.sl els) v:=by
 simp only[Rel] at h ⊢;obtain⟨a,b,c,sz,d⟩:=h;exact⟨some a,els.length,b,aa7 _,c,fun e=>(by cases e),sz,d⟩
theorem uq {c:C}{v:Value}(h:Rel F L c v):Rel F L c.can v:=by
 cases c<;>first
  | exact h
  | exact vu h
  | (simp only[Rel] at h
     subst h;simp only[C.can,Rel];exact⟨none,0,by simp,by simp,by simp,fun _=>by simp,0,by simp only[gC]⟩)
theorem j5 {cs:List C}{vs:List Value}(h:aF F L cs vs):aF F L (cs.map C.can) vs:=h.map fun c _ v=>uq
theorem iK {c:C}{v:Value}(h:Rel F L c v):Rel F L c.aaj v:=by
 cases c<;>first
  | exact h
  | exact uq (c:=.nils) h
  | exact vu h
  | (simp only[Rel] at h
     obtain⟨vs,a,b⟩:=h;simp only[C.aaj,Rel];exact⟨vs,a,j5 b⟩)
theorem JV {c:C}{sv:SV}(h:aQ F L c sv):aQ F L c.can sv:=by
 cases c<;>first
  | exact h
  | (obtain⟨v,e,a⟩:=h;exact⟨v,e,vu a⟩)
  | (obtain⟨v,e,a⟩:=h;exact⟨v,e,uq (c:=.nils) a⟩)
theorem j6 {x:X}{els:List (List C)}(h:∀j,aQ F L (τ j) (ρ j)) (e:(cm τ x).can=.sl els) :
  ∃a c sz,ev ρ x=.v (.slice a els.length c)/\els.length<=c/\els.length<=maxLen/\(a=none->els=[]/\c=0)/\gC F a sz 0 els:=by
 have:=JV (dD h x);rw[e] at this;simp only[aQ,Rel] at this;obtain⟨v,b,a,c,rfl,d,k,f,sz,l⟩:=this;exact⟨a,c,sz,b,d,k,f,l⟩
theorem Nj {c:C}{k:Nat}(e:c.can=.opq k):c=.opq k:=by cases c<;>simp only[C.can,reduceCtorEq] at e<;>exact e
theorem FV {c:C}{k:Nat}{a:List Nat}(e:c.can=.slo k a):c=.slo k a:=by cases c<;>simp only[C.can,reduceCtorEq] at e<;>exact e
theorem BH {c:C}{k:Nat}(e:c.can=.rw k):c=.rw k:=by cases c<;>simp only[C.can,reduceCtorEq] at e<;>exact e
theorem BI {x:X}{els:List (List C)}(h:∀j,aQ F L (τ j) (ρ j)) (e:cm τ x=.slx els) :
  ∃a sz,ev ρ x=.v (.slice (some a) els.length els.length)/\els.length<=maxLen/\gC F (some a) sz 0 els:=by
 have:=dD h x;rw[e] at this;simp only[aQ,Rel] at this;obtain⟨v,b,a,rfl,c,sz,d⟩:=this;exact⟨a,sz,b,c,d⟩
theorem Nk {c:C}(h:c.one=true):c.can.one=true:=by cases c<;>first | exact h | rfl
theorem nB {cs:List C}(h:dJ cs=true):dJ (cs.map C.can)=true:=by
 rw[iW] at h ⊢;intro c b;obtain⟨d,a,rfl⟩:=abh.1 b;exact Nk (h d a)
theorem gq {cs:List C}{vs:List Value}(h:aF F L cs vs) (b:dJ cs=true):∀u∈vs,u.oneCell'=true:=by
 intro u d;obtain⟨i,hi⟩:=abd.1 d;have a:i<cs.length:=by rw[<-h.len];exact(w7.1 hi).1
 have c:=h.at (v7 a) hi;exact c.one (iW.1 b _ (List.getElem_mem a))
theorem kZ:∀{vs:List Value},(∀u∈vs,u.oneCell'=true)->jz vs=true
 | [],_=>rfl
 | v::vs,h=>by simp only[jz,h v (by simp)];exact kZ fun u a=>h u (by simp[a])
end
section
variable {P:Program}{G:Nat->Option (Nat×TypeId)}{F:aD}{L:Loc}{ρ:Env}{M:TL}{τ:aV}
theorem iL {k:IntKind}{n:Int}(h:(Lit.int k n).wf=true):aQ F L (.int k n) (.v (.int k n)):=⟨_,rfl,by simp only[Rel];exact⟨trivial,h⟩⟩
theorem cL {b:Bool}:aQ F L (.bool b) (.v (.bool b)):=⟨_,rfl,by simp only[Rel]⟩
theorem ur {s:ByteArray}(h:s.size<=maxLen):aQ F L (.str s) (.v (.string s)):=⟨_,rfl,by simp only[Rel];exact⟨trivial,h⟩⟩
theorem JW {es:List C}{vs:List Value}{c:Addr}{j:Nat}{a:Array Value}{t:TypeId}{e:Nat×Nat}(hb:F c.block=some (.cells a t e)) (d:c.spot=none)
  (f:∀(i:Nat) v,vs[i]?=some v->a[c.off+j+i]?=some v/\pF e (c.off+j+i)) (h:dJ es=true) (k:aF F [] es vs):aQ F L (.pt es 0) (.el (some c) j):=by
 obtain⟨b,o,l⟩:=c;simp only at d;subst d;exact⟨b,o,j,vs,.inr rfl,⟨o+j,a,t,e,hb,rfl,f⟩,h,k⟩
theorem Ap:∀{p:List UInt8}{xs:List Value},aN F 1 (af p) xs->xs=p.map fun b=>Value.int .u8 b.toNat
 | [],xs,h=>by simpa[af,aN] using h
 | b::p,xs,h=>by
  simp only[af,aaS,aN] at h;obtain⟨vs,e,rfl,f,j,a,d⟩:=h;simp only[aF,Rel] at a;obtain⟨v,c,rfl,⟨rfl,_⟩,rfl⟩:=a;rw[Ap (p:=p) d];rfl
theorem vX {a:Option Addr}{sz c:Nat}{bs:List UInt8}(l:gC F a sz 0 (af bs)) (hn:a=none->af bs=[]/\c=0) :
  (bU F a 0 (bs.map fun b=>Value.int .u8 b.toNat))\/bs.length=0:=by
 rw[m8] at l;cases hb:bs with
 | nil=>exact .inr rfl
 | cons x r =>
  refine .inl ?_;have y:=l 0 [gR x] (by simp[af,hb]);obtain⟨us,s,⟨z,k,t,fr,e,f,m,_⟩,_,h⟩:=y;have o:sz=1:=by rw[<-s,h.len];rfl
  subst o;rw[<-hb];refine⟨z,k,t,fr,e,f,m,fun i v hi=>?_⟩;simp only[abr,Option.map_eq_some_iff] at hi;obtain⟨b,n,rfl⟩:=hi;obtain⟨us,s,⟨ac,q,t',ae,j,d,p,hv⟩,_,h⟩:=l i [gR b] (by simp[af,n]);rw[e] at j;injection j with j
  subst j;rw[f] at d;injection d with d
  injection d with q1 q2 q3
  subst q1 q3;simp only[aF,Rel] at h;obtain⟨u,w,rfl,⟨rfl,_⟩,rfl⟩:=h;have:=hv 0 _ (by simp;rfl);simpa using this
theorem FW {els:List (List C)}{a:Option Addr}{c sz:Nat}(b:els.length<=c) (e:els.length<=maxLen) (f:a=none->els=[]/\c=0) (d:gC F a sz 0 els):aQ F L (.sl els) (.v (.slice a els.length c)) :=
 ⟨_,rfl,by simp only[Rel];exact⟨a,c,rfl,b,e,f,sz,d⟩⟩
set_option maxHeartbeats 1000000 in
theorem Nl:∀{ks:List Bool}{cs ds:List C}{e b:Bool}{vs us:List Value},vo ks cs ds e=some b->aF F L cs vs->aF F L ds us->jh ks vs.toArray.toList us.toArray.toList e=some b:=by
 intro ks
 induction ks with
 | nil =>
  intro cs ds e b vs us h d a;cases cs with
  | cons c cs=>simp[vo] at h
  | nil =>
   cases ds with
   | cons c cs=>simp[vo] at h
   | nil =>
    simp only[aF] at d a;subst d a;simpa[jh,vo] using h
 | cons k ks l =>
  intro cs ds e b vs us h d a;cases cs with
  | nil=>cases k<;>simp[vo] at h
  | cons c cs =>
   cases ds with
   | nil=>cases k<;>cases c<;>simp[vo] at h
   | cons n ds =>
    cases k<;>cases c<;>try (simp[vo] at h;done)
    all_goals cases n<;>try (simp[vo] at h;done)
    all_goals simp only[aF,Rel] at d a
    ·obtain⟨v,j,rfl,rfl,d⟩:=d;obtain⟨u,f,rfl,rfl,a⟩:=a;simp only[vo] at h;have:=l h d a;simp only[jh];exact this
    ·obtain⟨v,j,rfl,⟨rfl,_⟩,d⟩:=d;obtain⟨u,f,rfl,⟨rfl,_⟩,a⟩:=a;simp only[vo] at h;split at h
     case h_2=>cases h
     rename_i m;have:=l h d a;simp only[jh,m];exact this
theorem Ru (v:Value):Rel F L (cv v) v:=by
 unfold cv;split
 ·rename_i cs;simp only[Rel];exact⟨cs.toList,by simp,lI _⟩
 ·exact BD v
theorem BJ {x:X}{k:Nat}(h:∀j,aQ F L (τ j) (ρ j)) (e:cm τ x=.mpr k):∃g cs,ev ρ x=.v (.map (some g))/\L.get k=some (.box g 0 cs):=by
 have:=dD h x;rw[e] at this;simp only[aQ,Rel] at this;obtain⟨v,a,g,cs,b,rfl⟩:=this;exact⟨g,cs,a,b⟩
theorem EO (h:dc F L M) {k:Nat}{es:List (C×C)}(e:M.get k=some (.map es)):∃g vs,L.get k=some (.box g 0 vs)/\jw F es vs:=by
 have:=h k;rw[e] at this;cases a:L.get k with
 | none=>rw[a] at this;exact this.elim
 | some o =>
  rw[a] at this;cases o with
  | row=>exact this.elim
  | box g c vs=>obtain⟨rfl,b⟩:=this;exact⟨g,vs,rfl,b⟩
theorem jw.isMap {es:List (C×C)}{vs:List Value}(h:jw F es vs):nO vs=true:=by
 cases es with
 | nil=>simp only[jw] at h;subst h;rfl
 | cons p l =>
  obtain⟨k,c⟩:=p;simp only[jw] at h;obtain⟨kv,v,a,rfl,_⟩:=h;rfl
theorem jw.len:∀{es:List (C×C)}{vs:List Value},jw F es vs->vs.length=es.length
 | [],vs,h=>by simp only[jw] at h;subst h;rfl
 | (k,c)::l,vs,h=>by
  simp only[jw] at h;obtain⟨kv,v,a,rfl,_,_,h⟩:=h;simp[jw.len h]
theorem qR {str:Bool}{a b:C}{u v:Value}{r:Bool}{L':Loc}(h:m7 str a b=some r) (c:Rel F L a u) (hb:Rel F L' b v):fS str u v=some r:=by
 unfold m7 at h;split at h
 ·simp only[Rel] at c hb;rw[c.1,hb.1];exact h
 ·simp only[Rel] at c hb;rw[c.1,hb.1];exact h
 ·cases h
theorem yd {str:Bool}{key:C}{kv:Value}(d:∀b v r,m7 str key b=some r->Rel F [] b v->fS str kv v=some r):∀{es:List (C×C)}{vs:List Value}{o:Option C}(i:Nat),jw F es vs->Ak str key es=some o ->
  match o with | some c=>∃j v,mT str kv vs i=some (some (j,v))/\Rel F [] c v | none=>mT str kv vs i=some none
 | [],vs,o,i,h,e=>by
  simp only[jw] at h;subst h;simp only[Ak,vz] at e;subst e;rfl
 | (k,c)::l,vs,o,i,h,e=>by
  simp only[jw] at h;obtain⟨u,v,n,rfl,f,m,p⟩:=h;simp only[Ak] at e;split at e
  ·rename_i a;injection e with e
   subst e;exact⟨i,v,by simp only[mT,d _ _ _ a f],m⟩
  ·rename_i a;have:=yd d (i+1) p e;simp only[mT,d _ _ _ a f];exact this
  ·cases e
theorem Aq {c:C}{v:Value}{b:Bool}(h:Rel F L c v):aQ F L (.tup [c,.bool b]) (.v (.tuple #[v,.bool b])) :=
 ⟨_,rfl,by simp only[Rel,aF];exact⟨[v,.bool b],rfl,v,_,rfl,h,_,[],rfl,rfl,rfl⟩⟩
theorem FX (h:∀j,aQ F L (τ j) (ρ j)) {str:Bool}{x:X}:∀b v r,m7 str (cm τ x) b=some r->Rel F [] b v->fS str (val L ρ x) v=some r:=by
 intro b v r a hb;refine qR (F:=F) (L:=L) a ?_ hb;have:=uo h x
 revert this
 cases c:cm τ x<;>rw[c] at a<;>cases str<;>simp only[m7,reduceCtorEq] at a<;>simp only[C.cel]<;>exact fun h=>h
theorem Vy {o:eH}{V:C->Prop}(ht:TS G F L ρ M τ) (h:outT o M τ V):aL o F L ρ (fun sv=>∃c,aQ F L c sv/\V c):=by
 have he:=ht.env;cases o<;>simp only[outT] at h<;>simp only[aL]
 case mov x=>exact⟨_,dD he x,h⟩
 case pick c a b =>
  split at h
  case h_2=>exact h.elim
  rename_i t hc;rw[iJ he hc];cases t
  ·exact⟨_,dD he b,h⟩
  ·exact⟨_,dD he a,h⟩
 case build zs ps =>
  rw[eL] at h;obtain⟨cs,hc,h⟩:=vp h;obtain⟨us,h1,h2⟩:=Ao he ps (lI zs) hc;rw[h1];exact⟨.agg cs,⟨_,rfl,by simp only[Rel];exact⟨us,rfl,h2⟩⟩,h⟩
 case load agg n x =>
  split at h
  ·rename_i k off w;obtain⟨d,_⟩:=eX he w;rw[d];split at h
   case h_3=>exact h.elim
   case h_2 =>
    rename_i t pre cs post hk;obtain⟨g,ty,v1,v2,v3,hL,be,hr,cz,an⟩:=tw ht.tl hk;rcases h with⟨o,rfl,h⟩ | ⟨us,e,hl,h⟩
    case inr =>
     have p:=((be.lift (L:=L)).drop off).take n;rw[e] at p;have aa:((v1.drop off).take n).length=n:=by rw[p.len];exact bC hl
     have hp:(((v1++(v2++v3)).drop off).take n)=(v1.drop off).take n:=by
      by_cases bj:n=0
      ·subst bj;simp
      have:off+n<=v1.length:=by simp at aa;omega
      rw[List.drop_append_of_le_length (by omega),List.take_append_of_le_length (by simp;omega)]
     simp only[hL];rw[hp,fU an.2.2 (dh aa)];exact⟨_,cE p,h⟩
    split at h
    case h_2=>exact h.elim
    rename_i hl;have p:=(hr.drop o).take n;have aa:((v2.drop o).take n).length=n:=by rw[p.len];exact bC hl
    simp only[hL]
    by_cases bj:n=0
    ·subst bj;rw[fU an.2.2 (dh (by simp))];simp only[List.take_zero] at h p ⊢;exact⟨_,cE p,h⟩
    have hn:o+n<=v2.length:=by simp at aa;omega
    have hp:=C8 (v1:=v1) (v3:=v3) aa hn;rw[<-be.len,hp,fU an.2.2 (dh aa)];exact⟨_,cE p,h⟩
   rename_i t cs hk;obtain⟨g,ty,vs,hL,hr,an⟩:=kQ ht.tl hk;split at h
   case h_2=>exact h.elim
   rename_i hl;have p:=(hr.drop off).take n;simp only[hL];rw[fU an.2.2 (dh (by rw[p.len];exact bC hl))];exact⟨_,cE p,h⟩
  ·rename_i es off w;split at h
   case h_2=>exact h.elim
   rename_i hl;obtain⟨b,o,j,vs,d,hp,ho,hr⟩:=pU he w;have p:aF F L ((es.drop off).take n) ((vs.drop off).take n):=((hr.drop off).take n).lift;rcases d with⟨d,rfl⟩ | d
   ·rw[d];exact⟨_,by rw[p.len];exact bC hl,.inl (j4 (es:=es) hp),_,cE p,h⟩
   ·rw[d];exact⟨_,by rw[p.len];exact bC hl,.inl (j4 (es:=es) hp),_,cE p,h⟩
  ·rename_i k off w;split at h
   case h_3=>exact h.elim
   case h_2 =>
    rename_i t pre cs post hk;obtain⟨g',ty',da,d,bk⟩:=nA he w;obtain⟨g,ty,v1,v2,v3,hL,be,hr,cz,an⟩:=tw ht.tl hk;rw[hL] at d;injection d with d
    injection d with q1 q2 q3
    subst q1 q2 q3;rcases h with⟨o,rfl,h⟩ | ⟨us,e,hl,h⟩
    case inr =>
     have p:=((be.lift (L:=L)).drop off).take n;rw[e] at p;have aa:((v1.drop off).take n).length=n:=by rw[p.len];exact bC hl
     have az:∀(i:Nat) (u:Value),((v1.drop off).take n)[i]?=some u->(v1++(v2++v3))[off+i]?=some u:=by
      intro i u hu;rw[abm] at hu;split at hu
      case isFalse=>cases hu
      rw[abj] at hu;rw[aaW (w7.1 hu).1];exact hu
     rcases bk with e2 | ⟨b,q,j,e2,e3⟩
     ·rw[e2];exact⟨_,aa,.inr (.inr (.inr ⟨k,g,ty,_,_,hL,an.2.2,rfl,fun i u hu=>by rw[Nat.add_zero];exact az i u hu⟩)),_,cE p,h⟩
     ·injection e3 with e3
      injection e3 with e3
      injection e3 with q1 q2 q3
      subst q1;rw[e2];exact⟨_,aa,.inr (.inr (.inr ⟨k,g,ty,_,q,hL,an.2.2,rfl,fun i u hu=>by rw[<-q2];exact az i u hu⟩)),_,cE p,h⟩
    split at h
    case h_2=>exact h.elim
    rename_i hl;have p:=(hr.drop o).take n;have aa:((v2.drop o).take n).length=n:=by rw[p.len];exact bC hl
    have az:∀(i:Nat) (u:Value),((v2.drop o).take n)[i]?=some u->(v1++(v2++v3))[pre.length+o+i]?=some u:=by
     intro i u hu;rw[abm] at hu;split at hu
     case isFalse=>cases hu
     rw[abj] at hu;have bv:=(w7.1 hu).1;rw[<-be.len,aa2 (by omega),show v1.length+o+i-v1.length=o+i by omega,aaW bv];exact hu
    rcases bk with e2 | ⟨b,q,j,e2,e3⟩
    ·rw[e2];exact⟨_,aa,.inr (.inr (.inr ⟨k,g,ty,_,_,hL,an.2.2,rfl,fun i u hu=>by rw[Nat.add_zero];exact az i u hu⟩)),_,cE p,h⟩
    ·injection e3 with e3
     injection e3 with e3
     injection e3 with q1 q2 q3
     subst q1;rw[e2];exact⟨_,aa,.inr (.inr (.inr ⟨k,g,ty,_,q,hL,an.2.2,rfl,fun i u hu=>by rw[<-q2];exact az i u hu⟩)),_,cE p,h⟩
   rename_i t cs hk;obtain⟨g',ty',da,d,bk⟩:=nA he w;obtain⟨g,ty,vs,hL,hr,an⟩:=kQ ht.tl hk;rw[hL] at d;injection d with d
   injection d with q1 q2 q3
   subst q1 q2 q3;split at h
   case h_2=>exact h.elim
   rename_i hl;have p:=(hr.drop off).take n;have aa:((vs.drop off).take n).length=n:=by rw[p.len];exact bC hl
   have az:∀(i:Nat) (u:Value),((vs.drop off).take n)[i]?=some u->vs[off+i]?=some u:=by
    intro i u hu;rw[abm] at hu;split at hu
    case isFalse=>cases hu
    rwa [abj] at hu
   rcases bk with e2 | ⟨b,o,j,e2,e3⟩
   ·rw[e2];exact⟨_,aa,.inr (.inr (.inr ⟨k,g,ty,vs,off,hL,an.2.2,rfl,fun i u hu=>by rw[Nat.add_zero];exact az i u hu⟩)),_,cE p,h⟩
   ·injection e3 with e3
    injection e3 with e3
    injection e3 with q1 q2 q3
    subst q1 q2;rw[e2];exact⟨_,aa,.inr (.inr (.inr ⟨k,g,ty,vs,o,hL,an.2.2,rfl,fun i u hu=>az i u hu⟩)),_,cE p,h⟩
  ·rename_i k j off w;split at h
   case h_2=>exact h.elim
   rename_i t sz els hk;obtain⟨es,h1,h2,h3⟩:=h;obtain⟨ad,t',aE,m,c,cd,d,e2⟩:=um he w;obtain⟨v,xs,e3,_,hr⟩:=kR ht.tl hk;rw[e2] at e3;injection e3 with e3
   injection e3 with q1 q2 q3 q4 q5
   subst q2 q3 q5;obtain⟨vs,k1,k2,k3,k4⟩:=hr.at h1;have p:aF F L ((es.drop off).take n) ((vs.drop off).take n):=((k3.drop off).take n).lift;rw[d];refine⟨_,by rw[p.len];exact bC h2,.inr (.inl ⟨k,_,_,_,_,_,ad,c,e2,rfl,rfl,fun i u hu=>?_⟩),_,cE p,h3⟩;rw[abm] at hu;split at hu
   case isFalse=>cases hu
   rw[abj] at hu;rw[Nat.add_assoc];exact k4 _ _ hu
  ·rename_i k bu j w;split at h
   case h_2=>exact h.elim
   rename_i hn;obtain rfl:=vv hn;obtain⟨o,h1,h2⟩:=h;obtain⟨g,t,cs,ad,d,e2,e3⟩:=Nh he w;rw[e2];exact⟨_,rfl,.inl (EM e3 (v:=.pointer (some ⟨g,o,none⟩)) (by rw[abr,h1];rfl)),.ownv k o,⟨_,.inl rfl,by simp only[Rel];exact⟨g,t,cs,d,rfl⟩⟩,h2⟩
  ·exact h.elim
 case loadR agg n x =>
  split at h
  ·rename_i k off w;obtain⟨d,_⟩:=eX he w;rw[d];split at h
   case h_2=>exact h.elim
   rename_i t cs hk;obtain⟨g,ty,vs,hL,hr,an⟩:=kQ ht.tl hk;split at h
   case h_2=>exact h.elim
   rename_i hl;have p:=(hr.drop off).take n;simp only[hL];rw[fU an.2.2 (dh (by rw[p.len];exact bC hl))];exact⟨_,cE p,h⟩
  ·rename_i es off w;split at h
   case h_2=>exact h.elim
   rename_i hl;obtain⟨b,o,j,vs,d,hp,ho,hr⟩:=pU he w;have p:aF F L ((es.drop off).take n) ((vs.drop off).take n):=((hr.drop off).take n).lift;rcases d with⟨d,rfl⟩ | d
   ·rw[d];exact⟨_,by rw[p.len];exact bC hl,.inl (j4 (es:=es) hp),_,cE p,h⟩
   ·rw[d];exact⟨_,by rw[p.len];exact bC hl,.inl (j4 (es:=es) hp),_,cE p,h⟩
  ·rename_i k off w;split at h
   case h_2=>exact h.elim
   rename_i t cs hk;obtain⟨g',ty',da,d,bk⟩:=nA he w;obtain⟨g,ty,vs,hL,hr,an⟩:=kQ ht.tl hk;rw[hL] at d;injection d with d
   injection d with q1 q2 q3
   subst q1 q2 q3;split at h
   case h_2=>exact h.elim
   rename_i hl;have p:=(hr.drop off).take n;have aa:((vs.drop off).take n).length=n:=by rw[p.len];exact bC hl
   have az:∀(i:Nat) (u:Value),((vs.drop off).take n)[i]?=some u->vs[off+i]?=some u:=by
    intro i u hu;rw[abm] at hu;split at hu
    case isFalse=>cases hu
    rwa [abj] at hu
   rcases bk with e2 | ⟨b,o,j,e2,e3⟩
   ·rw[e2];exact⟨_,aa,.inr (.inr (.inr ⟨k,g,ty,vs,off,hL,an.2.2,rfl,fun i u hu=>by rw[Nat.add_zero];exact az i u hu⟩)),_,cE p,h⟩
   ·injection e3 with e3
    injection e3 with e3
    injection e3 with q1 q2 q3
    subst q1 q2;rw[e2];exact⟨_,aa,.inr (.inr (.inr ⟨k,g,ty,vs,o,hL,an.2.2,rfl,fun i u hu=>az i u hu⟩)),_,cE p,h⟩
  ·rename_i k j off w;split at h
   case h_2=>exact h.elim
   rename_i t sz els hk;obtain⟨es,h1,h2,h3⟩:=h;obtain⟨ad,t',aE,m,c,cd,d,e2⟩:=um he w;obtain⟨v,xs,e3,_,hr⟩:=kR ht.tl hk;rw[e2] at e3;injection e3 with e3
   injection e3 with q1 q2 q3 q4 q5
   subst q2 q3 q5;obtain⟨vs,k1,k2,k3,k4⟩:=hr.at h1;have p:aF F L ((es.drop off).take n) ((vs.drop off).take n):=((k3.drop off).take n).lift;rw[d];refine⟨_,by rw[p.len];exact bC h2,.inr (.inl ⟨k,_,_,_,_,_,ad,c,e2,rfl,rfl,fun i u hu=>?_⟩),_,cE p,h3⟩;rw[abm] at hu;split at hu
   case isFalse=>cases hu
   rw[abj] at hu;rw[Nat.add_assoc];exact k4 _ _ hu
  ·exact h.elim
 case loadD agg n x =>
  split at h
  ·rename_i k off w;obtain⟨d,_⟩:=eX he w;rw[d];split at h
   case h_3=>exact h.elim
   case h_2 =>
    rename_i t pre cs post hk;obtain⟨g,ty,v1,v2,v3,hL,be,hr,cz,an⟩:=tw ht.tl hk;rcases h with⟨o,rfl,h⟩ | ⟨us,e,hl,h⟩
    case inr =>
     have p:=((be.lift (L:=L)).drop off).take n;rw[e] at p;have aa:((v1.drop off).take n).length=n:=by rw[p.len];exact bC hl
     have hp:(((v1++(v2++v3)).drop off).take n)=(v1.drop off).take n:=by
      by_cases bj:n=0
      ·subst bj;simp
      have:off+n<=v1.length:=by simp at aa;omega
      rw[List.drop_append_of_le_length (by omega),List.take_append_of_le_length (by simp;omega)]
     simp only[hL];rw[hp,fU an.2.2 (dh aa)];exact⟨_,cE p,h⟩
    split at h
    case h_2=>exact h.elim
    rename_i hl;have p:=(hr.drop o).take n;have aa:((v2.drop o).take n).length=n:=by rw[p.len];exact bC hl
    simp only[hL]
    by_cases bj:n=0
    ·subst bj;rw[fU an.2.2 (dh (by simp))];simp only[List.take_zero] at h p ⊢;exact⟨_,cE p,h⟩
    have hn:o+n<=v2.length:=by simp at aa;omega
    have hp:=C8 (v1:=v1) (v3:=v3) aa hn;rw[<-be.len,hp,fU an.2.2 (dh aa)];exact⟨_,cE p,h⟩
   rename_i t cs hk;obtain⟨g,ty,vs,hL,hr,an⟩:=kQ ht.tl hk;split at h
   case h_2=>exact h.elim
   rename_i hl;have p:=(hr.drop off).take n;simp only[hL];rw[fU an.2.2 (dh (by rw[p.len];exact bC hl))];exact⟨_,cE p,h⟩
  ·rename_i es off w;split at h
   case h_2=>exact h.elim
   rename_i hl;obtain⟨b,o,j,vs,d,hp,ho,hr⟩:=pU he w;have p:aF F L ((es.drop off).take n) ((vs.drop off).take n):=((hr.drop off).take n).lift;rcases d with⟨d,rfl⟩ | d
   ·rw[d];exact⟨_,by rw[p.len];exact bC hl,.inl (j4 (es:=es) hp),_,cE p,h⟩
   ·rw[d];exact⟨_,by rw[p.len];exact bC hl,.inl (j4 (es:=es) hp),_,cE p,h⟩
  ·exact h.elim
 case gload g =>
  split at h
  case h_2=>exact h.elim
  rename_i k hg;obtain⟨v,t,fr,h1,h2⟩:=IY ht.glob hg;exact⟨v,t,fr,h1,.opq k,⟨_,rfl,by simp only[Rel];exact h2⟩,h⟩
 case loadF agg n x =>
  split at h
  ·rename_i es off w;split at h
   case h_2=>exact h.elim
   rename_i hl;obtain⟨b,o,j,vs,d,hp,ho,hr⟩:=pU he w;have p:aF F L ((es.drop off).take n) ((vs.drop off).take n):=((hr.drop off).take n).lift;rcases d with⟨d,rfl⟩ | d
   ·rw[d];exact⟨_,by rw[p.len];exact bC hl,.inl (j4 (es:=es) hp),_,cE p,h⟩
   ·rw[d];exact⟨_,by rw[p.len];exact bC hl,.inl (j4 (es:=es) hp),_,cE p,h⟩
  ·exact h.elim
 case loadK key agg n x =>
  split at h
  ·rename_i k off w;obtain⟨d,_⟩:=eX he w;rw[d];split at h
   case h_2=>exact h.elim
   rename_i hb;simp only[hb];split at h
   case h_2=>exact h.elim
   rename_i t cs hk;obtain⟨g,ty,vs,hL,hr,an⟩:=kQ ht.tl hk;split at h
   case h_2=>exact h.elim
   rename_i hl;have p:=(hr.drop off).take n;simp only[hL];rw[fU an.2.2 (dh (by rw[p.len];exact bC hl))];exact⟨_,cE p,h⟩
  ·exact h.elim
 case b2sD x =>
  split at h
  ·rename_i els w;obtain⟨bs,rfl,h⟩:=h;obtain⟨a,c,sz,d,e2,e3,e4,e5⟩:=j6 he w;rw[d];have aa:(af bs).length=bs.length:=by simp[af]
   refine⟨bs.map fun b=>Value.int .u8 b.toNat,by simp[aa],?_,bs,rfl,_,ur ?_,h⟩
   ·rcases vX e5 e4 with h1 | h1
    ·exact .inl h1
    ·exact .inr (by rw[aa];exact h1)
   ·rw[aa] at e2;show bs.toArray.size<=maxLen;simp;exact(by simpa[af] using e3)
  ·exact h.elim
 case b2sR x =>
  split at h
  case h_2=>exact h.elim
  rename_i k w;split at h
  case h_2=>exact h.elim
  rename_i t sz els hk;split at h
  case h_2=>exact h.elim
  rename_i bx;have:=vv bx;subst this;obtain⟨bs,rfl,h⟩:=h;obtain⟨a,c,t',aE,n,cd,d,e2⟩:=tu he w;obtain⟨v,xs,e3,⟨hm,a',c',q6,q7⟩,hr⟩:=kR ht.tl hk;have aa:(af bs).length=bs.length:=by simp[af]
  rw[e2] at e3;injection e3 with e3
  injection e3 with q1 q2 q3 q4 q5
  subst q2 q3 q4 q5;have w:=Ap hr;subst w;rw[<-q1] at q6;injection q6 with q6 q8
  subst q6;rw[d];refine⟨k,_,c,bs,e2,aa.symm,q7,_,ur ?_,h⟩;show bs.toArray.size<=maxLen;simp;omega
 case mkif t x =>
  split at h
  ·rename_i k n w;obtain⟨d,e2⟩:=eO he w;rw[d];exact⟨.ifc t (.int k n),⟨_,rfl,by simp only[Rel];exact⟨_,rfl,rfl,e2⟩⟩,h⟩
  ·rename_i b w;rw[iJ he w];exact⟨.ifc t (.bool b),⟨_,rfl,by simp only[Rel];exact⟨_,rfl,rfl⟩⟩,h⟩
  ·rename_i s w;obtain⟨d,e2⟩:=jY he w;rw[d];exact⟨.ifc t (.str s),⟨_,rfl,by simp only[Rel];exact⟨_,rfl,rfl,e2⟩⟩,h⟩
  ·rename_i es off w;obtain⟨b,o,j,vs,d,hp,ho,hr⟩:=pU he w;rcases d with⟨d,rfl⟩ | d
   ·rw[d];exact⟨.ifc t (.pt es off),⟨_,rfl,by simp only[Rel];exact⟨_,rfl,b,o,vs,rfl,hp,ho,hr⟩⟩,h⟩
   ·rw[d];exact⟨.ifc t (.pt es off),⟨_,rfl,by simp only[Rel];exact⟨_,rfl,b,o+j,vs,by rw[ck],hp,ho,hr⟩⟩,h⟩
  ·rename_i k off w;obtain⟨d,g,t',cs,e2⟩:=eX he w;rw[d];simp only[e2];exact⟨.ifo none t k off,⟨_,rfl,by simp only[Rel];exact⟨g,t',cs,e2,rfl⟩⟩,h⟩
  ·rename_i k off w;obtain⟨g,t',cs,d,e2⟩:=nA he w;rcases e2 with e2 | ⟨b,o,j,e2,e3⟩
   ·rw[e2];exact⟨.ifo none t k off,⟨_,rfl,by simp only[Rel];exact⟨g,t',cs,d,rfl⟩⟩,h⟩
   ·rw[e2];exact⟨.ifo none t k off,⟨_,rfl,by simp only[Rel];exact⟨g,t',cs,d,by rw[ck,e3];rfl⟩⟩,h⟩
  ·rename_i cs w;split at h
   case h_2=>exact h.elim
   rename_i hp;rw[eL] at h;obtain⟨vs,d,e2⟩:=wO he w;rw[d];exact⟨.ifc t (.agg cs),⟨_,rfl,by simp only[Rel];exact⟨_,rfl,vs,rfl,eI hp e2⟩⟩,h⟩
  ·exact h.elim
 case mkmv nm x =>
  split at h
  ·rename_i t c w;obtain⟨u,d,hr⟩:=BF he w;rw[d];exact⟨.mval nm (.ifc t c),⟨_,rfl,by simp only[Rel];exact⟨_,rfl,_,rfl,hr⟩⟩,h⟩
  ·rename_i t k off w;obtain⟨g,t',cs,hg,d⟩:=pT he w;rw[d];exact⟨.ifo (some nm) t k off,⟨_,rfl,by simp only[Rel];exact⟨g,t',cs,hg,rfl⟩⟩,h⟩
  ·exact h.elim
 case nilck x =>
  split at h
  ·rename_i k off w;obtain⟨d,e2⟩:=eX he w;rw[d];exact⟨.own k off,⟨rfl,e2⟩,h⟩
  ·rename_i es off w;obtain⟨b,o,j,vs,d,hp,ho,hr⟩:=pU he w;rcases d with⟨d,rfl⟩ | d
   ·rw[d];exact⟨.pt es off,⟨b,o,0,vs,.inl ⟨rfl,rfl⟩,hp,ho,hr⟩,h⟩
   ·rw[d];exact⟨by simp,.pt es off,⟨b,o,j,vs,.inr rfl,hp,ho,hr⟩,h⟩
  ·rename_i k off w;obtain⟨g,t,cs,d,e2⟩:=nA he w;rcases e2 with e2 | ⟨b,o,j,e2,e3⟩
   ·rw[e2];exact⟨.ownv k off,⟨_,.inl rfl,by simp only[Rel];exact⟨g,t,cs,d,rfl⟩⟩,h⟩
   ·rw[e2];exact⟨by simp,.ownv k off,⟨_,.inr ⟨b,o,j,rfl,rfl⟩,by simp only[Rel];exact⟨g,t,cs,d,e3.symm⟩⟩,h⟩
  ·rename_i f fi ca w;obtain⟨cM,cX,d,h1,h2⟩:=tv he w;rw[d];exact⟨.fn f fi ca,⟨_,rfl,by simp only[Rel];exact⟨cM,cX,rfl,h1,h2⟩⟩,h⟩
  ·rename_i nm c w;split at h
   case h_2=>exact h.elim
   rename_i t c;obtain⟨u,d,hr⟩:=yc he w;have dC:=hr;simp only[Rel] at hr;obtain⟨u',rfl,hu⟩:=hr;rw[d];exact⟨h.1,.mval nm (.ifc t c),⟨_,rfl,by simp only[Rel];exact⟨_,rfl,_,rfl,hu⟩⟩,h.2⟩
  ·rename_i nm t k off w;obtain⟨g,t',cs,hg,d⟩:=pT he w;rw[d];exact⟨h.1,.ifo (some nm) t k off,⟨_,rfl,by simp only[Rel];exact⟨g,t',cs,hg,rfl⟩⟩,h.2⟩
  ·exact h.elim
 case bin op x y =>
  split at h
  ·rename_i k a k' b w hy;obtain⟨d,w1⟩:=eO he w;obtain⟨e2,w2⟩:=eO he hy;rw[d,e2];split at h
   ·rename_i ci;simp only[ci];exact JQ w1 h fun v hv hV=>⟨_,x9 hv,hV⟩
   ·rename_i ci;simp only[ci];split at h
    case h_2=>exact h.elim
    rename_i hk;simp only[hk];exact HL w1 h fun v hv hV=>⟨_,x9 hv,hV⟩
  ·rename_i a b w hy;rw[(jY he w).1,(jY he hy).1];exact HM h fun v hv hV=>⟨_,x9 hv,hV⟩
  ·exact h.elim
 case eqB neg x y =>
  split at h
  case h_2=>exact h.elim
  rename_i a b w hy;rw[iJ he w,iJ he hy];exact⟨_,cL,h⟩
 case eqP neg x y =>
  have hy:EI y=true->ev ρ y=.v (.pointer none):=by
   unfold EI;split
   ·intro _;rfl
   ·intro e;cases e
  split at h
  ·rename_i k off h1 w;rw[(eX he w).1,hy h1];exact⟨_,cL,h⟩
  ·rename_i k off h1 w;obtain⟨g,t,cs,d,e2⟩:=nA he w;rcases e2 with e2 | ⟨b,o,j,e2,_⟩
   ·rw[e2,hy h1];exact⟨_,cL,h⟩
   ·rw[e2,hy h1];exact⟨_,cL,h⟩
  ·rename_i es off h1 w;obtain⟨b,q,j,vs,d,hp,ho,hr⟩:=pU he w;rcases d with⟨d,rfl⟩ | d
   ·rw[d,hy h1];exact⟨_,cL,h⟩
   ·rw[d,hy h1];exact⟨_,cL,h⟩
  ·rename_i h1 w;rw[JR he w,hy h1];exact⟨_,cL,h⟩
  ·exact h.elim
 case eqS neg x y =>
  have hy:isNil y=true->ev ρ y=.v (.slice none 0 0):=by
   unfold isNil;split
   ·intro _;rfl
   ·intro e;cases e
  split at h
  ·rename_i els h1 w;obtain⟨a,c,sz,d,e2,e3,e4,e5⟩:=Rt he w;rw[d,hy h1];refine⟨_,cL,h _ fun bl=>?_⟩;cases a with
   | none=>exact o4 (e4 rfl).1 bl
   | some a=>rfl
  ·rename_i els h1 w;obtain⟨a,sz,d,_⟩:=BI he w;rw[d,hy h1];exact⟨_,cL,h⟩
  ·rename_i h1 w;rw[o8 he w,hy h1];exact⟨_,cL,h⟩
  ·exact h.elim
 case eqF neg x y =>
  have hy:EJ y=true->ev ρ y=.v .nilFunc:=by
   unfold EJ;split
   ·intro _;rfl
   ·intro e;cases e
  split at h
  ·rename_i h1 w;rw[JS he w,hy h1];exact⟨_,cL,h⟩
  ·rename_i f fi ca h1 w;obtain⟨cM,cX,d,_,_⟩:=tv he w;rw[d,hy h1];exact⟨_,cL,h⟩
  ·exact h.elim
 case eqN neg x =>
  split at h
  ·rename_i t c w;obtain⟨u,d,_⟩:=BF he w;rw[d];exact⟨_,cL,h⟩
  ·rename_i t k off w;obtain⟨g,t',cs,hg,d⟩:=pT he w;rw[d];exact⟨_,cL,h⟩
  ·rename_i k w;split at h
   case h_2=>exact h.elim
   rename_i b hb;obtain⟨v,d,h1⟩:=BG he w;rw[d];obtain⟨q1,q2⟩:=I0 h1 hb;cases b with
   | true=>rw[q1 rfl];exact⟨_,cL,h⟩
   | false=>obtain⟨t,u,rfl⟩:=q2 rfl;exact⟨_,cL,h⟩
  ·exact h.elim
 case tas t z x =>
  have hz:Rel F L (cv z).cel z:=lJ (Rs z);split at h
  ·rename_i t' c w;obtain⟨u,d,hr⟩:=BF he w;rw[d];simp only[FQ] at h;cases hb:Nat.beq t' t with
   | true =>
    rw[hb] at h;simp only[hb];exact⟨.tup [c,.bool true],⟨_,rfl,by simp only[Rel];exact⟨[u,.bool true],rfl,by simp only[aF,Rel];exact⟨_,_,rfl,hr.lift,_,_,rfl,rfl,rfl⟩⟩⟩,h⟩
   | false =>
    rw[hb] at h;simp only[hb];exact⟨.tup [(cv z).cel,.bool false],⟨_,rfl,by simp only[Rel];exact⟨[z,.bool false],rfl,by simp only[aF,Rel];exact⟨_,_,rfl,hz,_,_,rfl,rfl,rfl⟩⟩⟩,h⟩
  ·rename_i t' k off w;obtain⟨g,t0,cs,hg,d⟩:=pT he w;rw[d];simp only[FQ] at h;cases hb:Nat.beq t' t with
   | true =>
    rw[hb] at h;simp only[C4,hb];exact⟨.tup [.own k off,.bool true],⟨_,rfl,by simp only[Rel];exact⟨[.pointer (some ⟨g,off,none⟩),.bool true],rfl,by simp only[aF,Rel];exact⟨_,_,rfl,⟨g,t0,cs,hg,rfl⟩,_,_,rfl,rfl,rfl⟩⟩⟩,h⟩
   | false =>
    rw[hb] at h;simp only[C4,hb];exact⟨.tup [(cv z).cel,.bool false],⟨_,rfl,by simp only[Rel];exact⟨[z,.bool false],rfl,by simp only[aF,Rel];exact⟨_,_,rfl,hz,_,_,rfl,rfl,rfl⟩⟩⟩,h⟩
  ·exact h.elim
 case eqA neg ks x y =>
  split at h
  case h_2=>exact h.elim
  rename_i cs ds w hy;split at h
  case h_2=>exact h.elim
  rename_i b hb;obtain⟨vs,d,h1⟩:=wO he w;obtain⟨us,e2,h2⟩:=wO he hy;simp only[d,e2];rw[Nl hb h1 h2];exact⟨_,cL,h⟩
 case un op x =>
  split at h
  ·rename_i b w;rw[iJ he w];exact⟨_,cL,h⟩
  ·rename_i k n w;rw[(eO he w).1];exact⟨⟨_,iL (wf_wrap _ _),h.out⟩⟩
  ·rename_i k n w;rw[(eO he w).1];exact⟨_,iL (wf_wrap _ _),h⟩
  ·exact h.elim
 case conv k x =>
  split at h
  case h_2=>exact h.elim
  rename_i k' n w;rw[(eO he w).1];exact⟨⟨_,iL (wf_wrap _ _),h.out⟩⟩
 case b2s x =>
  split at h
  ·rename_i els w;obtain⟨bs,rfl,h⟩:=h;obtain⟨a,c,sz,d,e2,e3,e4,e5⟩:=j6 he w;rw[d];have aa:(af bs).length=bs.length:=by simp[af]
   refine⟨bs.map fun b=>Value.int .u8 b.toNat,by simp[aa],?_,bs,rfl,_,ur ?_,h⟩
   ·rcases vX e5 e4 with h1 | h1
    ·exact .inl h1
    ·exact .inr (.inr (.inl (by rw[aa];exact h1)))
   ·rw[aa] at e2;show bs.toArray.size<=maxLen;simp;exact(by simpa[af] using e3)
  ·exact h.elim
 case mkfn f fi ca=>exact⟨.fn f _ _,⟨_,rfl,by simp only[Rel];exact⟨_,_,rfl,cW he fi,cW he ca⟩⟩,h⟩
 case slc sz x lo hi =>
  split at h
  case h_2=>exact h.elim
  rename_i els w;split at h
  case h_2=>exact h.elim
  rename_i l r hl hh;obtain⟨h1,h2,h3,h4,h5⟩:=h;obtain⟨a,c,aE,d,e2,e3,e4,e5⟩:=j6 he w;rw[d];simp only[wP he hl,wP he hh];refine⟨h1,h2,by omega,_,?_,h5⟩;have aa:((els.drop l.toNat).take (r.toNat-l.toNat)).length=r.toNat-l.toNat:=by simp;omega
  have hs:els≠[]->aE=sz:=by
   intro bl;obtain⟨es,cy⟩:=List.exists_mem_of_ne_nil _ bl;obtain⟨i,hi⟩:=abd.1 cy;obtain⟨vs,k1,_,_,k4⟩:=m8.1 e5 i es hi;rw[<-k1,k4.len,h4 es cy]
  have key:=JU (l:=l.toNat) (h:=r.toNat) e5 e4 (by omega) (by omega) e2;unfold gh;have:=FW (F:=F) (L:=L) (els:=(els.drop l.toNat).take (r.toNat-l.toNat)) (a:=if c=l.toNat then a else a.map (·.add (l.toNat*sz))) (c:=c-l.toNat) (sz:=sz) (by rw[aa];omega) (by rw[aa];omega) ?_ ?_
  ·rw[aa] at this;exact this
  ·intro hn;have ha:a=none:=by
    split at hn
    ·exact hn
    ·cases a with
     | none=>rfl
     | some a=>simp at hn
   obtain⟨q1,q2⟩:=e4 ha;subst q1;simp;omega
  ·by_cases bl:els=[]
   ·subst bl;simp only[List.drop_nil,List.take_nil,gC]
   ·rw[hs bl] at key;exact key
 case slcS x lo hi =>
  split at h
  case h_2=>exact h.elim
  rename_i s w;split at h
  case h_2=>exact h.elim
  rename_i l r hl hh;obtain⟨h1,h2,h3,h5⟩:=h;rw[(jY he w).1];simp only[wP he hl,wP he hh];refine⟨h1,h2,h3,_,ur ?_,h5⟩;have:=(jY he w).2;rw[ByteArray.size_extract];omega
 case fieldA off x =>
  split at h
  ·rename_i k o w;obtain⟨d,e2⟩:=eX he w;rw[d];exact⟨.own k (o+off),⟨rfl,e2⟩,h⟩
  ·rename_i es o w;obtain⟨b,q,j,vs,d,hp,ho,hr⟩:=pU he w;have cw:∀j',q+j'=q+j+off->M9 F b (q+j') (o+off) vs:=by
    intro j' hj;obtain⟨cY,ct,t,fr,k1,k2,k3⟩:=hp;exact⟨cY,ct,t,fr,k1,by omega,k3⟩
   rcases d with⟨d,rfl⟩ | d
   ·rw[d];exact⟨.pt es (o+off),⟨b,q,off,vs,.inr rfl,cw _ (by omega),ho,hr⟩,h⟩
   ·rw[d];exact⟨.pt es (o+off),⟨b,q,j+off,vs,.inr rfl,cw _ (by omega),ho,hr⟩,h⟩
  ·rename_i k j o w;obtain⟨ad,t,sz,n,c,xs,d,e2⟩:=um he w;rw[d];exact⟨.elr k j (o+off),⟨ad,t,sz,n,c,xs,by rw[Nat.add_assoc],e2⟩,h⟩
  ·rename_i k o w;obtain⟨g,t,cs,d,e2⟩:=nA he w;rcases e2 with e2 | ⟨b,q,j,e2,e3⟩
   ·rw[e2];exact⟨.ownv k (o+off),⟨_,.inr ⟨g,o,off,rfl,rfl⟩,by simp only[Rel];exact⟨g,t,cs,d,rfl⟩⟩,h⟩
   ·rw[e2];injection e3 with e3
    injection e3 with e3
    injection e3 with e4 e5
    subst e4;exact⟨.ownv k (o+off),⟨_,.inr ⟨g,q,j+off,rfl,rfl⟩,by simp only[Rel];exact⟨g,t,cs,d,by rw[e5,Nat.add_assoc]⟩⟩,h⟩
  ·exact h.elim
 case fieldV agg off n x =>
  split at h
  case h_2=>exact h.elim
  rename_i cs w;split at h
  case h_2=>exact h.elim
  rename_i hl;obtain⟨vs,d,hr⟩:=wO he w;have p:=(hr.drop off).take n;rw[d];simp only[];rw[dh (by rw[p.len];exact bC hl)];exact⟨_,cE p,h⟩
 case idxA sz x i =>
  split at h
  ·rename_i els k i w hi;obtain⟨es,h1,h2,h3,h4⟩:=h;obtain⟨a,c,aE,d,e2,e3,e4,e5⟩:=j6 he w;rw[d,(eO he hi).1];have bv:i.toNat<els.length:=(w7.1 h2).1;obtain⟨vs,k1,⟨ad,ct,t,fr,e,hb,dg,hv⟩,k3,k4⟩:=m8.1 e5 _ _ h2;have hs:aE=sz:=by rw[<-k1,k4.len,bC h3]
   subst hs;subst e;refine⟨by simp,h1,by omega,_,JW hb dg (fun i v hi=>?_) k3 k4,h4⟩;have:=hv i v hi;simpa using this
  ·rename_i k i' i w hi;split at h
   case h_2=>exact h.elim
   rename_i t aE els hk;split at h
   case h_2=>exact h.elim
   rename_i bx;have:=vv bx;subst this;obtain⟨h1,h2,h3⟩:=h;obtain⟨a,c,t',aE,n,cd,d,e2⟩:=tu he (BH w);obtain⟨v,xs,e3,⟨_,a',c',q6,q7⟩,hr⟩:=kR ht.tl hk;rw[e2] at e3;injection e3 with e3
   injection e3 with q1 q2 q3 q4 q5
   subst q2 q3 q4;rw[d,(eO he hi).1];cases a with
   | none =>
    rw[<-q1] at q6;injection q6 with q6
    have:=q7 q6.symm;omega
   | some ad=>exact⟨by simp,h1,h2,.elr k i.toNat 0,⟨ad,_,_,_,c,_,by simp,e2⟩,h3⟩
  ·rename_i k bu k' i w hi;split at h
   case h_2=>exact h.elim
   rename_i bx;obtain rfl:=vv bx;obtain⟨h1,h2,h3⟩:=h;obtain⟨g,t,cs,ad,d,e2,e3,e4⟩:=FU he (FV w);rw[e2,(eO he hi).1];exact⟨by simp,h1,h2,.slp k bu i.toNat,⟨g,t,cs,ad,d,by rw[Nat.mul_one],e4⟩,h3⟩
  ·exact h.elim
 case idxS x i =>
  split at h
  case h_2=>exact h.elim
  rename_i s k i w hi;obtain⟨h1,h2,h3⟩:=h;rw[(jY he w).1,(eO he hi).1];refine⟨h1,h2,_,iL ?_,h3⟩;have:=(s.data.toList.getD i.toNat 0).toNat_lt;generalize(s.data.toList.getD i.toNat 0).toNat=m at *;simp[Lit.wf,IntKind.min,IntKind.max,IntKind.bits,IntKind.signed];omega
 case extr x i =>
  split at h
  case h_2=>exact h.elim
  rename_i cs w;split at h
  case h_2=>exact h.elim
  rename_i v hv;obtain⟨vs,d,hr⟩:=Nf he w;rw[d];have bv:i<vs.length:=by rw[hr.len];exact(w7.1 hv).1
  simp only[v7 bv];exact⟨_,jZ (hr.at hv (v7 bv)),h⟩
 case len x =>
  have wl:∀n:Nat,n<=maxLen->(Lit.int .i64 (n:Int)).wf=true:=by
   intro n hn;simp only[maxLen] at hn;simp[Lit.wf,IntKind.min,IntKind.max,IntKind.bits,IntKind.signed];omega
  split at h
  ·rename_i els w;obtain⟨a,c,aE,d,e2,e3,e4,e5⟩:=j6 he w;rw[d];exact⟨_,iL (wl _ e3),h⟩
  ·rename_i k w;split at h
   case h_2=>exact h.elim
   rename_i t aE els hk;obtain⟨a,c,t',aE,n,cd,d,e2⟩:=tu he (BH w);obtain⟨v,xs,e3,⟨hm,_⟩,hr⟩:=kR ht.tl hk;rw[e2] at e3;injection e3 with e3
   injection e3 with q1 q2 q3 q4 q5
   subst q4;rw[d];exact⟨_,iL (wl _ hm),h⟩
  ·rename_i k w;obtain⟨n,h1,h2,h3⟩:=h;obtain⟨v,d,e2⟩:=BG he (Nj w);obtain⟨a,c,rfl⟩:=Ms e2 h1;rw[d];exact⟨_,iL (wl _ (by simpa[maxLen] using h2)),h3⟩
  ·rename_i k bu w;obtain⟨g,t,cs,ad,d,e2,e3,e4⟩:=FU he (FV w);rw[e2];exact⟨_,iL (wl _ e3),h⟩
  ·exact h.elim
 case lenS x =>
  split at h
  case h_2=>exact h.elim
  rename_i s w;obtain⟨d,e2⟩:=jY he w;rw[d];refine⟨_,iL ?_,h⟩;simp only[maxLen] at e2;simp[Lit.wf,IntKind.min,IntKind.max,IntKind.bits,IntKind.signed];omega
 case mlook str ok z x i =>
  split at h
  case h_2=>exact h.elim
  rename_i k w;split at h
  case h_2=>exact h.elim
  rename_i es hk;obtain⟨g,cs,d,e2⟩:=BJ he w;obtain⟨g',vs,e3,hE⟩:=EO ht.tl hk;rw[e2] at e3;injection e3 with e3
  injection e3 with q1 q2 q3
  subst q1 q3;rw[d];refine⟨k,cs,e2,hE.isMap,⟨?_⟩⟩;rcases h.out with⟨c,h1,h2⟩ | ⟨h1,h2⟩
  ·obtain⟨j,v,h3,h4⟩:=yd (FX he) 0 hE h1;refine .inl ⟨j,v,h3,?_⟩;have h5:Rel F L c v:=h4.lift;cases ok with
   | true=>exact⟨_,Aq h5,h2⟩
   | false=>exact⟨_,jZ h5,h2⟩
  ·refine .inr ⟨yd (FX he) 0 hE h1,?_⟩;have h5:Rel F L (cv z) z:=Ru z;cases ok with
   | true=>exact⟨_,Aq h5,h2⟩
   | false=>exact⟨_,Rs z,h2⟩
 case mlen x =>
  split at h
  case h_2=>exact h.elim
  rename_i k w;split at h
  case h_2=>exact h.elim
  rename_i es hk;obtain⟨g,cs,d,e2⟩:=BJ he w;obtain⟨g',vs,e3,hE⟩:=EO ht.tl hk;rw[e2] at e3;injection e3 with e3
  injection e3 with q1 q2 q3
  subst q1 q3;rw[d];refine⟨k,cs,e2,hE.isMap,_,iL ?_,?_⟩
  ·rw[hE.len];have:=h.1;simp only[maxLen] at this;simp[Lit.wf,IntKind.min,IntKind.max,IntKind.bits,IntKind.signed];omega
  ·rw[hE.len];exact h.2
 case mm mx args =>
  split at h
  case h_2=>exact h.elim
  rename_i k a l hl;split at h
  case h_2=>exact h.elim
  rename_i m hm
  match args,hl with
  | x::args,hl =>
   simp only[aaS,List.cons.injEq] at hl;obtain⟨w,rfl⟩:=hl;simp only[aaS,(eO he w).1,JT he mx args hm];exact⟨_,iL h.1,h.2⟩
end
theorem TL.aac (L:TL) (k:Nat) (o:TO) (j:Nat):(L.set k o).get j=if j=k then some o else L.get j:=by
 induction L with
 | nil =>
  simp only[TL.set,TL.get];cases h:Nat.beq k j with
  | true=>have:=vv h;simp[this]
  | false=>have:=fJ h;simp;omega
 | cons p l b =>
  obtain⟨i,q⟩:=p;simp only[TL.set];cases h:Nat.beq i k with
  | true =>
   have e:=vv h;subst e;simp only[TL.get];cases a:Nat.beq i j with
   | true=>have:=vv a;simp[this]
   | false=>have:=fJ a;simp;omega
  | false =>
   have c:=fJ h;simp only[];cases d:Nat.ble i k with
   | true =>
    simp only[TL.get];cases a:Nat.beq i j with
    | true=>have:=vv a;simp;omega
    | false=>simpa using b
   | false =>
    simp only[TL.get];cases a:Nat.beq k j with
    | true=>have:=vv a;simp[this]
    | false =>
     have:=fJ a;simp only[];rw[o6 (by omega)]
theorem TL.aai (L:TL) (k j:Nat):(L.del k).get j=if j=k then none else L.get j:=by
 induction L with
 | nil=>simp[TL.del,TL.get]
 | cons p l c =>
  obtain⟨i,q⟩:=p;simp only[TL.del];cases h:Nat.beq i k with
  | true =>
   have e:=vv h;subst e;simp only[TL.get,c]
   by_cases b:j=i
   ·simp[b]
   ·have:Nat.beq i j=false:=by cases a:Nat.beq i j with | true=>exact o4 (vv a).symm b | false=>rfl
    simp[b,this]
  | false =>
   have d:=fJ h;simp only[TL.get];cases a:Nat.beq i j with
   | true=>have:=vv a;simp;omega
   | false=>simpa using c
theorem uw:∀(l:List TO) (k j:Nat),TL.get (jl k l) j=if k<=j then l[j-k]? else none
 | [],k,j=>by simp[jl,TL.get]
 | o::l,k,j=>by
  simp only[jl,TL.get];cases h:Nat.beq k j with
  | true=>have:=vv h;subst this;simp
  | false =>
   have b:=fJ h;simp only[uw l (k+1) j]
   by_cases a:k<=j
   ·rw[eu (by omega),eu a,show j-k=(j-(k+1))+1 by omega,abx]
   ·rw[o6 (by omega),o6 a]
theorem cB (l:List TO) (j:Nat):TL.get (jm l) j=if 1000<=j then l[j-1000]? else none:=uw l 1000 j
theorem C9:∀{L:TL}{ks:List Nat}{l:List TO},L.sub ks=some l->l.length=ks.length/\∀(i:Nat) (k:Nat),ks[i]?=some k->L.get k=l[i]?
 | L,[],l,h=>by simp only[TL.sub,vz] at h;subst h;simp
 | L,k::ks,l,h=>by
  simp only[TL.sub] at h;split at h
  case h_2=>cases h
  rename_i o f a d;injection h with h
  subst h;obtain⟨c,b⟩:=C9 d;refine⟨by simp[c],fun i e hi=>?_⟩;cases i with
  | zero=>simp at hi;subst hi;simpa using a
  | succ i=>simp at hi;simpa using b i e hi
theorem o9:∀(ks:List Nat) (L:TL) (j:Nat),(L.aaf ks).get j=if j∈ks then none else L.get j
 | [],L,j=>by simp[TL.aaf]
 | k::ks,L,j=>by
  simp only[TL.aaf,o9 ks,TL.aai,xC]
  by_cases a:j=k<;>by_cases b:j∈ks<;>simp[a,b]
theorem mR:∀(ko:List Nat) (l:List TO) (L:TL) (j:Nat),ko.Nodup->ko.length=l.length ->
  ((L.puts ko l).get j=L.get j/\j∉ko)\/∃i,ko[i]?=some j/\(L.puts ko l).get j=l[i]?/\i<l.length
 | [],l,L,j,_,h=>by
  refine .inl ⟨?_,by simp⟩;cases l<;>rfl
 | k::ko,[],L,j,_,h=>by simp at h
 | k::ko,o::l,L,j,d,h=>by
  simp only[aaV,Nat.add_right_cancel_iff] at h;rw[List.nodup_cons] at d;simp only[TL.puts];rcases mR ko l (L.set k o) j d.2 h with⟨a,c⟩ | ⟨i,a,c,e⟩
  ·rw[TL.aac] at a
   by_cases b:j=k
   ·subst b;rw[eu rfl] at a;exact .inr ⟨0,by simp,by simpa using a,by simp⟩
   ·rw[o6 b] at a;exact .inl ⟨a,by simp[b,c]⟩
  ·exact .inr ⟨i+1,by simpa using a,by simpa using c,by simp;omega⟩
theorem qU (g:C->C):∀(L:TL) (k:Nat),(TL.aag g L).get k=(L.get k).map (TO.aag g)
 | [],k=>rfl
 | (j,o)::l,k=>by
  simp only[TL.aag,TL.get];cases h:Nat.beq j k with
  | true=>rfl
  | false=>exact qU g l k
section
variable {P:Program}{G:Nat->Option (Nat×TypeId)}{F:aD}{L:Loc}{ρ:Env}{M:TL}{τ:aV}
theorem BK (d:Option Nat) (c:C) (τ:aV) (t:Nat):bD d c τ t=match d with | some k=>if t=k then c else τ t | none=>τ t:=by
 cases d with
 | none=>rfl
 | some k =>
  simp only[bD];cases h:Nat.beq t k with
  | true=>have:=vv h;simp[this]
  | false=>have:=fJ h;simp[this]
theorem Nm {F:aD}{L:Loc}{τ:aV}{ρ:Env}(h:∀j,aQ F L (τ j) (ρ j)) {c:C}{sv:SV}(a:aQ F L c sv) (d:Option Nat):∀j,aQ F L (bD d c τ j) (put d sv ρ j):=by
 intro j;rw[BK,put_eq];cases d with
 | none=>exact h j
 | some k =>
  simp only[];split
  ·exact a
  ·exact h j
theorem TS.put (a:TS G F L ρ M τ) {c:C}{sv:SV}(b:aQ F L c sv) (d:Option Nat):TS G F L (put d sv ρ) M (bD d c τ):=⟨a.tl,Nm a.env b d,a.kp,a.glob⟩
theorem eF {F:aD}{L:Loc}{a:Option TO}{b:Option Own}(h:JM F L a b):(a=none/\b=none)\/∃o p,a=some o/\b=some p/\cZ F L o p:=by
 cases a<;>cases b<;>simp only[JM] at h
 ·exact .inl ⟨rfl,rfl⟩
 ·exact .inr ⟨_,_,rfl,rfl,h⟩
theorem TS.new {F':aD}(f:F.le F') (b:TS G F L ρ M τ) {k:Nat}(l:L.get k=none) {o:Own}{to:TO}(n:cZ F' (L.set k o) to o):TS G F' (L.set k o) ρ (M.set k to) τ:=by
 have a:Ext L (L.set k o):=by
  intro j p e;refine⟨p,?_,Own.aah p⟩;rw[Loc.aac,o6 (by rintro rfl;rw[l] at e;cases e)];exact e
 refine⟨fun j=>?_,fun j=>(b.env j).ext f a,fun j g t e=>?_,b.glob.mono f⟩
 ·rw[TL.aac,Loc.aac];split
  ·exact n
  ·rcases eF (b.tl j) with⟨d,c⟩ | ⟨p,q,d,c,m⟩
   ·rw[d,c];trivial
   ·rw[d,c];exact m.ext f a
 ·obtain⟨cs,h⟩:=b.kp j g t e;exact⟨cs,by rw[Loc.aac,o6 (by rintro rfl;rw[l] at h;cases h)];exact h⟩
theorem TS.mono {F':aD}(b:F.le F') (a:TS G F L ρ M τ):TS G F' L ρ M τ:=⟨a.tl.mono b,fun j=>(a.env j).mono b,a.kp,a.glob.mono b⟩
theorem TS.turn (c:TS G F L ρ M τ) {k:Nat}{o o':Own}(m:L.get k=some o) (u:Own.like o o') (b:∀g t cs,o=.box g t cs->∃cs',o'=.box g t cs') {to:TO}(s:∀L',Ext L L'->cZ F L' to o') :
  TS G F (L.set k o') ρ (M.set k to) τ:=by
 have a:Ext L (L.set k o'):=by
  intro j p e;rw[Loc.aac];split
  ·rename_i l;subst l;rw[m] at e;injection e with e
   subst e;exact⟨o',rfl,u⟩
  ·exact⟨p,e,Own.aah p⟩
 refine⟨fun j=>?_,fun j=>(c.env j).ext (aD.le_refl F) a,fun j g t e=>?_,c.glob⟩
 ·rw[TL.aac,Loc.aac];split
  ·exact s _ a
  ·rcases eF (c.tl j) with⟨f,d⟩ | ⟨p,q,f,d,r⟩
   ·rw[f,d];trivial
   ·rw[f,d];exact r.ext (aD.le_refl F) a
 ·obtain⟨cs,h⟩:=c.kp j g t e;rw[Loc.aac];split
  ·rename_i l;subst l;rw[m] at h;injection h with h
   obtain⟨cs',n⟩:=b g t cs h;exact⟨cs',by rw[n]⟩
  ·exact⟨cs,h⟩
theorem kS {L':Loc}{k:Nat}(d:∀g t cs,L.get k≠some (.box g t cs)) (n:∀j,j≠k->∀o,L.get j=some o->∃o',L'.get j=some o'/\Own.like o o') {F':aD}(l:F.le F') (c:C) (v:Value) (r:c.leaf=true)
  (h:Rel F L c v):Rel F' L' (gQ k c) v:=by
 cases c<;>simp only[C.leaf,aaX] at r<;>simp only[gQ]
 case rw j =>
  cases q:Nat.beq j k with
  | true=>simp only[Rel]
  | false=>exact bB l (fun p e=>by
    rcases e with⟨off,e⟩ | e | e | ⟨_,_,_,e⟩ | ⟨_,_,e⟩
    ·cases e
    ·injection e with e;subst e;exact n j (fJ q)
    ·cases e
    ·cases e
    ·cases e) rfl h
 case own j off =>
  refine bB l (fun p e=>?_) rfl h;rcases e with⟨off,e⟩ | e | e | ⟨_,_,_,e⟩ | ⟨_,_,e⟩
  ·injection e with e e2
   subst e;simp only[Rel] at h;obtain⟨g,t,cs,f,_⟩:=h;exact n j (by rintro rfl;exact d _ _ _ f)
  ·cases e
  ·cases e
  ·cases e
  ·cases e
 case ifo m ti j off =>
  refine bB l (fun p e=>?_) rfl h;rcases e with⟨off,e⟩ | e | e | ⟨_,_,_,e⟩ | ⟨_,_,e⟩
  ·cases e
  ·cases e
  ·cases e
  ·injection e with _ _ e
   subst e;simp only[Rel] at h;obtain⟨g,t,cs,f,_⟩:=h;exact n j (by rintro rfl;exact d _ _ _ f)
  ·cases e
 case elr j a b =>
  cases q:Nat.beq j k with
  | true=>simp only[Rel]
  | false=>exact bB l (fun p e=>by
    rcases e with⟨off,e⟩ | e | e | ⟨_,_,_,e⟩ | ⟨_,_,e⟩<;>first | cases e;done | skip
    injection e with e;subst e;exact n j (fJ q)) rfl h
 case mpr j =>
  refine bB l (fun p e=>?_) rfl h;rcases e with⟨off,e⟩ | e | e | ⟨_,_,_,e⟩ | ⟨_,_,e⟩
  ·cases e
  ·cases e
  ·injection e with e
   subst e;simp only[Rel] at h;obtain⟨g,cs,f,_⟩:=h;exact n j (by rintro rfl;exact d _ _ _ f)
  ·cases e
  ·cases e
 case slo j a =>
  refine rN l ?_ h;simp only[Rel] at h;obtain⟨g,t,cs,s,f,_⟩:=h;exact n j (by rintro rfl;exact d _ _ _ f)
 case slp=>simp only[Rel]
 all_goals
  exact bB l (fun p e=>by rcases e with⟨off,e⟩ | e | e | ⟨_,_,_,e⟩ | ⟨_,_,e⟩<;>cases e) rfl h
theorem pV {L':Loc}{k:Nat}(d:∀g t cs,L.get k≠some (.box g t cs)) (p:∀j,j≠k->∀o,L.get j=some o->∃o',L'.get j=some o'/\Own.like o o') {F':aD}(n:F.le F') (c:C) (sv:SV) (s:c.leaf=true)
  (h:aQ F L c sv):aQ F' L' (gQ k c) sv:=by
 cases c<;>simp only[C.leaf,aaX] at s<;>simp only[gQ]
 case rw j =>
  cases r:Nat.beq j k with
  | true=>trivial
  | false=>exact cV n (fun q e=>by
    rcases e with⟨off,e⟩ | ⟨off,e⟩ | e | ⟨a,b,e⟩ | e | ⟨_,_,_,e⟩<;>first | cases e;done | skip
    injection e with e;subst e;exact p j (fJ r)) rfl h
 case elr j a b =>
  cases r:Nat.beq j k with
  | true=>trivial
  | false=>exact cV n (fun q e=>by
    rcases e with⟨off,e⟩ | ⟨off,e⟩ | e | ⟨a,b,e⟩ | e | ⟨_,_,_,e⟩<;>first | cases e;done | skip
    injection e with e;subst e;exact p j (fJ r)) rfl h
 case own j off =>
  refine cV n (fun q e=>?_) rfl h;obtain⟨_,g,t,cs,l⟩:=h;rcases e with⟨off,e⟩ | ⟨off,e⟩ | e | ⟨a,b,e⟩ | e | ⟨_,_,_,e⟩<;>first | cases e;done | skip
  injection e with e
  subst e;exact p j (by rintro rfl;exact d _ _ _ l)
 case ifo m ti j off =>
  refine cV n (fun q e=>?_) rfl h;obtain⟨v,_,f⟩:=h;simp only[Rel] at f;obtain⟨g,t,cs,l,_⟩:=f;rcases e with⟨off,e⟩ | ⟨off,e⟩ | e | ⟨a,b,e⟩ | e | ⟨_,_,_,e⟩<;>first | cases e;done | skip
  injection e with _ _ e
  subst e;exact p j (by rintro rfl;exact d _ _ _ l)
 case ownv j off =>
  refine cV n (fun q e=>?_) rfl h;obtain⟨v,_,f⟩:=h;simp only[Rel] at f;obtain⟨g,t,cs,l,_⟩:=f;rcases e with⟨off,e⟩ | ⟨off,e⟩ | e | ⟨a,b,e⟩ | e | ⟨_,_,_,e⟩<;>first | cases e;done | skip
  injection e with e
  subst e;exact p j (by rintro rfl;exact d _ _ _ l)
 case mpr j =>
  refine cV n (fun q e=>?_) rfl h;obtain⟨v,_,f⟩:=h;simp only[Rel] at f;obtain⟨g,cs,l,_⟩:=f;rcases e with⟨off,e⟩ | ⟨off,e⟩ | e | ⟨a,b,e⟩ | e | ⟨_,_,_,e⟩<;>first | cases e;done | skip
  injection e with e
  subst e;exact p j (by rintro rfl;exact d _ _ _ l)
 case slo j a =>
  refine uj n ?_ h;obtain⟨v,_,f⟩:=h;simp only[Rel] at f;obtain⟨g,t,cs,u,l,_⟩:=f;exact p j (by rintro rfl;exact d _ _ _ l)
 case slp=>trivial
 all_goals
  exact cV n (fun q e=>by rcases e with⟨off,e⟩ | ⟨off,e⟩ | e | ⟨a,b,e⟩ | e | ⟨_,_,_,e⟩<;>cases e) rfl h
theorem cZ.aax {L':Loc}{k:Nat}(a:∀g t cs,L.get k≠some (.box g t cs)) (d:∀j,j≠k->∀o,L.get j=some o->∃o',L'.get j=some o'/\Own.like o o') {F':aD}(b:F.le F'):∀{o:TO}{p:Own},cZ F L o p->cZ F' L' (o.aag (C.kill k)) p
 | .box t cs,.box g f vs,r=>⟨r.1,r.2.map fun c _ v h=>Rel.mp (kS a d b) 3 h⟩
 | .row t sz els,.row v f s n xs,r=>⟨r.1,r.2.1,r.2.2.1,r.2.2.2.1,r.2.2.2.2.mono b⟩
 | .box _ _,.row ..,r=>r.elim
 | .row ..,.box ..,r=>r.elim
 | .map _,.row ..,r=>r.elim
 | .map es,.box g f vs,r=>⟨r.1,r.2.mono b⟩
 | .win ..,.row ..,r=>r.elim
 | .win ..,.box ..,⟨u,v1,l,v3,e,w,m,q⟩=>⟨u,v1,l,v3,e,w.mono b,m.map fun c _ v h=>Rel.mp (kS a d b) 3 h,q.mono b⟩
theorem TS.aax (b:TS G F L ρ M τ) {k:Nat}{o':Own}(a:∀g t cs,L.get k≠some (.box g t cs)) {to:TO}(m:cZ F (L.set k o') to o') :
  TS G F (L.set k o') ρ ((M.aag (C.kill k)).set k to) (fun j=>(τ j).kill k):=by
 have f:∀j,j≠k->∀o,L.get j=some o->∃p,(L.set k o').get j=some p/\Own.like o p:=fun j n o e=>⟨o,by rw[Loc.aac,o6 n];exact e,Own.aah o⟩;refine⟨fun j=>?_,fun j=>aQ.mp (kS a f (aD.le_refl F)) (pV a f (aD.le_refl F)) 3 (b.env j),fun j g t e=>?_,b.glob⟩
 ·rw[TL.aac,Loc.aac,qU];split
  ·exact m
  ·rcases eF (b.tl j) with⟨d,c⟩ | ⟨p,q,d,c,l⟩
   ·rw[d,c];trivial
   ·rw[d,c];exact l.aax a f (aD.le_refl F)
 ·obtain⟨cs,h⟩:=b.kp j g t e;exact⟨cs,by rw[Loc.aac,o6 (by rintro rfl;exact a _ _ _ h)];exact h⟩
theorem iY {a:Option Addr}{sz b:Nat}{els:List (List C)}(h:gC F a b 0 els) (w:∀es∈els,es.length=sz):∃xs,xs.length=els.length*sz/\(bU F a 0 xs\/(els.length=0/\xs=[]))/\aN F sz els xs:=by
 cases k:els with
 | nil=>exact⟨[],by simp,.inr ⟨rfl,rfl⟩,by simp only[aN]⟩
 | cons o m =>
  rw[k] at h w;have h0:=m8.1 h 0 o (by simp);obtain⟨av,k1,⟨d,f,t,z,ea,hb,r,_⟩,_,k4⟩:=h0;have u:b=sz:=by rw[<-k1,k4.len,w o (by simp)]
  subst u;subst ea;have key:∀(l:List (List C)) (i:Nat),gC F (some d) b i l->∃xs,aN F b l xs/\∀(j:Nat) v,xs[j]?=some v->f[d.off+i*b+j]?=some v/\pF z (d.off+i*b+j):=by
   intro l
   induction l with
   | nil=>intro i _;exact⟨[],by simp only[aN],by simp⟩
   | cons es l ih =>
    intro i y;simp only[gC] at y;obtain⟨⟨vs,q1,⟨aw,aa,t',ax,p,c,x,hv⟩,q3,q4⟩,q5⟩:=y;injection p with p
    subst p;rw[hb] at c;injection c with c
    injection c with r1 r2 r3
    subst r1 r3;obtain⟨xs,n,q⟩:=ih (i+1) q5;refine⟨vs++xs,by simp only[aN];exact⟨vs,xs,rfl,q1,q3,q4,n⟩,fun j v e=>?_⟩
    by_cases s:j<vs.length
    ·rw[aaW s] at e;exact hv j v e
    ·rw[aa2 (by omega)] at e;have:=q _ _ e;rw[show d.off+i*b+j=d.off+(i+1)*b+(j-vs.length) by rw[q1,Nat.add_mul];omega];exact this
  obtain⟨xs,n,q⟩:=key (o::m) 0 h;exact⟨xs,iI n,.inl ⟨d,f,t,z,rfl,hb,r,fun j v e=>by have:=q j v e;simpa using this⟩,n⟩
theorem aN.ones {sz:Nat}:∀{l:List (List C)}{xs:List Value},aN F sz l xs->∀u∈xs,u.oneCell'=true
 | [],xs,h=>by simp only[aN] at h;subst h;simp
 | es::l,xs,h=>by
  simp only[aN] at h;obtain⟨vs,e,rfl,f,c,b,d⟩:=h;intro u a;rcases w8.1 a with a | a
  ·exact gq b c u a
  ·exact aN.ones d u a
theorem mF (bs:List UInt8):aN F 1 (af bs) (bs.map fun b=>Value.int .u8 b.toNat):=by
 induction bs with
 | nil=>simp only[af,abI,aN]
 | cons b bs a =>
  simp only[af,aaS,aN];refine⟨[.int .u8 b.toNat],_,rfl,rfl,rfl,?_,a⟩;simp only[aF,Rel];refine⟨_,_,rfl,⟨rfl,?_⟩,rfl⟩;have:=b.toNat_lt;simp[Lit.wf,IntKind.min,IntKind.max,IntKind.bits,IntKind.signed];omega
theorem EP {g:Nat}{bs:List UInt8}(h:bU F (some ⟨g,0,none⟩) 0 (bs.map fun b=>Value.int .u8 b.toNat)):gC F (some ⟨g,0,none⟩) 1 0 (af bs):=(mF bs).frz h
theorem aN.set {sz:Nat}:∀{l:List (List C)}{xs:List Value},aN F sz l xs->∀{j:Nat}{es ds:List C}{us:List Value}{off:Nat},l[j]?=some es->off+us.length<=sz->aF F [] ds us->dJ ds=true ->
  aN F sz (l.set j (fu es off ds)) (aP xs (j*sz+off) us)
 | [],xs,h,j,es,ds,us,off,e,_,_,_=>by simp at e
 | x::l,xs,h,j,es,ds,us,off,e,q,n,f=>by
  simp only[aN] at h;obtain⟨vs,d,rfl,m,b,k,o⟩:=h;cases j with
  | zero =>
   simp only[aa0,vz] at e;subst e;simp only[List.set_cons_zero,aN];refine⟨aP vs off us,d,?_,?_,?_,gD k n,o⟩
   ·simp only[aP,Nat.zero_mul,Nat.zero_add];rw[List.take_append_of_le_length (by omega),List.drop_append_of_le_length (by omega)];simp
   ·simp only[aP,yo,aa6,abA];omega
   ·rw[iW] at b f ⊢;intro c a;simp only[fu,w8] at a;rcases a with(a | a) | a
    ·exact b c (List.mem_of_mem_take a)
    ·exact f c a
    ·exact b c (List.mem_of_mem_drop a)
  | succ j =>
   simp only[List.set_cons_succ,aN];have p:=aN.set o (j:=j) (by simpa using e) q n f;refine⟨vs,_,?_,m,b,k,p⟩;simp only[aP];rw[show(j+1)*sz+off=vs.length+(j*sz+off) by rw[m,Nat.add_mul];omega];rw[List.take_length_add_append,show vs.length+(j*sz+off)+us.length=vs.length+(j*sz+off+us.length) by omega,List.drop_length_add_append];simp[aaR]
end
section
variable {P:Program}{G:Nat->Option (Nat×TypeId)}{F:aD}{L:Loc}{ρ:Env}{M:TL}{τ:aV}
def Both (G:Nat->Option (Nat×TypeId)) (K:TK):cQ:=fun F L ρ=>∃M τ,TS G F L ρ M τ/\K M τ
theorem nU {k:Nat}{a:Option Addr}{c n:Nat}{t sz:Nat}{xs:List Value}(h:L.get k=some (.row (.slice a n c) t sz n xs)):aQ F L (.rw k) (.v (.slice a n c)) :=
 ⟨_,rfl,by simp only[Rel];exact⟨a,c,t,sz,n,xs,rfl,h⟩⟩
theorem Rv {g:Nat}{F':aD}{t:TypeId}{cs:List C}{vs:List Value}(c:F' g=some (.cells vs.toArray t (0,0))) (a:dJ cs=true) (b:aF F' [] cs vs):aQ F' L (.pt cs 0) (.v (.pointer (some ⟨g,0,none⟩))) :=
 ⟨g,0,0,vs,.inl ⟨rfl,rfl⟩,⟨0,_,t,(0,0),c,rfl,fun i v hi=>⟨by simpa using hi,tN _⟩⟩,a,b⟩
theorem jE (c:∀j,aQ F L (τ j) (ρ j)) {sz:Nat}:∀{xs:List X},qN τ sz xs=true->fI L ρ sz xs=true/\aN F sz (vk τ xs) (cellsOf L ρ xs)/\(vk τ xs).length=xs.length
 | [],_=>⟨rfl,by simp only[vk,cellsOf,aN],rfl⟩
 | x::xs,h=>by
  simp only[qN] at h;split at h
  case h_2=>cases h
  rename_i f l m k;obtain⟨n,d,e⟩:=jE c h;have b:=dS c f;have a:(aK (val L ρ x)).length=sz:=by rw[b.len];exact bC l
  refine⟨by simp only[fI,dh a];exact n,?_,by simp only[vk,aaV,e]⟩;simp only[vk,cellsOf,aN];exact⟨_,_,rfl,a,nB m,j5 (eI k b),d⟩
theorem BL {t:Nat}(h:Mn t=true):t<1048576/\t≠0:=by
 unfold Mn at h;split at h
 ·cases h
 ·rename_i a;have:=aa1 h;exact⟨by omega,fun e=>by subst e;simp at a⟩
theorem FY {t:TypeId}{x:X}{k:Nat}{K:TK}(f:TS G F L ρ M τ) (l:M.get k=none) (n:(cm τ x).okc=true) (b:t<1048576/\t≠0) (h:K (M.set k (.box t (cg (cm τ x)))) (bD (some k) (.own k 0) τ)) (g:Nat) :
  Both G K F (L.set k (.box g t (aK (val L ρ x)))) (put (some k) (.own k 0) ρ):=by
 have a:=cj f.tl l;have d:Ext L (L.set k (.box g t (aK (val L ρ x)))):=by
  intro j p e;refine⟨p,?_,Own.aah p⟩;rw[Loc.aac,o6 (by rintro rfl;rw[a] at e;cases e)];exact e
 have m:=f.new (aD.le_refl F) a (o:=.box g t (aK (val L ρ x))) (to:=.box t (cg (cm τ x))) ⟨⟨b.1,.inl rfl,b.2⟩,(dS f.env n).ext (aD.le_refl F) d⟩;exact⟨_,_,m.put (c:=.own k 0) (sv:=.own k 0) ⟨rfl,g,t,_,by rw[Loc.aac,eu rfl]⟩ (some k),h⟩
theorem Ar {t:TypeId}{zs:List Value}{k:Nat}{K:TK}(d:TS G F L ρ M τ) (e:M.get k=none) (a:t<1048576/\t≠0) (h:K (M.set k (.box t (zs.map sG))) (bD (some k) (.own k 0) τ)) (g:Nat) :
  Both G K F (L.set k (.box g t zs)) (put (some k) (.own k 0) ρ):=by
 have b:=cj d.tl e;have f:=d.new (aD.le_refl F) b (o:=.box g t zs) (to:=.box t (zs.map sG)) ⟨⟨a.1,.inl rfl,a.2⟩,lI zs⟩;exact⟨_,_,f.put (c:=.own k 0) (sv:=.own k 0) ⟨rfl,g,t,_,by rw[Loc.aac,eu rfl]⟩ (some k),h⟩
theorem FZ {e n sz:Nat}{xs:List X}{d:Option Nat}{K:TK}(a:TS G F L ρ M τ) (j:qN τ sz xs=true) (f:xs.length=n) (p:n<=maxLen) (h:K M (bD d (.slx (vk τ xs)) τ)) {g:Nat}{F':aD}(b:F.le F')
  (l:F' g=some (.cells (cellsOf L ρ xs).toArray e (0,0))):Both G K F' L (put d (.v (.slice (some ⟨g,0,none⟩) n n)) ρ):=by
 obtain⟨q,k,m⟩:=jE a.env j;have o:bU F' (some ⟨g,0,none⟩) 0 (cellsOf L ρ xs):=⟨_,_,_,_,rfl,l,rfl,fun i v hi=>⟨by simpa using hi,tN _⟩⟩;refine⟨_,_,(a.mono b).put (c:=.slx (vk τ xs)) ⟨_,rfl,?_⟩ d,h⟩;simp only[Rel];exact⟨⟨g,0,none⟩,by rw[m,f],by omega,sz,(k.mono b).frz o⟩
theorem ye (d:∀j,aQ F L (τ j) (ρ j)) {k g:Nat}{t:TypeId}{cs:List Value}(e:L.get k=some (.box g t cs)):∀{xs:List X}{a:List Nat},vW k τ xs=some a ->
  fI L ρ 1 xs=true/\cellsOf L ρ xs=a.map (fun o=>.pointer (some ⟨g,o,none⟩))/\a.length=xs.length
 | [],a,h=>by
  simp only[vW,vz] at h;subst h;exact⟨rfl,rfl,rfl⟩
 | x::xs,a,h=>by
  simp only[vW] at h;split at h
  case h_2=>cases h
  rename_i j off l r s;split at h
  case h_2=>cases h
  rename_i u;obtain rfl:=vv u;injection h with h
  subst h;obtain⟨p,n,q⟩:=ye d e s;have c:=uo d x;rw[r] at c;simp only[Rel] at c;obtain⟨v,w,cs',b,m⟩:=c;rw[e] at b;injection b with b
  injection b with q1 q2 q3
  subst q1;have f:aK (val L ρ x)=[.pointer (some ⟨g,off,none⟩)]:=by rw[m];rfl
  exact⟨by simp only[fI,f,fH];exact p,by simp only[cellsOf,f,n];rfl,by simp[q]⟩
theorem F5 {e n k:Nat}{b:List Nat}{xs:List X}{d:Option Nat}{K:TK}(q:TS G F L ρ M τ) (f:vW k τ xs=some b) (o:xs≠[]) (r:xs.length=n) (y:n<=maxLen) (h:K M (bD d (.slo k b) τ)) :
  fI L ρ 1 xs=true/\∀{g:Nat}{F':aD},F.le F'->F' g=some (.cells (cellsOf L ρ xs).toArray e (0,0))->Both G K F' L (put d (.v (.slice (some ⟨g,0,none⟩) n n)) ρ):=by
 obtain⟨x,a,rfl⟩:∃x a,xs=x::a:=by
  cases xs with
  | nil=>exact o4 rfl o
  | cons x a=>exact⟨x,a,rfl⟩
 have m:∃g t cs,L.get k=some (.box g t cs):=by
  have f:=f;simp only[vW] at f;split at f
  case h_2=>cases f
  rename_i j off l hx hl;split at f
  case h_2=>cases f
  rename_i hj;obtain rfl:=vv hj;have p:=uo q.env x;rw[hx] at p;simp only[Rel] at p;obtain⟨w,t',cs',e1,e2⟩:=p;exact⟨w,t',cs',e1⟩
 obtain⟨z,t,cs,m⟩:=m;obtain⟨k1,k2,s⟩:=ye q.env m f;refine⟨k1,fun{g F'} hF hg=>?_⟩;have u:bU F' (some ⟨g,0,none⟩) 0 (cellsOf L ρ (x::a)):=⟨_,_,_,_,rfl,hg,rfl,fun i v hi=>⟨by simpa using hi,tN _⟩⟩;refine⟨_,_,(q.mono hF).put (c:=.slo k b) ⟨_,rfl,?_⟩ d,h⟩;simp only[Rel];exact⟨z,t,cs,⟨g,0,none⟩,m,by rw[s,r],by rw[s,r];exact y,by rw[k2] at u;exact u⟩
theorem Nn {e n sz:Nat}{xs:List X}{k:Nat}{K:TK}(a:TS G F L ρ M τ) (q:qN τ sz xs=true) (p:xs.length=n) (m:n<=maxLen) (j:M.get k=none) (h:K (M.set k (.row e sz (vk τ xs))) (bD (some k) (.rw k) τ)) (g:Nat) :
  Both G K F (L.set k (.row (.slice (some ⟨g,0,none⟩) n n) e sz n (cellsOf L ρ xs))) (put (some k) (.v (.slice (some ⟨g,0,none⟩) n n)) ρ):=by
 obtain⟨r,d,f⟩:=jE a.env q;have b:=cj a.tl j;have l:=a.new (aD.le_refl F) b (o:=.row (.slice (some ⟨g,0,none⟩) n n) e sz n (cellsOf L ρ xs)) (to:=.row e sz (vk τ xs)) ⟨rfl,rfl,by rw[f,p],⟨m,_,_,rfl,fun e=>(by cases e)⟩,d⟩;exact⟨_,_,l.put (c:=.rw k) (nU (by rw[Loc.aac,eu rfl])) (some k),h⟩
theorem nC {e sz:Nat}{k:Nat}{els news:List (List C)}{d:Option Nat}{K:TK}(p:TS G F L ρ M τ) {s:Value}{xs ys:List Value}(o:L.get k=some (.row s e sz els.length xs)) (l:aN F sz els xs) (m:aN F sz news ys)
  (b:els.length+news.length<=maxLen) (h:K ((M.aag (C.kill k)).set k (.row e sz (els++news))) (bD d (.rw k) fun j=>(τ j).kill k)) {v:Value}(n:∃a c,v=.slice a (els.length+news.length) c/\(a=none->els.length+news.length=0)) :
  Both G K F (L.set k (.row v e sz (els.length+news.length) (xs++ys))) (put d (.v v) ρ):=by
 obtain⟨a,c,rfl,f⟩:=n;have q:=p.aax (k:=k) (o':=.row (.slice a (els.length+news.length) c) e sz (els.length+news.length) (xs++ys)) (to:=.row e sz (els++news)) (fun g t cs e=>by rw[o] at e;injection e with e;cases e)
  ⟨rfl,rfl,by simp,⟨b,a,c,rfl,f⟩,l.append m⟩
 exact⟨_,_,q.put (c:=.rw k) (nU (by rw[Loc.aac,eu rfl])) d,h⟩
theorem lK {e sz:Nat}{k:Nat}{news:List (List C)}{d:Option Nat}{K:TK}(b:TS G F L ρ M τ) {ys:List Value}(m:M.get k=none) (j:aN F sz news ys)
  (p:news.length<=maxLen) (h:K (M.set k (.row e sz news)) (bD d (.rw k) τ)) {v:Value}(l:∃a c,v=.slice a (0+news.length) c/\(a=none->0+news.length=0)) :
  Both G K F (L.set k (.row v e sz (0+news.length) ([]++ys))) (put d (.v v) ρ):=by
 obtain⟨a,c,rfl,f⟩:=l;have n:=b.new (aD.le_refl F) (cj b.tl m) (o:=.row (.slice a (0+news.length) c) e sz (0+news.length) ([]++ys)) (to:=.row e sz news) ⟨rfl,rfl,by simp,⟨by omega,a,c,rfl,f⟩,j⟩;exact⟨_,_,n.put (c:=.rw k) (nU (by rw[Loc.aac,eu rfl])) d,h⟩
theorem pW {x:X}{k e sz:Nat}{els:List (List C)}(f:TS G F L ρ M τ) (p:cm τ x=.rw k) (q:M.get k=some (.row e sz els)) :
  ∃a c xs,ev ρ x=.v (.slice a els.length c)/\L.get k=some (.row (.slice a els.length c) e sz els.length xs)/\aN F sz els xs/\els.length<=maxLen:=by
 obtain⟨a,c,r,o,n,j,l,d⟩:=tu f.env p;obtain⟨v,xs,b,⟨h,_⟩,m⟩:=kR f.tl q;rw[d] at b;injection b with b
 injection b with q1 q2 q3 q4 q5
 subst q2 q3 q4 q5;exact⟨a,c,_,l,d,m,h⟩
set_option maxHeartbeats 1000000 in
theorem Da {e sz b:Nat}{s x:X}{d:Option Nat}{K:TK}(j:TS G F L ρ M τ) (h:Nb e sz b (cm τ s) (cm τ x) d M τ K):∃sv xv,ev ρ s=.v sv/\ev ρ x=.v xv/\FH F L e sz b sv xv fun L1 v=>Both G K F L1 (Fr.put d (.v v) ρ):=by
 have he:=j.env;simp only[Nb,fe] at h;split at h
 ·rename_i k news z m;split at h
  case h_2=>exact h.elim
  rename_i e' bm els n;split at h
  case h_2=>exact h.elim
  rename_i h1 h2;obtain rfl:=vv h1;obtain rfl:=vv h2;obtain⟨g1,l,r,w⟩:=h;obtain⟨a,c,xs,e1,e2,hr,hm⟩:=pW j z n;obtain⟨t,p,aw,y,e4,e5,e6,e7⟩:=j6 he m;obtain⟨ys,y1,y2,y3⟩:=iY e7 g1;exact⟨_,_,e1,y,k,els.length,xs,news.length,ys,.inl e2,⟨t,p,rfl,y1,y2.imp id .inl⟩,y3.ones,l,r,fun v hv=>nC j e2 hr y3 l w hv⟩
 ·rename_i news k z m;split at h
  case h_2=>exact h.elim
  rename_i n;obtain⟨g1,l,r,w⟩:=h;obtain⟨t,p,aw,y,e4,e5,e6,e7⟩:=j6 he m;obtain⟨ys,y1,y2,y3⟩:=iY e7 g1;simp only[abb] at l r;exact⟨_,_,o8 he z,y,k,0,[],news.length,ys,.inr (.inl ⟨cj j.tl n,rfl,rfl,rfl⟩),⟨t,p,rfl,y1,y2.imp id .inl⟩,y3.ones,l,r,fun v hv=>lK j n y3 (by omega) w hv⟩
 ·rename_i els news k z m;split at h
  case h_2=>exact h.elim
  rename_i n;obtain⟨g0,bc,g1,l,r,w⟩:=h;obtain⟨a,cc,e1,hm,e2⟩:=BI he z;obtain⟨t,p,aw,y,e4,e5,e6,e7⟩:=j6 he m;obtain⟨ys,y1,y2,y3⟩:=iY e7 g1;obtain⟨xs,x1,x2,x3⟩:=iY e2 bc;refine⟨_,_,e1,y,k,els.length,xs,news.length,ys,.inr (.inr ⟨cj j.tl n,a,rfl,g0,x1,x2⟩),⟨t,p,rfl,y1,y2.imp id .inl⟩,y3.ones,l,r,fun v hv=>?_⟩;obtain⟨av,cv,rfl,hn⟩:=hv;have h1:=j.new (aD.le_refl F) (cj j.tl n) (o:=.row (.slice av (els.length+news.length) cv) e sz (els.length+news.length) (xs++ys)) (to:=.row e sz (els++news)) ⟨rfl,rfl,by simp,⟨l,av,cv,rfl,hn⟩,x3.append y3⟩;exact⟨_,_,h1.put (c:=.rw k) (nU (by rw[Loc.aac,eu rfl])) _,w⟩
 ·rename_i k k' z m;have m:=BH m;split at h
  case h_2=>exact h.elim
  rename_i e' bm els bs ax news n q;split at h
  case h_2=>exact h.elim
  rename_i h1 h2 h3;obtain rfl:=vv h1;obtain rfl:=vv h2;obtain rfl:=vv h3;obtain⟨g1,l,r,w⟩:=h;obtain⟨a,c,xs,e1,e2,hr,hm⟩:=pW j z n;obtain⟨t,p,ys,y,e4,f,bo⟩:=pW j m q;refine⟨_,_,e1,y,k,els.length,xs,news.length,ys,.inl e2,⟨t,p,rfl,iI f,?_⟩,f.ones,l,r,fun v hv=>nC j e2 hr f l w hv⟩;cases t with
  | some ad=>exact .inr (.inr ⟨k',_,_,_,_,_,ad,p,e4,rfl,rfl,fun i u hu=>hu⟩)
  | none =>
   obtain⟨v,bj,q1,⟨_,a2,c2,q2,q3⟩,q4⟩:=kR j.tl q;rw[e4] at q1;injection q1 with q1
   injection q1 with r1 r2 r3 r4 r5
   rw[<-r1] at q2;injection q2 with q2
   have hz:=q3 q2.symm;have hl:=iI f;refine .inr (.inl ⟨hz,List.length_eq_zero_iff.1 (by rw[hl,hz];simp)⟩)
 ·rename_i k' k z m;have m:=BH m;split at h
  case h_2=>exact h.elim
  rename_i bs ax news n q;split at h
  case h_2=>exact h.elim
  rename_i h3;obtain rfl:=vv h3;obtain⟨g1,l,r,w⟩:=h;obtain⟨t,p,ys,y,e4,f,bo⟩:=pW j m q;simp only[abb] at l r;refine⟨_,_,o8 he z,y,k,0,[],news.length,ys,.inr (.inl ⟨cj j.tl n,rfl,rfl,rfl⟩),⟨t,p,rfl,iI f,?_⟩,f.ones,l,r,fun v hv=>lK j n f (by omega) w hv⟩;cases t with
  | some ad=>exact .inr (.inr ⟨k',_,_,_,_,_,ad,p,e4,rfl,rfl,fun i u hu=>hu⟩)
  | none =>
   obtain⟨v,bj,q1,⟨_,a2,c2,q2,q3⟩,q4⟩:=kR j.tl q;rw[e4] at q1;injection q1 with q1
   injection q1 with r1 r2 r3 r4 r5
   rw[<-r1] at q2;injection q2 with q2
   have hz:=q3 q2.symm;have hl:=iI f;refine .inr (.inl ⟨hz,List.length_eq_zero_iff.1 (by rw[hl,hz];simp)⟩)
 ·exact h.elim
theorem Np {e sz b:Nat}{zs:List Value}{s x:X}{d:Option Nat}{K:TK}(c:TS G F L ρ M τ) (h:bN P (.app e sz b zs s x) d M τ K):evalOp P (.app e sz b zs s x) d F L ρ (Both G K):=by
 obtain⟨sv,k,f,a,j⟩:=Da c h;simp only[evalOp,f,a];exact j
theorem JX {e sz b:Nat}{zs:List Value}{s x:X}{d:Option Nat}{K:TK}(q:TS G F L ρ M τ) (h:bN P (.appX e sz b zs s x) d M τ K):evalOp P (.appX e sz b zs s x) d F L ρ (Both G K):=by
 obtain⟨sv,u,k,c,⟨p,n,xs,m,news,r,j,l,f,t,a⟩⟩:=Da q h;simp only[evalOp,k,c];exact⟨p,n,xs,m,news,r,j,l,f,t,fun v o _=>a v o⟩
set_option maxHeartbeats 1000000 in
theorem JY {e sz b:Nat}{zs:List Value}{s x:X}{d:Option Nat}{K:TK}(l:TS G F L ρ M τ) (h:bN P (.appD e sz b zs s x) d M τ K):evalOp P (.appD e sz b zs s x) d F L ρ (Both G K):=by
 have y:=l.env;simp only[bN,fe,eL,dR] at h;simp only[evalOp];split at h
 ·rename_i k news p w;split at h
  case h_2=>exact h.elim
  rename_i e' be els m;split at h
  case h_2=>exact h.elim
  rename_i h1 h2;obtain rfl:=vv h1;obtain rfl:=vv h2;obtain⟨q,j,n,t⟩:=h;obtain⟨a,c,xs,e1,e2,hr,hm⟩:=pW l p m;obtain⟨r,c',ab,e3,e4,e5,e6,e7⟩:=j6 y w;obtain⟨ys,z,y2,f⟩:=iY e7 q;rw[e1,e3];exact⟨k,els.length,xs,news.length,ys,.inl e2,⟨r,c',rfl,z,y2⟩,f.ones,j,n,fun v u _=>nC l e2 hr f j t u⟩
 ·rename_i news k p w;split at h
  case h_2=>exact h.elim
  rename_i m;obtain⟨q,j,n,t⟩:=h;obtain⟨r,c',ab,e3,e4,e5,e6,e7⟩:=j6 y w;obtain⟨ys,z,y2,f⟩:=iY e7 q;simp only[abb] at j n;rw[o8 y p,e3];exact⟨k,0,[],news.length,ys,.inr (.inl ⟨rfl,cj l.tl m,rfl,rfl,rfl⟩),⟨r,c',rfl,z,y2⟩,f.ones,j,n,fun v u _=>lK l m f (by omega) t u⟩
 ·rename_i els news k p w;split at h
  case h_2=>exact h.elim
  rename_i m;obtain⟨g0,am,q,j,n,t⟩:=h;obtain⟨a,ax,e1,hm,e2⟩:=BI y p;obtain⟨r,c',ab,e3,e4,e5,e6,e7⟩:=j6 y w;obtain⟨ys,z,y2,f⟩:=iY e7 q;obtain⟨xs,x1,x2,x3⟩:=iY e2 am;rw[e1,e3];refine⟨k,els.length,xs,news.length,ys,.inr (.inr ⟨rfl,cj l.tl m,a,rfl,g0,x1,x2⟩),⟨r,c',rfl,z,y2⟩,f.ones,j,n,fun v u _=>?_⟩;obtain⟨av,cv,rfl,hn⟩:=u;have h1:=l.new (aD.le_refl F) (cj l.tl m) (o:=.row (.slice av (els.length+news.length) cv) e sz (els.length+news.length) (xs++ys)) (to:=.row e sz (els++news)) ⟨rfl,rfl,by simp,⟨j,av,cv,rfl,hn⟩,x3.append f⟩;exact⟨_,_,h1.put (c:=.rw k) (nU (by rw[Loc.aac,eu rfl])) _,t⟩
 ·exact h.elim
theorem JZ {e:Nat}{s x:X}{d:Option Nat}{K:TK}(l:TS G F L ρ M τ) (h:bN P (.appS e s x) d M τ K):evalOp P (.appS e s x) d F L ρ (Both G K):=by
 have r:=l.env;simp only[bN,fe,eL,dR] at h;simp only[evalOp];split at h
 ·rename_i k t n q;split at h
  case h_2=>exact h.elim
  rename_i e' ab els m;split at h
  case h_2=>exact h.elim
  rename_i h1 y;obtain rfl:=vv h1;obtain rfl:=vv y;obtain⟨w,f,j,o⟩:=h;obtain⟨a,c,xs,z,u,hr,hm⟩:=pW l n m;have b:(af t.data.toList).length=t.size:=by simp[af]
  rw[z,(jY r q).1];rw[b] at f j;refine⟨k,els.length,xs,.inl u,f,by simpa using j,fun v p=>?_⟩;have:=nC (news:=af t.data.toList) (v:=v) l u hr (mF t.data.toList) (by rw[b];exact f) o (by rw[b];exact p);rw[b] at this;exact this
 ·rename_i t k n q;split at h
  case h_2=>exact h.elim
  rename_i m;obtain⟨w,f,j,o⟩:=h;have b:(af t.data.toList).length=t.size:=by simp[af]
  rw[o8 r n,(jY r q).1];rw[b] at f j;simp only[abb] at f j;refine⟨k,0,[],.inr ⟨cj l.tl m,rfl,rfl,rfl⟩,f,by simpa using j,fun v p=>?_⟩;have:=lK (news:=af t.data.toList) (v:=v) l m (mF t.data.toList) (by rw[b];omega) o (by rw[b];exact p);rw[b] at this;exact this
 ·exact h.elim
theorem pX {F:aD}(a:IntKind):∀m:Nat,aN F 1 (List.replicate m [C.int a 0]) (List.replicate m (Value.int a 0))
 | 0=>by simp only[List.replicate_zero,aN]
 | m+1=>by
  simp only[abB,aN];refine⟨[.int a 0],_,rfl,rfl,rfl,?_,pX a m⟩;simp only[aF,Rel];exact⟨_,_,rfl,⟨rfl,by cases a<;>rfl⟩,rfl⟩
theorem J0 {e b:Nat}{j:IntKind}{s x:X}{d:Option Nat}{K:TK}(n:TS G F L ρ M τ) (h:bN P (.appZ e b j s x) d M τ K):evalOp P (.appZ e b j s x) d F L ρ (Both G K):=by
 have u:=n.env;simp only[bN,fe,eL,dR] at h;simp only[evalOp];split at h
 ·rename_i k kx i p t;split at h
  case h_2=>exact h.elim
  rename_i e' ac els o;split at h
  case h_2=>exact h.elim
  rename_i h1 z;obtain rfl:=vv h1;obtain rfl:=vv z;obtain⟨m,rfl,y,f,l,q⟩:=h;obtain⟨a,c,xs,e1,w,hr,hm⟩:=pW n p o;rw[e1,(eO u t).1];rw[abw] at f l;refine⟨k,els.length,xs,.inl w,f,l,fun v r=>?_⟩;have:=nC (news:=List.replicate m [C.int j 0]) (v:=v) n w hr (pX j m) (by rw[abw];exact f) q (by rw[abw];exact r);rw[abw] at this;exact this
 ·rename_i kx i k p t;split at h
  case h_2=>exact h.elim
  rename_i o;obtain⟨m,rfl,y,f,l,q⟩:=h;rw[o8 u p,(eO u t).1];rw[abw] at f l;simp only[abb] at f l;refine⟨k,0,[],.inr ⟨cj n.tl o,rfl,rfl,rfl⟩,f,l,fun v r=>?_⟩;have:=lK (news:=List.replicate m [C.int j 0]) (v:=v) n o (pX j m) (by rw[abw];omega) q (by rw[abw];exact r);rw[abw] at this;exact this
 ·exact h.elim
theorem HN {n:Nat}{y x:X}{d:Option Nat}{K:TK}(ht:TS G F L ρ M τ) (h:storeT false n y x d M τ K):evalOp P (.store n y x) d F L ρ (Both G K):=by
 have he:=ht.env;simp only[storeT,fe,eL,dR] at h;simp only[evalOp];split at h
 ·rename_i k off h1 h2 h3 hy;split at h
  case h_3=>exact h.elim
  case h_2 =>
   rename_i t pre cs post hk;rcases h with⟨o,rfl,h⟩ | ⟨pre',bk,bl,be,h⟩
   case inr =>
    obtain⟨g,ty,v1,w,v3,hL,u,z,ao,l⟩:=tw ht.tl hk;have p:=dS he h1;have f:(aK (val L ρ x)).length=n:=by rw[p.len];exact bC h2
    have q:fH (aK (val L ρ x)) n=true:=dh f;have ho:=kZ (gq p h3);rw[q,ho,(eX he hy).1];simp only[hL];have ax:off+n<=v1.length:=by rw[u.len];exact bk
    have s:(((v1++(w++v3)).drop off).take n).length=n:=by
     simp;omega
    rw[fU l.2.2 (dh s)];have al:aP (v1++(w++v3)) off (aK (val L ρ x))=aP v1 off (aK (val L ρ x))++(w++v3):=by
     simp only[aP];rw[List.take_append_of_le_length (by omega),f,List.drop_append_of_le_length ax];simp
    have bs:aF F [] pre' (aP v1 off (aK (val L ρ x))):=by rw[<-be];exact gD u (eI bl p)
    have h4:=ht.turn (o':=.box g ty (aP (v1++(w++v3)) off (aK (val L ρ x)))) (to:=.win t pre' cs post) hL ⟨rfl,rfl⟩ (fun g' t' cs' e=>by injection e with a b c;subst a b;exact⟨_,rfl⟩)
     (fun L' hx=>⟨l,_,w,v3,al,bs,z.ext (aD.le_refl F) hx,ao⟩)
    exact⟨_,_,h4.put (c:=.und) (sv:=.v undef) ⟨_,rfl,by simp only[Rel]⟩ d,h⟩
   split at h
   case h_2=>exact h.elim
   rename_i hl;obtain⟨g,ty,v1,w,v3,hL,u,z,ao,l⟩:=tw ht.tl hk;have p:=dS he h1;have f:(aK (val L ρ x)).length=n:=by rw[p.len];exact bC h2
   have q:fH (aK (val L ρ x)) n=true:=dh f;have ho:=kZ (gq p h3);rw[q,ho,(eX he hy).1];simp only[hL];have ag:=(z.drop o).take n;have ae:((w.drop o).take n).length=n:=by rw[ag.len];exact bC hl
   have s:(((v1++(w++v3)).drop (pre.length+o)).take n).length=n:=by
    rw[<-u.len];simp at ae ⊢;omega
   rw[fU l.2.2 (dh s)];have al:aP (v1++(w++v3)) (pre.length+o) (aK (val L ρ x))=v1++(aP w o (aK (val L ρ x))++v3):=by
    by_cases bz:n=0
    ·have:aK (val L ρ x)=[]:=abg (by omega);rw[this];simp[aP]
    have hn:o+n<=w.length:=by simp at ae;omega
    simp only[aP];rw[<-u.len,List.take_append,abv (by omega),show v1.length+o-v1.length=o by omega,List.take_append_of_le_length (by omega),f,Nat.add_assoc,List.drop_append,List.drop_eq_nil_of_le (by omega),show v1.length+(o+n)-v1.length=o+n by omega,List.drop_append_of_le_length hn];simp
   have h4:=ht.turn (o':=.box g ty (aP (v1++(w++v3)) (pre.length+o) (aK (val L ρ x)))) (to:=.win t pre (fu cs o (cg (cm τ x))) post) hL ⟨rfl,rfl⟩ (fun g' t' cs' e=>by injection e with a b c;subst a b;exact⟨_,rfl⟩)
    (fun L' hx=>⟨l,v1,_,v3,al,u,(gD z p).ext (aD.le_refl F) hx,ao⟩)
   exact⟨_,_,h4.put (c:=.und) (sv:=.v undef) ⟨_,rfl,by simp only[Rel]⟩ d,h⟩
  rename_i t cs hk;split at h
  case h_2=>exact h.elim
  rename_i hl;obtain⟨g,ty,vs,hL,z,l⟩:=kQ ht.tl hk;have p:=dS he h1;have q:fH (aK (val L ρ x)) n=true:=dh (by rw[p.len];exact bC h2);have ho:=kZ (gq p h3);rw[q,ho,(eX he hy).1];simp only[hL];have ag:=(z.drop off).take n;rw[fU l.2.2 (dh (by rw[ag.len];exact bC hl))];have h4:=ht.turn (o':=.box g ty (aP vs off (aK (val L ρ x)))) (to:=.box t (fu cs off (cg (cm τ x)))) hL ⟨rfl,rfl⟩ (fun g' t' cs' e=>by injection e with a b c;subst a b;exact⟨_,rfl⟩)
   (fun L' hx=>⟨l,(gD z p).ext (aD.le_refl F) hx⟩)
  exact⟨_,_,h4.put (c:=.und) (sv:=.v undef) ⟨_,rfl,by simp only[Rel]⟩ d,h⟩
 ·rename_i k j off h1 h2 h3 hy;split at h
  case h_2=>exact h.elim
  rename_i t sz els h0 hk hp;obtain⟨r0,es,r1,r2,r3⟩:=h;obtain⟨ad,t',r,m,c,bp,e1,e2⟩:=um he hy;obtain⟨v,xs,e3,⟨hm,q6⟩,z⟩:=kR ht.tl hk;rw[e2] at e3;injection e3 with e3
  injection e3 with q1 q2 q3 q4 q5
  subst q1 q2 q3 q4 q5;have p:=dS he h1;have f:(aK (val L ρ x)).length=n:=by rw[p.len];exact bC h2
  have q:fH (aK (val L ρ x)) n=true:=dh f;have ho:=kZ (gq p h3);rw[q,ho,e1];have cd:es.length=r:=by
   obtain⟨us,u1,_,u3,_⟩:=z.at r1;rw[<-u1,u3.len]
  have hn:off+n<=r:=aa1 r0;have aw:=z.set (ds:=(cg (cm τ x)).map C.can) (us:=aK (val L ρ x)) (off:=off) r1 (by rw[f];exact hn) (j5 (eI hp p)) (nB h3);have ba:j<els.length:=(w7.1 r1).1;have bj:=iI z;have h4:=ht.turn (o':=.row (.slice (some ad) els.length c) t' r els.length (aP bp (j*r+off) (aK (val L ρ x)))) (to:=.row t' r (els.set j (fu es off ((cg (cm τ x)).map C.can)))) e2 ⟨rfl,rfl,rfl⟩
   (fun g' bx cs' e=>by cases e) (fun L' hx=>⟨rfl,rfl,by simp,⟨hm,_,_,rfl,fun e=>(by cases e)⟩,aw⟩)
  refine⟨.inl ⟨k,_,_,_,_,_,ad,c,e2,rfl,rfl,?_,gq p h3,_,_,h4.put (c:=.und) (sv:=.v undef) ⟨_,rfl,by simp only[Rel]⟩ d,r3 es r1⟩⟩;rw[bj,f];have:(j+1)*r<=els.length*r:=Nat.mul_le_mul_right _ ba;rw[Nat.add_mul] at this;omega
 ·exact h.elim
theorem EQ {n:Nat}{y x:X}{d:Option Nat}{K:TK}(o:TS G F L ρ M τ) (h:EK n y x d M τ K):evalOp P (.store n y x) d F L ρ (Both G K):=by
 have r:=o.env;unfold EK at h;split at h
 ·rename_i es off b hy hx;split at h
  case h_2=>exact h.elim
  rename_i hn;obtain rfl:=vv hn;obtain⟨s,w⟩:=h;obtain⟨b',q,j,vs,k,hp,ho,hr⟩:=pU r hy;have ex:=iJ r hx;have m:vs[off]?=some (.bool b):=by
   obtain⟨r1,r2⟩:=jU.1 hr;have a:off<vs.length:=by rw[r1];exact(w7.1 s).1
   have:=r2 off _ _ s (v7 a);simp only[Rel] at this;rw[v7 a,this]
  have l:bU F (some ⟨b',q,none⟩) j [.bool b]:=by
   have:=j4 (n:=1) (es:=es) hp;have e:(vs.drop off).take 1=[.bool b]:=by
    have a:off<vs.length:=(w7.1 m).1;rw[abD a];rw[v7 a] at m;injection m with m
    rw[m];rfl
   rwa [e] at this
  have p:Both G K F L (Fr.put d (.v undef) ρ):=⟨_,_,o.put (c:=.und) (sv:=.v undef) ⟨_,rfl,by simp only[Rel]⟩ d,w⟩;have f:∀u∈[Value.bool b],u.oneCell'=true:=fun u hu=>by rw[abu.1 hu];rfl
  have t:aK (val L ρ x)=[.bool b]:=by simp only[val,ex,conc,aK]
  have e3:fH [Value.bool b] 1=true:=rfl;have z:jz [Value.bool b]=true:=rfl;simp only[evalOp,t,e3,z];rcases k with⟨k,rfl⟩ | k
  ·rw[k];exact⟨.inr ⟨l,f,p⟩⟩
  ·rw[k];exact⟨.inr ⟨l,f,p⟩⟩
 ·exact HN o h
theorem ER {n:Nat}{y x:X}{d:Option Nat}{K:TK}(ht:TS G F L ρ M τ) (h:storeT false n y x d M τ K):evalOp P (.storeX n y x) d F L ρ (Both G K):=by
 have he:=ht.env;simp only[storeT,fe,eL,dR] at h;simp only[evalOp];split at h
 ·rename_i k off h1 h2 h3 hy;split at h
  case h_3=>exact h.elim
  case h_2 =>
   rename_i t pre cs post hk;rcases h with⟨o,rfl,h⟩ | ⟨pre',bk,bl,be,h⟩
   case inr =>
    obtain⟨g,ty,v1,w,v3,hL,u,z,ao,l⟩:=tw ht.tl hk;have p:=dS he h1;have f:(aK (val L ρ x)).length=n:=by rw[p.len];exact bC h2
    have q:fH (aK (val L ρ x)) n=true:=dh f;have ho:=kZ (gq p h3);rw[q,ho,(eX he hy).1];simp only[hL];have ax:off+n<=v1.length:=by rw[u.len];exact bk
    have s:(((v1++(w++v3)).drop off).take n).length=n:=by
     simp;omega
    rw[fU l.2.2 (dh s)];have al:aP (v1++(w++v3)) off (aK (val L ρ x))=aP v1 off (aK (val L ρ x))++(w++v3):=by
     simp only[aP];rw[List.take_append_of_le_length (by omega),f,List.drop_append_of_le_length ax];simp
    have bs:aF F [] pre' (aP v1 off (aK (val L ρ x))):=by rw[<-be];exact gD u (eI bl p)
    have h4:=ht.turn (o':=.box g ty (aP (v1++(w++v3)) off (aK (val L ρ x)))) (to:=.win t pre' cs post) hL ⟨rfl,rfl⟩ (fun g' t' cs' e=>by injection e with a b c;subst a b;exact⟨_,rfl⟩)
     (fun L' hx=>⟨l,_,w,v3,al,bs,z.ext (aD.le_refl F) hx,ao⟩)
    exact fun _=>⟨_,_,h4.put (c:=.und) (sv:=.v undef) ⟨_,rfl,by simp only[Rel]⟩ d,h⟩
   split at h
   case h_2=>exact h.elim
   rename_i hl;obtain⟨g,ty,v1,w,v3,hL,u,z,ao,l⟩:=tw ht.tl hk;have p:=dS he h1;have f:(aK (val L ρ x)).length=n:=by rw[p.len];exact bC h2
   have q:fH (aK (val L ρ x)) n=true:=dh f;have ho:=kZ (gq p h3);rw[q,ho,(eX he hy).1];simp only[hL];have ag:=(z.drop o).take n;have ae:((w.drop o).take n).length=n:=by rw[ag.len];exact bC hl
   have s:(((v1++(w++v3)).drop (pre.length+o)).take n).length=n:=by
    rw[<-u.len];simp at ae ⊢;omega
   rw[fU l.2.2 (dh s)];have al:aP (v1++(w++v3)) (pre.length+o) (aK (val L ρ x))=v1++(aP w o (aK (val L ρ x))++v3):=by
    by_cases bz:n=0
    ·have:aK (val L ρ x)=[]:=abg (by omega);rw[this];simp[aP]
    have hn:o+n<=w.length:=by simp at ae;omega
    simp only[aP];rw[<-u.len,List.take_append,abv (by omega),show v1.length+o-v1.length=o by omega,List.take_append_of_le_length (by omega),f,Nat.add_assoc,List.drop_append,List.drop_eq_nil_of_le (by omega),show v1.length+(o+n)-v1.length=o+n by omega,List.drop_append_of_le_length hn];simp
   have h4:=ht.turn (o':=.box g ty (aP (v1++(w++v3)) (pre.length+o) (aK (val L ρ x)))) (to:=.win t pre (fu cs o (cg (cm τ x))) post) hL ⟨rfl,rfl⟩ (fun g' t' cs' e=>by injection e with a b c;subst a b;exact⟨_,rfl⟩)
    (fun L' hx=>⟨l,v1,_,v3,al,u,(gD z p).ext (aD.le_refl F) hx,ao⟩)
   exact fun _=>⟨_,_,h4.put (c:=.und) (sv:=.v undef) ⟨_,rfl,by simp only[Rel]⟩ d,h⟩
  rename_i t cs hk;split at h
  case h_2=>exact h.elim
  rename_i hl;obtain⟨g,ty,vs,hL,z,l⟩:=kQ ht.tl hk;have p:=dS he h1;have q:fH (aK (val L ρ x)) n=true:=dh (by rw[p.len];exact bC h2);have ho:=kZ (gq p h3);rw[q,ho,(eX he hy).1];simp only[hL];have ag:=(z.drop off).take n;rw[fU l.2.2 (dh (by rw[ag.len];exact bC hl))];have h4:=ht.turn (o':=.box g ty (aP vs off (aK (val L ρ x)))) (to:=.box t (fu cs off (cg (cm τ x)))) hL ⟨rfl,rfl⟩ (fun g' t' cs' e=>by injection e with a b c;subst a b;exact⟨_,rfl⟩)
   (fun L' hx=>⟨l,(gD z p).ext (aD.le_refl F) hx⟩)
  exact fun _=>⟨_,_,h4.put (c:=.und) (sv:=.v undef) ⟨_,rfl,by simp only[Rel]⟩ d,h⟩
 ·rename_i k j off h1 h2 h3 hy;split at h
  case h_2=>exact h.elim
  rename_i t sz els h0 hk hp;obtain⟨r0,es,r1,r2,r3⟩:=h;obtain⟨ad,t',r,m,c,bp,e1,e2⟩:=um he hy;obtain⟨v,xs,e3,⟨hm,q6⟩,z⟩:=kR ht.tl hk;rw[e2] at e3;injection e3 with e3
  injection e3 with q1 q2 q3 q4 q5
  subst q1 q2 q3 q4 q5;have p:=dS he h1;have f:(aK (val L ρ x)).length=n:=by rw[p.len];exact bC h2
  have q:fH (aK (val L ρ x)) n=true:=dh f;have ho:=kZ (gq p h3);rw[q,ho,e1];have cd:es.length=r:=by
   obtain⟨us,u1,_,u3,_⟩:=z.at r1;rw[<-u1,u3.len]
  have hn:off+n<=r:=aa1 r0;have aw:=z.set (ds:=(cg (cm τ x)).map C.can) (us:=aK (val L ρ x)) (off:=off) r1 (by rw[f];exact hn) (j5 (eI hp p)) (nB h3);have ba:j<els.length:=(w7.1 r1).1;have bj:=iI z;have h4:=ht.turn (o':=.row (.slice (some ad) els.length c) t' r els.length (aP bp (j*r+off) (aK (val L ρ x)))) (to:=.row t' r (els.set j (fu es off ((cg (cm τ x)).map C.can)))) e2 ⟨rfl,rfl,rfl⟩
   (fun g' bx cs' e=>by cases e) (fun L' hx=>⟨rfl,rfl,by simp,⟨hm,_,_,rfl,fun e=>(by cases e)⟩,aw⟩)
  refine⟨k,_,_,_,_,_,ad,c,e2,rfl,rfl,?_,gq p h3,fun _=>⟨_,_,h4.put (c:=.und) (sv:=.v undef) ⟨_,rfl,by simp only[Rel]⟩ d,r3 es r1⟩⟩;rw[bj,f];have:(j+1)*r<=els.length*r:=Nat.mul_le_mul_right _ ba;rw[Nat.add_mul] at this;omega
 ·exact h.elim
theorem yg {n:Nat}{y x:X}{d:Option Nat}{K:TK}(m:TS G F L ρ M τ) (h:storeT true n y x d M τ K):evalOp P (.storeD n y x) d F L ρ (Both G K):=by
 have q:=m.env;simp only[storeT,fe,eL,dR] at h;simp only[evalOp];split at h
 ·rename_i k off h1 u w z;split at h
  case h_3=>exact h.elim
  case h_2=>exact h.elim
  rename_i t cs hk;split at h
  case h_2=>exact h.elim
  rename_i hl;obtain⟨g,ty,vs,r,p,f⟩:=kQ m.tl hk;have l:=dS q h1;have o:fH (aK (val L ρ x)) n=true:=dh (by rw[l.len];exact bC u);have ho:=kZ (gq l w);rw[o,ho,(eX q z).1];simp only[r];have j:=(p.drop off).take n;rw[fU f.2.2 (dh (by rw[j.len];exact bC hl))];have s:=m.turn (o':=.box g ty (aP vs off (aK (val L ρ x)))) (to:=.box t (fu cs off (cg (cm τ x)))) r ⟨rfl,rfl⟩ (fun g' t' cs' e=>by injection e with a b c;subst a b;exact⟨_,rfl⟩)
   (fun L' hx=>⟨f,(gD p l).ext (aD.le_refl F) hx⟩)
  exact⟨_,_,s.put (c:=.und) (sv:=.v undef) ⟨_,rfl,by simp only[Rel]⟩ d,h⟩
 ·exact h.elim
 ·exact h.elim
theorem HO {e sz b:Nat}{zs:List Value}{l c:X}{d:Option Nat}{K:TK}(j:TS G F L ρ M τ) (h:bN P (.makeS e sz b zs l c) d M τ K):evalOp P (.makeS e sz b zs l c) d F L ρ (Both G K):=by
 have q:=j.env;simp only[bN,fe,eL,dR] at h;simp only[evalOp];split at h
 case h_2=>exact h.elim
 rename_i k1 n k2 m k hl y;split at h
 case h_2=>exact h.elim
 rename_i z h1 t;rw[(eO q hl).1,(eO q y).1];have a:=cj j.tl z;simp only[a];obtain⟨s,r,g3,p,u⟩:=h;refine⟨s,r,g3,p,fun g=>?_⟩;have x:aF F [] ((zs.map sG).map C.can) zs:=j5 (lI zs);have f:∀i:Nat,aN F sz (List.replicate i ((zs.map sG).map C.can)) (List.replicate i zs).flatten:=by
  intro i
  induction i with
  | zero=>simp only[List.replicate_zero,List.flatten_nil,aN]
  | succ i v =>
   simp only[abB,List.flatten_cons,aN];exact⟨zs,_,rfl,by have:=bC h1;simpa using this,nB t,x,v⟩
 have w:=j.new (aD.le_refl F) a (o:=.row (.slice (some ⟨g,0,none⟩) n.toNat m.toNat) e sz n.toNat (List.replicate n.toNat zs).flatten) (to:=.row e sz (List.replicate n.toNat ((zs.map sG).map C.can)))
  ⟨rfl,rfl,by simp,⟨abz (Int.toNat_le_toNat r) p,_,_,rfl,fun e=>(by cases e)⟩,f _⟩
 exact⟨_,_,w.put (c:=.rw k) (nU (by rw[Loc.aac,eu rfl])) (some k),u⟩
end
section
variable {P:Program}{G:Nat->Option (Nat×TypeId)}{F:aD}{L:Loc}{ρ:Env}{M:TL}{τ:aV}
theorem BM:∀{ks:List Nat}{i j m:Nat},bZ ks i j=some m->∃n,ks[n]?=some j/\m=i+n
 | [],_,_,_,h=>by simp[bZ] at h
 | k::ks,i,j,m,h=>by
  simp only[bZ] at h;cases a:Nat.beq j k with
  | true =>
   have:=vv a;subst this;rw[a] at h;injection h with h
   exact⟨0,by simp,by omega⟩
  | false =>
   rw[a] at h;obtain⟨n,b,c⟩:=BM h;exact⟨n+1,by simpa using b,by omega⟩
theorem mS {ko:List Nat}{j m:Nat}(h:aZ ko j=some m):1000<=j/\ko[j-1000]?=some m:=by
 simp only[aZ] at h;split at h
 ·rename_i a;exact⟨aa1 a,h⟩
 ·cases h
theorem cU:∀{l:List Nat},bJ l=true->l.Nodup
 | [],_=>List.nodup_nil
 | k::l,h=>by
  simp only[bJ] at h;split at h
  ·cases h
  ·rename_i a;exact List.nodup_cons.2 ⟨fun b=>(by rw[cS.2 b] at a;cases a),cU h⟩
theorem J1 {L':Loc}{f:Nat->Option Nat}(k:∀j m,f j=some m->∀o,L.get j=some o->L'.get m=some o) (c:C) (v:Value) (s:c.leaf=true) (h:Rel F L c v):Rel F L' (ug f c) v:=by
 cases c<;>simp only[C.leaf,aaX] at s<;>simp only[ug]
 case rw j =>
  simp only[Rel] at h;obtain⟨a,c,t,sz,n,xs,rfl,h⟩:=h;cases d:f j with
  | none=>simp only[Rel]
  | some m=>simp only[Rel];exact⟨a,c,t,sz,n,xs,rfl,k j m d _ h⟩
 case own j off =>
  simp only[Rel] at h;obtain⟨g,t,cs,h,rfl⟩:=h;cases d:f j with
  | none=>simp only[Rel]
  | some m=>simp only[Rel];exact⟨g,t,cs,k j m d _ h,rfl⟩
 case ifo m ti j off =>
  simp only[Rel] at h;obtain⟨g,t,cs,h,rfl⟩:=h;cases d:f j with
  | none=>simp only[Rel]
  | some m=>simp only[Rel];exact⟨g,t,cs,k j m d _ h,rfl⟩
 case mpr j =>
  simp only[Rel] at h;obtain⟨g,cs,h,rfl⟩:=h;cases d:f j with
  | none=>simp only[Rel]
  | some m=>simp only[Rel];exact⟨g,cs,k j m d _ h,rfl⟩
 case ownv=>exact h.elim
 case elr j a b =>
  simp only[Rel] at h;obtain⟨l,t,sz,n,c,xs,rfl,h⟩:=h;cases d:f j with
  | none=>simp only[Rel]
  | some m=>simp only[Rel];exact⟨l,t,sz,n,c,xs,rfl,k j m d _ h⟩
 case slo j a =>
  simp only[Rel] at h;obtain⟨g,t,cs,l,h,q,r,p⟩:=h;cases d:f j with
  | none=>simp only[Rel]
  | some m=>simp only[Rel];exact⟨g,t,cs,l,k j m d _ h,q,r,p⟩
 case slp=>exact h.elim
 all_goals
  exact bB (aD.le_refl F) (fun u e=>by rcases e with⟨off,e⟩ | e | e | ⟨_,_,_,e⟩ | ⟨_,_,e⟩<;>cases e) rfl h
theorem Rel.ren {L':Loc}{f:Nat->Option Nat}(a:∀j m,f j=some m->∀o,L.get j=some o->L'.get m=some o) {c:C}{v:Value}(h:Rel F L c v):Rel F L' (c.ren f) v:=Rel.mp (J1 a) 3 h
theorem cZ.ren {L':Loc}{f:Nat->Option Nat}(a:∀j m,f j=some m->∀o,L.get j=some o->L'.get m=some o):∀{o:TO}{p:Own},cZ F L o p->cZ F L' (o.aag (C.ren f)) p
 | .box t cs,.box g b vs,r=>⟨r.1,r.2.map fun c _ v h=>h.ren a⟩
 | .row t sz els,.row v b q n xs,r=>r
 | .box _ _,.row ..,r=>r.elim
 | .row ..,.box ..,r=>r.elim
 | .map _,.row ..,r=>r.elim
 | .map es,.box g b vs,r=>r
 | .win ..,.row ..,r=>r.elim
 | .win ..,.box ..,⟨s,v1,d,v3,e,u,k,l⟩=>⟨s,v1,d,v3,e,u,k.map fun c _ v h=>h.ren a,l⟩
theorem qV (e:dc F L M):∀{ks:List Nat}{Lin:List TO},M.sub ks=some Lin->∃Li,L.sub ks=some Li/\Li.length=Lin.length/\∀(i:Nat) o p,Lin[i]?=some o->Li[i]?=some p->cZ F L o p
 | [],Lin,h=>by simp only[TL.sub,vz] at h;subst h;exact⟨[],rfl,rfl,by simp⟩
 | k::ks,Lin,h=>by
  simp only[TL.sub] at h;split at h
  case h_2=>cases h
  rename_i o l f n;injection h with h
  subst h;obtain⟨Li,q,m,s⟩:=qV e n;rcases eF (e k) with⟨a,j⟩ | ⟨o',p,a,j,r⟩
  ·rw[f] at a;cases a
  ·rw[f] at a;injection a with a
   subst a;refine⟨p::Li,by simp only[Loc.sub,j,q],by simp[m],fun i d c hi b=>?_⟩;cases i with
   | zero=>simp only[aa0,vz] at hi b;subst hi;subst b;exact r
   | succ i=>exact s i d c (by simpa using hi) (by simpa using b)
theorem nV {ks:List Nat}{Li:List Own}(a:L.sub ks=some Li):∀j m,bZ ks 1000 j=some m->∀o,L.get j=some o->(inp Li).get m=some o:=by
 intro j m h o c;obtain⟨n,b,rfl⟩:=BM h;obtain⟨_,d⟩:=eM a;rw[aX,eu (by omega),show 1000+n-1000=n by omega,<-d n j b];exact c
theorem tC (f:dc F L M) {ks:List Nat}{Lin:List TO}{Li:List Own}(e:Li.length=Lin.length) (c:L.sub ks=some Li) (d:∀(i:Nat) o p,Lin[i]?=some o->Li[i]?=some p->cZ F L o p) :
  dc F (inp Li) (jm (Lin.map (TO.aag (C.ren (bZ ks 1000))))):=by
 intro k;rw[cB,aX];split
 ·rw[abr];cases b:Lin[k-1000]? with
  | none =>
   have:Li[k-1000]?=none:=by rw[abC] at b ⊢;omega
   rw[this];trivial
  | some o =>
   have a:k-1000<Li.length:=by have:=(w7.1 b).1;omega
   rw[v7 a];exact(d _ _ _ b (v7 a)).ren (nV c)
 ·trivial
def mG (L:Loc) (k:Nat):Loc:=match L.get k with | some (.row ..)=>L.del k | _=>L
def nD:List Nat->Loc->Loc
 | [],L=>L
 | k::ks,L=>nD ks (mG L k)
theorem vA (k:Nat):(∀c v,c.leaf=true->Rel F L c v->Rel F (mG L k) (gQ k c) v)/\(∀c sv,c.leaf=true->aQ F L c sv->aQ F (mG L k) (gQ k c) sv):=by
 by_cases a:∃v t sz n xs,L.get k=some (.row v t sz n xs)
 ·obtain⟨v,t,sz,n,xs,a⟩:=a;have e:mG L k=L.del k:=by simp only[mG,a]
  rw[e];have d:∀g t cs,L.get k≠some (.box g t cs):=fun g t cs h=>by rw[a] at h;injection h with h;cases h
  have b:∀j,j≠k->∀o,L.get j=some o->∃o',(L.del k).get j=some o'/\Own.like o o':=fun j m o f=>⟨o,by rw[Loc.aai,o6 m];exact f,Own.aah o⟩;exact⟨kS d b (aD.le_refl F),pV d b (aD.le_refl F)⟩
 ·have e:mG L k=L:=by
   simp only[mG];split
   ·rename_i h;exact o4 ⟨_,_,_,_,_,h⟩ a
   ·rfl
  rw[e];refine⟨fun c v l h=>?_,fun c sv l h=>?_⟩
  ·cases c<;>simp only[gQ]<;>first
    | exact h
    | exact h.elim
    | (split<;>first | exact h | (simp only[Rel];done))
  ·cases c<;>simp only[gQ]<;>first
    | exact h
    | trivial
    | (split<;>first | exact h | trivial)
theorem Rel.kills:∀(ks:List Nat) {L:Loc}{c:C}{v:Value},Rel F L c v->Rel F (nD ks L) (C.kills ks c) v
 | [],L,c,v,h=>h
 | k::ks,L,c,v,h=>Rel.kills ks (Rel.mp (vA k).1 3 h)
theorem aQ.kills:∀(ks:List Nat) {L:Loc}{c:C}{sv:SV},aQ F L c sv->aQ F (nD ks L) (C.kills ks c) sv
 | [],L,c,sv,h=>h
 | k::ks,L,c,sv,h=>aQ.kills ks (aQ.mp (vA k).1 (vA k).2 3 h)
theorem cZ.kills (ks:List Nat) {L:Loc}:∀{o:TO}{p:Own},cZ F L o p->cZ F (nD ks L) (o.aag (C.kills ks)) p
 | .box t cs,.box g a vs,r=>⟨r.1,r.2.map fun c _ v h=>h.kills ks⟩
 | .row t sz els,.row v a j n xs,r=>r
 | .box _ _,.row ..,r=>r.elim
 | .row ..,.box ..,r=>r.elim
 | .map _,.row ..,r=>r.elim
 | .map es,.box g a vs,r=>r
 | .win ..,.row ..,r=>r.elim
 | .win ..,.box ..,⟨k,v1,b,v3,e,l,d,f⟩=>⟨k,v1,b,v3,e,l,d.map fun c _ v h=>h.kills ks,f⟩
theorem Db {k j:Nat}{o:Own}(h:(mG L k).get j=some o):L.get j=some o/\(j=k->∃g t cs,o=.box g t cs):=by
 unfold mG at h;split at h
 ·rw[Loc.aai] at h;split at h
  ·cases h
  ·rename_i a;exact⟨h,fun e=>o4 e a⟩
 ·rename_i b;refine⟨h,fun e=>?_⟩;subst e;cases o with
  | box g t cs=>exact⟨g,t,cs,rfl⟩
  | row v t sz n xs=>exact o4 h (b v t sz n xs)
theorem pY:∀{ks:List Nat}{L:Loc}{j:Nat}{o:Own},(nD ks L).get j=some o->L.get j=some o/\(j∈ks->∃g t cs,o=.box g t cs)
 | [],L,j,o,h=>⟨h,by simp⟩
 | k::ks,L,j,o,h=>by
  obtain⟨a,d⟩:=pY (ks:=ks) h;obtain⟨f,c⟩:=Db a;exact⟨f,fun b=>by
   rcases xC.1 b with e | e
   ·exact c e
   ·exact d e⟩
theorem yh (ks:List Nat) (M:TL) (k:Nat):(TL.kills ks M).get k=(M.get k).map (TO.aag (C.kills ks)):=by
 cases ks with
 | nil =>
  simp only[TL.kills];cases M.get k with
  | none=>rfl
  | some o =>
   cases o with
   | box t cs =>
    have e:(C.kills []:C->C)=id:=rfl;simp[TO.aag,e]
   | row t sz els=>rfl
   | map es=>rfl
   | win t pre cs post =>
    have e:(C.kills []:C->C)=id:=rfl;simp[TO.aag,e]
 | cons a ks=>exact qU _ _ _
theorem yj (ks:List Nat) (τ:aV) (j:Nat):fw ks τ j=(τ j).kills ks:=by cases ks<;>rfl
def BN:TO->Bool
 | .row _ _ _=>true
 | _=>false
theorem eT:∀{Lin:List TO}{ks ko:List Nat},aT Lin ks ko=true->∀(i:Nat) o,Lin[i]?=some o->BN o=false->∃k,ks[i]?=some k/\ko[i]?=some k
 | [],_,_,_,i,o,e,_=>by simp at e
 | .box f d::l,[],ko,h,i,o,e,_=>by cases ko<;>simp[aT] at h
 | .box f d::l,k::ks,[],h,i,o,e,_=>by simp[aT] at h
 | .box f d::l,k::ks,c::ko,h,i,o,e,a=>by
  simp only[aT] at h;split at h
  case h_2=>cases h
  rename_i b;have:=vv b;subst this;cases i with
  | zero=>exact⟨k,by simp,by simp⟩
  | succ i=>simpa using eT h i o (by simpa using e) a
 | .map es::l,[],ko,h,i,o,e,_=>by cases ko<;>simp[aT] at h
 | .map es::l,k::ks,[],h,i,o,e,_=>by simp[aT] at h
 | .map es::l,k::ks,c::ko,h,i,o,e,a=>by
  simp only[aT] at h;split at h
  case h_2=>cases h
  rename_i b;have:=vv b;subst this;cases i with
  | zero=>exact⟨k,by simp,by simp⟩
  | succ i=>simpa using eT h i o (by simpa using e) a
 | .win ..::l,[],ko,h,i,o,e,_=>by cases ko<;>simp[aT] at h
 | .win ..::l,k::ks,[],h,i,o,e,_=>by simp[aT] at h
 | .win ..::l,k::ks,c::ko,h,i,o,e,a=>by
  simp only[aT] at h;split at h
  case h_2=>cases h
  rename_i b;have:=vv b;subst this;cases i with
  | zero=>exact⟨k,by simp,by simp⟩
  | succ i=>simpa using eT h i o (by simpa using e) a
 | .row ..::l,k::ks,c::ko,h,i,o,e,a=>by
  simp only[aT] at h;cases i with
  | zero =>
   simp only[aa0,vz] at e;subst e;cases a
  | succ i=>simpa using eT h i o (by simpa using e) a
 | .row ..::l,k::ks,[],h,i,o,e,a=>by
  simp only[aT] at h;cases i with
  | zero =>
   simp only[aa0,vz] at e;subst e;cases a
  | succ i =>
   obtain⟨c,m,j⟩:=eT h i o (by simpa using e) a;simp at j
 | .row ..::l,[],ko,h,i,o,e,_=>by simp[aT] at h
theorem yp {Lin:List TO}{ks ko:List Nat}(h:aT Lin ks ko=true) (i:Nat) (t:TypeId) (cs:List C) (e:Lin[i]?=some (.box t cs)):∃k,ks[i]?=some k/\ko[i]?=some k:=eT h i _ e rfl
theorem rO {M:TL}{ks:List Nat}:∀{ko:List Nat},mE M ks ko=true->∀k∈ko,k∈ks\/M.get k=none
 | [],_,k,a=>by simp at a
 | k0::ko,h,k,a=>by
  simp only[mE] at h;rcases xC.1 a with e | e
  ·subst e;split at h
   ·rename_i b;exact .inl (cS.1 b)
   ·rename_i b c;exact .inr c
   ·cases h
  ·split at h
   ·exact rO h k e
   ·exact rO h k e
   ·cases h
theorem cN {ko:List Nat}{Lo:List Own}{L:Loc}(c:ko.Nodup) (d:ko.length=Lo.length) {i k:Nat}{o:Own}(b:ko[i]?=some k) (f:Lo[i]?=some o):(L.puts ko Lo).get k=some o:=by
 rcases dA ko Lo L k c d with⟨_,a⟩ | ⟨h,e,a,_⟩
 ·exact o4 (aaQ b) a
 ·have:=z9 c e b;subst this;rw[a,f]
theorem tD {k:Nat}{t sz:Nat}{els:List (List C)}(h:M.get k=some (.row t sz els)):∀{ks:List Nat},k∈ks->k∈rowsOf M ks
 | [],a=>by cases a
 | j::ks,a=>by
  simp only[rowsOf];rcases xC.1 a with rfl | a
  ·rw[h];simp
  ·split
   ·exact aa8 _ (tD h a)
   ·exact tD h a
theorem yq {ks:List Nat}{k:Nat}{o:Own}(f:dc F L M) (e:k∈ks) (h:L.get k=some o) (hb:k∈rowsOf M ks->∃g t cs,o=.box g t cs):∃g t cs,o=.box g t cs:=by
 rcases eF (f k) with⟨d,a⟩ | ⟨q,p,d,a,c⟩
 ·rw[h] at a;cases a
 ·rw[h] at a;injection a with a
  subst a;cases q with
  | row t sz els=>exact hb (tD d e)
  | box t cs =>
   cases o with
   | row=>exact c.elim
   | box g b cs'=>exact⟨g,b,cs',rfl⟩
  | map es =>
   cases o with
   | row=>exact c.elim
   | box g b cs'=>exact⟨g,b,cs',rfl⟩
  | win t pre cs post =>
   cases o with
   | row=>exact c.elim
   | box g b cs'=>exact⟨g,b,cs',rfl⟩
theorem rP {f:Nat}{args:List C}{vs:List Value}{ks ko:List Nat}{Lin:List TO}{R:List TO->C->Prop}{K:TL->aV->C->Prop}(ht:TS G F L ρ M τ) (ha:aF F L args vs)
  (h1:M.sub ks=some Lin) (h2:bJ ks=true) (h3:bJ ko=true) (h4:mE M ks ko=true) (h5:aT Lin ks ko=true)
  (h6:CallsT P f (args.map fun c=>c.aaj.ren (bZ ks 1000)) (Lin.map (TO.aag (C.ren (bZ ks 1000)))) R)
  (h7:∀v Mo,R Mo v->Wf v->(∀o∈Mo,o.Wf)->ko.length=Mo.length/\K (((M.aaf ks).kills (rowsOf M ks)).puts ko (Mo.map (TO.aag (C.ren (aZ ko))))) (fw (rowsOf M ks) τ) (v.ren (aZ ko)).slt) :
  dz P f vs F L (fun F' L' v=>∃M' al c,TS G F' L' ρ M' al/\aQ F' L' c (.v v)/\K M' al c):=by
 obtain⟨Li,e1,e2,e3⟩:=qV ht.tl h1;have hn:=cU h2;have l:=cU h3;have am:∀k,k∈ko->k∈ks\/L.get k=none:=fun k q=>(rO h4 k q).imp id fun e=>cj ht.tl e;have aw:=eM e1;refine⟨ks,ko,Li,gW Li R,e1,hn,l,am,h6.out F Li vs (by simp[e2]) (tC ht.tl e2 e1 e3) ?_,?_⟩
 ·exact ha.map fun c _ v hc=>(iK hc).ren (nV e1)
 ·rintro v F' Lo hF ⟨Mo,c,q1,q2,q3,q4,q5⟩;have ax:∀o∈Mo,o.Wf:=by
   intro o z;obtain⟨i,hi⟩:=abd.1 z;have d:i<Lo.length:=by rw[<-q1];exact(w7.1 hi).1
   have:=q2 (1000+i);rw[cB,aX,eu (by omega),eu (by omega),show 1000+i-1000=i by omega,hi,v7 d] at this;exact cZ.wf this
  obtain⟨k1,k2⟩:=h7 c Mo q5 q3.wf ax;have a:ko.length=Lo.length:=by rw[k1,q1]
  have b:∀k g t cs,k∈ks->L.get k=some (.box g t cs)->∃cs',Loc.get ((L.aaf ks).puts ko Lo) k=some (.box g t cs'):=by
   intro k g t cs q hg;obtain⟨i,hi⟩:=abd.1 q;have u:Li[i]?=some (.box g t cs):=by rw[<-aw.2 i k hi];exact hg
   have d:i<Lin.length:=by rw[<-e2];exact(w7.1 u).1
   have hr:=e3 i _ _ (v7 d) u;cases hL:Lin[i] with
   | row=>rw[hL] at hr;exact hr.elim
   | box t' cs' =>
    obtain⟨k',n,b2⟩:=yp h5 i t' cs' (by rw[v7 d,hL]);rw[hi] at n;injection n with n
    subst n;obtain⟨s,w⟩:=q4 i g t cs u;exact⟨s,cN l a b2 w⟩
   | map es =>
    obtain⟨k',n,b2⟩:=eT h5 i (.map es) (by rw[v7 d,hL]) rfl;rw[hi] at n;injection n with n
    subst n;obtain⟨s,w⟩:=q4 i g t cs u;exact⟨s,cN l a b2 w⟩
   | win t0 p0 c0 q0 =>
    obtain⟨k',n,b2⟩:=eT h5 i (.win t0 p0 c0 q0) (by rw[v7 d,hL]) rfl;rw[hi] at n;injection n with n
    subst n;obtain⟨s,w⟩:=q4 i g t cs u;exact⟨s,cN l a b2 w⟩
  refine⟨a,b,?_⟩;generalize x:(L.aaf ks).puts ko Lo=L' at b
  -- what was there before
  have ac:∀k,k∉ks->∀o,L.get k=some o->L'.get k=some o:=by
   intro k q o z;rw[<-x];rcases dA ko Lo (L.aaf ks) k l a with⟨y,a2⟩ | ⟨i,y,a2,a3⟩
   ·rw[y,fL,o6 q];exact z
   ·rcases am k (aaQ y) with e | e
    ·exact o4 e q
    ·rw[z] at e;cases e
  have ad:Ext (nD (rowsOf M ks) L) L':=by
   intro k o z;obtain⟨g1,g2⟩:=pY z
   by_cases q:k∈ks
   ·obtain⟨g,t,cs,rfl⟩:=yq ht.tl q g1 g2;obtain⟨cs',h⟩:=b k g t cs q g1;exact⟨_,h,rfl,rfl⟩
   ·exact⟨o,ac k q o g1,Own.aah o⟩
  have r:∀j m,aZ ko j=some m->∀o,(inp Lo).get j=some o->L'.get m=some o:=by
   intro j m hj o z;obtain⟨y,a2⟩:=mS hj;rw[aX,eu y] at z;rw[<-x];exact cN l a a2 z
  refine⟨_,_,_,⟨fun k=>?_,fun j=>?_,fun k g t e=>?_,ht.glob.mono hF⟩,jZ (q3.ren r),k2⟩
  ·rcases mR ko (Mo.map (TO.aag (C.ren (aZ ko)))) ((M.aaf ks).kills (rowsOf M ks)) k l (by simp[k1]) with⟨y,a2⟩ | ⟨i,y,a2,a3⟩
   ·have ae:L'.get k=(L.aaf ks).get k:=by
     rw[<-x];rcases dA ko Lo (L.aaf ks) k l a with⟨n,_⟩ | ⟨i,n,_,_⟩
     ·exact n
     ·exact o4 (aaQ n) a2
    rw[y,ae,yh,o9,fL];split
    ·trivial
    ·rcases eF (ht.tl k) with⟨c1,c2⟩ | ⟨o,p,c1,c2,hr⟩
     ·rw[c1,c2];trivial
     ·rw[c1,c2];exact(hr.kills (rowsOf M ks)).ext hF ad
   ·rw[a2,abr];have d:i<Mo.length:=by simpa using a3
    have ab:i<Lo.length:=by omega
    have ae:L'.get k=some (Lo[i]):=by rw[<-x];exact cN l a y (v7 ab)
    rw[ae,v7 d];have:=q2 (1000+i);rw[cB,aX,eu (by omega),eu (by omega),show 1000+i-1000=i by omega,v7 d,v7 ab] at this;exact cZ.ren r this
  ·rw[yj];exact((ht.env j).kills (rowsOf M ks)).ext hF ad
  ·obtain⟨cs,h⟩:=ht.kp k g t e
   by_cases q:k∈ks
   ·exact b k g t cs q h
   ·exact⟨cs,ac k q _ h⟩
theorem vB {f:Nat}{args:List C}{vs:List Value}{ks:List Nat}{Lin:List TO}{R:List TO->C->Prop}{K:TL->aV->C->Prop}(ht:TS G F L ρ M τ) (ha:aF F L args vs)
  (h1:M.sub ks=some Lin) (h2:bJ ks=true) (h6:wM P f (args.map fun c=>c.aaj.ren (bZ ks 1000)) (Lin.map (TO.aag (C.ren (bZ ks 1000)))) R)
  (h7:∀v Mo,R Mo v->Wf v->(∀o∈Mo,o.Wf)->ks.length=Mo.length/\K ((M.aaf ks).puts ks (Mo.map (TO.aag (C.ren (aZ ks))))) τ (v.ren (aZ ks)).slt) :
  dz P f vs F L (fun F' L' v=>∃M' ae c,TS G F' L' ρ M' ae/\aQ F' L' c (.v v)/\K M' ae c):=by
 obtain⟨Li,e1,e2,e3⟩:=qV ht.tl h1;have u:=cU h2;have ad:=eM e1;refine⟨ks,ks,Li,_,e1,u,u,fun k d=>.inl d,h6.out F Li vs (by simp[e2]) (tC ht.tl e2 e1 e3) ?_,?_⟩
 ·exact ha.map fun c _ v hc=>(iK hc).ren (nV e1)
 ·rintro v F' Lo hF ⟨⟨Mo,c,q1,q2,q3,q4,q5⟩,bv,am⟩;have an:∀o∈Mo,o.Wf:=by
   intro o r;obtain⟨i,hi⟩:=abd.1 r;have s:i<Lo.length:=by rw[<-q1];exact(w7.1 hi).1
   have:=q2 (1000+i);rw[cB,aX,eu (by omega),eu (by omega),show 1000+i-1000=i by omega,hi,v7 s] at this;exact cZ.wf this
  obtain⟨k1,k2⟩:=h7 c Mo q5 q3.wf an;have a:ks.length=Lo.length:=by rw[k1,q1]
  have b:∀k g t cs,k∈ks->L.get k=some (.box g t cs)->∃cs',Loc.get ((L.aaf ks).puts ks Lo) k=some (.box g t cs'):=by
   intro k g t cs d hg;obtain⟨i,hi⟩:=abd.1 d;have aa:Li[i]?=some (.box g t cs):=by rw[<-ad.2 i k hi];exact hg
   obtain⟨av,ax⟩:=q4 i g t cs aa;exact⟨av,cN u a hi ax⟩
  refine⟨a,b,?_⟩;generalize l:(L.aaf ks).puts ks Lo=L' at b;have x:∀k,k∉ks->∀o,L.get k=some o->L'.get k=some o:=by
   intro k d o r;rw[<-l];rcases dA ks Lo (L.aaf ks) k u a with⟨q,a2⟩ | ⟨i,q,a2,a3⟩
   ·rw[q,fL,o6 d];exact r
   ·exact o4 (aaQ q) d
  have y:Ext L L':=by
   intro k o r
   by_cases d:k∈ks
   ·obtain⟨i,hi⟩:=abd.1 d;have aa:Li[i]?=some o:=by rw[<-ad.2 i k hi];exact r
    obtain⟨o',h1,h2⟩:=am i o aa;exact⟨o',by rw[<-l];exact cN u a hi h1,h2⟩
   ·exact⟨o,x k d o r,Own.aah o⟩
  have n:∀j m,aZ ks j=some m->∀o,(inp Lo).get j=some o->L'.get m=some o:=by
   intro j m hj o r;obtain⟨q,a2⟩:=mS hj;rw[aX,eu q] at r;rw[<-l];exact cN u a a2 r
  refine⟨_,_,_,⟨fun k=>?_,fun j=>(ht.env j).ext hF y,fun k g t e=>?_,ht.glob.mono hF⟩,jZ (q3.ren n),k2⟩
  ·rcases mR ks (Mo.map (TO.aag (C.ren (aZ ks)))) (M.aaf ks) k u (by simp[k1]) with⟨q,a2⟩ | ⟨i,q,a2,a3⟩
   ·have z:L'.get k=(L.aaf ks).get k:=by
     rw[<-l];rcases dA ks Lo (L.aaf ks) k u a with⟨b1,_⟩ | ⟨i,b1,_,_⟩
     ·exact b1
     ·exact o4 (aaQ b1) a2
    rw[q,z,o9,fL];split
    ·trivial
    ·rcases eF (ht.tl k) with⟨c1,c2⟩ | ⟨o,p,c1,c2,hr⟩
     ·rw[c1,c2];trivial
     ·rw[c1,c2];exact hr.ext hF y
   ·rw[a2,abr];have s:i<Mo.length:=by simpa using a3
    have w:i<Lo.length:=by omega
    have z:L'.get k=some (Lo[i]):=by rw[<-l];exact cN u a q (v7 w)
    rw[z,v7 s];have:=q2 (1000+i);rw[cB,aX,eu (by omega),eu (by omega),show 1000+i-1000=i by omega,v7 s,v7 w] at this;exact cZ.ren n this
  ·obtain⟨cs,h⟩:=ht.kp k g t e
   by_cases d:k∈ks
   ·exact b k g t cs d h
   ·exact⟨cs,x k d _ h⟩
theorem rQ {ks:List Nat}:∀{ko:List Nat},(∀k∈ko,k∈ks)->mE M ks ko=true
 | [],_=>rfl
 | k::ko,h=>by
  simp only[mE,cS.2 (h k (by simp))];exact rQ fun j a=>h j (by simp[a])
def Vz (hb:List (Nat×Nat)) (L:Loc):Prop:=∀k n,(k,n)∈hb->∃g t cs,L.get k=some (.box g t cs)/\cs.length=n
def J2 (F':aD) (L':Loc) (M':TL):Prop:=∀k o,M'.get k=some o->∃p,L'.get k=some p/\cZ F' L' o p
theorem Au {F':aD}{L':Loc}{M':TL}(h:dc F' L' M'):J2 F' L' M':=fun k o e=>by
 rcases eF (h k) with⟨a,b⟩ | ⟨o',p,a,b,c⟩
 ·rw[e] at a;cases a
 ·rw[e] at a;injection a with a
  subst a;exact⟨p,b,c⟩
def J3 (PS:qw) (F':aD) (L':Loc) (v:Value):Prop:=∀s,PS.st=some s->∃M',J2 F' L' M'/\s M' v
theorem J3.no {PS:qw}(h:PS.st=none) {F':aD}{L':Loc}{v:Value}:J3 PS F' L' v:=fun s e=>by rw[h] at e;cases e
def zj (G:Nat->Option (Nat×TypeId)) (PS:qw) (F':aD) (L':Loc) (v:Value):Prop:=Kp G L'/\PS.ps v/\Vz PS.hb L'/\J3 PS F' L' v
theorem Dc:∀{hb:List (Nat×Nat)}{ks:List Nat},lW M ks hb=true->∀k n,(k,n)∈hb->k∉ks/\∃t cs,M.get k=some (.box t cs)/\cs.length=n
 | [],ks,_,k,n,h=>by cases h
 | (j,m)::l,ks,h,k,n,a=>by
  simp only[lW] at h;split at h
  case h_2=>cases h
  rename_i t cs b d;split at h
  case h_2=>cases h
  rename_i f;rcases xC.1 a with e | a
  ·simp only[Prod.mk.injEq] at e;obtain⟨rfl,rfl⟩:=e;exact⟨fun c=>(by rw[cS.2 c] at b;cases b),t,cs,d,bC f⟩
  ·exact Dc h k n a
theorem J4 {hb:List (Nat×Nat)}{ks:List Nat}{L':Loc}(j:dc F L M) (h:lW M ks hb=true) (f:∀k g t cs,k∉ks->L.get k=some (.box g t cs)->L'.get k=some (.box g t cs)):Vz hb L':=by
 intro k n b;obtain⟨l,t,cs,c,e⟩:=Dc h k n b;obtain⟨g,ty,vs,a,d,_⟩:=kQ j c;exact⟨g,ty,vs,f k g ty vs l a,by rw[d.len,e]⟩
theorem wQ {ks ko:List Nat}{Lin:List TO}{Li:List Own}{R:List TO->C->Prop}{K:TL->aV->C->Prop}(ht:TS G F L ρ M τ)
  (h2:bJ ks=true) (h3:bJ ko=true) (h4:mE M ks ko=true) (h5:aT Lin ks ko=true) (e1:L.sub ks=some Li) (e2:Li.length=Lin.length) (e3:∀(i:Nat) o p,Lin[i]?=some o->Li[i]?=some p->cZ F L o p)
  (h7:∀v Mo,R Mo v->Wf v->(∀o∈Mo,o.Wf)->ko.length=Mo.length/\K (((M.aaf ks).kills (rowsOf M ks)).puts ko (Mo.map (TO.aag (C.ren (aZ ko))))) (fw (rowsOf M ks) τ) (v.ren (aZ ko)).slt) :
  ∀v F' Lo,F.le F'->gW Li R F' Lo v->ko.length=Lo.length/\(∀k g t cs,k∈ks->L.get k=some (.box g t cs)->∃cs',Loc.get ((L.aaf ks).puts ko Lo) k=some (.box g t cs')) /\
   ∃M' ag c,TS G F' ((L.aaf ks).puts ko Lo) ρ M' ag/\aQ F' ((L.aaf ks).puts ko Lo) c (.v v)/\K M' ag c:=by
 have hn:=cU h2;have l:=cU h3;have aE:∀k,k∈ko->k∈ks\/L.get k=none:=fun k n=>(rO h4 k n).imp id fun e=>cj ht.tl e;have ap:=eM e1;rintro v F' Lo hF ⟨Mo,c,q1,q2,q3,q4,q5⟩;have ar:∀o∈Mo,o.Wf:=by
  intro o y;obtain⟨i,hi⟩:=abd.1 y;have d:i<Lo.length:=by rw[<-q1];exact(w7.1 hi).1
  have:=q2 (1000+i);rw[cB,aX,eu (by omega),eu (by omega),show 1000+i-1000=i by omega,hi,v7 d] at this;exact cZ.wf this
 obtain⟨k1,k2⟩:=h7 c Mo q5 q3.wf ar;have a:ko.length=Lo.length:=by rw[k1,q1]
 have b:∀k g t cs,k∈ks->L.get k=some (.box g t cs)->∃cs',Loc.get ((L.aaf ks).puts ko Lo) k=some (.box g t cs'):=by
  intro k g t cs n hg;obtain⟨i,hi⟩:=abd.1 n;have s:Li[i]?=some (.box g t cs):=by rw[<-ap.2 i k hi];exact hg
  have d:i<Lin.length:=by rw[<-e2];exact(w7.1 s).1
  have hr:=e3 i _ _ (v7 d) s;cases hL:Lin[i] with
  | row=>rw[hL] at hr;exact hr.elim
  | box t' cs' =>
   obtain⟨k',f,b2⟩:=yp h5 i t' cs' (by rw[v7 d,hL]);rw[hi] at f;injection f with f
   subst f;obtain⟨r,u⟩:=q4 i g t cs s;exact⟨r,cN l a b2 u⟩
  | map es =>
   obtain⟨k',f,b2⟩:=eT h5 i (.map es) (by rw[v7 d,hL]) rfl;rw[hi] at f;injection f with f
   subst f;obtain⟨r,u⟩:=q4 i g t cs s;exact⟨r,cN l a b2 u⟩
  | win t0 p0 c0 q0 =>
   obtain⟨k',f,b2⟩:=eT h5 i (.win t0 p0 c0 q0) (by rw[v7 d,hL]) rfl;rw[hi] at f;injection f with f
   subst f;obtain⟨r,u⟩:=q4 i g t cs s;exact⟨r,cN l a b2 u⟩
 refine⟨a,b,?_⟩;generalize w:(L.aaf ks).puts ko Lo=L' at b
 -- what was there before
 have aa:∀k,k∉ks->∀o,L.get k=some o->L'.get k=some o:=by
  intro k n o y;rw[<-w];rcases dA ko Lo (L.aaf ks) k l a with⟨x,a2⟩ | ⟨i,x,a2,a3⟩
  ·rw[x,fL,o6 n];exact y
  ·rcases aE k (aaQ x) with e | e
   ·exact o4 e n
   ·rw[y] at e;cases e
 have ab:Ext (nD (rowsOf M ks) L) L':=by
  intro k o y;obtain⟨g1,g2⟩:=pY y
  by_cases n:k∈ks
  ·obtain⟨g,t,cs,rfl⟩:=yq ht.tl n g1 g2;obtain⟨cs',h⟩:=b k g t cs n g1;exact⟨_,h,rfl,rfl⟩
  ·exact⟨o,aa k n o g1,Own.aah o⟩
 have q:∀j m,aZ ko j=some m->∀o,(inp Lo).get j=some o->L'.get m=some o:=by
  intro j m hj o y;obtain⟨x,a2⟩:=mS hj;rw[aX,eu x] at y;rw[<-w];exact cN l a a2 y
 refine⟨_,_,_,⟨fun k=>?_,fun j=>?_,fun k g t e=>?_,ht.glob.mono hF⟩,jZ (q3.ren q),k2⟩
 ·rcases mR ko (Mo.map (TO.aag (C.ren (aZ ko)))) ((M.aaf ks).kills (rowsOf M ks)) k l (by simp[k1]) with⟨x,a2⟩ | ⟨i,x,a2,a3⟩
  ·have ac:L'.get k=(L.aaf ks).get k:=by
    rw[<-w];rcases dA ko Lo (L.aaf ks) k l a with⟨f,_⟩ | ⟨i,f,_,_⟩
    ·exact f
    ·exact o4 (aaQ f) a2
   rw[x,ac,yh,o9,fL];split
   ·trivial
   ·rcases eF (ht.tl k) with⟨c1,c2⟩ | ⟨o,p,c1,c2,hr⟩
    ·rw[c1,c2];trivial
    ·rw[c1,c2];exact(hr.kills (rowsOf M ks)).ext hF ab
  ·rw[a2,abr];have d:i<Mo.length:=by simpa using a3
   have z:i<Lo.length:=by omega
   have ac:L'.get k=some (Lo[i]):=by rw[<-w];exact cN l a x (v7 z)
   rw[ac,v7 d];have:=q2 (1000+i);rw[cB,aX,eu (by omega),eu (by omega),show 1000+i-1000=i by omega,v7 d,v7 z] at this;exact cZ.ren q this
 ·rw[yj];exact((ht.env j).kills (rowsOf M ks)).ext hF ab
 ·obtain⟨cs,h⟩:=ht.kp k g t e
  by_cases n:k∈ks
  ·exact b k g t cs n h
  ·exact⟨cs,aa k n _ h⟩
theorem yt {PS:qw}{Pp:Value->Prop}{f:Nat}{args:List C}{vs:List Value}{ks ko:List Nat}{Lin:List TO}{R:List TO->C->Prop}{K:TL->aV->C->Prop}(a:TS G F L ρ M τ) (ha:aF F L args vs)
  (h1:M.sub ks=some Lin) (x:bJ ks=true) (y:bJ ko=true) (w:mE M ks ko=true) (h5:aT Lin ks ko=true) (n:lW M ks PS.hb=true)
  (h6:CallsTX P f (args.map fun c=>c.aaj.ren (bZ ks 1000)) (Lin.map (TO.aag (C.ren (bZ ks 1000)))) R Pp) (p:∀v,Pp v->PS.ps v) (s:PS.st=none)
  (h7:∀v Mo,R Mo v->Wf v->(∀o∈Mo,o.Wf)->ko.length=Mo.length/\K (((M.aaf ks).kills (rowsOf M ks)).puts ko (Mo.map (TO.aag (C.ren (aZ ko))))) (fw (rowsOf M ks) τ) (v.ren (aZ ko)).slt) :
  ∃Li,L.sub ks=some Li/\ks.Nodup/\ko.Nodup/\(∀k,k∈ko->k∈ks\/L.get k=none)/\uZ P f vs.toArray F Li (gW Li R) Pp/\(∀v F' L',xS ks L L'->Pp v->zj G PS F' L' v) /\
  ∀v F' Lo,F.le F'->gW Li R F' Lo v->ko.length=Lo.length/\(∀k g t cs,k∈ks->L.get k=some (.box g t cs)->∃cs',Loc.get ((L.aaf ks).puts ko Lo) k=some (.box g t cs')) /\
   ∃M' b c,TS G F' ((L.aaf ks).puts ko Lo) ρ M' b/\aQ F' ((L.aaf ks).puts ko Lo) c (.v v)/\K M' b c:=by
 obtain⟨Li,d,l,z⟩:=qV a.tl h1;have hn:=cU x;have r:=cU y;have m:∀k,k∈ko->k∈ks\/L.get k=none:=fun k u=>(rO w k u).imp id fun e=>cj a.tl e;have al:=eM d;refine⟨Li,d,hn,r,m,h6.out F Li vs (by simp[l]) (tC a.tl l d z) ?_,fun v F' L' j hv=>⟨fun k g t e=>let⟨cs,h⟩:=a.kp k g t e;let⟨cs',h',_⟩:=j k g t cs h;⟨cs',h'⟩,p v hv,J4 a.tl n fun k g t cs u e=>let⟨cs',h',q⟩:=j k g t cs e;by rw[h',q u],J3.no s⟩,?_⟩
 ·exact ha.map fun c _ v hc=>(iK hc).ren (nV d)
 ·exact wQ a x y w h5 d l z h7
theorem Av {PS:qw}{Pp:Value->Prop}{f:Nat}{args:List C}{vs:List Value}{ks ko:List Nat}{Lin:List TO}{R:List TO->C->Prop}{K:TL->aV->C->Prop}(w:TS G F L ρ M τ) (s:aF F L args vs)
  (x:M.sub ks=some Lin) (m:bJ ks=true) (r:bJ ko=true) (k:mE M ks ko=true) (y:aT Lin ks ko=true) (e:lW M ks PS.hb=true)
  (j:CallsTX P f (args.map fun c=>c.aaj.ren (bZ ks 1000)) (Lin.map (TO.aag (C.ren (bZ ks 1000)))) R Pp) (b:∀v,Pp v->PS.ps v) (d:PS.st=none)
  (h:∀v Mo,R Mo v->Wf v->(∀o∈Mo,o.Wf)->ko.length=Mo.length/\K (((M.aaf ks).kills (rowsOf M ks)).puts ko (Mo.map (TO.aag (C.ren (aZ ko))))) (fw (rowsOf M ks) τ) (v.ren (aZ ko)).slt) :
  fq P (zj G PS) f vs F L (fun F' L' v=>∃M' a c,TS G F' L' ρ M' a/\aQ F' L' c (.v v)/\K M' a c):=by
 obtain⟨Li,z,q2,p,t,l,u,q⟩:=yt w s x m r k y e j b d h;exact⟨ks,ko,Li,gW Li R,fun _ _=>Pp,z,q2,p,t,l.toS,fun v F' Lo _ _ hb n=>u v F' _ hb n,q⟩
theorem iZ:∀{Lin:List TO}{ks ko:List Nat},aT Lin ks ko=true->aT Lin ks ks=true
 | [],ks,ko,h=>by simp only[aT]
 | .box t cs::l,[],ko,h=>by simp only[aT] at h;cases h
 | .map es::l,[],ko,h=>by simp only[aT] at h;cases h
 | .win ..::l,[],ko,h=>by simp only[aT] at h;cases h
 | .row t sz els::l,[],ko,h=>by simp only[aT] at h;cases h
 | .box t cs::l,k::ks,[],h=>by simp only[aT] at h;cases h
 | .map es::l,k::ks,[],h=>by simp only[aT] at h;cases h
 | .win ..::l,k::ks,[],h=>by simp only[aT] at h;cases h
 | .box t cs::l,k::ks,a::ko,h=>by
  have e:Nat.beq k k=true:=by simp
  simp only[aT] at h ⊢;split at h
  ·rw[e];exact iZ h
  ·cases h
 | .map es::l,k::ks,a::ko,h=>by
  have e:Nat.beq k k=true:=by simp
  simp only[aT] at h ⊢;split at h
  ·rw[e];exact iZ h
  ·cases h
 | .win ..::l,k::ks,a::ko,h=>by
  have e:Nat.beq k k=true:=by simp
  simp only[aT] at h ⊢;split at h
  ·rw[e];exact iZ h
  ·cases h
 | .row t sz els::l,k::ks,[],h=>by
  simp only[aT] at h ⊢;exact iZ h
 | .row t sz els::l,k::ks,a::ko,h=>by
  simp only[aT] at h ⊢;exact iZ h
theorem ES {PS:qw}{Pp:Value->Prop}{f:Nat}{args:List C}{vs:List Value}{ks:List Nat}{Lin:List TO}{R:List TO->C->Prop}{K:TL->aV->C->Prop}(x:TS G F L ρ M τ) (ha:aF F L args vs)
  (h1:M.sub ks=some Lin) (h2:bJ ks=true) (h6:lp P f (args.map fun c=>c.aaj.ren (bZ ks 1000)) (Lin.map (TO.aag (C.ren (bZ ks 1000)))) R Pp) (ax:∀v,Pp v->PS.ps v) (ay:PS.st=none) (bc:lW M ks PS.hb=true)
  (h7:∀v Mo,R Mo v->Wf v->(∀o∈Mo,o.Wf)->ks.length=Mo.length/\K ((M.aaf ks).puts ks (Mo.map (TO.aag (C.ren (aZ ks))))) τ (v.ren (aZ ks)).slt) :
  fq P (zj G PS) f vs F L (fun F' L' v=>∃M' ag c,TS G F' L' ρ M' ag/\aQ F' L' c (.v v)/\K M' ag c):=by
 obtain⟨Li,e1,e2,e3⟩:=qV x.tl h1;have w:=cU h2;have ae:=eM e1;refine⟨ks,ks,Li,_,fun _ _=>Pp,e1,w,w,fun k d=>.inl d,(h6.out F Li vs (by simp[e2]) (tC x.tl e2 e1 e3) ?_).toS,fun v F' Lo _ _ al hv=>⟨fun k g t e=>let⟨cs,h⟩:=x.kp k g t e;let⟨cs',h',_⟩:=al k g t cs h;⟨cs',h'⟩,ax v hv,J4 x.tl bc fun k g t cs d e=>let⟨cs',h',q⟩:=al k g t cs e;by rw[h',q d],J3.no ay⟩,?_⟩
 ·exact ha.map fun c _ v hc=>(iK hc).ren (nV e1)
 ·rintro v F' Lo hF ⟨⟨Mo,c,q1,q2,q3,q4,q5⟩,cd,ao⟩;have ap:∀o∈Mo,o.Wf:=by
   intro o s;obtain⟨i,hi⟩:=abd.1 s;have u:i<Lo.length:=by rw[<-q1];exact(w7.1 hi).1
   have:=q2 (1000+i);rw[cB,aX,eu (by omega),eu (by omega),show 1000+i-1000=i by omega,hi,v7 u] at this;exact cZ.wf this
  obtain⟨k1,k2⟩:=h7 c Mo q5 q3.wf ap;have a:ks.length=Lo.length:=by rw[k1,q1]
  have b:∀k g t cs,k∈ks->L.get k=some (.box g t cs)->∃cs',Loc.get ((L.aaf ks).puts ks Lo) k=some (.box g t cs'):=by
   intro k g t cs d hg;obtain⟨i,hi⟩:=abd.1 d;have ac:Li[i]?=some (.box g t cs):=by rw[<-ae.2 i k hi];exact hg
   obtain⟨az,ba⟩:=q4 i g t cs ac;exact⟨az,cN w a hi ba⟩
  refine⟨a,b,?_⟩;generalize l:(L.aaf ks).puts ks Lo=L' at b;have z:∀k,k∉ks->∀o,L.get k=some o->L'.get k=some o:=by
   intro k d o s;rw[<-l];rcases dA ks Lo (L.aaf ks) k w a with⟨r,a2⟩ | ⟨i,r,a2,a3⟩
   ·rw[r,fL,o6 d];exact s
   ·exact o4 (aaQ r) d
  have aa:Ext L L':=by
   intro k o s
   by_cases d:k∈ks
   ·obtain⟨i,hi⟩:=abd.1 d;have ac:Li[i]?=some o:=by rw[<-ae.2 i k hi];exact s
    obtain⟨o',h1,h2⟩:=ao i o ac;exact⟨o',by rw[<-l];exact cN w a hi h1,h2⟩
   ·exact⟨o,z k d o s,Own.aah o⟩
  have n:∀j m,aZ ks j=some m->∀o,(inp Lo).get j=some o->L'.get m=some o:=by
   intro j m hj o s;obtain⟨r,a2⟩:=mS hj;rw[aX,eu r] at s;rw[<-l];exact cN w a a2 s
  refine⟨_,_,_,⟨fun k=>?_,fun j=>(x.env j).ext hF aa,fun k g t e=>?_,x.glob.mono hF⟩,jZ (q3.ren n),k2⟩
  ·rcases mR ks (Mo.map (TO.aag (C.ren (aZ ks)))) (M.aaf ks) k w (by simp[k1]) with⟨r,a2⟩ | ⟨i,r,a2,a3⟩
   ·have ab:L'.get k=(L.aaf ks).get k:=by
     rw[<-l];rcases dA ks Lo (L.aaf ks) k w a with⟨b1,_⟩ | ⟨i,b1,_,_⟩
     ·exact b1
     ·exact o4 (aaQ b1) a2
    rw[r,ab,o9,fL];split
    ·trivial
    ·rcases eF (x.tl k) with⟨c1,c2⟩ | ⟨o,p,c1,c2,hr⟩
     ·rw[c1,c2];trivial
     ·rw[c1,c2];exact hr.ext hF aa
   ·rw[a2,abr];have u:i<Mo.length:=by simpa using a3
    have y:i<Lo.length:=by omega
    have ab:L'.get k=some (Lo[i]):=by rw[<-l];exact cN w a r (v7 y)
    rw[ab,v7 u];have:=q2 (1000+i);rw[cB,aX,eu (by omega),eu (by omega),show 1000+i-1000=i by omega,v7 u,v7 y] at this;exact cZ.ren n this
  ·obtain⟨cs,h⟩:=x.kp k g t e
   by_cases d:k∈ks
   ·exact b k g t cs d h
   ·exact⟨cs,z k d _ h⟩
theorem Aw {ps:Value->Prop}{hb:List (Nat×Nat)}{st:TL->Value->Prop}{PS:qw}{Pp:List TO->Value->Prop}{f:Nat}{args:List C}{vs:List Value}{ks ko:List Nat}{Lin:List TO}{R:List TO->C->Prop}{K:TL->aV->C->Prop}(m:TS G F L ρ M τ) (ha:aF F L args vs)
  (ad:PS=⟨ps,hb,some st⟩) (h1:M.sub ks=some Lin) (j:bJ ks=true) (h3:bJ ko=true) (h4:mE M ks ko=true) (h5:aT Lin ks ko=true) (aa:lW M ks hb=true)
  (h6:CallsTS P f (args.map fun c=>c.aaj.ren (bZ ks 1000)) (Lin.map (TO.aag (C.ren (bZ ks 1000)))) R Pp)
  (ab:∀v Mo,Pp Mo v->(∀o∈Mo,o.Wf)->ks.length=Mo.length->ps v/\st (((M.aaf ks).kills (rowsOf M ks)).puts ks (Mo.map (TO.aag (C.ren (aZ ks))))) v)
  (h7:∀v Mo,R Mo v->Wf v->(∀o∈Mo,o.Wf)->ko.length=Mo.length/\K (((M.aaf ks).kills (rowsOf M ks)).puts ko (Mo.map (TO.aag (C.ren (aZ ko))))) (fw (rowsOf M ks) τ) (v.ren (aZ ko)).slt) :
  fq P (zj G PS) f vs F L (fun F' L' v=>∃M' d c,TS G F' L' ρ M' d/\aQ F' L' c (.v v)/\K M' d c):=by
 subst ad;obtain⟨Li,l,x,e3⟩:=qV m.tl h1;have hn:=cU j;have ac:=cU h3;have z:∀k,k∈ko->k∈ks\/L.get k=none:=fun k r=>(rO h4 k r).imp id fun e=>cj m.tl e;obtain⟨y,al⟩:=eM l;refine⟨ks,ko,Li,gW Li R,_,l,hn,ac,z,h6.out F Li vs (by simp[x]) (tC m.tl x l e3) (ha.map fun c _ v hc=>(iK hc).ren (nV l)),?_,wQ m j h3 h4 h5 l x e3 h7⟩;rintro v F' Lo hF u w ⟨Mo,q1,q2,q3⟩;have ae:∀o∈Mo,o.Wf:=by
  intro o ho;obtain⟨i,hi⟩:=abd.1 ho;have a:i<Lo.length:=by rw[<-q1];exact(w7.1 hi).1
  have:=q2 (1000+i);rw[cB,aX,eu (by omega),eu (by omega),show 1000+i-1000=i by omega,hi,v7 a] at this;exact cZ.wf this
 obtain⟨p1,p2⟩:=ab v Mo q3 ae (by omega);have n:gW Li (fun Mo' _=>Mo'=Mo) F' Lo undef:=by
  refine⟨Mo,.any,q1,q2,by simp only[Rel],fun i g t cs e=>?_,rfl⟩;have a:i<ks.length:=by rw[<-y];exact(w7.1 e).1
  have p:=al i _ (v7 a);rw[e] at p;obtain⟨cs',h,_⟩:=w _ g t cs p;have j:Loc.get ((L.aaf ks).puts ks Lo) ks[i]=Lo[i]?:=by
   have b:i<Lo.length:=by omega
   rw[v7 b];exact cN hn u (v7 a) (v7 b)
  exact⟨cs',by rw[<-j];exact h⟩
 have ag:aT Lin ks ks=true:=iZ h5;obtain⟨_,_,M',d,c,t1,_,rfl⟩:=wQ (K:=fun M' _ _=>M'=((M.aaf ks).kills (rowsOf M ks)).puts ks (Mo.map (TO.aag (C.ren (aZ ks))))) m j j (rQ fun k r=>r) ag l x e3
  (fun v' Mo' e _ _=>by subst e;exact⟨by omega,rfl⟩) undef F' Lo hF n
 exact⟨t1.kp,p1,J4 m.tl aa fun k g t cs r e=>(let⟨cs',h',q⟩:=w k g t cs e;by rw[h',q r]),fun s e=>by injection e with e;subst e;exact⟨_,Au t1.tl,p2⟩⟩
theorem TS.same {L2:Loc}(b:TS G F L ρ M τ) (a:L.sameAs L2):TS G F L2 ρ M τ:=by
 have f:Ext L L2:=fun k o e=>⟨o,by rw[a k];exact e,Own.aah o⟩;refine⟨fun k=>?_,fun j=>(b.env j).ext (aD.le_refl F) f,fun k g t e=>?_,b.glob⟩
 ·rcases eF (b.tl k) with⟨c,d⟩ | ⟨o,p,c,d,l⟩
  ·rw[a k,c,d];trivial
  ·rw[a k,c,d];exact l.ext (aD.le_refl F) f
 ·obtain⟨cs,h⟩:=b.kp k g t e;exact⟨cs,by rw[a k];exact h⟩
theorem yu:∀{ks a:List Nat},x6 ks a=true->∀k∈ks,k∉a
 | [],a,_,k,h=>by cases h
 | j::ks,a,h,k,b=>by
  simp only[x6] at h;split at h
  ·cases h
  ·rename_i c;rcases xC.1 b with rfl | b
   ·intro d;rw[cS.2 d] at c;cases c
   ·exact yu h k b
theorem qa {PS:qw}{q:List Nat}{f:Nat}{args:List C}{vs:List Value}{K:TL->aV->C->Prop}(ht:TS G F L ρ M τ) (ha:aF F L args vs) (h:nT P PS q f args M τ K) (j:PS.st=none) :
  CallXDPt P (zj G PS) q f vs F L (fun F' L' v=>∃M' b c,TS G F' L' ρ M' b/\aQ F' L' c (.v v)/\K M' b c):=by
 obtain⟨ks,Lin,R,Pp,h1,p,h0,h5,m,w,d,u⟩:=h;have x:mE M ks ks=true:=rQ (fun k hk=>hk);obtain⟨Li,q1,s,q3,q4,y,q6,q7⟩:=yt ht ha h1 p p x h5 m w d j u;refine⟨ks,Li,gW Li R,fun _ _=>Pp,q1,s,yu h0,y.toS,fun v F' L' Lo _ _ l z=>q6 v F' L' l z,fun v F' Lo hF n=>?_⟩;obtain⟨r,a2,M',b,c,a3,a4,a5⟩:=q7 v F' Lo hF n;have a:=mQ (L:=L) s r;refine⟨r,fun i g t cs e=>?_,fun _=>⟨M',b,c,a3.same a,a4.ext (aD.le_refl F') fun k o e=>⟨o,by rw[a k];exact e,Own.aah o⟩,a5⟩⟩;obtain⟨Mo,c',_,_,_,b4,_⟩:=n;exact b4 i g t cs e
theorem qW {ps:Value->Prop}{hb:List (Nat×Nat)}{st:TL->Value->Prop}{PS:qw}{fb:List Nat}{f:Nat}{args:List C}{vs:List Value}{K:TL->aV->C->Prop}(u:TS G F L ρ M τ) (ha:aF F L args vs) (ae:PS=⟨ps,hb,some st⟩) (h:wN P ps hb st fb f args M τ K) :
  CallXDPt P (zj G PS) fb f vs F L (fun F' L' v=>∃M' l c,TS G F' L' ρ M' l/\aQ F' L' c (.v v)/\K M' l c):=by
 subst ae;obtain⟨ks,Lin,R,Pp,h1,h2,h0,h5,an,h6,ad,h7⟩:=h;have h4:mE M ks ks=true:=rQ (fun k b=>b);obtain⟨Li,w,e2,e3⟩:=qV u.tl h1;have hn:=cU h2;obtain⟨ay,bb⟩:=eM w;refine⟨ks,Li,gW Li R,_,w,hn,yu h0,h6.out F Li vs (by simp[e2]) (tC u.tl e2 w e3) (ha.map fun c _ v hc=>(iK hc).ren (nV w)),?_,fun v F' Lo hF hR=>?_⟩
 ·rintro v F' L' Lo hF aa y ⟨Mo,q1,q2,q3⟩;have ab:∀o∈Mo,o.Wf:=by
   intro o z;obtain⟨i,hi⟩:=abd.1 z;have d:i<Lo.length:=by rw[<-q1];exact(w7.1 hi).1
   have:=q2 (1000+i);rw[cB,aX,eu (by omega),eu (by omega),show 1000+i-1000=i by omega,hi,v7 d] at this;exact cZ.wf this
  obtain⟨y1,y2⟩:=eM aa;obtain⟨p1,p2⟩:=ad v Mo q3 ab (by omega);have r:∀j m,aZ ks j=some m->∀o,(inp Lo).get j=some o->L'.get m=some o:=by
   intro j m hj o z;obtain⟨n,x⟩:=mS hj;rw[aX,eu n] at z;rw[y2 _ _ x];exact z
  refine⟨fun k g t e=>let⟨cs,h⟩:=u.kp k g t e;let⟨cs',h',_⟩:=y k g t cs h;⟨cs',h'⟩,p1,J4 u.tl an fun k g t cs b e=>(let⟨cs',h',q⟩:=y k g t cs e;by rw[h',q b]),fun s e=>?_⟩;injection e with e
  subst e;refine⟨_,fun k o b=>?_,p2⟩;rcases mR ks (Mo.map (TO.aag (C.ren (aZ ks)))) [] k hn (by simp;omega) with⟨n,x⟩ | ⟨i,n,x,a3⟩
  ·rw[n] at b;cases b
  ·rw[x,abr] at b;have d:i<Mo.length:=by simpa using a3
   have p:i<Lo.length:=by omega
   rw[v7 d] at b;injection b with b
   subst b;refine⟨Lo[i],by rw[y2 _ _ n];exact v7 p,?_⟩;have:=q2 (1000+i);rw[cB,aX,eu (by omega),eu (by omega),show 1000+i-1000=i by omega,v7 d,v7 p] at this;exact cZ.ren r this
 ·obtain⟨n,x,M',l,c,a3,a4,a5⟩:=wQ u h2 h2 h4 h5 w e2 e3 h7 v F' Lo hF hR;have a:=mQ (L:=L) hn n;refine⟨n,fun i g t cs e=>?_,fun _=>⟨M',l,c,a3.same a,a4.ext (aD.le_refl F') fun k o e=>⟨o,by rw[a k];exact e,Own.aah o⟩,a5⟩⟩;obtain⟨Mo,c',_,_,_,b4,_⟩:=hR;exact b4 i g t cs e
end
section
variable {P:Program}{G:Nat->Option (Nat×TypeId)}{F:aD}{L:Loc}{ρ:Env}{M:TL}{τ:aV}{a:Act}{w:World}
theorem Df {F':aD}(m:F.le F') {k:Nat}{a:Option Addr}{c:Nat}{t sz:Nat}{els:List (List C)}{xs:List Value}(r:L.get k=some (.row (.slice a els.length c) t sz els.length xs))
  (s:Rel F' (L.del k) (.sl els) (.slice a els.length c)):(∀d v,C.leaf d=true->Rel F L d v->Rel F' (L.del k) (nS k els d) v)/\(∀d sv,C.leaf d=true->aQ F L d sv->aQ F' (L.del k) (nS k els d) sv):=by
 have l:∀j,j≠k->∀o,L.get j=some o->∃o',(L.del k).get j=some o'/\Own.like o o':=fun j f o x=>⟨o,by rw[Loc.aai,o6 f];exact x,Own.aah o⟩;have b:∀g t cs,L.get k≠some (.box g t cs):=fun g t cs h=>by rw[r] at h;injection h with h;cases h
 constructor
 ·intro d v q h;cases d<;>simp only[C.leaf,aaX] at q
  case rw j =>
   simp only[nS];cases f:Nat.beq j k with
   | true =>
    have:=vv f;subst this;simp only[Rel] at h;obtain⟨u,z,y,p,n',n,rfl,h⟩:=h;rw[r] at h;injection h with h
    injection h with q1 q2 q3 q4 q5
    rw[<-q1];exact s
   | false =>
    have:=kS b l m (.rw j) v rfl h;simpa only[gQ,f] using this
  all_goals
   have:=kS b l m _ v rfl h;simpa only[gQ,nS] using this
 ·intro d sv q h;cases d<;>simp only[C.leaf,aaX] at q
  case rw j =>
   simp only[nS];cases f:Nat.beq j k with
   | true =>
    have:=vv f;subst this;simp only[aQ,Rel] at h;obtain⟨v,e,u,z,y,p,n',n,rfl,h⟩:=h;rw[r] at h;injection h with h
    injection h with q1 q2 q3 q4 q5
    rw[<-q1] at e;exact⟨_,e,s⟩
   | false =>
    have:=pV b l m (.rw j) sv rfl h;simpa only[gQ,f] using this
  all_goals
   have:=pV b l m _ sv rfl h;simpa only[gQ,nS] using this
theorem cZ.frz {F':aD}(b:F.le F') {k:Nat}{els:List (List C)}(f:∀d v,C.leaf d=true->Rel F L d v->Rel F' (L.del k) (nS k els d) v):∀{o:TO}{p:Own},cZ F L o p->cZ F' (L.del k) (o.aag (C.frz k els)) p
 | .box t cs,.box g j vs,r=>⟨r.1,r.2.map fun c _ v h=>Rel.mp f 3 h⟩
 | .row t sz els,.row v j s n xs,r=>⟨r.1,r.2.1,r.2.2.1,r.2.2.2.1,r.2.2.2.2.mono b⟩
 | .box _ _,.row ..,r=>r.elim
 | .row ..,.box ..,r=>r.elim
 | .map _,.row ..,r=>r.elim
 | .map es,.box g j vs,r=>⟨r.1,r.2.mono b⟩
 | .win ..,.row ..,r=>r.elim
 | .win ..,.box ..,⟨u,v1,l,v3,e,x,m,q⟩=>⟨u,v1,l,v3,e,x.mono b,m.map fun c _ v h=>Rel.mp f 3 h,q.mono b⟩
theorem tE {k:Nat}{t sz:Nat}{els:List (List C)}(z:St F L w) (he:aH L ρ a) (n:TS G F L ρ M τ) (hk:M.get k=some (.row t sz els)) :
  ∃F' L',St F' L' w/\aH L' ρ a/\Step F L w F' L' w/\TS G F' L' ρ ((M.del k).aag (C.frz k els)) (fun j=>(τ j).frz k els)/\(∀{c v},Rel F L c v->Rel F' L' (c.frz k els) v):=by
 obtain⟨v,xs,u,⟨hm,s,cv,rfl,x⟩,hr⟩:=kR n.tl hk;obtain⟨F',L',g1,g2,g3,l,b,rfl⟩:=oO (KK:=fun F' L'=>F.le F'/\I5 F' (.slice s els.length cv) sz els.length xs/\L'=L.del k) z he ⟨_,_,_,_,_,u,fun F' l b=>⟨l,b,rfl⟩⟩;have m:Rel F' (L.del k) (.sl els) (.slice s els.length cv):=by
  simp only[Rel];rcases b with⟨d,f,y⟩ | ⟨ad,c2,d,f,y⟩
  ·injection d with q1 q2 q3
   have:els=[]:=List.length_eq_zero_iff.1 q2;subst this;exact⟨s,cv,rfl,by simp,by simp,fun _=>⟨rfl,q3⟩,sz,by simp only[gC]⟩
  ·injection d with q1 q2 q3
   subst q1 q3;exact⟨some ad,cv,rfl,y,hm,fun e=>(by cases e),sz,(hr.mono l).frz f⟩
 obtain⟨r,l2⟩:=Df l u m;refine⟨F',L.del k,g1,g2,g3,⟨fun j=>?_,fun j=>aQ.mp r l2 3 (n.env j),fun j g t e=>?_,n.glob.mono l⟩,fun h=>Rel.mp r 3 h⟩
 ·rw[qU,TL.aai,Loc.aai];split
  ·trivial
  ·rcases eF (n.tl j) with⟨d,f⟩ | ⟨o,p,d,f,q⟩
   ·rw[d,f];trivial
   ·rw[d,f];exact q.frz l r
 ·obtain⟨cs,h⟩:=n.kp j g t e;exact⟨cs,by rw[Loc.aai,o6 (by rintro rfl;rw[u] at h;injection h with h;cases h)];exact h⟩
def yw (k g:Nat):SV->SV
 | .own b off=>match Nat.beq b k with | true=>.v (.pointer (some ⟨g,off,none⟩)) | false=>.own b off
 | .v x=>.v x
 | .el a i=>.el a i
theorem J5 {F':aD}(q:F.le F') {k g:Nat}{t:TypeId}{vs:List Value}{es:List C}(y:L.get k=some (.box g t vs)) (hg:F' g=some (.cells vs.toArray t (0,0))) (z:dJ es=true) (u:aF F' [] es vs) :
  (∀d v,C.leaf d=true->Rel F L d v->Rel F' (L.del k) (rM k es d) v)/\(∀d sv,C.leaf d=true->aQ F L d sv->aQ F' (L.del k) (rM k es d) (yw k g sv)):=by
 have r:∀j,j≠k->∀o,L.get j=some o->∃o',(L.del k).get j=some o'/\Own.like o o':=fun j f o ho=>⟨o,by rw[Loc.aai,o6 f];exact ho,Own.aah o⟩;have p:∀o,M9 F' g o o vs:=fun o=>⟨0,_,t,(0,0),hg,by omega,fun i v hi=>⟨by simpa using hi,tN _⟩⟩;constructor
 ·intro d v hc h;cases d<;>simp only[C.leaf,aaX] at hc<;>simp only[rM]
  case own j off =>
   cases f:Nat.beq j k with
   | true =>
    have:=vv f;subst this;simp only[Rel] at h ⊢;obtain⟨g',t',cs,e,rfl⟩:=h;rw[y] at e;injection e with e
    injection e with e1 e2 e3
    subst e1;exact⟨_,_,vs,rfl,p off,z,u⟩
   | false=>exact bB q (fun s e=>by
     rcases e with⟨off,e⟩ | e | e | ⟨_,_,_,e⟩ | ⟨_,_,e⟩
     ·injection e with e;subst e;exact r j (fJ f)
     ·cases e
     ·cases e
     ·cases e
     ·cases e) rfl h
  case ifo m ti j off =>
   cases f:Nat.beq j k with
   | true =>
    have:=vv f;subst this;simp only[Rel] at h;obtain⟨g',t',cs,e,rfl⟩:=h;rw[y] at e;injection e with e
    injection e with e1 e2 e3
    subst e1;cases m with
    | none=>simp only[Rel];exact⟨_,rfl,_,_,vs,rfl,p off,z,u⟩
    | some nm=>simp only[Rel];exact⟨_,rfl,_,rfl,_,_,vs,rfl,p off,z,u⟩
   | false=>exact bB q (fun s e=>by
     rcases e with⟨off,e⟩ | e | e | ⟨_,_,_,e⟩ | ⟨_,_,e⟩
     ·cases e
     ·cases e
     ·cases e
     ·injection e with _ _ e;subst e;exact r j (fJ f)
     ·cases e) rfl h
  case rw j =>
   refine bB q (fun s e=>?_) rfl h;rcases e with⟨off,e⟩ | e | e | ⟨_,_,_,e⟩ | ⟨_,_,e⟩
   ·cases e
   ·injection e with e
    subst e;refine r j ?_;rintro rfl;simp only[Rel] at h;obtain⟨a',c',t',al,n',ag,rfl,h⟩:=h;rw[y] at h;injection h with h
    cases h
   ·cases e
   ·cases e
   ·cases e
  case mpr j =>
   cases f:Nat.beq j k with
   | true=>simp only[Rel]
   | false=>exact bB q (fun s e=>by
     rcases e with⟨off,e⟩ | e | e | ⟨_,_,_,e⟩ | ⟨_,_,e⟩
     ·cases e
     ·cases e
     ·injection e with e;subst e;exact r j (fJ f)
     ·cases e
     ·cases e) rfl h
  case ownv=>exact h.elim
  case elr j a b =>
   refine bB q (fun s e=>?_) rfl h;rcases e with⟨off,e⟩ | e | e | ⟨_,_,_,e⟩ | ⟨_,_,e⟩<;>first | cases e;done | skip
   injection e with e
   subst e;refine r j ?_;rintro rfl;simp only[Rel] at h;obtain⟨ad,t,sz,n,c,xs,_,h⟩:=h;rw[y] at h;injection h with h
   cases h
  case slo j a =>
   cases f:Nat.beq j k with
   | true=>simp only[Rel]
   | false=>exact rN q (r j (fJ f)) h
  case slp=>exact h.elim
  all_goals
   exact bB q (fun s e=>by rcases e with⟨off,e⟩ | e | e | ⟨_,_,_,e⟩ | ⟨_,_,e⟩<;>cases e) rfl h
 ·intro d sv hc h;have keep:∀{c:C},(∀j off,c≠.own j off)->c.leaf=true->c≠.any->aQ F L c sv->yw k g sv=sv:=by
   intro c ae hl an hv;cases sv with
   | v x=>rfl
   | el a i=>rfl
   | own k' off =>
    exfalso;cases c<;>simp only[C.leaf,aaX] at hl<;>first
     | exact ae _ _ rfl
     | exact an rfl
     | (obtain⟨v,e,_⟩:=hv;cases e;done)
     | (obtain⟨b,o,j,us,e | e,_⟩:=hv
        ·cases e.1
        ·cases e)
     | (obtain⟨ad,t,sz,n,c,xs,e,_⟩:=hv;cases e;done)
     | (obtain⟨_,_,_,_,_,e,_⟩:=hv;cases e;done)
     | (obtain⟨v,e | ⟨b,o,j,e,_⟩,_⟩:=hv
        ·cases e
        ·cases e)
  cases d<;>simp only[C.leaf,aaX] at hc<;>simp only[rM]
  case any=>trivial
  case own j off =>
   obtain⟨rfl,g',t',cs,e⟩:=h;simp only[yw];cases f:Nat.beq j k with
   | true =>
    have:=vv f;subst this;exact⟨g,off,0,vs,.inl ⟨rfl,rfl⟩,p off,z,u⟩
   | false =>
    obtain⟨o',q1,q2⟩:=r j (fJ f) _ e;cases o' with
    | row=>exact q2.elim
    | box g2 t2 ao=>exact⟨rfl,g2,t2,ao,q1⟩
  case ownv j off =>
   rw[keep (c:=.ownv j off) (fun _ _ e=>by cases e) rfl (fun e=>by cases e) h];cases f:Nat.beq j k with
   | true =>
    have:=vv f;subst this;obtain⟨v,ap,l⟩:=h;simp only[Rel] at l;obtain⟨g',t',cs,e,rfl⟩:=l;rw[y] at e;injection e with e
    injection e with e1 e2 e3
    subst e1;rcases ap with rfl | ⟨b,o,i,rfl,e⟩
    ·exact⟨g,off,0,vs,.inl ⟨rfl,rfl⟩,p off,z,u⟩
    ·injection e with e
     injection e with e
     injection e with q1 q2 q3
     subst q1 q2;exact⟨g,o,i,vs,.inr rfl,p (o+i),z,u⟩
   | false =>
    refine cV q (fun s e=>?_) rfl h;rcases e with⟨off,e⟩ | ⟨off,e⟩ | e | ⟨a,b,e⟩ | e | ⟨_,_,_,e⟩<;>first | cases e;done | skip
    injection e with e
    subst e;exact r j (fJ f)
  case ifo m ti j off =>
   rw[keep (c:=.ifo m ti j off) (fun _ _ e=>by cases e) rfl (fun e=>by cases e) h];cases f:Nat.beq j k with
   | true =>
    have:=vv f;subst this;obtain⟨v,rfl,l⟩:=h;simp only[Rel] at l;obtain⟨g',t',cs,e,rfl⟩:=l;rw[y] at e;injection e with e
    injection e with e1 e2 e3
    subst e1;cases m with
    | none=>exact⟨_,rfl,by simp only[Rel];exact⟨_,rfl,_,_,vs,rfl,p off,z,u⟩⟩
    | some nm=>exact⟨_,rfl,by simp only[Rel];exact⟨_,rfl,_,rfl,_,_,vs,rfl,p off,z,u⟩⟩
   | false =>
    refine cV q (fun s e=>?_) rfl h;rcases e with⟨off,e⟩ | ⟨off,e⟩ | e | ⟨a,b,e⟩ | e | ⟨_,_,_,e⟩<;>first | cases e;done | skip
    injection e with _ _ e
    subst e;exact r j (fJ f)
  case rw j =>
   rw[keep (c:=.rw j) (fun _ _ e=>by cases e) rfl (fun e=>by cases e) h];refine cV q (fun s e=>?_) rfl h;rcases e with⟨off,e⟩ | ⟨off,e⟩ | e | ⟨a,b,e⟩ | e | ⟨_,_,_,e⟩<;>first | cases e;done | skip
   injection e with e
   subst e;refine r j ?_;rintro rfl;obtain⟨v,_,l⟩:=h;simp only[Rel] at l;obtain⟨a',c',t',al,n',ag,rfl,h⟩:=l;rw[y] at h;injection h with h
   cases h
  case elr j a b =>
   rw[keep (c:=.elr j a b) (fun _ _ e=>by cases e) rfl (fun e=>by cases e) h];refine cV q (fun s e=>?_) rfl h;rcases e with⟨off,e⟩ | ⟨off,e⟩ | e | ⟨a,b,e⟩ | e | ⟨_,_,_,e⟩<;>first | cases e;done | skip
   injection e with e
   subst e;refine r j ?_;rintro rfl;obtain⟨ad,t,sz,n,c,xs,_,h⟩:=h;rw[y] at h;injection h with h
   cases h
  case mpr j =>
   rw[keep (c:=.mpr j) (fun _ _ e=>by cases e) rfl (fun e=>by cases e) h];cases f:Nat.beq j k with
   | true=>trivial
   | false =>
    refine cV q (fun s e=>?_) rfl h;rcases e with⟨off,e⟩ | ⟨off,e⟩ | e | ⟨a,b,e⟩ | e | ⟨_,_,_,e⟩<;>first | cases e;done | skip
    injection e with e
    subst e;exact r j (fJ f)
  case slo j a =>
   rw[keep (c:=.slo j a) (fun _ _ e=>by cases e) rfl (fun e=>by cases e) h];cases f:Nat.beq j k with
   | true=>trivial
   | false=>exact uj q (r j (fJ f)) h
  case slp=>trivial
  all_goals
   rw[keep (fun _ _ e=>by cases e) rfl (fun e=>by cases e) h];exact cV q (fun s e=>by rcases e with⟨off,e⟩ | ⟨off,e⟩ | e | ⟨a,b,e⟩ | e | ⟨_,_,_,e⟩<;>cases e) rfl h
theorem J6 (k g:Nat) (ρ:Env) (j:Nat):xq k g ρ j=yw k g (ρ j):=by
 simp only[xq,yw];cases ρ j<;>rfl
theorem ET {k:Nat}{t:TypeId}{cs:List C}(hs:St F L w) (he:aH L ρ a) (l:TS G F L ρ M τ) (hk:M.get k=some (.box t cs)) (z:dJ cs=true) (r:dP cs=true) (hG:G k=none) :
  ∃F' L' ρ',St F' L' w/\aH L' ρ' a/\Step F L w F' L' w/\TS G F' L' ρ' ((M.del k).aag (C.frb k cs)) (fun j=>(τ j).frb k cs):=by
 obtain⟨g,ty,vs,hL,hr,y⟩:=kQ l.tl hk;obtain⟨F',d,hg,g1,g2,g3⟩:=sS hs he hL;rw[ij y.2.2] at hg;obtain⟨s,l2⟩:=J5 (F:=F) d hL hg z ((eI r hr).mono d);refine⟨F',L.del k,_,g1,g2,g3,⟨fun j=>?_,fun j=>?_,fun j g t e=>?_,l.glob.mono d⟩⟩
 ·rw[qU,TL.aai,Loc.aai];split
  ·trivial
  ·rcases eF (l.tl j) with⟨u,q⟩ | ⟨o,p,u,q,b⟩
   ·rw[u,q];trivial
   ·rw[u,q];cases o with
    | row t sz els =>
     cases p with
     | box=>exact b.elim
     | row v t' ap n xs=>exact⟨b.1,b.2.1,b.2.2.1,b.2.2.2.1,b.2.2.2.2.mono d⟩
    | box t cs =>
     cases p with
     | row=>exact b.elim
     | box g t' us=>exact⟨b.1,b.2.map fun c _ v h=>Rel.mp s 3 h⟩
    | map es =>
     cases p with
     | row=>exact b.elim
     | box g t' us=>exact⟨b.1,b.2.mono d⟩
    | win t pre cs post =>
     cases p with
     | row=>exact b.elim
     | box g t' us =>
      obtain⟨r1,v1,v2,v3,e,z,r,h3⟩:=b;exact⟨r1,v1,v2,v3,e,z.mono d,r.map fun c _ v h=>Rel.mp s 3 h,h3.mono d⟩
 ·rw[J6];have m:=l.env j;cases f:(τ j).leaf with
  | true =>
   have e:(τ j).frb k cs=rM k cs (τ j):=wL f;simp only[e];exact l2 _ _ f m
  | false =>
   generalize ρ j=sv at m;generalize τ j=c at f m;have h':∃v,sv=.v v/\Rel F L c v:=by
    cases c<;>first | exact m | cases f
   obtain⟨v,rfl,hv⟩:=h';have x:Rel F' (L.del k) (c.frb k cs) v:=Rel.mp s 3 hv;cases c<;>first | exact⟨v,rfl,x⟩ | cases f
 ·obtain⟨cs,h⟩:=l.kp j g t e;exact⟨cs,by rw[Loc.aai,o6 (by rintro rfl;rw[hG] at e;cases e)];exact h⟩
theorem qb:∀{o:List Nat}{F:aD}{L:Loc}{M:TL}{τ:aV}{args:List C}{vs:List Value}{K:TL->aV->List C->Prop},St F L w->aH L ρ a->TS G F L ρ M τ->aF F L args vs->xY o M τ args K ->
  ∃F' L' M' e b,St F' L' w/\aH L' ρ a/\Step F L w F' L' w/\TS G F' L' ρ M' e/\aF F' L' b vs/\K M' e b
 | [],F,L,M,τ,args,vs,K,f,l,m,j,h=>⟨F,L,M,τ,args,f,l,Step.refl _ _ _,m,j,h⟩
 | k::o,F,L,M,τ,args,vs,K,f,l,m,j,h=>by
  simp only[xY] at h;split at h
  case h_2=>exact h.elim
  rename_i t sz els hk;obtain⟨F1,L1,p,g2,g3,y,q⟩:=tE f l m hk;obtain⟨F2,L2,M2,n,d,x,r,z,u,k5,s⟩:=qb p g2 y (j.map fun c _ v hc=>q hc) h;exact⟨F2,L2,M2,n,d,x,r,g3.trans z,u,k5,s⟩
def vY (L:Loc):TL->Loc
 | []=>[]
 | (k,o)::l=>(k,match L.get k with
  | some p=>p
  | none=>match o with
   | .row t sz _=>.row (.slice none 0 0) t sz 0 []
   | .box _ _=>.row (.slice none 0 0) 0 0 0 []
   | .map _=>.row (.slice none 0 0) 0 0 0 []
   | .win _ _ _ _=>.row (.slice none 0 0) 0 0 0 [])::vY L l
theorem j7:∀(M1:TL) (k:Nat),(vY L M1).get k=match M1.get k with
  | some o=>some (match L.get k with | some p=>p | none=>match o with | .row t sz _=>.row (.slice none 0 0) t sz 0 [] | .box _ _=>.row (.slice none 0 0) 0 0 0 [] | .map _=>.row (.slice none 0 0) 0 0 0 [] | .win _ _ _ _=>.row (.slice none 0 0) 0 0 0 [])
  | none=>none
 | [],k=>rfl
 | (j,o)::l,k=>by
  simp only[vY,Loc.get,TL.get];cases h:Nat.beq j k with
  | true=>have:=vv h;subst this;rfl
  | false=>exact j7 l k
theorem Dg:∀{l:TL}{M1:TL},gives M M1 l->∀{k o},l.get k=some o->(∃p,M.get k=some p/\Vu M M1 p o)\/(M.get k=none/\∃t sz,o=.row t sz [])
 | [],M1,h,k,o,e=>by cases e
 | (j,p)::l,M1,h,k,o,e=>by
  simp only[gives] at h;simp only[TL.get] at e;split at e
  ·rename_i b;have:=vv b;subst this;injection e with e
   subst e;exact h.1
  ·exact Dg h.2 e
theorem vC (c:dc F L M) {M1:TL}:∀{l:TL},gives M M1 l->L.gives (vY L l)
 | [],h=>trivial
 | (j,p)::l,h=>by
  simp only[gives] at h;refine⟨?_,vC c h.2⟩;rcases h.1 with⟨q,b,f⟩ | ⟨b,t,sz,rfl⟩
  ·rcases eF (c j) with⟨d,e⟩ | ⟨o,k,d,e,m⟩
   ·rw[d] at b;cases b
   ·simp only[e];exact .inl trivial
  ·have:=cj c b;simp only[this];exact .inr ⟨trivial,t,sz,rfl⟩
theorem qX {L':Loc}{M1:TL}(y:∀k o,M1.get k≠none->L.get k=some o->L'.get k=some o):∀(n:Nat) {c:C}{v:Value},fN M1 n c=true->Rel F L c v->Rel F L' c v:=by
 have l:∀{c:C}{v:Value},c.leaf=true->mD M1 c=true->Rel F L c v->Rel F L' c v:=by
  intro c v f b h
  by_cases p:∃k d,c=.slo k d
  ·obtain⟨k,d,rfl⟩:=p;refine rN (aD.le_refl F) (fun o x=>⟨o,y k o ?_ x,Own.aah o⟩) h;simp only[mD] at b;intro e;rw[e] at b;cases b
  refine bB (aD.le_refl F) (fun k e o x=>⟨o,y k o ?_ x,Own.aah o⟩) f h (fun k d e=>p ⟨k,d,e⟩);rcases e with⟨off,rfl⟩ | rfl | rfl | ⟨m,t,off,rfl⟩ | ⟨j,off,rfl⟩
  ·simp only[mD] at b;intro e;rw[e] at b;cases b
  ·simp only[mD] at b;intro e;rw[e] at b;cases b
  ·simp only[mD] at b;intro e;rw[e] at b;cases b
  ·simp only[mD] at b;intro e;rw[e] at b;cases b
  ·simp only[mD,aaX] at b
 intro n
 induction n with
 | zero =>
  intro c v b h;cases f:c.leaf
  ·cases c<;>simp only[C.leaf,Bool.true_eq_false] at f<;>simp only[fN,aaX] at b
  ·refine l f ?_ h;cases c<;>simp only[C.leaf,aaX] at f<;>simpa only[fN] using b
 | succ n z =>
  intro c v b h;have all:∀{cs:List C}{vs:List Value},cs.all (fN M1 n)=true->aF F L cs vs->aF F L' cs vs:=by
   intro cs vs r q;have:=q.map (g:=id) (F':=F) (L':=L') (fun c f v hv=>z (aaZ.1 r c f) hv);simpa using this
  cases f:c.leaf
  ·cases c<;>simp only[C.leaf,Bool.true_eq_false] at f<;>simp only[fN,xo] at b<;>simp only[Rel] at h ⊢
   ·obtain⟨s,u,r,q,h3⟩:=h;exact⟨s,u,r,all b.1 q,all b.2 h3⟩
   ·obtain⟨vs,r,q⟩:=h;exact⟨vs,r,all b q⟩
   ·obtain⟨vs,r,q⟩:=h;exact⟨vs,r,all b q⟩
  ·refine l f ?_ h;cases c<;>simp only[C.leaf,aaX] at f<;>simpa only[fN] using b
theorem rR (m:dc F L M) {M1:TL}{c j:C}{v:Value}(h:Ml M M1 c j) (b:Rel F L c v):Rel F (vY L M1) j v:=by
 rcases h with rfl | ⟨rfl,l⟩ | ⟨rfl,rfl⟩ | ⟨rfl,k,t,sz,rfl,f,d⟩ | ⟨els,rfl,rfl⟩
 ·simp only[Rel]
 ·refine qX (fun k o f d=>?_) 3 l b;rw[j7];cases e:M1.get k with
  | none=>exact o4 e f
  | some q=>simp only[d]
 ·exact uq (c:=.nils) (by simpa only[Rel] using b)
 ·simp only[Rel] at b ⊢;subst b;refine⟨none,0,t,sz,0,[],rfl,?_⟩;rw[j7,d];simp only[cj m f]
 ·simpa only[Rel] using vu b
theorem Dh (j:dc F L M) {M1:TL}:∀{cs cs':List C}{vs:List Value},JK M M1 cs cs'->aF F L cs vs->aF F (vY L M1) cs' vs
 | [],cs',vs,h,b=>by simp only[JK] at h;subst h;simpa only[aF] using b
 | c::cs,cs',vs,h,b=>by
  simp only[JK] at h;obtain⟨n,k,rfl,l,m⟩:=h;simp only[aF] at b ⊢;obtain⟨v,d,rfl,e,f⟩:=b;exact⟨v,d,rfl,rR j l e,Dh j m f⟩
theorem Nq (x:dc F L M) {M1:TL}{o o':TO}{p:Own}(h:Vu M M1 o o') (b:cZ F L o p):cZ F (vY L M1) o' p:=by
 rcases h with⟨rfl,j⟩ | ⟨t,cs,cs',rfl,rfl,h⟩
 ·cases o with
  | row t sz els=>cases p with
   | row=>exact b
   | box=>exact b.elim
  | map es=>cases p with
   | row=>exact b.elim
   | box=>exact b
  | win t pre cs post=>cases p with
   | row=>exact b.elim
   | box g n vs =>
    simp only[JL] at j;obtain⟨u,v1,r,v3,e,f,d,s⟩:=b;have:=d.map (g:=id) (F':=F) (L':=vY L M1) (fun c m v l=>qX (fun k o f d=>by
     rw[j7];cases e:M1.get k with
     | none=>exact o4 e f
     | some q=>simp only[d]) 3 (aaZ.1 j c m) l)
    exact⟨u,v1,r,v3,e,f,by simpa using this,s⟩
  | box t cs=>cases p with
   | row=>exact b.elim
   | box g n vs =>
    simp only[JL] at j;refine⟨b.1,?_⟩;have:=b.2.map (g:=id) (F':=F) (L':=vY L M1) (fun c m v l=>qX (fun k o f d=>by
     rw[j7];cases e:M1.get k with
     | none=>exact o4 e f
     | some q=>simp only[d]) 3 (aaZ.1 j c m) l)
    simpa using this
 ·cases p with
  | row=>exact b.elim
  | box g n vs=>exact⟨b.1,Dh x h b.2⟩
theorem uy (d:dc F L M) {M1:TL}(h:gives M M1 M1):dc F (vY L M1) M1:=by
 intro k;rw[j7];cases e:M1.get k with
 | none=>trivial
 | some o =>
  rcases Dg h e with⟨q,b,j⟩ | ⟨b,t,sz,rfl⟩
  ·rcases eF (d k) with⟨c,f⟩ | ⟨m,p,c,f,l⟩
   ·rw[c] at b;cases b
   ·rw[c] at b;injection b with b
    subst b;simp only[f];exact Nq d j l
  ·simp only[cj d b];exact⟨rfl,rfl,rfl,⟨by simp,none,0,rfl,fun _=>rfl⟩,by simp only[aN]⟩
theorem uz (c:St F L w) (b:dc F L M) {M1:TL}(h:gives M M1 M1):St F (vY L M1) w/\Step F L w F (vY L M1) w:=⟨c.gives (vC b h),sU (vC b h)⟩
theorem jx:∀{l M1:TL},m9 l M1=true->∀{k o},l.get k=some o->BN o=false->∃o',M1.get k=some o'
 | [],M1,h,k,o,e,_=>by cases e
 | (j,.box r q)::l,M1,h,k,o,e,b=>by
  simp only[m9] at h;split at h
  case h_2=>cases h
  rename_i n f c;simp only[TL.get] at e;split at e
  ·rename_i d;have:=vv d;subst this;exact⟨_,c⟩
  ·exact jx h e b
 | (j,.map es)::l,M1,h,k,o,e,b=>by
  simp only[m9] at h;split at h
  case h_2=>cases h
  rename_i m c;simp only[TL.get] at e;split at e
  ·rename_i d;have:=vv d;subst this;exact⟨_,c⟩
  ·exact jx h e b
 | (j,.win ..)::l,M1,h,k,o,e,b=>by
  simp only[m9] at h;split at h
  case h_2=>cases h
  rename_i n p f s c;simp only[TL.get] at e;split at e
  ·rename_i d;have:=vv d;subst this;exact⟨_,c⟩
  ·exact jx h e b
 | (j,.row ..)::l,M1,h,k,o,e,b=>by
  simp only[m9] at h;simp only[TL.get] at e;split at e
  ·injection e with e;subst e;cases b
  ·exact jx h e b
theorem yx:∀{l M1:TL},covers l M1=true->∀{k o},l.get k=some o->∃o',M1.get k=some o'
 | [],M1,h,k,o,e=>by cases e
 | (j,p)::l,M1,h,k,o,e=>by
  simp only[covers] at h;split at h
  case h_2=>cases h
  rename_i q b;simp only[TL.get] at e;split at e
  ·rename_i c;have:=vv c;subst this;exact⟨_,b⟩
  ·exact yx h e
theorem J7 {L':Loc}(d:aH L ρ a) (h:∀k g t cs,L.get k=some (.box g t cs)->∃cs',L'.get k=some (.box g t cs')):aH L' ρ a:=by
 refine⟨fun t=>?_,fun t k off e=>?_,d.el⟩
 ·rw[d.eq t];cases e:ρ t with
  | v x=>rfl
  | el a j=>rfl
  | own k off =>
   obtain⟨g,ty,cs,c⟩:=d.own t k off e;obtain⟨cs',b⟩:=h _ _ _ _ c;simp only[conc,c,b]
 ·obtain⟨g,ty,cs,c⟩:=d.own t k off e;obtain⟨cs',b⟩:=h _ _ _ _ c;exact⟨g,ty,cs',b⟩
theorem qY (l:St F L w) (s:aH L ρ a) (c:TS G F L ρ M τ) {M1:TL}(h:gives M M1 M1) (r:covers M M1=true) :
  St F (vY L M1) w/\aH (vY L M1) ρ a/\Step F L w F (vY L M1) w/\TS G F (vY L M1) ρ M1 τ/\Ext L (vY L M1):=by
 obtain⟨u,n⟩:=uz l c.tl h;have b:∀k o,L.get k=some o->(vY L M1).get k=some o:=by
  intro k o e;rcases eF (c.tl k) with⟨d,f⟩ | ⟨q,p,d,f,v⟩
  ·rw[f] at e;cases e
  ·obtain⟨o',m⟩:=yx r d;rw[j7,m];simp only[e]
 refine⟨u,J7 s fun k g t cs e=>⟨cs,b _ _ e⟩,n,⟨uy c.tl h,fun j=>(c.env j).ext (aD.le_refl F) fun k o e=>⟨o,b k o e,Own.aah o⟩,fun k g t e=>?_,c.glob⟩,fun k o e=>⟨o,b k o e,Own.aah o⟩⟩;obtain⟨cs,h⟩:=c.kp k g t e;exact⟨cs,b _ _ h⟩
theorem Rw {F:aD}{args:List C}{vs:List Value}(ha:aF F L args vs):aF F (inp []) (args.map fun c=>c.aaj.ren (bZ [] 1000)) vs :=
 ha.map fun c _ v b=>(iK b).ren (fun j m e=>by cases e)
theorem VA {F:aD}{L:Loc}{args:List C}{vs:List Value}{f:Nat}{o:Own}(k:L.get f=some o) (ha:aF F L args vs):aF F (inp [o]) (args.map fun c=>c.aaj.ren (bZ [f] 1000)) vs :=
 ha.map fun c _ v h=>(iK h).ren (fun j m e o' b=>by
  obtain⟨n,d,rfl⟩:=BM e;cases n with
  | zero =>
   simp only[aa0,vz] at d;subst d;rw[k] at b;injection b with b
   subst b;rfl
  | succ n=>simp at d)
theorem EU:dc F (inp []) (jm []):=fun k=>by rw[cB,aX];split<;>simp[JM]
theorem gW.aao {Li:List Own}{R:List TO->C->Prop}:∀F G L v,aD.le F G->gW Li R F L v->gW Li R G L v:=by
 rintro F G L v b ⟨Mo,c,h,j,d,e,f⟩;exact⟨Mo,c,h,j.mono b,d.mono b,e,f⟩
theorem vD {f:Nat}{args:List C}{vs:List Value}{d:Option Nat}{K:TL->aV->C->Prop}(r:TS G F L ρ M τ) (ha:aF F L args vs) (h:s9 P f args M τ d K) :
  eB P f vs F L d (fun F' L' v=>∃M' ao c,TS G F' L' ρ M' ao/\aQ F' L' c (.v v)/\K M' ao c):=by
 cases h with
 | frz R h k =>
  refine .frz (gW [] R) (h.out F [] vs rfl EU (Rw ha)) ?_;rintro v F' Lo l ⟨Mo,c,q,u,b,q4,z⟩;obtain⟨rfl,k2⟩:=k c Mo z b.wf;have:Lo=[]:=List.length_eq_zero_iff.1 (by rw[<-q];rfl);subst this;exact⟨rfl,fun _=>⟨M,τ,_,r.mono l,jZ (b.ext (aD.le_refl F') (fun k o e=>by rw[aX] at e;split at e<;>simp at e)),k2⟩⟩
 | own R k h hd hk kk =>
  refine .own (gW [] R) k (h.out F [] vs rfl EU (Rw ha)) hd (cj r.tl hk) ?_;rintro v F' Lo l ⟨Mo,c,q,u,b,q4,z⟩;have be:∀o∈Mo,o.Wf:=by
   intro o ho;obtain⟨i,hi⟩:=abd.1 ho;have bi:i<Lo.length:=by rw[<-q];exact(w7.1 hi).1
   have:=u (1000+i);rw[cB,aX,eu (by omega),eu (by omega),show 1000+i-1000=i by omega,hi,v7 bi] at this;exact cZ.wf this
  obtain⟨o,rfl,k2⟩:=kk c Mo z b.wf be
  match Lo,q with
  | [p],_ =>
   have n:∀j m,aZ [k] j=some m->∀o,(inp [p]).get j=some o->(L.set k p).get m=some o:=by
    intro j m hj o ho;obtain⟨a1,a2⟩:=mS hj;rw[aX,eu a1] at ho;have:j-1000=0:=by have:=(w7.1 a2).1;simp at this;omega
    rw[this] at ho a2;simp at ho a2;subst ho a2;rw[Loc.aac,eu rfl]
   have ap:=u 1000;rw[cB,aX,eu (by omega),eu (by omega)] at ap;refine⟨p,rfl,fun _=>⟨_,τ,_,r.new l (cj r.tl hk) (cZ.ren n ap),jZ (b.ren n),k2⟩⟩
 | row R kr t sz els ar hk h kk =>
  obtain⟨rv,xs,hL,⟨hm,av,cv,rfl,bs⟩,hr⟩:=kR r.tl hk;refine .row (fun F' Lo v=>Lo=[]/\gW [] R F' [] v) kr _ t sz els.length xs ⟨ar,fun F1 F2 L v bl s=>⟨s.1,gW.aao _ _ _ _ bl s.2⟩,fun w hs=>?_⟩ hL ?_
  ·have bd:aH (inp [.row (.slice av els.length cv) t sz els.length xs]) (fun _=>.v undef) (⟨#[],[]⟩:Act):=by
    refine⟨fun j=>?_,fun j k off e=>(by cases e),fun j a i e=>(by cases e)⟩;simp[conc]
   obtain⟨F2,L2,g1,_,g3,l,aa,rfl⟩:=oO (k:=1000) (KK:=fun F' L'=>F.le F'/\I5 F' (.slice av els.length cv) sz els.length xs/\L'=(inp [.row (.slice av els.length cv) t sz els.length xs]).del 1000) hs bd ⟨_,_,_,_,_,rfl,fun F' l aa=>⟨l,aa,rfl⟩⟩;have al:Rel F2 (L.del kr) (.sl els) (.slice av els.length cv):=by
    simp only[Rel];rcases aa with⟨e1,e2,e3⟩ | ⟨ad,c2,e1,e2,e3⟩
    ·injection e1 with q u b
     have:els=[]:=List.length_eq_zero_iff.1 u;subst this;exact⟨av,cv,rfl,by simp,by simp,fun _=>⟨rfl,b⟩,sz,by simp only[gC]⟩
    ·injection e1 with q u b
     subst q b;exact⟨some ad,cv,rfl,e3,hm,fun e=>(by cases e),sz,(hr.mono l).frz e2⟩
   obtain⟨l1,_⟩:=Df l hL al;have ba:aF F2 (L.del kr) (args.map (C.frz kr els)) vs:=ha.map fun c _ v hc=>Rel.mp l1 3 hc;have an:=Rw ba;rw[abF] at an;refine((h.out F2 [] vs rfl EU an).run w g1).mono ?_;rintro e w' ⟨v,F',Lo,rfl,bb,bj,s⟩;have bo:Lo=[]:=by
    obtain⟨Mo,c,q,u,b,q4,z⟩:=s;obtain⟨rfl,_⟩:=kk c Mo z b.wf;exact List.length_eq_zero_iff.1 (by rw[<-q];rfl)
   subst bo;exact⟨v,F',[],rfl,bb,g3.trans bj,rfl,s⟩
  ·rintro v F' Lo l ⟨rfl,Mo,c,q,u,b,q4,z⟩;obtain⟨rfl,k2⟩:=kk c Mo z b.wf;refine⟨rfl,fun _=>⟨_,_,_,(r.mono l).aax (k:=kr) (o':=.row (.slice none 0 0) t sz 0 []) (to:=.row t sz []) (fun g t' cs e=>by rw[hL] at e;injection e with e;cases e) ⟨rfl,rfl,rfl,⟨abk _,none,0,rfl,fun _=>rfl⟩,by simp only[aN]⟩,jZ (b.ext (aD.le_refl F') (fun k o e=>by rw[aX] at e;split at e<;>simp at e)),k2⟩⟩
 | lent kr t sz els x hk h k =>
  obtain⟨rv,xs,hL,y,hr⟩:=kR r.tl hk;refine .lent (fun F' v=>Rel F' (inp []) x v) kr rv t sz els.length xs (h.out F rv xs vs ⟨rfl,rfl,rfl,y,hr⟩ (VA hL ha)) hL fun v F' l s _=>?_;exact⟨M,τ,_,r.mono l,jZ (s.ext (aD.le_refl F') (fun k o e=>by rw[aX] at e;split at e<;>simp at e)),k s.wf⟩
def kT:eH->Bool
 | .call _ _=>true
 | .callV _ _=>true
 | _=>false
theorem TS.aan {F:aD}{L:Loc}{ρ:Env}{M:TL}{τ:aV}{K:TK}{d:Option Nat}(b:TS G F L ρ M τ) {c:C}{sv:SV}(e:aQ F L c sv) (h:K M (bD d c τ)):Both G K F L (Fr.put d sv ρ):=⟨_,_,b.put e d,h⟩
theorem jF (h:∀j,aQ F L (τ j) (ρ j)) {fi ca:List C}{c b:List Value}(d:aF F L fi c) (e:aF F L ca b) (args:List X):aF F L (fi++dZ τ args++ca) (c.toArray.toList++bn L ρ args++b.toArray.toList):=by
 simpa using(d.append (cW h args)).append e
theorem dz.imp {f:Nat}{args:List Value}{F:aD}{L:Loc}{K K':aD->Loc->Value->Prop}(h:dz P f args F L K) (m:∀F' L' v,K F' L' v->K' F' L' v):dz P f args F L K':=by
 obtain⟨ks,ko,Lin,R,n,k,l,j,p,d⟩:=h;exact⟨ks,ko,Lin,R,n,k,l,j,p,fun v F' Lo o e=>let⟨a,b,c⟩:=d v F' Lo o e;⟨a,b,m _ _ _ c⟩⟩
theorem eB.imp' {f:Nat}{args:List Value}{F:aD}{L:Loc}{d:Option Nat}{K K':aD->Loc->Value->Prop}(h:eB P f args F L d K) (p:∀F' L' v,K F' L' v->K' F' L' v):eB P f args F L d K':=by
 cases h with
 | frz R h k=>exact .frz R h fun v F' Lo l e=>let⟨a,b⟩:=k v F' Lo l e;⟨a,fun j=>p _ _ _ (b j)⟩
 | own R k h s c m=>exact .own R k h s c fun v F' Lo l e=>let⟨o,a,b⟩:=m v F' Lo l e;⟨o,a,fun j=>p _ _ _ (b j)⟩
 | row R r q t sz n xs h c m=>exact .row R r q t sz n xs h c fun v F' Lo l e=>let⟨a,b⟩:=m v F' Lo l e;⟨a,fun j=>p _ _ _ (b j)⟩
 | lent R r q t sz n xs h c m=>exact .lent R r q t sz n xs h c fun v F' l e j=>p _ _ _ (m v F' l e j)
theorem J8 {op:BinOp}{k:IntKind}{a b:Int}{K K':Value->Prop}(h:binI op k a b K) (c:∀v,K v->K' v):binI op k a b K':=by
 cases op<;>simp only[binI] at h ⊢<;>first
  | exact h.elim
  | exact⟨c _ h.out⟩
  | exact⟨h.ne,⟨c _ h.out.out⟩⟩
  | exact⟨h.ne,c _ h.out⟩
  | exact c _ h
theorem Nr {op:BinOp}{k:IntKind}{a b:Int}{K K':Value->Prop}(h:shI op k a b K) (c:∀v,K v->K' v):shI op k a b K':=by
 cases op<;>simp only[shI] at h ⊢<;>first
  | exact h.elim
  | exact⟨h.1,⟨c _ h.2.out⟩⟩
  | exact⟨h.1,c _ h.2⟩
theorem J9 {op:BinOp}{a b:ByteArray}{K K':Value->Prop}(h:binS op a b K) (c:∀v,K v->K' v):binS op a b K':=by
 cases op<;>simp only[binS] at h ⊢<;>first
  | exact h.elim
  | exact c _ h
  | exact⟨h.1,c _ h.2⟩
theorem Di {o:eH}{V V':SV->Prop}{F:aD}{L:Loc}{ρ:Env}(h:aL o F L ρ V) (d:∀v,V v->V' v):aL o F L ρ V':=by
 have load:∀{a:Option Addr}{j n:Nat}{g:List Value->SV},jM F L a j n (fun cs=>V (g cs))->jM F L a j n (fun cs=>V' (g cs)):=fun h=>⟨let⟨cs,f,e,m⟩:=h.out;⟨cs,f,e,d _ m⟩⟩;have loadD:∀{a:Option Addr}{j n:Nat}{g:List Value->SV},iR F a j n (fun cs=>V (g cs))->iR F a j n (fun cs=>V' (g cs)):=fun h=>⟨let⟨cs,f,e,m⟩:=h.out;⟨cs,f,e,d _ m⟩⟩;cases o<;>simp only[aL] at h ⊢<;>first
  | exact h.elim
  | exact d _ h
  | skip
 case pick c a b =>
  generalize ev ρ c=z at h ⊢;split at h<;>first | exact h.elim | exact d _ h
 case build zs ps =>
  generalize built L ρ zs ps=z at h ⊢;split at h<;>first | exact h.elim | exact d _ h
 case load agg n x =>
  generalize ev ρ x=z at h ⊢;split at h
  ·rename_i k off;generalize L.get k=y at h ⊢;split at h
   ·rename_i t cs;generalize jg t ((cs.drop off).take n) n=b at h ⊢;cases b
    ·exact h.elim
    ·exact d _ h
   ·exact h.elim
  ·exact load h
  ·exact load h
  ·exact h.elim
 case loadR agg n x =>
  generalize ev ρ x=z at h ⊢;split at h
  ·rename_i k off;generalize L.get k=y at h ⊢;split at h
   ·rename_i t cs;generalize jg t ((cs.drop off).take n) n=b at h ⊢;cases b
    ·exact h.elim
    ·exact d _ h
   ·exact h.elim
  ·exact load h
  ·exact load h
  ·exact h.elim
 case loadD agg n x =>
  generalize ev ρ x=z at h ⊢;split at h
  ·rename_i k off;generalize L.get k=y at h ⊢;split at h
   ·rename_i t cs;generalize jg t ((cs.drop off).take n) n=b at h ⊢;cases b
    ·exact h.elim
    ·exact d _ h
   ·exact h.elim
  ·exact loadD h
  ·exact loadD h
  ·exact h.elim
 case gload g =>
  obtain⟨v,t,fr,f,e⟩:=h;exact⟨v,t,fr,f,d _ e⟩
 case loadF agg n x =>
  generalize ev ρ x=z at h ⊢;split at h
  ·exact loadD h
  ·exact loadD h
  ·exact h.elim
 case loadK key agg n x =>
  generalize ev ρ x=z at h ⊢;split at h
  ·rename_i k off;generalize Nat.beq k key=q at h ⊢;cases q
   ·exact h.elim
   ·simp only[] at h ⊢;generalize L.get k=y at h ⊢;split at h
    ·rename_i t cs;generalize jg t ((cs.drop off).take n) n=b at h ⊢;cases b
     ·exact h.elim
     ·exact d _ h
    ·exact h.elim
  ·exact h.elim
 case mlook str ok z0 x i =>
  generalize ev ρ x=z at h ⊢;split at h
  ·obtain⟨k,cs,f,e,⟨m⟩⟩:=h;exact⟨k,cs,f,e,⟨m.imp (fun⟨i,v,p,u⟩=>⟨i,v,p,d _ u⟩) fun⟨p,u⟩=>⟨p,d _ u⟩⟩⟩
  ·exact h.elim
 case mlen x =>
  generalize ev ρ x=z at h ⊢;split at h
  ·obtain⟨k,cs,f,e,m⟩:=h;exact⟨k,cs,f,e,d _ m⟩
  ·exact h.elim
 case b2sD x =>
  generalize ev ρ x=z at h ⊢;split at h
  ·exact⟨let⟨cs,f,e,⟨bs,m,p⟩⟩:=h.out;⟨cs,f,e,⟨bs,m,d _ p⟩⟩⟩
  ·exact h.elim
 case b2sR x =>
  generalize ev ρ x=z at h ⊢;split at h
  ·exact⟨let⟨k,t,c,bs,f,e,m,p⟩:=h.out;⟨k,t,c,bs,f,e,m,d _ p⟩⟩
  ·exact h.elim
 case mkif t x =>
  generalize ev ρ x=z at h ⊢;split at h<;>first
   | exact h.elim
   | exact d _ h
   | (split at h
      ·exact d _ h
      ·exact h.elim)
 case nilck x =>
  generalize ev ρ x=z at h ⊢;split at h<;>first
   | exact h.elim
   | exact d _ h
   | exact⟨h.1,d _ h.2⟩
   | (split at h
      ·exact⟨h.1,d _ h.2⟩
      ·exact h.elim)
 case mkmv nm x =>
  generalize ev ρ x=z at h ⊢;split at h<;>first | exact h.elim | exact d _ h
 case bin op x y =>
  generalize ev ρ x=z at h ⊢;generalize ev ρ y=z' at h ⊢;split at h
  ·rename_i k a k' b;generalize I4 op=q at h ⊢;cases q
   ·generalize qy k k'=r at h ⊢;cases r
    ·exact h.elim
    ·exact J8 h fun v=>d _
   ·exact Nr h fun v=>d _
  ·exact J9 h fun v=>d _
  ·exact h.elim
 case eqB neg x y =>
  generalize ev ρ x=z at h ⊢;generalize ev ρ y=z' at h ⊢;split at h<;>first | exact h.elim | exact d _ h
 case eqP neg x y =>
  generalize ev ρ x=z at h ⊢;generalize ev ρ y=z' at h ⊢;split at h<;>first | exact h.elim | exact d _ h
 case eqS neg x y =>
  generalize ev ρ x=z at h ⊢;generalize ev ρ y=z' at h ⊢;split at h<;>first | exact h.elim | exact d _ h
 case eqF neg x y =>
  generalize ev ρ x=z at h ⊢;generalize ev ρ y=z' at h ⊢;split at h<;>first | exact h.elim | exact d _ h
 case tas t z x =>
  generalize ev ρ x=y at h ⊢;split at h<;>first
   | exact d _ h
   | (split at h<;>exact d _ h)
   | exact h.elim
 case eqN neg x =>
  generalize ev ρ x=z at h ⊢;split at h<;>first | exact h.elim | exact d _ h
 case eqA neg ks x y =>
  generalize ev ρ x=z at h ⊢;generalize ev ρ y=z' at h ⊢;split at h
  case h_2=>exact h.elim
  rename_i cs ds;generalize jh ks cs.toList ds.toList true=q at h ⊢;cases q with
  | none=>exact h.elim
  | some b=>exact d _ h
 case un op x =>
  generalize ev ρ x=z at h ⊢;split at h<;>first | exact h.elim | exact d _ h | exact⟨d _ h.out⟩
 case conv k x =>
  generalize ev ρ x=z at h ⊢;split at h<;>first | exact h.elim | exact⟨d _ h.out⟩
 case b2s x =>
  generalize ev ρ x=z at h ⊢;split at h
  ·exact⟨let⟨cs,f,e,⟨bs,m,p⟩⟩:=h.out;⟨cs,f,e,⟨bs,m,d _ p⟩⟩⟩
  ·exact h.elim
 case slc sz x lo hi =>
  generalize ev ρ x=z at h ⊢;split at h
  ·rename_i a n c;generalize jI ρ 0 lo=y at h ⊢;generalize jI ρ n hi=y' at h ⊢;split at h
   ·exact⟨h.lo,h.le,h.hi,d _ h.out⟩
   ·exact h.elim
  ·exact h.elim
 case slcS x lo hi =>
  generalize ev ρ x=z at h ⊢;split at h
  ·rename_i s;generalize jI ρ 0 lo=y at h ⊢;generalize jI ρ s.size hi=y' at h ⊢;split at h
   ·exact⟨h.lo,h.le,h.hi,d _ h.out⟩
   ·exact h.elim
  ·exact h.elim
 case fieldA off x =>
  generalize ev ρ x=z at h ⊢;split at h<;>first | exact h.elim | exact d _ h
 case fieldV agg off n x =>
  generalize ev ρ x=z at h ⊢;split at h
  ·rename_i cs;generalize fH ((cs.toList.drop off).take n) n=b at h ⊢;cases b
   ·exact h.elim
   ·exact d _ h
  ·exact h.elim
 case idxA sz x i =>
  generalize ev ρ x=z at h ⊢;generalize ev ρ i=z' at h ⊢;split at h
  ·exact⟨h.ne,h.lo,h.hi,d _ h.out⟩
  ·exact h.elim
 case idxS x i =>
  generalize ev ρ x=z at h ⊢;generalize ev ρ i=z' at h ⊢;split at h
  ·exact⟨h.lo,h.hi,d _ h.out⟩
  ·exact h.elim
 case extr x i =>
  generalize ev ρ x=z at h ⊢;split at h
  ·rename_i vs;generalize vs.toList[i]?=y at h ⊢;cases y
   ·exact h.elim
   ·exact d _ h
  ·exact h.elim
 case len x =>
  generalize ev ρ x=z at h ⊢;split at h<;>first | exact h.elim | exact d _ h
 case lenS x =>
  generalize ev ρ x=z at h ⊢;split at h<;>first | exact h.elim | exact d _ h
 case capa x =>
  generalize ev ρ x=z at h ⊢;split at h<;>first | exact h.elim | exact d _ h
 case mm mx args =>
  generalize args.map (ev ρ)=z at h ⊢;split at h
  ·rename_i k a l;generalize PI mx a l=y at h ⊢;cases y
   ·exact h.elim
   ·exact d _ h
  ·exact h.elim
theorem Rx {o:eH}{d:Option Nat}{K:TK}{F:aD}{L:Loc}{ρ:Env}{M:TL}{τ:aV}(b:TS G F L ρ M τ) (h:outT o M τ fun v=>K M (bD d v τ)):aL o F L ρ (fun v=>Both G K F L (Fr.put d v ρ)) :=
 Di (Vy b h) fun sv ⟨c,e,f⟩=>b.aan e f
set_option maxHeartbeats 1000000 in
theorem Ns {str:Bool}{c:C}(h:JH str c=true):(∃n,str=false/\c=.int .i64 n)\/∃s,str=true/\c=.str s:=by
 unfold JH at h;split at h
 ·exact .inl ⟨_,rfl,rfl⟩
 ·exact .inr ⟨_,rfl,rfl⟩
 ·cases h
theorem F7 {F:aD}{str:Bool}{key c:C}{kv v:Value}(f:Rel F [] key kv) (m:Rel F [] c v):∀{es es':List (C×C)}{vs:List Value},jw F es vs->JI str key c es=some es'->∃b,xj str kv v vs=some b/\jw F es' b
 | [],es',vs,h,e=>by
  simp only[jw] at h;subst h;simp only[JI,vz] at e;subst e;exact⟨_,rfl,by simp only[jw];exact⟨kv,v,[],rfl,f,m,rfl⟩⟩
 | (k,d)::l,es',vs,h,e=>by
  simp only[jw] at h;obtain⟨u,x,b,rfl,n,q,o⟩:=h;simp only[JI] at e;split at e
  ·rename_i j;injection e with e
   subst e;exact⟨_,by simp only[xj,qR j f n];rfl,by simp only[jw];exact⟨kv,v,b,rfl,f,m,o⟩⟩
  ·rename_i j;split at e
   case h_2=>cases e
   rename_i y s;injection e with e
   subst e;obtain⟨r,p,t⟩:=F7 f m o s;exact⟨_,by simp only[xj,qR j f n,p];rfl,by simp only[jw];exact⟨u,x,r,rfl,n,q,t⟩⟩
  ·cases e
theorem HS {F:aD}{L:Loc}{c:C}{v:Value}(h:Rel F L c.cel v) (b:dP (cg c)=true):Rel F [] c.cel.aaj v:=by
 have leaf:dP [c]=true->Rel F L c v->Rel F [] c v:=fun b h=>by
  have:=eI (L':=[]) b (show aF F L [c] [v] by simp only[aF];exact⟨v,[],rfl,h,rfl⟩);simp only[aF] at this;obtain⟨u,us,e,d,_⟩:=this;injection e with e1 e2
  rw[e1];exact d
 cases c
 case agg cs =>
  simp only[C.cel,cg] at h b ⊢;refine iK ?_;simp only[Rel] at h ⊢;obtain⟨vs,d,f⟩:=h;exact⟨vs,d,eI b f⟩
 case ownv k o=>simp[cg,dP,C.pure,C.aak] at b
 case elr k j o=>simp[cg,dP,C.pure,C.aak] at b
 case slp k o j=>simp[cg,dP,C.pure,C.aak] at b
 case slo k o=>simp[cg,dP,C.pure,C.aak] at b
 all_goals
  simp only[C.cel,cg] at h b ⊢;exact iK (leaf b h)
theorem Ka {o:eH}{d:Option Nat}{K:TK}{F:aD}{L:Loc}{ρ:Env}{M:TL}{τ:aV}(ho:kT o=false) (l:TS G F L ρ M τ) (h:bN P o d M τ K):evalOp P o d F L ρ (Both G K):=by
 have z:=l.env;cases o
 case call=>cases ho
 case callV=>cases ho
 case box t x =>
  simp only[bN,fe,eL,dR] at h;simp only[evalOp];split at h
  case h_2=>exact h.elim
  rename_i k;split at h
  case h_2=>exact h.elim
  rename_i hk hc hb;simp only[cj l.tl hk];exact fun g=>FY l hk hc (BL hb) h g
 case boxD t x =>
  simp only[bN,fe,eL,dR] at h;simp only[evalOp];split at h
  case h_2=>exact h.elim
  rename_i k;split at h
  case h_2=>exact h.elim
  rename_i hk hc hb;simp only[cj l.tl hk];exact fun g _=>FY l hk hc (BL hb) h g
 case boxF t x =>
  simp only[bN,fe,eL,dR] at h;simp only[evalOp];split at h
  case h_2=>exact h.elim
  rename_i m j p;intro g F' hF hg;exact(l.mono hF).aan (Rv hg (nB j) (j5 ((eI p (dS z m)).mono hF))) h
 case alloc t zs =>
  simp only[bN,fe,eL,dR] at h;simp only[evalOp];split at h
  case h_2=>exact h.elim
  rename_i k;split at h
  case h_2=>exact h.elim
  rename_i hk hb;simp only[cj l.tl hk];exact fun g=>Ar l hk (BL hb) h g
 case allocD t zs =>
  simp only[bN,fe,eL,dR] at h;simp only[evalOp];split at h
  case h_2=>exact h.elim
  rename_i k;split at h
  case h_2=>exact h.elim
  rename_i hk hb;simp only[cj l.tl hk];exact fun g _=>Ar l hk (BL hb) h g
 case mkF e n sz xs =>
  simp only[bN,fe,eL,dR] at h;simp only[evalOp];split at h
  ·rename_i m j p;rw[(jE z m).1];exact fun g F' hF hg=>FZ l m (vv j) (aa1 p) h hF hg
  ·rename_i m j p;split at h
   case h_2=>exact h.elim
   rename_i ba;obtain rfl:=vv ba;split at h
   case h_2=>exact h.elim
   split at h
   case h_2=>exact h.elim
   rename_i bj ho;obtain⟨q1,q2⟩:=F5 (e:=e) l ho (by simp) (vv j) (aa1 p) h;rw[q1];exact fun g F' hF hg=>q2 hF hg
  ·exact h.elim
 case mkFD e n sz xs =>
  simp only[bN,fe,eL,dR] at h;simp only[evalOp];split at h
  ·rename_i m j p;rw[(jE z m).1];exact fun g F' hF hg _=>FZ l m (vv j) (aa1 p) h hF hg
  ·rename_i m j p;split at h
   case h_2=>exact h.elim
   rename_i ba;obtain rfl:=vv ba;split at h
   case h_2=>exact h.elim
   split at h
   case h_2=>exact h.elim
   rename_i bj ho;obtain⟨q1,q2⟩:=F5 (e:=e) l ho (by simp) (vv j) (aa1 p) h;rw[q1];exact fun g F' hF hg _=>q2 hF hg
  ·exact h.elim
 case mkR e n sz xs =>
  simp only[bN,fe,eL,dR] at h;simp only[evalOp];split at h
  case h_2=>exact h.elim
  rename_i k m j p;split at h
  case h_2=>exact h.elim
  rename_i hk;rw[(jE z m).1];simp only[cj l.tl hk];exact fun g=>Nn l m (vv j) (aa1 p) hk h g
 case s2b e x =>
  simp only[bN,fe,eL,dR] at h;simp only[evalOp];split at h
  case h_2=>exact h.elim
  rename_i s hx;obtain⟨e1,e2⟩:=jY z hx;rw[e1];intro g c F' hF hf hc;have hl:(af s.data.toList).length=s.size:=by simp[af]
  have:=FW (F:=F') (L:=L) (els:=af s.data.toList) (a:=some ⟨g,0,none⟩) (c:=c) (sz:=1) (by rw[hl];exact hc) (by rw[hl];exact e2) (fun e=>by cases e) (EP hf);rw[hl] at this;exact(l.mono hF).aan this h
 case makeS=>exact HO l h
 case store n y x=>exact EQ l h
 case storeD n y x=>exact yg l h
 case storeK key n y x =>
  simp only[bN] at h;split at h
  case h_2=>exact h.elim
  rename_i k off hy;split at h
  case h_2=>exact h.elim
  rename_i hb;obtain⟨n',a',x',k',cc,g,t,cs,ho,e1,e2,e3,e4,e5,hK⟩:=iU (P:=P) rfl (yg l h);rcases ho with ho | ho
  ·injection ho with q1 q2 q3
   subst q1 q2 q3;rw[(eX z hy).1] at e3;injection e3 with q1 q2
   subst q1 q2;have hb:=vv hb;subst hb;exact iG (.inr rfl) e1 e2 (eX z hy).1 e4 e5 hK
  ·cases ho
 case makeSD e sz n zs =>
  simp only[bN] at h;split at h
  case h_2=>exact h.elim
  rename_i k;split at h
  case h_2=>exact h.elim
  rename_i hk m j p;have ab:=cj l.tl hk;have am:zs.length=sz:=by have:=bC m;simpa using this
  simp only[evalOp,ab,dh am,p];intro g _;have hz:aF F [] ((zs.map sG).map C.can) zs:=j5 (lI zs);have aw:dJ (zs.map sG)=true->∀i:Nat,aN F sz (List.replicate i ((zs.map sG).map C.can)) (List.replicate i zs).flatten:=by
   intro j i
   induction i with
   | zero=>simp only[List.replicate_zero,List.flatten_nil,aN]
   | succ i ih =>
    simp only[abB,List.flatten_cons,aN];exact⟨zs,_,rfl,am,nB j,hz,ih⟩
  have an:∀i:Nat,i=n->aN F sz (List.replicate i ((zs.map sG).map C.can)) (List.replicate i zs).flatten:=by
   intro i hi;rw[abl] at j;rcases j with j | j
   ·have j:=vv j;rw[hi,j];simp only[List.replicate_zero,List.flatten_nil,aN]
   ·exact aw j i
  have p:=l.new (aD.le_refl F) ab (o:=.row (.slice (some ⟨g,0,none⟩) n n) e sz n (List.replicate n zs).flatten) (to:=.row e sz (List.replicate n ((zs.map sG).map C.can)))
   ⟨rfl,rfl,by simp,⟨aa1 p,_,_,rfl,fun e=>(by cases e)⟩,an _ rfl⟩
  exact⟨_,_,p.put (c:=.rw k) (nU (by rw[Loc.aac,eu rfl])) (some k),h⟩
 case makeSV e sz b zs x =>
  simp only[bN] at h;split at h
  case h_2=>exact h.elim
  rename_i ki n k hx;split at h
  case h_2=>exact h.elim
  rename_i hk m j;have ab:=cj l.tl hk;have am:zs.length=sz:=by have:=bC m;simpa using this
  obtain⟨m1,_,m3,m4,h⟩:=h;have hv:val L ρ x=.int ki n:=by rw[val,(eO z hx).1];rfl
  have aE:tQ b (val L ρ x)=true:=by
   rw[hv,tQ,xo,xo];exact⟨⟨Nat.ble_eq_true_of_le m3,Nat.ble_eq_true_of_le m4⟩,decide_eq_true m1⟩
  have hc:mU (val L ρ x)=n.toNat:=by rw[hv];rfl
  simp only[evalOp,ab,dh am,aE];rw[hc];intro g _;have hz:aF F [] ((zs.map sG).map C.can) zs:=j5 (lI zs);have an:∀i:Nat,aN F sz (List.replicate i ((zs.map sG).map C.can)) (List.replicate i zs).flatten:=by
   intro i
   induction i with
   | zero=>simp only[List.replicate_zero,List.flatten_nil,aN]
   | succ i ih =>
    simp only[abB,List.flatten_cons,aN];exact⟨zs,_,rfl,am,nB j,hz,ih⟩
  have p:=l.new (aD.le_refl F) ab (o:=.row (.slice (some ⟨g,0,none⟩) n.toNat n.toNat) e sz n.toNat (List.replicate n.toNat zs).flatten) (to:=.row e sz (List.replicate n.toNat ((zs.map sG).map C.can)))
   ⟨rfl,rfl,by simp,⟨m4,_,_,rfl,fun e=>(by cases e)⟩,an _⟩
  exact⟨_,_,p.put (c:=.rw k) (nU (by rw[Loc.aac,eu rfl])) (some k),h⟩
 case callD f args =>
  simp only[bN,fe,eL,dR] at h;simp only[evalOp];refine eB.imp' (vD l (cW z args) h) ?_;rintro F' L' v ⟨M',q,c,m,j,p⟩;exact m.aan j p
 case callVD f args =>
  simp only[bN,fe,eL,dR] at h;simp only[evalOp];split at h
  ·rename_i f' fi ca hx;obtain⟨bu,bv,e1,m,j⟩:=tv z hx;rw[e1];refine eB.imp' (vD l (jF z m j args) h) ?_;rintro F' L' v ⟨M',q,c,m,j,p⟩;exact m.aan j p
  ·rename_i nm c hx;split at h
   case h_2=>exact h.elim
   rename_i t c;obtain⟨u,e1,hr⟩:=yc z hx;simp only[Rel] at hr;obtain⟨u',rfl,hu⟩:=hr;obtain⟨f',hm,h⟩:=h;have e2:mq P (ev ρ f)=some (f',[u'],[]):=by rw[e1];simp only[mq,hm]
   rw[e2];have az:aF F L (c::dZ τ args) ([u']++bn L ρ args++[]):=by
    rw[aaU];simp only[aaT,aa5,aF];exact⟨_,_,rfl,hu.lift,cW z args⟩
   refine eB.imp' (vD l az h) ?_;rintro F' L' v ⟨M',q,c,m,j,p⟩;exact m.aan j p
  ·exact h.elim
 case callO f args =>
  simp only[bN,fe,eL,dR] at h;simp only[evalOp];cases h with
  | mk h =>
   obtain⟨ks,ko,Lin,R,m,j,p,h4,h5,h6,h7⟩:=h;refine dz.imp (rP (K:=fun M' q v=>K M' (bD d v q)) l (cW z args) m j p h4 h5 h6 h7) ?_;rintro F' L' v ⟨M',q,c,m,j,p⟩ _;exact m.aan j p
  | inpl ks Lin R m j p h4 =>
   refine dz.imp (vB (K:=fun M' q v=>K M' (bD d v q)) l (cW z args) m j p h4) ?_;rintro F' L' v ⟨M',q,c,m,j,p⟩ _;exact m.aan j p
 case callVO f args =>
  simp only[bN,fe,eL,dR] at h;simp only[evalOp];split at h
  case h_2=>exact h.elim
  rename_i f' fi ca hx;obtain⟨bu,bv,e1,g1,g2⟩:=tv z hx;rw[e1];cases h with
  | mk h =>
   obtain⟨ks,ko,Lin,R,m,j,p,h4,h5,h6,h7⟩:=h;refine dz.imp (rP (K:=fun M' q v=>K M' (bD d v q)) l (jF z g1 g2 args) m j p h4 h5 h6 h7) ?_;rintro F' L' v ⟨M',q,c,m,j,p⟩ _;exact m.aan j p
  | inpl ks Lin R m j p h4 =>
   refine dz.imp (vB (K:=fun M' q v=>K M' (bD d v q)) l (jF z g1 g2 args) m j p h4) ?_;rintro F' L' v ⟨M',q,c,m,j,p⟩ _;exact m.aan j p
 case look x i =>
  simp only[bN] at h;simp only[evalOp];split at h
  case h_2=>exact h.elim
  rename_i k n hx hi;split at h
  case h_2=>exact h.elim
  rename_i r b hl;obtain⟨mv,e1,hm⟩:=BG z hx;obtain⟨e2,_⟩:=eO z hi;rw[e1,e2];refine⟨k,r,b,hm,hl,l.aan (c:=.tup [.int .i64 r,.bool b]) ⟨_,rfl,?_⟩ h⟩;simp only[Rel,aF];exact⟨_,rfl,_,_,rfl,⟨rfl,CD hl⟩,_,_,rfl,rfl,rfl⟩
 case app=>exact Np l h
 case appX=>exact JX l h
 case appD=>exact JY l h
 case appS=>exact JZ l h
 case appZ=>exact J0 l h
 case mkmap =>
  simp only[bN] at h;simp only[evalOp];split at h
  case h_2=>exact h.elim
  rename_i k;split at h
  case h_2=>exact h.elim
  rename_i hk;have ab:=cj l.tl hk;simp only[ab];intro g;have m:=l.new (aD.le_refl F) ab (o:=.box g 0 []) (to:=.map []) ⟨rfl,rfl⟩;exact⟨_,_,m.put (c:=.mpr k) (sv:=.v (.map (some g))) ⟨_,rfl,by simp only[Rel];exact⟨g,[],by rw[Loc.aac,eu rfl],rfl⟩⟩ (some k),h⟩
 case mrange=>exact h.elim
 case mnext=>exact h.elim
 case mentry=>exact h.elim
 case mupd str x i v =>
  simp only[bN] at h;simp only[evalOp];split at h
  case h_2=>exact h.elim
  rename_i k hx;split at h
  case h_2=>exact h.elim
  rename_i es hk bi aE hp;obtain⟨es',be,h⟩:=h;obtain⟨g,cs,e1,e2⟩:=BJ z hx;obtain⟨g',vs,e3,hE⟩:=EO l.tl hk;rw[e2] at e3;injection e3 with e3
  injection e3 with q1 q2 q3
  subst q1 q3;rw[e1];have bd:Rel F [] (cm τ i) (val L ρ i)/\fS str (val L ρ i) (val L ρ i)=some true:=by
   rcases Ns bi with⟨n,rfl,e⟩ | ⟨t,rfl,e⟩
   ·obtain⟨e2,w⟩:=eO z e;simp only[e,val,e2,conc,Rel,fS,decide_true];exact⟨⟨trivial,w⟩,trivial⟩
   ·obtain⟨e2,w⟩:=jY z e;simp only[e,val,e2,conc,Rel,fS,decide_true];exact⟨⟨trivial,w⟩,trivial⟩
  have bl:Rel F [] ((cm τ v).cel.aaj) (val L ρ v):=by
   have bx:=dS z aE;have cz:=eI (L':=[]) hp bx;exact HS (uo z v) hp
  obtain⟨cs',bb,bs⟩:=F7 bd.1 bl hE be;refine⟨k,cs,e2,hE.isMap,bd.2,cs',bb,?_⟩;have h4:=l.turn (o':=.box g 0 cs') (to:=.map es') e2 ⟨rfl,rfl⟩ (fun g' t' cX e=>by injection e with a b c;subst a b;exact⟨_,rfl⟩) (fun _ _=>⟨rfl,bs⟩);exact h4.aan (c:=.und) (sv:=.v undef) ⟨_,rfl,by simp only[Rel]⟩ h
 case copy e sz a b=>exact h.out _ _ _ _ l
 case copyX=>exact h.elim
 case storeX n a x=>exact ER l h
 all_goals
  simp only[bN,fe,eL,dR] at h;simp only[evalOp];exact Rx (d:=d) (K:=K) l h
end
end Go.Fr.T
