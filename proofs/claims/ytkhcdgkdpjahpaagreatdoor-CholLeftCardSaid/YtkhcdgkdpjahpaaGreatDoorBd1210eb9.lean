/-
  Parts of the proof: Fw38, Fw22, Fw23, Fw26, Fw27, Fw28, Fw34, Fw35, Fw37, Fw42, Fw45, Fw24, Fw29, Fw31, Fw32: the framework (Fw), pure forms (Dn), plain laws (Pl, Th), calls of functions (Ok).
-/
import Derived.Test.YtkhcdgkdpjahpaaGreatDoorB50019d0e

set_option linter.all false
noncomputable section
namespace Go.mz
section
def zv:List ax->List Bool->Option (Nat×List bB)
 |.ref id (s::p)::_,true::_=>some (id,s::p)
 |_::as,_::bs=>zv as bs
 |_,_=>none
def va (id:Nat) (a:ax):ax:=bif a.eG [id] then .dead else a
def pz (id:Nat):List ax->List Bool->List ax
 |.ref _ (_::_)::as,true::_=>.ref id []::as.map (va id)
 |a::as,_::bs=>va id a::pz id as bs
 |as,_=>as.map (va id)
def mq {α:Type} (f:Nat->α) (k:Nat) (x:α):Nat->α:=fun i=>if i=k then x else f i
theorem qc {α:Type} {f:Nat->α} {k:Nat} {x:α}:mq f k x k=x:=by simp[mq]
theorem m4 {α:Type} {f:Nat->α} {k i:Nat} {x:α} (h:i≠k):mq f k x i=f i:=by simp[mq,h]
section
variable {E:eV} {C:eb} {st:bj} {b3:Array Value} {w w':World} {I I':Nat->Prop} {rt:Nat->List Value} {fp:Nat->List Nat}
theorem yT {id:Nat} {t1:a6} {h:List (Nat×a6)} (k:Nat):aD ((id,t1)::del [id] h) k=if id=k then some t1 else aD h k:=by
 rw[dq];split
 ·rfl
 ·rename_i e;rw[nP,if_neg (by simpa using fun dI=>e dI.symm)]
theorem cx.split (aq:cx C st b3 w I rt fp) {id:Nat} {t:a6} (ah:aD st.h id=some t) {τ':au} {y:τ'.den} {cc:List Value} {f dT:List Nat} (hr:br (bP I C.B) w τ' cc y f) (aw:(fp id).Perm (f++dT)):cx C ⟨[],(id,⟨τ',y⟩)::del [id] st.h⟩ b3 w I (mq rt id cc) (mq fp id f):=by
 obtain⟨_,bo,a5⟩:=aq.tree id t ah;have fw:∀b∈f,b∈fp id:=fun b aa=>aw.mem_iff.2 (by simp[aa]);have RV:∀k u,aD ((id,(⟨τ',y⟩:a6))::del [id] st.h) k=some u->(k=id/\u=⟨τ',y⟩)\/(k≠id/\aD st.h k=some u):=fun k u ae=>by
  rw[yT] at ae;split at ae
  ·rename_i e;exact .inl ⟨e.symm,(fH ae).symm⟩
  ·rename_i e;exact .inr ⟨fun dI=>e dI.symm,ae⟩
 refine{aq with tree:=?_,dis:=?_,tmp:=fun k=>.dead _}
 ·intro k u ae;rcases RV k u ae with⟨rfl,rfl⟩|⟨J,R⟩
  ·rw[qc,qc];exact⟨hr,(kL.1 (aw.nodup_iff.1 bo)).1,fun b aa=>a5 b (fw b aa)⟩
  ·rw[m4 J,m4 J];exact aq.tree k u R
 ·intro i j u v hi ao dJ b aa;rcases RV i u hi with⟨rfl,rfl⟩|⟨J,R⟩<;>rcases RV j v ao with⟨rfl,rfl⟩|⟨ac,aL⟩
  ·exact absurd rfl dJ
  ·rw[qc] at aa;rw[m4 ac];exact aq.dis _ _ _ _ ah aL dJ b (fw b aa)
  ·rw[m4 J] at aa;rw[qc];exact fun h=>aq.dis _ _ _ _ R ah dJ b aa (fw b h)
  ·rw[m4 J] at aa;rw[m4 ac];exact aq.dis _ _ _ _ R aL dJ b aa
theorem cJ.va (aq:cx C st b3 w I rt fp) {id:Nat} {u:a6} {cc:List Value} {f:List Nat} {av:ax} {v:Value} (h:cJ (bP I C.B) w st.h rt fp av v):cJ (bP I C.B) w ((id,u)::del [id] st.h) (mq rt id cc) (mq fp id f) (va id av) v:=by
 unfold mz.va;cases aR:av.eG [id] with
 |true=>exact .dead _
 |false=>
  refine h.y1 (fun m b ak=>⟨ak,df.refl _ _⟩) (fun k ae t ah=>?_);have cX:k≠id:=fun e=>VK aR k ae (by simp[e]);refine⟨?_,m4 cX,m4 cX,(aq.tree k t ah).1,fun b _=>df.refl _ _⟩;rw[yT,if_neg (fun e=>cX e.symm)];exact ah
theorem aj5 (aq:cx C st b3 w I rt fp) {id:Nat} {t:a6} (ah:aD st.h id=some t) {τ':au} {y:τ'.den} {loc:Loc} {cc:List Value} {f:List Nat} {s:bB} {p:List bB} (ag:bv w t.1 none (rt id) (s::p) τ' loc cc):∀{avs:List ax} {bs:List Bool} {vs:List Value},jt (cJ (bP I C.B) w st.h rt fp) avs vs->zv avs bs=some (id,s::p)->jt (cJ (bP I C.B) w ((id,⟨τ',y⟩)::del [id] st.h) (mq rt id cc) (mq fp id f)) (pz id avs bs) vs:=by
 have dT:∀{avs:List ax} {vs:List Value},jt (cJ (bP I C.B) w st.h rt fp) avs vs->jt (cJ (bP I C.B) w ((id,⟨τ',y⟩)::del [id] st.h) (mq rt id cc) (mq fp id f)) (avs.map (mz.va id)) vs:=by
  intro avs
  induction avs with
  |nil=>intro vs h;cases vs with|nil=>trivial|cons=>exact h.elim
  |cons a l aZ=>intro vs h;cases vs with|nil=>exact h.elim|cons v vs=>exact⟨h.1.va aq,aZ h.2⟩
 intro avs
 induction avs with
 |nil=>intro bs vs _ h;cases bs<;>cases h
 |cons a l aZ=>
  intro bs vs h hs;cases vs with
  |nil=>exact h.elim
  |cons v vs=>
  cases bs with
  |nil=>cases a<;>first|(cases hs;done)|(rename_i i q;cases q<;>cases hs)
  |cons b bs=>
   by_cases hc:∃i s' q,a=.ref i (s'::q)/\b=true
   ·obtain⟨i,s',q,rfl,rfl⟩:=hc;simp only[zv,cS,gX,hL] at hs;obtain⟨rfl,rfl,rfl⟩:=hs;have J:=h.1;cases J with|ref bC iU=>
    rw[ah] at bC;cases bC;obtain⟨rfl,rfl,rfl⟩:=iU.ku ag;refine⟨.ref (t:=⟨_,y⟩) (loc:=none) (by rw[yT,if_pos rfl]) ?_,dT h.2⟩;rw[qc];exact bv.here
   ·have aA:zv (a::l) (b::bs)=zv l bs:=by
     cases a<;>first|rfl|(rename_i i q;cases q<;>cases b<;>first|rfl|exact absurd ⟨_,_,_,rfl,rfl⟩ hc)
    have aX:pz id (a::l) (b::bs)=mz.va id a::pz id l bs:=by cases a<;>first|rfl|(rename_i i q;cases q<;>cases b<;>first|rfl|exact absurd ⟨_,_,_,rfl,rfl⟩ hc)
    rw[aA] at hs;rw[aX];exact⟨h.1.va aq,aZ h.2 hs⟩
theorem qo.awl (aq:cx C st b3 w I rt fp) {id:Nat} {t:a6} (ah:aD st.h id=some t) {p:List bB} {τ':au} {y:τ'.den} (aG:dD t.1 t.2 p τ' y) {loc:Loc} {cc:List Value} (ag:bv w t.1 none (rt id) p τ' loc cc):∃f dT,br (bP I C.B) w τ' cc y f/\(fp id).Perm (f++dT)/\∀{w':World} {I':Nat->Prop} {S:List Nat} {keep:List (Nat×List bB)} {new:List (Nat×a6)} {rtn:Nat->List Value} {fpn:Nat->List Nat} {y':τ'.den} {z:t.1.den},qo C ⟨[],(id,⟨τ',y⟩)::del [id] st.h⟩ w w' I I' (mq rt id cc) (mq fp id f) S keep new rtn fpn->id∈S->aD new id=some ⟨τ',y'⟩->(id,[])∈keep->(∀e∈keep,e.2=[])->er t.1 t.2 p τ' y' z->∃U5 Y0,qo C st w w' I I' rt fp S ((id,p)::keep) ((id,⟨t.1,z⟩)::new) U5 Y0/\∀k,k≠id->U5 k=rtn k:=by
 obtain⟨b2,bo,a5⟩:=aq.tree id t ah;obtain⟨dN,Qp,f,dT,bS,bt,cY,c7,g0,kx,oi⟩:=G3 p (loc:=none) b2 (fun _ _ h=>by cases h) bo (fun _ _ h=>by cases h) (aq.notM ah) aG;obtain⟨_,rfl,rfl⟩:=ag.ku bS;refine⟨f,dT,bt,c7,fun{w' I' S keep new rtn fpn y' z} u bE pa ae wk hs=>?_⟩;have fw:∀b∈f,b∈fp id:=fun b aa=>c7.mem_iff.2 (by simp[aa]);have eA:=kL.1 (c7.nodup_iff.1 bo);have MS:∀b,(∃i∈S,∃t',aD ((id,(⟨τ',y⟩:a6))::del [id] st.h) i=some t'/\b∈mq fp id f i)->∃i∈S,∃t',aD st.h i=some t'/\b∈fp i/\(i=id->b∈f):=by
  rintro b ⟨i,hi,t',bC,aa⟩;by_cases e:i=id
  ·subst e;rw[qc] at aa;exact⟨i,hi,t,ah,fw b aa,fun _=>aa⟩
  ·rw[yT,if_neg (fun dI=>e dI.symm)] at bC;rw[m4 e] at aa;exact⟨i,hi,t',bC,aa,fun dI=>absurd dI e⟩
 have lJ:∀b∈dT,b<w.heap.size/\¬∃i∈S,∃t',aD ((id,(⟨τ',y⟩:a6))::del [id] st.h) i=some t'/\b∈mq fp id f i:=fun b aa=>by
  have cZ:b∈fp id:=c7.mem_iff.2 (by simp[aa]);refine⟨(a5 b cZ).2.2.1,fun h=>?_⟩;obtain⟨i,_,t',bC,J,R⟩:=MS b h;by_cases e:i=id
  ·exact eA.2.2 b (R e) b aa rfl
  ·exact aq.dis i id t' t bC ah e b J cZ
 have Bj:∀b∈dT,w'.heap[b]?=w.heap[b]?:=fun b aa=>u.heap b (lJ b aa).1 (fun i hi t' bC h=>(lJ b aa).2 ⟨i,hi,t',bC,h⟩);have o5:∀m b,bP I C.B m b->df w w' b:=fun m b ak=>.of_heap (u.heap b (aq.ib b (qQ ak)) (fun i hi t' bC h=>by
  obtain⟨i,_,t',bC,J,_⟩:=MS b ⟨i,hi,t',bC,h⟩;exact aq.notM bC b J m ak))
 obtain⟨_,aM,bb,bH⟩:=u.tree id _ pa;obtain⟨i4,s1,_,mT,_⟩:=u.keep _ ae ⟨τ',y⟩ (by rw[yT,if_pos rfl]);simp only[qc] at mT;rw[mT] at aM;have XN:∀b,df w w' b->xC w w' loc τ'.size b:=fun b h=>⟨fun j _=>(h.1 j).1,fun j=>(h.1 j).2,fun j=>by rw[(h.1 j).1],h.2⟩;obtain⟨fD,g6,bk,_,bD,_,cm,_,iG⟩:=kx w' (bP I' C.B) cc y' (fpn id) z (fun m b aa=>by cases m;exact u.i b aa;exact aa.imp (u.i b) (fun h=>h)) (by
   rintro b (⟨m,ak⟩|aa|⟨o,aJ⟩)
   ·exact XN b (o5 m b ak)
   ·exact XN b (.of_heap (Bj b aa))
   ·cases aJ) aM (fun _ _=>rfl)
  (fun b o ai=>by
   have aa:b∈dT:=by
    rcases g0 b o ai with⟨_,h,_⟩|h
    ·cases h
    ·exact h
   exact(cY b o ai).1.eR (.of_heap (Bj b aa))) hs
 obtain rfl:=bD rfl (.inr rfl);have rG:∀b∈g6,b∈fpn id\/b∈dT:=fun b aa=>fg.1 (cm.mem_iff.1 aa);have D1:∀k t',aD new k=some t'->∀b∈fpn k,b∉dT:=fun k t' ae b aa hr=>by
  rcases((u.tree k t' ae).2.2.2 b aa).2.2 with h|h
  ·exact absurd (lJ b hr).1 (by omega)
  ·exact(lJ b hr).2 h
 have Sq:∀k i4,aD ((id,(⟨t.1,z⟩:a6))::new) k=some i4->(k=id/\i4=⟨t.1,z⟩)\/(k≠id/\aD new k=some i4):=fun k i4 ae=>by
  rw[dq] at ae;split at ae
  ·rename_i e;exact .inl ⟨e.symm,(fH ae).symm⟩
  ·rename_i e;exact .inr ⟨fun dI=>e dI.symm,ae⟩
 have Sj:∀b,(w.heap.size<=b\/∃i∈S,∃t',aD ((id,(⟨τ',y⟩:a6))::del [id] st.h) i=some t'/\b∈mq fp id f i)->w.heap.size<=b\/∃i∈S,∃t',aD st.h i=some t'/\b∈fp i:=fun b h=>h.imp (fun h=>h) (fun h=>by
  obtain⟨i,hi,t',bC,J,_⟩:=MS b h;exact⟨i,hi,t',bC,J⟩)
 refine⟨mq rtn id (rt id),mq fpn id g6,⟨u.size,u.os,u.tape,u.output,?_,u.evo,u.i,?_,?_,?_,?_,?_⟩,fun k ae=>m4 ae⟩
 ·intro b aa ay;refine u.heap b aa (fun i hi t' bC h=>?_);obtain⟨i,hi,t',bC,J,_⟩:=MS b ⟨i,hi,t',bC,h⟩;exact ay i hi t' bC J
 ·intro b aa;exact(u.i2 b aa).imp (fun h=>h) (fun h=>⟨h.1,Sj b h.2⟩)
 ·intro k i4 ae;rcases Sq k i4 ae with⟨rfl,rfl⟩|⟨J,R⟩
  ·rw[qc,qc];refine⟨.inl bE,bk,?_,fun b aa=>?_⟩
   ·rw[cm.nodup_iff,kL];exact⟨bb,eA.2.1,fun a aC b aa e=>D1 k _ pa a aC (e▸aa)⟩
   ·rcases rG b aa with aa|aa
    ·obtain⟨fA,hx,lm⟩:=bH b aa;exact⟨fA,hx,Sj b lm⟩
    ·have cZ:b∈fp k:=c7.mem_iff.2 (by simp[aa]);refine⟨fun hi=>?_,jn (lJ b aa).1 u.size,.inr ⟨k,bE,t,ah,cZ⟩⟩;rcases u.i2 b hi with h|⟨_,h|h⟩
     ·exact(a5 b cZ).1 h
     ·exact absurd (lJ b aa).1 (by omega)
     ·exact(lJ b aa).2 h
  ·rw[m4 J,m4 J];obtain⟨kG,fA,hx,lm⟩:=u.tree k i4 R;refine⟨kG.imp (fun h=>h) (fun h=>?_),fA,hx,fun b aa=>?_⟩
   ·have h:aD ((id,(⟨τ',y⟩:a6))::del [id] st.h) k=none:=h;rw[yT,if_neg (fun e=>J e.symm)] at h;exact h
   ·obtain⟨v1,gz,v3⟩:=lm b aa;exact⟨v1,gz,Sj b v3⟩
 ·intro i j m5 eS hi ao dJ b aa;rcases Sq i m5 hi with⟨rfl,rfl⟩|⟨J,R⟩<;>rcases Sq j eS ao with⟨rfl,rfl⟩|⟨ac,aL⟩
  ·exact absurd rfl dJ
  ·rw[qc] at aa;rw[m4 ac];rcases rG b aa with aa|aa
   ·exact u.dis i j _ _ pa aL dJ b aa
   ·exact fun h=>D1 j _ aL b h aa
  ·rw[m4 J] at aa;rw[qc];intro h;rcases rG b h with h|h
   ·exact u.dis i j _ _ R pa dJ b aa h
   ·exact D1 i _ R b aa h
  ·rw[m4 J] at aa;rw[m4 ac];exact u.dis i j _ _ R aL dJ b aa
 ·intro e aE t' bC;rcases d4.1 aE with rfl|aE
  ·rw[ah] at bC;cases bC;exact⟨⟨t.1,z⟩,by rw[dq,if_pos rfl],rfl,qc,⟨_,ag.ty⟩,iG⟩
  ·by_cases aA:e.1=id
   ·rw[aA,ah] at bC;cases bC;refine⟨⟨t.1,z⟩,by rw[dq,if_pos aA.symm],rfl,by rw[aA];exact qc,⟨t.1,by rw[wk e aE];cases t.1<;>rfl⟩,fun q _ _ _ ae=>?_⟩;rw[wk e aE,NM] at ae;cases ae
   ·obtain⟨v1,gz,v3,v4,azV,Pf⟩:=u.keep e aE t' (by rw[yT,if_neg (fun h=>aA h.symm)];exact bC);rw[m4 aA] at v4 Pf;exact⟨v1,by rw[dq,if_neg (fun h=>aA h.symm)];exact gz,v3,by rw[m4 aA];exact v4,azV,Pf⟩
 ·intro e aE t' bC q gA VO l2 cw anr aP fX h1 iE fm;rcases d4.1 aE with rfl|aE
  ·rw[ah] at bC;cases bC;refine⟨⟨t.1,z⟩,by rw[dq,if_pos rfl],AO aP hs iE,fun c hc=>?_⟩;obtain⟨aN,aM⟩:=oi q _ _ _ _ _ aP (by exact fX) iE h1 fm c hc;rw[qc];exact⟨cm.mem_iff.2 (pI _ aN),.of_heap (Bj c aN)⟩
  ·rw[wk e aE,AN] at aP;cases aP
theorem d9.sub {Q:bj->Prop} {d f:Nat} {o:Oper} {x:Operand} {l:List ax} {xs argTypes:Array _} (b5:o.op=.call {callee:=.value x,args:=xs,argTypes:=argTypes}) (Bu:bu st.g x=.d1 f l) (aP:o.dst=some d) (dc:C.ok d) (pT:∀(vs:Array Value) (w:World),(callFunc f vs).run E.P w=.ok (.enter f vs) w) {args:List hK} {res:List a6} (hc:xB E f args res) (Hy:tu 0 args=none) (RE:∀b,C.I0 b\/C.B b->b<C.w0.heap.size/\¬C.F0 b) (RF:nf E C.I0 C.w0) {id:Nat} {t:a6} (ah:aD st.h id=some t) {s:bB} {p:List bB} {τ':au} {y:τ'.den} (aG:dD t.1 t.2 (s::p) τ' y) {bs:List Bool} (fw:zv (xs.toList.map (bu st.g)++l) bs=some (id,s::p)) {avs:List ax} (qy:avs=pz id (xs.toList.map (bu st.g)++l) bs) (aC:si ((id,⟨τ',y⟩)::del [id] st.h) (fG avs args) avs args) (ae:qs d ⟨[],(id,⟨τ',y⟩)::del [id] st.h⟩ avs args res=true) (bE:id∈fG avs args) (cA:id∈pi avs args) {y':τ'.den} {z:t.1.den} (ag:aD (li avs args++j4 d (jE res) 0 res) id=some ⟨τ',y'⟩) (hs:er t.1 t.2 (s::p) τ' y' z) (h:Q ⟨(d,Ca d res)::kill (fG avs args) ((id,s::p)::Ei (pi avs args)) st.g,((id,⟨t.1,z⟩)::(li avs args++j4 d (jE res) 0 res))++del (fG avs args) st.h⟩):d9 E C o st Q:=by
 rintro a w ⟨I,rt,fp,aq⟩ next X et
 obtain⟨gL,SJ,RA⟩:∃gL:Array Value,a.eval x=.func (.func f) #[] gL/\jt (cJ (bP I C.B) w st.h rt fp) l gL.toList:=by
  have ab:=aq.bu x;rw[Bu] at ab;generalize hv:a.eval x=v at ab;cases ab with|d1 ai ay=>
  exact⟨_,rfl,Kp (by simpa using ai) (fun i a b J R=>ay i a b J (by simpa using R))⟩
 have DO:jt (cJ (bP I C.B) w st.h rt fp) (xs.toList.map (bu st.g)++l) (xs.toList.map a.eval++gL.toList):=PO (PP (fun x=>aq.bu x) _) RA;obtain⟨b2,bo,a5⟩:=aq.tree id t ah;obtain⟨loc,cc,_,_,bS,_⟩:=Mz (s::p) (loc:=none) b2 (fun _ _ h=>by cases h) bo (fun _ _ h=>by cases h) (aq.notM ah) aG;obtain⟨YJ,dT,aN,aM,ap4⟩:=qo.awl aq ah aG bS;have DK:=aq.split ah aN aM;have ZD:=aj5 (y:=y) (f:=YJ) aq ah bS DO fw;rw[<-qy] at ZD;have Hd:=DK.call ZD hc aC ae (fun _ _=>by rw[Hy];trivial) (DK.glob RE RF);have eP:(execOp a.eval o).run E.P w=.ok (.enter f (xs.toList.map a.eval++gL.toList).toArray) w:=(by have aA:xs.map a.eval=(xs.toList.map a.eval).toArray:=(by rw[<-Array.toList_map]);have bY:(xs.toList.map a.eval++gL.toList).toArray=(xs.toList.map a.eval).toArray++gL:=(by simp);rw[bY];simp only[execOp,b5,resolve,aA,Sem.run_bind,SJ,Deferred.ofValue,Sem.run_pure,Result.andThen_ok,invoke,Array.empty_append,Array.append_empty];exact pT _ _);unfold Oper.wp;rw[eP];show Calls E.P f _ w _;refine Hd.mono ?_;rintro e w' ⟨I',rtn,fpn,fa,rfl,aR,jB⟩;show next (a.put o.dst (uY fa)) w'
 rw[aP];obtain⟨U5,Y0,qJ,Bo⟩:=ap4 aR bE ag (dz.2 ⟨id,cA,rfl⟩) (fun e aE=>by obtain⟨i,_,rfl⟩:=dz.1 aE;rfl) hs;simp only[qs,bW,fM] at ae;have h1:=kF.ok ae.1.2;refine et _ _ _ h rfl ⟨I',_,_,(aq.fO qJ).put dc (av:=Ca d res) (jB _ _ _ (fun q aj=>?_))⟩;have J:=ad5 h1 q aj;have R:=ae.2 q aj;have cX:q.1≠id:=fun e=>(by rw[e,yT,if_pos rfl] at R;cases R);have ac:aD ((id,(⟨t.1,z⟩:a6))::(li avs args++j4 d (jE res) 0 res)) q.1=some q.2:=(by rw[dq,if_neg (fun e=>cX e.symm)];exact J);refine⟨by rw[lL,ac];rfl,?_⟩;simp only[en,ac];exact Bo _ cX
end
end
section
def kP:Nat->List hK->List (Nat×ax)
 |_,[]=>[]
 |k,.v t::r=>(k,.val t.1 t.2)::kP (k+1) r
 |k,.m _ _::r=>(k,.ref k [])::kP (k+1) r
 |k,.o _::r=>(k,.ref k [])::kP (k+1) r
 |k,.n::r=>(k,.dh (.slice none 0 0))::kP (k+1) r
 |k,.w _ _ lo hi _::r=>(k,.view k [] lo hi)::kP (k+1) r
 |k,.s _ _::r=>kP (k+1) r
 |k,.c n cp::r=>(k,.d1 n (cp.map fun t=>.val t.1 t.2))::kP (k+1) r
def lz:Nat->List hK->List (Nat×a6)
 |_,[]=>[]
 |k,.v _::r=>lz (k+1) r
 |k,.m t _::r=>(k,t)::lz (k+1) r
 |k,.o t::r=>(k,t)::lz (k+1) r
 |k,.w σ xs _ _ _::r=>(k,⟨.osl σ,xs⟩)::lz (k+1) r
 |k,.c _ _::r=>lz (k+1) r
 |k,.n::r=>lz (k+1) r
 |k,.s _ _::r=>lz (k+1) r
def hX:Nat->List hK->List Nat
 |_,[]=>[]
 |k,.m _ _::r=>k::hX (k+1) r
 |k,.w _ _ _ _ _::r=>k::hX (k+1) r
 |k,_::r=>hX (k+1) r
def z6 (C:eb):Option aCl->Prop
 |none=>True
 |some (k,f,l)=>k∈C.pin/\(∀j∈l,j∈C.pin)/\∃b o gL,C.vs k=.pointer (some ⟨b,o,none⟩)/\b<C.w0.heap.size/\¬C.F0 b/\C.w0.cell? ⟨b,o,none⟩=some (.func (.func f) #[] gL)/\gL.toList=l.map C.vs
def r3:Option aCl->List Nat
 |none=>[]
 |some (k,_,l)=>k::l
def xP (P:Program) (st:bj) (t:a6):ResultVar->List Nat->Prop
 |.tmp r,ids=>match gt st.g r with
  |.val τ x=>(⟨τ,x⟩:a6)=t/\ids=[]
  |.dh v=>jT t.1 v.cells.toList=some t.2/\cQ t.1 v.cells.toList=v/\ids=[]
  |.ref id p=>ids=[id]/\∃u,aD st.h id=some u/\dD u.1 u.2 p t.1 t.2
  |_=>False
 |.cell a T,ids=>eB P t.1 T/\match gt st.g a with
  |.ref id p=>ids=[id]/\∃u τ,aD st.h id=some u/\eD u.1 p=some (.optr τ)/\dD u.1 u.2 (p++[.deref]) t.1 t.2
  |_=>False
def z1 (P:Program) (st:bj):List ResultVar->List a6->List Nat->Prop
 |[],[],ids=>ids=[]
 |r::rs,t::cp,ids=>t.1.fq=true/\∃i1 i2,ids=i1++i2/\xP P st t r i1/\z1 P st rs cp i2
 |_,_,_=>False
def tU (st:bj):Nat->List hK->Prop
 |_,[]=>True
 |k,.m t y::r=>(gt st.g k=.ref k []/\aD st.h k=some ⟨t.1,y⟩/\t.1.fq=true/\xu t.1=true)/\tU st (k+1) r
 |k,.w σ xs lo hi aW::r=>(gt st.g k=.view k [] lo hi/\aD st.h k=some ⟨.osl σ,aW⟩/\(σ.fq=true/\lo<hi)/\aW.length=xs.length)/\tU st (k+1) r
 |k,_::r=>tU st (k+1) r
def Wd (P:Program) (args:List hK) (rs:List ResultVar) (res:List a6) (e:Exit) (st:bj):Prop:=
 (e=.normal\/e=.ret)/\∃ids,z1 P st rs res ids/\kF (hX 0 args++ids)=true/\tU st 0 args
section
variable {E:eV}
theorem ak4 {I B:Nat->Prop} {w:World} {h:List (Nat×a6)} {rt:Nat->List Value} {fp:Nat->List Nat} {n:Nat} {cp:List a6} {gL:List Value} (hc:jt (Fp I B w) cp gL):cJ (bP I B) w h rt fp (.d1 n (cp.map fun t=>.val t.1 t.2)) (.func (.func n) #[] gL.toArray):=by
 have ai:=WO hc;refine .d1 (by simpa using ai.symm) (fun i a v J R=>?_);have get:∀{cp:List a6} {gL:List Value} {i:Nat} {t:a6} {v:Value},jt (Fp I B w) cp gL->cp[i]?=some t->gL[i]?=some v->Fp I B w t v:=by
  intro cp
  induction cp with
  |nil=>intro gL i t v _ J;simp at J
  |cons x cp aZ=>
   intro gL i t v hc J R;cases gL with
   |nil=>exact hc.elim
   |cons u gL=>
    cases i with
    |zero=>simp only[lX,cS] at J R;subst J R;exact hc.1
    |succ i=>exact aZ hc.2 (by simpa using J) (by simpa using R)
 rw[gB] at J;obtain⟨t,ah,rfl⟩:=e1.1 J;obtain⟨cs,rfl,hr⟩:=get hc ah (by simpa using R);exact .val hr
theorem W8 {I B:Nat->Prop} {w:World}:∀{k:Nat} {args:List hK} {vs:List Value} {fs:List (List Nat)},oV (Fi I B w) args vs fs->∃(rt:Nat->List Value) (fp:Nat->List Nat),(∀id t,aD (lz k args) id=some t->k<=id/\(∃f,fs[id-k]?=some f/\fp id=f)/\br (bP I B) w t.1 (rt id) t.2 (fp id))/\(∀j,gt (kP k args) (k+j)=.dead\/∃v,vs[j]?=some v/\cJ (bP I B) w (lz k args) rt fp (gt (kP k args) (k+j)) v)/\(∀j,j<k->gt (kP k args) j=.dead)
 |k,[],vs,fs,h=>⟨fun _=>[],fun _=>[],(fun id t h=>by cases h),fun j=>.inl rfl,fun j _=>rfl⟩
 |k,a::args,[],fs,h=>h.elim
 |k,a::args,v::vs,[],h=>h.elim
 |k,a::args,v::vs,f::fs,h=>by
  obtain⟨J,R⟩:=h;obtain⟨rt,fp,i1,i2,i3⟩:=W8 (k:=k+1) R;have HG:∀id t,aD (lz (k+1) args) id=some t->k<=id/\(∃ij,(f::fs)[id-k]?=some ij/\fp id=ij)/\br (bP I B) w t.1 (rt id) t.2 (fp id):=fun id t ah=>(by obtain⟨aN,⟨ij,aM,bb⟩,bH⟩:=i1 id t ah;exact⟨by omega,⟨ij,by rw[show id-k=(id-(k+1))+1 by omega,vr];exact aM,bb⟩,bH⟩);have own:∀(t:a6) (cs:List Value) (av:ax),(∀(a7:List (Nat×a6)) (pu:Nat->List Value) (hq:Nat->List Nat),aD a7 k=some t->pu k=cs->cJ (bP I B) w a7 pu hq av v)->br (bP I B) w t.1 cs t.2 f->lz k (a::args)=(k,t)::lz (k+1) args->kP k (a::args)=(k,av)::kP (k+1) args->_:=fun t cs av hv hr aA aX=>by
   refine(⟨fun i=>if i=k then cs else rt i,fun i=>if i=k then f else fp i,?_,?_,?_⟩:∃(rt:Nat->List Value) (fp:Nat->List Nat),(∀id t,aD (lz k (a::args)) id=some t->k<=id/\(∃ij,(f::fs)[id-k]?=some ij/\fp id=ij)/\br (bP I B) w t.1 (rt id) t.2 (fp id))/\(∀j,gt (kP k (a::args)) (k+j)=.dead\/∃ew,(v::vs)[j]?=some ew/\cJ (bP I B) w (lz k (a::args)) rt fp (gt (kP k (a::args)) (k+j)) ew)/\(∀j,j<k->gt (kP k (a::args)) j=.dead))
   ·intro id t' ah;rw[aA,dq] at ah;split at ah
    ·rename_i e;subst e;obtain rfl:=fH ah;refine⟨bU _,⟨f,by simp,by simp⟩,by simp only[if_true];exact hr⟩
    ·rename_i e;obtain⟨aN,aM,bb⟩:=HG id t' ah;have dI:¬id=k:=fun h=>e h.symm;exact⟨aN,by simp only[if_neg dI];exact aM,by simp only[if_neg dI];exact bb⟩
   ·intro j;rw[aX,jX];cases j with
    |zero=>
     right;refine⟨v,rfl,?_⟩;rw[if_pos (by omega)];exact hv _ _ _ (by rw[aA,dq,if_pos rfl]) (by simp only[if_true])
    |succ j=>
     rw[if_neg (by omega),show k+(j+1)=k+1+j by omega];refine(i2 j).imp id ?_;rintro⟨ew,aN,aM⟩;refine⟨ew,by simpa using aN,?_⟩;refine aM.y1 (fun m b ak=>⟨ak,df.refl w b⟩) (fun id _ t' ah=>?_);obtain⟨b2,_,a5⟩:=i1 id t' ah;have dI:¬id=k:=(by omega);have al4:¬k=id:=(by omega);exact⟨by rw[aA,dq,if_neg al4];exact ah,by simp only[if_neg dI],by simp only[if_neg dI],a5,fun b _=>df.refl w b⟩
   ·intro j ao;rw[aX,jX,if_neg (by omega)];exact i3 j (by omega)
  cases a with
  |v t=>
   obtain⟨rfl,cs,hv,hr⟩:=J;refine⟨rt,fp,HG,fun j=>?_,fun j ao=>?_⟩
   ·show gt ((k,_)::_) _=_\/_;rw[jX];cases j with
    |zero=>
     right;refine⟨v,rfl,?_⟩;show cJ _ _ _ _ _ (gt ((k,_)::_) _) _;rw[jX,if_pos (by omega),hv];exact .val hr
    |succ j=>
     rw[if_neg (by omega),show k+(j+1)=k+1+j by omega];refine(i2 j).imp id ?_;rintro⟨ew,aN,aM⟩;refine⟨ew,by simpa using aN,?_⟩;show cJ _ _ _ _ _ (gt ((k,_)::_) _) _;rw[jX,if_neg (by omega)];exact aM
   ·show gt ((k,_)::_) _=_;rw[jX,if_neg (by omega)];exact i3 j (by omega)
  |n=>
   obtain⟨rfl,hv⟩:=J;refine⟨rt,fp,HG,fun j=>?_,fun j ao=>?_⟩
   ·show gt ((k,_)::_) _=_\/_;rw[jX];cases j with
    |zero=>
     right;refine⟨v,rfl,?_⟩;show cJ _ _ _ _ _ (gt ((k,_)::_) _) _;rw[jX,if_pos (by omega),hv];exact .dh _
    |succ j=>
     rw[if_neg (by omega),show k+(j+1)=k+1+j by omega];refine(i2 j).imp id ?_;rintro⟨ew,aN,aM⟩;refine⟨ew,by simpa using aN,?_⟩;show cJ _ _ _ _ _ (gt ((k,_)::_) _) _;rw[jX,if_neg (by omega)];exact aM
   ·show gt ((k,_)::_) _=_;rw[jX,if_neg (by omega)];exact i3 j (by omega)
  |s g l=>
   refine⟨rt,fp,HG,fun j=>?_,fun j ao=>i3 j (by omega)⟩;cases j with
   |zero=>exact .inl (i3 k (by omega))
   |succ j=>
    have ao:=i2 j;rw[show k+1+j=k+(j+1) by omega] at ao;refine ao.imp id ?_;rintro⟨ew,aN,aM⟩;exact⟨ew,by simpa using aN,aM⟩
  |c n cp=>
   obtain⟨rfl,gL,hv,hr⟩:=J;refine⟨rt,fp,HG,fun j=>?_,fun j ao=>?_⟩
   ·show gt ((k,_)::_) _=_\/_;rw[jX];cases j with
    |zero=>
     right;refine⟨v,rfl,?_⟩;show cJ _ _ _ _ _ (gt ((k,_)::_) _) _;rw[jX,if_pos (by omega),hv];exact ak4 hr
    |succ j=>
     rw[if_neg (by omega),show k+(j+1)=k+1+j by omega];refine(i2 j).imp id ?_;rintro⟨ew,aN,aM⟩;refine⟨ew,by simpa using aN,?_⟩;show cJ _ _ _ _ _ (gt ((k,_)::_) _) _;rw[jX,if_neg (by omega)];exact aM
   ·show gt ((k,_)::_) _=_;rw[jX,if_neg (by omega)];exact i3 j (by omega)
  |m t y=>obtain⟨cs,hv,hr⟩:=J;exact own t cs (.ref k []) (fun a7 pu hq aN aM=>by subst hv;exact .ref (loc:=none) aN (by rw[aM];exact bv.here)) hr rfl rfl
  |o t=>obtain⟨cs,hv,hr⟩:=J;exact own t cs (.ref k []) (fun a7 pu hq aN aM=>by subst hv;exact .ref (loc:=none) aN (by rw[aM];exact bv.here)) hr rfl rfl
  |w σ xs lo hi aW=>
   obtain⟨b,o,cap,hv,⟨dp,l2,mZ⟩,hr⟩:=J;refine own ⟨.osl σ,xs⟩ _ (.view k [] lo hi) (fun a7 pu hq aN aM=>?_) hr rfl rfl;have aj:cJ (bP I B) w a7 pu hq (.view k [] lo hi) (.slice (some ⟨b,if cap=lo then o else o+lo*σ.size,none⟩) (hi-lo) (cap-lo)):=.view (loc:=none) (len:=xs.length) aN (by rw[aM];exact bv.here) (by omega) l2 mZ;rw[if_neg (by omega)] at aj;rw[hv];exact aj
theorem atu {fs:List (List Nat)} (h:fs.flatten.Nodup):(∀(i:Nat) f,fs[i]?=some f->f.Nodup)/\∀(i j:Nat) f g,fs[i]?=some f->fs[j]?=some g->i≠j->∀b∈f,b∉g:=by
 induction fs with
 |nil=>exact⟨fun i f h=>by simp at h,fun i j f g h=>by simp at h⟩
 |cons x fs aZ=>
  simp only[lu,kL] at h;obtain⟨J,R,ac⟩:=h;obtain⟨i1,i2⟩:=aZ R;refine⟨fun i f aH=>?_,fun i j f g aH aG dJ b aa cZ=>?_⟩
  ·cases i with
   |zero=>simp only[lX,cS] at aH;subst aH;exact J
   |succ i=>exact i1 i f (by simpa using aH)
  ·cases i with
   |zero=>
    cases j with
    |zero=>exact dJ rfl
    |succ j=>
     simp only[lX,cS] at aH;subst aH;exact ac b aa b (lw.2 ⟨g,oP (by simpa using aG),cZ⟩) rfl
   |succ i=>
    cases j with
    |zero=>
     simp only[lX,cS] at aG;subst aG;exact ac b cZ b (lw.2 ⟨f,oP (by simpa using aH),aa⟩) rfl
    |succ j=>exact i2 i j f g (by simpa using aH) (by simpa using aG) (by omega) b aa cZ
def Jb (b3:Array Value):ResultVar->Sem Value
 |.tmp t=>Pure.pure (b3.getD t undef)
 |.cell a t=>do loadVar t (<-asAddr (b3.getD a undef))
theorem ax6 {P:Program} {fn:Func} {rs:List ResultVar} (hr:fn.results=rs.toArray) (b3:Array Value) (w:World) {vs:List Value} (hv:(rs.mapM (Jb b3)).run P w=.ok vs w):(results fn b3).run P w=.ok (uY vs) w:=by
 unfold results;simp only[Sem.run_bind,hr];rw[Array.mapM_eq_mapM_toList,Sem.run_map];have key:∀g:ResultVar->Sem Value,(∀x,g x=Jb b3 x)->(rs.mapM g).run P w=.ok vs w:=fun g aG=>(by rw[show g=Jb b3 from funext aG];exact hv);rw[key _ (fun x=>by cases x<;>rfl)];simp only[Result.andThen_ok,Sem.run_pure];congr 1
 match vs with
 |[]=>rfl
 |[r]=>rfl
 |r::r'::l=>simp[uY]
theorem xP.rep {P:Program} {C:eb} {st:bj} {b3:Array Value} {w:World} {I:Nat->Prop} {rt:Nat->List Value} {fp:Nat->List Nat} (aq:cx C st b3 w I rt fp) {t:a6} (Hq:t.1.fq=true) {r:ResultVar} {ids:List Nat} (h:xP P st t r ids):∃v hs,(Jb b3 r).run P w=.ok v w/\Ke I w t v hs/\(∃dT,(ids.map fp).flatten.Perm (hs++dT))/\∀id∈ids,∃t,aD st.h id=some t:=by
 have place:∀(id:Nat) (u:a6) (p:List bB),aD st.h id=some u->dD u.1 u.2 p t.1 t.2->∃dN cc ij Cb,bv w u.1 none (rt id) p t.1 dN cc/\br (bP I C.B) w t.1 cc t.2 ij/\tT w dN cc t.1.size/\(fp id).Perm (ij++Cb):=(by intro id u p aR k8;obtain⟨aN,aM,bb⟩:=aq.tree id _ aR;obtain⟨dN,cc,ij,Cb,bk,bD,cm,fx,_⟩:=Mz p (τ':=t.1) (y:=t.2) aN (loc:=none) (fun _ _ h=>by cases h) aM (fun _ _ h=>by cases h) (aq.notM aR) k8;exact⟨dN,cc,ij,Cb,bk,bD,cm,fx⟩);cases r with
 |tmp r=>
  have hr:=aq.tmp r;simp only[xP] at h;split at h
  ·rename_i τ x e;rw[e] at hr;obtain⟨rfl,rfl⟩:=h;generalize hv:b3.getD r undef=v at hr;cases hr with|val ll=>
   exact⟨_,[],by show(Pure.pure (b3.getD r undef):Sem Value).run P w=_;rw[hv];rfl,⟨_,rfl,ll.fq Hq⟩,⟨[],by simp⟩,by simp⟩
  ·rename_i v e;rw[e] at hr;obtain⟨aN,aM,rfl⟩:=h;generalize hv:b3.getD r undef=ew at hr;cases hr;exact⟨_,[],by show(Pure.pure (b3.getD r undef):Sem Value).run P w=_;rw[hv];rfl,⟨_,aM.symm,ud aN⟩,⟨[],by simp⟩,by simp⟩
  ·rename_i id p e;rw[e] at hr;obtain⟨rfl,u,aR,k8⟩:=h;generalize hv:b3.getD r undef=v at hr;cases hr with|ref bC ag=>
   rw[aR] at bC;cases bC;obtain⟨dN,cc,ij,Cb,bk,bD,cm,fx⟩:=place id u p aR k8;obtain⟨rfl,rfl,rfl⟩:=ag.ku bk;refine⟨_,ij,by show(Pure.pure (b3.getD r undef):Sem Value).run P w=_;rw[hv];rfl,⟨_,rfl,bD.fq Hq⟩,⟨Cb,by simpa using fx⟩,fun i hi=>?_⟩;rw[fh] at hi;subst hi;exact⟨_,aR⟩
  ·exact h.elim
 |cell a T=>
  have hr:=aq.tmp a;simp only[xP] at h;obtain⟨bm,h⟩:=h;split at h
  ·rename_i id p e;rw[e] at hr;obtain⟨rfl,u,τ,aR,fZ,k8⟩:=h;generalize hv:b3.getD a undef=v at hr;cases hr with|ref bC ag=>
   rw[aR] at bC;cases bC;have:=ag.ty;rw[fZ] at this;cases this;obtain⟨b,o,ds,rfl,cK,cG⟩:=th (aq.tree id _ aR).1 ag;have h1:=ag.append (bv.QG cK cG);obtain⟨dN,cc,ij,Cb,bk,bD,cm,fx⟩:=place id u _ aR k8;obtain⟨aA,aX,bY⟩:=h1.ku bk;subst aX;subst bY;subst aA;have kh:=(cm b o rfl).1;refine⟨cQ t.1 ds,ij,?_,⟨_,rfl,bD.fq Hq⟩,⟨Cb,by simpa using fx⟩,fun i hi=>?_⟩
   ·show(do loadVar T (<-asAddr (b3.getD a undef)):Sem Value).run P w=_;rw[hv];simp only[cQ,List.headD,asAddr,Sem.run_bind,Sem.run_pure,Result.andThen_ok];exact aet bm kh bD.len
   ·rw[fh] at hi;subst hi;exact⟨_,aR⟩
  ·exact h.elim
theorem z1.rep {P:Program} {C:eb} {st:bj} {b3:Array Value} {w w0:World} {I:Nat->Prop} {rt:Nat->List Value} {fp:Nat->List Nat} (aq:cx C st b3 w I rt fp):∀{rs:List ResultVar} {res:List a6} {ids:List Nat},z1 P st rs res ids->∃vs hs,(rs.mapM (Jb b3)).run P w=.ok vs w/\oV (Ke I w) res vs hs/\(∃dT,(ids.map fp).flatten.Perm (hs.flatten++dT))/\∀id∈ids,∃t,aD st.h id=some t
 |[],[],ids,h=>by obtain rfl:ids=[]:=h;exact⟨[],[],rfl,trivial,⟨[],.refl _⟩,by simp⟩
 |[],t::cp,ids,h=>h.elim
 |r::rs,[],ids,h=>h.elim
 |r::rs,t::cp,ids,h=>by
  obtain⟨Hq,i1,i2,rfl,J,R⟩:=h;obtain⟨v,f,ch,c8,⟨axz,a3⟩,a4⟩:=J.rep aq Hq;obtain⟨vs,hs,dg,dF,⟨UW,hE⟩,kb⟩:=z1.rep (w0:=w0) aq R;refine⟨v::vs,f::hs,?_,⟨c8,dF⟩,⟨axz++UW,?_⟩,fun i hi=>?_⟩
  ·simp only[List.mapM_cons,Sem.run_bind,ch,Sem.run_pure,Result.andThen_ok,dg]
  ·simp only[jm,vq,lu];refine(a3.append hE).trans ?_;rw[sj,sj];refine List.Perm.append_left f ?_;rw[<-sj,<-sj];exact List.Perm.append_right UW List.perm_append_comm
  ·rcases fg.1 hi with hi|hi
   ·exact a4 i hi
   ·exact kb i hi
theorem W9:∀{k:Nat} {args:List hK},∀j∈hX k args,k<=j
 |k,[],j,h=>by cases h
 |k,a::args,j,h=>by
  have aZ:=W9 (k:=k+1) (args:=args);cases a with
  |m t y=>
   rcases d4.1 h with rfl|h
   ·exact bU _
   ·have:=aZ j h;omega
  |w σ xs lo hi aW=>
   rcases d4.1 h with rfl|h
   ·exact bU _
   ·have:=aZ j h;omega
  |v t=>have:=aZ j h;omega
  |o t=>have:=aZ j h;omega
  |c n cp=>have:=aZ j h;omega
  |n=>have:=aZ j h;omega
  |s f l=>have:=aZ j h;omega
theorem tU.rep {C:eb} {st:bj} {b3:Array Value} {w:World} {I:Nat->Prop} {rt:Nat->List Value} {fp:Nat->List Nat} (aq:cx C st b3 w I rt fp) {B:Nat->Prop}:∀{k:Nat} {args:List hK} {vs:List Value},tU st k args->vs.length=args.length->(∀j,j∈hX k args->∀v,vs[j-k]?=some v->b3.getD j undef=v)->∃gs,oV (Fj I B w) args vs gs/\gs.flatten=((hX k args).map fp).flatten/\∀id∈hX k args,k<=id/\∃t,aD st.h id=some t
 |k,[],vs,h,ai,aw=>by cases vs with
  |nil=>exact⟨[],trivial,rfl,by simp[hX]⟩
  |cons=>cases ai
 |k,a::args,[],h,ai,aw=>by cases ai
 |k,a::args,v::vs,h,ai,aw=>by
  have more:tU st (k+1) args->(∀j,j∈hX (k+1) args->j∈hX k (a::args))->∃gs,oV (Fj I B w) args vs gs/\gs.flatten=((hX (k+1) args).map fp).flatten/\∀id∈hX (k+1) args,k+1<=id/\∃t,aD st.h id=some t:=fun h fw=>by
   have kS:=W9 (k:=k+1) (args:=args);exact tU.rep aq h (by simpa using ai) (fun j ao ew kC=>aw j (fw j ao) ew (by
    have:=kS j ao;rw[show j-k=(j-(k+1))+1 by omega,vr];exact kC))
  cases a with
  |v t=>
   obtain⟨gs,J,R,ac⟩:=more h (fun j ao=>ao);exact⟨[]::gs,⟨rfl,J⟩,by simpa[hX] using R,fun id bp=>⟨by have:=(ac id bp).1;omega,(ac id bp).2⟩⟩
  |o t=>
   obtain⟨gs,J,R,ac⟩:=more h (fun j ao=>ao);exact⟨[]::gs,⟨rfl,J⟩,by simpa[hX] using R,fun id bp=>⟨by have:=(ac id bp).1;omega,(ac id bp).2⟩⟩
  |n=>
   obtain⟨gs,J,R,ac⟩:=more h (fun j ao=>ao);exact⟨[]::gs,⟨rfl,J⟩,by simpa[hX] using R,fun id bp=>⟨by have:=(ac id bp).1;omega,(ac id bp).2⟩⟩
  |s f l=>
   obtain⟨gs,J,R,ac⟩:=more h (fun j ao=>ao);exact⟨[]::gs,⟨rfl,J⟩,by simpa[hX] using R,fun id bp=>⟨by have:=(ac id bp).1;omega,(ac id bp).2⟩⟩
  |c n cp=>
   obtain⟨gs,J,R,ac⟩:=more h (fun j ao=>ao);exact⟨[]::gs,⟨rfl,J⟩,by simpa[hX] using R,fun id bp=>⟨by have:=(ac id bp).1;omega,(ac id bp).2⟩⟩
  |m t y=>
   obtain⟨⟨bk,bD,cm,fx⟩,h⟩:=h;obtain⟨gs,J,R,ac⟩:=more h (fun j ao=>gC _ ao);have ae:=aq.tmp k;rw[bk] at ae;have hv:b3.getD k undef=v:=aw k (by simp[hX]) v (by simp);rw[hv] at ae;obtain⟨hr,_⟩:=aq.tree k _ bD;refine⟨fp k::gs,⟨?_,J⟩,by simp only[hX,ff,lu,R],fun id bp=>?_⟩
   ·cases ae with|ref ah ag=>
    rw[bD] at ah;cases ah;obtain⟨rfl,rfl,rfl⟩:=bv.f6.1 ag;exact⟨rt k,rfl,hr.fq cm⟩
   ·rcases d4.1 bp with rfl|bp
    ·exact⟨bU _,_,bD⟩
    ·exact⟨by have:=(ac id bp).1;omega,(ac id bp).2⟩
  |w σ xs lo hi aW=>
   obtain⟨⟨bk,bD,⟨cm,fx⟩,mi⟩,h⟩:=h;obtain⟨gs,J,R,ac⟩:=more h (fun j ao=>gC _ ao);have ae:=aq.tmp k;rw[bk] at ae;have hv:b3.getD k undef=v:=aw k (by simp[hX]) v (by simp);rw[hv] at ae;obtain⟨hr,_⟩:=aq.tree k _ bD;refine⟨fp k::gs,⟨?_,J⟩,by simp only[hX,ff,lu,R],fun id bp=>?_⟩
   ·cases ae with
    |oE=>omega
    |view ah ag aN aM bb=>
    rename_i t' τ' loc c3 bR wF fW;rw[bD] at ah;cases ah;obtain⟨aA,aX,bY⟩:=bv.f6.1 ag;simp only[au.osl.injEq] at aA;subst aA;have oZ:rt k=[.slice (some ⟨c3,bR,none⟩) wF fW]:=bY;have md:=hr;obtain⟨b9,c',bH,dv⟩:=md;rw[bH] at oZ;simp only[hL,Value.slice.injEq,and_true] at oZ;refine⟨c3,bR,fW,by rw[if_neg (by omega)],by omega,?_⟩;have:=br.fq (τ:=.osl σ) (B':=B) cm hr;rw[bH,oZ.1,oZ.2.2] at this;have e7:List.length (α:=σ.den) aW=xs.length:=mi;rw[<-e7];exact this
   ·rcases d4.1 bp with rfl|bp
    ·exact⟨bU _,_,bD⟩
    ·exact⟨by have:=(ac id bp).1;omega,(ac id bp).2⟩
theorem xB.atJ {f:FuncId} {fn:Func} {c:Code} {args:List hK} {rs:List ResultVar} {res:List a6} (aH:E.P.funcs[f]?=some fn) (aa:fn.body=some c) (uB:fn.results=rs.toArray) (ag:args.length<=fn.ntmps) (h:∀C:eb,C.n=fn.ntmps->C.pin=hX 0 args++r3 (tu 0 args)->(∀b,C.I0 b\/C.B b->b<C.w0.heap.size/\¬C.F0 b)->z6 C (tu 0 args)->nf E C.I0 C.w0->de E C c ⟨kP 0 args,lz 0 args⟩ (Wd E.P args rs res)):xB E f args res:=by
 intro w I B vs fs Z1 rC eA yr Bp apl;obtain⟨pX,MZ⟩:=PQ rC;obtain⟨rt,fp,ch,c8,a3⟩:=W8 (k:=0) rC
 let C:eb:={I0:=I,B:=B,F0:=fun b=>b∈fs.flatten,w0:=w,n:=fn.ntmps,pin:=hX 0 args++r3 (tu 0 args),vs:=fun k=>vs.getD k undef}
 have aat:∀k,(vs.toArray++Array.replicate (fn.ntmps-vs.toArray.size) undef).getD k undef=vs.getD k undef:=by
  intro k;rw[JZ,lW];rcases ct k vs.length with ae|ae
  ·rw[Array.getElem?_append,if_pos (by simpa using ae)];simp
  ·rw[Array.getElem?_append,if_neg (by simp;omega),gW ae,Array.getElem?_replicate];split<;>rfl
 obtain⟨pn,mj⟩:=atu eA;have aq:cx C ⟨kP 0 args,lz 0 args⟩ (vs.toArray++Array.replicate (fn.ntmps-vs.toArray.size) undef) w I rt fp:=by
  refine{n:=?_,i0:=fun _ h=>h,i1:=fun _ h=>.inl h,ib:=Z1,tree:=?_,dis:=?_,tmp:=?_,frame:=fun _ _ _=>rfl,evo:=fun _ _=>.refl _ _,size:=bU _,os:=rfl,tape:=rfl,output:=rfl,pin:=fun k _=>aat k}
  ·simp only[Array.size_append,xM,Array.size_replicate];show _=fn.ntmps;omega
  ·intro id t ah;obtain⟨_,⟨f,aN,aM⟩,bb⟩:=ch id t ah;rw[Nat.sub_zero] at aN;refine⟨bb,by rw[aM];exact pn id f aN,fun b aa=>?_⟩;rw[aM] at aa;have ak:b∈fs.flatten:=lw.2 ⟨f,oP aN,aa⟩;obtain⟨b2,bo,a5⟩:=yr b ak;exact⟨b2,bo,a5,.inr ak⟩
  ·intro i j t u hi ao dJ b aa cZ;obtain⟨_,⟨f,aN,aM⟩,_⟩:=ch i t hi;obtain⟨_,⟨g,b2,bo⟩,_⟩:=ch j u ao;rw[Nat.sub_zero] at aN b2;rw[aM] at aa;rw[bo] at cZ;exact mj i j f g aN b2 dJ b aa cZ
  ·intro k;show cJ _ _ _ _ _ (gt (kP 0 args) k) _;rw[aat];rcases c8 k with h|⟨v,J,R⟩
   ·rw[kN] at h;rw[h];exact .dead _
   ·rw[kN] at R;rw[lW,J];exact R
 have D5:z6 C (tu 0 args):=by
  cases hs:tu 0 args with
  |none=>trivial
  |some q=>
   obtain⟨k,f,l⟩:=q;rw[hs] at Bp;obtain⟨_,_,b,o,gL,fA,hx,lm,r1,zo⟩:=Bp;have Sw:C.pin=hX 0 args++r3 (some (k,f,l)):=(by rw[<-hs]);refine⟨by rw[Sw];simp[r3],fun j ao=>by rw[Sw];simp[r3,ao],b,o,gL,fA,hx,lm,r1,zo⟩
 refine calls_of_wp aH aa (wp_mono (h C rfl rfl (fun b aa=>⟨Z1 b aa,fun ak=>aa.elim (yr b ak).1 (yr b ak).2.1⟩) D5 apl _ w ⟨I,rt,fp,aq⟩ rfl) ?_);rintro e b9 w' ⟨cz,⟨aE,ids,hr,fX,ak⟩,⟨I',pu,hq,eK⟩,aP⟩;obtain⟨aBM,hs,kG,fA,⟨dT,hx⟩,lm⟩:=z1.rep (w0:=w) eK hr;obtain⟨gs,bS,bt,cY⟩:=tU.rep eK (B:=B) (vs:=vs) ak pX (fun j ao v hv=>by
  rw[Nat.sub_zero] at hv;rw[eK.pin j (sl _ ao)];show vs.getD j undef=v;rw[lW,hv];rfl)
 have fX:=kF.ok fX;have HB:∀id∈hX 0 args++ids,∃t,aD cz.h id=some t:=fun id bp=>by
  rcases fg.1 bp with h|h
  ·exact(cY id h).2
  ·exact lm id h
 have Nc:=T2 eK HB fX;rw[jm,vq,<-bt] at Nc;have Nc:(gs.flatten++hs.flatten).Nodup:=(by have:=(List.Perm.append_left gs.flatten hx).nodup_iff.1 Nc;rw[<-sj] at this;exact(kL.1 this).1);have Bd:∀b∈gs.flatten++hs.flatten,∃id t,aD cz.h id=some t/\b∈hq id:=fun b aa=>by
  have aa:b∈((hX 0 args++ids).map hq).flatten:=by
   rw[jm,vq,<-bt];rcases fg.1 aa with h|h
   ·exact sl _ h
   ·exact pI _ (hx.mem_iff.2 (sl _ h))
  obtain⟨l,J,R⟩:=lw.1 aa;obtain⟨id,bp,rfl⟩:=dz.1 J;obtain⟨t,ah⟩:=HB id bp;exact⟨id,t,ah,R⟩
 have post:∃v,(results fn b9.tmps).run E.P w'=.ok v w'/\∃I' gs hs fa,Ending.returned v=.returned (uY fa)/\Wt I B w fs args vs res I' gs hs fa w':=
  ⟨_,ax6 uB b9.tmps w' kG,I',gs,hs,_,rfl,bS,fA,Nc,(fun b aa=>by
   obtain⟨id,t,ah,hZ⟩:=Bd b aa;obtain⟨aN,aM,bb,bH⟩:=(eK.tree id t ah).2.2 b hZ;exact⟨aN,aM,bb,bH⟩),eK.i0,(fun b aa=>by
   rcases eK.i1 b aa with h|h|h
   ·exact .inl h
   ·exact .inr ⟨eK.ib b (.inl aa),.inl h⟩
   ·exact .inr ⟨eK.ib b (.inl aa),.inr h⟩),eK.size,eK.os,eK.tape,eK.output,eK.evo,fun b aa Hb=>eK.frame b aa Hb⟩
 rcases aE with rfl|rfl
 ·exact⟨aP,post⟩
 ·exact⟨aP,post⟩
end
end
section
open Classical in
def pick {α:Type} (jk:α->Prop):Option α:=if h:∃y,jk y then some h.choose else none
theorem awh {α:Type} {jk:α->Prop} {y:α} (h:pick jk=some y):jk y:=by
 unfold pick at h;split at h
 ·rename_i ay;cases h;exact ay.choose_spec
 ·cases h
inductive xQ where
 |v (τ:au)
 |s (a:ax)
 |p (id:Nat) (a b:List bB)
 |w (id:Nat)
structure rj where
 g:List (Nat×xQ)
 h:List (Nat×au)
@[reducible] def u7:List (Nat×xQ)->Type->Type
 |[],r=>r
 |(_,.v τ)::l,r=>τ.den×u7 l r
 |(_,.s _)::l,r=>u7 l r
 |(_,.p _ _ _)::l,r=>Nat×u7 l r
 |(_,.w _)::l,r=>aCv×u7 l r
@[reducible] def Ck:List (Nat×au)->Type
 |[]=>Unit
 |(_,τ)::l=>τ.den×Ck l
@[reducible] def rj.den (dx:rj):Type:=u7 dx.g (Ck dx.h)
def rx {r:Type}:(l:List (Nat×xQ))->u7 l r->List (Nat×ax)
 |[],_=>[]
 |(d,.v τ)::l,s=>(d,.val τ s.1)::rx l s.2
 |(d,.s a)::l,s=>(d,a)::rx l s
 |(d,.p id a b)::l,s=>(d,.ref id (a++.idx s.1::b))::rx l s.2
 |(d,.w id)::l,s=>(d,.view id [] s.1.1 s.1.2)::rx l s.2
def AT {r:Type}:(l:List (Nat×xQ))->u7 l r->r
 |[],s=>s
 |(_,.v _)::l,s=>AT l s.2
 |(_,.s _)::l,s=>AT l s
 |(_,.p _ _ _)::l,s=>AT l s.2
 |(_,.w _)::l,s=>AT l s.2
def AR:(l:List (Nat×au))->Ck l->List (Nat×a6)
 |[],_=>[]
 |(d,τ)::l,s=>(d,⟨τ,s.1⟩)::AR l s.2
def mI (dx:rj) (s:dx.den):bj:=⟨rx dx.g s,AR dx.h (AT dx.g s)⟩
def iA {τ:au} (υ:au) (x:τ.den):Option υ.den:=if e:τ=υ then some (e▸x) else none
theorem l5 {τ υ:au} {x:τ.den} {y:υ.den} (h:iA υ x=some y):(⟨τ,x⟩:a6)=⟨υ,y⟩:=by
 unfold iA at h;split at h
 ·rename_i e;subst e;cases h;rfl
 ·cases h
def Co:bB->bB->Bool
 |.idx i,.idx j=>Nat.beq i j
 |.deref,.deref|.unst,.unst|.fst,.fst|.snd,.snd=>true
 |_,_=>false
theorem Co.ok {a b:bB} (h:Co a b=true):a=b:=by cases a<;>cases b<;>first|rfl|(cases h;done)|(rw[fi h])
def nU:List bB->List bB->Bool
 |[],[]=>true
 |a::p,b::q=>Co a b&&nU p q
 |_,_=>false
theorem nU.ok:∀{p q:List bB},nU p q=true->p=q
 |[],[],_=>rfl
 |[],_::_,h=>by cases h
 |_::_,[],h=>by cases h
 |a::p,b::q,h=>by simp only[nU,bW] at h;rw[Co.ok h.1,nU.ok h.2]
def Af:ax->ax->Bool
 |.ref i p,.ref j q=>Nat.beq i j&&nU p q
 |.addr i p,.addr j q=>Nat.beq i j&&nU p q
 |_,_=>false
theorem Af.ok {a b:ax} (h:Af a b=true):a=b:=by cases a<;>cases b<;>first|(cases h;done)|(simp only[Af,bW] at h;rw[fi h.1,nU.ok h.2])
def Ag:List ax->List ax->Bool
 |[],[]=>true
 |a::l,b::m=>Af a b&&Ag l m
 |_,_=>false
theorem Ag.ok:∀{l m:List ax},Ag l m=true->l=m
 |[],[],_=>rfl
 |[],_::_,h=>by cases h
 |_::_,[],h=>by cases h
 |a::l,b::m,h=>by simp only[Ag,bW] at h;rw[Af.ok h.1,Ag.ok h.2]
def xX:ax->ax->Bool
 |.d1 f l,.d1 g m=>Nat.beq f g&&Ag l m
 |a,b=>Af a b
theorem xX.ok {a b:ax} (h:xX a b=true):a=b:=by cases a<;>cases b<;>first|exact Af.ok h|(simp only[xX,bW] at h;rw[fi h.1,Ag.ok h.2])
def Jt:List bB->List bB->List bB->Option Nat
 |[],b,.idx k::q=>bif nU b q then some k else none
 |s::a,b,t::q=>bif Co s t then Jt a b q else none
 |_,_,_=>none
theorem aeP:∀{a b q:List bB} {k:Nat},Jt a b q=some k->q=a++.idx k::b
 |[],b,[],k,h=>by cases h
 |[],b,s::q,k,h=>by
  cases s<;>simp only[Jt] at h<;>try (cases h;done)
  cases aa:nU b q with
  |false=>rw[aa] at h;cases h
  |true=>rw[aa] at h;cases h;rw[nU.ok aa];rfl
 |s::a,b,[],k,h=>by cases h
 |s::a,b,t::q,k,h=>by
  simp only[Jt] at h;cases aa:Co s t with
  |false=>rw[aa] at h;cases h
  |true=>rw[aa] at h;rw[Co.ok aa,aeP h];rfl
def uV {r:Type} (g:List (Nat×ax)) (o:Option r):(l:List (Nat×xQ))->Option (u7 l r)
 |[]=>o
 |(d,.v τ)::l=>match gt g d with
  |.val _ x=>match iA τ x with
   |some y=>(uV g o l).map (fun q=>(y,q))
   |none=>none
  |_=>none
 |(d,.s a)::l=>match xX a (gt g d) with
  |true=>uV g o l
  |false=>none
 |(d,.p id a b)::l=>match gt g d with
  |.ref j q=>bif Nat.beq id j then match Jt a b q with
   |some k=>(uV g o l).map (fun r=>(k,r))
   |none=>none else none
  |_=>none
 |(d,.w id)::l=>match gt g d with
  |.view j [] lo hi=>bif Nat.beq id j then(uV g o l).map (fun r=>((lo,hi),r)) else none
  |_=>none
def Ov (h:List (Nat×a6)):(l:List (Nat×au))->Option (Ck l)
 |[]=>some ()
 |(d,τ)::l=>match aD h d with
  |some t=>match iA τ t.2 with
   |some y=>(Ov h l).map (fun q=>(y,q))
   |none=>none
  |none=>none
def DN:List (Nat×au)->Nat->Bool
 |[],_=>false
 |(k,_)::r,n=>bif Nat.beq k n then true else DN r n
def u9:List (Nat×xQ)->List (Nat×au)->Bool
 |[],_=>true
 |(_,.v _)::l,h=>u9 l h
 |(_,.s a)::l,h=>(a.ids.all fun id=>DN h id)&&u9 l h
 |(_,.p id _ _)::l,h=>DN h id&&u9 l h
 |(_,.w id)::l,h=>DN h id&&u9 l h
def proj (dx:rj) (st:bj):Option dx.den:=bif u9 dx.g dx.h then uV st.g (Ov st.h dx.h) dx.g else none
theorem Mo:∀{l:List (Nat×au)} {s:Ck l} {id:Nat},DN l id=true->(aD (AR l s) id).isSome=true
 |[],_,_,h=>by cases h
 |(k,τ)::l,s,id,h=>by
  simp only[DN] at h;simp only[AR,aD];cases aa:Nat.beq k id with
  |true=>rfl
  |false=>rw[aa] at h;exact Mo (by simpa using h)
theorem IW {r:Type} {st:bj} {o:Option r}:∀{l:List (Nat×xQ)} {s:u7 l r},uV st.g o l=some s->sx (rx l s) st/\o=some (AT l s)
 |[],s,h=>⟨trivial,h⟩
 |(d,.v τ)::l,s,h=>by
  simp only[uV] at h;split at h
  case h_2=>cases h
  rename_i τ' x ab;split at h
  case h_2=>cases h
  rename_i y aB;obtain⟨q,aj,rfl⟩:=e1.1 h;obtain⟨J,R⟩:=IW aj;refine⟨⟨?_,J⟩,R⟩;rw[ab];cases l5 aB;rfl
 |(d,.s a)::l,s,h=>by
  simp only[uV] at h;split at h
  case h_2=>cases h
  rename_i aC;obtain⟨J,R⟩:=IW h;exact⟨⟨(xX.ok aC).symm,J⟩,R⟩
 |(d,.p id a b)::l,s,h=>by
  simp only[uV] at h;split at h
  case h_2=>cases h
  rename_i j q aj;cases aa:Nat.beq id j with
  |false=>rw[aa] at h;cases h
  |true=>
  rw[aa] at h;simp only[cond_true] at h;split at h
  case h_2=>cases h
  rename_i k ae;obtain⟨r',hr,rfl⟩:=e1.1 h;obtain⟨J,R⟩:=IW hr;refine⟨⟨?_,J⟩,R⟩;rw[aj,aeP ae,fi aa]
 |(d,.w id)::l,s,h=>by
  simp only[uV] at h;split at h
  case h_2=>cases h
  rename_i j lo hi aj;cases aa:Nat.beq id j with
  |false=>rw[aa] at h;cases h
  |true=>
  rw[aa] at h;simp only[cond_true] at h;obtain⟨r',hr,rfl⟩:=e1.1 h;obtain⟨J,R⟩:=IW hr;refine⟨⟨?_,J⟩,R⟩;rw[aj,fi aa]
theorem ady {st:bj}:∀{l:List (Nat×au)} {s:Ck l},Ov st.h l=some s->sy (AR l s) st
 |[],s,h=>trivial
 |(d,τ)::l,s,h=>by
  simp only[Ov] at h;split at h
  case h_2=>cases h
  rename_i t ah;split at h
  case h_2=>cases h
  rename_i y aB;obtain⟨q,aj,rfl⟩:=e1.1 h;refine⟨?_,ady aj⟩;rw[ah];cases t;rw[l5 aB]
theorem Jq {r:Type} {ai:List (Nat×au)} {t:Ck ai}:∀{l:List (Nat×xQ)} {s:u7 l r},u9 l ai=true->pg (rx l s) (AR ai t)=true
 |[],s,h=>rfl
 |(d,.v τ)::l,s,h=>by have:=Jq (r:=r) (t:=t) (l:=l) (s:=s.2) h;simp only[pg,rx,zS,ax.ids,List.all_nil,Bool.true_and] at this|-;exact this
 |(d,.s a)::l,s,h=>by simp only[u9,bW] at h;have:=Jq (r:=r) (t:=t) (l:=l) (s:=s) h.2;simp only[pg,rx,zS,bW] at this|-;refine⟨?_,this⟩;rw[fM] at h|-;exact fun id bp=>Mo (h.1 id bp)
 |(_,.p id a b)::l,s,h=>by simp only[u9,bW] at h;have:=Jq (r:=r) (t:=t) (l:=l) (s:=s.2) h.2;simp only[pg,rx,zS,bW] at this|-;refine⟨?_,this⟩;simp only[ax.ids,zS,List.all_nil,Bool.and_true];exact Mo h.1
 |(_,.w id)::l,s,h=>by simp only[u9,bW] at h;have:=Jq (r:=r) (t:=t) (l:=l) (s:=s.2) h.2;simp only[pg,rx,zS,bW] at this|-;refine⟨?_,this⟩;simp only[ax.ids,zS,List.all_nil,Bool.and_true];exact Mo h.1
theorem zf {dx:rj} {st:bj} {s:dx.den} (h:proj dx st=some s):sx (mI dx s).g st/\sy (mI dx s).h st/\pg (mI dx s).g (mI dx s).h=true:=by
 unfold proj at h;cases aa:u9 dx.g dx.h with
 |false=>rw[aa] at h;cases h
 |true=>
  rw[aa] at h;obtain⟨J,R⟩:=IW h;exact⟨J,ady R,Jq aa⟩
inductive hD where
 |v (τ:au)
 |m (τ:au)
 |o (τ:au)
 |c (f:Nat) (τs:List au)
 |n
 |s (f:Nat) (l:List Nat)
 |w (σ:au)
@[reducible] def oA:List au->Type
 |[]=>Unit
 |τ::l=>τ.den×oA l
@[reducible] def hG:List hD->Type
 |[]=>Unit
 |.c _ τs::l=>oA τs×hG l
 |.n::l=>Unit×hG l
 |.s _ _::l=>Unit×hG l
 |.v τ::l=>τ.den×hG l
 |.m τ::l=>τ.den×hG l
 |.o τ::l=>τ.den×hG l
 |.w σ::l=>(List σ.den×Nat×Nat)×hG l
@[reducible] def j3:List hD->Type->Type
 |[],r=>r
 |.m τ::l,r=>τ.den×j3 l r
 |.w σ::l,r=>List σ.den×j3 l r
 |.v _::l,r=>j3 l r
 |.o _::l,r=>j3 l r
 |.c _ _::l,r=>j3 l r
 |.n::l,r=>j3 l r
 |.s _ _::l,r=>j3 l r
structure bh where
 f:Nat
 ps:List hD
 rs:List au
 nW:hG ps->Option (j3 ps (oA rs))
def j1:(rs:List au)->oA rs->List a6
 |[],_=>[]
 |τ::l,s=>⟨τ,s.1⟩::j1 l s.2
def f2 {r:Type}:(ps:List hD)->hG ps->j3 ps r->List hK
 |[],_,_=>[]
 |.v τ::l,a,b=>.v ⟨τ,a.1⟩::f2 l a.2 b
 |.m τ::l,a,b=>.m ⟨τ,a.1⟩ b.1::f2 l a.2 b.2
 |.o τ::l,a,b=>.o ⟨τ,a.1⟩::f2 l a.2 b
 |.c n τs::l,a,b=>.c n (j1 τs a.1)::f2 l a.2 b
 |.n::l,a,b=>.n::f2 l a.2 b
 |.w σ::l,a,b=>.w σ a.1.1 a.1.2.1 a.1.2.2 b.1::f2 l a.2 b.2
 |.s f q::l,a,b=>.s f q::f2 l a.2 b
def iY {r:Type}:(ps:List hD)->j3 ps r->r
 |[],b=>b
 |.m _::l,b=>iY l b.2
 |.w _::l,b=>iY l b.2
 |.v _::l,b=>iY l b
 |.o _::l,b=>iY l b
 |.c _ _::l,b=>iY l b
 |.n::l,b=>iY l b
 |.s _ _::l,b=>iY l b
def lr:Nat->List hD->Option aCl
 |_,[]=>none
 |k,.s f l::_=>some (k,f,l)
 |k,_::r=>lr (k+1) r
theorem Jl {r:Type}:∀{k:Nat} {ps:List hD} {a:hG ps} {b:j3 ps r},tu k (f2 ps a b)=lr k ps
 |k,[],a,b=>rfl
 |k,p::l,a,b=>by have aZ:=fun a b=>Jl (r:=r) (k:=k+1) (ps:=l) (a:=a) (b:=b);cases p<;>first|exact aZ _ _|rfl
def bg (E:eV) (F:bh):Prop:=
 (∀(vs:Array Value) (w:World),(callFunc F.f vs).run E.P w=.ok (.enter F.f vs) w)/\∀a b,F.nW a=some b->xB E F.f (f2 F.ps a b) (j1 F.rs (iY F.ps b))
def il:(τ:au)->τ.den->List bB->(τ':au)->Option τ'.den
 |_,x,[],τ'=>iA τ' x
 |.osl t,xs,.idx i::p,τ'=>match xs[i]? with
  |some e=>il t e p τ'
  |none=>none
 |.optr t,x,.deref::p,τ'=>il t x p τ'
 |.st t,x,.unst::p,τ'=>il t x p τ'
 |.pr a _,x,.fst::p,τ'=>il a x.1 p τ'
 |.pr _ b,x,.snd::p,τ'=>il b x.2 p τ'
 |_,_,_,_=>none
theorem an7 {τ:au} {x:τ.den} {τ':au}:il τ x [] τ'=iA τ' x:=by cases τ<;>rfl
theorem jy:∀{p:List bB} {τ:au} {x:τ.den} {τ':au} {y:τ'.den},il τ x p τ'=some y->dD τ x p τ' y
 |[],τ,x,τ',y,h=>by rw[an7] at h;cases l5 h;exact dD.f6.2 ⟨rfl,rfl⟩
 |s::p,τ,x,τ',y,h=>by
  cases τ<;>cases s<;>simp only[il] at h<;>try (cases h;done)
  case osl.idx t i=>
   split at h
   ·rename_i e aE;exact⟨e,aE,jy h⟩
   ·cases h
  case optr.deref t=>exact jy (τ:=t) h
  case st.unst t=>exact jy (τ:=t) h
  case pr.fst a b=>exact jy (τ:=a) h
  case pr.snd a b=>exact jy (τ:=b) h
def EL {τ':au} (x:τ'.den) (τ:au):Option τ.den:=if e:dH τ' τ=true then some (cast (dH.den e) x) else none
theorem ado {τ' τ:au} {x:τ'.den} {y:τ.den} (h:EL x τ=some y):rh τ' x τ y:=by
 unfold EL at h;split at h
 ·rename_i e;cases h;exact .same e (cast_heq _ _).symm
 ·cases h
def IU:(τ':au)->τ'.den->(τ:au)->Option τ.den
 |.optr t,x,.ptr .eN u=>(EL (τ':=t) x u).map some
 |_,x,τ=>EL x τ
theorem awc {τ' τ:au} {x:τ'.den} {y:τ.den} (h:IU τ' x τ=some y):rh τ' x τ y:=by
 unfold IU at h;split at h
 ·obtain⟨z,a2,rfl⟩:=e1.1 h;simp only[EL] at a2;split at a2
  ·rename_i e;cases a2;exact .ptr e (cast_heq _ _).symm
  ·cases a2
 ·exact ado h
def sA:au->Value->Bool
 |τ,.agg _=>uK τ
 |_,.tuple _=>false
 |τ,_=>!uK τ
theorem sA.ok {τ:au} {v:Value} (h:sA τ v=true):cQ τ v.cells.toList=v:=by
 cases v<;>simp only[sA] at h<;>first
  |(cases h;done)
  |(rw[OI h];rfl)
  |(rw[Fm] at h;rw[OH h];rfl)
def rq (
 h:List (Nat×a6)) (S:List Nat):ax->(τ:au)->Option τ.den
 |.val _ x,τ=>EL x τ
 |.dh v,τ=>bif sA τ v then jT τ v.cells.toList else none
 |.ref id p,τ=>match dS id S with
  |true=>none
  |false=>match aD h id with
   |none=>none
   |some t=>match eD t.1 p with
    |none=>none
    |some τ'=>match il t.1 t.2 p τ' with
     |none=>none
     |some y=>IU τ' y τ
 |_,_=>none
theorem Xc {h:List (Nat×a6)} {S:List Nat} {av:ax} {τ:au} {x:τ.den} (ay:rq h S av τ=some x):zK h S av ⟨τ,x⟩:=by
 cases av with
 |val τ' y=>exact ado ay
 |dh v=>
  simp only[rq] at ay;cases aa:sA τ v with
  |false=>rw[aa] at ay;cases ay
  |true=>rw[aa] at ay;exact⟨ay,sA.ok aa⟩
 |ref id p=>
  simp only[rq] at ay;split at ay
  ·cases ay
  rename_i bE;split at ay
  ·cases ay
  rename_i t ah;split at ay
  ·cases ay
  rename_i τ' mf;split at ay
  ·cases ay
  rename_i y aB;have:dS id S=false/\∃zx τ' y,aD h id=some zx/\dD zx.1 zx.2 p τ' y/\rh τ' y τ x:=⟨bE,t,τ',y,ah,jy aB,awc ay⟩;exact this
 |_=>cases ay
def sM (h:List (Nat×a6)) (S:List Nat):(τs:List au)->List ax->Option (oA τs)
 |[],[]=>some ()
 |τ::l,av::as=>match rq h S av τ with
  |some x=>(sM h S l as).map (fun q=>(x,q))
  |none=>none
 |_,_=>none
theorem Zd {h:List (Nat×a6)} {S:List Nat}:∀{τs:List au} {avs:List ax} {a:oA τs},sM h S τs avs=some a->jt (zK h S) avs (j1 τs a)
 |[],[],_,_=>trivial
 |[],_::_,_,ay=>by cases ay
 |_::_,[],_,ay=>by cases ay
 |τ::l,av::as,a,ay=>by
  simp only[sM] at ay;split at ay
  case h_2=>cases ay
  rename_i x ab;obtain⟨q,aj,rfl⟩:=e1.1 ay;exact⟨Xc ab,Zd aj⟩
def xj:List ax->List hD->List Nat
 |.ref id []::as,.m _::bs=>id::xj as bs
 |.ref id []::as,.o _::bs=>id::xj as bs
 |.view id [] _ _::as,.w _::bs=>id::xj as bs
 |_::as,_::bs=>xj as bs
 |_,_=>[]
def y5:Value->Bool
 |.slice none 0 0=>true
 |_=>false
theorem y5.ok {v:Value} (h:y5 v=true):v=.slice none 0 0:=by
 unfold y5 at h;split at h
 ·rfl
 ·cases h
def IC:(τ:au)->Value->Option τ.den
 |.osl _,.slice none 0 0=>some []
 |_,_=>none
theorem atB {τ:au} {v:Value} {x:τ.den} (h:IC τ v=some x):v=.slice none 0 0/\∃σ,(⟨τ,x⟩:a6)=⟨.osl σ,[]⟩:=by
 unfold IC at h;split at h
 ·cases h;exact⟨rfl,_,rfl⟩
 ·cases h
def e3 (h:List (Nat×a6)) (S:List Nat):(ps:List hD)->List ax->Option (hG ps)
 |[],[]=>some ()
 |.v τ::l,av::as=>match rq h S av τ with
  |some x=>(e3 h S l as).map (fun q=>(x,q))
  |none=>none
 |.c n τs::l,.d1 m q::as=>bif Nat.beq m n then match sM h S τs q with
  |some x=>(e3 h S l as).map (fun q=>(x,q))
  |none=>none else none
 |.m τ::l,.ref id []::as=>bif τ.fq&&xu τ then match aD h id with
  |some t=>match iA τ t.2 with
   |some x=>(e3 h S l as).map (fun q=>(x,q))
   |none=>none
  |none=>none else none
 |.o τ::l,.ref id []::as=>match aD h id with
  |some t=>match iA τ t.2 with
   |some x=>(e3 h S l as).map (fun q=>(x,q))
   |none=>none
  |none=>none
 |.n::l,.dh v::as=>bif y5 v then(e3 h S l as).map (fun q=>((),q)) else none
 |.s _ _::l,_::as=>(e3 h S l as).map (fun q=>((),q))
 |.o τ::l,.dh v::as=>match IC τ v with
  |some x=>(e3 h S l as).map (fun q=>(x,q))
  |none=>none
 |.w σ::l,.view id [] lo hi::as=>bif σ.fq then(bif Nat.blt lo hi then match aD h id with
  |some t=>match iA (.osl σ) t.2 with
   |some x=>(e3 h S l as).map (fun q=>((x,lo,hi),q))
   |none=>none
  |none=>none else none) else none
 |_,_=>none
def Kt {aT:Type} (h:List (Nat×a6)) (S:List Nat) (av:ax) (τ:au) (K:τ.den->Option aT):Option aT:=match av with
 |.ref id p=>match dS id S with
  |true=>none
  |false=>match aD h id with
   |none=>none
   |some t=>match eD t.1 p with
    |none=>none
    |some τ'=>(il t.1 t.2 p τ').bind fun y=>match IU τ' y τ with
     |none=>none
     |some x=>K x
 |av=>match rq h S av τ with
  |none=>none
  |some x=>K x
theorem akl {aT:Type} {h:List (Nat×a6)} {S:List Nat} {av:ax} {τ:au} {K:τ.den->Option aT}:Kt h S av τ K=(rq h S av τ).bind K:=by
 cases av with
 |ref id p=>
  simp only[Kt,rq];cases dS id S with
  |true=>rfl
  |false=>
   simp only;cases aD h id with
   |none=>rfl
   |some t=>
    simp only;cases eD t.1 p with
    |none=>rfl
    |some τ'=>
     simp only;cases il t.1 t.2 p τ' with
     |none=>rfl
     |some y=>
      simp only[bq];cases IU τ' y τ<;>rfl
 |
  _=>
  simp only[Kt];split
  ·rename_i ay;rw[ay];rfl
  ·rename_i ay;rw[ay];rfl
def lG {aT:Type} (h:List (Nat×a6)) (S:List Nat):(ps:List hD)->List ax->(hG ps->Option aT)->Option aT
 |[],[],K=>K ()
 |.v τ::l,av::as,K=>Kt h S av τ fun x=>lG h S l as fun q=>K (x,q)
 |.c n τs::l,.d1 m q::as,K=>bif Nat.beq m n then match sM h S τs q with
  |some x=>lG h S l as fun q=>K (x,q)
  |none=>none else none
 |.m τ::l,.ref id []::as,K=>bif τ.fq&&xu τ then match aD h id with
  |some t=>match iA τ t.2 with
   |some x=>lG h S l as fun q=>K (x,q)
   |none=>none
  |none=>none else none
 |.o τ::l,.ref id []::as,K=>match aD h id with
  |some t=>match iA τ t.2 with
   |some x=>lG h S l as fun q=>K (x,q)
   |none=>none
  |none=>none
 |.n::l,.dh v::as,K=>bif y5 v then lG h S l as fun q=>K ((),q) else none
 |.s _ _::l,_::as,K=>lG h S l as fun q=>K ((),q)
 |.o τ::l,.dh v::as,K=>match IC τ v with
  |some x=>lG h S l as fun q=>K (x,q)
  |none=>none
 |.w σ::l,.view id [] lo hi::as,K=>bif σ.fq then(bif Nat.blt lo hi then match aD h id with
  |some t=>match iA (.osl σ) t.2 with
   |some x=>lG h S l as fun q=>K ((x,lo,hi),q)
   |none=>none
  |none=>none else none) else none
 |_,_,_=>none
theorem qx {aT:Type} {h:List (Nat×a6)} {S:List Nat}:∀{ps:List hD} {avs:List ax} {K:hG ps->Option aT},lG h S ps avs K=(e3 h S ps avs).bind K
 |[],[],K=>rfl
 |[],_::_,K=>rfl
 |p::l,[],K=>by cases p<;>rfl
 |.v τ::l,av::as,K=>by
  simp only[lG,e3,akl];cases rq h S av τ with
  |none=>rfl
  |some x=>
   simp only[bq];rw[qx];cases e3 h S l as<;>rfl
 |.c n τs::l,av::as,K=>by
  cases av with
  |d1 m q=>
   simp only[lG,e3];cases Nat.beq m n with
   |false=>rfl
   |true=>
    simp only[cond_true];cases sM h S τs q with
    |none=>rfl
    |some x=>
     simp only;rw[qx];cases e3 h S l as<;>rfl
  |ref id p=>cases p<;>rfl
  |_=>rfl
 |.m τ::l,av::as,K=>by
  cases av with
  |ref id p=>
   cases p with
   |cons=>rfl
   |nil=>
    simp only[lG,e3];cases(τ.fq&&xu τ) with
    |false=>rfl
    |true=>
     simp only[cond_true];cases aD h id with
     |none=>rfl
     |some t=>
      simp only;cases iA τ t.2 with
      |none=>rfl
      |some x=>
       simp only;rw[qx];cases e3 h S l as<;>rfl
  |_=>rfl
 |.o τ::l,av::as,K=>by
  cases av with
  |ref id p=>
   cases p with
   |cons=>rfl
   |nil=>
    simp only[lG,e3];cases aD h id with
    |none=>rfl
    |some t=>
     simp only;cases iA τ t.2 with
     |none=>rfl
     |some x=>
      simp only;rw[qx];cases e3 h S l as<;>rfl
  |dh v=>
   simp only[lG,e3];cases IC τ v with
   |none=>rfl
   |some x=>
    simp only;rw[qx];cases e3 h S l as<;>rfl
  |_=>rfl
 |.w σ::l,av::as,K=>by
  cases av with
  |view id p lo hi=>
   cases p with
   |cons=>rfl
   |nil=>
    simp only[lG,e3];cases σ.fq with
    |false=>rfl
    |true=>
     simp only[cond_true];cases Nat.blt lo hi with
     |false=>rfl
     |true=>
     simp only[cond_true];cases aD h id with
     |none=>rfl
     |some t=>
      simp only;cases iA (.osl σ) t.2 with
      |none=>rfl
      |some x=>
       simp only;rw[qx];cases e3 h S l as<;>rfl
  |ref id p=>cases p<;>rfl
  |_=>rfl
 |.n::l,av::as,K=>by
  cases av with
  |dh v=>
   simp only[lG,e3];cases y5 v with
   |false=>rfl
   |true=>
    simp only[cond_true];rw[qx];cases e3 h S l as<;>rfl
  |ref id p=>cases p<;>rfl
  |_=>rfl
 |.s f q::l,av::as,K=>by
  have e:∀x:Option (hG l),(x.bind fun q=>K ((),q))=(x.map fun q=>((),q)).bind K:=fun x=>(by cases x<;>rfl);cases av with
  |ref id p=>cases p<;>(simp only[lG,e3];rw[qx];exact e _)
  |view id p lo hi=>cases p<;>(simp only[lG,e3];rw[qx];exact e _)
  |_=>simp only[lG,e3];rw[qx];exact e _
theorem Vw {r:Type}:∀{ps:List hD} {a:hG ps} {b:j3 ps r} {avs:List ax},fG avs (f2 ps a b)=xj avs ps
 |[],a,b,avs=>by cases avs with|nil=>rfl|cons x l=>cases x<;>first|rfl|(rename_i id p;cases p<;>rfl)|(rename_i id p l e;cases p<;>rfl)
 |p::l,a,b,[]=>by cases p<;>rfl
 |p::l,a,b,av::avs=>by have aZ:=fun a b=>Vw (r:=r) (ps:=l) (a:=a) (b:=b) (avs:=avs);cases p<;>cases av<;>first|exact aZ _ _|(rename_i id q;cases q<;>simp only[f2,fG,xj,aZ];done)|(rename_i id q l e;cases q<;>simp only[f2,fG,xj,aZ])
theorem um {r:Type} {h:List (Nat×a6)} {S:List Nat}:∀{ps:List hD} {a:hG ps} {b:j3 ps r} {avs:List ax},e3 h S ps avs=some a->si h S avs (f2 ps a b)
 |[],a,b,[],_=>trivial
 |[],a,b,_::_,ay=>by cases ay
 |p::l,a,b,[],ay=>by cases p<;>cases ay
 |.v τ::l,a,b,av::avs,ay=>by
  simp only[e3] at ay;split at ay
  case h_2=>cases ay
  rename_i x ab;obtain⟨q,aj,rfl⟩:=e1.1 ay;exact⟨by cases av<;>exact Xc ab,um aj⟩
 |.c n τs::l,a,b,av::avs,ay=>by
  cases av with
  |d1 m q=>
   simp only[e3] at ay;cases aa:Nat.beq m n with
   |false=>rw[aa] at ay;cases ay
   |true=>
    rw[aa] at ay;obtain rfl:=fi aa;simp only[cond_true] at ay;split at ay
    case h_2=>cases ay
    rename_i x ab;obtain⟨f7,aj,rfl⟩:=e1.1 ay;exact⟨⟨rfl,Zd ab⟩,um aj⟩
  |ref id p=>cases p<;>cases ay
  |_=>cases ay
 |.m τ::l,a,b,av::avs,ay=>by
  cases av with
  |ref id p=>cases p with
   |cons=>cases ay
   |nil=>
    simp only[e3] at ay;cases aa:(τ.fq&&xu τ) with
    |false=>rw[aa] at ay;cases ay
    |true=>
     rw[aa] at ay;simp only[bW] at aa;simp only[cond_true] at ay;split at ay
     case h_2=>cases ay
     rename_i t ah;split at ay
     case h_2=>cases ay
     rename_i x ab;obtain⟨q,aj,rfl⟩:=e1.1 ay;refine⟨⟨?_,aa.1,aa.2⟩,um aj⟩;rw[ah,<-l5 ab]
  |_=>cases ay
 |.o τ::l,a,b,av::avs,ay=>by
  cases av with
  |ref id p=>cases p with
   |cons=>cases ay
   |nil=>
    simp only[e3] at ay;split at ay
    case h_2=>cases ay
    rename_i t ah;split at ay
    case h_2=>cases ay
    rename_i x ab;obtain⟨q,aj,rfl⟩:=e1.1 ay;refine⟨?_,um aj⟩;show aD h id=some _;rw[ah,<-l5 ab]
  |dh v=>
   simp only[e3] at ay;split at ay
   case h_2=>cases ay
   rename_i x ab;obtain⟨q,aj,rfl⟩:=e1.1 ay;exact⟨atB ab,um aj⟩
  |_=>cases ay
 |.w σ::l,a,b,av::avs,ay=>by
  cases av with
  |view id p lo hi=>cases p with
   |cons=>cases ay
   |nil=>
    simp only[e3] at ay;cases aa:σ.fq with
    |false=>rw[aa] at ay;cases ay
    |true=>
     rw[aa] at ay;simp only[cond_true] at ay;cases ai:Nat.blt lo hi with
     |false=>rw[ai] at ay;cases ay
     |true=>
     rw[ai] at ay;simp only[cond_true] at ay;split at ay
     case h_2=>cases ay
     rename_i t ah;split at ay
     case h_2=>cases ay
     rename_i x ab;obtain⟨q,aj,rfl⟩:=e1.1 ay;refine⟨⟨?_,⟨rfl,rfl⟩,fQ ai,aa⟩,um aj⟩;rw[ah,<-l5 ab]
  |ref id p=>cases p<;>cases ay
  |_=>cases ay
 |.n::l,a,b,av::avs,ay=>by
  cases av with
  |dh v=>
   simp only[e3] at ay;cases aa:y5 v with
   |false=>rw[aa] at ay;cases ay
   |true=>
    rw[aa] at ay;obtain⟨q,aj,rfl⟩:=e1.1 ay;exact⟨y5.ok aa,um aj⟩
  |ref id p=>cases p<;>cases ay
  |_=>cases ay
 |.s f q::l,a,b,av::avs,ay=>by
  have ay:(e3 h S l avs).map (fun x=>(((),x):hG (.s f q::l)))=some a:=by
   cases av with
   |ref id p=>cases p<;>exact ay
   |view id p lo hi=>cases p<;>exact ay
   |_=>exact ay
  obtain⟨x,aj,rfl⟩:=e1.1 ay;refine⟨?_,um aj⟩;cases av with
  |ref id p=>cases p<;>trivial
  |view id p lo hi=>cases p<;>trivial
  |_=>trivial
end
section
def pw:(τ:au)->τ.den->List bB->(τ':au)->τ'.den->Option τ.den
 |τ,_,[],_,y=>iA τ y
 |.osl t,xs,.idx i::p,τ',y=>match xs[i]? with
  |some e=>(pw t e p τ' y).map fun dI=>xs.set i dI
  |none=>none
 |.optr t,x,.deref::p,τ',y=>pw t x p τ' y
 |.st t,x,.unst::p,τ',y=>pw t x p τ' y
 |.pr a _,x,.fst::p,τ',y=>(pw a x.1 p τ' y).map fun dI=>(dI,x.2)
 |.pr _ b,x,.snd::p,τ',y=>(pw b x.2 p τ' y).map fun dI=>(x.1,dI)
 |_,_,_,_,_=>none
theorem ayu {τ:au} {x:τ.den} {τ':au} {y:τ'.den}:pw τ x [] τ' y=iA τ y:=by cases τ<;>rfl
theorem er.ats {τ:au} {x:τ.den} {τ':au} {y:τ'.den} {z:τ.den} (h:iA τ y=some z):er τ x [] τ' y z:=by cases l5 h;cases τ<;>exact⟨rfl,rfl⟩
theorem qd:∀{p:List bB} {τ:au} {x:τ.den} {τ':au} {y:τ'.den} {z:τ.den},pw τ x p τ' y=some z->er τ x p τ' y z
 |[],τ,x,τ',y,z,h=>by rw[ayu] at h;exact er.ats h
 |s::p,τ,x,τ',y,z,h=>by
  cases τ<;>cases s<;>simp only[pw] at h<;>try (cases h;done)
  case osl.idx t i=>
   split at h
   ·rename_i e aE;obtain⟨dI,J,rfl⟩:=e1.1 h;exact⟨e,dI,aE,qd J,rfl⟩
   ·cases h
  case optr.deref t=>exact qd (τ:=t) h
  case st.unst t=>exact qd (τ:=t) h
  case pr.fst a b=>
   obtain⟨dI,J,rfl⟩:=e1.1 h;exact⟨dI,qd J,rfl⟩
  case pr.snd a b=>
   obtain⟨dI,J,rfl⟩:=e1.1 h;exact⟨dI,qd J,rfl⟩
def jh (i:Int):Option Nat:=if 0<=i then some i.toNat else none
theorem ati {i:Int} {k:Nat} (h:jh i=some k):i=(k:Int):=by
 unfold jh at h;split at h
 ·cases h;omega
 ·cases h
def cH (n:Nat) (i:Int):Option Nat:=if 0<=i/\i.toNat<n then some i.toNat else none
theorem aaT {n:Nat} {i:Int} {k:Nat} (h:cH n i=some k):i=(k:Int)/\k<n:=by
 unfold cH at h;split at h
 ·cases h;omega
 ·cases h
def di (n:Nat):Option Unit:=if n<=gS then some () else none
theorem Eo {n:Nat} {u:Unit} (h:di n=some u):n<=gS:=by
 unfold di at h;split at h
 ·assumption
 ·cases h
def ip (k:IntKind) (x y:Int):Option Int:=if y≠0 then some (k.wrap (x.tdiv y)) else none
def ji (x y:Int):Option Int:=if y≠0 then some (x.tmod y) else none
def iq (k:IntKind) (x y:Int):Option Int:=if 0<=y then some (k.wrap (x*2^min y.toNat k.bits)) else none
def d6 (k:IntKind) (x y:Int):Option Int:=if 0<=y then some (x.fdiv (2^min y.toNat k.bits)) else none
def ed (k:IntKind) (x y:Int):Int:=k.wrap (BitVec.ofInt k.bits x&&&BitVec.ofInt k.bits y).toNat
def fF (k:IntKind) (x y:Int):Int:=k.wrap (BitVec.ofInt k.bits x|||BitVec.ofInt k.bits y).toNat
def zE (k:IntKind) (x y:Int):Int:=k.wrap (BitVec.ofInt k.bits x^^^BitVec.ofInt k.bits y).toNat
def aj9 (k:IntKind) (x y:Int):Int:=k.wrap (BitVec.ofInt k.bits x&&&~~~BitVec.ofInt k.bits y).toNat
def Da (x:Option ax) (d:Nat):Option Nat:=
 match x with
 |none=>some d
 |some (.val (.int _) i)=>jh i
 |some _=>none
theorem KA {x:Option ax} {d k:Nat} (h:Da x d=some k):x0 x d k:=by
 unfold Da at h;unfold x0;split at h
 ·cases h;rfl
 ·exact ati h
 ·cases h
def jG (l h n:Nat):Option Unit:=if l<=h/\h<=n then some () else none
theorem abs {l h n:Nat} {u:Unit} (ay:jG l h n=some u):l<=h/\h<=n:=by
 unfold jG at ay;split at ay
 ·assumption
 ·cases ay
def IV (_:Nat):Option Unit:=some ()
def fJ (l c:Int):Option Nat:=if 0<=l/\l<=c/\c<=(gS:Int) then some l.toNat else none
open Classical in
def rT {aT:Type} (n:Nat) (x y:Option aT):Option aT:=if n=0 then if x=y then y else none else y
theorem atq {aT:Type} {n:Nat} {x y:Option aT} {r:aT} (h:rT n x y=some r):y=some r/\(n=0->x=some r):=by
 unfold rT at h;split at h
 ·split at h
  ·rename_i e;exact⟨h,fun _=>e.trans h⟩
  ·cases h
 ·rename_i e;exact⟨h,fun aX=>absurd aX e⟩
def uc:List Int:=[0,1,28,2,29,14,24,3,30,22,20,15,25,17,4,8,31,27,13,23,21,19,16,7,26,12,18,6,11,5,10,9]
inductive PD where
 |eh (av:ax)
 |opt (α:Type) (o:Option α) (f:α->ax)
 |new (α:Type) (o:Option α) (t:α->a6) (d:Nat)
 |no
def l8 (tt:List (TypeId×au)) (an:List (Nat×au)) (h:List (Nat×a6)) (g:Operand->ax) (d:Nat) (op:Op):PD:=
 match op with
 |.binOp op _ x y _=>match g x,g y with
  |.val (.int k) x,.val (.int c0) y=>if k=c0 then
   (match op with
   |.add=>.eh (.val (.int k) (k.wrap (x+y)))
   |.sub=>.eh (.val (.int k) (k.wrap (x-y)))
   |.mul=>.eh (.val (.int k) (k.wrap (x*y)))
   |.quo=>.opt Int (ip k x y) (.val (.int k))
   |.rem=>.opt Int (ji x y) (.val (.int k))
   |.shl=>.opt Int (iq k x y) (.val (.int k))
   |.shr=>.opt Int (d6 k x y) (.val (.int k))
   |.and=>.eh (.val (.int k) (ed k x y))
   |.or=>.eh (.val (.int k) (fF k x y))
   |.xor=>.eh (.val (.int k) (zE k x y))
   |.andNot=>.eh (.val (.int k) (aj9 k x y))
   |_=>.no) else
   (match op with
   |.shl=>.opt Int (iq k x y) (.val (.int k))
   |.shr=>.opt Int (d6 k x y) (.val (.int k))
   |_=>.no)
  |_,_=>.no
 |.unOp .neg _ x=>match g x with
  |.val (.int k) x=>.eh (.val (.int k) (k.wrap (0-x)))
  |_=>.no
 |.convert s e x=>match aD tt s,aD tt e,g x with
  |some (.int _),some (.int k),.val (.int _) x=>.eh (.val (.int k) (k.wrap x))
  |_,_,_=>.no
 |.nilCheck x=>match g x with
  |.val (.ptr m t) x=>.opt t.den x fun y=>.val (.ptr m t) (some y)
  |_=>.no
 |.indexAddr T x i=>match gr tt T,g i with
  |some u,.val (.int _) i=>match g x with
   |.val (.bM m t) xs=>bif bI u t then .opt t.den (bf xs i) fun y=>.val (.ptr m t) (some y) else .no
   |.ref id p=>match aD h id with
    |some cg=>match eD cg.1 p with
     |some (.osl t)=>bif bI u t then .opt Nat ((il cg.1 cg.2 p (.osl t)).bind fun xs=>cH xs.length i) fun k=>.addr id (p++[.idx k]) else .no
     |_=>.no
    |none=>.no
   |.view id [] lo hi=>match aD h id with
    |some cg=>match cg.1 with
     |.osl t=>bif bI u t then .opt Nat (cH (hi-lo) i) fun k=>.addr id [.idx (lo+k)] else .no
     |_=>.no
    |none=>.no
   |_=>.no
  |_,_=>.no
 |.load T x=>match aD tt T with
  |some u=>match g x with
   |.addr id p=>match aD h id with
    |some cg=>match eD cg.1 p with
     |some t=>bif bI u t&&t.pure then .opt t.den (il cg.1 cg.2 p t) fun y=>.val t y else .no
     |none=>.no
    |none=>.no
   |.ref id p=>match aD h id with
    |some cg=>match eD cg.1 p with
     |some (.optr t)=>bif bI u t&&t.pure then .opt t.den (il cg.1 cg.2 (p++[.deref]) t) fun y=>.val t y else .no
     |_=>.no
    |none=>.no
   |.val (.ptr _ t) x=>bif bI u t then .opt t.den x fun y=>.val t y else .no
   |_=>.no
  |none=>.no
 |.fieldAddr T x n=>match nN tt T,g x with
  |some u,.val (.ptr m (.st t)) x=>bif bI u t&&(eO t n).isSome then .opt t.den x fun y=>(match wa t y n with
   |some q=>.val (.ptr m q.1) (some q.2)
   |none=>.dead) else .no
  |_,_=>.no
 |.slice T x lo hi none=>match gr tt T with
  |some u=>match g x with
   |.val (.bM m t) xs=>bif bI u t then
    .opt aCv ((Da (lo.map g) 0).bind fun l=>(Da (hi.map g) xs.length).bind fun e=>(jG l e xs.length).map fun _=>(l,e)) (fun q=>.val (.bM m t) ((xs.take q.2).drop q.1)) else .no
   |.ref id p=>match aD h id with
    |some cg=>match eD cg.1 p with
     |some (.osl t)=>bif bI u t then
      .opt aCv ((il cg.1 cg.2 p (.osl t)).bind fun xs=>(Da (lo.map g) 0).bind fun l=>(Da (hi.map g) xs.length).bind fun e=>(jG l e xs.length).bind fun _=>(IV xs.length).map fun _=>(l,e)) (fun q=>.view id p q.1 q.2) else .no
     |_=>.no
    |none=>.no
   |_=>.no
  |none=>.no
 |.makeSlice T l c=>match gr tt T,aD an d,aD h d with
  |some u,some (.osl t),none=>match oF t,g l,g c with
   |some z,.val (.int _) l,.val (.int _) c=>bif bI u t&&Nat.ble t.size 2000 then
    .new Nat (fJ l c) (fun n=>⟨.osl t,List.replicate n z⟩) d else .no
   |_,_,_=>.no
  |_,_,_=>.no
 |.index T x i=>match aD tt T,g x,g i with
  |some .str,.dh (.string s),.val (.int _) n=>.opt Int (vb s n) (.val (.int .u8))
  |some .str,.val .str s,.val (.int _) n=>.opt Int (vb s n) (.val (.int .u8))
  |_,_,_=>.no
 |.lookup T x k ok=>match mY tt T,g x,g k with
  |some u,.ref id p,.val (.int .i64) k=>match aD h id with
   |some cg=>match eD cg.1 p with
    |some (.mp t)=>match oF t with
     |some z=>bif bI u t then .opt (Option (List (Int×t.den)×Nat)) (il cg.1 cg.2 p (.mp t)) fun gv=>NU t gv z k ok else .no
     |none=>.no
    |_=>.no
   |none=>.no
  |_,_,_=>.no
 |.call c=>match c.callee,c.args.toList,c.argTypes.toList with
  |.builtin .len,[x],[T]=>match gr tt T,g x with
   |some _,.ref id p=>match aD h id with
    |some cg=>match eD cg.1 p with
     |some (.osl t)=>.opt (List t.den) (il cg.1 cg.2 p (.osl t)) fun xs=>.val (.int .i64) (xs.length:Int)
     |_=>.no
    |none=>.no
   |none,.ref id p=>match mY tt T,aD h id with
    |some _,some cg=>match eD cg.1 p with
     |some (.mp t)=>.opt (Option (List (Int×t.den)×Nat)) (il cg.1 cg.2 p (.mp t)) fun gv=>.val (.int .i64) (Es gv)
     |_=>.no
    |_,_=>.no
   |_,_=>.no
  |_,_,_=>.no
 |_=>.no
theorem YX:∀{t:au} {y:t.den} {n:Nat},(eO t n).isSome=true->∃q,wa t y n=some q
 |.pr a b,y,0,_=>⟨_,rfl⟩
 |.pr a b,y,n+1,h=>by
  simp only[eO] at h;split at h
  ·rename_i q aj;exact YX (t:=b) (by rw[aj];rfl)
  ·cases h
 |.int _,_,_,h=>by cases h
 |.bool,_,_,h=>by cases h
 |.str,_,_,h=>by cases h
 |.bM _ _,_,_,h=>by cases h
 |.ptr _ _,_,_,h=>by cases h
 |.osl _,_,_,h=>by cases h
 |.optr _,_,_,h=>by cases h
 |.st _,_,_,h=>by cases h
 |.nil,_,_,h=>by cases h
 |.dG,_,_,h=>by cases h
def PD.K (r:PD) (Q:ax->List (Nat×a6)->Prop):Prop:=
 match r with
 |.eh av=>Q av []
 |.opt _ o f=>∃y,o=some y/\Q (f y) []
 |.new _ o t d=>∃y,o=some y/\Q (.ref d []) [(d,t y)]
 |.no=>False
theorem Q7 {tt:List (TypeId×au)} {an:List (Nat×au)} {h:List (Nat×a6)} {g:Operand->ax} {d:Nat} {op:Op} {Q:ax->List (Nat×a6)->Prop} (ay:(l8 tt an h g d op).K Q):(gR tt an h g d op).K Q:=by
 unfold l8 at ay;split at ay
 ·rename_i op T x y kr;simp only[gR];split at ay
  case h_2=>exact ay.elim
  rename_i k x c0 y ex jw;simp only[ex,jw];split at ay
  ·rename_i e;subst e;split at ay
   ·simp only[ob,if_true];exact⟨_,⟨trivial,rfl⟩,ay⟩
   ·simp only[ob,if_true];exact⟨_,⟨trivial,rfl⟩,ay⟩
   ·simp only[ob,if_true];exact⟨_,⟨trivial,rfl⟩,ay⟩
   ·obtain⟨z,a2,aj⟩:=ay;unfold ip at a2;split at a2
    ·rename_i aB;cases a2;simp only[ob,if_true];exact⟨_,⟨aB,rfl⟩,aj⟩
    ·cases a2
   ·obtain⟨z,a2,aj⟩:=ay;unfold ji at a2;split at a2
    ·rename_i aB;cases a2;simp only[ob,if_true];exact⟨_,⟨aB,rfl⟩,aj⟩
    ·cases a2
   ·obtain⟨z,a2,aj⟩:=ay;unfold iq at a2;split at a2
    ·rename_i aB;cases a2;exact⟨_,⟨aB,rfl⟩,aj⟩
    ·cases a2
   ·obtain⟨z,a2,aj⟩:=ay;unfold d6 at a2;split at a2
    ·rename_i aB;cases a2;exact⟨_,⟨aB,rfl⟩,aj⟩
    ·cases a2
   ·simp only[ob,if_true];exact⟨_,⟨trivial,rfl⟩,ay⟩
   ·simp only[ob,if_true];exact⟨_,⟨trivial,rfl⟩,ay⟩
   ·simp only[ob,if_true];exact⟨_,⟨trivial,rfl⟩,ay⟩
   ·simp only[ob,if_true];exact⟨_,⟨trivial,rfl⟩,ay⟩
   ·exact ay.elim
  ·split at ay
   ·obtain⟨z,a2,aj⟩:=ay;unfold iq at a2;split at a2
    ·rename_i aB;cases a2;exact⟨_,⟨aB,rfl⟩,aj⟩
    ·cases a2
   ·obtain⟨z,a2,aj⟩:=ay;unfold d6 at a2;split at a2
    ·rename_i aB;cases a2;exact⟨_,⟨aB,rfl⟩,aj⟩
    ·cases a2
   ·exact ay.elim
 ·rename_i T x;simp only[gR];split at ay
  case h_2=>exact ay.elim
  rename_i k x ex;rw[ex];exact⟨_,rfl,ay⟩
 ·rename_i s e x;simp only[gR,KK];split at ay
  case h_2=>exact ay.elim
  rename_i c0 k bD x aA aX ex;rw[aA,aX,ex];exact⟨_,rfl,ay⟩
 ·rename_i x;simp only[gR,BS];split at ay
  case h_2=>exact ay.elim
  rename_i m t x ex;rw[ex];obtain⟨y,rfl,aj⟩:=ay;exact⟨y,rfl,aj⟩
 ·rename_i T x i;simp only[gR,Bx];split at ay
  case h_2=>exact ay.elim
  rename_i u k i aA aX;rw[aA,aX];simp only;split at ay
  ·rename_i m t xs ex;rw[ex];simp only;cases aa:bI u t with
   |false=>rw[aa] at ay;exact ay.elim
   |true=>
   rw[aa] at ay;obtain⟨y,aB,aj⟩:=ay;exact⟨y,aB,aj⟩
  ·rename_i id p ex;rw[ex];simp only;split at ay
   case h_2=>exact ay.elim
   rename_i cg ah;rw[ah];simp only;split at ay
   case h_2=>exact ay.elim
   rename_i t mf;rw[mf];simp only;cases aa:bI u t with
   |false=>rw[aa] at ay;exact ay.elim
   |true=>
   rw[aa] at ay;obtain⟨y,aB,aj⟩:=ay;obtain⟨xs,ab,aB⟩:=dA.1 aB;obtain⟨J,R⟩:=aaT aB;exact⟨(xs,y),⟨jy ab,J,R⟩,aj⟩
  ·rename_i id lo hi ex;rw[ex];simp only;split at ay
   case h_2=>exact ay.elim
   rename_i cg ah;obtain⟨τ,x⟩:=cg;rw[ah];simp only at ay|-;split at ay
   case h_2=>exact ay.elim
   rename_i t;simp only[eD];cases aa:bI u t with
   |false=>rw[aa] at ay;exact ay.elim
   |true=>
   rw[aa] at ay;obtain⟨k,ae,aj⟩:=ay;obtain⟨J,R⟩:=aaT ae;exact⟨(x,k),⟨⟨rfl,rfl⟩,J,R⟩,aj⟩
  ·exact ay.elim
 ·rename_i T x;simp only[gR,BG];split at ay
  case h_2=>exact ay.elim
  rename_i u aA;rw[aA];simp only;split at ay
  ·rename_i id p ex;rw[ex];simp only;split at ay
   case h_2=>exact ay.elim
   rename_i cg ah;rw[ah];simp only;split at ay
   case h_2=>exact ay.elim
   rename_i t mf;rw[mf];simp only[B8];cases aa:(bI u t&&t.pure) with
   |false=>rw[aa] at ay;exact ay.elim
   |true=>
   rw[aa] at ay;simp only[bW] at aa;rw[aa.1,aa.2];obtain⟨y,aB,aj⟩:=ay;exact⟨y,jy aB,aj⟩
  ·rename_i id p ex;rw[ex];simp only;split at ay
   case h_2=>exact ay.elim
   rename_i cg ah;rw[ah];simp only;split at ay
   case h_2=>exact ay.elim
   rename_i t mf;rw[mf];simp only[B8];cases aa:(bI u t&&t.pure) with
   |false=>rw[aa] at ay;exact ay.elim
   |true=>
   rw[aa] at ay;simp only[bW] at aa;rw[aa.1,aa.2];obtain⟨y,aB,aj⟩:=ay;exact⟨y,jy aB,aj⟩
  ·rename_i m t x ex;rw[ex];cases aa:bI u t with
   |false=>rw[aa] at ay;exact ay.elim
   |true=>
   rw[aa] at ay;obtain⟨y,rfl,aj⟩:=ay;simp only[aa,cond_true];exact aj
  ·exact ay.elim
 ·rename_i T x n;simp only[gR,A4];split at ay
  case h_2=>exact ay.elim
  rename_i u m t x aA ex;rw[aA,ex];cases aa:(bI u t&&(eO t n).isSome) with
  |false=>rw[aa] at ay;exact ay.elim
  |true=>
  rw[aa] at ay;simp only[bW] at aa;obtain⟨y,rfl,aj⟩:=ay;obtain⟨q,aH⟩:=YX (y:=y) aa.2;simp only[aH] at aj;simp only[aa.1,cond_true,aH];exact aj
 ·rename_i T x lo hi;simp only[gR,Cm];split at ay
  case h_2=>exact ay.elim
  rename_i u aA;rw[aA];simp only;split at ay
  ·rename_i m t xs ex;rw[ex];simp only;cases aa:bI u t with
   |false=>rw[aa] at ay;exact ay.elim
   |true=>
   rw[aa] at ay;obtain⟨y,aB,aj⟩:=ay;obtain⟨l,ai,aB⟩:=dA.1 aB;obtain⟨e,aE,aB⟩:=dA.1 aB;obtain⟨v,hv,rfl⟩:=e1.1 aB;obtain⟨J,R⟩:=abs hv;exact⟨(l,e),⟨KA ai,KA aE,J,R⟩,aj⟩
  ·rename_i id p ex;rw[ex];simp only;split at ay
   case h_2=>exact ay.elim
   rename_i cg ah;rw[ah];simp only;split at ay
   case h_2=>exact ay.elim
   rename_i t mf;rw[mf];simp only;cases aa:bI u t with
   |false=>rw[aa] at ay;exact ay.elim
   |true=>
   rw[aa] at ay;obtain⟨y,aB,aj⟩:=ay;obtain⟨xs,ab,aB⟩:=dA.1 aB;obtain⟨l,ai,aB⟩:=dA.1 aB;obtain⟨e,aE,aB⟩:=dA.1 aB;obtain⟨v,hv,aB⟩:=dA.1 aB;obtain⟨gz,ld,rfl⟩:=e1.1 aB;obtain⟨J,R⟩:=abs hv;exact⟨(xs,l,e),⟨jy ab,KA ai,KA aE,J,R⟩,aj⟩
  ·exact ay.elim
 ·rename_i T l c;simp only[gR,BL];split at ay
  case h_2=>exact ay.elim
  rename_i u t aA aX bY;rw[aA,aX,bY];simp only;split at ay
  case h_2=>exact ay.elim
  rename_i z k l c0 c e7 pO uh;rw[e7,pO,uh];simp only;cases aa:(bI u t&&Nat.ble t.size 2000) with
  |false=>rw[aa] at ay;exact ay.elim
  |true=>
  rw[aa] at ay;obtain⟨y,aB,aj⟩:=ay;unfold fJ at aB;split at aB
  ·rename_i hc;cases aB;exact⟨(l.toNat,c.toNat),⟨(Int.toNat_of_nonneg hc.1).symm,(Int.toNat_of_nonneg (Int.le_trans hc.1 hc.2.1)).symm,by show l.toNat<=c.toNat;omega,by show c.toNat<=gS;omega⟩,aj⟩
  ·cases aB
 ·rename_i T x i;simp only[gR,O0];split at ay
  ·rename_i s k n aA aX bY;rw[aA,aX,bY];obtain⟨b,aa,aj⟩:=ay;exact⟨b,aa,aj⟩
  ·rename_i s k n aA aX bY;rw[aA,aX,bY];obtain⟨b,aa,aj⟩:=ay;exact⟨b,aa,aj⟩
  ·exact ay.elim
 ·rename_i T x k ok;simp only[gR,BH];split at ay
  case h_2=>exact ay.elim
  rename_i u id p k aA aX bY;rw[aA,aX,bY];simp only;split at ay
  case h_2=>exact ay.elim
  rename_i cg ah;rw[ah];simp only;split at ay
  case h_2=>exact ay.elim
  rename_i t mf;rw[mf];simp only;split at ay
  case h_2=>exact ay.elim
  rename_i z a2;rw[a2];simp only;cases aa:bI u t with
  |false=>rw[aa] at ay;exact ay.elim
  |true=>
  rw[aa] at ay;obtain⟨y,aB,aj⟩:=ay;exact⟨y,jy aB,aj⟩
 ·rename_i c;simp only[gR];split at ay
  ·rename_i x T aA aX bY;rw[aA,aX,bY];simp only;split at ay
   ·rename_i u id p e7 pO;rw[e7,pO];simp only[BF,e7];split at ay
    case h_2=>exact ay.elim
    rename_i cg ah;rw[ah];simp only;split at ay
    case h_2=>exact ay.elim
    rename_i t mf;rw[mf];obtain⟨y,aB,aj⟩:=ay;exact⟨y,jy aB,aj⟩
   ·rename_i id p e7 pO;rw[e7,pO];simp only[BO];split at ay
    case h_2=>exact ay.elim
    rename_i u cg uh ah;rw[uh,ah];simp only;split at ay
    case h_2=>exact ay.elim
    rename_i t mf;rw[mf];obtain⟨y,aB,aj⟩:=ay;exact⟨y,jy aB,aj⟩
   ·exact ay.elim
  ·exact ay.elim
 ·exact ay.elim
def nu {α:Type} (xs aW:List α) (lo hi:Nat):List α:=xs.take lo++(aW.take (hi-lo)++xs.drop (lo+min aW.length (hi-lo)))
end
section
def HK:ax->Bool
 |.val _ _=>true
 |_=>false
def To:ax->Bool
 |.val _ _=>true
 |.d1 _ l=>l.all HK
 |_=>false
theorem Tp {a:ax} (h:To a=true):∀id∈a.ids,False:=by
 intro id bp;cases a with
 |val τ x=>simp[ax.ids] at bp
 |d1 f l=>
  have h:l.all HK=true:=h;have:∀l:List ax,l.all HK=true->∀id∈ax.rM l,False:=by
   intro l
   induction l with
   |nil=>intro _ id bp;simp[ax.rM] at bp
   |cons a l aZ=>
    intro h id bp;simp only[zS,bW] at h;simp only[ax.rM,fg] at bp;rcases bp with bp|bp
    ·cases a with
     |val τ x=>simp[ax.ids] at bp
     |_=>cases h.1
    ·exact aZ h.2 id bp
  exact this l h id bp
 |_=>cases h
def tN (C:eb) (kg:List (Nat×ax)):Prop:=
 (∀b,C.I0 b\/C.B b->b<C.w0.heap.size/\¬C.F0 b)/\
 ∀q∈kg,q.1∈C.pin/\To q.2=true/\cJ (bP C.I0 C.B) C.w0 [] (fun _=>[]) (fun _=>[]) q.2 (C.vs q.1)
section
variable {E:eV} {C:eb}
theorem tN.nil (h:∀b,C.I0 b\/C.B b->b<C.w0.heap.size/\¬C.F0 b):tN C []:=⟨h,fun q h=>by cases h⟩
theorem aod (l g:List (Nat×ax)) (k:Nat):gt (l++g) k=match aD l k with|some v=>v|none=>gt g k:=by unfold gt;rw[lL];cases aD l k<;>rfl
theorem Ig {α:Type}:∀{l:List (Nat×α)} {k:Nat} {v:α},aD l k=some v->(k,v)∈l
 |[],_,_,h=>by cases h
 |(k0,v0)::l,k,v,h=>by
  rw[dq] at h;split at h
  ·rename_i e;cases h;subst e;exact nk ..
  ·exact gC _ (Ig h)
theorem gD.kg {kg:List (Nat×ax)} (ae:tN C kg) {st:bj} {b3:Array Value} {w:World} (h:gD C st b3 w):gD C ⟨kg++st.g,st.h⟩ b3 w:=by
 obtain⟨I,rt,fp,aq⟩:=h;refine⟨I,rt,fp,{aq with tmp:=fun k=>?_}⟩;show cJ _ _ _ _ _ (gt (kg++st.g) k) _;rw[aod];split
 ·rename_i av ai;obtain⟨J,R,ac⟩:=ae.2 _ (Ig ai);have ac:cJ (bP C.I0 C.B) C.w0 [] (fun _=>[]) (fun _=>[]) av (C.vs k):=ac;rw[aq.pin k J];refine ac.y1 (fun m b ak=>?_) (fun id bp=>(Tp R id bp).elim);have aa:C.I0 b\/C.B b:=qQ ak;obtain⟨aN,aM⟩:=ae.1 b aa;refine⟨?_,df.of_heap (aq.frame b aN aM)⟩;cases m
  ·exact aq.i0 b ak
  ·exact ak.imp (aq.i0 b) id
 ·exact aq.tmp k
theorem de.kg {kg:List (Nat×ax)} (ae:tN C kg) {c:Code} {st:bj} {Q:Exit->bj->Prop} (h:de E C c ⟨kg++st.g,st.h⟩ Q):de E C c st Q:=
 fun a w aq aP=>h a w (aq.kg ae) aP
def yL (g:List (Nat×ax)):List Nat->Option (List (Nat×ax))
 |[]=>some []
 |k::l=>match gt g k with
  |.val τ x=>(yL g l).map fun r=>(k,.val τ x)::r
  |.d1 f q=>bif q.all HK then(yL g l).map fun r=>(k,.d1 f q)::r else none
  |_=>none
theorem Tg {g:List (Nat×ax)}:∀{l:List Nat} {r:List (Nat×ax)},yL g l=some r->∀q∈r,q.1∈l/\To q.2=true/\gt g q.1=q.2
 |[],r,h,q,aj=>by cases h;cases aj
 |k::l,r,h,q,aj=>by
  simp only[yL] at h;split at h
  ·rename_i τ x ab;obtain⟨r',hr,rfl⟩:=e1.1 h;rcases d4.1 aj with rfl|aj
   ·exact⟨nk ..,rfl,ab⟩
   ·obtain⟨J,R⟩:=Tg hr q aj;exact⟨gC _ J,R⟩
  ·rename_i f p ab;cases aa:p.all HK with
   |false=>rw[aa] at h;cases h
   |true=>
   rw[aa] at h;obtain⟨r',hr,rfl⟩:=e1.1 h;rcases d4.1 aj with rfl|aj
   ·exact⟨nk ..,aa,ab⟩
   ·obtain⟨J,R⟩:=Tg hr q aj;exact⟨gC _ J,R⟩
  ·cases h
theorem de.keep {c:Code} {st:bj} {kg r:List (Nat×ax)} {Eh:List Nat} {Q:Exit->bj->Prop} (ae:tN C kg) (hr:yL st.g Eh=some r) (h:∀n5:eb,n5.n=C.n->n5.pin=Eh++C.pin->tN n5 (r++kg)->(∀s,z6 C s->z6 n5 s)->(nf E C.I0 C.w0->nf E n5.I0 n5.w0)->de E n5 c st Q):de E C c st Q:=by
 rintro a w ⟨I,rt,fp,aq⟩ aP
 let n5:eb:={I0:=I,B:=C.B,F0:=fun b=>∃id t,aD st.h id=some t/\b∈fp id,w0:=w,n:=C.n,pin:=Eh++C.pin,vs:=fun k=>a.tmps.getD k undef}
 have eK:cx n5 st a.tmps w I rt fp:=
  {n:=aq.n,i0:=fun _ h=>h,i1:=fun _ h=>.inl h,ib:=aq.ib,tree:=fun id t ah=>⟨(aq.tree id t ah).1,(aq.tree id t ah).2.1,fun b aa=>⟨((aq.tree id t ah).2.2 b aa).1,((aq.tree id t ah).2.2 b aa).2.1,((aq.tree id t ah).2.2 b aa).2.2.1,.inr ⟨id,t,ah,aa⟩⟩⟩,dis:=aq.dis,tmp:=aq.tmp,frame:=fun _ _ _=>rfl,evo:=fun _ _=>.refl _ _,size:=bU _,os:=rfl,tape:=rfl,output:=rfl,pin:=fun k _=>rfl}
 have Sh:tN n5 (r++kg):=by
  refine⟨fun b aa=>⟨aq.ib b aa,?_⟩,fun q aj=>?_⟩
  ·rintro⟨id,t,ah,Bd⟩;obtain⟨aN,aM,_⟩:=(aq.tree id t ah).2.2 b Bd;exact aa.elim aN aM
  ·rcases fg.1 aj with aj|aj
   ·obtain⟨J,R,ac⟩:=Tg hr q aj;refine⟨fg.2 (.inl J),R,?_⟩;have:=aq.tmp q.1;rw[ac] at this;exact this.y1 (fun m b ak=>⟨ak,df.refl _ _⟩) (fun id bp=>(Tp R id bp).elim)
   ·obtain⟨J,R,ac⟩:=ae.2 q aj;refine⟨fg.2 (.inr J),R,?_⟩
    ·show cJ _ _ _ _ _ _ (a.tmps.getD q.1 undef);rw[aq.pin _ J];refine ac.y1 (fun m b ak=>?_) (fun id bp=>(Tp R id bp).elim);obtain⟨aN,aM⟩:=ae.1 b (qQ ak);refine⟨?_,df.of_heap (aq.frame b aN aM)⟩;cases m
     ·exact aq.i0 b ak
     ·exact ak.imp (aq.i0 b) id
 have D5:∀s,z6 C s->z6 n5 s:=by
  rintro(_|⟨k,f,l⟩) hs
  ·trivial
  obtain⟨fA,hx,b,o,gL,lm,r1,zo,Ji,U7⟩:=hs;refine⟨pI _ fA,fun j ao=>pI _ (hx j ao),b,o,gL,(aq.pin k fA).trans lm,jn r1 aq.size,?_,?_,?_⟩
  ·rintro⟨id,t,ah,aa⟩;rcases((aq.tree id t ah).2.2 b aa).2.2.2 with J|J
   ·omega
   ·exact zo J
  ·have aa:=aq.frame b r1 zo;rw[<-Ji];unfold World.cell?;rw[show w.heap[(⟨b,o,none⟩:Addr).block]?=C.w0.heap[(⟨b,o,none⟩:Addr).block]? from aa]
  ·rw[U7];exact kK fun j ao=>(aq.pin j (hx j ao)).symm
 refine wp_mono (h n5 rfl rfl Sh D5 (fun nB=>aq.glob ae.1 nB) a w ⟨I,rt,fp,eK⟩ aP) ?_;rintro e b9 w' ⟨cz,aj,⟨I',pu,hq,bE⟩,qz⟩;have dn:∀b,n5.F0 b->C.w0.heap.size<=b\/C.F0 b:=(by rintro b ⟨id,t,ah,aa⟩;exact((aq.tree id t ah).2.2 b aa).2.2.2);refine⟨cz,aj,⟨I',pu,hq,?_⟩,qz⟩;refine{n:=bE.n,i0:=fun b aa=>bE.i0 b (aq.i0 b aa),i1:=fun b aa=>?_,ib:=bE.ib,tree:=fun id t ah=>?_,dis:=bE.dis,tmp:=bE.tmp,frame:=fun b J R=>?_,evo:=fun b aa=>(aq.evo b aa).trans (bE.evo b (jn aa aq.size)),size:=d8 aq.size bE.size,os:=bE.os.trans aq.os,tape:=bE.tape.trans aq.tape,output:=bE.output.trans aq.output,pin:=fun k ae=>?_}
 ·rcases bE.i1 b aa with h|h|h
  ·exact aq.i1 b h
  ·exact .inr (.inl (d8 aq.size h))
  ·exact .inr (dn b h)
 ·obtain⟨aN,aM,bb⟩:=bE.tree id t ah;refine⟨aN,aM,fun b aa=>?_⟩;obtain⟨b2,bo,a5,bw⟩:=bb b aa;refine⟨b2,bo,a5,?_⟩;rcases bw with h|h
  ·exact .inl (d8 aq.size h)
  ·exact dn b h
 ·refine(bE.frame b (jn J aq.size) ?_).trans (aq.frame b J R);intro aH;rcases dn b aH with h|h
  ·omega
  ·exact R h
 ·rw[bE.pin k (fg.2 (.inr ae))];exact aq.pin k ae
end
end
structure b7 where
 d:Option (Nat×ax)
 S:List Nat
 keep:List (Nat×List bB)
 put:List (Nat×a6)
def qN (S:List Nat) (keep:List (Nat×List bB)) (g:List (Nat×ax)):List (Nat×ax):=match S with
 |[]=>g
 |_=>kill S keep g
def vU (S:List Nat) (h:List (Nat×a6)):List (Nat×a6):=match S with
 |[]=>h
 |_=>del S h
def b7.app (e:b7) (st:bj):bj:=⟨match e.d with
 |some q=>q::qN e.S e.keep st.g
 |none=>qN e.S e.keep st.g,e.put++vU e.S st.h⟩
theorem arb (keep:List (Nat×List bB)) (a:ax):e8 [] keep a=a:=by
 have aa:∀a,ef [] keep a=a:=fun a=>(by have:(a.ids.any fun i=>dS i [])=false:=(by rw[CP];intro i _;simp[dS]);simp only[ef,ax.eG,this,Bool.false_and,cond_false]);cases a with
 |ei l=>simp only[e8,kK (fun a _=>aa a),List.map_id']
 |_=>exact aa _
theorem abd (keep:List (Nat×List bB)):∀g:List (Nat×ax),kill [] keep g=g
 |[]=>rfl
 |(k,a)::g=>by have:=abd keep g;simp only[kill,ff,arb] at this|-;rw[this]
theorem Yd:∀h:List (Nat×a6),del [] h=h
 |[]=>rfl
 |x::h=>by have:=Yd h;simp only[del] at this|-;rw[nj,if_pos (by simp[dS]),this]
theorem uL (S:List Nat) (keep:List (Nat×List bB)) (g:List (Nat×ax)):qN S keep g=kill S keep g:=by
 cases S
 ·exact(abd keep g).symm
 ·rfl
theorem AM (S:List Nat) (h:List (Nat×a6)):vU S h=del S h:=by
 cases S
 ·exact(Yd h).symm
 ·rfl
def xi {aT:Type} (tt:List (TypeId×au)) (h:List (Nat×a6)) (T:TypeId) (x v:ax) (K:b7->Option aT):Option aT:=
 match w4 h x with
 |none=>none
 |some (id,p)=>match aD h id,aD tt T with
  |some qf,some u=>match eD qf.1 p with
   |none=>none
   |some τ'=>bif bI u τ' then match v with
    |.ref c2 eu=>match aD h c2 with
     |some zJ=>bif Nat.beq id c2 then none else(il zJ.1 zJ.2 eu τ').bind fun y=>(pw qf.1 qf.2 p τ' y).bind fun h8=>K ⟨none,[id,c2],[(id,p)],[(id,⟨qf.1,h8⟩)]⟩
     |none=>none
    |.app c2 eu σ aW own=>match iA (τ:=.osl σ) τ' aW with
     |some _=>bif Nat.beq c2 id&&nU eu p then(il qf.1 qf.2 p (.osl σ)).bind fun xs=>(pw qf.1 qf.2 p (.osl σ) (xs++aW)).bind fun h8=>K ⟨none,id::own,[(id,p)],[(id,⟨qf.1,h8⟩)]⟩ else none
     |none=>none
    |v=>match coe τ' v with
     |some y=>(pw qf.1 qf.2 p τ' y).bind fun h8=>K ⟨none,[id],[(id,p)],[(id,⟨qf.1,h8⟩)]⟩
     |none=>none
   else none
  |_,_=>none
theorem ayQ {aT:Type} {r:aT} {K:b7->Option aT} {tt:List (TypeId×au)} {st:bj} {T:TypeId} {x v:ax} {Q:bj->Prop} (h:xi tt st.h T x v K=some r) (aj:∀e,K e=some r->Q (e.app st)):(OZ tt st T x v).K Q:=by
 unfold xi at h;unfold OZ;split at h
 ·cases h
 rename_i id p aw;rw[aw];simp only;split at h
 case h_2=>cases h
 rename_i qf u ah bm;obtain⟨τ,z⟩:=qf;rw[ah,bm];simp only at h|-;split at h
 ·cases h
 rename_i τ' mf;rw[mf];simp only;cases aa:bI u τ' with
 |false=>rw[aa] at h;cases h
 |true=>
 rw[aa] at h;simp only[cond_true] at h|-;split at h
 ·rename_i c2 eu;split at h
  case h_2=>cases h
  rename_i zJ lc;obtain⟨gA,dU⟩:=zJ;cases mN:Nat.beq id c2 with
  |true=>rw[mN] at h;cases h
  |false=>
  rw[mN] at h;obtain⟨y,aB,h⟩:=dA.1 h;obtain⟨h8,a2,h⟩:=dA.1 h;simp only[lc,mN,cond_false];exact⟨(y,h8),⟨jy aB,qd a2⟩,aj _ h⟩
 ·rename_i c2 eu σ aW own;split at h
  case h_2=>cases h
  rename_i y aB;cases l5 aB;cases mN:(Nat.beq c2 id&&nU eu p) with
  |false=>rw[mN] at h;cases h
  |true=>
  rw[mN] at h;simp only[bW] at mN;obtain⟨xs,ab,h⟩:=dA.1 h;obtain⟨h8,a2,h⟩:=dA.1 h;simp only[dif_pos];exact⟨(xs,h8),⟨fi mN.1,nU.ok mN.2,jy ab,qd a2⟩,aj _ h⟩
 ·rename_i v J R;split at h
  case h_2=>cases h
  rename_i y aB;obtain⟨h8,a2,h⟩:=dA.1 h;split
  ·rename_i c2 eu;exact(J c2 eu rfl).elim
  ·rename_i c2 eu σ aW own;exact(R c2 eu σ aW own rfl).elim
  ·rw[aB];exact⟨h8,qd a2,aj _ h⟩
def na (h:List (Nat×a6)) (σ:au) (y:ax):Option (List σ.den):=
 match y with
 |.val (.bM _ t) aW=>iA (τ:=.osl t) (.osl σ) aW
 |.dh (.slice none 0 0)=>some []
 |.ref id p=>match aD h id with
  |some cg=>bif σ.pure then il cg.1 cg.2 p (.osl σ) else none
  |none=>none
 |.view id p lo hi=>match aD h id with
  |some cg=>bif σ.pure then(il cg.1 cg.2 p (.osl σ)).bind fun aW=>some ((aW.take hi).drop lo) else none
  |none=>none
 |_=>none
def oa.Py {σ:au} (r:oa σ) (aW:List σ.den):Prop:=
 match r with
 |.eh z=>z=aW
 |.part _ jk f=>∃q,jk q/\f q=aW
 |.bad=>False
theorem JP {h:List (Nat×a6)} {σ:au} {y:ax} {aW:List σ.den} (aB:na h σ y=some aW):(xx h σ y).Py aW:=by
 unfold na at aB;unfold xx;split at aB
 ·rename_i m t zs;cases l5 aB;simp only[dif_pos];rfl
 ·cases aB;rfl
 ·rename_i id p;split at aB
  case h_2=>cases aB
  rename_i cg ah;obtain⟨τ,x⟩:=cg;simp only[ah];cases aw:σ.pure with
  |false=>rw[aw] at aB;cases aB
  |true=>rw[aw] at aB;exact⟨aW,jy aB,rfl⟩
 ·rename_i id p lo hi;split at aB
  case h_2=>cases aB
  rename_i cg ah;obtain⟨τ,x⟩:=cg;simp only[ah];cases aw:σ.pure with
  |false=>rw[aw] at aB;cases aB
  |true=>
   rw[aw] at aB;obtain⟨zs,a2,aB⟩:=dA.1 aB;cases aB;exact⟨zs,jy a2,rfl⟩
 ·cases aB
theorem oa.Py.to {σ:au} {r:oa σ} {aW:List σ.den} (h:r.Py aW) {g:Nat->Prop} {f:List σ.den->bj} {Q:bj->Prop} (aG:g aW.length) (aj:Q (f aW)):(r.to g f).K Q:=by
 cases r with
 |eh z=>obtain rfl:z=aW:=h;exact⟨(),aG,aj⟩
 |part α jk k=>obtain⟨q,J,rfl⟩:=h;exact⟨q,⟨J,aG⟩,aj⟩
 |bad=>exact h.elim
def sv {aT:Type} (tt:List (TypeId×au)) (an:List (Nat×au)) (h:List (Nat×a6)) (d:Nat) (T:TypeId) (x y:ax) (K:b7->Option aT):Option aT:=
 match gr tt T with
 |none=>none
 |some u=>
   match x with
  |.ref id []=>match aD h id with
   |some ⟨.osl σ,xs⟩=>bif bI u σ&&Nat.ble σ.size 1300 then
     match σ.pure with
     |true=>(na h σ y).bind fun aW=>(di (xs.length+aW.length)).bind fun _=>K ⟨some (d,.ref d []),[id,d],[],[(d,⟨.osl σ,xs++aW⟩)]⟩
     |false=>match y with
      |.ref c2 []=>match aD h c2 with
       |some zJ=>match iA (.osl σ) zJ.2 with
        |some aW=>bif Nat.beq id c2 then none else(di (xs.length+List.length (α:=σ.den) aW)).bind fun _=>K ⟨some (d,.ref d []),[id,c2,d],[],[(d,⟨.osl σ,List.append (α:=σ.den) xs aW⟩)]⟩
        |none=>none
       |none=>none
      |_=>none
    else none
   |_=>none
  |.ref id p=>match aD h id,aD h d with
   |some cg,none=>match eD cg.1 p with
    |some (.osl σ)=>bif bI u σ&&Nat.ble σ.size 1300&&σ.f5 then
      (il cg.1 cg.2 p (.osl σ)).bind fun xs=>(na h σ y).bind fun aW=>(di (List.length (α:=σ.den) xs+aW.length)).bind fun _=>
       K ⟨some (d,.app id p σ aW [d]),[id],[(id,p),(id,[])],[(d,⟨.dG,()⟩),(id,cg)]⟩
     else none
    |_=>none
   |_,_=>none
  |.view id [] lo hi=>match aD h id with
   |some ⟨.osl σ,xs⟩=>bif bI u σ&&Nat.ble σ.size 1300 then
     (na h σ y).bind fun aW=>(di (List.length (α:=σ.den) ((xs.take hi).drop lo)+aW.length)).bind fun _=>K ⟨some (d,.ref d []),[id,d],[],[(d,⟨.osl σ,(xs.take hi).drop lo++aW⟩)]⟩
    else none
   |_=>none
  |.dh (.slice none 0 0)=>match aD an d with
   |some (.osl σ)=>bif bI u σ&&Nat.ble σ.size 1300 then
     (na h σ y).bind fun aW=>(di aW.length).bind fun _=>K ⟨some (d,.ref d []),[d],[],[(d,⟨.osl σ,aW⟩)]⟩
    else none
   |_=>none
  |_=>none
theorem ake {aT:Type} {r:aT} {K:b7->Option aT} {tt:List (TypeId×au)} {an:List (Nat×au)} {st:bj} {d:Nat} {T:TypeId} {x y:ax} {Q:bj->Prop} (h:sv tt an st.h d T x y K=some r) (aj:∀e,K e=some r->Q (e.app st)):(Ks tt an st d T x y).K Q:=by
 unfold sv at h;unfold Ks;split at h
 ·cases h
 rename_i u aR;rw[aR];simp only;split at h
 ·rename_i id;simp only;split at h
  case h_2=>cases h
  rename_i σ xs ah;rw[ah];simp only;cases aa:(bI u σ&&Nat.ble σ.size 1300) with
  |false=>rw[aa] at h;cases h
  |true=>
  rw[aa] at h;simp only[cond_true] at h|-;split at h
  ·rename_i aw;rw[aw];obtain⟨aW,aB,h⟩:=dA.1 h;obtain⟨_,ai,h⟩:=dA.1 h;exact(JP aB).to (Eo ai) (aj _ h)
  ·rename_i aw;rw[aw];split at h
   case h_2=>cases h
   rename_i c2;split at h
   case h_2=>cases h
   rename_i zJ lc;obtain⟨gA,dU⟩:=zJ;split at h
   case h_2=>cases h
   rename_i aW aB;cases l5 aB;cases mN:Nat.beq id c2 with
   |true=>rw[mN] at h;cases h
   |false=>
   rw[mN] at h;obtain⟨_,ai,h⟩:=dA.1 h;simp only[lc,dif_pos,mN,cond_false];exact⟨(),Eo ai,aj _ h⟩
 ·rename_i id p aw;split at h
  case h_2=>cases h
  rename_i cg ah dc;obtain⟨τ,z⟩:=cg;simp only at h;split at h
  case h_2=>cases h
  rename_i σ mf;cases aa:(bI u σ&&Nat.ble σ.size 1300&&σ.f5) with
  |false=>rw[aa] at h;cases h
  |true=>
  rw[aa] at h;obtain⟨xs,ab,h⟩:=dA.1 h;obtain⟨aW,aB,h⟩:=dA.1 h;obtain⟨_,ai,h⟩:=dA.1 h;have ai:=Eo ai;have aB:=JP aB;have ab:=jy ab;cases p with
  |nil=>exact(aw rfl).elim
  |cons s p=>
  simp only[ah,dc,mf,aa,cond_true];split
  ·rename_i zs a2;rw[a2] at aB;obtain rfl:zs=aW:=aB;exact⟨xs,⟨ab,ai⟩,aj _ h⟩
  ·rename_i α jk f a2;rw[a2] at aB;obtain⟨q,J,rfl⟩:=aB;exact⟨(xs,q),⟨ab,J,ai⟩,aj _ h⟩
  ·rename_i a2;rw[a2] at aB;exact aB.elim
 ·rename_i id lo hi;simp only;split at h
  case h_2=>cases h
  rename_i σ xs ah;rw[ah];simp only;cases aa:(bI u σ&&Nat.ble σ.size 1300) with
  |false=>rw[aa] at h;cases h
  |true=>
  rw[aa] at h;simp only[cond_true] at h|-;obtain⟨aW,aB,h⟩:=dA.1 h;obtain⟨_,ai,h⟩:=dA.1 h;exact(JP aB).to (Eo ai) (aj _ h)
 ·simp only;split at h
  case h_2=>cases h
  rename_i σ oo;rw[oo];simp only;cases aa:(bI u σ&&Nat.ble σ.size 1300) with
  |false=>rw[aa] at h;cases h
  |true=>
  rw[aa] at h;simp only[cond_true] at h|-;obtain⟨aW,aB,h⟩:=dA.1 h;obtain⟨_,ai,h⟩:=dA.1 h;exact(JP aB).to (Eo ai) (aj _ h)
 ·cases h
def t8 (an:List (Nat×au)) (h:List (Nat×a6)) (d:Nat) (v:ax):Option b7:=
 match v with
 |.ref id []=>match aD h id with
  |some t=>some ⟨some (d,.ref d []),[id,d],[],[(d,t)]⟩
  |none=>none
 |.ref id p=>bif Nat.beq id d then none else some ⟨some (d,.ref id p),[d],[],[]⟩
 |.view id [] lo hi=>match aD h id with
  |some ⟨.osl t,xs⟩=>some ⟨some (d,.ref d []),[id,d],[],[(d,⟨.osl t,(xs.take hi).drop lo⟩)]⟩
  |_=>none
 |.dh (.slice none 0 0)=>match aD an d with
  |some (.osl t)=>some ⟨some (d,.ref d []),[d],[],[(d,⟨.osl t,[]⟩)]⟩
  |_=>none
 |_=>none
theorem ako {an:List (Nat×au)} {st:bj} {d:Nat} {v:ax} {e:b7} {Q:bj->Prop} (h:t8 an st.h d v=some e) (aj:Q (e.app st)):(Ku an st d v).K Q:=by
 unfold t8 at h;unfold Ku;split at h
 ·split at h
  ·rename_i t ah;cases h;simp only[ah];exact aj
  ·cases h
 ·rename_i id p aw;cases aa:Nat.beq id d with
  |true=>rw[aa] at h;cases h
  |false=>
  rw[aa] at h;cases h;cases p with
  |nil=>exact(aw rfl).elim
  |cons s p=>simp only[aa,cond_false];exact aj
 ·split at h
  ·rename_i t xs ah;cases h;simp only[ah];exact aj
  ·cases h
 ·split at h
  ·rename_i t ah;cases h;simp only[ah];exact aj
  ·cases h
 ·cases h
section
section
variable {E:eV} {C:eb} {st:bj} {a:Act} {w w':World} {I:Nat->Prop} {rt:Nat->List Value} {fp:Nat->List Nat} {o:Oper} {Q:bj->Prop}
theorem d9.own {S:List Nat} {t:a6} {cs:List Value} {f:List Nat} {d:Nat} {v:Value} {next:Act->World->Prop} {X:Exit->Act->World->Prop} (aP:o.dst=some d) (dc:C.ok d) (aq:cx C st a.tmps w I rt fp) (et:∀cz b9 w',Q cz->b9.defers=a.defers->gD C cz b9.tmps w'->next b9 w') (Hg:d∈S\/aD st.h d=none) (eP:(execOp a.eval o).run E.P w=.ok (.value v) w') (aG:it w w') (hv:v=cQ t.1 cs) (hr:br (bP I C.B) w' t.1 cs t.2 f) (aH:f.Nodup) (aa:∀b∈f,(w.heap.size<=b/\b<w'.heap.size)\/∃gq∈S,∃t',aD st.h gq=some t'/\b∈fp gq) (aj:Q ⟨(d,.ref d [])::kill S [] st.g,(d,t)::del S st.h⟩):o.wp E.P a w next X:=by
 have aR:=aq.fO (qo.one (st:=st) (C:=C) (rt:=rt) (w':=w') (I':=I) (S:=S) (d:=d) (t:=t) (cs:=cs) (f:=f) Hg aG.size aG.os aG.tape aG.output (fun b aa _=>aG.heap b aa) (fun b aa=>(df.of_heap (aG.heap b aa)).2) (fun _ h=>h) (fun _ h=>.inl h) hr aH (fun b cZ=>by
  rcases aa b cZ with⟨J,R⟩|⟨i,hi,u,aR,hZ⟩
  ·exact⟨fun h=>by have:=aq.ib b (.inl h);omega,R,.inl J⟩
  ·obtain⟨aN,aM,bb,bH⟩:=(aq.tree i u aR).2.2 b hZ;exact⟨aN,jn bb aG.size,.inr ⟨i,hi,u,aR,hZ⟩⟩))
 unfold Oper.wp;rw[eP];show next (a.put o.dst v) w'
 rw[aP];refine et _ _ _ aj rfl ⟨_,_,_,aR.put dc (av:=.ref d []) ?_⟩;rw[hv];refine .ref (t:=t) (loc:=none) (by rw[lL,dq,if_pos rfl];rfl) ?_;rw[N2];exact bv.here
def EK (h:List (Nat×a6)) (a:au):ax->Option (a6×List Nat)
 |.val τ y=>bif bI a τ then some (⟨τ,y⟩,[]) else none
 |.dh v=>match jT a v.cells.toList with
  |some y=>some (⟨a,y⟩,[])
  |none=>none
 |.ref id []=>match aD h id with
  |some t=>bif bI a t.1 then some (t,[id]) else none
  |none=>none
 |_=>none
theorem adn {P:Program} {M:dE->Nat->Prop} {h:List (Nat×a6)} (ay:∀id t,aD h id=some t->br M w t.1 (rt id) t.2 (fp id)) {a:au} {T:TypeId} (bm:eB P a T) {av:ax} {v:Value} (hv:cJ M w h rt fp av v) {t:a6} {ids:List Nat} (aw:EK h a av=some (t,ids)):br M w t.1 v.cells.toList t.2 (ids.map fp).flatten/\t.1.size=a.size/\∀id∈ids,∃u,aD h id=some u:=by
 unfold EK at aw;split at aw
 ·rename_i τ y;cases aa:bI a τ with
  |false=>rw[aa] at aw;cases aw
  |true=>
   rw[aa] at aw;cases aw;cases hv with|val r=>
   rw[tr (bm.lay aa) r.len r.one];exact⟨r,(bI.size aa).symm,by simp⟩
 ·rename_i ew;split at aw
  ·rename_i y aB;cases aw;cases hv;exact⟨ud aB,rfl,by simp⟩
  ·cases aw
 ·rename_i id;split at aw
  ·rename_i t' ah;cases aa:bI a t'.1 with
   |false=>rw[aa] at aw;cases aw
   |true=>
    rw[aa] at aw;cases aw;cases hv with|ref bC ag=>
    rw[ah] at bC;cases bC;obtain⟨rfl,rfl,rfl⟩:=bv.f6.1 ag;have r:=ay id _ ah;rw[tr (bm.lay aa) r.len r.one];refine⟨by simpa using r,(bI.size aa).symm,?_⟩;intro i hi;rw[fh] at hi;subst hi;exact⟨_,ah⟩
  ·cases aw
 ·cases aw
def p1 (h:List (Nat×a6)) (g:Operand->ax) (parts:List (Nat×Operand)):au->Nat->Option (a6×List Nat)
 |.pr a b,n=>
  match(match oz parts n with
   |none=>match oF a with
    |some z=>some ((⟨a,z⟩:a6),([]:List Nat))
    |none=>none
   |some x=>EK h a (g x)),p1 h g parts b (n+1) with
  |some x,some y=>some (⟨.pr x.1.1 y.1.1,(x.1.2,y.1.2)⟩,x.2++y.2)
  |_,_=>none
 |.nil,_=>some (⟨.nil,()⟩,[])
 |_,_=>none
theorem abT {P:Program} {M:dE->Nat->Prop} {h:List (Nat×a6)} (ay:∀id t,aD h id=some t->br M w t.1 (rt id) t.2 (fp id)) {g:Operand->ax} {iB:Operand->Value} (aG:∀x,cJ M w h rt fp (g x) (iB x)) {parts:List (Nat×Operand)} {cells:List Value}:∀{u:au} {n:Nat} {fs:List Field} {off:Nat} {zs:List Value} {t:a6} {ids:List Nat},jL P u fs off zs->p1 h g parts u n=some (t,ids)->cells.length=off+u.size->(∀m s τ,eO u m=some (s,τ)->(∀x,oz parts (n+m)=some x->(iB x).cells.size=τ.size/\(cells.drop (off+d5 u m)).take τ.size=(iB x).cells.toList)/\(oz parts (n+m)=none->(cells.drop (off+d5 u m)).take τ.size=(zs.drop (d5 u m)).take τ.size))->br M w t.1 (cells.drop off) t.2 (ids.map fp).flatten/\t.1.size=u.size/\∀id∈ids,∃u,aD h id=some u
 |.pr a b,n,f::r,off,zs,t,ids,dn,ak,ai,hc=>by
  simp only[p1] at ak;split at ak
  case h_2=>cases ak
  rename_i x y ab aB;cases ak;obtain⟨J,R,ac,⟨i,z,aN,aM,bb⟩,aY⟩:=dn;have o7:=hc 0 _ a rfl;simp only[ql,d5,qh] at o7;have dY:br M w x.1.1 ((cells.drop off).take a.size) x.1.2 (x.2.map fp).flatten/\x.1.1.size=a.size/\∀id∈x.2,∃u,aD h id=some u:=by
   split at ab
   ·rename_i aw;split at ab
    ·rename_i h8 a2;cases ab;obtain⟨lf,iN,b2,bo,_,bw⟩:=CH R a2;rw[aN] at b2;cases b2;rw[aM] at bo;cases bo;rw[o7.2 aw,bb];exact⟨bw M w,rfl,by simp⟩
    ·cases ab
   ·rename_i p aw;obtain⟨bk,bD⟩:=o7.1 p aw;rw[bD];exact adn ay R (aG p) ab
  have dZ:=abT ay aG (parts:=parts) (cells:=cells) (u:=b) (n:=n+1) (off:=off+a.size) (zs:=zs.drop a.size) (t:=y.1) (ids:=y.2) aY aB (by rw[ai];simp only[au.size];omega) (by
   intro m s τ hs;have:=hc (m+1) (.snd::s) τ (by simp[eO,hs]);simp only[d5] at this;rw[show n+(m+1)=n+1+m by omega,show off+(a.size+d5 b m)=off+a.size+d5 b m by omega] at this;rw[tP];exact this)
  refine⟨⟨(x.2.map fp).flatten,(y.2.map fp).flatten,by simp,?_,?_⟩,by simp only[au.size];omega,?_⟩
  ·rw[dY.2.1];exact dY.1
  ·rw[dY.2.1,tP];exact dZ.1
  ·intro id bp;rcases fg.1 bp with bp|bp
   ·exact dY.2.2 id bp
   ·exact dZ.2.2 id bp
 |.nil,n,[],off,zs,t,ids,dn,ak,ai,hc=>by cases ak;exact⟨⟨rfl,by rw[List.drop_eq_nil_iff];simp only[au.size] at ai;omega⟩,rfl,by simp⟩
 |.pr _ _,_,[],_,_,_,_,h,_,_,_=>h.elim
 |.nil,_,_::_,_,_,_,_,h,_,_,_=>h.elim
 |.int _,_,_,_,_,_,_,h,_,_,_=>by cases h
 |.bool,_,_,_,_,_,_,h,_,_,_=>by cases h
 |.str,_,_,_,_,_,_,h,_,_,_=>by cases h
 |.bM _ _,_,_,_,_,_,_,h,_,_,_=>by cases h
 |.osl _,_,_,_,_,_,_,h,_,_,_=>by cases h
 |.ptr _ _,_,_,_,_,_,_,h,_,_,_=>by cases h
 |.optr _,_,_,_,_,_,_,h,_,_,_=>by cases h
 |.st _,_,_,_,_,_,_,h,_,_,_=>by cases h
 |.dG,_,_,_,_,_,_,h,_,_,_=>by cases h
theorem abU {P:Program} {M:dE->Nat->Prop} {h:List (Nat×a6)} (ay:∀id t,aD h id=some t->br M w t.1 (rt id) t.2 (fp id)) {g:Operand->ax} {iB:Operand->Value} (aG:∀x,cJ M w h rt fp (g x) (iB x)) {parts:List (Nat×Operand)}:∀{u:au} {n:Nat} {fs:List Field} {off:Nat} {zs:List Value} {t:a6} {ids:List Nat},jL P u fs off zs->p1 h g parts u n=some (t,ids)->∀m s τ,eO u m=some (s,τ)->∀x,oz parts (n+m)=some x->(iB x).cells.size=τ.size
 |.pr a b,n,f::r,off,zs,t,ids,dn,ak,m,s,τ,hs,x,aw=>by
  simp only[p1] at ak;split at ak
  case h_2=>cases ak
  rename_i ko fP ab aB;obtain⟨J,R,ac,⟨i,z,aN,aM,bb⟩,aY⟩:=dn;cases m with
  |zero=>
   simp only[eO,cS,gX] at hs;obtain⟨_,rfl⟩:=hs;rw[ql] at aw;rw[aw] at ab;obtain⟨bk,bD,_⟩:=adn (t:=ko.1) (ids:=ko.2) ay R (aG x) ab;have:=bk.len;rw[bD] at this;simpa using this
  |succ m=>
   simp only[eO] at hs;split at hs
   ·rename_i q aj;simp only[cS,gX] at hs;obtain⟨_,rfl⟩:=hs;exact abU ay aG (u:=b) (n:=n+1) (t:=fP.1) (ids:=fP.2) aY aB m q.1 q.2 aj x (by rwa[show n+1+m=n+(m+1) by omega])
   ·cases hs
 |.pr _ _,_,[],_,_,_,_,h,_,_,_,_,_,_,_=>h.elim
 |.nil,_,_,_,_,_,_,_,_,_,_,_,hs,_,_=>by cases hs
 |.int _,_,_,_,_,_,_,h,_,_,_,_,_,_,_=>by cases h
 |.bool,_,_,_,_,_,_,h,_,_,_,_,_,_,_=>by cases h
 |.str,_,_,_,_,_,_,h,_,_,_,_,_,_,_=>by cases h
 |.bM _ _,_,_,_,_,_,_,h,_,_,_,_,_,_,_=>by cases h
 |.osl _,_,_,_,_,_,_,h,_,_,_,_,_,_,_=>by cases h
 |.ptr _ _,_,_,_,_,_,_,h,_,_,_,_,_,_,_=>by cases h
 |.optr _,_,_,_,_,_,_,h,_,_,_,_,_,_,_=>by cases h
 |.st _,_,_,_,_,_,_,h,_,_,_,_,_,_,_=>by cases h
 |.dG,_,_,_,_,_,_,h,_,_,_,_,_,_,_=>by cases h
theorem akU {T:TypeId} {parts:Array (Nat×Operand)} (aJ:o.op=.build T parts) {fB u:au} (bm:nN E.tt T=some fB) (pc:bI fB u=true\/fB=u) (dg:ph parts.toList 0=true) (dF:∀q∈parts.toList,Nat.blt q.1 (f4 u)=true) (el:∀m s τ,eO u m=some (s,τ)->∀x,oz parts.toList m=some x->(a.eval x).cells.size=τ.size):∃fs zs r,jL E.P u fs 0 zs/\(execOp a.eval o).run E.P w=.ok (.value (.agg r)) w/\r.toList.length=u.size/\(∀m s τ,eO u m=some (s,τ)->(∀x,oz parts.toList (0+m)=some x->(a.eval x).cells.size=τ.size/\(r.toList.drop (0+d5 u m)).take τ.size=(a.eval x).cells.toList)/\(oz parts.toList (0+m)=none->(r.toList.drop (0+d5 u m)).take τ.size=(zs.drop (d5 u m)).take τ.size)):=by
 obtain⟨i,fs,zs,J,R,aL,aY,bG,eF⟩:∃i fs zs,E.P.info? T=some i/\i.size=u.size/\i.zero=some (.agg zs)/\E.P.underlying T=some (.struct fs)/\jL E.P u fs.toList 0 zs.toList/\zs.size=u.size:=by
  unfold nN at bm;split at bm
  ·rename_i i4 ai;cases bm;obtain⟨_,i,fs,zs,aN,aM,_,bH,dv,p9,B3⟩:=E.ok T _ ai;rcases pc with pc|rfl
   ·have hs:=bI.size pc;exact⟨i,fs,zs,aN,by rw[<-hs];exact aM,bH,dv,jL.lay pc p9,by rw[<-hs];exact B3⟩
   ·exact⟨i,fs,zs,aN,aM,bH,dv,p9,B3⟩
  ·cases bm
 have nJ:=run_places (P:=E.P) w u fs.toList 0 zs.toList bG;simp only[kN] at nJ;generalize Sy:((List.range (f4 u)).map fun n=>(d5 u n,match eO u n with|some q=>q.2.size|none=>0))=B0 at nJ;have sZ:∀n s τ,eO u n=some (s,τ)->n<f4 u->B0.toArray[n]?=some (d5 u n,τ.size):=(by intro n s τ hs ag;rw[<-Sy];simp[ag,hs]);obtain⟨r,b2,bo,a5,bw⟩:=G1 (fun i=>B0.toArray[i]?) (parts.toList.map fun q=>(q.1,a.eval q.2)) zs (by
  intro q aj;obtain⟨p,aw,rfl⟩:=dz.1 aj;have ca:p.1<f4 u:=fQ (dF p aw);obtain⟨s,τ,hs⟩:=wU bG p.1 ca;refine⟨_,_,sZ _ _ _ hs ca,el _ _ _ hs p.2 ?_,by rw[eF];exact DF hs⟩;exact SX dg aw) (by
  rw[CS];refine(SY dg).imp_of_mem ?_;intro q f7 aj fN ca hu fA kZ hx aA aX;have dp:q.1<f4 u:=fQ (dF q aj);have l2:f7.1<f4 u:=fQ (dF f7 fN);obtain⟨Vd,ta,aC⟩:=wU bG q.1 dp;obtain⟨ayo,tb,aa⟩:=wU bG f7.1 l2;rw[sZ _ _ _ aC dp] at aA;rw[sZ _ _ _ aa l2] at aX;cases aA;cases aX;exact .inl (A5 aC aa ca))
 have rK:r.toList.length=u.size:=(by simp[bo,eF]);refine⟨fs.toList,zs.toList,r,bG,?_,rK,?_⟩
 ·have rJ:(Array.map (fun x=>(x.fst,a.eval x.snd)) parts).toList=parts.toList.map fun q=>(q.1,a.eval q.2):=(by simp);have Sx:(fs.mapM fun f=>do Pure.pure (f.offset,<-sizeOf f.type):Sem (Array aCv)).run E.P w=.ok B0.toArray w:=by
   rw[Array.mapM_eq_mapM_toList,Sem.run_map,nJ];rfl
  have a2:(zeroValue T).run E.P w=.ok (.agg zs) w:=(by simp[zeroValue,typeInfo,J,aL]);simp only[execOp,aJ,Instr.build,Sem.run_bind,a2,run_underlying aY,Result.andThen_ok,Sx,rJ,Value.cells,b2];rfl
 ·intro m s τ hs;have ak:m<f4 u:=Rl hs;simp only[kN];have fb:=DF hs;refine⟨fun x ab=>?_,fun ab=>?_⟩
  ·have kk:=If ab;have a2:=el m s τ hs x ab;refine⟨a2,?_⟩;apply jN;intro j;rcases ct j τ.size with ao|ao
   ·obtain⟨v,hv⟩:∃v,(a.eval x).cells[j]?=some v:=⟨_,Fk (by omega)⟩;have:=bw (m,a.eval x) (dz.2 ⟨(m,x),kk,rfl⟩) _ _ (sZ _ _ _ hs ak) j v hv;rw[pH ao,n6];simp only[CI];rw[this,hv]
   ·rw[gW (by simp;omega),gW (by simp;omega)]
  ·apply jN;intro j;rcases ct j τ.size with ao|ao
   ·rw[pH ao,pH ao,n6,n6];simp only[CI];refine a5 _ ?_;intro q aj hu fA aA;obtain⟨p,aw,rfl⟩:=dz.1 aj;have cX:=Tv ab p aw;have dp:p.1<f4 u:=fQ (dF p aw);obtain⟨Vd,ta,aC⟩:=wU bG p.1 dp;rw[sZ _ _ _ aC dp] at aA;cases aA;rcases Nat.lt_or_gt_of_ne cX with ca|Hk
    ·have:=A5 aC hs ca;omega
    ·have:=A5 hs aC Hk;omega
   ·rw[gW (by simp;omega),gW (by simp;omega)]
theorem cx.dR {b3:Array Value} (aq:cx C st b3 w I rt fp):∀{ids:List Nat},ids.Nodup->(∀id∈ids,∃u,aD st.h id=some u)->(ids.map fp).flatten.Nodup
 |[],_,_=>by simp
 |i::ids,ag,ay=>by obtain⟨J,R⟩:=mB.1 ag;obtain⟨u,aR⟩:=ay i (by simp);simp only[ff,lu];refine kL.2 ⟨(aq.tree i u aR).2.1,cx.dR aq R (fun id bp=>ay id (by simp[bp])),fun b aa c hc e=>?_⟩;subst e;obtain⟨l,ai,yr⟩:=lw.1 hc;obtain⟨j,ao,rfl⟩:=dz.1 ai;obtain⟨v,hv⟩:=ay j (by simp[ao]);exact aq.dis i j u v aR hv (fun e=>J (e▸ao)) b aa yr
theorem TG {ids:List Nat} {b:Nat} (aa:b∈(ids.map fp).flatten):∃id∈ids,b∈fp id:=by obtain⟨l,ai,yr⟩:=lw.1 aa;obtain⟨j,ao,rfl⟩:=dz.1 ai;exact⟨j,ao,yr⟩
def xZ {aT:Type} (tt:List (TypeId×au)) (an:List (Nat×au)) (h:List (Nat×a6)) (g:Operand->ax) (d:Nat) (T:TypeId) (parts:List (Nat×Operand)) (K:b7->Option aT):Option aT:=
 match nN tt T with
 |none=>none
 |some u=>match aD an d with
  |some (.st i4)=>bif bI u i4&&(ph parts 0&&parts.all (fun q=>Nat.blt q.1 (f4 i4))) then match aD h d,p1 h g parts i4 0 with
    |none,some (t,ids)=>bif kF ids then K ⟨some (d,.ref d []),ids,[],[(d,⟨.st t.1,t.2⟩)]⟩ else none
    |_,_=>none
   else none
  |
   _=>bif ph parts 0&&parts.all (fun q=>Nat.blt q.1 (f4 u)) then match uP g parts u 0 with
   |some t=>K ⟨some (d,.val (.st t.1) t.2),[],[],[]⟩
   |none=>match aD h d,p1 h g parts u 0 with
    |none,some (t,ids)=>bif kF ids then K ⟨some (d,.ref d []),ids,[],[(d,⟨.st t.1,t.2⟩)]⟩ else none
    |_,_=>none
   else none
theorem Xz {aT:Type} {r:aT} {K:b7->Option aT} {d:Nat} {T:TypeId} {parts:Array (Nat×Operand)} (aJ:o.op=.build T parts) (aP:o.dst=some d) (dc:C.ok d) {fB u:au} (bm:nN E.tt T=some fB) (pc:bI fB u=true\/fB=u) (aa:(ph parts.toList 0&&parts.toList.all (fun q=>Nat.blt q.1 (f4 u)))=true) (h:(match aD st.h d,p1 st.h (bu st.g) parts.toList u 0 with
  |none,some (t,ids)=>bif kF ids then K ⟨some (d,.ref d []),ids,[],[(d,⟨.st t.1,t.2⟩)]⟩ else none
  |_,_=>none)=some r)
 (aj:∀e,K e=some r->Q (e.app st)):d9 E C o st Q:=by
 split at h
 case h_2=>cases h
 rename_i t ids Bh ah;cases eA:kF ids with
 |false=>rw[eA] at h;cases h
 |true=>
 rw[eA] at h;simp only[bW,fM] at aa;obtain⟨dg,dF⟩:=aa;rintro a w ⟨I,rt,fp,aq⟩ next X et
 have ay:∀id t,aD st.h id=some t->br (bP I C.B) w t.1 (rt id) t.2 (fp id):=fun id t ah=>(aq.tree id t ah).1;obtain⟨fs,zs,ll,dn,eP,rK,hc⟩:=akU (a:=a) (w:=w) aJ bm pc dg dF (by
  obtain⟨fs,zs,_,q⟩:=nN.ok bm;intro m s τ hs x aw;exact abU ay (fun x=>aq.bu x) (pc.elim (fun h=>jL.lay h q) (fun h=>h▸q)) ah m s τ hs x (by rwa[kN]))
 obtain⟨bS,bt,cY⟩:=abT ay (fun x=>aq.bu x) (cells:=ll.toList) dn ah (by omega) hc;rw[qh] at bS;refine d9.own (S:=ids) (t:=⟨.st t.1,t.2⟩) (cs:=ll.toList) (f:=(ids.map fp).flatten) aP dc aq et (.inr Bh) eP (it.refl w) rfl bS (aq.dR (kF.ok eA) cY) (fun b aa=>?_) ?_
 ·obtain⟨id,bp,aa⟩:=TG aa;obtain⟨u,aR⟩:=cY id bp;exact .inr ⟨id,bp,u,aR,aa⟩
 ·have:=aj _ h;rw[show(b7.mk (some (d,.ref d [])) ids [] [(d,⟨.st t.1,t.2⟩)]).app st=⟨(d,.ref d [])::kill ids [] st.g,(d,⟨.st t.1,t.2⟩)::del ids st.h⟩ by
   show bj.mk ((d,_)::qN ids [] st.g) ([_]++vU ids st.h)=_;rw[uL,AM];rfl] at this
  exact this
theorem akE {aT:Type} {r:aT} {K:b7->Option aT} {d:Nat} {T:TypeId} {parts:Array (Nat×Operand)} {an:List (Nat×au)} (aJ:o.op=.build T parts) (aP:o.dst=some d) (dc:C.ok d) (h:xZ E.tt an st.h (bu st.g) d T parts.toList K=some r) (aj:∀e,K e=some r->Q (e.app st)):d9 E C o st Q:=by
 unfold xZ at h;split at h
 ·cases h
 rename_i u bm;split at h
 ·rename_i i4 oo;cases aa:(bI u i4&&(ph parts.toList 0&&parts.toList.all (fun q=>Nat.blt q.1 (f4 i4)))) with
  |false=>rw[aa] at h;cases h
  |true=>
  rw[aa] at h;simp only[cond_true] at h;have cZ:=aa;rw[bW] at cZ;exact Xz aJ aP dc bm (.inl cZ.1) cZ.2 h aj
 cases aa:(ph parts.toList 0&&parts.toList.all (fun q=>Nat.blt q.1 (f4 u))) with
 |false=>rw[aa] at h;cases h
 |true=>
 rw[aa] at h;simp only[cond_true] at h;split at h
 ·rename_i t ah;refine d9.eval (an:=[]) aP dc ?_;rw[aJ];simp only[gR,FM,bm,aa,cond_true,ah];exact aj _ h
 exact Xz aJ aP dc bm (.inr rfl) aa h aj
def Al {aT:Type} (tt:List (TypeId×au)) (an:List (Nat×au)) (h:List (Nat×a6)) (d:Nat) (T:TypeId) (x:ax) (K:b7->Option aT):Option aT:=
 match aD tt T,aD h d with
 |some u,none=>match x with
  |.val τ x=>bif bI u τ then match aD an d with
    |some (.ptr .cL _)=>K ⟨some (d,.val (.ptr .cL τ) (some x)),[],[],[]⟩
    |_=>K ⟨some (d,.ref d []),[],[],[(d,⟨.optr τ,x⟩)]⟩
   else none
  |.ref id []=>match aD h id with
   |some t=>bif bI u t.1 then K ⟨some (d,.ref d []),[id],[],[(d,⟨.optr t.1,t.2⟩)]⟩ else none
   |none=>none
  |_=>none
 |_,_=>none
theorem akN {aT:Type} {r:aT} {K:b7->Option aT} {an:List (Nat×au)} {d:Nat} {T:TypeId} {x:Operand} (aJ:o.op=.box T x) (aP:o.dst=some d) (dc:C.ok d) (h:Al E.tt an st.h d T (bu st.g x) K=some r) (aj:∀e,K e=some r->Q (e.app st)):d9 E C o st Q:=by
 unfold Al at h;split at h
 case h_2=>cases h
 rename_i u bm Bh;split at h
 ·rename_i τ y ex;cases aa:bI u τ with
  |false=>rw[aa] at h;cases h
  |true=>
  rw[aa] at h;simp only[cond_true] at h;split at h
  ·rintro a w ⟨I,rt,fp,aq⟩ next X et
   have ab:=aq.bu x;rw[ex] at ab;have aH:=(E.ok T u bm).lay aa;generalize hv:a.eval x=v at ab;cases ab with|val ll=>
   rename_i cs;have bF:∀m b,bP I C.B m b->df w (w.alloc (.cells cs.toArray T)) b:=fun m b aa=>.of_heap ((it.alloc w _).heap b (aq.ib b (qQ aa)));have aqI:Yields E C st a w I rt fp o (fun av new=>Q ⟨(d,av)::st.g,new++st.h⟩):=by
    refine⟨.pointer (some ⟨w.heap.size,0,none⟩),w.alloc (.cells cs.toArray T),fun b=>I b\/b=w.heap.size,fun _=>[],fun _=>[],.val (.ptr .cL τ) (some y),[],?_,it.alloc w _,fun _ h=>.inl h,?_,.nil,?_,aj _ h⟩
    ·simp[execOp,aJ,hv,Instr.box,newVar,newRow,tr aH ll.len ll.one]
    ·rintro b (h|rfl)
     ·exact .inl h
     ·exact .inr ⟨bU _,by simp⟩
    ·refine .val (τ:=.ptr .cL τ) (x:=some y) (cs:=[.pointer (some ⟨w.heap.size,0,none⟩)]) ⟨rfl,w.heap.size,0,cs,rfl,.inr rfl,ll.len,eI.alloc (fun j v ao=>by simpa using ao),?_⟩;refine ll.mono (fun m b aa=>⟨?_,bF m b aa⟩) (by simp);cases m
     ·exact .inl aa
     ·exact aa.imp .inl (fun h=>h)
   exact aqI.wp aq aP dc (fun av new b9 w' fN ki hr=>et _ b9 w' fN ki hr)
  ·refine d9.eval (an:=[]) aP dc ?_;rw[aJ];simp only[gR,FN,bm,Bh,ex,aa,cond_true];exact aj _ h
 ·rename_i id ex;split at h
  case h_2=>cases h
  rename_i t ah;cases aa:bI u t.1 with
  |false=>rw[aa] at h;cases h
  |true=>
  rw[aa] at h;rintro a w ⟨I,rt,fp,aq⟩ next X et
  have ab:=aq.bu x;rw[ex] at ab;obtain⟨b2,bo,a5⟩:=aq.tree id t ah;have aH:=(E.ok T u bm).lay aa;generalize hv:a.eval x=v at ab;cases ab with|ref bC ag=>
  rw[ah] at bC;cases bC;obtain⟨rfl,rfl,rfl⟩:=bv.f6.1 ag;have bF:∀b,b<w.heap.size->df w (w.alloc (.cells (rt id).toArray T)) b:=fun b aa=>.of_heap ((it.alloc w _).heap b aa);have EO:br (bP I C.B) (w.alloc (.cells (rt id).toArray T)) t.1 (rt id) t.2 (fp id):=b2.mono (fun m b aa=>⟨aa,bF b (aq.ib b (qQ aa))⟩) (fun b aa=>bF b (a5 b aa).2.2.1);refine d9.own (S:=[id]) (t:=⟨.optr t.1,t.2⟩) (cs:=[.pointer (some ⟨w.heap.size,0,none⟩)]) (f:=w.heap.size::fp id) (v:=.pointer (some ⟨w.heap.size,0,none⟩)) (w':=w.alloc (.cells (rt id).toArray T)) aP dc aq et (.inr Bh) ?_ (it.alloc w _) rfl ⟨w.heap.size,0,fp id,rt id,rfl,rfl,b2.len,eI.alloc (fun j v ao=>by simpa using ao),kq.alloc (by simp[b2.len]),EO⟩ (mB.2 ⟨fun ak=>Nat.lt_irrefl _ (a5 _ ak).2.2.1,bo⟩) ?_ ?_
  ·simp[execOp,aJ,hv,Instr.box,newVar,newRow,tr aH b2.len b2.one]
  ·intro b aa;rcases d4.1 aa with rfl|aa
   ·exact .inl ⟨bU _,by simp⟩
   ·exact .inr ⟨id,by simp,t,ah,aa⟩
  ·have:=aj _ h;rw[show(b7.mk (some (d,.ref d [])) [id] [] [(d,⟨.optr t.1,t.2⟩)]).app st=⟨(d,.ref d [])::kill [id] [] st.g,(d,⟨.optr t.1,t.2⟩)::del [id] st.h⟩ from rfl] at this;exact this
 ·cases h
def Aq (h:List (Nat×a6)) (t:au) (x:ax):Option (t.den×List Nat):=
 match x with
 |.ref id []=>match aD h id with
  |some cg=>match iA t cg.2 with
   |some y=>some (y,[id])
   |none=>none
  |none=>none
 |x=>match coe t x with
  |some y=>some (y,[])
  |none=>none
def Ar (h:List (Nat×a6)) (t:au):List ax->Option (List t.den×List (List Nat))
 |[]=>some ([],[])
 |x::r=>match Aq h t x,Ar h t r with
  |some y,some l=>some (y.1::l.1,y.2::l.2)
  |_,_=>none
theorem alu {M:dE->Nat->Prop} {h:List (Nat×a6)} (ay:∀id t,aD h id=some t->br M w t.1 (rt id) t.2 (fp id)) {t:au} {T:TypeId} (bm:eB E.P t T) {x:ax} {v:Value} (ab:cJ M w h rt fp x v) {y:t.den} {ids:List Nat} (hc:Aq h t x=some (y,ids)):br M w t v.cells.toList y (ids.map fp).flatten/\∀id∈ids,∃u,aD h id=some u:=by
 unfold Aq at hc;split at hc
 ·rename_i id;split at hc
  case h_2=>cases hc
  rename_i cg ah;split at hc
  case h_2=>cases hc
  rename_i y' aB;cases hc;obtain⟨τ,x⟩:=cg;have aE:=l5 aB;cases aE;cases ab with|ref bC ag=>
  rw[ah] at bC;cases bC;obtain⟨rfl,rfl,rfl⟩:=bv.f6.1 ag;have r:=ay id _ ah;rw[tr bm r.len r.one];refine⟨by simpa using r,fun i hi=>?_⟩;rw[fh] at hi;subst hi;exact⟨_,ah⟩
 ·split at hc
  ·rename_i y' aB;cases hc;exact⟨Qj bm ab aB,by simp⟩
  ·cases hc
theorem XY {h:List (Nat×a6)} {t:au}:∀{l:List ax} {xs:List t.den} {is:List (List Nat)},Ar h t l=some (xs,is)->xs.length=l.length/\is.length=l.length/\∀(i:Nat) (x:t.den),xs[i]?=some x->∃(y:ax) (q:List Nat),l[i]?=some y/\is[i]?=some q/\Aq h t y=some (x,q)
 |[],xs,is,hc=>by cases hc;exact⟨rfl,rfl,fun i x h=>by simp at h⟩
 |y::l,xs,is,hc=>by
  simp only[Ar] at hc;split at hc
  ·rename_i z r a2 hr;cases hc;obtain⟨J,R,ac⟩:=XY (xs:=r.1) (is:=r.2) hr;refine⟨by simp[J],by simp[R],fun i x hi=>?_⟩;cases i with
   |zero=>simp only[lX,cS] at hi;subst hi;exact⟨y,z.2,rfl,rfl,a2⟩
   |succ i=>simpa using ac i x (by simpa using hi)
  ·cases hc
def x1 {aT:Type} (tt:List (TypeId×au)) (an:List (Nat×au)) (h:List (Nat×a6)) (g:Operand->ax) (d:Nat) (T:TypeId) (n:Nat) (parts:List (Nat×Operand)) (K:b7->Option aT):Option aT:=
 match gr tt T,aD h d with
 |some u,none=>
  match(match aD an d with|some (.osl t)=>t|_=>u) with
  |t=>bif bI u t&&Nat.ble t.size 2000&&Nat.ble n 1000&&Cj parts 0&&Nat.beq parts.length n then
   match FQ t (parts.map fun q=>g q.2) with
   |some xs=>K ⟨some (d,.ref d []),[],[],[(d,⟨.osl t,xs⟩)]⟩
   |none=>match Ar h t (parts.map fun q=>g q.2) with
    |some q=>bif kF q.2.flatten then K ⟨some (d,.ref d []),q.2.flatten,[],[(d,⟨.osl t,q.1⟩)]⟩ else none
    |none=>none
  else none
 |_,_=>none
theorem akR {aT:Type} {r:aT} {K:b7->Option aT} {an:List (Nat×au)} {d:Nat} {T:TypeId} {n:Nat} {parts:Array (Nat×Operand)} (aJ:o.op=.buildSlice T n parts) (aP:o.dst=some d) (dc:C.ok d) (h:x1 E.tt an st.h (bu st.g) d T n parts.toList K=some r) (aj:∀e,K e=some r->Q (e.app st)):d9 E C o st Q:=by
 unfold x1 at h;split at h
 case h_2=>cases h
 rename_i u bm Bh;generalize ah:(match aD an d with|some (.osl t)=>t|_=>u)=t at h;simp only at h;cases aa:(bI u t&&Nat.ble t.size 2000&&Nat.ble n 1000&&Cj parts.toList 0&&Nat.beq parts.toList.length n) with
 |false=>rw[aa] at h;cases h
 |true=>
 rw[aa] at h;simp only[cond_true] at h;split at h
 ·rename_i xs Nr;refine d9.eval (an:=an) aP dc ?_;rw[aJ];simp only[gR,Dc,bm,Bh];cases ai:aD an d with
  |none=>
   rw[ai] at ah;simp only at ah;subst ah;simp only[aa,cond_true,Nr];exact aj _ h
  |some q=>
   rw[ai] at ah;cases q<;>(simp only at ah;subst ah;simp only[aa,cond_true,Nr];exact aj _ h)
 split at h
 case h_2=>cases h
 rename_i q fY;obtain⟨xs,is⟩:=q;cases eA:kF is.flatten with
 |false=>rw[eA] at h;cases h
 |true=>
 rw[eA] at h;rintro a w ⟨I,rt,fp,aq⟩ next X et
 have ay:∀id t,aD st.h id=some t->br (bP I C.B) w t.1 (rt id) t.2 (fp id):=fun id t ah=>(aq.tree id t ah).1;simp only[bW] at aa;obtain⟨⟨⟨⟨dg,dF⟩,hE⟩,kb⟩,C4⟩:=aa;have dF:=fQ dF;have hE:=fQ hE;have C4:parts.toList.length=n:=fi C4;obtain⟨j,S,_,aY,bG⟩:=gr.ok bm;have jd:=bG.lay dg;obtain⟨i,alT,dv,_⟩:=jd.info;have mS:=jd.pos;obtain⟨da,ks,cw⟩:=XY fY;simp only[i6] at da ks;have HD:xs.length=n:=(by omega);have d2:n*t.size<=16777216:=(by have:n*t.size<=1000*2000:=l1 hE dF;omega);have nD:∀(k:Nat) (q:Nat×Operand),parts.toList[k]?=some q->∃(x:t.den) (ids:List Nat),xs[k]?=some x/\is[k]?=some ids/\br (bP I C.B) w t (a.eval q.2).cells.toList x (ids.map fp).flatten/\∀id∈ids,∃u,aD st.h id=some u:=(by intro k q ae;have qB:k<xs.length:=(by have:=(fu.1 ae).1;omega);obtain⟨y,ids,aA,bY,aX⟩:=cw k xs[k] (by simp);rw[gB,ae] at aA;simp only[hC,cS] at aA;subst aA;obtain⟨bk,bD⟩:=alu ay jd (aq.bu q.2) aX;exact⟨xs[k],ids,by simp,bY,bk,bD⟩);have Hl:∀id∈is.flatten,∃u,aD st.h id=some u:=by
  intro id bp;obtain⟨l,ai,kT⟩:=lw.1 bp;obtain⟨k,ae,rfl⟩:=jO.1 ai;have k9:parts.toList[k]?=some (parts.toList[k]'(by omega)):=cr _
  obtain⟨x,ids,_,e,_,aR⟩:=nD k _ k9;rw[cr ae] at e;cases e;exact aR id kT
 obtain⟨HL,Sf,Sg⟩:∃JY:Array Value,(n*t.size=0->JY=#[])/\(n*t.size≠0->∃q6,(zeroValue S).run E.P w=.ok q6 w/\JY=q6.cells):=by
  by_cases aV:n*t.size=0
  ·exact⟨#[],fun _=>rfl,fun h=>absurd aV h⟩
  ·obtain⟨q6,_,SR⟩:=eB.RX jd;exact⟨q6.cells,fun h=>absurd h aV,fun _=>⟨q6,by simp[zeroValue,typeInfo,dv.info,SR i dv.info],rfl⟩⟩
 obtain⟨ll,b2,bo,a5,bw⟩:=G1 (fun i=>some (i*t.size,t.size)) (parts.toList.map fun q=>(q.1,a.eval q.2)) ((Array.range (n*t.size)).map (HL[· %HL.size]!)) (by
  intro q aj;obtain⟨p,aw,rfl⟩:=dz.1 aj;obtain⟨k,ae,rfl⟩:=jO.1 aw;have k9:parts.toList[k]?=some parts.toList[k]:=(by simp);obtain⟨x,_,_,_,ab,_⟩:=nD k _ k9;have e:=xd kb k _ k9;have:(k+1)*t.size<=n*t.size:=jQ _ (by omega);rw[ie,lx] at this;refine⟨_,_,rfl,by have:=ab.len;simpa using this,?_⟩;simp only[Array.size_map,Array.size_range];rw[e,kN];exact this) (by
  rw[i7];intro k l ae ai qB hu fA kZ hx aA aX;simp only[List.getElem_map,cS,gX] at aA aX;simp only[i6] at ae ai;have f1:=xd kb k parts.toList[k] (by simp);have cE:=xd kb l parts.toList[l] (by simp);obtain⟨rfl,rfl⟩:=aA;obtain⟨rfl,rfl⟩:=aX;left;rw[f1,cE];have:(0+k+1)*t.size<=(0+l)*t.size:=jQ _ (by omega);rw[ie,lx] at this;exact this)
 have SC:ll.size=n*t.size:=(by rw[bo];simp);have bF:∀b,b<w.heap.size->df w (w.alloc (.cells ll S)) b:=fun b aa=>.of_heap ((it.alloc w _).heap b aa);have MZ:(is.map fun ids=>(ids.map fp).flatten).flatten=(is.flatten.map fp).flatten:=by
  clear nD Hl cw eA h fY ks
  induction is with
  |nil=>rfl
  |cons x l aZ=>simp only[ff,lu,aZ,jm,vq]
 have ca:∀b∈(is.flatten.map fp).flatten,b<w.heap.size/\∃id∈is.flatten,∃u,aD st.h id=some u/\b∈fp id:=(by intro b aa;obtain⟨id,bp,aa⟩:=TG aa;obtain⟨u,aR⟩:=Hl id bp;exact⟨((aq.tree id u aR).2.2 b aa).2.2.1,id,bp,u,aR,aa⟩);refine d9.own (S:=is.flatten) (t:=⟨.osl t,xs⟩) (cs:=[.slice (some ⟨w.heap.size,0,none⟩) n n]) (f:=w.heap.size::(is.flatten.map fp).flatten) (v:=.slice (some ⟨w.heap.size,0,none⟩) n n) (w':=w.alloc (.cells ll S)) aP dc aq et (.inr Bh) ?_ (it.alloc w _) rfl ?_ (mB.2 ⟨fun ak=>Nat.lt_irrefl _ (ca _ ak).1,aq.dR (kF.ok eA) Hl⟩) ?_ ?_
 ·have el:=jd.sizeOf w;have fX:¬(16777216<n*t.size):=(by omega);have rJ:(Array.map (fun x=>(x.fst,a.eval x.snd)) parts).toList=parts.toList.map fun q=>(q.1,a.eval q.2):=(by simp);simp only[execOp,aJ,Instr.buildSlice,Sem.run_bind,run_underlying aY,Result.andThen_ok,el];rw[if_neg (by omega)];by_cases aV:n*t.size=0
  ·rw[if_pos aV];obtain rfl:=Sf aV;rw[rJ];simp only[Sem.run_bind,Sem.run_pure,Result.andThen_ok,b2,newRow,newObj];rfl
  ·rw[if_neg aV];obtain⟨q6,HF,rfl⟩:=Sg aV;rw[rJ];simp only[Sem.run_bind,Sem.run_pure,Result.andThen_ok,HF,b2,newRow,newObj];rfl
 ·refine⟨some ⟨w.heap.size,0,none⟩,n,by rw[HD],.inr ⟨w.heap.size,0,is.map fun ids=>(ids.map fp).flatten,rfl,by rw[MZ],by simp;omega,(by show xs.length<=n;omega),kq.alloc (by rw[SC];omega),fun k x g ab aG=>?_⟩⟩;have ae:k<n:=(by have:k<xs.length:=(fu.1 ab).1;omega);have k9:parts.toList[k]?=some (parts.toList[k]'(by omega)):=by simp
  obtain⟨hS,ids,ww,d0,pb,aR⟩:=nD k _ k9;rw[ab] at ww;obtain rfl:=fH ww;rw[gB,d0] at aG;obtain rfl:=fH aG;refine⟨_,pb.len,eI.alloc (fun j v ao=>?_),pb.mono (fun m b aa=>⟨aa,bF b (aq.ib b (qQ aa))⟩) (fun b aa=>?_)⟩
  ·have:=bw (parts.toList[k].1,a.eval parts.toList[k].2) (dz.2 ⟨parts.toList[k],dy _,rfl⟩) _ _ rfl j v (by simpa using ao);have e:=xd kb k _ k9;rw[e,kN] at this;simpa using this
  ·obtain⟨id,bp,aa⟩:=TG aa;obtain⟨u,aR⟩:=aR id bp;exact bF b ((aq.tree id u aR).2.2 b aa).2.2.1
 ·intro b aa;rcases d4.1 aa with rfl|aa
  ·exact .inl ⟨bU _,by simp⟩
  ·obtain⟨_,id,bp,u,aR,aa⟩:=ca b aa;exact .inr ⟨id,bp,u,aR,aa⟩
 ·have:=aj _ h;rw[show(b7.mk (some (d,.ref d [])) is.flatten [] [(d,⟨.osl t,xs⟩)]).app st=⟨(d,.ref d [])::kill is.flatten [] st.g,(d,⟨.osl t,xs⟩)::del is.flatten st.h⟩ by
   show bj.mk ((d,_)::qN _ [] st.g) ([_]++vU _ st.h)=_;rw[uL,AM];rfl] at this
  exact this
end
end
section
def jW:au->au
 |.osl t=>.bM .cL (jW t)
 |.st t=>.st (jW t)
 |.pr a b=>.pr (jW a) (jW b)
 |.mp t=>.ey .cL t
 |τ=>τ
def yk:au->Bool
 |.osl t|.st t=>yk t
 |.pr a b=>yk a&&yk b
 |.optr _|.dG=>false
 |_=>true
theorem ym:∀τ:au,(jW τ).den=τ.den
 |.osl t=>congrArg List (ym t)
 |.st t=>ym t
 |.pr a b=>by show((jW a).den×(jW b).den)=(a.den×b.den);rw[ym a,ym b]
 |.int _|.bool|.str|.bM _ _|.ptr _ _|.optr _|.nil|.dG|.mp _|.ey _ _=>rfl
def nA (τ:au) (x:τ.den):(jW τ).den:=cast (ym τ).symm x
theorem ak9 {A B:Type} (h:A=B) (a7:List A=List B) (xs:List A):cast a7 xs=xs.map (cast h):=by subst h;show xs=xs.map (fun x=>x);simp
theorem ala {A B C D:Type} (h:A=B) (k:C=D) (a7:(A×C)=(B×D)) (x:A×C):cast a7 x=(cast h x.1,cast k x.2):=by subst h;subst k;rfl
theorem Rs (t:au) (xs:List t.den):(nA (.osl t) xs:List (jW t).den)=xs.map (nA t):=ak9 (ym t).symm _ xs
theorem anU (a b:au) (x:a.den×b.den):(nA (.pr a b) x:(jW a).den×(jW b).den)=(nA a x.1,nA b x.2):=ala (ym a).symm (ym b).symm _ x
theorem A8:∀τ:au,(jW τ).size=τ.size
 |.osl t=>rfl
 |.st t=>A8 t
 |.pr a b=>by simp only[jW,au.size,A8 a,A8 b]
 |.int _|.bool|.str|.bM _ _|.ptr _ _|.optr _|.nil|.dG|.mp _|.ey _ _=>rfl
theorem ES {M eJ:dE->Nat->Prop} {w:World} (bF:∀m b,M m b->eJ m b):∀{τ:au} {cs:List Value} {x:τ.den} {f:List Nat},yk τ=true->br M w τ cs x f->(∀b∈f,eJ .cL b)->br eJ w (jW τ) cs (nA τ x) []
 |.osl t,cs,xs,f,aJ,h,aH=>by
  obtain⟨a,cap,sU,h⟩:=h;have ai:(nA (.osl t) xs:List (jW t).den).length=List.length (α:=t.den) xs:=(by rw[Rs];simp);rcases h with⟨rfl,aV,rfl,rfl⟩|⟨b,o,dR,rfl,rfl,J,R,ac,aL⟩
  ·refine⟨rfl,none,0,by rw[sU,ai],by rw[ai,aV];simp,fun _=>rfl,.inl ?_⟩;rw[Rs,aV];rfl
  ·refine⟨rfl,_,cap,by rw[sU,ai],by rw[ai];exact R,(fun h=>by cases h),?_⟩;refine .inr ⟨b,o,rfl,aH b (by simp),fun i x ab=>?_⟩;rw[Rs] at ab;have ab:(List.map (nA t) xs)[i]?=some x:=ab;rw[gB] at ab;obtain⟨y,aB,rfl⟩:=e1.1 ab;have hi:i<List.length (α:=t.den) xs:=(fu.1 aB).1;have aG:dR[i]?=some (dR[i]'(by omega)):=cr _
   obtain⟨ds,cK,cG,c9⟩:=aL i y _ aB aG;rw[A8];exact⟨ds,cK,cG,ES bF aJ c9 (fun c hc=>aH c (gC _ (lw.2 ⟨_,dy _,hc⟩)))⟩
 |.st t,cs,x,f,aJ,h,aH=>ES (τ:=t) bF aJ h aH
 |.pr a b,cs,x,f,aJ,h,aH=>by
  simp only[yk,bW] at aJ;obtain⟨f1,cE,rfl,J,R⟩:=h;have e:=anU a b x;refine⟨[],[],rfl,?_,?_⟩
  ·rw[A8];have:=ES bF aJ.1 J (fun c hc=>aH c (by simp[hc]));rw[show(nA (.pr a b) x:(jW a).den×(jW b).den).1=nA a x.1 by rw[e]];exact this
  ·rw[A8];have:=ES bF aJ.2 R (fun c hc=>aH c (by simp[hc]));rw[show(nA (.pr a b) x:(jW a).den×(jW b).den).2=nA b x.2 by rw[e]];exact this
 |.int k,cs,x,f,_,h,_=>by obtain rfl:=br.pure (τ:=.int k) rfl h;exact h.mono (fun m b aa=>⟨bF m b aa,df.refl _ _⟩) (by simp)
 |.bool,cs,x,f,_,h,_=>by obtain rfl:=br.pure (τ:=.bool) rfl h;exact h.mono (fun m b aa=>⟨bF m b aa,df.refl _ _⟩) (by simp)
 |.str,cs,x,f,_,h,_=>by obtain rfl:=br.pure (τ:=.str) rfl h;exact h.mono (fun m b aa=>⟨bF m b aa,df.refl _ _⟩) (by simp)
 |.bM m t,cs,x,f,_,h,_=>by obtain rfl:=br.pure (τ:=.bM m t) rfl h;exact h.mono (fun m b aa=>⟨bF m b aa,df.refl _ _⟩) (by simp)
 |.ptr m t,cs,x,f,_,h,_=>by obtain rfl:=br.pure (τ:=.ptr m t) rfl h;exact h.mono (fun m b aa=>⟨bF m b aa,df.refl _ _⟩) (by simp)
 |.nil,cs,x,f,_,h,_=>by obtain rfl:=br.pure (τ:=.nil) rfl h;exact h.mono (fun m b aa=>⟨bF m b aa,df.refl _ _⟩) (by simp)
 |.optr _,_,_,_,aJ,_,_=>by cases aJ
 |.ey m t,cs,x,f,_,h,_=>by obtain rfl:=br.pure (τ:=.ey m t) rfl h;exact h.mono (fun m b aa=>⟨bF m b aa,df.refl _ _⟩) (by simp)
 |.mp t,cs,x,f,_,h,aH=>by
  cases x with
  |none=>exact⟨rfl,h.2⟩
  |some q=>
   obtain⟨b,bK,L,J,R,e4,ac,aL,aY⟩:=h;refine⟨b,bK,L,J,rfl,e4,aH b (by rw[R];simp),ac,aL,fun i q aj=>?_⟩;obtain⟨ds,cK,cG,c9⟩:=aY i q aj;exact⟨ds,cK,cG,c9.mono (fun m b aa=>⟨bF m b aa,df.refl _ _⟩) (by simp)⟩
 |.dG,_,_,_,aJ,_,_=>by cases aJ
def wb:a6->ax
 |⟨.optr u,x⟩=>.val (.ptr .cL (jW u)) (some (nA u x))
 |⟨τ,x⟩=>.val (jW τ) (nA τ x)
def Rt:au->Bool
 |.optr u=>yk u
 |τ=>yk τ
def gZ (h:List (Nat×a6)) (F:List Nat) (a:ax):ax:=
 match a with
 |.ref id []=>bif dS id F then match aD h id with
  |some t=>wb t
  |none=>.dead else .ref id []
 |a=>bif a.eG F then .dead else a
theorem pQ (h:List (Nat×a6)) (F:List Nat) (a:ax):(∃id t,a=.ref id []/\id∈F/\aD h id=some t/\gZ h F a=wb t)\/(gZ h F a=.dead/\a.eG F=true)\/(gZ h F a=a/\a.eG F=false):=by
 have gen:∀a:ax,gZ h F a=(bif a.eG F then .dead else a)->(∃id t,a=.ref id []/\id∈F/\aD h id=some t/\gZ h F a=wb t)\/(gZ h F a=.dead/\a.eG F=true)\/(gZ h F a=a/\a.eG F=false):=by
  intro a aC;cases aR:a.eG F with
  |true=>rw[aR] at aC;exact .inr (.inl ⟨aC,rfl⟩)
  |false=>rw[aR] at aC;exact .inr (.inr ⟨aC,rfl⟩)
 cases a with
 |ref id p=>
  cases p with
  |nil=>
   cases ak:dS id F with
   |true=>
    have aR:(ax.ref id []).eG F=true:=(by simp[ax.eG,ax.ids,ak]);cases ai:aD h id with
    |none=>exact .inr (.inl ⟨by simp[gZ,ak,ai],aR⟩)
    |some t=>exact .inl ⟨id,t,rfl,fd.1 ak,ai,by simp[gZ,ak,ai]⟩
   |false=>exact .inr (.inr ⟨by simp[gZ,ak],by simp[ax.eG,ax.ids,ak]⟩)
  |cons s p=>exact gen _ rfl
 |_=>exact gen _ rfl
def jx (h:List (Nat×a6)) (F:List Nat):ax->ax
 |.ei l=>.ei (l.map (gZ h F))
 |a=>gZ h F a
theorem MA {h:List (Nat×a6)} {F:List Nat} {a:ax} (aC:∀l,a≠.ei l):jx h F a=gZ h F a:=by
 cases a with
 |ei l=>exact absurd rfl (aC l)
 |_=>rfl
def yl (F:List Nat) (st:bj):bj:=⟨st.g.map fun q=>(q.1,jx st.h F q.2),del F st.h⟩
theorem Zh (f:ax->ax) (aH:f .dead=.dead):∀(g:List (Nat×ax)) (k:Nat),gt (g.map fun q=>(q.1,f q.2)) k=f (gt g k)
 |[],k=>aH.symm
 |(k0,a)::g,k=>by
  show gt ((k0,f a)::_) k=_;rw[jX,jX];split
  ·rfl
  ·exact Zh f aH g k
theorem MC (F:List Nat) (st:bj) (k:Nat):gt (yl F st).g k=jx st.h F (gt st.g k):=Zh (jx st.h F) rfl st.g k
theorem anV (F:List Nat) (st:bj):bu (yl F st).g=fun x=>jx st.h F (bu st.g x):=by
 funext x;cases x with
 |tmp k=>exact MC F st k
 |const v=>cases v<;>rfl
 |func f=>rfl
 |global g=>rfl
theorem Pe {F:List Nat} {a:ax} (h:a.eG F=false) (keep:List (Nat×List bB)):ef F keep a=a:=by unfold ef;rw[h];rfl
theorem azI {F:List Nat} {l:List ax} (h:(ax.ei l).eG F=false) {a:ax} (aC:a∈l):a.eG F=false:=by unfold ax.eG at h|-;rw[CP] at h|-;intro id bp;obtain⟨i,hi,rfl⟩:=jO.1 aC;exact h id (ax.It (l:=l) (i:=i) (cr hi) bp)
theorem azH {F:List Nat} {a:ax} (h:a.eG F=false) (keep:List (Nat×List bB)):e8 F keep a=a:=by
 cases a with
 |ei l=>
  simp only[e8];rw[kK (fun a aC=>Pe (azI h aC) keep),List.map_id']
 |_=>exact Pe h keep
theorem A7 (S:List Nat) (keep:List (Nat×List bB)) (t:a6):e8 S keep (wb t)=ef S keep (wb t):=by unfold wb;split<;>rfl
def Fh (a b:ax):Prop:=a=.dead\/a=b\/∃l l',a=.ei l/\b=.ei l'/\l.length=l'.length/\∀(i:Nat) (x y:ax),l[i]?=some x->l'[i]?=some y->x=.dead\/x=y
section
variable {C:eb} {st:bj} {b3:Array Value} {w:World}
theorem cx.freeze {I:Nat->Prop} {rt:Nat->List Value} {fp:Nat->List Nat} (aq:cx C st b3 w I rt fp) {F:List Nat} (dn:∀id∈F,∃t,aD st.h id=some t/\Rt t.1=true):gD C (yl F st) b3 w:=by
 have aR:=aq.fO (S:=F) (keep:=[]) (new:=[]) (rtn:=rt) (fpn:=fp) (w':=w) (I':=fun b=>I b\/∃id∈F,∃t,aD st.h id=some t/\b∈fp id) ⟨bU _,rfl,rfl,rfl,fun _ _ _=>rfl,fun _ _=>.refl _ _,fun _ h=>.inl h,fun b h=>h.imp id fun⟨id,bp,t,ah,aa⟩=>
  ⟨((aq.tree id t ah).2.2 b aa).2.2.1,.inr ⟨id,bp,t,ah,aa⟩⟩,(fun _ _ h=>by cases h),(fun _ _ _ _ h=>by cases h),(fun _ h=>by cases h),(fun _ h=>by cases h)⟩
 refine⟨_,_,_,{aR with tmp:=fun k=>?_}⟩;rw[MC];have ae:=aq.tmp k;have nK:=aR.tmp k;rw[show gt (bj.mk (kill F [] st.g) ([]++del F st.h)).g k=e8 F [] (gt st.g k) from sN _ _ _ _] at nK;generalize gt st.g k=av at ae nK;generalize b3.getD k undef=v at ae nK;have FSq:∀(av:ax) (v:Value),cJ (bP I C.B) w st.h rt fp av v->cJ (bP (fun b=>I b\/∃id∈F,∃t,aD st.h id=some t/\b∈fp id) C.B) w ([]++del F st.h) (en [] rt rt) (en [] fp fp) (ef F [] av) v->
  cJ (bP (fun b=>I b\/∃id∈F,∃t,aD st.h id=some t/\b∈fp id) C.B) w ([]++del F st.h) (en [] rt rt) (en [] fp fp) (gZ st.h F av) v:=by
  intro av v ae nK;rcases pQ st.h F av with⟨id,t,J,R,ac,aL⟩|⟨J,_⟩|⟨J,R⟩
  ·rw[aL];rw[J] at ae;cases ae with|ref ah ag=>
   rw[ac] at ah;cases ah;obtain⟨rfl,rfl,rfl⟩:=bv.f6.1 ag;obtain⟨t',bC,yC⟩:=dn id R;rw[ac] at bC;cases bC;have bF:∀m b,bP I C.B m b->bP (fun b=>I b\/∃id∈F,∃t,aD st.h id=some t/\b∈fp id) C.B m b:=by
    intro m b aa;cases m
    ·exact .inl aa
    ·exact aa.imp .inl (fun h=>h)
   have pb:=(aq.tree id t ac).1;have DV:∀b∈fp id,bP (fun b=>I b\/∃id∈F,∃t,aD st.h id=some t/\b∈fp id) C.B .cL b:=fun b aa=>.inr ⟨id,R,t,ac,aa⟩;obtain⟨τ,x⟩:=t;by_cases aJ:∃u,τ=.optr u
   ·obtain⟨u,rfl⟩:=aJ;obtain⟨b,o,g,ds,aA,aX,bY,e7,pO,uh⟩:=pb;show cJ _ _ _ _ _ (.val (.ptr .cL (jW u)) (some (nA u x))) _;have aA:rt id=[.pointer (some ⟨b,o,none⟩)]:=aA;rw[aA];refine .val (τ:=.ptr .cL (jW u)) (x:=some (nA u x)) (cs:=[.pointer (some ⟨b,o,none⟩)]) ⟨rfl,b,o,ds,rfl,DV b (by rw[aX];exact nk ..),by rw[A8];exact bY,e7,ES bF yC uh (fun c hc=>DV c (by rw[aX];exact gC _ hc))⟩
   ·have aqb:cQ τ (rt id)=cQ (jW τ) (rt id):=by
     cases τ<;>rfl
    have Br:wb ⟨τ,x⟩=.val (jW τ) (nA τ x):=by cases τ<;>first|rfl|exact absurd ⟨_,rfl⟩ aJ
    have apV:yk τ=true:=by cases τ<;>first|exact yC|exact absurd ⟨_,rfl⟩ aJ
    rw[Br];show cJ _ _ _ _ _ _ (cQ τ (rt id));rw[aqb];exact .val (ES bF apV pb DV)
  ·rw[J];exact .dead _
  ·rw[J];rw[Pe R] at nK;exact nK
 cases av with
 |ei l=>
  cases ae with|ei ai ay=>
  cases nK with|ei Si Se=>
  refine .ei (by simp[ai]) (fun i a v J R=>?_);rw[gB] at J;obtain⟨a0,ac,rfl⟩:=e1.1 J;exact FSq a0 v (ay i a0 v ac R) (Se i _ v (by rw[gB,ac];rfl) R)
 |_=>exact FSq _ _ ae nK
theorem gD.abv {cz:bj} (h:gD C st b3 w) (aG:∀k,Fh (gt cz.g k) (gt st.g k)) (ay:∀id,aD cz.h id=aD st.h id):gD C cz b3 w:=by
 obtain⟨I,rt,fp,aq⟩:=h;refine⟨I,rt,fp,{aq with tree:=fun id t ah=>aq.tree id t (by rw[<-ay];exact ah),dis:=fun i j t u hi ao=>aq.dis i j t u (by rw[<-ay];exact hi) (by rw[<-ay];exact ao),tmp:=fun k=>?_}⟩;have mono:∀(a:ax) (v:Value),cJ (bP I C.B) w st.h rt fp a v->cJ (bP I C.B) w cz.h rt fp a v:=fun a v aC=>
  aC.y1 (fun m b aa=>⟨aa,df.refl _ _⟩) (fun id _ t ah=>⟨by rw[ay];exact ah,rfl,rfl,(aq.tree id t ah).1,fun _ _=>df.refl _ _⟩)
 have ae:=aq.tmp k;rcases aG k with e|e|⟨l,l',aA,aX,bY,e7⟩
 ·rw[e];exact .dead _
 ·rw[e];exact mono _ _ ae
 ·rw[aA];rw[aX] at ae;generalize b3.getD k undef=v at ae;cases ae with|ei ai Se=>
  refine .ei (bY.trans ai) (fun i a v J R=>?_);obtain⟨y,aB⟩:∃y,l'[i]?=some y:=(by have:=(fu.1 J).1;exact⟨_,cr (by omega)⟩);rcases e7 i a y J aB with e|e
  ·rw[e];exact .dead _
  ·rw[e];exact mono _ _ (Se i y v aB R)
theorem gD.less {cz:bj} (h:gD C st b3 w) (aG:∀k,gt cz.g k=.dead\/gt cz.g k=gt st.g k) (ay:∀id,aD cz.h id=aD st.h id):gD C cz b3 w:=
 h.abv (fun k=>(aG k).imp id .inl) ay
end
def xq:Op->List Operand
 |.build _ ps=>ps.toList.map (·.2)
 |.buildSlice _ _ ps=>ps.toList.map (·.2)
 |.store _ _ v=>[v]
 |.mapUpdate _ _ _ v=>[v]
 |.insert _ _ _ v=>[v]
 |.entryStore _ _ _ v=>[v]
 |.box _ v=>[v]
 |.assign v=>[v]
 |.call c=>match c.callee with
  |.value _=>c.args.toList
  |.builtin .append=>c.args.toList.drop 1
  |_=>[]
 |_=>[]
def A6 (o:Oper):Nat:=match o.dst with
 |some d=>d
 |none=>999999
def o1 (ik:List aCv) (k:Nat) (g:Operand->ax):List Operand->List Nat
 |[]=>[]
 |x::l=>match g x with
  |.ref id []=>bif ik.any (fun q=>Nat.beq q.1 k&&Nat.beq q.2 id) then id::o1 ik k g l else o1 ik k g l
  |_=>o1 ik k g l
end
section
theorem Qo {α:Type} {xs aW:List α} {lo hi:Nat} (J:lo<=hi) (R:hi<=xs.length):(nu xs aW lo hi).length=xs.length:=by unfold nu;simp only[tS,eW,oO];omega
theorem X7 {α:Type} {xs aW:List α} {lo hi:Nat} (J:lo<=hi) (R:hi<=xs.length) (i:Nat):(nu xs aW lo hi)[i]?=if lo<=i/\i<lo+min aW.length (hi-lo) then aW[i-lo]? else xs[i]?:=by
 unfold nu;rw[List.getElem?_append];simp only[eW];rcases ct i lo with h|h
 ·rw[if_pos (by omega),if_neg (by omega),pH h]
 ·rw[if_neg (by omega),List.getElem?_append];simp only[eW];have e:i-min lo xs.length=i-lo:=(by omega);rw[e];by_cases ae:i<lo+min aW.length (hi-lo)
  ·rw[if_pos (by omega),if_pos ⟨h,ae⟩,pH (by omega)]
  ·rw[if_neg (by omega),if_neg (by omega),n6];congr 1;omega
def vL {aT:Type} (tt:List (TypeId×au)) (h:List (Nat×a6)) (d:Nat) (T:TypeId) (x y:ax) (K:b7->Option aT):Option aT:=
 match gr tt T with
 |none=>none
 |some u=>match x with
  |.ref id []=>match aD h id with
   |some ⟨.osl σ,xs⟩=>bif bI u σ&&Nat.beq σ.size 1&&σ.pure then
     (na h σ y).bind fun aW=>K ⟨some (d,.val (.int .i64) ((min aW.length (xs.length-0):Nat):Int)),[id],[(id,[])],[(id,⟨.osl σ,nu xs aW 0 xs.length⟩)]⟩
    else none
   |_=>none
  |.view id [] lo hi=>match aD h id with
   |some ⟨.osl σ,xs⟩=>bif bI u σ&&Nat.beq σ.size 1&&σ.pure then
     (na h σ y).bind fun aW=>K ⟨some (d,.val (.int .i64) ((min aW.length (hi-lo):Nat):Int)),[id],[(id,[])],[(id,⟨.osl σ,nu xs aW lo hi⟩)]⟩
    else none
   |_=>none
  |_=>none
theorem b7.akk {d:Nat} {av:ax} {S:List Nat} {keep:List (Nat×List bB)} {put:List (Nat×a6)} {st:bj}:(b7.mk (some (d,av)) S keep put).app st=⟨(d,av)::kill S keep st.g,put++del S st.h⟩:=by show bj.mk ((d,av)::qN S keep st.g) (put++vU S st.h)=_;rw[uL,AM]
section
variable {E:eV} {C:eb} {st:bj} {a:Act} {w:World} {I:Nat->Prop} {rt:Nat->List Value} {fp:Nat->List Nat} {o:Oper}
theorem V0 (aq:cx C st a.tmps w I rt fp) {σ:au} {y:Operand} {aW:List σ.den} (h:na st.h σ (bu st.g y)=some aW):FG I C.B w σ (a.eval y) aW:=by
 refine Cy aq ?_;have:=JP h;generalize xx st.h σ (bu st.g y)=r at this;cases r with
 |eh z=>exact this.symm
 |part α jk k=>obtain⟨q,J,rfl⟩:=this;exact⟨q,J,rfl⟩
 |bad=>exact this.elim
theorem Qn (aq:cx C st a.tmps w I rt fp) {aT:Type} {r:aT} {K:b7->Option aT} {T jR:TypeId} {x y:Operand} {d:Nat} (aJ:o.op=.call {callee:=.builtin .copy,args:=#[x,y],argTypes:=#[T,jR]}) (aP:o.dst=some d) (dc:C.ok d) {next:Act->World->Prop} {X:Exit->Act->World->Prop} (et:∀cz b9 w',(∃e,K e=some r/\cz=e.app st)->b9.defers=a.defers->gD C cz b9.tmps w'->next b9 w') {u σ:au} (bm:gr E.tt T=some u) (ai:bI u σ=true) (el:σ.size=1) (aw:σ.pure=true) {id lo hi:Nat} {xs aW:List σ.den} (ah:aD st.h id=some ⟨.osl σ,xs⟩) (J:lo<=hi) (R:hi<=xs.length) (aB:FG I C.B w σ (a.eval y) aW) {ad:Option Addr} {c:Nat} (ab:a.eval x=.slice ad (hi-lo) c) (Bt:hi-lo=0\/∃b off cap,rt id=[.slice (some ⟨b,off,none⟩) xs.length cap]/\ad=some ⟨b,off+lo,none⟩) (cA:K ⟨some (d,.val (.int .i64) ((min aW.length (hi-lo):Nat):Int)),[id],[(id,[])],[(id,⟨.osl σ,nu xs aW lo hi⟩)]⟩=some r):o.wp E.P a w next X:=by
 obtain⟨i,Kf,aN,aY,bG⟩:=gr.ok bm;have jd:=bG.lay ai;obtain⟨aaU,_,dv,_⟩:=jd.info;obtain⟨t1,t2,t3⟩:=aq.tree id _ ah;obtain⟨yd,aAu,dQ,Nt,wh,sV⟩:=aB;have gm:∀w':World,w'.heap.size=w.heap.size->w'.os=w.os->w'.tape=w.tape->w'.output=w.output->(∀b,b∉fp id->w'.heap[b]?=w.heap[b]?)->(∀b,j0 w' b=j0 w b)->br (bP I C.B) w' (.osl σ) (rt id) (nu xs aW lo hi) (fp id)->
  (Builtin.copy_ #[T,jR] o.type #[a.eval x,a.eval y]).run E.P w=.ok (goInt ((min aW.length (hi-lo):Nat):Int)) w'->o.wp E.P a w next X:=by
  intro w' fA hx lm r1 zo Vi Ji eP;have eP:(execOp a.eval o).run E.P w=.ok (.value (goInt ((min aW.length (hi-lo):Nat):Int))) w':=(by simp only[execOp,aJ,resolve,invoke,builtin,Sem.run_bind,Sem.run_pure,Result.andThen_ok,FA,ff,xL,eP]);have aR:=aq.fO (S:=[id]) (keep:=[(id,[])]) (new:=[(id,⟨.osl σ,nu xs aW lo hi⟩)]) (rtn:=rt) (fpn:=fp) (w':=w') (I':=I)
   ⟨Nat.le_of_eq fA.symm,hx,lm,r1,fun b aa bE=>zo b (bE id (by simp) _ ah),fun b _=>.of_eq (Vi b),fun _ h=>h,fun _ h=>.inl h,(by
    intro i t' d0;rw[dq] at d0;split at d0
    ·rename_i e;subst e;cases d0;exact⟨.inl (by simp),Ji,t2,fun b aa=>⟨(t3 b aa).1,by have:=(t3 b aa).2.2.1;omega,.inr ⟨_,by simp,_,ah,aa⟩⟩⟩
    ·cases d0),(by
    intro i j m5 eS d0 ov dJ;rw[dq] at d0 ov;split at d0
    ·split at ov
     ·rename_i aA aX;exact absurd (aA.symm.trans aX) dJ
     ·cases ov
    ·cases d0),(by
    intro e aE t' bC;simp only[fh] at aE;subst aE;have bC:aD st.h id=some t':=bC;rw[ah] at bC;obtain rfl:=fH bC;exact⟨⟨.osl σ,nu xs aW lo hi⟩,by rw[dq,if_pos rfl],rfl,rfl,⟨_,rfl⟩,fun q _ _ _ ae=>by rw[NM] at ae;cases ae⟩),(by
    intro e aE t' _ q _ _ _ _ _ aP;simp only[fh] at aE;subst aE;rw[AN] at aP;cases aP)⟩
  unfold Oper.wp;rw[eP];show next (a.put o.dst _) w'
  rw[aP];have aw:=aR.put dc (av:=.val (.int .i64) ((min aW.length (hi-lo):Nat):Int)) (v:=goInt ((min aW.length (hi-lo):Nat):Int)) (.val (τ:=.int .i64) (cs:=[.int .i64 _]) ⟨rfl,rfl⟩);have hrel:gD C ((b7.mk (some (d,.val (.int .i64) ((min aW.length (hi-lo):Nat):Int))) [id] [(id,[])] [(id,⟨.osl σ,nu xs aW lo hi⟩)]).app st) (a.put (some d) (goInt ((min aW.length (hi-lo):Nat):Int))).tmps w':=(by rw[b7.akk];exact⟨I,_,_,aw⟩);exact et _ _ _ ⟨_,cA,rfl⟩ rfl hrel
 have Bm:Nat.min aW.length (hi-lo)=min aW.length (hi-lo):=rfl;by_cases ae:min aW.length (hi-lo)=0
 ·have R3:nu xs aW lo hi=xs:=by
   apply jN;intro i;rw[X7 J R,if_neg (by omega)]
  refine gm w rfl rfl rfl rfl (fun _ _=>rfl) (fun _=>rfl) (by rw[R3];exact t1) ?_;rw[ab,Nt,ae];exact run_copy_none w T jR o.type Kf ad yd _ _ _ _ aY (by rw[dv.info];simp[dv.size,el]) (by rw[Bm];exact ae)
 ·rcases Bt with aV|⟨b,off,cap,Bo,rfl⟩
  ·omega
  rw[Bo] at t1;obtain⟨aAY,fW,aA,aX⟩:=t1;simp only[hL,Value.slice.injEq,and_true] at aA;obtain⟨rfl,_,rfl⟩:=aA;rcases aX with⟨ek,_⟩|⟨c3,T5,dR,ek,ou,bS,bt,cY,c7⟩
  ·cases ek
  cases ek;have bt:xs.length<=cap:=bt;have bS:dR.length=xs.length:=bS;have MZ:dR.flatten=[]:=Ri (fun f aH=>by
   obtain⟨i,d0,rfl⟩:=jO.1 aH;have Z3:i<xs.length:=(by rw[<-bS];exact d0);obtain⟨ds,_,_,c9⟩:=c7 i xs[i] dR[i] (by simp) (by simp);exact c9.pure aw)
  rw[MZ] at ou;obtain⟨news,pn,mj,po,p2⟩:=wh.cells (by omega);rw[el,Nat.mul_one] at pn;have aaM:aW≠[]:=fun e=>(by rw[e] at ae;simp at ae);obtain⟨Ps,rfl⟩:∃Ps,yd=some Ps:=by
   rcases wh.2 with h|⟨dF,kZ,rfl,_⟩
   ·exact absurd h aaM
   ·exact⟨_,rfl⟩
  let cs:=news.take (min aW.length (hi-lo))
  have mO:cs.length=min aW.length (hi-lo):=(by simp[cs,pn]);have aoX:∀j v,cs[j]?=some v->news[j]?=some v:=fun j v ao=>by
   rw[zU] at ao;split at ao
   ·exact ao
   ·cases ao
  have pU:∀j,j<cs.length->(w.cell? ⟨b,off+lo+j,none⟩).isSome=true:=fun j ao=>(cY (off+lo+j) (by omega) (by rw[el];omega)).1;have eP:=run_copy_cells (P:=E.P) w T jR o.type Kf b (off+lo) (hi-lo) c Ps aW.length aAu cs aY (by rw[dv.info];simp[dv.size,el]) (by rw[mO]) (fun j v ao=>po Ps rfl aaM j v (aoX j v ao)) pU (fun j ao=>(cY (off+lo+j) (by omega) (by rw[el];omega)).2) (fun v hv=>mj v (List.mem_of_mem_take hv));have ZG:b∈fp id:=(by rw[ou];simp);have bF:∀m k,bP I C.B m k->k≠b:=fun m k ak e=>aq.notM ah b ZG m (e▸ak);refine gm (w.setCells b (off+lo) cs) (E1 b cs _ w) (u5 b cs _ w).1 (u5 b cs _ w).2.1 (u5 b cs _ w).2.2 (fun k ae=>Jn b cs _ w k (fun e=>ae (e▸ZG))) (fun k=>Iq _ _ _ _ _) ?_ ?_
  ·rw[Bo,ou];refine⟨some ⟨b,off,none⟩,cap,by rw[Qo J R],.inr ⟨b,off,List.replicate xs.length [],rfl,by rw[Ri (fun f aH=>List.eq_of_mem_replicate aH)],by rw[Qo J R];simp,by rw[Qo J R];exact bt,?_,?_⟩⟩
   ·intro j HN pY;obtain⟨Cz,zH⟩:=cY j HN pY;exact⟨by rw[<-Cz,show j=(off+lo)+j-(off+lo) by omega];exact(Vf b cs (off+lo) w pU _).trans (by congr 1),by rw[World.frozen?_setCells];exact zH⟩
   ·intro i z f a2 aH;have apb:f=[]:=by
     have:=oP aH;exact List.eq_of_mem_replicate this
    subst apb;rw[X7 J R] at a2;have mono:∀{ds:List Value} {z:σ.den},br (bP I C.B) w σ ds z []->br (bP I C.B) (w.setCells b (off+lo) cs) σ ds z []:=fun hr=>hr.mono (fun m k ak=>⟨ak,xe (bF m k ak)⟩) (by simp);split at a2
    ·rename_i DV;have ao:i-lo<cs.length:=(by omega);have apj:dQ[i-lo]?=some []:=by
      have Si:i-lo<dQ.length:=(by rw[wh.1];omega);rw[cr Si];have:dQ[i-lo]∈dQ:=dy Si;congr 1;exact(List.flatten_eq_nil_iff.1 sV) _ this
     have hr:=p2 (i-lo) z [] a2 apj;rw[el,Nat.mul_one] at hr;have ao3:(news.drop (i-lo)).take 1=[cs[i-lo]]:=(by have apu:i-lo<news.length:=(by omega);rw[PA apu];simp only[List.take_succ_cons,List.take_zero,hL,and_true];simp[cs]);rw[ao3] at hr;refine⟨[cs[i-lo]],by simp[el],?_,mono hr⟩;intro j v hv;cases j with
     |zero=>
      simp only[lX,cS] at hv;subst hv;have:=World.cell?_setCells_in b cs (off+lo) w pU (i-lo) ao;rw[<-this,el];congr 2;omega
     |succ j=>simp at hv
    ·rename_i Ss;have kT:i<xs.length:=(fu.1 a2).1;obtain⟨ds,cK,cG,c9⟩:=c7 i z (dR[i]'(by omega)) a2 (by simp)
     have aE:dR[i]'(by omega)=[]:=c9.pure aw
     rw[aE] at c9;refine⟨ds,cK,?_,mono c9⟩;intro j v hv;have:=cG j v hv;have ao:j<ds.length:=(fu.1 hv).1;rw[World.cell?_setCells_out b cs (off+lo) w _ (fun _ _=>?_)]
     ·exact this
     ·rw[cK,el] at ao;simp only[el];omega
  ·rw[ab,Nt];have:goInt ((min aW.length (hi-lo):Nat):Int)=goInt cs.length:=(by rw[mO]);rw[this];exact eP
theorem d9.copy {aT:Type} {r:aT} {K:b7->Option aT} {T jR:TypeId} {x y:Operand} {d:Nat} (aJ:o.op=.call {callee:=.builtin .copy,args:=#[x,y],argTypes:=#[T,jR]}) (aP:o.dst=some d) (dc:C.ok d) (h:vL E.tt st.h d T (bu st.g x) (bu st.g y) K=some r):d9 E C o st (fun s=>∃e,K e=some r/\s=e.app st):=by
 rintro a w ⟨I,rt,fp,aq⟩ next X et
 have ab:=aq.bu x;unfold vL at h;split at h
 ·cases h
 rename_i u aR;split at h
 ·rename_i id ex;split at h
  case h_2=>cases h
  rename_i σ xs ah;cases aa:(bI u σ&&Nat.beq σ.size 1&&σ.pure) with
  |false=>rw[aa] at h;cases h
  |true=>
  rw[aa] at h;simp only[bW] at aa;obtain⟨aW,g2,h⟩:=dA.1 h;rw[ex] at ab;generalize hv:a.eval x=v at ab;cases ab with|ref bC ag=>
  rw[ah] at bC;cases bC;obtain⟨rfl,rfl,rfl⟩:=bv.f6.1 ag;have t1:=(aq.tree id _ ah).1;obtain⟨ad,cap,aA,aX⟩:=t1;have kC:a.eval x=.slice ad (xs.length-0) cap:=(by rw[hv,aA];rfl);refine Qn aq aJ aP dc et aR aa.1.1 (fi aa.1.2) aa.2 ah (eX _) (bU _) (V0 aq g2) kC ?_ h;rcases aX with⟨_,rfl,_⟩|⟨b,off,dR,rfl,_⟩
  ·exact .inl rfl
  ·exact .inr ⟨b,off,cap,aA,rfl⟩
 ·rename_i id lo hi ex;split at h
  case h_2=>cases h
  rename_i σ xs ah;cases aa:(bI u σ&&Nat.beq σ.size 1&&σ.pure) with
  |false=>rw[aa] at h;cases h
  |true=>
  rw[aa] at h;simp only[bW] at aa;obtain⟨aW,g2,h⟩:=dA.1 h;rw[ex] at ab;generalize hv:a.eval x=v at ab;cases ab with|oE=>(exact Qn aq aJ aP dc et aR aa.1.1 (fi aa.1.2) aa.2 ah (bU _) (eX _) (V0 aq g2) hv (.inl rfl) h)|view bC ag dp l2 mZ=>
  rw[ah] at bC;cases bC;rename_i τ' loc b off len cap;obtain⟨ek,_,bY⟩:=bv.f6.1 ag;have ek:au.osl σ=au.osl τ':=ek;cases ek;have el:=fi aa.1.2;have t1:=(aq.tree id _ ah).1;obtain⟨ad,fW,aA,aX⟩:=t1;rw[aA] at bY;simp only[hL,Value.slice.injEq,and_true] at bY;obtain⟨rfl,rfl,rfl⟩:=bY;refine Qn aq aJ aP dc et aR aa.1.1 el aa.2 ah dp l2 (V0 aq g2) hv ?_ h;by_cases hc:fW=lo
  ·left;omega
  ·exact .inr ⟨b,off,fW,aA,by rw[if_neg hc,el,Nat.mul_one]⟩
 ·cases h
end
end
section
theorem bv.cells {w w':World} (h:∀a,w'.cell? a=w.cell? a):∀{p:List bB} {τ τ':au} {loc dN:Loc} {cs cc:List Value},bv w τ loc cs p τ' dN cc->bv w' τ loc cs p τ' dN cc
 |[],τ,_,_,_,_,_,ag=>by cases τ<;>exact ag
 |s::p,τ,τ',loc,dN,cs,cc,ag=>by
  have kh:∀{b o:Nat} {ds:List Value},eI w b o ds->eI w' b o ds:=fun aC j v ao=>(by rw[h];exact aC j v ao);cases τ<;>cases s<;>simp only[bv] at ag
  case osl.idx t i=>
   obtain⟨b,o,len,cap,ds,J,R,ac,aL,aY⟩:=ag;exact⟨b,o,len,cap,ds,J,R,ac,kh aL,aY.cells h⟩
  case optr.deref t=>
   obtain⟨b,o,ds,J,R,ac,aL⟩:=ag;exact⟨b,o,ds,J,R,kh ac,aL.cells h⟩
  case st.unst t=>exact bv.cells h (τ:=t) ag
  case pr.fst a b=>exact bv.cells h (τ:=a) ag
  case pr.snd a b=>exact bv.cells h (τ:=b) ag
theorem azp (τ:au):eD τ []=some τ:=by cases τ<;>rfl
theorem bv.E7 {w:World} {r:List bB}:∀{p:List bB} {τ τ':au} {l l':Loc} {cs cc:List Value},bv w τ l cs p τ' l' cc->eD τ (p++r)=eD τ' r
 |[],τ,_,_,_,_,_,h=>by obtain⟨rfl,_⟩:=bv.f6.1 h;rfl
 |s::p,τ,_,_,_,_,_,h=>by
  cases τ<;>cases s<;>simp only[bv] at h
  case osl.idx t i=>obtain⟨b,o,len,cap,ds,J,R,ac,aL,aY⟩:=h;exact aY.E7
  case optr.deref t=>obtain⟨b,o,ds,J,R,ac,aL⟩:=h;exact aL.E7
  case st.unst t=>exact bv.E7 (p:=p) (τ:=t) h
  case pr.fst t1 t2=>exact bv.E7 (p:=p) (τ:=t1) h
  case pr.snd t1 t2=>exact bv.E7 (p:=p) (τ:=t2) h
section
variable {E:eV} {C:eb} {st:bj} {a:Act} {b3:Array Value} {w:World} {I:Nat->Prop} {rt:Nat->List Value} {fp:Nat->List Nat} {o:Oper} {Q:bj->Prop}
theorem Yf:∀{p q:List bB},mH (p++[.deref]) q=true->mH p q=true
 |[],q,h=>by
  cases q with
  |nil=>cases h
  |cons s q=>
   cases s<;>cases h
 |s::p,[],h=>by cases s<;>cases h
 |s::p,s'::q,h=>by cases s<;>cases s'<;>first|(cases h;done)|exact Yf (p:=p) (q:=q) h|rfl
theorem cx.N0 (aq:cx C st b3 w I rt fp) {id:Nat} {t:a6} (ah:aD st.h id=some t) {p:List bB} {τ τ':au} {loc:Loc} {cs:List Value} (ag:bv w t.1 none (rt id) p τ' loc cs) {l:List (Int×τ.den)} {c:Nat} (aG:dD t.1 t.2 p (.mp τ) (some (l,c))):∃b bK L,cs=[.map (some b)]/\b∈fp id/\(∀m k,bP I C.B m k->k≠b)/\hl (bP I C.B) w τ b l c bK L/\∀{es':Array MapEntry} {c':Nat} {l':List (Int×τ.den)} {iu:List (Int×Nat×τ.den)} {z:t.1.den},hl (bP I C.B) (gy w b es' c') τ b l' c' es' iu->my w (gy w b es' c') b->er t.1 t.2 p (.mp τ) (some (l',c')) z->∃rtn fpn,cx C ⟨kill [id] [(id,p++[.deref])] st.g,(id,⟨t.1,z⟩)::del [id] st.h⟩ b3 (gy w b es' c') I rtn fpn:=by
 obtain⟨hr,D0,MV⟩:=aq.tree id t ah;obtain⟨dN,Qp,ij,dT,bS,bt,cY,c7,g0,kx,oi⟩:=G3 p (loc:=none) hr (fun _ _ h=>by cases h) D0 (fun _ _ h=>by cases h) (aq.notM ah) aG;obtain⟨ek,aA,aX⟩:=ag.ku bS;subst ek;subst aA;subst aX;obtain⟨b,bK,L,rfl,rfl,bF⟩:=bt.ab0;have aa:b∈fp id:=c7.mem_iff.2 (by simp);have o4:∀m k,bP I C.B m k->k≠b:=fun m k ae e=>aq.notM ah b aa m (e▸ae);refine⟨b,bK,L,rfl,aa,o4,bF,?_⟩;intro es' c' l' iu z RN R7 hs;have qD:=c7.nodup_iff.1 D0;rw[kL] at qD;have lJ:∀k∈dT,k≠b:=fun k ae e=>qD.2.2 b (by simp) k ae e.symm;have pU:=ayv (es':=es') (c':=c') bF.h;have apf:=ayw (es':=es') (c':=c') bF.h;have D6:∀k,k≠b->df w (gy w b es' c') k:=fun k ae=>OU ae;obtain⟨fD,g6,bk,_,bD,_,cm,_,iG⟩:=kx (gy w b es' c') (bP I C.B) [.map (some b)] (some (l',c')) [b] z (fun _ _ h=>h) (fun k ae=>by
   have apw:k≠b:=by
    rcases ae with⟨m,ak⟩|ae|⟨o,aJ⟩
    ·exact o4 m k ak
    ·exact lJ k ae
    ·cases aJ
   exact⟨fun j _=>pU _,fun j=>apf _,fun j=>by rw[pU],(D6 k apw).2⟩)
  (br.ab1 RN) (fun _ _=>rfl) (fun dg hu e=>by
   have:=(cY dg hu e).1;exact fun j v ao=>by rw[pU];exact this j v ao) hs
 obtain rfl:=bD rfl (.inr rfl);have ca:=(MV b aa).2.2.1;have aR:qo C st w (gy w b es' c') I I rt fp [id] [(id,p++[.deref])] [(id,⟨t.1,z⟩)] (fun _=>rt id) (fun _=>g6):=by
  refine⟨by rw[aeD];exact bU _,rfl,rfl,rfl,?_,?_,fun _ h=>h,fun _ h=>.inl h,?_,?_,?_,?_⟩
  ·intro k _ ae;exact Jo (fun e=>ae id (by simp) t ah (e▸aa))
  ·intro k _;by_cases e:k=b
   ·subst e;exact R7
   ·exact .of_heap (Jo e)
  ·intro i u aR;rw[dq] at aR;split at aR
   ·rename_i e;subst e;cases aR;refine⟨.inl (by simp),bk,?_,fun k ae=>?_⟩
    ·rw[cm.nodup_iff,<-c7.nodup_iff];exact D0
    ·have k9:k∈fp id:=c7.mem_iff.2 (cm.mem_iff.1 ae);obtain⟨aN,aM,bb,bH⟩:=MV k k9;exact⟨aN,by rw[aeD];exact bb,.inr ⟨id,by simp,t,ah,k9⟩⟩
   ·cases aR
  ·intro i j u v hi ao dJ;rw[dq] at hi ao;split at hi
   ·split at ao
    ·rename_i aA aX;exact absurd (aA.symm.trans aX) dJ
    ·cases ao
   ·cases hi
  ·intro i hi u aR;simp only[fh] at hi;subst hi;rw[ah] at aR;obtain rfl:=fH aR;refine⟨⟨t.1,z⟩,by rw[dq,if_pos rfl],rfl,rfl,?_,fun q gV hF gQ _ aj=>aj.cells pU⟩;have J:=ag.E7 (r:=[.deref]);have:∃n4,eD (.mp τ) [.deref]=some n4:=⟨τ,azp τ⟩;rw[J];exact this
  ·intro i hi u aR q gA VO l2 cw cE aP fX h1 iE fm;simp only[fh] at hi;subst hi;rw[ah] at aR;obtain rfl:=fH aR;have aP:=Yf aP;refine⟨⟨t.1,z⟩,by rw[dq,if_pos rfl],AO aP hs iE,fun k ae=>?_⟩;obtain⟨aN,aM⟩:=oi q _ _ _ _ _ aP (by exact fX) iE h1 fm k ae;exact⟨cm.mem_iff.2 (pI _ aN),D6 k (lJ k aN)⟩
 exact⟨_,_,aq.fO aR⟩
def wL {α:Type} (m:Option (List (Int×α)×Nat)) (k:Int) (v:α):Option (Option (List (Int×α)×Nat)):=match m with
 |none=>none
 |some q=>some (some (jH q.1 k v,bif (e9 q.1 k).isSome then q.2 else q.2+1))
def rS {aT:Type} (tt:List (TypeId×au)) (h:List (Nat×a6)) (T:TypeId) (x k v:ax) (K:b7->Option aT):Option aT:=
 match x with
 |.ref id p=>match aD h id with
  |some cg=>match mY tt T,k,v with
   |some u,.val (.int .i64) k,.val τ y=>match eD cg.1 p with
    |some (.mp t)=>bif bI u t then match iA t y with
     |some y=>(il cg.1 cg.2 p (.mp t)).bind fun gv=>(wL (α:=t.den) gv k y).bind fun wT=>(pw cg.1 cg.2 p (.mp t) wT).bind fun z=>K ⟨none,[id],[(id,p++[.deref])],[(id,⟨cg.1,z⟩)]⟩
     |none=>none
     else none
    |_=>none
   |_,_,_=>none
  |none=>none
 |_=>none
def asd {α:Type} (m:Option (List (Int×α)×Nat)) (k:Int):Option (Option (List (Int×α)×Nat)):=match m with
 |none=>none
 |some q=>some (some (kl q.1 k,q.2))
def wR {aT:Type} (tt:List (TypeId×au)) (h:List (Nat×a6)) (T:TypeId) (x k:ax) (K:b7->Option aT):Option aT:=
 match x with
 |.ref id p=>match aD h id with
  |some cg=>match mY tt T,k with
   |some u,.val (.int .i64) k=>match eD cg.1 p with
    |some (.mp t)=>bif bI u t then
     (il cg.1 cg.2 p (.mp t)).bind fun gv=>(asd (α:=t.den) gv k).bind fun wT=>(pw cg.1 cg.2 p (.mp t) wT).bind fun z=>K ⟨none,[id],[(id,p++[.deref])],[(id,⟨cg.1,z⟩)]⟩
     else none
    |_=>none
   |_,_=>none
  |none=>none
 |_=>none
theorem ab4 {aT:Type} {r:aT} {K:b7->Option aT} {T:TypeId} {x k v:Operand} (aJ:o.op=.mapUpdate T x k v\/o.op=.insert T x k v) (qA:o.dst=none) (h:rS E.tt st.h T (bu st.g x) (bu st.g k) (bu st.g v) K=some r):d9 E C o st (fun s=>∃e,K e=some r/\s=e.app st):=by
 rintro a w ⟨I,rt,fp,aq⟩ next X et
 have ab:=aq.bu x;have ae:=aq.bu k;have hv:=aq.bu v;unfold rS at h;split at h
 case h_2=>cases h
 rename_i id p ex;split at h
 case h_2=>cases h
 rename_i cg ah;split at h
 case h_2=>cases h
 rename_i u n τ fP bm ui iB;obtain⟨Pz,S,t1,t2,t3⟩:=mY.ok bm;split at h
 case h_2=>cases h
 rename_i t fZ;cases aa:bI u t with
 |false=>rw[aa] at h;cases h
 |true=>
 rw[aa] at h;simp only[cond_true] at h;split at h
 case h_2=>cases h
 rename_i y aB;obtain⟨gv,aG,J⟩:=dA.1 h;obtain⟨wT,ak,R⟩:=dA.1 J;obtain⟨z,a2,ac⟩:=dA.1 R;cases gv with
 |none=>cases ak
 |some q=>
 obtain⟨l,c⟩:=q;cases ak;cases l5 aB;rw[ex] at ab;rw[ui] at ae;rw[iB] at hv;generalize iV:a.eval x=Fb at ab;generalize yx:a.eval k=Tj at ae;generalize s3:a.eval v=Cs at hv;cases ae with|val Cd=>
 obtain⟨_,rfl⟩:=Cd;cases hv with|val fa=>
 cases ab with|ref bC ag=>
 rw[ah] at bC;cases bC;obtain⟨b,bK,L,rfl,aa,o4,bF,nF⟩:=aq.N0 ah ag (jy aG);have:=ag.ty;rw[fZ] at this;cases this;obtain⟨es',iu,aN,aM,bb⟩:=bF.update (P:=E.P) t1 t2 n fa.len fa;obtain⟨rtn,fpn,eK⟩:=nF (aM (fun m k ae=>⟨ae,o4 m k ae⟩)) bb (qd a2);unfold Oper.wp;have eP:(execOp a.eval o).run E.P w=.ok .skip (gy w b es' (bif (e9 l n).isSome then c else c+1)):=by
  have this:∀t:au,cQ (.mp t) [Value.map (some b)]=.map (some b):=fun _=>rfl;rcases aJ with aJ|aJ<;>
  ·simp only[execOp,aJ,iV,yx,s3,Sem.run_bind];rw[this,show cQ (.int .i64) [Value.int .i64 n]=.int .i64 n from rfl,aN];rfl
 rw[eP];show next (a.put o.dst undef) _
 rw[qA];refine et _ _ _ ⟨_,ac,?_⟩ rfl ⟨I,rtn,fpn,eK⟩;rfl
theorem asJ {aT:Type} {r:aT} {K:b7->Option aT} {T tZ:TypeId} {x k:Operand} (aJ:o.op=.call {callee:=.builtin .delete,args:=#[x,k],argTypes:=#[T,tZ]}) (qA:o.dst=none) (h:wR E.tt st.h T (bu st.g x) (bu st.g k) K=some r):d9 E C o st (fun s=>∃e,K e=some r/\s=e.app st):=by
 rintro a w ⟨I,rt,fp,aq⟩ next X et
 have ab:=aq.bu x;have ae:=aq.bu k;unfold wR at h;split at h
 case h_2=>cases h
 rename_i id p ex;split at h
 case h_2=>cases h
 rename_i cg ah;split at h
 case h_2=>cases h
 rename_i u n bm ui;obtain⟨Pz,S,t1,t2,t3⟩:=mY.ok bm;split at h
 case h_2=>cases h
 rename_i t fZ;cases aa:bI u t with
 |false=>rw[aa] at h;cases h
 |true=>
 rw[aa] at h;simp only[cond_true] at h;obtain⟨gv,aG,J⟩:=dA.1 h;obtain⟨wT,ak,R⟩:=dA.1 J;obtain⟨z,a2,ac⟩:=dA.1 R;cases gv with
 |none=>cases ak
 |some q=>
 obtain⟨l,c⟩:=q;cases ak;rw[ex] at ab;rw[ui] at ae;generalize iV:a.eval x=Fb at ab;generalize yx:a.eval k=Tj at ae;cases ae with|val Cd=>
 obtain⟨_,rfl⟩:=Cd;cases ab with|ref bC ag=>
 rw[ah] at bC;cases bC;obtain⟨b,bK,L,rfl,aa,o4,bF,nF⟩:=aq.N0 ah ag (jy aG);have:=ag.ty;rw[fZ] at this;cases this;obtain⟨es',iu,aN,aM,bb⟩:=bF.delete (P:=E.P) t1 t2 n o.type tZ;obtain⟨rtn,fpn,eK⟩:=nF (aM (fun m k ae=>⟨ae,o4 m k ae⟩)) bb (qd a2);unfold Oper.wp;have eP:(execOp a.eval o).run E.P w=.ok (.value (.tuple #[])) (gy w b es' c):=(by simp only[execOp,aJ,resolve,invoke,builtin,Sem.run_bind,Sem.run_pure,Result.andThen_ok,FA,ff,xL,iV,yx];have this:∀t:au,cQ (.mp t) [Value.map (some b)]=.map (some b):=fun _=>rfl;rw[this,show cQ (.int .i64) [Value.int .i64 n]=.int .i64 n from rfl,aN];rfl);rw[eP];show next (a.put o.dst (.tuple #[])) _
 rw[qA];refine et _ _ _ ⟨_,ac,?_⟩ rfl ⟨I,rtn,fpn,eK⟩;rfl
def BX (h:List (Nat×a6)) (x y:ax):Option (Nat×List bB×Nat×a6):=match x,y with
 |.ref id (s::p),.ref c2 []=>match aD h c2 with
  |some t=>match t.1 with
   |.osl σ=>match σ.pure with
    |true=>none
    |false=>some (id,s::p,c2,t)
   |_=>none
  |none=>none
 |_,_=>none
def FJ {aT:Type} (tt:List (TypeId×au)) (h:List (Nat×a6)) (d:Nat) (T:TypeId) (id:Nat) (p:List bB) (c2:Nat) (t2:a6) (K:b7->Option aT):Option aT:=
 match gr tt T,aD h id,aD h d with
 |some u,some cg,none=>match eD cg.1 p with
  |some (.osl σ)=>match iA (.osl σ) t2.2 with
   |some aW=>bif bI u σ&&(Nat.ble σ.size 1300&&(σ.f5&&!(Nat.beq c2 id))) then
     (il cg.1 cg.2 p (.osl σ)).bind fun xs=>(di (List.length (α:=σ.den) xs+List.length (α:=σ.den) aW)).bind fun _=>K ⟨some (d,.app id p σ aW [d,c2]),[id],[(id,p),(id,[])],[(d,⟨.dG,()⟩),(id,cg)]⟩
    else none
   |none=>none
  |_=>none
 |_,_,_=>none
def rp {aT:Type} (tt:List (TypeId×au)) (an:List (Nat×au)) (h:List (Nat×a6)) (d:Nat) (T:TypeId) (x y:ax) (K:b7->Option aT):Option aT:=match BX h x y with
 |some (id,p,c2,t)=>FJ tt h d T id p c2 t K
 |none=>sv tt an h d T x y K
theorem Uw {h:List (Nat×a6)} {x y:ax} {id:Nat} {p:List bB} {c2:Nat} {t:a6} (ay:BX h x y=some (id,p,c2,t)):x=.ref id p/\y=.ref c2 []/\aD h c2=some t:=by
 unfold BX at ay;split at ay
 ·split at ay
  ·rename_i t' ah;split at ay
   ·split at ay
    ·cases ay
    ·cases ay;exact⟨rfl,rfl,ah⟩
   ·cases ay
  ·cases ay
 ·cases ay
theorem akh {aT:Type} {r:aT} {K:b7->Option aT} {an:List (Nat×au)} {T:TypeId} {x y:Operand} {d:Nat} (aJ:o.op=.call {callee:=.builtin .append,args:=#[x,y],argTypes:=#[T,T]}) (aP:o.dst=some d) (dc:C.ok d) (h:rp E.tt an st.h d T (bu st.g x) (bu st.g y) K=some r):d9 E C o st (fun s=>∃e,K e=some r/\s=e.app st):=by
 unfold rp at h;split at h
 case h_2=>exact d9.app aJ aP dc (ake h (fun e aE=>⟨e,aE,rfl⟩))
 rename_i id p c2 t2 nI;obtain⟨nE,wh,lc⟩:=Uw nI;unfold FJ at h;split at h
 case h_2=>cases h
 rename_i u cg bm ah ki;split at h
 case h_2=>cases h
 rename_i σ fZ;split at h
 case h_2=>cases h
 rename_i aW g2;cases aa:(bI u σ&&(Nat.ble σ.size 1300&&(σ.f5&&!(Nat.beq c2 id)))) with
 |false=>rw[aa] at h;cases h
 |true=>
 rw[aa] at h;simp only[bW] at aa;obtain⟨ai,el,fX,cX⟩:=aa;have cX:c2≠id:=fun e=>(by subst e;rw[xN] at cX;cases cX);obtain⟨xs,ab,J⟩:=dA.1 h;obtain⟨_,g9,R⟩:=dA.1 J;obtain⟨gA,dU⟩:=t2;cases l5 g2;rintro a w ⟨I,rt,fp,aq⟩ next X et
 refine W7 (S2:=[c2]) aJ aP dc aq et bm ai (fQ el) fX nE ah ki (jy ab) ?_ ?_ (Eo g9) ⟨_,R,rfl⟩
 ·have aB:=aq.bu y;rw[wh] at aB;generalize s3:a.eval y=Cs at aB;cases aB with|ref bC iU=>
  rw[lc] at bC;cases bC;obtain⟨rfl,rfl,rfl⟩:=bv.f6.1 iU;obtain⟨b2,bo,a5⟩:=aq.tree c2 _ lc;have B6:=b2;obtain⟨ad,cap,Bo,lJ⟩:=B6;have EO:br (bP I C.B) w (.osl σ) [.slice ad (List.length (α:=σ.den) dU) cap] dU (fp c2):=(by rw[<-Bo];exact b2);obtain⟨_,_,dQ,aE,ky,mb,_⟩:=lV.osl EO;exact⟨ad,cap,dQ,by rw[Bo];rfl,aE,mb bo,fun b aa=>⟨c2,by simp,_,lc,ky b aa⟩⟩
 ·intro i hi;simp only[fh] at hi;subst hi;exact⟨cX,_,lc⟩
end
end
section
section
variable {P:Program} {w:World} {b c:Nat} {bK:Array MapEntry} {M:dE->Nat->Prop} {t:au} {l:List (Int×t.den)} {L:List (Int×Nat×t.den)}
theorem Vg {Q6 GW:Array MapEntry} {da cw:Nat} (h:w.heap[b]?=some (.map bK c)) (e:gy w b Q6 da=gy w b GW cw):Q6=GW/\da=cw:=by have J:=q0 (es':=Q6) (c':=da) h;rw[e,q0 h] at J;simp only[cS,Obj.map.injEq] at J;exact⟨J.1.symm,J.2.symm⟩
theorem hl.Xi (h:hl M w t b l c bK L) {i:Nat} {e:MapEntry} (hi:bK[i]?=some e):∃q ds,L[i]?=some q/\e=⟨.int .i64 q.1,cQ t ds,q.2.1⟩:=by have ai:i<L.length:=(by have:=(q7.1 hi).1;rw[h.n] at this;exact this);obtain⟨ds,_,R,_⟩:=h.e i L[i] (cr ai);rw[hi] at R;exact⟨L[i],ds,cr ai,fH R⟩
theorem hl.azA (h:hl M w t b l c bK L) {i j:Nat} {p q:Int×Nat×t.den} (hi:L[i]?=some p) (ao:L[j]?=some q) (e:p.1=q.1):i=j:=by have eA:=h.td.EC;have kT:i<(L.map (·.1)).length:=(by have:=(fu.1 hi).1;simpa using this);apply(List.getElem?_inj kT eA (i:=i) (j:=j)).1;rw[gB,gB,hi,ao];simp[e]
theorem hl.azz (h:hl M w t b l c bK L) {i j:Nat} {p q:Int×Nat×t.den} (hi:L[i]?=some p) (ao:L[j]?=some q) (e:p.2.1=q.2.1):i=j:=by have eA:=h.td.2.2.1;have kT:i<(L.map fun q=>q.2.1).length:=(by have:=(fu.1 hi).1;simpa using this);apply(List.getElem?_inj kT eA (i:=i) (j:=j)).1;rw[gB,gB,hi,ao];simp[e]
theorem abZ {α:Type} {xs:Array α} {i:Nat} {f g:α->α} (h:∀e,xs[i]?=some e->f e=g e):xs.modify i f=xs.modify i g:=by
 apply Array.ext_getElem?;intro j;rw[xA,xA];split
 ·rename_i e;subst e;cases ab:xs[i]? with
  |none=>rfl
  |some x=>simp[h x ab]
 ·rfl
theorem hl.entry (h:hl M w t b l c bK L) {T K D:TypeId} {kd:IntKind} (bm:P.underlying T=some (.map K D)) (cA:P.underlying K=some (.int kd)) (k:Int) {z:t.den} {zs:List Value} (Bv:zs.length=t.size) (a2:br M w t zs z []) (Ea:∀w,(zeroValue D).run P w=.ok (cQ t zs) w):∃(es':Array MapEntry) (iu:List (Int×Nat×t.den)) (ds:List Value) (s i:Nat),(Instr.mapEntry T (.map (some b)) (.int .i64 k)).run P w=.ok (.tuple #[cQ t ds,goInt ((s:Nat):Int)]) (gy w b es' (bif (e9 l k).isSome then c else c+1))/\br M w t ds ((e9 l k).getD z) []/\es'[i]?=some (MapEntry.mk (.int .i64 k) (cQ t ds) s)/\(∀{eJ:dE->Nat->Prop},(∀m k,M m k->eJ m k/\k≠b)->hl eJ (gy w b es' (bif (e9 l k).isSome then c else c+1)) t b (jH l k ((e9 l k).getD z)) (bif (e9 l k).isSome then c else c+1) es' iu)/\my w (gy w b es' (bif (e9 l k).isSome then c else c+1)) b:=by
 rcases h.find (P:=P) cA k with⟨J,R,ac⟩|⟨i,s,fP,ye,J,R,ac,aL,aY,bG⟩
 ·obtain⟨es',iu,aN,aM,bb⟩:=h.update (P:=P) bm cA k Bv a2;rw[J] at aN aM bb|-;simp only[Option.isSome_none,cond_false,Option.getD_none] at aN aM bb|-;have bH:(Instr.mapUpdate T (.map (some b)) (.int .i64 k) (cQ t zs)).run P w=.ok () (gy w b (bK.push ⟨.int .i64 k,cQ t zs,c⟩) (c+1)):=by
   simp only[Instr.mapUpdate,Sem.run_bind,run_underlying bm,Result.andThen_ok,run_getObj_map h.h,r0 cA,ac];exact u1 h.h
  rw[aN] at bH;simp only[Result.ok.injEq,true_and] at bH;obtain⟨rfl,_⟩:=Vg h.h bH;refine⟨_,iu,zs,c,bK.size,?_,a2,by rw[Fl,if_pos rfl],aM,bb⟩;simp only[Instr.mapEntry,Sem.run_bind,run_underlying bm,Result.andThen_ok,run_getObj_map h.h,r0 cA,ac,Ea,u1 h.h,Sem.run_pure];rfl
 ·obtain⟨es',iu,aN,aM,bb⟩:=h.update (P:=P) bm cA k ac aY;rw[J] at aN aM bb|-;simp only[Kd,cond_true,xO] at aN aM bb|-;have DW:(Instr.keyThatStays (((bK[i]?).map (·.key)).getD (.int .i64 k)) (.int .i64 k)).run P w=.ok (.int .i64 k) w:=by
   rw[aL];simp[Instr.keyThatStays,Instr.sameBits]
  have bH:(Instr.mapUpdate T (.map (some b)) (.int .i64 k) (cQ t ye)).run P w=.ok () (gy w b (bK.modify i fun e=>{e with key:=.int .i64 k,val:=cQ t ye}) c):=(by simp only[Instr.mapUpdate,Sem.run_bind,run_underlying bm,Result.andThen_ok,run_getObj_map h.h,r0 cA,bG,DW];exact u1 h.h);rw[aN] at bH;simp only[Result.ok.injEq,true_and] at bH;obtain⟨rfl,_⟩:=Vg h.h bH;refine⟨_,iu,ye,s,i,?_,aY,by rw[xA,if_pos rfl,aL];rfl,aM,bb⟩;have aA:(bK.modify i fun e=>{e with key:=.int .i64 k,val:=cQ t ye})=bK.modify i fun e=>{e with key:=.int .i64 k}:=abZ fun e aE=>(by rw[aL] at aE;cases aE;rfl);have aX:((bK[i]?).map fun x=>((x.born:Nat):Int)).getD 0=(s:Int):=(by rw[aL];rfl);simp only[Instr.mapEntry,Sem.run_bind,run_underlying bm,Result.andThen_ok,run_getObj_map h.h,r0 cA,bG,DW,u1 h.h,Sem.run_pure,aA,aX];rfl
theorem hl.amK (h:hl M w t b l c bK L) {i:Nat} {e:MapEntry} {k:Int} (hi:bK[i]?=some e) (ae:e.key=.int .i64 k) {T K D:TypeId} {kd:IntKind} (bm:P.underlying T=some (.map K D)) (cA:P.underlying K=some (.int kd)) {y:t.den} {ds:List Value} (aP:ds.length=t.size) (aB:br M w t ds y []):∃es' iu,(Instr.entryStore T (.map (some b)) (.int .i64 (e.born:Int)) (cQ t ds)).run P w=.ok () (gy w b es' (bif (e9 l k).isSome then c else c+1))/\(∀{eJ:dE->Nat->Prop},(∀m k,M m k->eJ m k/\k≠b)->hl eJ (gy w b es' (bif (e9 l k).isSome then c else c+1)) t b (jH l k y) (bif (e9 l k).isSome then c else c+1) es' iu)/\my w (gy w b es' (bif (e9 l k).isSome then c else c+1)) b:=by
 obtain⟨q,aA5,aj,aE⟩:=h.Xi hi;have aai:q.1=k:=(by rw[aE] at ae;simpa using ae);rcases h.find (P:=P) cA k with⟨J,R,ac⟩|⟨lf,s,fP,ye,J,R,ac,aL,aY,bG⟩
 ·exact absurd aai (R q (oP aj))
 obtain rfl:lf=i:=h.azA R aj (by simp[aai]);obtain⟨es',iu,aN,aM,bb⟩:=h.update (P:=P) bm cA k aP aB;rw[J] at aN aM bb|-;simp only[Kd,cond_true] at aN aM bb|-;have DW:(Instr.keyThatStays (((bK[lf]?).map (·.key)).getD (.int .i64 k)) (.int .i64 k)).run P w=.ok (.int .i64 k) w:=(by rw[aL];simp[Instr.keyThatStays,Instr.sameBits]);have bH:(Instr.mapUpdate T (.map (some b)) (.int .i64 k) (cQ t ds)).run P w=.ok () (gy w b (bK.modify lf fun e=>{e with key:=.int .i64 k,val:=cQ t ds}) c):=(by simp only[Instr.mapUpdate,Sem.run_bind,run_underlying bm,Result.andThen_ok,run_getObj_map h.h,r0 cA,bG,DW];exact u1 h.h);rw[aN] at bH;simp only[Result.ok.injEq,true_and] at bH;obtain⟨rfl,_⟩:=Vg h.h bH;refine⟨_,iu,?_,aM,bb⟩;have aA:(bK.modify lf fun e=>{e with key:=.int .i64 k,val:=cQ t ds})=bK.modify lf fun e=>{e with val:=cQ t ds}:=abZ fun dI we=>(by rw[hi] at we;cases we;rw[<-ae]);have aH:bK.findIdx? (fun x=>(x.born:Int)==(e.born:Int))=some lf:=by
  rw[Array.findIdx?_eq_some_iff_getElem];have kT:=(q7.1 hi).1;refine⟨kT,?_,fun j ao aw=>?_⟩
  ·rw[(q7.1 hi).2];simp
  ·have lH:j<bK.size:=(by omega);obtain⟨f7,iT,fN,we⟩:=h.Xi (Fk lH);have aa:(bK[j].born:Int)=(e.born:Int):=(by simpa using aw);have cZ:f7.2.1=q.2.1:=by
    have eF:bK[j].born=f7.2.1:=(by rw[we]);have pS:e.born=q.2.1:=(by rw[aE]);omega
   have:=h.azz fN aj cZ;omega
 have aC:∀(n:Int) (w:World),(asInt (.int .i64 n)).run P w=.ok n w:=fun n w=>(by simp[asInt,asIntOf]);simp only[Instr.entryStore,Sem.run_bind,Sem.run_pure,Result.andThen_ok,run_getObj_map h.h,aC,aH,u1 h.h,aA];rfl
end
def wS {aT:Type} (tt:List (TypeId×au)) (h:List (Nat×a6)) (d:Nat) (T:TypeId) (x k:ax) (K:b7->Option aT):Option aT:=
 match x with
 |.ref id p=>match aD h id with
  |some cg=>match mY tt T,k with
   |some u,.val (.int .i64) k=>match eD cg.1 p with
    |some (.mp t)=>match oF t with
     |some z=>bif bI u t then
       (il cg.1 cg.2 p (.mp t)).bind fun gv=>(wL (α:=t.den) gv k ((lM gv k).getD z)).bind fun wT=>(pw cg.1 cg.2 p (.mp t) wT).bind fun h8=>
        K ⟨some (d,.ei [.val t ((lM (α:=t.den) gv k).getD z),.l7 id p k]),[id],[(id,p++[.deref])],[(id,⟨cg.1,h8⟩)]⟩
      else none
     |none=>none
    |_=>none
   |_,_=>none
  |none=>none
 |_=>none
def v2 {aT:Type} (tt:List (TypeId×au)) (h:List (Nat×a6)) (T:TypeId) (x s v:ax) (K:b7->Option aT):Option aT:=
 match x,s with
 |.ref id p,.l7 c2 eu k=>bif Nat.beq c2 id&&nU eu p then rS tt h T (.ref id p) (.val (.int .i64) k) v K else none
 |_,_=>none
theorem er.mL:∀{p:List bB} {τ:au} {x z:τ.den} {τ':au} {y:τ'.den},er τ x p τ' y z->dD τ z p τ' y
 |[],τ,x,z,τ',y,h=>by obtain⟨e,h⟩:=er.f6.1 h;exact dD.f6.2 ⟨e,h⟩
 |s::p,τ,x,z,τ',y,h=>by
  cases τ<;>cases s<;>simp only[er] at h
  case osl.idx t i=>
   obtain⟨e,dI,aE,h,rfl⟩:=h;have hi:i<x.length:=(fu.1 aE).1;exact⟨dI,by rw[oN hi],er.mL (p:=p) h⟩
  case optr.deref t=>exact er.mL (p:=p) (τ:=t) h
  case st.unst t=>exact er.mL (p:=p) (τ:=t) h
  case pr.fst a b=>obtain⟨dI,h,rfl⟩:=h;exact er.mL (p:=p) h
  case pr.snd a b=>obtain⟨dI,h,rfl⟩:=h;exact er.mL (p:=p) h
theorem aba:∀p:List bB,hd (p++[.deref]) p=true
 |[]=>rfl
 |s::p=>by cases s<;>exact aba p
theorem arf (id:Nat) (p:List bB):e8 [id] [(id,p++[.deref])] (.ref id p)=.ref id p:=by
 have:nM [(id,p++[.deref])] (.ref id p)=true:=by
  cases p with
  |nil=>simp[nM]
  |cons s p=>
   have:=aba (s::p);simp only[nM,List.any_cons,List.any_nil,Bool.or_false,xN,Bool.true_and];exact this
 show ef _ _ _=_;unfold ef;rw[show kD [id] [(id,p++[.deref])] (.ref id p)=nM [(id,p++[.deref])] (.ref id p) from rfl,this];simp
theorem avP {g:List (Nat×ax)} {x:Operand} {id:Nat} {p:List bB} (ex:bu g x=.ref id p):bu (kill [id] [(id,p++[.deref])] g) x=.ref id p:=by
 cases x with
 |tmp j=>
  have ex:gt g j=.ref id p:=ex;have J:=sN [id] [(id,p++[bB.deref])] g j;rw[ex] at J;exact J.trans (arf id p)
 |const v=>exact absurd ex (by cases v<;>simp[bu])
 |global g=>cases ex
 |func f=>cases ex
section
variable {E:eV} {C:eb} {st:bj} {o:Oper} {Q:bj->Prop}
theorem asQ {a:Act} {w':World} {I:Nat->Prop} {rtn:Nat->List Value} {fpn:Nat->List Nat} {cz:bj} (eK:cx C cz a.tmps w' I rtn fpn) {x:Operand} {id:Nat} {p:List bB} (ex:bu cz.g x=.ref id p) {t':a6} (bp:aD cz.h id=some t') {t:au} {l':List (Int×t.den)} {c':Nat} (aG:dD t'.1 t'.2 p (.mp t) (some (l',c'))) {b:Nat} (iV:a.eval x=.map (some b)) {es':Array MapEntry} (ak:w'.heap[b]?=some (.map es' c')) {i:Nat} {e:MapEntry} (hi:es'[i]?=some e) {n:Int} (aE:e.key=.int .i64 n):cJ (bP I C.B) w' cz.h rtn fpn (.l7 id p n) (.int .i64 (e.born:Int)):=by
 have ab:=eK.bu (a:=a) x;rw[ex,iV] at ab;generalize hv:Value.map (some b)=v0 at ab;cases ab with|ref ah ag=>
 rename_i t0 V9 aBF At;rw[bp] at ah;obtain rfl:=fH ah;obtain⟨rfl,YJ,md,_,ao9⟩:=eK.mL bp aG ag;rcases md.TP with⟨e,_⟩|⟨c3,l2,cw,GW,aAV,_,rfl,rfl,_⟩
 ·cases e
 ·have aoP:b=c3:=(by simpa[cQ] using hv);subst aoP;exact .l7 bp ag (ao9 b (by simp)) (qO.2 ak) hi aE
theorem asR {aT:Type} {r:aT} {K:b7->Option aT} {T:TypeId} {x k:Operand} {d:Nat} (aJ:o.op=.mapEntry T x k) (qA:o.dst=some d) (dc:C.ok d) (h:wS E.tt st.h d T (bu st.g x) (bu st.g k) K=some r):d9 E C o st (fun s=>∃e,K e=some r/\s=e.app st):=by
 rintro a w ⟨I,rt,fp,aq⟩ next X et
 have ab:=aq.bu x;have ae:=aq.bu k;unfold wS at h;split at h
 case h_2=>cases h
 rename_i id p ex;split at h
 case h_2=>cases h
 rename_i cg ah;split at h
 case h_2=>cases h
 rename_i u n bm ui;obtain⟨Pz,S,t1,t2,t3⟩:=mY.ok bm;split at h
 case h_2=>cases h
 rename_i t fZ;split at h
 case h_2=>cases h
 rename_i z a2;cases aa:bI u t with
 |false=>rw[aa] at h;cases h
 |true=>
 rw[aa] at h;simp only[cond_true] at h;obtain⟨gv,aG,J⟩:=dA.1 h;obtain⟨wT,ak,R⟩:=dA.1 J;obtain⟨h8,Nu,ac⟩:=dA.1 R;clear h J R;cases gv with
 |none=>cases ak
 |some q=>
 obtain⟨l,c⟩:=q;rw[ex] at ab;rw[ui] at ae;generalize iV:a.eval x=Fb at ab;generalize yx:a.eval k=Tj at ae;cases ae with|val Cd=>
 obtain⟨_,rfl⟩:=Cd;cases ab with|ref bC ag=>
 rw[ah] at bC;cases bC;obtain⟨b,bK,L,rfl,Bd,o4,bF,nF⟩:=aq.N0 ah ag (jy aG);have:=ag.ty;rw[fZ] at this;cases this;obtain⟨i0,iN,Cz,zH,z3,z4⟩:=CH (t3.lay aa) a2;have Ea:∀w,(zeroValue S).run E.P w=.ok (cQ t iN.cells.toList) w:=fun w=>(by rw[<-z3];simp[zeroValue,typeInfo,Cz,zH]);have aaN:=z4 (bP I C.B) w;obtain⟨es',iu,ds,s,i,aN,aM,bb,bH,dv⟩:=bF.entry (P:=E.P) t1 t2 n aaN.len aaN Ea;have wm:lM (α:=t.den) (some (l,c)) n=e9 l n:=rfl;rw[wm] at ak ac;simp only[wL,cS] at ak;subst ak;generalize(bif (e9 l n).isSome then c else c+1)=c' at*;generalize(e9 l n).getD z=y at*;obtain⟨rtn,fpn,eK⟩:=nF (bH (fun m k ae=>⟨ae,o4 m k ae⟩)) dv (qd Nu);have eP:(execOp a.eval o).run E.P w=.ok (.value (.tuple #[cQ t ds,goInt ((s:Nat):Int)])) (gy w b es' c'):=(by simp only[execOp,aJ,iV,yx,Sem.run_bind];have this:∀t:au,cQ (.mp t) [Value.map (some b)]=.map (some b):=fun _=>rfl;rw[this,show cQ (.int .i64) [Value.int .i64 n]=.int .i64 n from rfl,aN];rfl);unfold Oper.wp;rw[eP];show next (a.put o.dst _) _
 rw[qA];have bp:aD ((id,(⟨cg.1,h8⟩:a6))::del [id] st.h) id=some ⟨cg.1,h8⟩:=(by rw[dq,if_pos rfl]);have im:br (bP I C.B) (gy w b es' c') t ds y []:=aM.mono (fun m k ae=>⟨ae,OU (o4 m k ae)⟩) (by simp);have ao6:=asQ eK (avP ex) bp (er.mL (qd Nu)) iV (q0 bF.h) bb (n:=n) rfl;refine et _ _ _ ⟨_,ac,?_⟩ rfl ⟨I,rtn,fpn,eK.put dc (av:=.ei [.val t y,.l7 id p n]) ?_⟩
 ·rfl
 ·refine .ei rfl (fun j av v J R=>?_)
  match j with
  |0=>simp at J R;subst J;subst R;exact .val im
  |1=>simp at J R;subst J;subst R;exact ao6
  |n+2=>simp at J
theorem amP {aT:Type} {r:aT} {K:b7->Option aT} {T:TypeId} {x s v:Operand} (aJ:o.op=.entryStore T x s v) (qA:o.dst=none) (h:v2 E.tt st.h T (bu st.g x) (bu st.g s) (bu st.g v) K=some r):d9 E C o st (fun s=>∃e,K e=some r/\s=e.app st):=by
 rintro a w ⟨I,rt,fp,aq⟩ next X et
 have ab:=aq.bu x;have hs:=aq.bu s;have hv:=aq.bu v;unfold v2 at h;split at h
 case h_2=>cases h
 rename_i id p c2 eu n ex GV;cases uz:(Nat.beq c2 id&&nU eu p) with
 |false=>rw[uz] at h;cases h
 |true=>
 rw[uz] at h;rw[bW] at uz;obtain rfl:=fi uz.1;obtain rfl:=nU.ok uz.2;simp only[cond_true] at h;unfold rS at h;simp only at h;split at h
 case h_2=>cases h
 rename_i cg ah;split at h
 case h_2=>cases h
 rename_i u Ix τ fP bm ui iB;simp only[ax.val.injEq,heq_eq_eq,true_and] at ui;subst ui;obtain⟨Pz,S,t1,t2,t3⟩:=mY.ok bm;split at h
 case h_2=>cases h
 rename_i t fZ;cases aa:bI u t with
 |false=>rw[aa] at h;cases h
 |true=>
 rw[aa] at h;simp only[cond_true] at h;split at h
 case h_2=>cases h
 rename_i y aB;obtain⟨gv,aG,J⟩:=dA.1 h;obtain⟨wT,ak,R⟩:=dA.1 J;obtain⟨z,a2,ac⟩:=dA.1 R;clear h J R;cases gv with
 |none=>cases ak
 |some q=>
 obtain⟨l,c⟩:=q;cases l5 aB;rw[ex] at ab;rw[GV] at hs;rw[iB] at hv;generalize iV:a.eval x=Fb at ab;generalize aqo:a.eval s=ls at hs;generalize s3:a.eval v=Cs at hv;cases hv with|val fa=>
 cases hs with|l7 aas o9 ZE aab apn Hm=>
 rw[ah] at aas;cases aas;cases ab with|ref bC ag=>
 rw[ah] at bC;cases bC;obtain⟨b,bK,L,rfl,Bd,o4,bF,nF⟩:=aq.N0 ah ag (jy aG);have:=ag.ty;rw[fZ] at this;cases this;obtain⟨aA,_,aX⟩:=ag.ku o9;simp only[hL,Value.map.injEq,cS,and_true] at aX;subst aX;rw[qO.2 bF.h] at aab;cases aab;obtain⟨es',iu,aN,aM,bb⟩:=bF.amK (P:=E.P) apn Hm t1 t2 fa.len fa;simp only[wL,cS] at ak;subst ak;generalize(bif (e9 l n).isSome then c else c+1)=c' at*;obtain⟨rtn,fpn,eK⟩:=nF (aM (fun m k ae=>⟨ae,o4 m k ae⟩)) bb (qd a2);unfold Oper.wp;have eP:(execOp a.eval o).run E.P w=.ok .skip (gy w b es' c'):=(by have this:∀t:au,cQ (.mp t) [Value.map (some b)]=.map (some b):=fun _=>rfl;simp only[execOp,aJ,iV,aqo,s3,Sem.run_bind];rw[this,aN];rfl);rw[eP];show next (a.put o.dst undef) _
 rw[qA];refine et _ _ _ ⟨_,ac,?_⟩ rfl ⟨I,rtn,fpn,eK⟩;rfl
end
end
section
structure ajW where
 c:Code
 n:Nat
 pin:Option (List Nat)
 ds:List Nat
 α:Type
 f:bj->Option α
 g:bj->α->bj
structure hj where
 tt:List (TypeId×au)
 r7:List (Nat×bh)
 an:List (Nat×au)
 n:Nat
 pin:List Nat
 kg:List (Nat×ax)
 ik:List aCv
 ayC:Option aCl
 bz:List TypeId
 aBR:List ajW
 uo:List z8
def Wc (P:Program) (T:TypeId):Prop:=∃i z d,P.info? T=some i/\i.size=1/\i.zero=some z/\z.cells.size=1/\P.underlying T=some d/\(match d with|.struct _|.array _ _=>true|_=>false)=false
def G2:List hD->List ax->Bool
 |.c n _::l,.d1 m _::as=>Nat.beq m n&&G2 l as
 |.c _ _::_,_=>false
 |_::l,_::as=>G2 l as
 |_,_=>true
def yS:List (Nat×bh)->Nat->List ax->Option bh
 |[],_,_=>none
 |(k,F)::l,f,as=>bif Nat.beq k f&&(G2 F.ps as&&(lr 0 F.ps).isNone) then some F else yS l f as
theorem Tt:∀{l:List (Nat×bh)} {f:Nat} {as:List ax} {F:bh},yS l f as=some F->∃k,(k,F)∈l
 |[],_,_,_,h=>by cases h
 |(k,G)::l,f,as,F,h=>by
  simp only[yS] at h;cases aa:(Nat.beq k f&&(G2 G.ps as&&(lr 0 G.ps).isNone)) with
  |true=>rw[aa] at h;cases h;exact⟨k,by simp⟩
  |false=>
   rw[aa] at h;obtain⟨c0,ae⟩:=Tt h;exact⟨c0,by simp[ae]⟩
theorem Tu:∀{l:List (Nat×bh)} {f:Nat} {as:List ax} {F:bh},yS l f as=some F->lr 0 F.ps=none
 |[],_,_,_,h=>by cases h
 |(k,G)::l,f,as,F,h=>by
  simp only[yS] at h;cases aa:(Nat.beq k f&&(G2 G.ps as&&(lr 0 G.ps).isNone)) with
  |true=>
   rw[aa] at h;cases h;simp only[bW] at aa;exact Option.isNone_iff_eq_none.1 aa.2.2
  |false=>
   rw[aa] at h;exact Tu h
def AS (ic:hj) (dx:rj) (s:dx.den):bj:=⟨ic.kg++rx dx.g s,AR dx.h (AT dx.g s)⟩
def hy (n:Nat) (pin:List Nat) (d:Nat):Bool:=Nat.blt d n&&!(dS d pin)
def aA (
 ic:hj) {aT:Type} (g:Operand->ax) (h:List (Nat×a6)) (o:Oper) (K:b7->Option aT):Option aT:=
 match o.dst with
 |none=>match o.op with
  |.store T x v=>xi ic.tt h T (g x) (g v) K
  |.mapUpdate T x k v=>rS ic.tt h T (g x) (g k) (g v) K
  |.insert T x k v=>rS ic.tt h T (g x) (g k) (g v) K
  |.entryStore T x s v=>v2 ic.tt h T (g x) (g s) (g v) K
  |.call {callee:=.builtin .delete,args:=xs,argTypes:=cp}=>match xs.toList,cp.toList with
   |[x,k],[T,_]=>wR ic.tt h T (g x) (g k) K
   |_,_=>none
  |_=>none
 |some d=>
   bif hy ic.n ic.pin d then
   match o.op with
   |.pick c x y=>match g c with
    |.val .bool b=>(match g x,g y with
     |.val τ u,.val τ' v=>match iA (τ:=τ') τ v with
      |some v=>K ⟨some (d,.val τ (bif b then u else v)),[],[],[]⟩
      |none=>none
     |u,v=>match b with
      |true=>K ⟨some (d,u),[],[],[]⟩
      |false=>K ⟨some (d,v),[],[],[]⟩)
    |_=>none
   |.call {callee:=.value z,args:=xs,argTypes:=_}=>match g z with
    |.d1 f l=>
     match yS ic.r7 f (xs.toList.map g++l) with
     |none=>none
     |some F=>bif Nat.beq F.f f then
       lG h (xj (xs.toList.map g++l) F.ps) F.ps (xs.toList.map g++l) fun a=>(F.nW a).bind fun b=>bif qs d ⟨[],h⟩ (xs.toList.map g++l) (f2 F.ps a b) (j1 F.rs (iY F.ps b)) then
        K ⟨some (d,Ca d (j1 F.rs (iY F.ps b))),fG (xs.toList.map g++l) (f2 F.ps a b),Ei (pi (xs.toList.map g++l) (f2 F.ps a b)),li (xs.toList.map g++l) (f2 F.ps a b)++j4 d (jE (j1 F.rs (iY F.ps b))) 0 (j1 F.rs (iY F.ps b))⟩ else none
      else none
    |_=>none
   |.call {callee:=.builtin .append,args:=xs,argTypes:=cp}=>match xs.toList,cp.toList with
    |[x,y],[T,jR]=>bif Nat.beq T jR then rp ic.tt ic.an h d T (g x) (g y) K else none
    |_,_=>none
   |.call {callee:=.builtin .copy,args:=xs,argTypes:=cp}=>match xs.toList,cp.toList with
    |[x,y],[T,_]=>vL ic.tt h d T (g x) (g y) K
    |_,_=>none
   |.assign x=>match g x with
    |.val τ y=>K ⟨some (d,.val τ y),[],[],[]⟩
    |.d1 f l=>K ⟨some (d,.d1 f l),[],[],[]⟩
    |.addr id p=>K ⟨some (d,.addr id p),[],[],[]⟩
    |.dh v=>match aD ic.an d with
     |none=>K ⟨some (d,.dh v),[],[],[]⟩
     |some τ=>match τ.pure&&sA τ v with
      |true=>(jT τ v.cells.toList).bind fun y=>K ⟨some (d,.val τ y),[],[],[]⟩
      |false=>(t8 ic.an h d (.dh v)).bind K
    |v=>(t8 ic.an h d v).bind K
   |.build T ps=>xZ ic.tt ic.an h g d T ps.toList K
   |.mapEntry T x k=>wS ic.tt h d T (g x) (g k) K
   |.box T x=>Al ic.tt ic.an h d T (g x) K
   |.buildSlice T n ps=>x1 ic.tt ic.an h g d T n ps.toList K
   |
    _=>match l8 ic.tt ic.an h g d o.op with
    |.eh av=>K ⟨some (d,av),[],[],[]⟩
    |.opt _ y f=>y.bind fun q=>K ⟨some (d,f q),[],[],[]⟩
    |.new _ y t e=>bif Nat.beq e d then y.bind fun q=>K ⟨some (d,.ref d []),[],[],[(d,t q)]⟩ else none
    |.no=>match gR ic.tt ic.an h g d o.op with
     |.eh av new=>K ⟨some (d,av),[],[],new⟩
     |.part _ jk f=>(pick jk).bind fun q=>K ⟨some (d,(f q).1),[],[],(f q).2⟩
     |.bad=>none
  else none
def qt (h:List (Nat×a6)) (F:List Nat):Bool:=F.all fun id=>match aD h id with|some t=>Rt t.1|none=>false
def lD (ic:hj) {aT:Type} (g:Operand->ax) (h:List (Nat×a6)) (o:Oper) (K:b7->Option aT):Option aT:=
 match o1 ic.ik (A6 o) g (xq o.op) with
 |[]=>aA ic g h o K
 |F=>bif qt h F then aA ic (fun x=>jx h F (g x)) (del F h) o fun e=>bif e.keep.all (fun i=>!dS i.1 F) then K ⟨e.d,F++e.S,e.keep,e.put⟩ else none else none
def rN:hD->Bool
 |.m _=>true
 |_=>false
def Vp (ic:hj) (g:Operand->ax) (o:Oper):Option (Nat×List bB):=match o.op with
 |.call {callee:=.value z,args:=xs,argTypes:=_}=>match g z with
  |.d1 f l=>match yS ic.r7 f (xs.toList.map g++l) with
   |some F=>zv (xs.toList.map g++l) (F.ps.map rN)
   |none=>none
  |_=>none
 |_=>none
def QX (
 ic:hj) {aT:Type} (id:Nat) (s:bB) (p:List bB) (g:Operand->ax) (h:List (Nat×a6)) (o:Oper) (K:b7->Option aT):Option aT:=
 match o.dst with
 |none=>none
 |some d=>
   bif hy ic.n ic.pin d then
  match o.op with
  |.call {callee:=
    .value z,args:=xs,argTypes:=_}=>match g z with
   |.d1 f l=>
    match yS ic.r7 f (xs.toList.map g++l) with
    |none=>none
    |some F=>
      bif Nat.beq F.f f then
     match aD h id with
     |none=>none
     |some t=>match eD t.1 (s::p) with
      |none=>none
      |some τ'=>match il t.1 t.2 (s::p) τ' with
       |none=>none
       |some y=>
         match e3 ((id,⟨τ',y⟩)::del [id] h) (xj (pz id (xs.toList.map g++l) (F.ps.map rN)) F.ps) F.ps (pz id (xs.toList.map g++l) (F.ps.map rN)) with
        |none=>none
        |some a=>(F.nW a).bind fun b=>bif qs d ⟨[],(id,⟨τ',y⟩)::del [id] h⟩ (pz id (xs.toList.map g++l) (F.ps.map rN)) (f2 F.ps a b) (j1 F.rs (iY F.ps b))&&(dS id (fG (pz id (xs.toList.map g++l) (F.ps.map rN)) (f2 F.ps a b))&&dS id (pi (pz id (xs.toList.map g++l) (F.ps.map rN)) (f2 F.ps a b))) then
         match aD (li (pz id (xs.toList.map g++l) (F.ps.map rN)) (f2 F.ps a b)++j4 d (jE (j1 F.rs (iY F.ps b))) 0 (j1 F.rs (iY F.ps b))) id with
         |none=>none
         |some t2=>match iA τ' t2.2 with
          |none=>none
          |some y'=>(pw t.1 t.2 (s::p) τ' y').bind fun z=>
           K ⟨some (d,Ca d (j1 F.rs (iY F.ps b))),fG (pz id (xs.toList.map g++l) (F.ps.map rN)) (f2 F.ps a b),(id,s::p)::Ei (pi (pz id (xs.toList.map g++l) (F.ps.map rN)) (f2 F.ps a b)),(id,⟨t.1,z⟩)::(li (pz id (xs.toList.map g++l) (F.ps.map rN)) (f2 F.ps a b)++j4 d (jE (j1 F.rs (iY F.ps b))) 0 (j1 F.rs (iY F.ps b)))⟩
         else none
     else none
   |_=>none
  |_=>none
  else none
def T0 (ic:hj) (g:Operand->ax) (o:Oper):Option aCv:=match o.dst,o.op with
 |some d,.binOp .eql T x y _=>match gr ic.tt T,g x,g y with
  |some _,.val (.bM _ τ) xs,.dh (.slice none 0 0)=>bif hy ic.n ic.pin d then some (d,List.length (α:=τ.den) xs) else none
  |_,_,_=>none
 |_,_=>none
def aaY (tt:List (TypeId×au)) (T:TypeId):Bool:=match aD tt T with|some (.ptr _ _)=>true|_=>false
def TZ (h:List (Nat×a6)):ax->Option Bool
 |.val (.ptr _ t) v=>some (Option.isNone (α:=t.den) v)
 |.ref id p=>match aD h id with
  |some t=>match eD t.1 p with
   |some (.optr _)=>some false
   |_=>none
  |none=>none
 |_=>none
def UE (ic:hj) (g:Operand->ax) (h:List (Nat×a6)) (o:Oper):Option (Nat×Bool):=match o.dst,o.op with
 |some d,.binOp op T x y _=>match aaY ic.tt T,TZ h (g x),g y with
  |true,some b,.dh (.pointer none)=>bif hy ic.n ic.pin d then(match op with
   |.eql=>some (d,b)
   |.neq=>some (d,!b)
   |_=>none) else none
  |_,_,_=>none
 |_,_=>none
def Vt (ic:hj) (g:Operand->ax) (o:Oper):Option (Nat×z8×Int):=match o.dst,o.op with
 |some d,.indexAddr T (.global k) i=>match ic.uo.find? (fun t=>Nat.beq t.b k&&Nat.beq t.T T),g i with
  |some t,.val (.int _) n=>bif hy ic.n ic.pin d then some (d,t,n) else none
  |_,_=>none
 |_,_=>none
def i1 (ic:hj) {aT:Type} (st:bj) (o:Oper) (K:bj->Option aT):Option aT:=
 match Vt ic (bu st.g) o with
 |some (d,t,n)=>(bf t.xs n).bind fun y=>K ⟨(d,.val (.ptr .cL (.int t.k)) (some y))::st.g,st.h⟩
 |none=>match UE ic (bu st.g) st.h o with
 |some (d,b)=>K ⟨(d,.val .bool b)::st.g,st.h⟩
 |none=>match T0 ic (bu st.g) o with
 |some (d,n)=>rT n (K ⟨(d,.val .bool true)::st.g,st.h⟩) (K ⟨(d,.val .bool false)::st.g,st.h⟩)
 |none=>match Vp ic (bu st.g) o with
  |some (id,s::p)=>QX ic id s p (bu st.g) st.h o fun e=>K (e.app st)
  |_=>lD ic (bu st.g) st.h o fun e=>K (e.app st)
def mV (
 ic:hj) {aT:Type} (bA:Array Oper):List Nat->bj->(bj->Option aT)->Option aT
 |[],st,K=>K st
 |i::l,st,K=>match bA[i]? with
  |none=>none
  |some o=>match o.guard with
   |none=>i1 ic st o fun s=>mV ic bA l s K
   |some (j,kn)=>match(bA[j]?).bind (·.dst),o.dst with
    |some gk,some d=>match gt st.g gk with
     |.val .bool x=>bif hy ic.n ic.pin d then
      (match x==kn with
      |true=>i1 ic ⟨(gk,.val .bool kn)::st.g,st.h⟩ o fun s=>mV ic bA l s K
      |false=>mV ic bA l ⟨(d,.dh undef)::(gk,.val .bool (!kn))::st.g,st.h⟩ K) else none
     |.dh (.tuple _)=>bif hy ic.n ic.pin d then mV ic bA l ⟨(d,.dh undef)::st.g,st.h⟩ K else none
     |_=>none
    |_,_=>none
section
variable {E:eV} {C:eb} {ic:hj} {aT:Type}
def hj.U (E:eV) (C:eb) (ic:hj):Prop:=ic.tt=E.tt/\ic.n=C.n/\ic.pin=C.pin/\((∀q∈ic.r7,bg E q.2)/\z6 C ic.ayC/\(∀T∈ic.bz,Wc E.P T)/\nf E C.I0 C.w0/\ic.uo=E.glob)/\tN C ic.kg
theorem hy.ok (h:ic.U E C) {d:Nat} (aP:hy ic.n ic.pin d=true):C.ok d:=by obtain⟨_,R,ac,_,_⟩:=h;rw[R,ac] at aP;simp only[hy,bW] at aP;exact⟨fQ aP.1,fun ak=>by have R:=aP.2;rw[fd.2 ak] at R;cases R⟩
theorem gD.same {b3:Array Value} {w:World} {st cz:bj} (aG:∀k,gt cz.g k=gt st.g k) (ay:cz.h=st.h) (h:gD C st b3 w):gD C cz b3 w:=by obtain⟨I,rt,fp,aq⟩:=h;exact⟨I,rt,fp,{aq with tree:=by rw[ay];exact aq.tree,dis:=by rw[ay];exact aq.dis,tmp:=fun k=>by rw[ay,aG];exact aq.tmp k}⟩
theorem i9.same {bA:Array Oper} {l:List Nat} {st cz:bj} {Q:bj->Prop} (aG:∀k,gt cz.g k=gt st.g k) (ay:cz.h=st.h) (h:i9 E C bA l cz Q):i9 E C bA l st Q:=
 fun a w aq=>h a w (aq.same aG ay)
theorem b7.W1 {d:Nat} {av:ax} {S:List Nat} {keep:List (Nat×List bB)} {put:List (Nat×a6)} {st:bj}:(b7.mk (some (d,av)) S keep put).app st=⟨(d,av)::kill S keep st.g,put++del S st.h⟩:=by show bj.mk ((d,av)::qN S keep st.g) (put++vU S st.h)=_;rw[uL,AM]
theorem Yo (cy:ic.U E C) {o:Oper} {st:bj} {K:b7->Option aT} {r:aT} (h:aA ic (bu st.g) st.h o K=some r):d9 E C o st (fun s=>∃e,K e=some r/\s=e.app st):=by
 obtain⟨ox,ag,Sw,SH,_⟩:=id cy;unfold aA at h;split at h
 ·rename_i aP;split at h
  ·rename_i T x v b5;rw[ox] at h;exact ayR b5 aP (ayQ h (fun e aE=>⟨e,aE,rfl⟩))
  ·rename_i T x k v b5;rw[ox] at h;exact ab4 (.inl b5) aP h
  ·rename_i T x k v b5;rw[ox] at h;exact ab4 (.inr b5) aP h
  ·rename_i T x s v b5;rw[ox] at h;exact amP b5 aP h
  ·rename_i xs cp b5;split at h
   case h_2=>cases h
   rename_i x k T tZ aA aX;rw[ox] at h;obtain rfl:xs=#[x,k]:=(by cases xs;simp_all);obtain rfl:cp=#[T,tZ]:=(by cases cp;simp_all);exact asJ b5 aP h
  ·cases h
 rename_i d aP;cases hs:hy ic.n ic.pin d with
 |false=>rw[hs] at h;cases h
 |true=>
 rw[hs] at h;have dc:=hy.ok cy hs;simp only[cond_true] at h;split at h
 ·rename_i c x y b5;split at h
  case h_2=>cases h
  rename_i b hc;have gm:∀av,(b=true->av=bu st.g x)->(b=false->av=bu st.g y)->K ⟨some (d,av),[],[],[]⟩=some r->d9 E C o st (fun s=>∃e,K e=some r/\s=e.app st):=by
   clear h;intro av J R ay;refine d9.eval (an:=ic.an) aP dc ?_;rw[b5];simp only[gR,Oq,hc];refine⟨b,rfl,_,ay,?_⟩;cases b
   ·rw[R rfl];rfl
   ·rw[J rfl];rfl
  split at h
  ·rename_i τ u τ' v aR hv;split at h
   case h_2=>cases h
   rename_i ew kC;cases l5 kC;refine gm _ ?_ ?_ h
   ·intro e;rw[aR,e];rfl
   ·intro e;rw[hv,e];rfl
  ·cases b
   ·exact gm _ (fun e=>by cases e) (fun _=>rfl) h
   ·exact gm _ (fun _=>rfl) (fun e=>by cases e) h
 ·rename_i z xs _ b5;split at h
  case h_2=>cases h
  rename_i f l a2;split at h
  ·cases h
  rename_i F dn;cases aa:Nat.beq F.f f with
  |false=>rw[aa] at h;cases h
  |true=>
  rw[aa] at h;obtain rfl:=fi aa;simp only[cond_true,qx] at h;obtain⟨a,aC,h⟩:=dA.1 h;obtain⟨b,Bq,h⟩:=dA.1 h;cases hc:qs d ⟨[],st.h⟩ (xs.toList.map (bu st.g)++l) (f2 F.ps a b) (j1 F.rs (iY F.ps b)) with
  |false=>rw[hc] at h;cases h
  |true=>
  rw[hc] at h;obtain⟨k0,wk⟩:=Tt dn;obtain⟨ky,mb⟩:=SH.1 _ wk;refine d9.call b5 a2 aP dc ky (mb a b Bq) (by rw[Jl];exact Tu dn) cy.2.2.2.2.1 cy.2.2.2.1.2.2.2.1 ?_ hc ⟨_,h,?_⟩
  ·rw[Vw];exact um aC
  ·rw[b7.W1];rfl
 ·rename_i xs cp b5;split at h
  case h_2=>cases h
  rename_i x y T jR aA aX;cases aa:Nat.beq T jR with
  |false=>rw[aa] at h;cases h
  |true=>
  rw[aa] at h;obtain rfl:=fi aa;have vX:xs=#[x,y]:=(by cases xs;simp_all);have GO:cp=#[T,T]:=(by cases cp;simp_all);subst vX;subst GO;rw[ox] at h;exact akh b5 aP dc h
 ·rename_i xs cp b5;split at h
  case h_2=>cases h
  rename_i x y T jR aA aX;have vX:xs=#[x,y]:=(by cases xs;simp_all);have GO:cp=#[T,jR]:=(by cases cp;simp_all);subst vX;subst GO;rw[ox] at h;exact d9.copy b5 aP dc h
 ·rename_i x b5;have iB:S0 (bu st.g x)=true->K ⟨some (d,bu st.g x),[],[],[]⟩=some r->d9 E C o st (fun s=>∃e,K e=some r/\s=e.app st):=fun hv ay=>by
   refine d9.eval (an:=ic.an) aP dc ?_;rw[b5];simp only[gR,hv,cond_true];exact⟨_,ay,rfl⟩
  have as:(t8 ic.an st.h d (bu st.g x)).bind K=some r->d9 E C o st (fun s=>∃e,K e=some r/\s=e.app st):=fun ay=>(by obtain⟨e,aE,ay⟩:=dA.1 ay;exact d9.akn b5 aP dc (ako aE ⟨e,ay,rfl⟩));split at h
  ·rename_i τ y ex;exact iB (by rw[ex];rfl) (by rw[ex];exact h)
  ·rename_i f l ex;exact iB (by rw[ex];rfl) (by rw[ex];exact h)
  ·rename_i id p ex;rintro a w ⟨I,rt,fp,aq⟩ next X et
   have ab:=aq.bu x;have eP:(execOp a.eval o).run E.P w=.ok (.value (a.eval x)) w:=(by simp[execOp,b5]);unfold Oper.wp;rw[eP];show next (a.put o.dst (a.eval x)) w
   rw[aP];refine et _ _ _ ⟨_,h,rfl⟩ rfl ⟨_,_,_,aq.put dc ?_⟩;rw[ex] at ab;exact ab
  ·rename_i v ex;split at h
   ·exact iB (by rw[ex];rfl) (by rw[ex];exact h)
   ·split at h
    ·rename_i Bf;simp only[bW] at Bf;obtain⟨y,aB,h⟩:=dA.1 h;rintro a w ⟨I,rt,fp,aq⟩ next X et
     have ab:=aq.bu x;have eP:(execOp a.eval o).run E.P w=.ok (.value (a.eval x)) w:=(by simp[execOp,b5]);unfold Oper.wp;rw[eP];show next (a.put o.dst (a.eval x)) w
     rw[aP];refine et _ _ _ ⟨_,h,rfl⟩ rfl ⟨_,_,_,aq.put dc ?_⟩;rw[ex] at ab;generalize a.eval x=ew at ab;cases ab;rw[<-sA.ok Bf.2];exact .val (ud aB)
    ·exact as (by rw[ex];exact h)
  ·exact as h
 ·rename_i T ps b5;rw[ox] at h;exact akE b5 aP dc h (fun e aE=>⟨e,aE,rfl⟩)
 ·rename_i T x k b5;rw[ox] at h;exact asR b5 aP dc h
 ·rename_i T x b5;rw[ox] at h;exact akN b5 aP dc h (fun e aE=>⟨e,aE,rfl⟩)
 ·rename_i T n ps b5;rw[ox] at h;exact akR b5 aP dc h (fun e aE=>⟨e,aE,rfl⟩)
 ·split at h
  ·rename_i av qy;refine d9.eval (an:=ic.an) aP dc ?_;rw[<-ox];exact Q7 (by rw[qy];exact⟨_,h,rfl⟩)
  ·rename_i α y f qy;refine d9.eval (an:=ic.an) aP dc ?_;rw[<-ox];obtain⟨q,aj,h⟩:=dA.1 h;exact Q7 (by rw[qy];exact⟨q,aj,_,h,rfl⟩)
  ·rename_i α y t e qy;cases aa:Nat.beq e d with
   |false=>rw[aa] at h;cases h
   |true=>
   rw[aa] at h;obtain rfl:=fi aa;obtain⟨q,aj,h⟩:=dA.1 h;refine d9.eval (an:=ic.an) aP dc ?_;rw[<-ox];exact Q7 (by rw[qy];exact⟨q,aj,_,h,rfl⟩)
  ·refine d9.eval (an:=ic.an) aP dc ?_;rw[ox] at h;split at h
   ·rename_i av new qy;rw[qy];exact⟨_,h,rfl⟩
   ·rename_i α jk f qy;rw[qy];obtain⟨q,aj,h⟩:=dA.1 h;exact⟨q,awh aj,_,h,rfl⟩
   ·cases h
theorem d9.mono {o:Oper} {st:bj} {P Q:bj->Prop} (h:d9 E C o st P) (jA:∀s,P s->Q s):d9 E C o st Q:=
 fun a w aq next X ag=>h a w aq next X (fun s b9 w' hs=>ag s b9 w' (jA s hs))
theorem axP {keep:List (Nat×List bB)} {a:ax} (h:nM keep a=true):∃id,a.ids=[id]/\∃x∈keep,x.1=id:=by
 have get:∀(id:Nat) (P:Nat×List bB->Bool),(keep.any fun x=>Nat.beq x.1 id&&P x)=true->∃x∈keep,x.1=id:=(by intro id P ay;obtain⟨x,ab,R⟩:=tO.1 ay;simp only[bW] at R;exact⟨x,ab,fi R.1⟩);cases a with
 |ref id p=>
  cases p with
  |nil=>
   obtain⟨x,ab,ac⟩:=tO.1 (show(keep.any fun x=>Nat.beq x.1 id)=true from h);exact⟨id,rfl,x,ab,fi ac⟩
  |cons s p=>exact⟨id,rfl,get id _ h⟩
 |addr id p=>exact⟨id,rfl,get id _ h⟩
 |view id p lo hi=>exact⟨id,rfl,get id _ h⟩
 |_=>cases h
theorem Pd {F S:List Nat} {a:ax}:a.eG (F++S)=(a.eG F||a.eG S):=by
 simp only[ax.eG];rw[q8];simp only[tO,h9];constructor
 ·rintro⟨i,hi,ak⟩;rcases fg.1 (fd.1 ak) with h|h
  ·exact .inl ⟨i,hi,fd.2 h⟩
  ·exact .inr ⟨i,hi,fd.2 h⟩
 ·rintro(⟨i,hi,ak⟩|⟨i,hi,ak⟩)
  ·exact⟨i,hi,fd.2 (sl _ (fd.1 ak))⟩
  ·exact⟨i,hi,fd.2 (pI _ (fd.1 ak))⟩
theorem XQ {F:List Nat} {f:Nat} {l:List ax}:(ax.d1 f l).eG F=l.any fun a=>a.eG F:=by
 show(ax.rM l).any _=_
 induction l with
 |nil=>rfl
 |cons a l aZ=>simp only[ax.rM,List.any_append,List.any_cons,aZ,ax.eG]
theorem aei {F S:List Nat} {keep:List (Nat×List bB)} {a:ax} (dn:a.eG F=false):kD (F++S) keep a=kD S keep a:=by
 cases a with
 |d1 f l=>
  rw[XQ,CP] at dn;rw[q8];simp only[kD,fM];constructor<;>intro h b aa<;>have:=h b aa<;>rw[Pd,Bool.eq_false_iff.2 (dn b aa)] at*<;>simpa using this
 |app id p τ aW own=>
  have J:=VK dn;have ak:∀i∈own,dS i (F++S)=dS i S:=fun i hi=>(by have d0:i∉F:=J i (gC _ hi);rw[q8,fd,fd,fg];exact⟨fun h=>h.resolve_left d0,.inr⟩);have e:(own.all fun i=>!(dS i (F++S)))=own.all fun i=>!(dS i S):=(by rw[q8];simp only[fM];exact⟨fun h i hi=>by rw[<-ak i hi];exact h i hi,fun h i hi=>by rw[ak i hi];exact h i hi⟩);simp only[kD,e]
 |_=>rfl
theorem aq9 {F S:List Nat} {keep:List (Nat×List bB)} {a:ax}:ef (F++S) keep a=.dead\/(a.eG F=false/\ef (F++S) keep a=ef S keep a)\/(kD (F++S) keep a=true/\ef (F++S) keep a=a):=by
 have aR:=Pd (F:=F) (S:=S) (a:=a);have hr:a.eG F=false->kD (F++S) keep a=kD S keep a:=aei;unfold ef;rw[aR];cases dn:a.eG F with
 |false=>right;left;rw[hr dn];simp
 |true=>
  cases kD (F++S) keep a<;>simp
theorem qt.ok {h:List (Nat×a6)} {F:List Nat} (ay:qt h F=true):∀id∈F,∃t,aD h id=some t/\Rt t.1=true:=by
 intro id bp;have:=fM.1 ay id bp;split at this
 ·rename_i t ah;exact⟨t,ah,this⟩
 ·cases this
theorem Ys (cy:ic.U E C) {o:Oper} {st:bj} {K:b7->Option aT} {r:aT} (h:lD ic (bu st.g) st.h o K=some r):d9 E C o st (fun s=>∃e,K e=some r/\s=e.app st):=by
 unfold lD at h;split at h
 ·exact Yo cy h
 generalize o1 ic.ik (A6 o) (bu st.g) (xq o.op)=F at h;cases hc:qt st.h F with
 |false=>rw[hc] at h;cases h
 |true=>
 rw[hc] at h;simp only[cond_true] at h;rw[<-anV F st] at h;have J:=Yo (st:=yl F st) cy h;intro a w aq next X ag
 obtain⟨I,rt,fp,aq⟩:=aq;refine J a w (aq.freeze (qt.ok hc)) next X (fun cz b9 w' wt aP eK=>?_)
 obtain⟨e,aE,rfl⟩:=wt;cases ae:e.keep.all (fun i=>!dS i.1 F) with
 |false=>rw[ae] at aE;cases aE
 |true=>
 rw[ae] at aE;have ae:∀i∈e.keep,i.1∉F:=fun i hi ak=>(by have:=fM.1 ae i hi;rw[fd.2 ak] at this;cases this);refine ag _ b9 w' ⟨_,aE,rfl⟩ aP (eK.abv ?_ ?_)
 ·intro k;have wE:∀a:ax,ef (F++e.S) e.keep a=.dead\/ef (F++e.S) e.keep a=ef e.S e.keep (gZ st.h F a):=by
   intro a;rcases aq9 (F:=F) (S:=e.S) (keep:=e.keep) (a:=a) with h|⟨J,R⟩|⟨J,R⟩
   ·exact .inl h
   ·right;rw[R];rcases pQ st.h F a with⟨id,t,rfl,aM,_⟩|⟨_,q⟩|⟨q,_⟩
    ·simp[ax.eG,ax.ids,fd.2 aM] at J
    ·rw[J] at q;cases q
    ·rw[q]
   ·have Sr:∀(id:Nat),(∃x∈e.keep,x.1=id)->dS id F=false:=fun id ⟨x,ab,e⟩=>by
     cases ak:dS id F
     ·rfl
     ·exact absurd (e▸fd.1 ak) (ae x ab)
    have gm:kD (F++e.S) e.keep a=kD e.S e.keep a->∀(id:Nat),a.ids=[id]->(∃x∈e.keep,x.1=id)->ef (F++e.S) e.keep a=.dead\/ef (F++e.S) e.keep a=ef e.S e.keep (gZ st.h F a):=by
     intro mO id Hl ab;have aR:a.eG F=false:=(by simp[ax.eG,Hl,Sr id ab]);right;rcases pQ st.h F a with⟨i,t,rfl,aM,_⟩|⟨_,q⟩|⟨q,_⟩
     ·simp[ax.eG,ax.ids,fd.2 aM] at aR
     ·rw[aR] at q;cases q
     ·rw[q,R];unfold ef;rw[show kD e.S e.keep a=true by rw[<-mO];exact J];simp
    have get:∀(id:Nat) (P:Nat×List bB->Bool),(e.keep.any fun x=>Nat.beq x.1 id&&P x)=true->∃x∈e.keep,x.1=id:=(by intro id P ay;obtain⟨x,ab,R⟩:=tO.1 ay;simp only[bW] at R;exact⟨x,ab,fi R.1⟩);cases a with
    |ref id p=>
     cases p with
     |nil=>
      obtain⟨x,ab,ac⟩:=tO.1 (show(e.keep.any fun x=>Nat.beq x.1 id)=true from J);exact gm rfl id rfl ⟨x,ab,fi ac⟩
     |cons s p=>exact gm rfl id rfl (get id _ J)
    |addr id p=>exact gm rfl id rfl (get id _ J)
    |view id p lo hi=>exact gm rfl id rfl (get id _ J)
    |d1 f l=>
     have gn:=fM.1 J;have aR:(ax.d1 f l).eG F=false:=(by rw[XQ,CP];intro b aa RY;have ac:=gn b aa;rw[Pd,RY] at ac;obtain⟨id,aA,ab⟩:=axP (keep:=e.keep) (a:=b) (by simpa using ac);rw[ax.eG,aA] at RY;simp[Sr id ab] at RY);right;rcases pQ st.h F (.d1 f l) with⟨i,t,aN,_⟩|⟨_,q⟩|⟨q,_⟩
     ·cases aN
     ·rw[aR] at q;cases q
     ·rw[q,R];unfold ef;have aL:kD e.S e.keep (.d1 f l)=true:=fM.2 fun b aa=>by
       have ac:=gn b aa;rw[Pd,Bool.not_or,h9,bW] at ac;rw[h9];exact ac.imp (fun h=>h.2) (fun h=>h)
      rw[aL];simp
    |app id p τ aW own=>
     have oj:((own.all fun i=>!(dS i (F++e.S)))&&e.keep.any fun x=>Nat.beq x.1 id&&mH x.2 p)=true:=J;rw[bW] at oj;have bp:=Sr id (get id _ oj.2);have aR:(ax.app id p τ aW own).eG F=false:=by
      unfold ax.eG;rw[CP];intro i hi ak;rcases d4.1 (show i∈id::own from hi) with rfl|hi
      ·rw[bp] at ak;cases ak
      ·have:=fM.1 oj.1 i hi;rw[fd.2 (sl _ (fd.1 ak))] at this;cases this
     right;rcases pQ st.h F (.app id p τ aW own) with⟨i,t,aN,_⟩|⟨_,q⟩|⟨q,_⟩
     ·cases aN
     ·rw[aR] at q;cases q
     ·rw[q,R];unfold ef;rw[<-aei aR,J];simp
    |_=>cases J
  have key:∀a:ax,Fh (e8 (F++e.S) e.keep a) (e8 e.S e.keep (jx st.h F a)):=by
   intro a;cases a with
   |ei l=>
    refine .inr (.inr ⟨_,_,rfl,rfl,by simp,fun i x y J R=>?_⟩);rw[gB] at J R;rw[gB] at R;obtain⟨ko,ac,rfl⟩:=e1.1 J;rw[ac] at R;simp only[hC,cS] at R;subst R;exact wE ko
   |ref id p=>
    have q:=wE (.ref id p);have aA:e8 e.S e.keep (jx st.h F (.ref id p))=ef e.S e.keep (gZ st.h F (.ref id p)):=by show e8 e.S e.keep (gZ st.h F (.ref id p))=_;rcases pQ st.h F (.ref id p) with⟨i,t,_,_,_,h⟩|⟨h,_⟩|⟨h,_⟩<;>rw[h]<;>first|rfl|exact A7 _ _ _
    rw[aA];exact q.imp (fun h=>h) .inl
   |dead=>exact(wE .dead).imp (fun h=>h) .inl
   |val τ x=>exact .inr (.inl (by
    simp[ef,gZ,jx,e8,ax.eG,ax.ids]))
   |dh v=>exact .inr (.inl (by
    simp[ef,gZ,jx,e8,ax.eG,ax.ids]))
   |addr id p=>
    have aA:e8 e.S e.keep (jx st.h F (.addr id p))=ef e.S e.keep (gZ st.h F (.addr id p)):=by show e8 e.S e.keep (gZ st.h F (.addr id p))=_;rcases pQ st.h F (.addr id p) with⟨i,t,_,_,_,h⟩|⟨h,_⟩|⟨h,_⟩<;>rw[h]<;>first|rfl|exact A7 _ _ _
    rw[aA];exact(wE _).imp (fun h=>h) .inl
   |view id p lo hi=>
    have aA:e8 e.S e.keep (jx st.h F (.view id p lo hi))=ef e.S e.keep (gZ st.h F (.view id p lo hi)):=by show e8 e.S e.keep (gZ st.h F (.view id p lo hi))=_;rcases pQ st.h F (.view id p lo hi) with⟨i,t,_,_,_,h⟩|⟨h,_⟩|⟨h,_⟩<;>rw[h]<;>first|rfl|exact A7 _ _ _
    rw[aA];exact(wE _).imp (fun h=>h) .inl
   |l7 id p NO=>
    have aA:e8 e.S e.keep (jx st.h F (.l7 id p NO))=ef e.S e.keep (gZ st.h F (.l7 id p NO)):=by show e8 e.S e.keep (gZ st.h F (.l7 id p NO))=_;rcases pQ st.h F (.l7 id p NO) with⟨i,t,_,_,_,h⟩|⟨h,_⟩|⟨h,_⟩<;>rw[h]<;>first|rfl|exact A7 _ _ _
    rw[aA];exact(wE _).imp (fun h=>h) .inl
   |app id p τ aW own=>
    have aA:e8 e.S e.keep (jx st.h F (.app id p τ aW own))=ef e.S e.keep (gZ st.h F (.app id p τ aW own)):=by show e8 e.S e.keep (gZ st.h F (.app id p τ aW own))=_;rcases pQ st.h F (.app id p τ aW own) with⟨i,t,_,_,_,h⟩|⟨h,_⟩|⟨h,_⟩<;>rw[h]<;>first|rfl|exact A7 _ _ _
    rw[aA];exact(wE _).imp (fun h=>h) .inl
   |agg l=>
    have aA:e8 e.S e.keep (jx st.h F (.agg l))=ef e.S e.keep (gZ st.h F (.agg l)):=by show e8 e.S e.keep (gZ st.h F (.agg l))=_;rcases pQ st.h F (.agg l) with⟨i,t,_,_,_,h⟩|⟨h,_⟩|⟨h,_⟩<;>rw[h]<;>first|rfl|exact A7 _ _ _
    rw[aA];exact(wE _).imp (fun h=>h) .inl
   |d1 f l=>
    have aA:e8 e.S e.keep (jx st.h F (.d1 f l))=ef e.S e.keep (gZ st.h F (.d1 f l)):=by show e8 e.S e.keep (gZ st.h F (.d1 f l))=_;rcases pQ st.h F (.d1 f l) with⟨i,t,_,_,_,h⟩|⟨h,_⟩|⟨h,_⟩<;>rw[h]<;>first|rfl|exact A7 _ _ _
    rw[aA];exact(wE _).imp (fun h=>h) .inl
  show Fh (gt (b7.app ⟨e.d,F++e.S,e.keep,e.put⟩ st).g k) (gt (e.app (yl F st)).g k);obtain⟨d,S,keep,put⟩:=e;cases d with
  |none=>
   show Fh (gt (qN (F++S) keep st.g) k) (gt (qN S keep (yl F st).g) k);rw[uL,uL,sN,sN,MC];exact key _
  |some q=>
   obtain⟨d,av⟩:=q;show Fh (gt ((d,av)::qN (F++S) keep st.g) k) (gt ((d,av)::qN S keep (yl F st).g) k);rw[jX,jX];split
   ·exact .inr (.inl rfl)
   ·rw[uL,uL,sN,sN,MC];exact key _
 ·intro id;show aD (e.put++vU (F++e.S) st.h) id=aD (e.put++vU e.S (del F st.h)) id;rw[AM,AM,lL,lL,nP,nP,nP];by_cases J:id∈F<;>by_cases R:id∈e.S<;>simp[J,R]
theorem ams (cy:ic.U E C) {o:Oper} {st:bj} {id:Nat} {s:bB} {p:List bB} (fw:Vp ic (bu st.g) o=some (id,s::p)) {K:b7->Option aT} {r:aT} (h:QX ic id s p (bu st.g) st.h o K=some r):d9 E C o st (fun s=>∃e,K e=some r/\s=e.app st):=by
 have ws:=fun d=>hy.ok cy (d:=d);have ZW:=cy.2.2.2.2.1;have yv:=cy.2.2.2.1.2.2.2.1;obtain⟨ox,_,_,SH,_⟩:=cy;unfold QX at h;split at h
 ·cases h
 rename_i d aP;cases hs:hy ic.n ic.pin d with
 |false=>rw[hs] at h;cases h
 |true=>
 rw[hs] at h;have dc:=ws d hs;simp only[cond_true] at h;split at h
 case h_2=>cases h
 rename_i z xs cp b5;split at h
 case h_2=>cases h
 rename_i f l a2;split at h
 ·cases h
 rename_i F dn;cases aa:Nat.beq F.f f with
 |false=>rw[aa] at h;cases h
 |true=>
 rw[aa] at h;obtain rfl:=fi aa;simp only[cond_true] at h;split at h
 ·cases h
 rename_i t ah;split at h
 ·cases h
 rename_i τ' mf;split at h
 ·cases h
 rename_i y aB;split at h
 ·cases h
 rename_i a aC;obtain⟨b,Bq,h⟩:=dA.1 h;have aqm:zv (xs.toList.map (bu st.g)++l) (F.ps.map rN)=some (id,s::p):=(by unfold Vp at fw;rw[b5] at fw;simp only[a2,dn] at fw;exact fw);generalize qy:pz id (xs.toList.map (bu st.g)++l) (F.ps.map rN)=avs at*;cases hc:qs d ⟨[],(id,⟨τ',y⟩)::del [id] st.h⟩ avs (f2 F.ps a b) (j1 F.rs (iY F.ps b)) with
 |false=>rw[hc] at h;cases h
 |true=>
 rw[hc] at h;cases J:dS id (fG avs (f2 F.ps a b)) with
 |false=>rw[J] at h;cases h
 |true=>
 rw[J] at h;cases R:dS id (pi avs (f2 F.ps a b)) with
 |false=>rw[R] at h;cases h
 |true=>
 rw[R] at h;simp only[Bool.and_self,cond_true] at h;split at h
 ·cases h
 rename_i t2 lc;split at h
 ·cases h
 rename_i y' uG;obtain⟨h8,Nu,h⟩:=dA.1 h;obtain⟨k0,wk⟩:=Tt dn;obtain⟨ky,mb⟩:=SH.1 _ wk;refine d9.sub b5 a2 aP dc ky (mb a b Bq) (by rw[Jl];exact Tu dn) ZW yv ah (jy aB) aqm qy.symm ?_ hc (fd.1 J) (fd.1 R) (y':=y') (z:=h8) ?_ (qd Nu) ⟨_,h,?_⟩
 ·rw[Vw];exact um aC
 ·rw[lc];exact congrArg some (l5 uG)
 ·rw[b7.W1]
theorem ax4 {P:Program} (w:World) (d:Nat) {t S:TypeId} (a:Option Addr) (n c:Nat) (h:P.underlying t=some (.slice S)):(Op.equalIn (d+1) t (.slice a n c) (.slice none 0 0)).run P w=.ok a.isNone w:=by cases a<;>simp[Op.equalIn,run_underlying h]
theorem ax2 {P:Program} (w:World) {t S:TypeId} (a:Option Addr) (n c:Nat) (h:P.underlying t=some (.slice S)):(binOp .eql t (.slice a n c) (.slice none 0 0)).run P w=.ok (.bool a.isNone) w:=by simp only[binOp];simp[Op.equal,Op.maxDepth,ax4 w 9999 a n c h]
theorem atr (cy:ic.U E C) {o:Oper} {st:bj} {d n:Nat} (h:T0 ic (bu st.g) o=some (d,n)):d9 E C o st (fun s=>∃b:Bool,s=⟨(d,.val .bool b)::st.g,st.h⟩/\(b=true->n=0)):=by
 unfold T0 at h;split at h
 case h_2=>cases h
 rename_i lC T x y u aP aJ;split at h
 case h_2=>cases h
 rename_i t0 m τ xs bm ex jw;cases hs:hy ic.n ic.pin lC with
 |false=>rw[hs] at h;cases h
 |true=>
 rw[hs] at h;simp only[cond_true,cS,gX] at h;obtain⟨rfl,rfl⟩:=h;rw[cy.1] at bm;obtain⟨_,S,_,aR,_⟩:=gr.ok bm;rintro a w ⟨I,rt,fp,aq⟩ next X ag
 have ab:=aq.bu x;have aB:=aq.bu y;rw[ex] at ab;rw[jw] at aB;obtain⟨v,hv⟩:∃v,v=a.eval x:=⟨_,rfl⟩;obtain⟨gz,ld⟩:∃v,v=a.eval y:=⟨_,rfl⟩;rw[<-hv] at ab;rw[<-ld] at aB;cases ab with|val b2=>cases aB with|dh _=>
 obtain⟨_,b,cap,rfl,J,R,_⟩:=b2;have kC:a.eval x=.slice b (List.length (α:=τ.den) xs) cap:=hv.symm;have uG:a.eval y=.slice none 0 0:=ld.symm;have aG:∀w,(eqGuard .eql T x y (.slice b (List.length (α:=τ.den) xs) cap) (.slice none 0 0)).run E.P w=.ok () w:=fun w=>(by unfold eqGuard;simp);refine Yields.wp (Q:=fun av new=>av=.val .bool b.isNone/\new=[]) aq (.pure (v:=.bool _) (by simp only[execOp,aJ,kC,uG,Sem.run_bind,aG,Result.andThen_ok,ax2 _ _ _ _ aR];rfl) (.bool _) ⟨rfl,rfl⟩) aP (hy.ok cy hs) ?_;rintro av new b9 w' ⟨rfl,rfl⟩ ki hr;refine ag _ b9 w' ⟨b.isNone,rfl,fun e=>?_⟩ ki hr;cases b with
 |none=>have:=R rfl;omega
 |some _=>cases e
theorem ay8 {T:TypeId} {S:TypeId} {len:Nat} {k:IntKind} (bm:E.P.underlying T=some (.array len S)) (bE:eB E.P (.int k) S) {a:Act} {o:Oper} {w:World} {g:Nat} {i:Operand} (aJ:o.op=.indexAddr T (.global g) i) {n:Nat} {wA:IntKind} (hi:a.eval i=.int wA n) (ag:n<len):(execOp a.eval o).run E.P w=.ok (.value (.pointer (some ⟨g,0+n*1,none⟩))) w:=by have hs:=bE.sizeOf w;have ab:a.eval (.global g)=.pointer (some ⟨g,0,none⟩):=rfl;have:(0:Int)<=(n:Int)/\(n:Int)<(len:Int):=⟨by omega,by omega⟩;have el:(au.int k).size=1:=rfl;rw[el] at hs;simp[execOp,aJ,ab,hi,Instr.indexAt,Instr.sureAddr,asIntOf,run_underlying bm,this,hs,Addr.add_lit];intro aV;omega
theorem ay4 (cy:ic.U E C) {o:Oper} {st:bj} {d:Nat} {t:z8} {n y:Int} (h:Vt ic (bu st.g) o=some (d,t,n)) (aB:bf t.xs n=some y):d9 E C o st (fun s=>s=⟨(d,.val (.ptr .cL (.int t.k)) (some y))::st.g,st.h⟩):=by
 unfold Vt at h;split at h
 case h_2=>cases h
 rename_i lC T k i aP aJ;split at h
 case h_2=>cases h
 rename_i t0 wA TT aH hN;cases hs:hy ic.n ic.pin lC with
 |false=>rw[hs] at h;cases h
 |true=>
 rw[hs] at h;simp only[cond_true,cS,gX] at h;obtain⟨rfl,rfl,rfl⟩:=h;have aa:=List.find?_some aH;have ak:=List.mem_of_find?_eq_some aH;rw[bW] at aa;obtain rfl:=fi aa.1;obtain rfl:=fi aa.2;rw[cy.2.2.2.1.2.2.2.2] at ak;obtain⟨S,bm,bE⟩:=E.gok t0 ak;rintro a w ⟨I,rt,fp,aq⟩ next X ag
 have hi:=aq.bu i;rw[hN] at hi;generalize HC:a.eval i=azS at hi;cases hi with|val r=>
 obtain⟨_,rfl⟩:=r;obtain⟨aA,aX,bY⟩:=Zb aB;obtain⟨_,ad,cap,sU,aN,aM,bb⟩:=aq.glob cy.2.2.2.2.1 cy.2.2.2.1.2.2.2.1 t0 ak;simp only[hL,Value.slice.injEq,and_true] at sU;obtain⟨rfl,_⟩:=sU;rcases bb with bb|⟨b,off,ZH,bF,bH⟩
 ·rw[bb] at aX;simp at aX
 simp only[cS,Addr.mk.injEq,and_true] at ZH;obtain⟨rfl,rfl⟩:=ZH;obtain⟨ds,cK,cG,c9⟩:=bH _ _ bY;have SN:a.eval i=.int wA (TT.toNat:Nat):=(by rw[HC];show Value.int wA TT=_;rw[<-aA]);refine Yields.wp (Q:=fun av new=>av=.val (.ptr .cL (.int t0.k)) (some y)/\new=[]) aq (.pure (ay8 bm bE aJ SN aX) (.val (τ:=.ptr .cL (.int t0.k)) (x:=some y) (cs:=[.pointer (some ⟨t0.b,0+TT.toNat*1,none⟩)]) ⟨rfl,t0.b,_,ds,rfl,bF,cK,cG,c9⟩) ⟨rfl,rfl⟩) aP (hy.ok cy hs) ?_;rintro av new b9 w' ⟨rfl,rfl⟩ ki hr;exact ag _ b9 w' rfl ki hr
theorem aes {P:Program} (w:World) (d:Nat) {t S:TypeId} (a:Option Addr) (h:P.underlying t=some (.pointer S)):(Op.equalIn (d+1) t (.pointer a) (.pointer none)).run P w=.ok a.isNone w:=by cases a<;>simp[Op.equalIn,run_underlying h]
theorem ax3 {P:Program} (w:World) {t S:TypeId} (a:Option Addr) (h:P.underlying t=some (.pointer S)):(binOp .eql t (.pointer a) (.pointer none)).run P w=.ok (.bool a.isNone) w:=by simp only[binOp];simp[Op.equal,Op.maxDepth,aes w 9999 a h]
theorem ax5 {P:Program} (w:World) {t S:TypeId} (a:Option Addr) (h:P.underlying t=some (.pointer S)):(binOp .neq t (.pointer a) (.pointer none)).run P w=.ok (.bool (!a.isNone)) w:=by simp only[binOp];simp[Op.equal,Op.maxDepth,aes w 9999 a h]
theorem atn {st:bj} {a:Act} {w:World} {I:Nat->Prop} {rt:Nat->List Value} {fp:Nat->List Nat} (aq:cx C st a.tmps w I rt fp) {x:Operand} {b:Bool} (h:TZ st.h (bu st.g x)=some b):∃ad:Option Addr,a.eval x=.pointer ad/\ad.isNone=b:=by
 have ab:=aq.bu x;obtain⟨v1,hv⟩:∃v,v=a.eval x:=⟨_,rfl⟩;rw[<-hv] at ab;unfold TZ at h;split at h
 ·rename_i m t v ex;rw[ex] at ab;cases ab with|val b2=>
  obtain⟨_,b2⟩:=b2;cases h;cases v with
  |none=>subst b2;exact⟨none,hv.symm,rfl⟩
  |some z=>obtain⟨ua,lO,ds,rfl,_⟩:=b2;exact⟨some ⟨ua,lO,none⟩,hv.symm,rfl⟩
 ·rename_i id p ex;split at h
  case h_2=>cases h
  rename_i t ah;split at h
  case h_2=>cases h
  rename_i t' fZ;cases h;rw[ex] at ab;cases ab with|ref bC ag=>
  rw[ah] at bC;cases bC;have:=ag.ty;rw[fZ] at this;cases this;obtain⟨b,off,ds,rfl,cK,cG⟩:=th (aq.tree id _ ah).1 ag;exact⟨some ⟨b,off,none⟩,hv.symm,rfl⟩
 ·cases h
theorem awx (cy:ic.U E C) {o:Oper} {st:bj} {d:Nat} {b:Bool} (h:UE ic (bu st.g) st.h o=some (d,b)):d9 E C o st (fun s=>s=⟨(d,.val .bool b)::st.g,st.h⟩):=by
 unfold UE at h;split at h
 case h_2=>cases h
 rename_i lC op T x y u aP aJ;split at h
 case h_2=>cases h
 rename_i ua bm ex jw;cases hs:hy ic.n ic.pin lC with
 |false=>rw[hs] at h;cases h
 |true=>
 rw[hs] at h;simp only[cond_true] at h;have us:∃S,E.P.underlying T=some (.pointer S):=by
  rw[cy.1] at bm;unfold aaY at bm;split at bm
  ·rename_i iW t' ai;obtain⟨_,S,_,_,_,_,aY,_⟩:=E.ok T _ ai;exact⟨S,aY⟩
  ·cases bm
 obtain⟨S,aR⟩:=us;rintro a w ⟨I,rt,fp,aq⟩ next X ag
 have aB:=aq.bu y;rw[jw] at aB;obtain⟨gz,ld⟩:∃v,v=a.eval y:=⟨_,rfl⟩;rw[<-ld] at aB;cases aB with|dh _=>
 obtain⟨ad,kC,iU⟩:=atn aq ex;have uG:a.eval y=.pointer none:=ld.symm;have aG:∀op w,(eqGuard op T x y (.pointer ad) (.pointer none)).run E.P w=.ok () w:=fun op w=>(by unfold eqGuard;cases op<;>simp);split at h
 ·cases h;refine Yields.wp (Q:=fun av new=>av=.val .bool b/\new=[]) aq (.pure (v:=.bool _) (by simp only[execOp,aJ,kC,uG,Sem.run_bind,aG,Result.andThen_ok,ax3 _ _ aR,iU];rfl) (.bool _) ⟨rfl,rfl⟩) aP (hy.ok cy hs) ?_;rintro av new b9 w' ⟨rfl,rfl⟩ ki hr;exact ag _ b9 w' rfl ki hr
 ·cases h;refine Yields.wp (Q:=fun av new=>av=.val .bool (!ua)/\new=[]) aq (.pure (v:=.bool _) (by simp only[execOp,aJ,kC,uG,Sem.run_bind,aG,Result.andThen_ok,ax5 _ _ aR,iU];rfl) (.bool _) ⟨rfl,rfl⟩) aP (hy.ok cy hs) ?_;rintro av new b9 w' ⟨rfl,rfl⟩ ki hr;exact ag _ b9 w' rfl ki hr
 ·cases h
theorem aaO (cy:ic.U E C) {bA:Array Oper} {i:Nat} {l:List Nat} {o:Oper} {st:bj} {K:bj->Option aT} {r:aT} {Q:bj->Prop} (aJ:bA[i]?=some o) (hw:mu bA st o true) (h:i1 ic st o K=some r) (cA:∀s,K s=some r->i9 E C bA l s Q):i9 E C bA (i::l) st Q:=
by
 unfold i1 at h;split at h
 ·rename_i d t n aj;obtain⟨y,aB,h⟩:=dA.1 h;refine i9.op aJ hw ((ay4 cy aj aB).mono (fun s hs=>?_));subst hs;exact cA _ h
 split at h
 ·rename_i d b aj;refine i9.op aJ hw ((awx cy aj).mono (fun s hs=>?_));subst hs;exact cA _ h
 split at h
 ·rename_i d n aj;obtain⟨J,R⟩:=atq h;refine i9.op aJ hw ((atr cy aj).mono (fun s hs=>?_));obtain⟨b,rfl,aa⟩:=hs;cases b with
  |false=>exact cA _ J
  |true=>exact cA _ (R (aa rfl))
 split at h
 ·rename_i id s p hs;exact i9.op aJ hw ((ams cy hs h).mono (fun s ⟨e,aE,hs⟩=>by subst hs;exact cA _ aE))
 ·exact i9.op aJ hw ((Ys cy h).mono (fun s ⟨e,aE,hs⟩=>by subst hs;exact cA _ aE))
theorem HI {l2:List Nat} (cy:ic.U E C) {bA:Array Oper} {K:bj->Option aT} {r:aT} {Q:bj->Prop} (cA:∀s,K s=some r->i9 E C bA l2 s Q):∀{l:List Nat} {st:bj},mV ic bA l st K=some r->i9 E C bA (l++l2) st Q
 |[],st,h=>cA _ h
 |i::l,st,h=>by
  simp only[mV] at h;split at h
  ·cases h
  rename_i o aJ;split at h
  ·rename_i aG;exact aaO cy aJ (by unfold mu;rw[aG]) h (fun s hs=>HI cy cA hs)
  ·rename_i j kn aG;split at h
   case h_2=>cases h
   rename_i gk d uv aP;split at h
   case h_3=>cases h
   case h_2=>
    rename_i q ab;cases hs:hy ic.n ic.pin d with
    |false=>rw[hs] at h;cases h
    |true=>
    rw[hs] at h;have dc:=hy.ok cy hs;refine i9.skip aJ aP dc ?_ (HI cy cA h);unfold mu;rw[aG];simp only[uv,ab]
   rename_i x ab;cases hs:hy ic.n ic.pin d with
   |false=>rw[hs] at h;cases h
   |true=>
   rw[hs] at h;have dc:=hy.ok cy hs;simp only[cond_true] at h;split at h
   ·rename_i aa;obtain rfl:x=kn:=(by simpa using aa);have same:∀k,gt (⟨(gk,.val .bool x)::st.g,st.h⟩:bj).g k=gt st.g k:=fun k=>by
     show gt ((gk,_)::st.g) k=_;rw[jX];split
     ·rename_i e;rw[<-e,ab]
     ·rfl
    refine i9.same same rfl (aaO cy aJ ?_ h (fun s hs=>HI cy cA hs));unfold mu;rw[aG];simp only[uv,same gk,ab];simp
   ·rename_i aa;have SO:x=!kn:=by cases x<;>cases kn<;>first|rfl|cases aa
    have same:∀k,gt (⟨(gk,.val .bool (!kn))::st.g,st.h⟩:bj).g k=gt st.g k:=fun k=>by
     show gt ((gk,_)::st.g) k=_;rw[jX];split
     ·rename_i e;rw[<-e,ab,SO]
     ·rfl
    refine i9.same same rfl (i9.skip aJ aP dc ?_ (HI cy cA h));unfold mu;rw[aG];simp only[uv,same gk,ab];exact aa
theorem aqN (cy:ic.U E C) {bA:Array Oper} {K:bj->Option aT} {r:aT} {Q:bj->Prop} (cA:∀s,K s=some r->Q s) {l:List Nat} {st:bj} (h:mV ic bA l st K=some r):i9 E C bA l st Q:=by have:=HI (l2:=[]) cy (fun s hs=>i9.nil (cA s hs)) h;rwa[oM] at this
end
end
structure l3 (s t:bj):Prop where
 g:∀k,gt s.g k=gt t.g k
 h:∀id,aD s.h id=aD t.h id
theorem l3.refl (s:bj):l3 s s:=⟨fun _=>rfl,fun _=>rfl⟩
theorem l3.symm {s t:bj} (h:l3 s t):l3 t s:=⟨fun k=>(h.g k).symm,fun k=>(h.h k).symm⟩
theorem l3.trans {s t u:bj} (h:l3 s t) (k:l3 t u):l3 s u:=⟨fun i=>(h.g i).trans (k.g i),fun i=>(h.h i).trans (k.h i)⟩
theorem b7.Ae (e:b7) (s:bj) (k:Nat):gt (e.app s).g k=match e.d with
 |some (d,av)=>if d=k then av else e8 e.S e.keep (gt s.g k)
 |none=>e8 e.S e.keep (gt s.g k):=by
 obtain⟨d,S,keep,put⟩:=e;cases d with
 |none=>
  show gt (qN S keep s.g) k=_;rw[uL,sN]
 |some q=>
  obtain⟨d,av⟩:=q;show gt ((d,av)::qN S keep s.g) k=_;rw[jX,uL,sN]
theorem b7.xV (e:b7) (s:bj) (id:Nat):aD (e.app s).h id=(aD e.put id).or (if id∈e.S then none else aD s.h id):=by show aD (e.put++vU e.S s.h) id=_;rw[AM,lL,nP]
theorem l3.app {s t:bj} (h:l3 s t) (e:b7):l3 (e.app s) (e.app t):=
 ⟨fun k=>by rw[b7.Ae,b7.Ae,h.g],fun k=>by rw[b7.xV,b7.xV,h.h]⟩
theorem gD.seq {C:eb} {s t:bj} {b3:Array Value} {w:World} (h:l3 s t) (hr:gD C s b3 w):gD C t b3 w:=hr.less (fun k=>.inr (h.g k).symm) (fun id=>(h.h id).symm)
def Mj:Option (Nat×ax)->Option Nat->Bool
 |some q,some d=>Nat.beq q.1 d
 |none,none=>true
 |_,_=>false
def y6:ax->Bool
 |.dead=>false
 |_=>true
def tz (l r:List Nat):Bool:=l.all fun i=>dS i r
theorem tz.ok {l r:List Nat} (h:tz l r=true):∀i∈l,i∈r:=fun i hi=>fd.1 (fM.1 h i hi)
def tw (f:List Nat):ax->Bool
 |.ref id []=>dS (id+500000) f
 |_=>false
def Ee:Op->Bool
 |.move _=>true
 |_=>false
def MD:Nat->List bB->Option (Nat×List bB)
 |k,.snd::p=>MD (k+1) p
 |k,.fst::p=>some (k,p)
 |_,_=>none
def G4:List bB->Option (Nat×List bB)
 |.deref::.unst::p=>MD 0 p
 |_=>none
def DD (q:List bB):Option Nat:=match q with
 |[]=>some 1
 |q=>match G4 q with
  |some (k,[])=>some (2*k+2)
  |some (k,_::_)=>some (2*k+3)
  |none=>none
def vJ:ax->Option aCv
 |.ref id q=>match DD q with
  |some c=>some (id,c)
  |none=>none
 |.addr id q=>match DD q with
  |some c=>some (id,c)
  |none=>none
 |.app id q _ _ own=>match dS id own,G4 q with
  |false,some (k,_)=>some (id,2*k+3)
  |_,_=>none
 |_=>none
def yQ (f:List Nat) (a:ax):Bool:=match vJ a with
 |some (id,c)=>Nat.blt id 500000&&(dS (id+1000000*c) f&&a.ids.all fun i=>Nat.beq i id||dS i f)
 |none=>false
def On (p:List bB) (c:Nat):Bool:=match G4 p with
 |some (j,r)=>Nat.beq c 1||(Nat.ble 2 c&&(!(Nat.beq (c/2) (j+1))||(Nat.beq (c %2) 0&&sS r)))
 |none=>false
def xU (g:Operand->ax) (o:Oper):Option (Nat×List bB):=match o.op with
 |.call {callee:=.builtin .append,args:=xs,argTypes:=_}=>match xs.toList with
  |[x,_]=>match g x with
   |.ref id (s::p)=>some (id,s::p)
   |_=>none
  |_=>none
 |_=>none
def Uz (cn:List Nat) (g:Operand->ax) (o:Oper):Bool:=cn.all fun m=>Nat.blt m 1000000||(match xU g o with
 |some (id,p)=>Nat.beq (m %1000000) (id+500000)&&(Nat.blt id 500000&&On p (m/1000000))
 |none=>false)
def are (cn:List Nat) (keep:List (Nat×List bB)) (S:List Nat):Bool:=S.all fun id=>Nat.blt id 500000&&((dS id cn&&(dS (id+500000) cn||nM keep (.ref id [])))||dS (id+1500000) cn)
def Kq:ax->Bool
 |.ei l=>l.all y6
 |a=>y6 a
def rU (op:Op) (cF:List Nat) (a:ax):Bool:=match op with
 |.extract _ i=>match a with
  |.ei l=>match l[i]? with
   |some c=>y6 c&&(tz c.ids cF||tw cF c)
   |none=>false
  |_=>false
 |op=>Kq a&&(tz a.ids cF||((Ee op&&tw cF a)||yQ cF a))
def uk (cF cn:List Nat) (g:Operand->ax) (o:Oper) (e:b7):Bool:=
 Mj e.d o.dst&&(o.op.operands.toList.all fun x=>rU o.op cF (g x))&&are cn e.keep e.S&&(e.put.all fun q=>Nat.blt q.1 500000&&(dS q.1 cn||dS (q.1+1500000) cn))&&((match e.d with|some q=>tz q.2.ids cF||(tw cF q.2||yQ cF q.2)|none=>true)&&Uz cn g o)
theorem iQ {α aT:Type} (b:Bool) (x:Option α) (K:α->Option aT):(bif b then x else none).bind K=bif b then x.bind K else none:=by cases b<;>rfl
theorem ayO {aT:Type} (tt:List (TypeId×au)) (h:List (Nat×a6)) (T:TypeId) (x v:ax) (K:b7->Option aT):xi tt h T x v K=(xi tt h T x v some).bind K:=by
 unfold xi;split
 ·rfl
 split
 case h_2=>rfl
 split
 ·rfl
 rw[iQ];congr 1;split
 ·split
  case h_2=>rfl
  cases Nat.beq _ _
  ·simp only[cond_false,k2,bq]
  ·rfl
 ·split
  case h_2=>rfl
  rw[iQ];simp only[k2,bq]
 ·split
  ·simp only[k2,bq]
  ·rfl
theorem TR {aT:Type} (tt:List (TypeId×au)) (h:List (Nat×a6)) (T:TypeId) (x k v:ax) (K:b7->Option aT):rS tt h T x k v K=(rS tt h T x k v some).bind K:=by
 unfold rS;split
 case h_2=>rfl
 split
 case h_2=>rfl
 split
 case h_2=>rfl
 split
 case h_2=>rfl
 rw[iQ];congr 1;split
 ·simp only[k2,bq]
 ·rfl
theorem asO {aT:Type} (tt:List (TypeId×au)) (h:List (Nat×a6)) (d:Nat) (T:TypeId) (x k:ax) (K:b7->Option aT):wS tt h d T x k K=(wS tt h d T x k some).bind K:=by
 unfold wS;split
 case h_2=>rfl
 split
 case h_2=>rfl
 split
 case h_2=>rfl
 split
 case h_2=>rfl
 split
 case h_2=>rfl
 rw[iQ];simp only[k2,bq]
theorem amN {aT:Type} (tt:List (TypeId×au)) (h:List (Nat×a6)) (T:TypeId) (x s v:ax) (K:b7->Option aT):v2 tt h T x s v K=(v2 tt h T x s v some).bind K:=by
 unfold v2;split
 case h_2=>rfl
 rw[iQ,TR]
theorem asH {aT:Type} (tt:List (TypeId×au)) (h:List (Nat×a6)) (T:TypeId) (x k:ax) (K:b7->Option aT):wR tt h T x k K=(wR tt h T x k some).bind K:=by
 unfold wR;split
 case h_2=>rfl
 split
 case h_2=>rfl
 split
 case h_2=>rfl
 split
 case h_2=>rfl
 rw[iQ];simp only[k2,bq]
theorem akc {aT:Type} (tt:List (TypeId×au)) (an:List (Nat×au)) (h:List (Nat×a6)) (d:Nat) (T:TypeId) (x y:ax) (K:b7->Option aT):sv tt an h d T x y K=(sv tt an h d T x y some).bind K:=by
 unfold sv;split
 ·rfl
 split
 ·split
  case h_2=>rfl
  rw[iQ];congr 1;split
  ·simp only[k2,bq]
  ·split
   case h_2=>rfl
   split
   case h_2=>rfl
   split
   case h_2=>rfl
   cases Nat.beq _ _
   ·simp only[cond_false,k2,bq]
   ·rfl
 ·split
  case h_2=>rfl
  split
  case h_2=>rfl
  rw[iQ];simp only[k2,bq]
 ·split
  case h_2=>rfl
  rw[iQ];simp only[k2,bq]
 ·split
  case h_2=>rfl
  rw[iQ];simp only[k2,bq]
 ·rfl
theorem akf {aT:Type} (tt:List (TypeId×au)) (an:List (Nat×au)) (h:List (Nat×a6)) (d:Nat) (T:TypeId) (x y:ax) (K:b7->Option aT):rp tt an h d T x y K=(rp tt an h d T x y some).bind K:=by
 unfold rp;split
 ·unfold FJ;split
  case h_2=>rfl
  split
  case h_2=>rfl
  split
  case h_2=>rfl
  rw[iQ];simp only[k2,bq]
 ·exact akc _ _ _ _ _ _ _ K
theorem alF {aT:Type} (tt:List (TypeId×au)) (h:List (Nat×a6)) (d:Nat) (T:TypeId) (x y:ax) (K:b7->Option aT):vL tt h d T x y K=(vL tt h d T x y some).bind K:=by
 unfold vL;split
 ·rfl
 split
 ·split
  case h_2=>rfl
  rw[iQ];simp only[k2,bq]
 ·split
  case h_2=>rfl
  rw[iQ];simp only[k2,bq]
 ·rfl
theorem akD {aT:Type} (tt:List (TypeId×au)) (an:List (Nat×au)) (h:List (Nat×a6)) (g:Operand->ax) (d:Nat) (T:TypeId) (parts:List (Nat×Operand)) (K:b7->Option aT):xZ tt an h g d T parts K=(xZ tt an h g d T parts some).bind K:=by
 unfold xZ;split
 ·rfl
 split
 ·rw[iQ];congr 1;split
  ·rw[iQ];rfl
  ·rfl
 rw[iQ];congr 1;split
 ·rfl
 split
 ·rw[iQ];rfl
 ·rfl
theorem akM {aT:Type} (tt:List (TypeId×au)) (an:List (Nat×au)) (h:List (Nat×a6)) (d:Nat) (T:TypeId) (x:ax) (K:b7->Option aT):Al tt an h d T x K=(Al tt an h d T x some).bind K:=by
 unfold Al;split
 ·split
  ·rw[iQ];congr 1;split<;>rfl
  ·split
   ·rw[iQ];rfl
   ·rfl
  ·rfl
 ·rfl
theorem akQ {aT:Type} (tt:List (TypeId×au)) (an:List (Nat×au)) (h:List (Nat×a6)) (g:Operand->ax) (d:Nat) (T:TypeId) (n:Nat) (parts:List (Nat×Operand)) (K:b7->Option aT):x1 tt an h g d T n parts K=(x1 tt an h g d T n parts some).bind K:=by
 unfold x1;split
 ·simp only;rw[iQ];congr 1;split
  ·rfl
  ·split
   ·rw[iQ];rfl
   ·rfl
 ·rfl
theorem GN {ic:hj} {aT:Type} (g:Operand->ax) (h:List (Nat×a6)) (o:Oper) (K:b7->Option aT):aA ic g h o K=(aA ic g h o some).bind K:=by
 unfold aA;split
 ·split
  ·exact ayO _ _ _ _ _ K
  ·exact TR _ _ _ _ _ _ K
  ·exact TR _ _ _ _ _ _ K
  ·exact amN _ _ _ _ _ _ K
  ·split
   case h_2=>rfl
   exact asH _ _ _ _ _ K
  ·rfl
 rw[iQ];congr 1;split
 ·split
  case h_2=>rfl
  split
  ·split<;>rfl
  ·split<;>rfl
 ·split
  case h_2=>rfl
  split
  ·rfl
  rw[iQ];congr 1;simp only[qx,k2,iQ,bq]
 ·split
  case h_2=>rfl
  rw[iQ];congr 1;exact akf _ _ _ _ _ _ _ K
 ·split
  case h_2=>rfl
  exact alF _ _ _ _ _ _ K
 ·split
  ·rfl
  ·rfl
  ·rfl
  ·split
   ·rfl
   ·split
    ·simp only[k2,bq]
    ·simp only[k2,bq]
  ·simp only[k2,bq]
 ·exact akD _ _ _ _ _ _ _ K
 ·exact asO _ _ _ _ _ _ K
 ·exact akM _ _ _ _ _ _ K
 ·exact akQ _ _ _ _ _ _ _ _ K
 ·split
  ·rfl
  ·simp only[k2,bq]
  ·rw[iQ];simp only[k2,bq]
  ·split
   ·rfl
   ·simp only[k2,bq]
   ·rfl
theorem amo {ic:hj} {aT:Type} (g:Operand->ax) (h:List (Nat×a6)) (o:Oper) (K:b7->Option aT):lD ic g h o K=(lD ic g h o some).bind K:=by
 unfold lD;split
 ·exact GN g h o K
 ·rw[iQ];congr 1;refine(GN _ _ _ _).trans (Eq.trans ?_ (congrArg (fun z=>Option.bind z K) (GN _ _ _ _)).symm);simp only[k2,iQ,bq]
theorem Y6:∀{p:List bB} {k j:Nat} {r:List bB},MD k p=some (j,r)->k<=j/\p=List.replicate (j-k) .snd++.fst::r
 |[],_,_,_,h=>by cases h
 |s::p,k,j,r,h=>by
  cases s<;>simp only[MD] at h<;>first|(cases h;done)|skip
  ·cases h;exact⟨bU _,by simp⟩
  ·obtain⟨J,R⟩:=Y6 h;refine⟨by omega,?_⟩;rw[show j-k=(j-(k+1))+1 by omega,List.replicate_succ,mA,<-R]
theorem ME {p:List bB} {j:Nat} {r:List bB} (h:G4 p=some (j,r)):p=.deref::.unst::(List.replicate j .snd++.fst::r):=by
 unfold G4 at h;split at h
 ·rename_i p;have:=(Y6 h).2;rw[Nat.sub_zero] at this;rw[this]
 ·cases h
theorem Mi:∀{j k:Nat} {r r':List bB},j≠k->mH (List.replicate j .snd++.fst::r) (List.replicate k .snd++.fst::r')=true
 |0,0,_,_,h=>absurd rfl h
 |0,k+1,_,_,_=>rfl
 |j+1,0,_,_,_=>rfl
 |j+1,k+1,r,r',h=>Mi (j:=j) (k:=k) (r:=r) (r':=r') (fun e=>h (by rw[e]))
theorem abb:∀{j:Nat} {r:List bB},hd (List.replicate j .snd++.fst::r) (List.replicate j .snd++[.fst])=sS r
 |0,r=>by cases r<;>rfl
 |j+1,r=>abb (j:=j) (r:=r)
theorem awe {id c:Nat} {p:List bB} {S:List Nat} {a:ax} (aw:On p c=true) (aC:vJ a=some (id,c)) (bE:∀j∈a.ids,j=id\/j∉S):kD S [(id,p),(id,[])] a=true:=by
 unfold On at aw;split at aw
 case h_2=>cases aw
 rename_i j r hs;have Nf:=ME hs;have kk:sS p=true:=(by rw[Nf];rfl);have aa:∀i:Nat,Nat.beq i i=true:=xN;have place:∀q,DD q=some c->hd p q=true:=by
  intro q aj;unfold DD at aj;split at aj
  ·have:hd p []=sS p:=by cases p with|nil=>rfl|cons s p=>cases s<;>rfl
   rw[this];exact kk
  ·split at aj
   ·rename_i k ae;cases aj;rw[ME ae,Nf];have J:(2*k+2)/2=k+1:=(by omega);have R:(2*k+2) %2=0:=(by omega);rw[J,R] at aw;show hd (List.replicate j .snd++.fst::r) (List.replicate k .snd++[.fst])=true;by_cases e:j=k
    ·subst e;rw[abb];simpa using aw
    ·exact Mh (Mi e)
   ·rename_i k s f7 ae;cases aj;rw[ME ae,Nf];have J:(2*k+3)/2=k+1:=(by omega);have R:(2*k+3) %2=1:=(by omega);rw[J,R] at aw;show hd (List.replicate j .snd++.fst::r) (List.replicate k .snd++.fst::(s::f7))=true;by_cases e:j=k
    ·subst e;simp at aw
    ·exact Mh (Mi e)
   ·cases aj
 unfold vJ at aC;split at aC
 ·rename_i i q;split at aC
  case h_2=>cases aC
  rename_i c' hc;cases aC;cases q with
  |nil=>simp[kD,nM]
  |cons s q=>simp[kD,nM,place _ hc]
 ·rename_i i q;split at aC
  case h_2=>cases aC
  rename_i c' hc;cases aC;simp[kD,nM,Tf,place _ hc]
 ·rename_i i q τ aW own;split at aC
  case h_2=>cases aC
  rename_i k r' mR ae;cases aC;have J:(2*k+3)/2=k+1:=(by omega);have R:(2*k+3) %2=1:=(by omega);rw[J,R] at aw;have aP:mH p q=true:=by
   rw[ME ae,Nf];show mH (List.replicate j .snd++.fst::r) (List.replicate k .snd++.fst::r')=true;by_cases e:j=k
   ·subst e;simp at aw
   ·exact Mi e
  have aJ:(own.all fun i=>!(dS i S))=true:=fM.2 fun x ab=>by
   rcases bE x (gC _ ab) with e|e
   ·rw[e] at ab;rw[fd.2 ab] at mR;cases mR
   ·cases ak:dS x S
    ·rfl
    ·exact absurd (fd.1 ak) e
  show((own.all fun i=>!(dS i S))&&([(id,p),(id,[])].any fun e=>Nat.beq e.1 id&&mH e.2 q))=true;rw[aJ];simp[aP]
 ·cases aC
section
theorem TM {g eC:Operand->ax} {parts:List (Nat×Operand)} (aG:∀q∈parts,g q.2=eC q.2):∀(t:au) (n:Nat),uP g parts t n=uP eC parts t n
 |.pr a b,n=>by
  simp only[uP,TM aG b (n+1)];cases aw:oz parts n with
  |none=>rfl
  |some x=>
   have:g x=eC x:=aG (n,x) (Ig aw);simp only[this]
 |.nil,_=>rfl
 |.int _,_=>rfl
 |.bool,_=>rfl
 |.str,_=>rfl
 |.bM _ _,_=>rfl
 |.ptr _ _,_=>rfl
 |.osl _,_=>rfl
 |.optr _,_=>rfl
 |.st _,_=>rfl
 |.dG,_=>rfl
 |.mp _,_=>rfl
 |.ey _ _,_=>rfl
theorem abR {h:List (Nat×a6)} {g eC:Operand->ax} {parts:List (Nat×Operand)} (aG:∀q∈parts,g q.2=eC q.2):∀(t:au) (n:Nat),p1 h g parts t n=p1 h eC parts t n
 |.pr a b,n=>by
  simp only[p1,abR aG b (n+1)];cases aw:oz parts n with
  |none=>rfl
  |some x=>
   have:g x=eC x:=aG (n,x) (Ig aw);simp only[this]
 |.nil,_=>rfl
 |.int _,_=>rfl
 |.bool,_=>rfl
 |.str,_=>rfl
 |.bM _ _,_=>rfl
 |.ptr _ _,_=>rfl
 |.osl _,_=>rfl
 |.optr _,_=>rfl
 |.st _,_=>rfl
 |.dG,_=>rfl
 |.mp _,_=>rfl
 |.ey _ _,_=>rfl
section
variable {tt:List (TypeId×au)} {an:List (Nat×au)} {h a7:List (Nat×a6)} {d:Nat} {g eC:Operand->ax}
theorem Oi {x:Option Operand} (aG:∀y∈x.toArray,g y=eC y):x.map g=x.map eC:=by
 cases x with
 |none=>rfl
 |some y=>simp only[hC,cS];exact aG y (by simp)
theorem amW {op:Op} (aG:∀x∈op.operands,g x=eC x):gR tt an h g d op=gR tt an h eC d op:=by
 cases op
 case build T ps=>
  have:∀q∈ps.toList,g q.2=eC q.2:=fun q aj=>aG q.2 (by simp only[Op.operands,FB,dz];exact⟨q,aj,rfl⟩);simp only[gR,FM,TM this]
 case buildSlice T n ps=>
  have:∀q∈ps.toList,g q.2=eC q.2:=fun q aj=>aG q.2 (by simp only[Op.operands,FB,dz];exact⟨q,aj,rfl⟩);simp only[gR,Dc,kK this]
 case slice T x lo hi mx=>
  simp only[Op.operands] at aG;have J:g x=eC x:=aG x (by simp);have R:lo.map g=lo.map eC:=Oi (fun y aB=>aG y (by simp at aB|-;simp[aB]));have ac:hi.map g=hi.map eC:=Oi (fun y aB=>aG y (by simp at aB|-;simp[aB]));cases mx
  ·simp only[gR,J,R,ac]
  ·rfl
 case makeMap T r=>
  cases r<;>rfl
 case makeFunc fn fs cs=>
  cases fn<;>try rfl
  have:∀x∈cs.toList,g x=eC x:=fun x ab=>aG x (by simp only[Op.operands];exact vh _ (by simpa using ab));simp only[gR,kK this]
 case call c=>
  obtain⟨callee,args,cp⟩:=c;have ai:∀x∈args.toList,g x=eC x:=fun x ab=>aG x (by simp only[Op.operands,Call.operands];exact vh _ (by simpa using ab));clear aG;simp only[gR];split
  ·rename_i x T aA _;rw[aA] at ai;rw[ai x (by simp)]
  ·rename_i x r aA;rw[aA] at ai;rw[ai x (by simp),kK (fun y aB=>ai y (by simp[aB]))]
  ·rename_i x r aA;rw[aA] at ai;rw[ai x (by simp),kK (fun y aB=>ai y (by simp[aB]))]
  ·rfl
 all_goals (simp only[Op.operands] at aG;simp only[gR])
 all_goals (first|rfl|(simp_all;done))
theorem amZ {op:Op} (aG:∀x∈op.operands,g x=eC x):l8 tt an h g d op=l8 tt an h eC d op:=by
 cases op
 case slice T x lo hi mx=>
  simp only[Op.operands] at aG;have J:g x=eC x:=aG x (by simp);have R:lo.map g=lo.map eC:=Oi (fun y aB=>aG y (by simp at aB|-;simp[aB]));have ac:hi.map g=hi.map eC:=Oi (fun y aB=>aG y (by simp at aB|-;simp[aB]));cases mx
  ·simp only[l8,J,R,ac]
  ·rfl
 case call c=>
  obtain⟨callee,args,cp⟩:=c;have ai:∀x∈args.toList,g x=eC x:=fun x ab=>aG x (by simp only[Op.operands,Call.operands];exact vh _ (by simpa using ab));clear aG;simp only[l8];split
  ·rename_i x T aA _;rw[aA] at ai;rw[ai x (by simp)]
  ·rfl
 case unOp o T x=>
  have J:g x=eC x:=aG x (by simp[Op.operands]);cases o<;>simp only[l8,J]
 all_goals (simp only[Op.operands] at aG;simp only[l8])
 all_goals (first|rfl|(simp_all;done))
theorem Ym {ic:hj} {aT:Type} {o:Oper} {K:b7->Option aT} (aG:∀x∈o.op.operands,g x=eC x):aA ic g h o K=aA ic eC h o K:=by
 have rB:=fun(d:Nat)=>amZ (tt:=ic.tt) (an:=ic.an) (h:=h) (d:=d) aG;have dn:=fun(d:Nat)=>amW (tt:=ic.tt) (an:=ic.an) (h:=h) (d:=d) aG;unfold aA;cases aP:o.dst with
 |none=>
  simp only;split
  ·rename_i T x v b5;rw[b5] at aG;rw[aG x (by simp[Op.operands]),aG v (by simp[Op.operands])]
  ·rename_i T x k v b5;rw[b5] at aG;rw[aG x (by simp[Op.operands]),aG k (by simp[Op.operands]),aG v (by simp[Op.operands])]
  ·rename_i T x k v b5;rw[b5] at aG;rw[aG x (by simp[Op.operands]),aG k (by simp[Op.operands]),aG v (by simp[Op.operands])]
  ·rename_i T x k v b5;rw[b5] at aG;rw[aG x (by simp[Op.operands]),aG k (by simp[Op.operands]),aG v (by simp[Op.operands])]
  ·rename_i xs cp b5;rw[b5] at aG;split
   ·rename_i x y T jR aA _;have ab:∀z∈xs.toList,g z=eC z:=fun z a2=>aG z (by simp only[Op.operands,Call.operands];exact vh _ (by simpa using a2));rw[aA] at ab;rw[ab x (by simp),ab y (by simp)]
   ·rfl
  ·rfl
 |some d=>
  simp only;congr 1;split
  ·rename_i c x y b5;rw[b5] at aG;rw[aG c (by simp[Op.operands]),aG x (by simp[Op.operands]),aG y (by simp[Op.operands])]
  ·rename_i z xs _ b5;rw[b5] at aG;have:xs.toList.map g=xs.toList.map eC:=kK fun x ab=>aG x (by simp only[Op.operands,Call.operands];exact vh _ (by simpa using ab));have a2:g z=eC z:=aG z (by simp[Op.operands,Call.operands]);rw[this,a2]
  ·rename_i xs cp b5;rw[b5] at aG;split
   ·rename_i x y T jR aA _;have ab:∀z∈xs.toList,g z=eC z:=fun z a2=>aG z (by simp only[Op.operands,Call.operands];exact vh _ (by simpa using a2));rw[aA] at ab;rw[ab x (by simp),ab y (by simp)]
   ·rfl
  ·rename_i xs cp b5;rw[b5] at aG;split
   ·rename_i x y T jR aA _;have ab:∀z∈xs.toList,g z=eC z:=fun z a2=>aG z (by simp only[Op.operands,Call.operands];exact vh _ (by simpa using a2));rw[aA] at ab;rw[ab x (by simp),ab y (by simp)]
   ·rfl
  ·rename_i x b5;rw[b5] at aG;rw[aG x (by simp[Op.operands])]
  ·rename_i T ps b5;rw[b5] at aG;have aw:∀q∈ps.toList,g q.2=eC q.2:=fun q aj=>aG q.2 (by simp only[Op.operands,FB,dz];exact⟨q,aj,rfl⟩);simp only[xZ,TM aw,abR aw]
  ·rename_i T x k b5;rw[b5] at aG;rw[aG x (by simp[Op.operands]),aG k (by simp[Op.operands])]
  ·rename_i T x b5;rw[b5] at aG;rw[aG x (by simp[Op.operands])]
  ·rename_i T n ps b5;rw[b5] at aG;have aw:∀q∈ps.toList,g q.2=eC q.2:=fun q aj=>aG q.2 (by simp only[Op.operands,FB,dz];exact⟨q,aj,rfl⟩);simp only[x1,kK aw]
  ·rw[rB,dn]
def fv (h a7:List (Nat×a6)) (a:ax):Prop:=∀id∈a.ids,aD h id=aD a7 id
theorem awj {x:ax} (ab:fv h a7 x):w4 h x=w4 a7 x:=by
 cases x with
 |ref id p=>simp only[w4,ab id (by simp[ax.ids])]
 |_=>rfl
theorem awi {x:ax} {id:Nat} {p:List bB} (aw:w4 h x=some (id,p)):id∈x.ids:=by
 unfold w4 at aw;split at aw
 ·cases aw;simp[ax.ids]
 ·split at aw
  ·split at aw
   ·cases aw;simp[ax.ids]
   ·cases aw
  ·cases aw
 ·cases aw
theorem ayP {T:TypeId} {x v:ax} {aT:Type} {K:b7->Option aT} (ab:fv h a7 x) (hv:fv h a7 v):xi tt h T x v K=xi tt a7 T x v K:=by
 unfold xi;rw[<-awj ab];split
 ·rfl
 ·rename_i id p aw;rw[ab id (awi aw)];cases v with
  |ref c2 eu=>simp only[hv c2 (by simp[ax.ids])]
  |_=>rfl
theorem afK {σ:au} {y:ax} (aB:fv h a7 y):na h σ y=na a7 σ y:=by
 cases y with
 |ref id p=>simp only[na,aB id (by simp[ax.ids])]
 |view id p lo hi=>simp only[na,aB id (by simp[ax.ids])]
 |val τ z=>cases τ<;>rfl
 |dh v=>unfold na;split<;>first|rfl|(split<;>first|rfl|simp_all)
 |_=>rfl
theorem akd {T:TypeId} {x y:ax} {aT:Type} {K:b7->Option aT} (ab:fv h a7 x) (aB:fv h a7 y) (aP:aD h d=aD a7 d):sv tt an h d T x y K=sv tt an a7 d T x y K:=by
 unfold sv;split
 ·rfl
 ·have g2:∀σ:au,na h σ y=na a7 σ y:=fun σ=>afK aB;cases x with
  |ref id p=>
   cases p with
   |nil=>
    simp only[ab id (by simp[ax.ids]),g2];cases y with
    |ref c2 eu=>
     cases eu with
     |nil=>simp only[aB c2 (by simp[ax.ids])]
     |cons s eu=>rfl
    |_=>rfl
   |cons s p=>simp only[ab id (by simp[ax.ids]),g2,aP]
  |view id p lo hi=>
   cases p with
   |nil=>simp only[ab id (by simp[ax.ids]),g2]
   |cons s p=>rfl
  |dh v=>simp only[g2];split<;>first|rfl|(split<;>first|rfl|simp_all)
  |_=>rfl
theorem av5 {x y:ax} (aB:fv h a7 y):BX h x y=BX a7 x y:=by
 unfold BX;cases x with
 |ref id p=>
  cases p with
  |nil=>rfl
  |cons s p=>
   cases y with
   |ref c2 eu=>
    cases eu with
    |nil=>simp only[aB c2 (by simp[ax.ids])]
    |cons hx eu=>rfl
   |_=>rfl
 |_=>rfl
theorem akg {T:TypeId} {x y:ax} {aT:Type} {K:b7->Option aT} (ab:fv h a7 x) (aB:fv h a7 y) (aP:aD h d=aD a7 d):rp tt an h d T x y K=rp tt an a7 d T x y K:=by
 unfold rp;rw[av5 aB,akd ab aB aP];split
 ·rename_i id p c2 t ay;obtain⟨rfl,_,_⟩:=Uw ay;unfold FJ;rw[ab id (by simp[ax.ids]),aP]
 ·rfl
theorem alG {T:TypeId} {x y:ax} {aT:Type} {K:b7->Option aT} (ab:fv h a7 x) (aB:fv h a7 y):vL tt h d T x y K=vL tt a7 d T x y K:=by
 unfold vL;split
 ·rfl
 ·have g2:∀σ:au,na h σ y=na a7 σ y:=fun σ=>afK aB;cases x with
  |ref id p=>
   cases p with
   |nil=>simp only[ab id (by simp[ax.ids]),g2]
   |cons s p=>rfl
  |view id p lo hi=>
   cases p with
   |nil=>simp only[ab id (by simp[ax.ids]),g2]
   |cons s p=>rfl
  |_=>rfl
theorem PV {v:ax} (hv:fv h a7 v):t8 an h d v=t8 an a7 d v:=by
 cases v with
 |ref id p=>
  cases p with
  |nil=>simp only[t8,hv id (by simp[ax.ids])]
  |cons s p=>rfl
 |view id p lo hi=>
  cases p with
  |nil=>simp only[t8,hv id (by simp[ax.ids])]
  |cons s p=>rfl
 |dh v=>unfold t8;split<;>first|rfl|(split<;>first|rfl|simp_all)
 |_=>rfl
theorem awb {a:au} {v:ax} (hv:fv h a7 v):EK h a v=EK a7 a v:=by
 cases v with
 |ref id p=>
  cases p with
  |nil=>simp only[EK,hv id (by simp[ax.ids])]
  |cons s p=>rfl
 |_=>rfl
theorem abS {parts:List (Nat×Operand)} (aG:∀q∈parts,fv h a7 (g q.2)):∀(t:au) (n:Nat),p1 h g parts t n=p1 a7 g parts t n
 |.pr a b,n=>by
  simp only[p1,abS aG b (n+1)];cases aw:oz parts n with
  |none=>rfl
  |some x=>simp only[awb (aG (n,x) (Ig aw))]
 |.nil,_=>rfl
 |.int _,_=>rfl
 |.bool,_=>rfl
 |.str,_=>rfl
 |.bM _ _,_=>rfl
 |.ptr _ _,_=>rfl
 |.osl _,_=>rfl
 |.optr _,_=>rfl
 |.st _,_=>rfl
 |.dG,_=>rfl
 |.mp _,_=>rfl
 |.ey _ _,_=>rfl
theorem als {t:au} {v:ax} (hv:fv h a7 v):Aq h t v=Aq a7 t v:=by
 cases v with
 |ref id p=>
  cases p with
  |nil=>simp only[Aq,hv id (by simp[ax.ids])]
  |cons s p=>rfl
 |_=>rfl
theorem XZ {t:au}:∀{l:List ax},(∀a∈l,fv h a7 a)->Ar h t l=Ar a7 t l
 |[],_=>rfl
 |x::r,ai=>by simp only[Ar,als (ai x (by simp)),XZ (l:=r) (fun a aC=>ai a (by simp[aC]))]
theorem Xb {S:List Nat} {τ:au} {v:ax} (hv:fv h a7 v):rq h S v τ=rq a7 S v τ:=by
 cases v with
 |ref id p=>simp only[rq,hv id (by simp[ax.ids])]
 |_=>rfl
theorem ax.abO {f:Nat} {l:List ax} {a:ax} {id:Nat} (aC:a∈l) (bp:id∈a.ids):id∈(ax.d1 f l).ids:=by obtain⟨i,hi,rfl⟩:=jO.1 aC;exact ax.It (l:=l) (i:=i) (cr hi) bp
theorem Zc {S:List Nat}:∀{τs:List au} {avs:List ax},(∀a∈avs,fv h a7 a)->sM h S τs avs=sM a7 S τs avs
 |[],[],_=>rfl
 |[],_::_,_=>rfl
 |_::_,[],_=>rfl
 |τ::l,av::as,ai=>by simp only[sM,Xb (ai av (by simp)),Zc (τs:=l) (avs:=as) (fun a aC=>ai a (by simp[aC]))]
theorem yn {S:List Nat}:∀{ps:List hD} {avs:List ax},(∀a∈avs,fv h a7 a)->e3 h S ps avs=e3 a7 S ps avs
 |[],[],_=>rfl
 |[],_::_,_=>rfl
 |p::l,[],_=>by cases p<;>rfl
 |.v τ::l,av::as,ai=>by simp only[e3,Xb (ai av (by simp)),yn (ps:=l) (avs:=as) (fun a aC=>ai a (by simp[aC]))]
 |.c n τs::l,av::as,ai=>by
  have aZ:=yn (S:=S) (ps:=l) (avs:=as) (fun a aC=>ai a (by simp[aC]));cases av with
  |d1 m q=>
   have:sM h S τs q=sM a7 S τs q:=Zc (fun a aC id bp=>ai (.d1 m q) (by simp) id (ax.abO aC bp));simp only[e3,this,aZ]
  |_=>rfl
 |.m τ::l,av::as,ai=>by
  have aZ:=yn (S:=S) (ps:=l) (avs:=as) (fun a aC=>ai a (by simp[aC]));cases av with
  |ref id p=>
   cases p with
   |nil=>simp only[e3,ai (.ref id []) (by simp) id (by simp[ax.ids]),aZ]
   |cons s p=>rfl
  |_=>rfl
 |.o τ::l,av::as,ai=>by
  have aZ:=yn (S:=S) (ps:=l) (avs:=as) (fun a aC=>ai a (by simp[aC]));cases av with
  |ref id p=>
   cases p with
   |nil=>simp only[e3,ai (.ref id []) (by simp) id (by simp[ax.ids]),aZ]
   |cons s p=>rfl
  |dh v=>simp only[e3,aZ]
  |_=>rfl
 |.w σ::l,av::as,ai=>by
  have aZ:=yn (S:=S) (ps:=l) (avs:=as) (fun a aC=>ai a (by simp[aC]));cases av with
  |view id p lo hi=>
   cases p with
   |nil=>simp only[e3,ai (.view id [] lo hi) (by simp) id (by simp[ax.ids]),aZ]
   |cons s p=>rfl
  |_=>rfl
 |.n::l,av::as,ai=>by
  have aZ:=yn (S:=S) (ps:=l) (avs:=as) (fun a aC=>ai a (by simp[aC]));cases av with
  |dh v=>simp only[e3,aZ]
  |_=>rfl
 |.s f q::l,av::as,ai=>by
  have aZ:=yn (S:=S) (ps:=l) (avs:=as) (fun a aC=>ai a (by simp[aC]));cases av with
  |ref id p=>cases p<;>simp only[e3,aZ]
  |view id p lo hi=>cases p<;>simp only[e3,aZ]
  |_=>simp only[e3,aZ]
theorem arH {T:TypeId} {x:ax} (ab:fv h a7 x):BF tt h T x=BF tt a7 T x:=by
 unfold BF;cases x with
 |ref id p=>simp only[ab id (by simp[ax.ids])]
 |app id p τ aW own=>simp only[ab id (by simp[ax.ids])]
 |val τ z=>cases gr tt T with|none=>rfl|some u=>cases τ<;>rfl
 |dh v=>cases gr tt T with|none=>rfl|some u=>simp only;split<;>first|rfl|(split<;>first|rfl|simp_all)
 |_=>rfl
theorem asV {T:TypeId} {x:ax} (ab:fv h a7 x):BO tt h T x=BO tt a7 T x:=by
 unfold BO;cases x with
 |ref id p=>simp only[ab id (by simp[ax.ids])]
 |val τ z=>cases mY tt T with|none=>rfl|some u=>cases τ<;>rfl
 |_=>rfl
theorem arR {T:TypeId} {x k:ax} {ok:Bool} (ab:fv h a7 x):BH tt h T x k ok=BH tt a7 T x k ok:=by
 unfold BH;cases x with
 |ref id p=>simp only[ab id (by simp[ax.ids])]
 |val τ z=>split<;>first|rfl|(cases τ<;>rfl)
 |_=>split<;>rfl
theorem asT {T:TypeId} (aP:aD h d=aD a7 d):Ex tt an h d T=Ex tt an a7 d T:=by unfold Ex;rw[aP]
theorem TS {aT:Type} {K:b7->Option aT} {T:TypeId} {x k v:ax} (ab:fv h a7 x):rS tt h T x k v K=rS tt a7 T x k v K:=by
 unfold rS;cases x with
 |ref id p=>simp only[ab id (by simp[ax.ids])]
 |_=>rfl
theorem asP {aT:Type} {K:b7->Option aT} {T:TypeId} {x k:ax} (ab:fv h a7 x):wS tt h d T x k K=wS tt a7 d T x k K:=by
 unfold wS;cases x with
 |ref id p=>simp only[ab id (by simp[ax.ids])]
 |_=>rfl
theorem amO {aT:Type} {K:b7->Option aT} {T:TypeId} {x s v:ax} (ab:fv h a7 x):v2 tt h T x s v K=v2 tt a7 T x s v K:=by
 unfold v2;cases x with
 |ref id p=>
  cases s with
  |l7 c2 eu k=>simp only[TS ab]
  |_=>rfl
 |_=>rfl
theorem asI {aT:Type} {K:b7->Option aT} {T:TypeId} {x k:ax} (ab:fv h a7 x):wR tt h T x k K=wR tt a7 T x k K:=by
 unfold wR;cases x with
 |ref id p=>simp only[ab id (by simp[ax.ids])]
 |_=>rfl
theorem aqO {T:TypeId} {x i:ax} (ab:fv h a7 x):Bx tt h T x i=Bx tt a7 T x i:=by
 unfold Bx;cases x with
 |ref id p=>simp only[ab id (by simp[ax.ids])]
 |view id p lo hi=>simp only[ab id (by simp[ax.ids])]
 |val τ z=>cases τ<;>rfl
 |dh v=>rfl
 |_=>rfl
theorem arO {T:TypeId} {x:ax} (ab:fv h a7 x):BG tt h T x=BG tt a7 T x:=by
 unfold BG;cases x with
 |ref id p=>simp only[ab id (by simp[ax.ids])]
 |addr id p=>simp only[ab id (by simp[ax.ids])]
 |val τ z=>cases τ<;>first|rfl|(cases z<;>rfl)
 |dh v=>rfl
 |_=>rfl
theorem anG {T:TypeId} {x:ax} {n:Nat} (ab:fv h a7 x):A4 tt h T x n=A4 tt a7 T x n:=by
 unfold A4;cases x with
 |ref id p=>simp only[ab id (by simp[ax.ids])]
 |addr id p=>simp only[ab id (by simp[ax.ids])]
 |val τ z=>cases τ<;>first|rfl|(rename_i m t;cases z<;>first|rfl|(cases t<;>rfl))
 |dh v=>rfl
 |_=>rfl
theorem anI {T:TypeId} {x:ax} {n:Nat} (ab:fv h a7 x):mz.DE tt h T x n=mz.DE tt a7 T x n:=by
 unfold mz.DE;cases x with
 |ref id p=>simp only[ab id (by simp[ax.ids])]
 |val τ z=>cases τ<;>rfl
 |dh v=>rfl
 |_=>rfl
theorem ato {x:ax} (ab:fv h a7 x):BS h x=BS a7 x:=by
 unfold BS;cases x with
 |ref id p=>simp only[ab id (by simp[ax.ids])]
 |val τ z=>cases τ<;>rfl
 |dh v=>rfl
 |_=>rfl
theorem ayA {T:TypeId} {x:ax} {lo hi:Option ax} (ab:fv h a7 x):Cm tt h T x lo hi=Cm tt a7 T x lo hi:=by
 unfold Cm;cases x with
 |ref id p=>simp only[ab id (by simp[ax.ids])]
 |val τ z=>cases τ<;>rfl
 |dh v=>rfl
 |_=>rfl
theorem asy {T:TypeId} {l c:ax} (aP:aD h d=aD a7 d):BL tt an h d T l c=BL tt an a7 d T l c:=by unfold BL;rw[aP]
theorem aj6 {T:TypeId} (aP:aD h d=aD a7 d):C1 tt an h d T=C1 tt an a7 d T:=by unfold C1;rw[aP]
theorem amX {op:Op} (aG:∀x∈op.operands,fv h a7 (g x)) (aP:aD h d=aD a7 d):gR tt an h g d op=gR tt an a7 g d op:=by
 cases op
 case box T x=>simp only[gR,FN];rw[aP]
 case buildSlice T n ps=>simp only[gR,Dc];rw[aP]
 case alloc T=>exact aj6 aP
 case makeSlice T l c=>exact asy aP
 case makeMap T r=>
  cases r
  ·exact asT aP
  ·rfl
 case lookup T x k ok=>exact arR (aG x (by simp[Op.operands]))
 case load T x=>exact arO (aG x (by simp[Op.operands]))
 case nilCheck x=>exact ato (aG x (by simp[Op.operands]))
 case indexAddr T x i=>exact aqO (aG x (by simp[Op.operands]))
 case fieldAddr T x n=>exact anG (aG x (by simp[Op.operands]))
 case field T x n=>exact anI (aG x (by simp[Op.operands]))
 case slice T x lo hi mx=>
  cases mx
  ·exact ayA (aG x (by simp[Op.operands]))
  ·rfl
 case call c=>
  obtain⟨callee,args,cp⟩:=c;have ai:∀x∈args.toList,fv h a7 (g x):=fun x ab=>aG x (by simp only[Op.operands,Call.operands];exact vh _ (by simpa using ab));clear aG;simp only[gR];split
  ·rename_i x T aA _;rw[aA] at ai;split;exact arH (ai x (by simp));exact asV (ai x (by simp))
  ·rfl
  ·rfl
  ·rfl
 case makeFunc fn fs cs=>cases fn<;>rfl
 all_goals rfl
theorem am0 {op:Op} (aG:∀x∈op.operands,fv h a7 (g x)) (aP:aD h d=aD a7 d):l8 tt an h g d op=l8 tt an a7 g d op:=by
 cases op
 case lookup T x k ok=>
  have ab:=aG x (by simp[Op.operands]);simp only[l8];split
  ·rename_i u id p n aA aX bY;rw[aX] at ab;rw[ab id (by simp[ax.ids])]
  ·rfl
 case makeSlice T l c=>simp only[l8,aP]
 case unOp o T x=>cases o<;>rfl
 case indexAddr T x i=>
  have ab:=aG x (by simp[Op.operands]);simp only[l8];revert ab;cases g x with
  |ref id p=>intro ab;simp only[ab id (by simp[ax.ids])]
  |view id p lo hi=>
   intro ab;cases p with
   |nil=>simp only[ab id (by simp[ax.ids])]
   |cons=>rfl
  |val τ z=>intro _;cases τ<;>rfl
  |_=>intro _;rfl
 case load T x=>
  have ab:=aG x (by simp[Op.operands]);simp only[l8];revert ab;cases g x with
  |ref id p=>intro ab;simp only[ab id (by simp[ax.ids])]
  |addr id p=>intro ab;simp only[ab id (by simp[ax.ids])]
  |val τ z=>intro _;cases τ<;>rfl
  |_=>intro _;rfl
 case slice T x lo hi mx=>
  have ab:=aG x (by simp[Op.operands]);cases mx
  ·simp only[l8];revert ab;cases g x with
   |ref id p=>intro ab;simp only[ab id (by simp[ax.ids])]
   |val τ z=>intro _;cases τ<;>rfl
   |_=>intro _;rfl
  ·rfl
 case call c=>
  obtain⟨callee,args,cp⟩:=c;have ai:∀x∈args.toList,fv h a7 (g x):=fun x ab=>aG x (by simp only[Op.operands,Call.operands];exact vh _ (by simpa using ab));clear aG;simp only[l8];split
  ·rename_i x T aA _;rw[aA] at ai;have ab:=ai x (by simp);cases gr tt T with
   |none=>
    revert ab;cases g x with
    |ref id p=>intro ab;simp only;rw[ab id (by simp[ax.ids])]
    |_=>intro _;rfl
   |some u=>
    revert ab;cases g x with
    |ref id p=>intro ab;simp only;rw[ab id (by simp[ax.ids])]
    |_=>intro _;rfl
  ·rfl
 all_goals rfl
theorem yZ {callee:Callee} {args:Array Operand} {cp:Array TypeId} {x:Operand} (ab:x∈args.toList):x∈(Op.call {callee:=callee,args:=args,argTypes:=cp}).operands:=by simp only[Op.operands,Call.operands];exact vh _ (by simpa using ab)
theorem Yn {ic:hj} {o:Oper} {e:b7} (aE:aA ic g h o some=some e) (aG:∀x∈o.op.operands,fv h a7 (g x)) (aP:∀d,o.dst=some d->aD h d=aD a7 d) (aw:∀q∈e.put,aD h q.1=aD a7 q.1):aA ic g a7 o some=some e:=by
 unfold aA at aE|-;cases qA:o.dst with
 |none=>
  rw[qA] at aE;simp only at aE|-;split at aE
  ·rename_i T x v b5;rw[b5] at aG;rw[<-ayP (aG x (by simp[Op.operands])) (aG v (by simp[Op.operands]))];exact aE
  ·rename_i T x k v b5;rw[b5] at aG;rw[<-TS (aG x (by simp[Op.operands]))];exact aE
  ·rename_i T x k v b5;rw[b5] at aG;rw[<-TS (aG x (by simp[Op.operands]))];exact aE
  ·rename_i T x s v b5;rw[b5] at aG;rw[<-amO (aG x (by simp[Op.operands]))];exact aE
  ·rename_i xs cp b5;rw[b5] at aG;split at aE
   case h_2=>cases aE
   rename_i x k T jR aA aX;have ai:∀z∈xs.toList,fv h a7 (g z):=fun z a2=>aG z (yZ a2);rw[aA] at ai;rw[<-asI (ai x (by simp))];exact aE
  ·cases aE
 |some d=>
  rw[qA] at aE;have aP:=aP d qA;simp only at aE|-;cases hs:hy ic.n ic.pin d with
  |false=>rw[hs] at aE;cases aE
  |true=>
  rw[hs] at aE;simp only[cond_true] at aE|-;split at aE
  ·rename_i c x y b5;exact aE
  ·rename_i z xs _ b5;rw[b5] at aG;split at aE
   case h_2=>cases aE
   rename_i f l a2
   try rw[a2]
   try simp only
   have ai:∀a∈xs.toList.map g++l,fv h a7 a:=fun a aC=>by
    rcases fg.1 aC with aC|aC
    ·obtain⟨x,ab,rfl⟩:=dz.1 aC;exact aG x (yZ ab)
    ·intro id bp;exact aG z (by simp[Op.operands,Call.operands]) id (by rw[a2];exact ax.abO aC bp)
   split at aE
   ·cases aE
   rename_i F dn;cases aa:Nat.beq F.f f with
   |false=>rw[aa] at aE;cases aE
   |true=>
   rw[aa] at aE;simp only[cond_true,qx] at aE|-;rw[<-yn ai];obtain⟨a,aC,aE⟩:=dA.1 aE;obtain⟨b,Bq,aE⟩:=dA.1 aE;simp only[aC,Bq,bq];cases hc:qs d ⟨[],h⟩ (xs.toList.map g++l) (f2 F.ps a b) (j1 F.rs (iY F.ps b)) with
   |false=>rw[hc] at aE;cases aE
   |true=>
   rw[hc] at aE;have rE:qs d ⟨[],a7⟩ (xs.toList.map g++l) (f2 F.ps a b) (j1 F.rs (iY F.ps b))=true:=(by rw[<-hc];unfold qs;congr 1;rw[q8,fM,fM];cases aE;have aj:∀q∈j4 d (jE (j1 F.rs (iY F.ps b))) 0 (j1 F.rs (iY F.ps b)),aD h q.1=aD a7 q.1:=fun q aj=>aw q (by simp only[fg];exact .inr aj);exact⟨fun ay q fN=>by rw[show aD (bj.mk [] h).h q.1=aD h q.1 from rfl,aj q fN];exact ay q fN,fun ay q fN=>by rw[show aD (bj.mk [] a7).h q.1=aD a7 q.1 from rfl,<-aj q fN];exact ay q fN⟩);rw[rE];exact aE
  ·rename_i xs cp b5;rw[b5] at aG;split at aE
   case h_2=>cases aE
   rename_i x y T jR aA aX;have ai:∀z∈xs.toList,fv h a7 (g z):=fun z a2=>aG z (yZ a2);rw[aA] at ai;rw[<-akg (ai x (by simp)) (ai y (by simp)) aP];exact aE
  ·rename_i xs cp b5;rw[b5] at aG;split at aE
   case h_2=>cases aE
   rename_i x y T jR aA aX;have ai:∀z∈xs.toList,fv h a7 (g z):=fun z a2=>aG z (yZ a2);rw[aA] at ai;rw[<-alG (ai x (by simp)) (ai y (by simp))];exact aE
  ·rename_i x b5;rw[b5] at aG;have ab:=aG x (by simp[Op.operands]);revert aE ab;cases g x with
   |val τ y=>intro aE _;exact aE
   |dh v=>intro aE ab;simp only[<-PV ab];exact aE
   |ref id p=>intro aE ab;simp only[<-PV ab];exact aE
   |view id p lo hi=>intro aE ab;simp only[<-PV ab];exact aE
   |_=>intro aE _;exact aE
  ·rename_i T ps b5;rw[b5] at aG;have aw:∀q∈ps.toList,fv h a7 (g q.2):=fun q aj=>aG q.2 (by simp only[Op.operands,FB,dz];exact⟨q,aj,rfl⟩);rw[<-aE];simp only[xZ,abS aw,aP]
  ·rename_i T x k b5;rw[b5] at aG;rw[<-asP (aG x (by simp[Op.operands]))];exact aE
  ·rename_i T x b5;rw[b5] at aG;have ab:=aG x (by simp[Op.operands]);rw[<-aE];simp only[Al,aP];revert ab;cases g x with
   |ref id p=>
    intro ab;cases p with
    |nil=>simp only[ab id (by simp[ax.ids])]
    |cons s p=>rfl
   |_=>intro _;rfl
  ·rename_i T n ps b5;rw[b5] at aG;have aw:∀a∈ps.toList.map (fun q=>g q.2),fv h a7 a:=fun a aC=>by
    obtain⟨q,aj,rfl⟩:=dz.1 aC;exact aG q.2 (by simp only[Op.operands,FB,dz];exact⟨q,aj,rfl⟩)
   rw[<-aE];simp only[x1,XZ aw,aP]
  ·rw[am0 aG aP,amX aG aP] at aE;exact aE
end
theorem afu {op:Op}:∀x∈xq op,x∈op.operands:=by
 intro x ab;cases op<;>simp only[xq] at ab<;>first|(cases ab;done)|skip
 case assign y=>simpa[Op.operands] using ab
 case box T y=>simpa[Op.operands] using ab
 case build T ps=>simpa[Op.operands] using ab
 case buildSlice T n ps=>simpa[Op.operands] using ab
 case store T a v=>simp at ab;simp[Op.operands,ab]
 case mapUpdate T a k v=>simp at ab;simp[Op.operands,ab]
 case insert T a k v=>simp at ab;simp[Op.operands,ab]
 case entryStore T a k v=>simp at ab;simp[Op.operands,ab]
 case call c=>
  obtain⟨callee,args,cp⟩:=c;simp only at ab;split at ab
  ·exact yZ ab
  ·exact yZ (List.mem_of_mem_drop ab)
  ·cases ab
theorem MB {ik:List aCv} {k:Nat} {g:Operand->ax}:∀{l:List Operand},∀id∈o1 ik k g l,∃x∈l,g x=.ref id []
 |[],id,h=>by cases h
 |x::l,id,h=>by
  simp only[o1] at h;split at h
  ·rename_i i ab;rw[Bool.cond_eq_ite] at h;split at h
   ·rcases d4.1 h with rfl|h
    ·exact⟨x,by simp,ab⟩
    ·obtain⟨y,aB,e⟩:=MB id h;exact⟨y,by simp[aB],e⟩
   ·obtain⟨y,aB,e⟩:=MB id h;exact⟨y,by simp[aB],e⟩
  ·obtain⟨y,aB,e⟩:=MB id h;exact⟨y,by simp[aB],e⟩
theorem Y5 {ik:List aCv} {k:Nat} {g eC:Operand->ax}:∀{l:List Operand},(∀x∈l,g x=eC x)->o1 ik k g l=o1 ik k eC l
 |[],_=>rfl
 |x::l,aG=>by simp only[o1,aG x (by simp),Y5 (l:=l) (fun y aB=>aG y (by simp[aB]))]
theorem Y4 {h a7:List (Nat×a6)} {F:List Nat} (dn:∀id∈F,aD h id=aD a7 id) (a:ax):gZ h F a=gZ a7 F a:=by
 cases a with
 |ref id p=>
  cases p with
  |nil=>
   simp only[gZ];cases ak:dS id F with
   |false=>rfl
   |true=>rw[dn id (fd.1 ak)]
  |cons s p=>rfl
 |_=>rfl
theorem anT {h a7:List (Nat×a6)} {F:List Nat} (dn:∀id∈F,aD h id=aD a7 id) (a:ax):jx h F a=jx a7 F a:=by
 by_cases ah:∃l,a=.ei l
 ·obtain⟨l,rfl⟩:=ah;simp only[jx,kK (fun a _=>Y4 dn a)]
 ·rw[MA (fun l e=>ah ⟨l,e⟩),MA (fun l e=>ah ⟨l,e⟩),Y4 dn a]
theorem Y3 {h:List (Nat×a6)} {F:List Nat} {a:ax}:∀id∈(gZ h F a).ids,id∈a.ids:=by
 intro id bp;rcases pQ h F a with⟨i,t,rfl,_,_,e⟩|⟨e,_⟩|⟨e,_⟩
 ·rw[e] at bp;have:(wb t).ids=[]:=(by unfold wb;split<;>rfl);rw[this] at bp;cases bp
 ·rw[e] at bp;cases bp
 ·rw[e] at bp;exact bp
theorem aaR {f:ax->ax} (aH:∀a,∀id∈(f a).ids,id∈a.ids):∀{l:List ax} {id:Nat},id∈ax.rM (l.map f)->id∈ax.rM l
 |[],_,h=>h
 |a::l,id,h=>by simp only[ff,ax.rM,fg] at h|-;exact h.imp (aH a id) (aaR aH)
theorem anS {h:List (Nat×a6)} {F:List Nat} {a:ax}:∀id∈(jx h F a).ids,id∈a.ids:=by
 by_cases ah:∃l,a=.ei l
 ·obtain⟨l,rfl⟩:=ah;exact fun id bp=>aaR (fun a=>Y3) bp
 ·rw[MA (fun l e=>ah ⟨l,e⟩)];exact Y3
theorem amq {ic:hj} {g eC:Operand->ax} {h a7:List (Nat×a6)} {o:Oper} {e:b7} (aE:lD ic g h o some=some e) (Sb:∀x∈o.op.operands,g x=eC x) (aG:∀x∈o.op.operands,fv h a7 (g x)) (aP:∀d,o.dst=some d->aD h d=aD a7 d) (aw:∀q∈e.put,aD h q.1=aD a7 q.1):lD ic eC a7 o some=some e:=by
 unfold lD at aE|-;rw[<-Y5 (fun x ab=>Sb x (afu x ab))];split
 ·rename_i dn;rw[dn] at aE;rw[<-Ym Sb];exact Yn aE aG aP aw
 ·rename_i cX;split at aE
  ·rename_i dn;exact(cX dn).elim
  have dn:∀id∈o1 ic.ik (A6 o) g (xq o.op),aD h id=aD a7 id:=fun id bp=>(by obtain⟨x,ab,e⟩:=MB id bp;exact aG x (afu x ab) id (by rw[e];simp[ax.ids]));generalize o1 ic.ik (A6 o) g (xq o.op)=F at aE dn|-;have hc:qt a7 F=qt h F:=(by unfold qt;rw[q8,fM,fM];exact⟨fun ay id bp=>by rw[dn id bp];exact ay id bp,fun ay id bp=>by rw[<-dn id bp];exact ay id bp⟩);rw[hc];cases ZJ:qt h F with
  |false=>rw[ZJ] at aE;cases aE
  |true=>
  rw[ZJ] at aE;simp only[cond_true] at aE|-;rw[GN] at aE|-;obtain⟨ek,J,R⟩:=dA.1 aE;have ap6:ek.put=e.put:=by
   cases ae:(ek.keep.all fun i=>!dS i.1 F) with
   |false=>rw[ae] at R;cases R
   |true=>rw[ae] at R;cases R;rfl
  have ac:aA ic (fun x=>jx a7 F (eC x)) (del F a7) o some=some ek:=by
   rw[<-Ym (g:=fun x=>jx h F (g x)) (fun x ab=>by simp only[Sb x ab,anT dn])];refine Yn J (fun x ab id bp=>?_) (fun d aoZ=>?_) (fun q aj=>?_)
   ·rw[nP,nP,aG x ab id (anS id bp)]
   ·rw[nP,nP,aP d aoZ]
   ·rw[nP,nP,aw q (by rw[<-ap6];exact aj)]
  rw[ac];exact R
end
section
def uU (bA:Array Oper) (i:Nat):List Nat:=match bA[i]? with
 |some o=>(o.after.toList.filter (Region.binds .any)).map (·.on)
 |none=>[]
def E4 (d:Nat):b7:=⟨some (d,.dh undef),[],[],[]⟩
def Ml (ic:hj) {aT:Type} (cF cn:List Nat) (st:bj) (o:Oper) (K:b7->Option aT):Option aT:=
 lD ic (bu st.g) st.h o fun e=>bif uk cF cn (bu st.g) o e then K e else none
def jb (ic:hj) (bA:Array Oper) (cF cn:Nat->List Nat) (i:Nat) (st:bj) (e:b7):Prop:=
 ∃o,bA[i]?=some o/\((mu bA st o true/\lD ic (bu st.g) st.h o some=some e/\uk (cF i) (cn i) (bu st.g) o e=true)\/(mu bA st o false/\∃d,o.dst=some d/\hy ic.n ic.pin d=true/\e=E4 d))
def yJ (
 ic:hj) {aT:Type} (bA:Array Oper) (cF cn:Nat->List Nat):List Nat->bj->(bj->Option aT)->Option aT
 |[],st,K=>K st
 |i::l,st,K=>match bA[i]? with
  |none=>none
  |some o=>match o.guard with
   |none=>Ml ic (cF i) (cn i) st o fun e=>yJ ic bA cF cn l (e.app st) K
   |some (j,kn)=>match(bA[j]?).bind (·.dst),o.dst with
    |some gk,some d=>match gt st.g gk with
     |.val .bool x=>bif hy ic.n ic.pin d then
      (match x==kn with
      |true=>Ml ic (cF i) (cn i) ⟨(gk,.val .bool kn)::st.g,st.h⟩ o fun e=>yJ ic bA cF cn l (e.app ⟨(gk,.val .bool kn)::st.g,st.h⟩) K
      |false=>yJ ic bA cF cn l ⟨(d,.dh undef)::(gk,.val .bool (!kn))::st.g,st.h⟩ K) else none
     |.dh (.tuple _)=>bif hy ic.n ic.pin d then yJ ic bA cF cn l ⟨(d,.dh undef)::st.g,st.h⟩ K else none
     |_=>none
    |_,_=>none
def ri (ic:hj) (bA:Array Oper) (cF cn:Nat->List Nat):List Nat->bj->bj->Prop
 |[],s,t=>l3 s t
 |i::l,s,t=>∃e,jb ic bA cF cn i s e/\ri ic bA cF cn l (e.app s) t
theorem akb {tt:List (TypeId×au)} {an:List (Nat×au)} {h:List (Nat×a6)} {d:Nat} {T:TypeId} {id:Nat} {s:bB} {p:List bB} {y:ax} {e:b7} (aE:rp tt an h d T (.ref id (s::p)) y some=some e):e.keep=[(id,s::p),(id,[])]/\e.S=[id]/\aD e.put id=aD h id:=by
 have gm:∀{av:ax} {cg:a6},aD h id=some cg->aD h d=none->some (b7.mk (some (d,av)) [id] [(id,s::p),(id,[])] [(d,⟨.dG,()⟩),(id,cg)])=some e->e.keep=[(id,s::p),(id,[])]/\e.S=[id]/\aD e.put id=aD h id:=(by intro av cg J R ac;cases ac;have cX:¬d=id:=fun e=>(by rw[e,J] at R;cases R);exact⟨rfl,rfl,by rw[dq,if_neg cX,dq,if_pos rfl,J]⟩);unfold rp at aE;split at aE
 ·rename_i gq w1 c2 t2 aJ;obtain⟨aA,_,_⟩:=Uw aJ;cases aA;unfold FJ at aE;split at aE
  case h_2=>cases aE
  rename_i u cg _ J R;split at aE
  case h_2=>cases aE
  rename_i σ aqs;split at aE
  case h_2=>cases aE
  cases aa:(bI u σ&&(Nat.ble σ.size 1300&&(σ.f5&&!(Nat.beq c2 id)))) with
  |false=>rw[aa] at aE;cases aE
  |true=>
  rw[aa] at aE;obtain⟨_,_,aE⟩:=dA.1 aE;obtain⟨_,_,aE⟩:=dA.1 aE;exact gm J R aE
 ·unfold sv at aE;split at aE
  ·cases aE
  rename_i u _;simp only at aE;split at aE
  case h_2=>cases aE
  rename_i cg J R;split at aE
  case h_2=>cases aE
  rename_i σ aqs;cases aa:(bI u σ&&Nat.ble σ.size 1300&&σ.f5) with
  |false=>rw[aa] at aE;cases aE
  |true=>
  rw[aa] at aE;obtain⟨_,_,aE⟩:=dA.1 aE;obtain⟨_,_,aE⟩:=dA.1 aE;obtain⟨_,_,aE⟩:=dA.1 aE;exact gm J R aE
theorem PT {g:Operand->ax} {o:Oper} {id:Nat} {p:List bB} (h:xU g o=some (id,p)):∃xs cp x y s q,o.op=.call {callee:=.builtin .append,args:=xs,argTypes:=cp}/\xs.toList=[x,y]/\p=s::q/\g x=.ref id (s::q):=by
 unfold xU at h;split at h
 case h_2=>cases h
 rename_i xs cp b5;split at h
 case h_2=>cases h
 rename_i x y ab;split at h
 case h_2=>cases h
 rename_i gq s q aG;cases h;exact⟨xs,cp,x,y,s,q,b5,ab,rfl,aG⟩
theorem Yl {ic:hj} {g:Operand->ax} {h:List (Nat×a6)} {o:Oper} {e:b7} {id:Nat} {p:List bB} {xs:Array Operand} {cp:Array TypeId} {x y:Operand} {s:bB} {q:List bB} (b5:o.op=.call {callee:=.builtin .append,args:=xs,argTypes:=cp}) (ab:xs.toList=[x,y]) (aw:p=s::q) (aG:g x=.ref id (s::q)) (aE:aA ic g h o some=some e):e.keep=[(id,p),(id,[])]/\e.S=[id]/\aD e.put id=aD h id:=by
 unfold aA at aE;cases aP:o.dst with
 |none=>rw[aP] at aE;simp only[b5] at aE;cases aE
 |some d=>
  rw[aP] at aE;simp only at aE;cases hs:hy ic.n ic.pin d with
  |false=>rw[hs] at aE;cases aE
  |true=>
  rw[hs] at aE;simp only[cond_true,b5,ab] at aE;split at aE
  case h_2=>cases aE
  rename_i hS y' T jR ex amV;cases ex;cases aa:Nat.beq T jR with
  |false=>rw[aa] at aE;cases aE
  |true=>
  rw[aa,aG] at aE;rw[aw];exact akb aE
theorem Yr {ic:hj} {g:Operand->ax} {h:List (Nat×a6)} {o:Oper} {e:b7} {id:Nat} {p:List bB} (aC:xU g o=some (id,p)) (aE:lD ic g h o some=some e):e.keep=[(id,p),(id,[])]/\aD e.put id=aD h id:=by
 obtain⟨xs,cp,x,y,s,q,b5,ab,aw,aG⟩:=PT aC;unfold lD at aE;split at aE
 ·obtain⟨J,_,ac⟩:=Yl b5 ab aw aG aE;exact⟨J,ac⟩
 ·generalize o1 ic.ik (A6 o) g (xq o.op)=F at aE;cases hc:qt h F with
  |false=>rw[hc] at aE;cases aE
  |true=>
  rw[hc] at aE;simp only[cond_true] at aE;rw[GN] at aE;obtain⟨dI,J,R⟩:=dA.1 aE;cases ae:dI.keep.all (fun i=>!dS i.1 F) with
  |false=>rw[ae] at R;cases R
  |true=>
  rw[ae] at R;cases R;have Bi:jx h F (.ref id (s::q))=.ref id (s::q)\/jx h F (.ref id (s::q))=.dead:=by
   rw[MA (by intro l h;cases h)];rcases pQ h F (.ref id (s::q)) with⟨i,t,e,_⟩|⟨e,_⟩|⟨e,_⟩
   ·cases e
   ·exact .inr e
   ·exact .inl e
  rcases Bi with Bi|Bi
  ·obtain⟨bk,_,cm⟩:=Yl (g:=fun x=>jx h F (g x)) b5 ab aw (by show jx h F (g x)=_;rw[aG];exact Bi) J;refine⟨bk,?_⟩;show aD dI.put id=_;rw[cm,nP];have ag:id∉F:=fun ak=>by
    have:=fM.1 ae (id,p) (by rw[bk];simp);rw[fd.2 ak] at this;cases this
   rw[if_neg ag]
  ·exfalso;unfold aA at J;cases aP:o.dst with
   |none=>rw[aP] at J;simp only[b5] at J;cases J
   |some d=>
    rw[aP] at J;simp only at J;cases hs:hy ic.n ic.pin d with
    |false=>rw[hs] at J;cases J
    |true=>
    rw[hs] at J;simp only[cond_true,b5,ab] at J;split at J
    case h_2=>cases J
    rename_i hS y' T jR ex amV;cases ex;cases aa:Nat.beq T jR with
    |false=>rw[aa] at J;cases J
    |true=>
    rw[aa] at J;simp only[cond_true,aG,Bi,rp,BX,sv] at J;split at J<;>cases J
section
variable {ic:hj} {bA:Array Oper} {cF cn:Nat->List Nat}
theorem Mj.ok {x:Option (Nat×ax)} {y:Option Nat} (h:Mj x y=true):∀d av,x=some (d,av)->y=some d:=by
 intro d av e;subst e;cases y with
 |none=>cases h
 |some lC=>rw[fi (show Nat.beq d lC=true from h)]
theorem Yt {f m:List Nat} {st:bj} {o:Oper} {aT:Type} {K:b7->Option aT} {r:aT} (h:Ml ic f m st o K=some r):∃e,lD ic (bu st.g) st.h o some=some e/\uk f m (bu st.g) o e=true/\K e=some r:=by
 unfold Ml at h;rw[amo] at h;obtain⟨e,J,R⟩:=dA.1 h;refine⟨e,J,?_⟩;cases hc:uk f m (bu st.g) o e with
 |false=>rw[hc] at R;cases R
 |true=>rw[hc] at R;exact⟨rfl,R⟩
def pF (f:List Nat) (a:ax):Prop:=(∀id∈a.ids,id∈f)\/(∃id,a=.ref id []/\id+500000∈f)\/∃id c,vJ a=some (id,c)/\id<500000/\id+1000000*c∈f/\∀i∈a.ids,i=id\/i∈f
theorem yQ.ok {f:List Nat} {a:ax} (h:yQ f a=true):∃id c,vJ a=some (id,c)/\id<500000/\id+1000000*c∈f/\∀i∈a.ids,i=id\/i∈f:=by
 unfold yQ at h;split at h
 case h_2=>cases h
 rename_i id c hc;simp only[bW] at h;refine⟨id,c,hc,fQ h.1,fd.1 h.2.1,fun i hi=>?_⟩;have:=fM.1 h.2.2 i hi;rw[h9] at this;exact this.imp fi fd.1
theorem tw.ok {f:List Nat} {a:ax} (h:tw f a=true):∃id,a=.ref id []/\id+500000∈f:=by
 unfold tw at h;split at h
 ·exact⟨_,rfl,fd.1 h⟩
 ·cases h
theorem pF.ok {f:List Nat} {a:ax} (h:(tz a.ids f||tw f a)=true):pF f a:=by
 rcases h9 _ _▸h with h|h
 ·exact .inl (tz.ok h)
 ·exact .inr (.inl (tw.ok h))
theorem pF.aur {f:List Nat} {a:ax} (h:(tz a.ids f||(tw f a||yQ f a))=true):pF f a:=by
 simp only[h9] at h;rcases h with h|h|h
 ·exact .inl (tz.ok h)
 ·exact .inr (.inl (tw.ok h))
 ·exact .inr (.inr (yQ.ok h))
theorem YP {q:List bB} {c:Nat} (h:DD q=some c):1<=c:=by
 unfold DD at h;split at h
 ·cases h;exact bU _
 ·split at h<;>first|(cases h;done)|(cases h;omega)
theorem XX {a:ax} {id c:Nat} (h:vJ a=some (id,c)):1<=c:=by
 unfold vJ at h;split at h
 ·split at h
  ·rename_i hc;cases h;exact YP hc
  ·cases h
 ·split at h
  ·rename_i hc;cases h;exact YP hc
  ·cases h
 ·split at h
  ·cases h;omega
  ·cases h
 ·cases h
def Wq (op:Op) (f:List Nat) (a:ax):Prop:=
 (∃x i l c,op=.extract x i/\a=.ei l/\l[i]?=some c/\y6 c=true/\pF f c)\/
 ((∀x i,op≠.extract x i)/\Kq a=true/\pF f a/\((∀id∈a.ids,id∈f\/∃c,1<=c/\id<500000/\id+1000000*c∈f)\/Ee op=true))
theorem rU.ok {op:Op} {f:List Nat} {a:ax} (h:rU op f a=true):Wq op f a:=by
 unfold rU at h;split at h
 ·rename_i x i;split at h
  case h_2=>cases h
  rename_i l;split at h
  case h_2=>cases h
  rename_i c hc;rw[bW] at h;exact .inl ⟨x,i,l,c,rfl,rfl,hc,h.1,.ok h.2⟩
 ·rename_i cX;simp only[bW,h9] at h;refine .inr ⟨fun x i e=>cX x i e,h.1,?_⟩;rcases h.2 with h|⟨h,a7⟩|h
  ·exact⟨.inl (tz.ok h),.inl fun i hi=>.inl (tz.ok h i hi)⟩
  ·exact⟨.inr (.inl (tw.ok a7)),.inr h⟩
  ·obtain⟨id,c,J,R,ac,aL⟩:=yQ.ok h;refine⟨.inr (.inr ⟨id,c,J,R,ac,aL⟩),.inl fun i hi=>?_⟩;rcases aL i hi with e|e
   ·exact .inr ⟨c,XX J,by omega,by rw[e];exact ac⟩
   ·exact .inl e
theorem uk.ok {f m:List Nat} {g:Operand->ax} {o:Oper} {e:b7} (h:uk f m g o e=true):(∀d av,e.d=some (d,av)->o.dst=some d)/\(∀x∈o.op.operands,Wq o.op f (g x))/\(∀id∈e.S,id<500000/\(id∈m/\(id+500000∈m\/nM e.keep (.ref id [])=true)\/id+1500000∈m))/\(∀q∈e.put,q.1<500000/\(q.1∈m\/q.1+1500000∈m))/\(∀d av,e.d=some (d,av)->pF f av)/\(∀n∈m,1000000<=n->∃id p,xU g o=some (id,p)/\n %1000000=id+500000/\id<500000/\On p (n/1000000)=true):=by
 unfold uk at h;simp only[bW] at h;obtain⟨⟨⟨⟨J,R⟩,ac⟩,aL⟩,aY,bG⟩:=h;refine⟨Mj.ok J,fun x ab=>?_,fun id bp=>?_,fun q aj=>?_,fun d av aP=>?_,fun n ag ai=>?_⟩
 ·exact rU.ok (fM.1 R x (by simpa using ab))
 ·have:=fM.1 ac id bp;simp only[bW,h9] at this;exact⟨fQ this.1,this.2.imp (fun h=>⟨fd.1 h.1,h.2.imp fd.1 (fun h=>h)⟩) fd.1⟩
 ·have:=fM.1 aL q aj;simp only[bW,h9] at this;exact⟨fQ this.1,this.2.imp fd.1 fd.1⟩
 ·rw[aP] at aY;exact pF.aur aY
 ·have:=fM.1 bG n ag;rw[h9] at this;rcases this with h|h
  ·have:n<1000000:=fQ h;omega
  ·split at h
   case h_2=>cases h
   rename_i id p aC;simp only[bW] at h;exact⟨id,p,aC,fi h.1,fQ h.2.1,h.2.2⟩
def vz (f:List Nat) (a b9:ax):Prop:=(Kq a=true->pF f a->b9=a)/\∀l,a=.ei l->∃l',b9=.ei l'/\∀(i:Nat) (c:ax),l[i]?=some c->y6 c=true->pF f c->l'[i]?=some c
theorem vz.refl {f:List Nat} {a b9:ax} (h:b9=a):vz f a b9:=⟨fun _ _=>h,fun l ai=>⟨l,by rw[h,ai],fun _ _ h _ _=>h⟩⟩
theorem vz.rU {f:List Nat} {op:Op} {a b9:ax} (h:vz f a b9) (aJ:rU op f a=true):mz.rU op f b9=true:=by
 rcases rU.ok aJ with⟨x,i,l,c,J,R,ac,aL,aY⟩|⟨J,R,ac,aL⟩
 ·obtain⟨l',e,bG⟩:=h.2 l R;subst J R e;simp only[mz.rU,ac,bG i c ac aL aY] at aJ|-;exact aJ
 ·rw[h.1 R ac];exact aJ
theorem amp {ic:hj} {g eC:Operand->ax} {h a7:List (Nat×a6)} {o:Oper} {e:b7} {x:Operand} {i:Nat} {l l':List ax} {c:ax} (b5:o.op=.extract x i) (aE:lD ic g h o some=some e) (J:g x=.ei l) (R:eC x=.ei l') (ac:l[i]?=some c) (aL:l'[i]?=some c):lD ic eC a7 o some=some e:=by
 unfold lD at aE|-;have aH:∀g:Operand->ax,o1 ic.ik (A6 o) g (xq o.op)=[]:=fun g=>(by rw[b5];rfl);rw[aH] at aE|-;simp only at aE|-;unfold aA at aE|-;cases aP:o.dst with
 |none=>rw[aP] at aE;simp only[b5] at aE;cases aE
 |some d=>
  rw[aP] at aE;simp only[b5,l8,gR,Ms,J,R,ac,aL] at aE|-;exact aE
theorem amr {ic:hj} {g eC:Operand->ax} {h a7:List (Nat×a6)} {o:Oper} {e:b7} (ak:Ee o.op=true) (aE:lD ic g h o some=some e) (aG:∀x∈o.op.operands,g x=eC x):lD ic eC a7 o some=some e:=by
 unfold Ee at ak;split at ak
 ·rename_i x b5;have ab:g x=eC x:=aG x (by rw[b5];simp[Op.operands]);unfold lD at aE|-;have aH:∀g:Operand->ax,o1 ic.ik (A6 o) g (xq o.op)=[]:=fun g=>(by rw[b5];rfl);rw[aH] at aE|-;simp only at aE|-;unfold aA at aE|-;cases aP:o.dst with
  |none=>rw[aP] at aE;simp only[b5] at aE;cases aE
  |some d=>
   rw[aP] at aE;simp only[b5,l8,gR,<-ab] at aE|-;exact aE
 ·cases ak
theorem asL {o:Oper} {k:Nat} (h:.tmp k∈o.op.operands):k∈o.looksAt bA:=
 sl _ (List.mem_filterMap.2 ⟨.tmp k,by simpa using h,rfl⟩)
theorem asM {o:Oper} {j gk:Nat} {kn:Bool} (aG:o.guard=some (j,kn)) (ao:(bA[j]?).bind (·.dst)=some gk):gk∈o.looksAt bA:=
 pI _ (by rw[aG];simp only[ao];simp)
theorem afC {f:List Nat} {s s':bj} {o:Oper} {b:Bool} (h:∀k∈o.looksAt bA,vz f (gt s.g k) (gt s'.g k)) (hw:mu bA s o b):mu bA s' o b:=by
 unfold mu at*;cases aG:o.guard with
 |none=>rw[aG] at hw;exact hw
 |some p=>
  obtain⟨j,kn⟩:=p;rw[aG] at hw;simp only at hw|-;cases ao:(bA[j]?).bind (·.dst) with
  |none=>rw[ao] at hw;exact hw
  |some gk=>
   rw[ao] at hw;simp only at hw|-;have ak:=h gk (asM aG ao);split at hw
   ·rename_i x ab;rw[ak.1 (by rw[ab];rfl) (by rw[ab];exact .inl (by simp[ax.ids])),ab];exact hw
   ·rename_i l ab;rw[ak.1 (by rw[ab];rfl) (by rw[ab];exact .inl (by simp[ax.ids])),ab];exact hw
   ·exact hw.elim
theorem jb.congr {i:Nat} {s s':bj} {e:b7} (h:jb ic bA cF cn i s e) (aG:∀o,bA[i]?=some o->∀k∈o.looksAt bA,vz (cF i) (gt s.g k) (gt s'.g k)) (ay:∀o,bA[i]?=some o->∀id,id∈cF i\/id∈cn i\/o.dst=some id->aD s.h id=aD s'.h id) (ai:∀id c,1<=c->id<500000->id+1000000*c∈cF i->aD s.h id=aD s'.h id):jb ic bA cF cn i s' e:=by
 obtain⟨o,aJ,h⟩:=h;have aG:=aG o aJ;have ay:=ay o aJ;refine⟨o,aJ,h.imp (fun⟨J,R,ac⟩=>⟨afC aG J,?_⟩) (fun⟨J,R⟩=>⟨afC aG J,R⟩)⟩;obtain⟨f1,cE,g6,ny,v7,Mt⟩:=uk.ok ac;have hs:∀x∈o.op.operands,vz (cF i) (bu s.g x) (bu s'.g x):=by
  intro x ab;cases x with
  |tmp k=>exact aG k (asL ab)
  |const v=>exact .refl (by cases v<;>rfl)
  |func f=>exact .refl rfl
  |global g=>exact .refl rfl
 constructor
 ·by_cases nE:∃x j,o.op=.extract x j
  ·obtain⟨x,j,b5⟩:=nE;have ab:x∈o.op.operands:=(by rw[b5];simp[Op.operands]);rcases cE x ab with⟨hS,s6,l,c,bS,bt,cY,c7,g0⟩|⟨bS,_⟩
   ·rw[b5] at bS;cases bS;obtain⟨l',aN,aM⟩:=(hs x ab).2 l bt;exact amp b5 R bt aN cY (aM _ c cY c7 g0)
   ·exact absurd b5 (bS x j)
  ·have cX:∀x∈o.op.operands,Kq (bu s.g x)=true/\pF (cF i) (bu s.g x)/\((∀id∈(bu s.g x).ids,id∈cF i\/∃c,1<=c/\id<500000/\id+1000000*c∈cF i)\/Ee o.op=true):=fun x ab=>by
    rcases cE x ab with⟨hS,s6,l,c,bS,_⟩|⟨_,g⟩
    ·exact absurd ⟨hS,s6,bS⟩ nE
    ·exact g
   have aC:∀x∈o.op.operands,bu s.g x=bu s'.g x:=fun x ab=>((hs x ab).1 (cX x ab).1 (cX x ab).2.1).symm;by_cases ak:Ee o.op=true
   ·exact amr ak R aC
   ·have Bs:∀x∈o.op.operands,∀id∈(bu s.g x).ids,aD s.h id=aD s'.h id:=fun x ab id bp=>by
     rcases((cX x ab).2.2.resolve_right ak) id bp with h|⟨c,J,R,ac⟩
     ·exact ay id (.inl h)
     ·exact ai id c J R ac
    refine amq R aC Bs (fun d aP=>ay d (.inr (.inr aP))) (fun q aj=>?_);rcases(ny q aj).2 with h|h
    ·exact ay _ (.inr (.inl h))
    ·obtain⟨id,p,ch,c8,a3,_⟩:=Mt _ h (by omega);have:=(ny q aj).1;obtain⟨xs,cp,x,y,fA,aN,dg,dF,_,kb⟩:=PT ch;have Nq:x∈o.op.operands:=(by rw[dg];exact yZ (by rw[dF];simp));exact Bs x Nq q.1 (by rw[kb];simp only[ax.ids,fh];omega)
 ·unfold uk at*;have:(o.op.operands.toList.all fun x=>rU o.op (cF i) (bu s'.g x))=true:=by
   simp only[bW] at ac;rw[fM];intro x ab;exact(hs x (by simpa using ab)).rU (fM.1 ac.1.1.1.2 x ab)
  have RW:∀id p,xU (bu s.g) o=some (id,p)->xU (bu s'.g) o=some (id,p):=fun id p aC=>by
   obtain⟨xs,cp,x,y,fA,aN,dg,dF,hE,kb⟩:=PT aC;have Nq:x∈o.op.operands:=(by rw[dg];exact yZ (by rw[dF];simp));have aqD:bu s'.g x=bu s.g x:=by
    rcases cE x Nq with⟨hS,s6,l,c,bS,_⟩|⟨_,bt,cY,_⟩
    ·rw[dg] at bS;cases bS
    ·exact(hs x Nq).1 bt cY
   unfold xU;rw[dg];simp only[dF,aqD,kb,hE]
  have ap2:Uz (cn i) (bu s'.g) o=true:=by
   simp only[bW] at ac;have bG:=ac.2.2;unfold Uz at bG|-;rw[fM] at bG|-;intro n ag;have:=bG n ag;rw[h9] at this|-;refine this.imp (fun h=>h) (fun h=>?_);split at h
   case h_2=>cases h
   rename_i id p aC;rw[RW id p aC];exact h
  simp only[bW] at ac|-;exact⟨⟨⟨⟨ac.1.1.1.1,this⟩,ac.1.1.2⟩,ac.1.2⟩,ac.2.1,ap2⟩
theorem jb.Mn {i:Nat} {s:bj} {e:b7} (h:jb ic bA cF cn i s e) {o:Oper} (aJ:bA[i]?=some o):(∀d av,e.d=some (d,av)->o.dst=some d)/\(∀id∈e.S,id<500000/\(id∈cn i/\(id+500000∈cn i\/nM e.keep (.ref id [])=true)\/id+1500000∈cn i))/\(∀q∈e.put,q.1<500000/\(q.1∈cn i\/q.1+1500000∈cn i))/\(∀d av,e.d=some (d,av)->pF (cF i) av)/\(∀id,id<500000->id+1500000∈cn i->aD (e.app s).h id=aD s.h id)/\(∀id c a,id∈e.S->id<500000->id+1000000*c+500000∈cn i->1<=c->vJ a=some (id,c)->(∀j∈a.ids,j=id\/j∉e.S)->kD e.S e.keep a=true):=by
 obtain⟨bR,jY,h⟩:=h;rw[aJ] at jY;cases jY;rcases h with⟨_,R,h⟩|⟨_,d,aP,_,rfl⟩
 ·obtain⟨f1,cE,g6,ny,v7,Mt⟩:=uk.ok h;refine⟨f1,g6,ny,v7,fun id bp ak=>?_,fun id c a bE bp ak hc aC ao=>?_⟩
  ·obtain⟨gq,p,ch,c8,a3,_⟩:=Mt _ ak (by omega);obtain rfl:gq=id:=(by omega);obtain⟨_,aL⟩:=Yr ch R;rw[b7.xV,aL];cases aD s.h gq with
   |none=>simp
   |some x=>rfl
  ·obtain⟨gq,p,ch,c8,a3,a4⟩:=Mt _ ak (by omega);obtain rfl:gq=id:=(by omega);obtain⟨ac,_⟩:=Yr ch R;rw[ac];refine awe ?_ aC ao;have:(gq+1000000*c+500000)/1000000=c:=(by omega);rw[this] at a4;exact a4
 ·refine⟨fun lC av qz=>?_,by simp[E4],by simp[E4],fun lC av qz=>?_,fun id _ _=>rfl,fun id c a bE=>by cases bE⟩
  ·cases qz;exact aP
  ·cases qz;exact .inl (by simp[ax.ids])
structure FE (f S:List Nat) (keep:List (Nat×List bB)):Prop where
 a:∀id∈S,id∉f
 b:∀id∈S,id+500000∈f->nM keep (.ref id [])=true
 c:∀id∈S,∀c v,1<=c->id<500000->id+1000000*c∈f->vJ v=some (id,c)->(∀j∈v.ids,j=id\/j∉S)->kD S keep v=true
theorem H0 (S:List Nat) (keep:List (Nat×List bB)) (a:ax):ef S keep a=.dead\/ef S keep a=a:=by unfold ef;cases(a.eG S&&!(kD S keep a))<;>simp
theorem Ti {S:List Nat} {keep:List (Nat×List bB)} {a:ax} (h:y6 (ef S keep a)=true):ef S keep a=a:=by
 rcases H0 S keep a with e|e
 ·rw[e] at h;cases h
 ·exact e
theorem Th {S:List Nat} {keep:List (Nat×List bB)} {a:ax} (h:∀id∈a.ids,id∉S):ef S keep a=a:=by refine Pe ?_ keep;unfold ax.eG;rw[CP];intro id bp ak;exact h id bp (fd.1 ak)
theorem ara {S:List Nat} {keep:List (Nat×List bB)} {a:ax} (h:∀id∈a.ids,id∉S):e8 S keep a=a:=by refine azH ?_ keep;unfold ax.eG;rw[CP];intro id bp ak;exact h id bp (fd.1 ak)
theorem abf {f S:List Nat} {keep:List (Nat×List bB)} {a:ax} (h:pF f a) (hs:FE f S keep):ef S keep a=a:=by
 rcases h with h|⟨id,rfl,h⟩|⟨id,c,J,R,ac,aL⟩
 ·exact Th fun id bp ak=>hs.a id ak (h id bp)
 ·by_cases ak:id∈S
  ·unfold ef;rw[show kD S keep (.ref id [])=nM keep (.ref id []) from rfl,hs.b id ak h];simp
  ·exact Th fun i hi Na=>by simp only[ax.ids,fh] at hi;exact ak (hi▸Na)
 ·by_cases ak:id∈S
  ·unfold ef;rw[hs.c id ak c a (XX J) R ac J (fun j ao=>(aL j ao).imp (fun h=>h) (fun h ak=>hs.a j ak h))];simp
  ·exact Th fun i hi Na=>by
    rcases aL i hi with e|e
    ·exact ak (e▸Na)
    ·exact hs.a i Na e
theorem HZ {f S:List Nat} {keep:List (Nat×List bB)} {a:ax} (h:pF f a) (hs:FE f S keep):e8 S keep a=a:=by
 cases a with
 |ei l=>
  rcases h with h|⟨id,e,_⟩|⟨id,c,e,_⟩
  ·exact ara fun id bp ak=>hs.a id ak (h id bp)
  ·cases e
  ·cases e
 |_=>exact abf h hs
theorem abe (S:List Nat) (keep:List (Nat×List bB)) (z2:List Nat) (BB:List (Nat×List bB)) (a:ax):ef S keep (ef z2 BB a)=ef z2 BB (ef S keep a):=by have aP:∀S keep,ef S keep .dead=.dead:=fun S keep=>(by simp[ef,ax.eG,ax.ids]);rcases H0 S keep a with J|J<;>rcases H0 z2 BB a with R|R<;>simp only[J,R,aP]
theorem HY {S:List Nat} {keep:List (Nat×List bB)} {a:ax} (h:∀l,a≠.ei l):e8 S keep a=ef S keep a:=by
 cases a with
 |ei l=>exact absurd rfl (h l)
 |_=>rfl
theorem NN (S:List Nat) (keep:List (Nat×List bB)) (z2:List Nat) (BB:List (Nat×List bB)) (a:ax):e8 S keep (e8 z2 BB a)=e8 z2 BB (e8 S keep a):=by
 by_cases ah:∃l,a=.ei l
 ·obtain⟨l,rfl⟩:=ah;simp only[e8,xK];exact congrArg _ (kK fun a _=>abe S keep z2 BB a)
 ·have ag:∀l,a≠.ei l:=fun l e=>ah ⟨l,e⟩;have aa:∀S keep,∀l,ef S keep a≠.ei l:=fun S keep l e=>by
   rcases H0 S keep a with h|h
   ·rw[h] at e;cases e
   ·rw[h] at e;exact ag l e
  rw[HY ag,HY ag,HY (aa _ _),HY (aa _ _),abe]
theorem arc (f S:List Nat) (keep:List (Nat×List bB)) (a:ax):vz f (e8 S keep a) a:=by
 by_cases ah:∃l,a=.ei l
 ·obtain⟨l,rfl⟩:=ah;refine⟨fun h _=>?_,fun dp J=>⟨l,rfl,fun i c hc ag _=>?_⟩⟩
  ·simp only[e8] at h|-;have h:∀x∈l.map (ef S keep),y6 x=true:=fM.1 h;congr 1;rw[kK (fun x ab=>Ti (h _ (dz.2 ⟨x,ab,rfl⟩))),List.map_id']
  ·simp only[e8,ax.ei.injEq] at J;subst J;rw[gB] at hc;obtain⟨ks,R,rfl⟩:=e1.1 hc;rw[Ti ag,R]
 ·have ag:∀l,a≠.ei l:=fun l e=>ah ⟨l,e⟩;rw[HY ag];have aa:∀l,ef S keep a≠.ei l:=fun l e=>by
   rcases H0 S keep a with h|h
   ·rw[h] at e;cases e
   ·rw[h] at e;exact ag l e
  refine⟨fun h _=>?_,fun l e=>absurd e (aa l)⟩;have:y6 (ef S keep a)=true:=by
   generalize ef S keep a=b at h aa;cases b with
   |ei l=>exact absurd rfl (aa l)
   |_=>exact h
  exact(Ti this).symm
theorem ard {f S:List Nat} {keep:List (Nat×List bB)} (a:ax) (hs:FE f S keep):vz f a (e8 S keep a):=by refine⟨fun _ h=>HZ h hs,fun l e=>?_⟩;subst e;refine⟨_,rfl,fun i c hc _ aH=>?_⟩;rw[gB,hc,hC,abf aH hs]
theorem W2 {e:b7} {s:bj} {k:Nat} (h:∀d av,e.d=some (d,av)->d≠k):gt (e.app s).g k=e8 e.S e.keep (gt s.g k):=by
 rw[b7.Ae];cases aP:e.d with
 |none=>rfl
 |some q=>obtain⟨d,av⟩:=q;simp only;rw[if_neg (h d av aP)]
theorem arM {α:Type} {l:List (Nat×α)} {id:Nat} (h:∀q∈l,q.1≠id):aD l id=none:=by
 induction l with
 |nil=>rfl
 |cons q l aZ=>
  obtain⟨k,v⟩:=q;rw[dq,if_neg (h (k,v) (by simp)),aZ (fun q aj=>h q (by simp[aj]))]
theorem W3 {e:b7} {s:bj} {id:Nat} (J:id∉e.S) (R:∀q∈e.put,q.1≠id):aD (e.app s).h id=aD s.h id:=by rw[b7.xV,if_neg J,arM R];rfl
def yb (l r:List Nat):Bool:=l.all fun i=>!(dS i r)
theorem yb.ok {l r:List Nat} (h:yb l r=true):∀i∈l,i∉r:=fun i hi ak=>by have:=fM.1 h i hi;rw[fd.2 ak] at this;cases this
def dl (o:Oper):List Nat:=match o.dst with
 |some d=>[d]
 |none=>[]
theorem Ew {o:Oper} {d:Nat} (h:o.dst=some d):d∈dl o:=by unfold dl;rw[h];simp
def yc (l r:List Nat):Bool:=l.all fun i=>Nat.ble 1000000 i||!(dS i r)
theorem yc.ok {l r:List Nat} (h:yc l r=true):∀i∈l,i<1000000->i∉r:=fun i hi ai ak=>by
 have:=fM.1 h i hi;rw[fd.2 ak,h9] at this;rcases this with h|h
 ·have:=fQ h;omega
 ·cases h
def wc (d f mx uO:List Nat):Bool:=(uO.all fun m=>Nat.blt m 1000000||(!(dS (m %1000000-500000) d)&&(!(dS (m %1000000-500000) f)&&!(dS (m %1000000-500000) mx))))&&f.all fun n=>Nat.blt n 1000000||(!(dS (n %1000000) uO)&&(!(dS (n %1000000+1500000) uO)||dS (n+500000) uO))
theorem wc.ok {d f mx uO:List Nat} (h:wc d f mx uO=true):(∀id,id<500000->id+1500000∈uO->id∉d/\id∉f/\id∉mx)/\∀id c,1<=c->id<500000->id+1000000*c∈f->id∉uO/\(id+1500000∈uO->id+1000000*c+500000∈uO):=by
 unfold wc at h;rw[bW] at h;have IB:∀{i:Nat} {l:List Nat},(!(dS i l))=true->i∉l:=fun{i l} h ak=>(by rw[fd.2 ak] at h;cases h);constructor
 ·intro id bp ak;have:=fM.1 h.1 _ ak;rw[h9] at this;rcases this with h|h
  ·have:id+1500000<1000000:=fQ h;omega
  ·rw[show(id+1500000) %1000000-500000=id by omega] at h;simp only[bW] at h;exact⟨IB h.1,IB h.2.1,IB h.2.2⟩
 ·intro id c hc bp ak;have:=fM.1 h.2 _ ak;rw[h9] at this;rcases this with h|h
  ·have:id+1000000*c<1000000:=fQ h;omega
  ·rw[show(id+1000000*c) %1000000=id by omega] at h;simp only[bW,h9] at h;refine⟨IB h.1,fun aG=>?_⟩;rcases h.2 with h|h
   ·exact absurd aG (IB h)
   ·exact fd.1 h
def As (bA:Array Oper) (cF cn:Nat->List Nat) (x i:Nat):Bool:=
 match bA[x]?,bA[i]? with
 |some ze,some y7=>ze.apart bA y7&&yc (cn i) (dl ze++(cF x++cn x))&&yc (cn x) (dl y7++cF i)&&(wc (dl ze) (cF x) (cn x) (cn i)&&wc (dl y7) (cF i) (cn i) (cn x))
 |_,_=>false
theorem jb.Ep {i:Nat} {s:bj} {e:b7} (h:jb ic bA cF cn i s e) {id:Nat} (bp:500000<=id):aD (e.app s).h id=aD s.h id:=by obtain⟨o,aJ,lJ⟩:=h;have h:jb ic bA cF cn i s e:=⟨o,aJ,lJ⟩;obtain⟨_,R,ac,_⟩:=h.Mn aJ;exact W3 (fun ak=>by have:=(R id ak).1;omega) (fun q aj e=>by have:=(ac q aj).1;omega)
theorem jb.yU {i:Nat} {s:bj} {e:b7} (h:jb ic bA cF cn i s e) {id:Nat} (bp:id∉cn i):aD (e.app s).h id=aD s.h id:=by
 obtain⟨o,aJ,lJ⟩:=h;have h:jb ic bA cF cn i s e:=⟨o,aJ,lJ⟩;obtain⟨_,R,ac,_,aY,_⟩:=h.Mn aJ;by_cases aG:id<500000/\id+1500000∈cn i
 ·exact aY id aG.1 aG.2
 ·refine W3 (fun ak=>?_) (fun q aj e=>?_)
  ·obtain⟨aN,aM⟩:=R id ak;rcases aM with aM|aM
   ·exact bp aM.1
   ·exact aG ⟨aN,aM⟩
  ·subst e;obtain⟨aN,aM⟩:=ac q aj;rcases aM with aM|aM
   ·exact bp aM
   ·exact aG ⟨aN,aM⟩
theorem jb.swap {x i:Nat} {s:bj} {ex hN:b7} (hc:As bA cF cn x i=true) (J:jb ic bA cF cn x s ex) (R:jb ic bA cF cn i (ex.app s) hN):jb ic bA cF cn i s hN/\jb ic bA cF cn x (hN.app s) ex/\l3 (hN.app (ex.app s)) (ex.app (hN.app s)):=by
 unfold As at hc;split at hc
 case h_2=>cases hc
 rename_i ze y7 Hu Hs;simp only[bW] at hc;obtain⟨⟨⟨RW,mP⟩,k7⟩,yv,iE⟩:=hc;have mP:=yc.ok mP;have k7:=yc.ok k7;obtain⟨bS,bt⟩:=wc.ok yv;obtain⟨cY,c7⟩:=wc.ok iE;obtain⟨ch,c8,a3⟩:=Oper.apart_spec RW;obtain⟨Cu,kp,az3,Pn,afG,afH⟩:=J.Mn Hu;obtain⟨i1,i2,i3,Nv,aaP,aaQ⟩:=R.Mn Hs;have ax8:∀k∈y7.looksAt bA,gt (ex.app s).g k=e8 ex.S ex.keep (gt s.g k):=fun k ae=>W2 fun d av aP e=>ch d (Cu d av aP) (e▸ae);have axG:∀k∈ze.looksAt bA,gt (hN.app s).g k=e8 hN.S hN.keep (gt s.g k):=fun k ae=>W2 fun d av aP e=>a3 d (i1 d av aP) (e▸ae);have cX:∀d a lC b9,hN.d=some (d,a)->ex.d=some (lC,b9)->d≠lC:=fun d a lC b9 aP qz e=>c8 lC (Cu lC b9 qz) (e▸i1 d a aP);have zw:∀id,id<1000000->id∈cF x\/id∈cn x\/ze.dst=some id->id∉cn i:=fun id ai h ak=>mP id ak ai (by
  rcases h with h|h|h
  ·simp[h]
  ·simp[h]
  ·simp[Ew h])
 have O8:∀id,id<1000000->id∈cF i\/y7.dst=some id->id∉cn x:=fun id ai h ak=>k7 id ak ai (by
  rcases h with h|h
  ·simp[h]
  ·simp[Ew h])
 have b3:∀id,id<1000000->id∈cn i->id∉cn x:=fun id ai h ak=>zw id ai (.inr (.inl ak)) h;have E6:FE (cF i) ex.S ex.keep:=by
  refine⟨fun id bE aH=>?_,fun id bE aH=>?_,fun id bE c v hc bp aH hv ao=>?_⟩
  ·obtain⟨aN,aM⟩:=kp id bE;rcases aM with aM|aM
   ·exact O8 id (by omega) (.inl aH) aM.1
   ·exact(cY id aN aM).2.1 aH
  ·obtain⟨aN,aM⟩:=kp id bE;rcases aM with aM|aM
   ·exact aM.2.resolve_left (O8 _ (by omega) (.inl aH))
   ·exact afH id 1 (.ref id []) bE aN (by rw[show id+1000000*1+500000=id+1500000 by omega];exact aM) (bU _) rfl (fun j ao=>.inl (by simpa[ax.ids] using ao))
  ·obtain⟨_,aM⟩:=kp id bE;obtain⟨b2,bo⟩:=c7 id c hc bp aH;rcases aM with aM|aM
   ·exact absurd aM.1 b2
   ·exact afH id c v bE bp (bo aM) hc hv ao
 have Vl:FE (cF x) hN.S hN.keep:=by
  refine⟨fun id bE aH=>?_,fun id bE aH=>?_,fun id bE c v hc bp aH hv ao=>?_⟩
  ·obtain⟨aN,aM⟩:=i2 id bE;rcases aM with aM|aM
   ·exact zw id (by omega) (.inl aH) aM.1
   ·exact(bS id aN aM).2.1 aH
  ·obtain⟨aN,aM⟩:=i2 id bE;rcases aM with aM|aM
   ·exact aM.2.resolve_left (zw _ (by omega) (.inl aH))
   ·exact aaQ id 1 (.ref id []) bE aN (by rw[show id+1000000*1+500000=id+1500000 by omega];exact aM) (bU _) rfl (fun j ao=>.inl (by simpa[ax.ids] using ao))
  ·obtain⟨_,aM⟩:=i2 id bE;obtain⟨b2,bo⟩:=bt id c hc bp aH;rcases aM with aM|aM
   ·exact absurd aM.1 b2
   ·exact aaQ id c v bE bp (bo aM) hc hv ao
 have CX:jb ic bA cF cn i s hN:=by
  refine R.congr (fun o aJ k ae=>?_) (fun o aJ id bp=>?_) (fun id c hc bp aH=>?_)
  ·rw[Hs] at aJ;cases aJ;rw[ax8 k ae];exact arc _ _ _ _
  ·rw[Hs] at aJ;cases aJ;rcases ct id 500000 with ai|ai
   ·refine J.yU ?_;rcases bp with h|h|h
    ·exact O8 id (by omega) (.inl h)
    ·exact b3 id (by omega) h
    ·exact O8 id (by omega) (.inr h)
   ·exact J.Ep ai
  ·exact J.yU (c7 id c hc bp aH).1
 have PC:jb ic bA cF cn x (hN.app s) ex:=by
  refine J.congr (fun o aJ k ae=>?_) (fun o aJ id bp=>?_) (fun id c hc bp aH=>?_)
  ·rw[Hu] at aJ;cases aJ;rw[axG k ae];exact ard _ Vl
  ·rw[Hu] at aJ;cases aJ;rcases ct id 500000 with ai|ai
   ·exact(CX.yU (zw id (by omega) bp)).symm
   ·exact(CX.Ep ai).symm
  ·exact(CX.yU (bt id c hc bp aH).1).symm
 refine⟨CX,PC,?_,fun id=>?_⟩
 ·intro k;rw[b7.Ae hN,b7.Ae ex (hN.app s),b7.Ae ex s,b7.Ae hN s];cases R5:ex.d with
  |none=>
   cases yt:hN.d with
   |none=>exact NN _ _ _ _ _
   |some q=>
    obtain⟨d,av⟩:=q;simp only;split
    ·exact(HZ (Nv d av yt) E6).symm
    ·exact NN _ _ _ _ _
  |some p=>
   obtain⟨lC,PW⟩:=p;cases yt:hN.d with
   |none=>
    simp only;split
    ·exact HZ (Pn lC PW R5) Vl
    ·exact NN _ _ _ _ _
   |some q=>
    obtain⟨d,av⟩:=q;have cX:d≠lC:=cX d av lC PW yt R5;simp only;by_cases J:d=k
    ·subst J;rw[if_pos rfl,if_neg (Ne.symm cX),if_pos rfl];exact(HZ (Nv d av yt) E6).symm
    ·rw[if_neg J,if_neg J];split
     ·exact HZ (Pn lC PW R5) Vl
     ·exact NN _ _ _ _ _
 ·rcases ct id 500000 with ai|ai
  ·by_cases ak:id∈cn i
   ·have qG:=b3 id (by omega) ak;rw[PC.yU qG,b7.xV hN,b7.xV hN,J.yU qG]
   ·rw[R.yU ak,b7.xV ex,b7.xV ex,CX.yU ak]
  ·rw[R.Ep ai,J.Ep ai,PC.Ep ai,CX.Ep ai]
theorem jb.seq {i:Nat} {s s':bj} {e:b7} (hs:l3 s s') (h:jb ic bA cF cn i s e):jb ic bA cF cn i s' e:=
 h.congr (fun _ _ k _=>.refl (hs.g k).symm) (fun _ _ id _=>hs.h id) (fun id _ _ _ _=>hs.h id)
theorem ri.seq:∀{l:List Nat} {s s' t:bj},l3 s s'->ri ic bA cF cn l s t->ri ic bA cF cn l s' t
 |[],_,_,_,hs,h=>hs.symm.trans h
 |_::_,_,_,_,hs,⟨e,J,R⟩=>⟨e,J.seq hs,ri.seq (hs.app e) R⟩
theorem ri.front {i:Nat} {B:List Nat}:∀{A:List Nat} {s t:bj},(∀x∈A,As bA cF cn x i=true)->ri ic bA cF cn (A++i::B) s t->∃e,jb ic bA cF cn i s e/\ri ic bA cF cn (A++B) (e.app s) t
 |[],s,t,_,⟨e,J,R⟩=>⟨e,J,R⟩
 |x::A,s,t,hc,⟨ex,J,R⟩=>by obtain⟨hN,ac,aL⟩:=ri.front (fun y aB=>hc y (by simp[aB])) R;obtain⟨bS,bt,cY⟩:=jb.swap (hc x (by simp)) J ac;exact⟨hN,bS,ex,bt,aL.seq cY⟩
end
end
end Go.mz
end
