/-
  Parts of the proof: Fw38, Fw22, Fw23, Fw26, Fw27, Fw28, Fw34, Fw35, Fw37, Fw42, Fw45, Fw24, Fw29, Fw31, Fw32: the framework (Fw), pure forms (Dn), plain laws (Pl, Th), calls of functions (Ok).
-/
import Derived.Test.YtkhcdgkdpjahpaaGreatDoorBc69b1aa9

set_option linter.all false
noncomputable section
namespace Go.lP
section
def yl:List aw->List Bool->Option (Nat×List bw)
 |.ref id (s::p)::_,true::_=>some (id,s::p)
 |_::as,_::bs=>yl as bs
 |_,_=>none
def t5 (id:Nat) (a:aw):aw:=bif a.er [id] then .dead else a
def oy (id:Nat):List aw->List Bool->List aw
 |.ref _ (_::_)::as,true::_=>.ref id []::as.map (t5 id)
 |a::as,_::bs=>t5 id a::oy id as bs
 |as,_=>as.map (t5 id)
def lI {α:Type} (f:Nat->α) (k:Nat) (x:α):Nat->α:=fun i=>if i=k then x else f i
theorem o7 {α:Type} {f:Nat->α} {k:Nat} {x:α}:lI f k x k=x:=by simp[lI]
theorem mn {α:Type} {f:Nat->α} {k i:Nat} {x:α} (h:i≠k):lI f k x i=f i:=by simp[lI,h]
section
variable {E:eI} {C:dZ} {st:ba} {bY:Array Value} {w w':World} {I I':Nat->Prop} {rt:Nat->List Value} {fp:Nat->List Nat}
theorem xM {id:Nat} {t1:a1} {h:List (Nat×a1)} (k:Nat):az ((id,t1)::del [id] h) k=if id=k then some t1 else az h k:=by
 rw[db];split
 ·rfl
 ·rename_i e;rw[m1,if_neg (by simpa using fun dy=>e dy.symm)]
theorem cc.split (ar:cc C st bY w I rt fp) {id:Nat} {t:a1} (af:az st.h id=some t) {τ':aq} {y:τ'.den} {b3:List Value} {f dK:List Nat} (hr:bi (bK I C.B) w τ' b3 y f) (ay:(fp id).Perm (f++dK)):cc C ⟨[],(id,⟨τ',y⟩)::del [id] st.h⟩ bY w I (lI rt id b3) (lI fp id f):=by
 obtain⟨_,bn,a9⟩:=ar.tree id t af;have fh:∀b∈f,b∈fp id:=fun b aa=>ay.mem_iff.2 (by simp[aa]);have Ps:∀k u,az ((id,(⟨τ',y⟩:a1))::del [id] st.h) k=some u->(k=id/\u=⟨τ',y⟩)\/(k≠id/\az st.h k=some u):=fun k u ac=>by
  rw[xM] at ac;split at ac
  ·rename_i e;exact .inl ⟨e.symm,(ff ac).symm⟩
  ·rename_i e;exact .inr ⟨fun dy=>e dy.symm,ac⟩
 refine{ar with tree:=?_,dis:=?_,tmp:=fun k=>.dead _}
 ·intro k u ac;rcases Ps k u ac with⟨rfl,rfl⟩|⟨J,R⟩
  ·rw[o7,o7];exact⟨hr,(kO.1 (ay.nodup_iff.1 bn)).1,fun b aa=>a9 b (fh b aa)⟩
  ·rw[mn J,mn J];exact ar.tree k u R
 ·intro i j u v hi al dz b aa;rcases Ps i u hi with⟨rfl,rfl⟩|⟨J,R⟩<;>rcases Ps j v al with⟨rfl,rfl⟩|⟨ae,aI⟩
  ·exact absurd rfl dz
  ·rw[o7] at aa;rw[mn ae];exact ar.dis _ _ _ _ af aI dz b (fh b aa)
  ·rw[mn J] at aa;rw[o7];exact fun h=>ar.dis _ _ _ _ R af dz b aa (fh b h)
  ·rw[mn J] at aa;rw[mn ae];exact ar.dis _ _ _ _ R aI dz b aa
theorem cw.t5 (ar:cc C st bY w I rt fp) {id:Nat} {u:a1} {b3:List Value} {f:List Nat} {av:aw} {v:Value} (h:cw (bK I C.B) w st.h rt fp av v):cw (bK I C.B) w ((id,u)::del [id] st.h) (lI rt id b3) (lI fp id f) (t5 id av) v:=by
 unfold lP.t5;cases aQ:av.er [id] with
 |true=>exact .dead _
 |false=>
  refine h.xU (fun m b ao=>⟨ao,c3.refl _ _⟩) (fun k ac t af=>?_);have cL:k≠id:=fun e=>Ta aQ k ac (by simp[e]);refine⟨?_,mn cL,mn cL,(ar.tree k t af).1,fun b _=>c3.refl _ _⟩;rw[xM,if_neg (fun e=>cL e.symm)];exact af
theorem agd (ar:cc C st bY w I rt fp) {id:Nat} {t:a1} (af:az st.h id=some t) {τ':aq} {y:τ'.den} {loc:Loc} {b3:List Value} {f:List Nat} {s:bw} {p:List bw} (ag:bk w t.1 none (rt id) (s::p) τ' loc b3):∀{avs:List aw} {bs:List Bool} {vs:List Value},i4 (cw (bK I C.B) w st.h rt fp) avs vs->yl avs bs=some (id,s::p)->i4 (cw (bK I C.B) w ((id,⟨τ',y⟩)::del [id] st.h) (lI rt id b3) (lI fp id f)) (oy id avs bs) vs:=by
 have dK:∀{avs:List aw} {vs:List Value},i4 (cw (bK I C.B) w st.h rt fp) avs vs->i4 (cw (bK I C.B) w ((id,⟨τ',y⟩)::del [id] st.h) (lI rt id b3) (lI fp id f)) (avs.map (lP.t5 id)) vs:=by
  intro avs
  induction avs with
  |nil=>intro vs h;cases vs with|nil=>trivial|cons=>exact h.elim
  |cons a l aT=>intro vs h;cases vs with|nil=>exact h.elim|cons v vs=>exact⟨h.1.t5 ar,aT h.2⟩
 intro avs
 induction avs with
 |nil=>intro bs vs _ h;cases bs<;>cases h
 |cons a l aT=>
  intro bs vs h hs;cases vs with
  |nil=>exact h.elim
  |cons v vs=>
  cases bs with
  |nil=>cases a<;>first|(cases hs;done)|(rename_i i q;cases q<;>cases hs)
  |cons b bs=>
   by_cases hc:∃i s' q,a=.ref i (s'::q)/\b=true
   ·obtain⟨i,s',q,rfl,rfl⟩:=hc;simp only[yl,cI,gz,hh] at hs;obtain⟨rfl,rfl,rfl⟩:=hs;have J:=h.1;cases J with|ref bx iw=>
    rw[af] at bx;cases bx;obtain⟨rfl,rfl,rfl⟩:=iw.jX ag;refine⟨.ref (t:=⟨_,y⟩) (loc:=none) (by rw[xM,if_pos rfl]) ?_,dK h.2⟩;rw[o7];exact bk.here
   ·have aC:yl (a::l) (b::bs)=yl l bs:=by
     cases a<;>first|rfl|(rename_i i q;cases q<;>cases b<;>first|rfl|exact absurd ⟨_,_,_,rfl,rfl⟩ hc)
    have aV:oy id (a::l) (b::bs)=lP.t5 id a::oy id l bs:=by cases a<;>first|rfl|(rename_i i q;cases q<;>cases b<;>first|rfl|exact absurd ⟨_,_,_,rfl,rfl⟩ hc)
    rw[aC] at hs;rw[aV];exact⟨h.1.t5 ar,aT h.2 hs⟩
theorem pj.ar8 (ar:cc C st bY w I rt fp) {id:Nat} {t:a1} (af:az st.h id=some t) {p:List bw} {τ':aq} {y:τ'.den} (aD:dr t.1 t.2 p τ' y) {loc:Loc} {b3:List Value} (ag:bk w t.1 none (rt id) p τ' loc b3):∃f dK,bi (bK I C.B) w τ' b3 y f/\(fp id).Perm (f++dK)/\∀{w':World} {I':Nat->Prop} {S:List Nat} {keep:List (Nat×List bw)} {new:List (Nat×a1)} {rtn:Nat->List Value} {fpn:Nat->List Nat} {y':τ'.den} {z:t.1.den},pj C ⟨[],(id,⟨τ',y⟩)::del [id] st.h⟩ w w' I I' (lI rt id b3) (lI fp id f) S keep new rtn fpn->id∈S->az new id=some ⟨τ',y'⟩->(id,[])∈keep->(∀e∈keep,e.2=[])->ea t.1 t.2 p τ' y' z->∃Sy V4,pj C st w w' I I' rt fp S ((id,p)::keep) ((id,⟨t.1,z⟩)::new) Sy V4/\∀k,k≠id->Sy k=rtn k:=by
 obtain⟨bX,bn,a9⟩:=ar.tree id t af;obtain⟨dE,Oa,f,dK,bT,bz,cZ,cU,gD,jZ,nq⟩:=FA p (loc:=none) bX (fun _ _ h=>by cases h) bn (fun _ _ h=>by cases h) (ar.notM af) aD;obtain⟨_,rfl,rfl⟩:=ag.jX bT;refine⟨f,dK,bz,cU,fun{w' I' S keep new rtn fpn y' z} u bB n8 ac u6 hs=>?_⟩;have fh:∀b∈f,b∈fp id:=fun b aa=>cU.mem_iff.2 (by simp[aa]);have eh:=kO.1 (cU.nodup_iff.1 bn);have KZ:∀b,(∃i∈S,∃t',az ((id,(⟨τ',y⟩:a1))::del [id] st.h) i=some t'/\b∈lI fp id f i)->∃i∈S,∃t',az st.h i=some t'/\b∈fp i/\(i=id->b∈f):=by
  rintro b ⟨i,hi,t',bx,aa⟩;by_cases e:i=id
  ·subst e;rw[o7] at aa;exact⟨i,hi,t,af,fh b aa,fun _=>aa⟩
  ·rw[xM,if_neg (fun dy=>e dy.symm)] at bx;rw[mn e] at aa;exact⟨i,hi,t',bx,aa,fun dy=>absurd dy e⟩
 have kY:∀b∈dK,b<w.heap.size/\¬∃i∈S,∃t',az ((id,(⟨τ',y⟩:a1))::del [id] st.h) i=some t'/\b∈lI fp id f i:=fun b aa=>by
  have cM:b∈fp id:=cU.mem_iff.2 (by simp[aa]);refine⟨(a9 b cM).2.2.1,fun h=>?_⟩;obtain⟨i,_,t',bx,J,R⟩:=KZ b h;by_cases e:i=id
  ·exact eh.2.2 b (R e) b aa rfl
  ·exact ar.dis i id t' t bx af e b J cM
 have z5:∀b∈dK,w'.heap[b]?=w.heap[b]?:=fun b aa=>u.heap b (kY b aa).1 (fun i hi t' bx h=>(kY b aa).2 ⟨i,hi,t',bx,h⟩);have n5:∀m b,bK I C.B m b->c3 w w' b:=fun m b ao=>.of_heap (u.heap b (ar.ib b (pQ ao)) (fun i hi t' bx h=>by
  obtain⟨i,_,t',bx,J,_⟩:=KZ b ⟨i,hi,t',bx,h⟩;exact ar.notM bx b J m ao))
 obtain⟨_,aL,a8,bH⟩:=u.tree id _ n8;obtain⟨iG,r1,_,r2,_⟩:=u.keep _ ac ⟨τ',y⟩ (by rw[xM,if_pos rfl]);simp only[o7] at r2;rw[r2] at aL;have UY:∀b,c3 w w' b->ww w w' loc τ'.size b:=fun b h=>⟨fun j _=>(h.1 j).1,fun j=>(h.1 j).2,fun j=>by rw[(h.1 j).1],h.2⟩;obtain⟨fa,hA,bu,_,bE,_,cl,_,h9⟩:=jZ w' (bK I' C.B) b3 y' (fpn id) z (fun m b aa=>by cases m;exact u.i b aa;exact aa.imp (u.i b) (fun h=>h)) (by
   rintro b (⟨m,ao⟩|aa|⟨o,aH⟩)
   ·exact UY b (n5 m b ao)
   ·exact UY b (.of_heap (z5 b aa))
   ·cases aH) aL (fun _ _=>rfl)
  (fun b o ah=>by
   have aa:b∈dK:=by
    rcases gD b o ah with⟨_,h,_⟩|h
    ·cases h
    ·exact h
   exact(cZ b o ah).1.eB (.of_heap (z5 b aa))) hs
 obtain rfl:=bE rfl (.inr rfl);have qC:∀b∈hA,b∈fpn id\/b∈dK:=fun b aa=>fe.1 (cl.mem_iff.1 aa);have CG:∀k t',az new k=some t'->∀b∈fpn k,b∉dK:=fun k t' ac b aa hr=>by
  rcases((u.tree k t' ac).2.2.2 b aa).2.2 with h|h
  ·exact absurd (kY b hr).1 (by omega)
  ·exact(kY b hr).2 h
 have PX:∀k iG,az ((id,(⟨t.1,z⟩:a1))::new) k=some iG->(k=id/\iG=⟨t.1,z⟩)\/(k≠id/\az new k=some iG):=fun k iG ac=>by
  rw[db] at ac;split at ac
  ·rename_i e;exact .inl ⟨e.symm,(ff ac).symm⟩
  ·rename_i e;exact .inr ⟨fun dy=>e dy.symm,ac⟩
 have PQ:∀b,(w.heap.size<=b\/∃i∈S,∃t',az ((id,(⟨τ',y⟩:a1))::del [id] st.h) i=some t'/\b∈lI fp id f i)->w.heap.size<=b\/∃i∈S,∃t',az st.h i=some t'/\b∈fp i:=fun b h=>h.imp (fun h=>h) (fun h=>by
  obtain⟨i,hi,t',bx,J,_⟩:=KZ b h;exact⟨i,hi,t',bx,J⟩)
 refine⟨lI rtn id (rt id),lI fpn id hA,⟨u.size,u.os,u.tape,u.output,?_,u.evo,u.i,?_,?_,?_,?_,?_⟩,fun k ac=>mn ac⟩
 ·intro b aa ax;refine u.heap b aa (fun i hi t' bx h=>?_);obtain⟨i,hi,t',bx,J,_⟩:=KZ b ⟨i,hi,t',bx,h⟩;exact ax i hi t' bx J
 ·intro b aa;exact(u.i2 b aa).imp (fun h=>h) (fun h=>⟨h.1,PQ b h.2⟩)
 ·intro k iG ac;rcases PX k iG ac with⟨rfl,rfl⟩|⟨J,R⟩
  ·rw[o7,o7];refine⟨.inl bB,bu,?_,fun b aa=>?_⟩
   ·rw[cl.nodup_iff,kO];exact⟨a8,eh.2.1,fun a aG b aa e=>CG k _ n8 a aG (e▸aa)⟩
   ·rcases qC b aa with aa|aa
    ·obtain⟨gP,iC,mm⟩:=bH b aa;exact⟨gP,iC,PQ b mm⟩
    ·have cM:b∈fp k:=cU.mem_iff.2 (by simp[aa]);refine⟨fun hi=>?_,jn (kY b aa).1 u.size,.inr ⟨k,bB,t,af,cM⟩⟩;rcases u.i2 b hi with h|⟨_,h|h⟩
     ·exact(a9 b cM).1 h
     ·exact absurd (kY b aa).1 (by omega)
     ·exact(kY b aa).2 h
  ·rw[mn J,mn J];obtain⟨ka,gP,iC,mm⟩:=u.tree k iG R;refine⟨ka.imp (fun h=>h) (fun h=>?_),gP,iC,fun b aa=>?_⟩
   ·have h:az ((id,(⟨τ',y⟩:a1))::del [id] st.h) k=none:=h;rw[xM,if_neg (fun e=>J e.symm)] at h;exact h
   ·obtain⟨v1,f0,v3⟩:=mm b aa;exact⟨v1,f0,PQ b v3⟩
 ·intro i j p3 gg hi al dz b aa;rcases PX i p3 hi with⟨rfl,rfl⟩|⟨J,R⟩<;>rcases PX j gg al with⟨rfl,rfl⟩|⟨ae,aI⟩
  ·exact absurd rfl dz
  ·rw[o7] at aa;rw[mn ae];rcases qC b aa with aa|aa
   ·exact u.dis i j _ _ n8 aI dz b aa
   ·exact fun h=>CG j _ aI b h aa
  ·rw[mn J] at aa;rw[o7];intro h;rcases qC b h with h|h
   ·exact u.dis i j _ _ R n8 dz b aa h
   ·exact CG i _ R b aa h
  ·rw[mn J] at aa;rw[mn ae];exact u.dis i j _ _ R aI dz b aa
 ·intro e aE t' bx;rcases dV.1 aE with rfl|aE
  ·rw[af] at bx;cases bx;exact⟨⟨t.1,z⟩,by rw[db,if_pos rfl],rfl,o7,⟨_,ag.ty⟩,h9⟩
  ·by_cases aC:e.1=id
   ·rw[aC,af] at bx;cases bx;refine⟨⟨t.1,z⟩,by rw[db,if_pos aC.symm],rfl,by rw[aC];exact o7,⟨t.1,by rw[u6 e aE];cases t.1<;>rfl⟩,fun q _ _ _ ac=>?_⟩;rw[u6 e aE,LJ] at ac;cases ac
   ·obtain⟨v1,f0,v3,v4,au6,M7⟩:=u.keep e aE t' (by rw[xM,if_neg (fun h=>aC h.symm)];exact bx);rw[mn aC] at v4 M7;exact⟨v1,by rw[db,if_neg (fun h=>aC h.symm)];exact f0,v3,by rw[mn aC];exact v4,au6,M7⟩
 ·intro e aE t' bx q f2 Tg l2 cd ajs aN fA h6 h5 e2;rcases dV.1 aE with rfl|aE
  ·rw[af] at bx;cases bx;refine⟨⟨t.1,z⟩,by rw[db,if_pos rfl],zy aN hs h5,fun c hc=>?_⟩;obtain⟨aK,aL⟩:=nq q _ _ _ _ _ aN (by exact fA) h5 h6 e2 c hc;rw[o7];exact⟨cl.mem_iff.2 (oH _ aK),.of_heap (z5 c aK)⟩
  ·rw[u6 e aE,zx] at aN;cases aN
theorem dW.sub {Q:ba->Prop} {d f:Nat} {o:Oper} {x:Operand} {l:List aw} {xs argTypes:Array _} (bZ:o.op=.call {callee:=.value x,args:=xs,argTypes:=argTypes}) (Ai:bj st.g x=.dQ f l) (aN:o.dst=some d) (c0:C.ok d) (oS:∀(vs:Array Value) (w:World),(callFunc f vs).run E.P w=.ok (.enter f vs) w) {args:List hg} {res:List a1} (hc:wv E f args res) (F7:sr 0 args=none) (Pc:∀b,C.I0 b\/C.B b->b<C.w0.heap.size/\¬C.F0 b) (Pd:mu E C.I0 C.w0) {id:Nat} {t:a1} (af:az st.h id=some t) {s:bw} {p:List bw} {τ':aq} {y:τ'.den} (aD:dr t.1 t.2 (s::p) τ' y) {bs:List Bool} (fh:yl (xs.toList.map (bj st.g)++l) bs=some (id,s::p)) {avs:List aw} (pz:avs=oy id (xs.toList.map (bj st.g)++l) bs) (aG:re ((id,⟨τ',y⟩)::del [id] st.h) (fd avs args) avs args) (ac:pt d ⟨[],(id,⟨τ',y⟩)::del [id] st.h⟩ avs args res=true) (bB:id∈fd avs args) (cn:id∈oh avs args) {y':τ'.den} {z:t.1.den} (ag:az (kE avs args++jC d (jf res) 0 res) id=some ⟨τ',y'⟩) (hs:ea t.1 t.2 (s::p) τ' y' z) (h:Q ⟨(d,AV d res)::kill (fd avs args) ((id,s::p)::C0 (oh avs args)) st.g,((id,⟨t.1,z⟩)::(kE avs args++jC d (jf res) 0 res))++del (fd avs args) st.h⟩):dW E C o st Q:=by
 rintro a w ⟨I,rt,fp,ar⟩ next X eb
 obtain⟨gh,Qe,Pa⟩:∃gh:Array Value,a.eval x=.func (.func f) #[] gh/\i4 (cw (bK I C.B) w st.h rt fp) l gh.toList:=by
  have ab:=ar.bj x;rw[Ai] at ab;generalize hv:a.eval x=v at ab;cases ab with|dQ ah ax=>
  exact⟨_,rfl,IE (by simpa using ah) (fun i a b J R=>ax i a b J (by simpa using R))⟩
 have Cv:i4 (cw (bK I C.B) w st.h rt fp) (xs.toList.map (bj st.g)++l) (xs.toList.map a.eval++gh.toList):=NA (NB (fun x=>ar.bj x) _) Pa;obtain⟨bX,bn,a9⟩:=ar.tree id t af;obtain⟨loc,b3,_,_,bT,_⟩:=KG (s::p) (loc:=none) bX (fun _ _ h=>by cases h) bn (fun _ _ h=>by cases h) (ar.notM af) aD;obtain⟨VP,dK,aK,aL,al1⟩:=pj.ar8 ar af aD bT;have KX:=ar.split af aK aL;have WH:=agd (y:=y) (f:=VP) ar af bT Cv fh;rw[<-pz] at WH;have FM:=KX.call WH hc aG ac (fun _ _=>by rw[F7];trivial) (KX.glob Pc Pd);have eA:(execOp a.eval o).run E.P w=.ok (.enter f (xs.toList.map a.eval++gh.toList).toArray) w:=(by have aC:xs.map a.eval=(xs.toList.map a.eval).toArray:=(by rw[<-Array.toList_map]);have b4:(xs.toList.map a.eval++gh.toList).toArray=(xs.toList.map a.eval).toArray++gh:=(by simp);rw[b4];simp only[execOp,bZ,resolve,aC,Sem.run_bind,Qe,Deferred.ofValue,Sem.run_pure,Result.andThen_ok,invoke,Array.empty_append,Array.append_empty];exact oS _ _);unfold Oper.wp;rw[eA];show Calls E.P f _ w _;refine FM.mono ?_;rintro e w' ⟨I',rtn,fpn,eV,rfl,aQ,jd⟩;show next (a.put o.dst (tP eV)) w'
 rw[aN];obtain⟨Sy,V4,tp,Ad⟩:=al1 aQ bB ag (dj.2 ⟨id,cn,rfl⟩) (fun e aE=>by obtain⟨i,_,rfl⟩:=dj.1 aE;rfl) hs;simp only[pt,bM,fk] at ac;have h6:=j7.ok ac.1.2;refine eb _ _ _ h rfl ⟨I',_,_,(ar.fZ tp).put c0 (av:=AV d res) (jd _ _ _ (fun q ai=>?_))⟩;have J:=aaN h6 q ai;have R:=ac.2 q ai;have cL:q.1≠id:=fun e=>(by rw[e,xM,if_pos rfl] at R;cases R);have ae:az ((id,(⟨t.1,z⟩:a1))::(kE avs args++jC d (jf res) 0 res)) q.1=some q.2:=(by rw[db,if_neg (fun e=>cL e.symm)];exact J);refine⟨by rw[k1,ae];rfl,?_⟩;simp only[d9,ae];exact Ad _ cL
end
end
section
def ki:Nat->List hg->List (Nat×aw)
 |_,[]=>[]
 |k,.v t::r=>(k,.val t.1 t.2)::ki (k+1) r
 |k,.m _ _::r=>(k,.ref k [])::ki (k+1) r
 |k,.o _::r=>(k,.ref k [])::ki (k+1) r
 |k,.n::r=>(k,.c5 (.slice none 0 0))::ki (k+1) r
 |k,.w _ _ lo hi _::r=>(k,.view k [] lo hi)::ki (k+1) r
 |k,.s _ _::r=>ki (k+1) r
 |k,.c n ca::r=>(k,.dQ n (ca.map fun t=>.val t.1 t.2))::ki (k+1) r
def kR:Nat->List hg->List (Nat×a1)
 |_,[]=>[]
 |k,.v _::r=>kR (k+1) r
 |k,.m t _::r=>(k,t)::kR (k+1) r
 |k,.o t::r=>(k,t)::kR (k+1) r
 |k,.w σ xs _ _ _::r=>(k,⟨.osl σ,xs⟩)::kR (k+1) r
 |k,.c _ _::r=>kR (k+1) r
 |k,.n::r=>kR (k+1) r
 |k,.s _ _::r=>kR (k+1) r
def hz:Nat->List hg->List Nat
 |_,[]=>[]
 |k,.m _ _::r=>k::hz (k+1) r
 |k,.w _ _ _ _ _::r=>k::hz (k+1) r
 |k,_::r=>hz (k+1) r
def yT (C:dZ):Option axC->Prop
 |none=>True
 |some (k,f,l)=>k∈C.pin/\(∀j∈l,j∈C.pin)/\∃b o gh,C.vs k=.pointer (some ⟨b,o,none⟩)/\b<C.w0.heap.size/\¬C.F0 b/\C.w0.cell? ⟨b,o,none⟩=some (.func (.func f) #[] gh)/\gh.toList=l.map C.vs
def qX:Option axC->List Nat
 |none=>[]
 |some (k,_,l)=>k::l
def wI (P:Program) (st:ba) (t:a1):ResultVar->List Nat->Prop
 |.tmp r,ids=>match gt st.g r with
  |.val τ x=>(⟨τ,x⟩:a1)=t/\ids=[]
  |.c5 v=>js t.1 v.cells.toList=some t.2/\cH t.1 v.cells.toList=v/\ids=[]
  |.ref id p=>ids=[id]/\∃u,az st.h id=some u/\dr u.1 u.2 p t.1 t.2
  |_=>False
 |.cell a T,ids=>ei P t.1 T/\match gt st.g a with
  |.ref id p=>ids=[id]/\∃u τ,az st.h id=some u/\el u.1 p=some (.optr τ)/\dr u.1 u.2 (p++[.deref]) t.1 t.2
  |_=>False
def yQ (P:Program) (st:ba):List ResultVar->List a1->List Nat->Prop
 |[],[],ids=>ids=[]
 |r::rs,t::ca,ids=>t.1.e3=true/\∃i1 i2,ids=i1++i2/\wI P st t r i1/\yQ P st rs ca i2
 |_,_,_=>False
def sN (st:ba):Nat->List hg->Prop
 |_,[]=>True
 |k,.m t y::r=>(gt st.g k=.ref k []/\az st.h k=some ⟨t.1,y⟩/\t.1.e3=true/\wj t.1=true)/\sN st (k+1) r
 |k,.w σ xs lo hi aS::r=>(gt st.g k=.view k [] lo hi/\az st.h k=some ⟨.osl σ,aS⟩/\(σ.e3=true/\lo<hi)/\aS.length=xs.length)/\sN st (k+1) r
 |k,_::r=>sN st (k+1) r
def Tx (P:Program) (args:List hg) (rs:List ResultVar) (res:List a1) (e:Exit) (st:ba):Prop:=
 (e=.normal\/e=.ret)/\∃ids,yQ P st rs res ids/\j7 (hz 0 args++ids)=true/\sN st 0 args
section
variable {E:eI}
theorem ahb {I B:Nat->Prop} {w:World} {h:List (Nat×a1)} {rt:Nat->List Value} {fp:Nat->List Nat} {n:Nat} {ca:List a1} {gh:List Value} (hc:i4 (D0 I B w) ca gh):cw (bK I B) w h rt fp (.dQ n (ca.map fun t=>.val t.1 t.2)) (.func (.func n) #[] gh.toArray):=by
 have ah:=T4 hc;refine .dQ (by simpa using ah.symm) (fun i a v J R=>?_);have get:∀{ca:List a1} {gh:List Value} {i:Nat} {t:a1} {v:Value},i4 (D0 I B w) ca gh->ca[i]?=some t->gh[i]?=some v->D0 I B w t v:=by
  intro ca
  induction ca with
  |nil=>intro gh i t v _ J;simp at J
  |cons x ca aT=>
   intro gh i t v hc J R;cases gh with
   |nil=>exact hc.elim
   |cons u gh=>
    cases i with
    |zero=>simp only[ld,cI] at J R;subst J R;exact hc.1
    |succ i=>exact aT hc.2 (by simpa using J) (by simpa using R)
 rw[f5] at J;obtain⟨t,af,rfl⟩:=eM.1 J;obtain⟨cs,rfl,hr⟩:=get hc af (by simpa using R);exact .val hr
theorem Uo {I B:Nat->Prop} {w:World}:∀{k:Nat} {args:List hg} {vs:List Value} {fs:List (List Nat)},nV (DT I B w) args vs fs->∃(rt:Nat->List Value) (fp:Nat->List Nat),(∀id t,az (kR k args) id=some t->k<=id/\(∃f,fs[id-k]?=some f/\fp id=f)/\bi (bK I B) w t.1 (rt id) t.2 (fp id))/\(∀j,gt (ki k args) (k+j)=.dead\/∃v,vs[j]?=some v/\cw (bK I B) w (kR k args) rt fp (gt (ki k args) (k+j)) v)/\(∀j,j<k->gt (ki k args) j=.dead)
 |k,[],vs,fs,h=>⟨fun _=>[],fun _=>[],(fun id t h=>by cases h),fun j=>.inl rfl,fun j _=>rfl⟩
 |k,a::args,[],fs,h=>h.elim
 |k,a::args,v::vs,[],h=>h.elim
 |k,a::args,v::vs,f::fs,h=>by
  obtain⟨J,R⟩:=h;obtain⟨rt,fp,i1,i2,i3⟩:=Uo (k:=k+1) R;have Gf:∀id t,az (kR (k+1) args) id=some t->k<=id/\(∃hM,(f::fs)[id-k]?=some hM/\fp id=hM)/\bi (bK I B) w t.1 (rt id) t.2 (fp id):=fun id t af=>(by obtain⟨aK,⟨hM,aL,a8⟩,bH⟩:=i1 id t af;exact⟨by omega,⟨hM,by rw[show id-k=(id-(k+1))+1 by omega,uq];exact aL,a8⟩,bH⟩);have own:∀(t:a1) (cs:List Value) (av:aw),(∀(a2:List (Nat×a1)) (ou:Nat->List Value) (gX:Nat->List Nat),az a2 k=some t->ou k=cs->cw (bK I B) w a2 ou gX av v)->bi (bK I B) w t.1 cs t.2 f->kR k (a::args)=(k,t)::kR (k+1) args->ki k (a::args)=(k,av)::ki (k+1) args->_:=fun t cs av hv hr aC aV=>by
   refine(⟨fun i=>if i=k then cs else rt i,fun i=>if i=k then f else fp i,?_,?_,?_⟩:∃(rt:Nat->List Value) (fp:Nat->List Nat),(∀id t,az (kR k (a::args)) id=some t->k<=id/\(∃hM,(f::fs)[id-k]?=some hM/\fp id=hM)/\bi (bK I B) w t.1 (rt id) t.2 (fp id))/\(∀j,gt (ki k (a::args)) (k+j)=.dead\/∃ed,(v::vs)[j]?=some ed/\cw (bK I B) w (kR k (a::args)) rt fp (gt (ki k (a::args)) (k+j)) ed)/\(∀j,j<k->gt (ki k (a::args)) j=.dead))
   ·intro id t' af;rw[aC,db] at af;split at af
    ·rename_i e;subst e;obtain rfl:=ff af;refine⟨bS _,⟨f,by simp,by simp⟩,by simp only[if_true];exact hr⟩
    ·rename_i e;obtain⟨aK,aL,a8⟩:=Gf id t' af;have dy:¬id=k:=fun h=>e h.symm;exact⟨aK,by simp only[if_neg dy];exact aL,by simp only[if_neg dy];exact a8⟩
   ·intro j;rw[aV,jv];cases j with
    |zero=>
     right;refine⟨v,rfl,?_⟩;rw[if_pos (by omega)];exact hv _ _ _ (by rw[aC,db,if_pos rfl]) (by simp only[if_true])
    |succ j=>
     rw[if_neg (by omega),show k+(j+1)=k+1+j by omega];refine(i2 j).imp id ?_;rintro⟨ed,aK,aL⟩;refine⟨ed,by simpa using aK,?_⟩;refine aL.xU (fun m b ao=>⟨ao,c3.refl w b⟩) (fun id _ t' af=>?_);obtain⟨bX,_,a9⟩:=i1 id t' af;have dy:¬id=k:=(by omega);have aie:¬k=id:=(by omega);exact⟨by rw[aC,db,if_neg aie];exact af,by simp only[if_neg dy],by simp only[if_neg dy],a9,fun b _=>c3.refl w b⟩
   ·intro j al;rw[aV,jv,if_neg (by omega)];exact i3 j (by omega)
  cases a with
  |v t=>
   obtain⟨rfl,cs,hv,hr⟩:=J;refine⟨rt,fp,Gf,fun j=>?_,fun j al=>?_⟩
   ·show gt ((k,_)::_) _=_\/_;rw[jv];cases j with
    |zero=>
     right;refine⟨v,rfl,?_⟩;show cw _ _ _ _ _ (gt ((k,_)::_) _) _;rw[jv,if_pos (by omega),hv];exact .val hr
    |succ j=>
     rw[if_neg (by omega),show k+(j+1)=k+1+j by omega];refine(i2 j).imp id ?_;rintro⟨ed,aK,aL⟩;refine⟨ed,by simpa using aK,?_⟩;show cw _ _ _ _ _ (gt ((k,_)::_) _) _;rw[jv,if_neg (by omega)];exact aL
   ·show gt ((k,_)::_) _=_;rw[jv,if_neg (by omega)];exact i3 j (by omega)
  |n=>
   obtain⟨rfl,hv⟩:=J;refine⟨rt,fp,Gf,fun j=>?_,fun j al=>?_⟩
   ·show gt ((k,_)::_) _=_\/_;rw[jv];cases j with
    |zero=>
     right;refine⟨v,rfl,?_⟩;show cw _ _ _ _ _ (gt ((k,_)::_) _) _;rw[jv,if_pos (by omega),hv];exact .c5 _
    |succ j=>
     rw[if_neg (by omega),show k+(j+1)=k+1+j by omega];refine(i2 j).imp id ?_;rintro⟨ed,aK,aL⟩;refine⟨ed,by simpa using aK,?_⟩;show cw _ _ _ _ _ (gt ((k,_)::_) _) _;rw[jv,if_neg (by omega)];exact aL
   ·show gt ((k,_)::_) _=_;rw[jv,if_neg (by omega)];exact i3 j (by omega)
  |s g l=>
   refine⟨rt,fp,Gf,fun j=>?_,fun j al=>i3 j (by omega)⟩;cases j with
   |zero=>exact .inl (i3 k (by omega))
   |succ j=>
    have al:=i2 j;rw[show k+1+j=k+(j+1) by omega] at al;refine al.imp id ?_;rintro⟨ed,aK,aL⟩;exact⟨ed,by simpa using aK,aL⟩
  |c n ca=>
   obtain⟨rfl,gh,hv,hr⟩:=J;refine⟨rt,fp,Gf,fun j=>?_,fun j al=>?_⟩
   ·show gt ((k,_)::_) _=_\/_;rw[jv];cases j with
    |zero=>
     right;refine⟨v,rfl,?_⟩;show cw _ _ _ _ _ (gt ((k,_)::_) _) _;rw[jv,if_pos (by omega),hv];exact ahb hr
    |succ j=>
     rw[if_neg (by omega),show k+(j+1)=k+1+j by omega];refine(i2 j).imp id ?_;rintro⟨ed,aK,aL⟩;refine⟨ed,by simpa using aK,?_⟩;show cw _ _ _ _ _ (gt ((k,_)::_) _) _;rw[jv,if_neg (by omega)];exact aL
   ·show gt ((k,_)::_) _=_;rw[jv,if_neg (by omega)];exact i3 j (by omega)
  |m t y=>obtain⟨cs,hv,hr⟩:=J;exact own t cs (.ref k []) (fun a2 ou gX aK aL=>by subst hv;exact .ref (loc:=none) aK (by rw[aL];exact bk.here)) hr rfl rfl
  |o t=>obtain⟨cs,hv,hr⟩:=J;exact own t cs (.ref k []) (fun a2 ou gX aK aL=>by subst hv;exact .ref (loc:=none) aK (by rw[aL];exact bk.here)) hr rfl rfl
  |w σ xs lo hi aS=>
   obtain⟨b,o,cap,hv,⟨da,l2,md⟩,hr⟩:=J;refine own ⟨.osl σ,xs⟩ _ (.view k [] lo hi) (fun a2 ou gX aK aL=>?_) hr rfl rfl;have ai:cw (bK I B) w a2 ou gX (.view k [] lo hi) (.slice (some ⟨b,if cap=lo then o else o+lo*σ.size,none⟩) (hi-lo) (cap-lo)):=.view (loc:=none) (len:=xs.length) aK (by rw[aL];exact bk.here) (by omega) l2 md;rw[if_neg (by omega)] at ai;rw[hv];exact ai
theorem apo {fs:List (List Nat)} (h:fs.flatten.Nodup):(∀(i:Nat) f,fs[i]?=some f->f.Nodup)/\∀(i j:Nat) f g,fs[i]?=some f->fs[j]?=some g->i≠j->∀b∈f,b∉g:=by
 induction fs with
 |nil=>exact⟨fun i f h=>by simp at h,fun i j f g h=>by simp at h⟩
 |cons x fs aT=>
  simp only[kL,kO] at h;obtain⟨J,R,ae⟩:=h;obtain⟨i1,i2⟩:=aT R;refine⟨fun i f aF=>?_,fun i j f g aF aD dz b aa cM=>?_⟩
  ·cases i with
   |zero=>simp only[ld,cI] at aF;subst aF;exact J
   |succ i=>exact i1 i f (by simpa using aF)
  ·cases i with
   |zero=>
    cases j with
    |zero=>exact dz rfl
    |succ j=>
     simp only[ld,cI] at aF;subst aF;exact ae b aa b (kN.2 ⟨g,nQ (by simpa using aD),cM⟩) rfl
   |succ i=>
    cases j with
    |zero=>
     simp only[ld,cI] at aD;subst aD;exact ae b cM b (kN.2 ⟨f,nQ (by simpa using aF),aa⟩) rfl
    |succ j=>exact i2 i j f g (by simpa using aF) (by simpa using aD) (by omega) b aa cM
def Hs (bY:Array Value):ResultVar->Sem Value
 |.tmp t=>Pure.pure (bY.getD t undef)
 |.cell a t=>do loadVar t (<-asAddr (bY.getD a undef))
theorem atr {P:Program} {fn:Func} {rs:List ResultVar} (hr:fn.results=rs.toArray) (bY:Array Value) (w:World) {vs:List Value} (hv:(rs.mapM (Hs bY)).run P w=.ok vs w):(results fn bY).run P w=.ok (tP vs) w:=by
 unfold results;simp only[Sem.run_bind,hr];rw[Array.mapM_eq_mapM_toList,Sem.run_map];have key:∀g:ResultVar->Sem Value,(∀x,g x=Hs bY x)->(rs.mapM g).run P w=.ok vs w:=fun g aD=>(by rw[show g=Hs bY from funext aD];exact hv);rw[key _ (fun x=>by cases x<;>rfl)];simp only[Result.andThen_ok,Sem.run_pure];congr 1
 match vs with
 |[]=>rfl
 |[r]=>rfl
 |r::r'::l=>simp[tP]
theorem wI.rep {P:Program} {C:dZ} {st:ba} {bY:Array Value} {w:World} {I:Nat->Prop} {rt:Nat->List Value} {fp:Nat->List Nat} (ar:cc C st bY w I rt fp) {t:a1} (FY:t.1.e3=true) {r:ResultVar} {ids:List Nat} (h:wI P st t r ids):∃v hs,(Hs bY r).run P w=.ok v w/\Is I w t v hs/\(∃dK,(ids.map fp).flatten.Perm (hs++dK))/\∀id∈ids,∃t,az st.h id=some t:=by
 have place:∀(id:Nat) (u:a1) (p:List bw),az st.h id=some u->dr u.1 u.2 p t.1 t.2->∃dE b3 hM AW,bk w u.1 none (rt id) p t.1 dE b3/\bi (bK I C.B) w t.1 b3 t.2 hM/\sM w dE b3 t.1.size/\(fp id).Perm (hM++AW):=(by intro id u p aQ kx;obtain⟨aK,aL,a8⟩:=ar.tree id _ aQ;obtain⟨dE,b3,hM,AW,bu,bE,cl,gu,_⟩:=KG p (τ':=t.1) (y:=t.2) aK (loc:=none) (fun _ _ h=>by cases h) aL (fun _ _ h=>by cases h) (ar.notM aQ) kx;exact⟨dE,b3,hM,AW,bu,bE,cl,gu⟩);cases r with
 |tmp r=>
  have hr:=ar.tmp r;simp only[wI] at h;split at h
  ·rename_i τ x e;rw[e] at hr;obtain⟨rfl,rfl⟩:=h;generalize hv:bY.getD r undef=v at hr;cases hr with|val kF=>
   exact⟨_,[],by show(Pure.pure (bY.getD r undef):Sem Value).run P w=_;rw[hv];rfl,⟨_,rfl,kF.e3 FY⟩,⟨[],by simp⟩,by simp⟩
  ·rename_i v e;rw[e] at hr;obtain⟨aK,aL,rfl⟩:=h;generalize hv:bY.getD r undef=ed at hr;cases hr;exact⟨_,[],by show(Pure.pure (bY.getD r undef):Sem Value).run P w=_;rw[hv];rfl,⟨_,aL.symm,sZ aK⟩,⟨[],by simp⟩,by simp⟩
  ·rename_i id p e;rw[e] at hr;obtain⟨rfl,u,aQ,kx⟩:=h;generalize hv:bY.getD r undef=v at hr;cases hr with|ref bx ag=>
   rw[aQ] at bx;cases bx;obtain⟨dE,b3,hM,AW,bu,bE,cl,gu⟩:=place id u p aQ kx;obtain⟨rfl,rfl,rfl⟩:=ag.jX bu;refine⟨_,hM,by show(Pure.pure (bY.getD r undef):Sem Value).run P w=_;rw[hv];rfl,⟨_,rfl,bE.e3 FY⟩,⟨AW,by simpa using gu⟩,fun i hi=>?_⟩;rw[fv] at hi;subst hi;exact⟨_,aQ⟩
  ·exact h.elim
 |cell a T=>
  have hr:=ar.tmp a;simp only[wI] at h;obtain⟨bd,h⟩:=h;split at h
  ·rename_i id p e;rw[e] at hr;obtain⟨rfl,u,τ,aQ,fB,kx⟩:=h;generalize hv:bY.getD a undef=v at hr;cases hr with|ref bx ag=>
   rw[aQ] at bx;cases bx;have:=ag.ty;rw[fB] at this;cases this;obtain⟨b,o,ds,rfl,cJ,cz⟩:=sf (ar.tree id _ aQ).1 ag;have h6:=ag.append (bk.Ou cJ cz);obtain⟨dE,b3,hM,AW,bu,bE,cl,gu⟩:=place id u _ aQ kx;obtain⟨aC,aV,b4⟩:=h6.jX bu;subst aV;subst b4;subst aC;have jM:=(cl b o rfl).1;refine⟨cH t.1 ds,hM,?_,⟨_,rfl,bE.e3 FY⟩,⟨AW,by simpa using gu⟩,fun i hi=>?_⟩
   ·show(do loadVar T (<-asAddr (bY.getD a undef)):Sem Value).run P w=_;rw[hv];simp only[cH,List.headD,asAddr,Sem.run_bind,Sem.run_pure,Result.andThen_ok];exact aa9 bd jM bE.len
   ·rw[fv] at hi;subst hi;exact⟨_,aQ⟩
  ·exact h.elim
theorem yQ.rep {P:Program} {C:dZ} {st:ba} {bY:Array Value} {w w0:World} {I:Nat->Prop} {rt:Nat->List Value} {fp:Nat->List Nat} (ar:cc C st bY w I rt fp):∀{rs:List ResultVar} {res:List a1} {ids:List Nat},yQ P st rs res ids->∃vs hs,(rs.mapM (Hs bY)).run P w=.ok vs w/\nV (Is I w) res vs hs/\(∃dK,(ids.map fp).flatten.Perm (hs.flatten++dK))/\∀id∈ids,∃t,az st.h id=some t
 |[],[],ids,h=>by obtain rfl:ids=[]:=h;exact⟨[],[],rfl,trivial,⟨[],.refl _⟩,by simp⟩
 |[],t::ca,ids,h=>h.elim
 |r::rs,[],ids,h=>h.elim
 |r::rs,t::ca,ids,h=>by
  obtain⟨FY,i1,i2,rfl,J,R⟩:=h;obtain⟨v,f,cq,dv,⟨asY,a3⟩,a4⟩:=J.rep ar FY;obtain⟨vs,hs,dn,dM,⟨Sq,hL⟩,jI⟩:=yQ.rep (w0:=w0) ar R;refine⟨v::vs,f::hs,?_,⟨dv,dM⟩,⟨asY++Sq,?_⟩,fun i hi=>?_⟩
  ·simp only[List.mapM_cons,Sem.run_bind,cq,Sem.run_pure,Result.andThen_ok,dn]
  ·simp only[jS,um,kL];refine(a3.append hL).trans ?_;rw[ui,ui];refine List.Perm.append_left f ?_;rw[<-ui,<-ui];exact List.Perm.append_right Sq List.perm_append_comm
  ·rcases fe.1 hi with hi|hi
   ·exact a4 i hi
   ·exact jI i hi
theorem Up:∀{k:Nat} {args:List hg},∀j∈hz k args,k<=j
 |k,[],j,h=>by cases h
 |k,a::args,j,h=>by
  have aT:=Up (k:=k+1) (args:=args);cases a with
  |m t y=>
   rcases dV.1 h with rfl|h
   ·exact bS _
   ·have:=aT j h;omega
  |w σ xs lo hi aS=>
   rcases dV.1 h with rfl|h
   ·exact bS _
   ·have:=aT j h;omega
  |v t=>have:=aT j h;omega
  |o t=>have:=aT j h;omega
  |c n ca=>have:=aT j h;omega
  |n=>have:=aT j h;omega
  |s f l=>have:=aT j h;omega
theorem sN.rep {C:dZ} {st:ba} {bY:Array Value} {w:World} {I:Nat->Prop} {rt:Nat->List Value} {fp:Nat->List Nat} (ar:cc C st bY w I rt fp) {B:Nat->Prop}:∀{k:Nat} {args:List hg} {vs:List Value},sN st k args->vs.length=args.length->(∀j,j∈hz k args->∀v,vs[j-k]?=some v->bY.getD j undef=v)->∃gs,nV (DU I B w) args vs gs/\gs.flatten=((hz k args).map fp).flatten/\∀id∈hz k args,k<=id/\∃t,az st.h id=some t
 |k,[],vs,h,ah,ay=>by cases vs with
  |nil=>exact⟨[],trivial,rfl,by simp[hz]⟩
  |cons=>cases ah
 |k,a::args,[],h,ah,ay=>by cases ah
 |k,a::args,v::vs,h,ah,ay=>by
  have more:sN st (k+1) args->(∀j,j∈hz (k+1) args->j∈hz k (a::args))->∃gs,nV (DU I B w) args vs gs/\gs.flatten=((hz (k+1) args).map fp).flatten/\∀id∈hz (k+1) args,k+1<=id/\∃t,az st.h id=some t:=fun h fh=>by
   have kW:=Up (k:=k+1) (args:=args);exact sN.rep ar h (by simpa using ah) (fun j al ed lz=>ay j (fh j al) ed (by
    have:=kW j al;rw[show j-k=(j-(k+1))+1 by omega,uq];exact lz))
  cases a with
  |v t=>
   obtain⟨gs,J,R,ae⟩:=more h (fun j al=>al);exact⟨[]::gs,⟨rfl,J⟩,by simpa[hz] using R,fun id bh=>⟨by have:=(ae id bh).1;omega,(ae id bh).2⟩⟩
  |o t=>
   obtain⟨gs,J,R,ae⟩:=more h (fun j al=>al);exact⟨[]::gs,⟨rfl,J⟩,by simpa[hz] using R,fun id bh=>⟨by have:=(ae id bh).1;omega,(ae id bh).2⟩⟩
  |n=>
   obtain⟨gs,J,R,ae⟩:=more h (fun j al=>al);exact⟨[]::gs,⟨rfl,J⟩,by simpa[hz] using R,fun id bh=>⟨by have:=(ae id bh).1;omega,(ae id bh).2⟩⟩
  |s f l=>
   obtain⟨gs,J,R,ae⟩:=more h (fun j al=>al);exact⟨[]::gs,⟨rfl,J⟩,by simpa[hz] using R,fun id bh=>⟨by have:=(ae id bh).1;omega,(ae id bh).2⟩⟩
  |c n ca=>
   obtain⟨gs,J,R,ae⟩:=more h (fun j al=>al);exact⟨[]::gs,⟨rfl,J⟩,by simpa[hz] using R,fun id bh=>⟨by have:=(ae id bh).1;omega,(ae id bh).2⟩⟩
  |m t y=>
   obtain⟨⟨bu,bE,cl,gu⟩,h⟩:=h;obtain⟨gs,J,R,ae⟩:=more h (fun j al=>f6 _ al);have ac:=ar.tmp k;rw[bu] at ac;have hv:bY.getD k undef=v:=ay k (by simp[hz]) v (by simp);rw[hv] at ac;obtain⟨hr,_⟩:=ar.tree k _ bE;refine⟨fp k::gs,⟨?_,J⟩,by simp only[hz,eY,kL,R],fun id bh=>?_⟩
   ·cases ac with|ref af ag=>
    rw[bE] at af;cases af;obtain⟨rfl,rfl,rfl⟩:=bk.fH.1 ag;exact⟨rt k,rfl,hr.e3 cl⟩
   ·rcases dV.1 bh with rfl|bh
    ·exact⟨bS _,_,bE⟩
    ·exact⟨by have:=(ae id bh).1;omega,(ae id bh).2⟩
  |w σ xs lo hi aS=>
   obtain⟨⟨bu,bE,⟨cl,gu⟩,lD⟩,h⟩:=h;obtain⟨gs,J,R,ae⟩:=more h (fun j al=>f6 _ al);have ac:=ar.tmp k;rw[bu] at ac;have hv:bY.getD k undef=v:=ay k (by simp[hz]) v (by simp);rw[hv] at ac;obtain⟨hr,_⟩:=ar.tree k _ bE;refine⟨fp k::gs,⟨?_,J⟩,by simp only[hz,eY,kL,R],fun id bh=>?_⟩
   ·cases ac with
    |nJ=>omega
    |view af ag aK aL a8=>
    rename_i t' τ' loc cP bL vr fy;rw[bE] at af;cases af;obtain⟨aC,aV,b4⟩:=bk.fH.1 ag;simp only[aq.osl.injEq] at aC;subst aC;have nY:rt k=[.slice (some ⟨cP,bL,none⟩) vr fy]:=b4;have qF:=hr;obtain⟨b2,c',bH,dp⟩:=qF;rw[bH] at nY;simp only[hh,Value.slice.injEq,and_true] at nY;refine⟨cP,bL,fy,by rw[if_neg (by omega)],by omega,?_⟩;have:=bi.e3 (τ:=.osl σ) (B':=B) cl hr;rw[bH,nY.1,nY.2.2] at this;have fo:List.length (α:=σ.den) aS=xs.length:=lD;rw[<-fo];exact this
   ·rcases dV.1 bh with rfl|bh
    ·exact⟨bS _,_,bE⟩
    ·exact⟨by have:=(ae id bh).1;omega,(ae id bh).2⟩
theorem wv.apE {f:FuncId} {fn:Func} {c:Code} {args:List hg} {rs:List ResultVar} {res:List a1} (aF:E.P.funcs[f]?=some fn) (aa:fn.body=some c) (tm:fn.results=rs.toArray) (ag:args.length<=fn.ntmps) (h:∀C:dZ,C.n=fn.ntmps->C.pin=hz 0 args++qX (sr 0 args)->(∀b,C.I0 b\/C.B b->b<C.w0.heap.size/\¬C.F0 b)->yT C (sr 0 args)->mu E C.I0 C.w0->c2 E C c ⟨ki 0 args,kR 0 args⟩ (Tx E.P args rs res)):wv E f args res:=by
 intro w I B vs fs W4 qy eh xl Ae alh;obtain⟨qH,K6⟩:=NC qy;obtain⟨rt,fp,cq,dv,a3⟩:=Uo (k:=0) qy
 let C:dZ:={I0:=I,B:=B,F0:=fun b=>b∈fs.flatten,w0:=w,n:=fn.ntmps,pin:=hz 0 args++qX (sr 0 args),vs:=fun k=>vs.getD k undef}
 have Xw:∀k,(vs.toArray++Array.replicate (fn.ntmps-vs.toArray.size) undef).getD k undef=vs.getD k undef:=by
  intro k;rw[Ib,lc];rcases ch k vs.length with ac|ac
  ·rw[Array.getElem?_append,if_pos (by simpa using ac)];simp
  ·rw[Array.getElem?_append,if_neg (by simp;omega),gy ac,Array.getElem?_replicate];split<;>rfl
 obtain⟨om,lF⟩:=apo eh;have ar:cc C ⟨ki 0 args,kR 0 args⟩ (vs.toArray++Array.replicate (fn.ntmps-vs.toArray.size) undef) w I rt fp:=by
  refine{n:=?_,i0:=fun _ h=>h,i1:=fun _ h=>.inl h,ib:=W4,tree:=?_,dis:=?_,tmp:=?_,frame:=fun _ _ _=>rfl,evo:=fun _ _=>.refl _ _,size:=bS _,os:=rfl,tape:=rfl,output:=rfl,pin:=fun k _=>Xw k}
  ·simp only[Array.size_append,wF,Array.size_replicate];show _=fn.ntmps;omega
  ·intro id t af;obtain⟨_,⟨f,aK,aL⟩,a8⟩:=cq id t af;rw[Nat.sub_zero] at aK;refine⟨a8,by rw[aL];exact om id f aK,fun b aa=>?_⟩;rw[aL] at aa;have ao:b∈fs.flatten:=kN.2 ⟨f,nQ aK,aa⟩;obtain⟨bX,bn,a9⟩:=xl b ao;exact⟨bX,bn,a9,.inr ao⟩
  ·intro i j t u hi al dz b aa cM;obtain⟨_,⟨f,aK,aL⟩,_⟩:=cq i t hi;obtain⟨_,⟨g,bX,bn⟩,_⟩:=cq j u al;rw[Nat.sub_zero] at aK bX;rw[aL] at aa;rw[bn] at cM;exact lF i j f g aK bX dz b aa cM
  ·intro k;show cw _ _ _ _ _ (gt (ki 0 args) k) _;rw[Xw];rcases dv k with h|⟨v,J,R⟩
   ·rw[ks] at h;rw[h];exact .dead _
   ·rw[ks] at R;rw[lc,J];exact R
 have CK:yT C (sr 0 args):=by
  cases hs:sr 0 args with
  |none=>trivial
  |some q=>
   obtain⟨k,f,l⟩:=q;rw[hs] at Ae;obtain⟨_,_,b,o,gh,gP,iC,mm,sp,ye⟩:=Ae;have P3:C.pin=hz 0 args++qX (some (k,f,l)):=(by rw[<-hs]);refine⟨by rw[P3];simp[qX],fun j al=>by rw[P3];simp[qX,al],b,o,gh,gP,iC,mm,sp,ye⟩
 refine calls_of_wp aF aa (wp_mono (h C rfl rfl (fun b aa=>⟨W4 b aa,fun ao=>aa.elim (xl b ao).1 (xl b ao).2.1⟩) CK alh _ w ⟨I,rt,fp,ar⟩ rfl) ?_);rintro e b2 w' ⟨cj,⟨aE,ids,hr,fA,ao⟩,⟨I',ou,gX,ev⟩,aN⟩;obtain⟨aw3,hs,ka,gP,⟨dK,iC⟩,mm⟩:=yQ.rep (w0:=w) ev hr;obtain⟨gs,bT,bz,cZ⟩:=sN.rep ev (B:=B) (vs:=vs) ao qH (fun j al v hv=>by
  rw[Nat.sub_zero] at hv;rw[ev.pin j (rh _ al)];show vs.getD j undef=v;rw[lc,hv];rfl)
 have fA:=j7.ok fA;have F9:∀id∈hz 0 args++ids,∃t,az cj.h id=some t:=fun id bh=>by
  rcases fe.1 bh with h|h
  ·exact(cZ id h).2
  ·exact mm id h
 have Lh:=Rq ev F9 fA;rw[jS,um,<-bz] at Lh;have Lh:(gs.flatten++hs.flatten).Nodup:=(by have:=(List.Perm.append_left gs.flatten iC).nodup_iff.1 Lh;rw[<-ui] at this;exact(kO.1 this).1);have zW:∀b∈gs.flatten++hs.flatten,∃id t,az cj.h id=some t/\b∈gX id:=fun b aa=>by
  have aa:b∈((hz 0 args++ids).map gX).flatten:=by
   rw[jS,um,<-bz];rcases fe.1 aa with h|h
   ·exact rh _ h
   ·exact oH _ (iC.mem_iff.2 (rh _ h))
  obtain⟨l,J,R⟩:=kN.1 aa;obtain⟨id,bh,rfl⟩:=dj.1 J;obtain⟨t,af⟩:=F9 id bh;exact⟨id,t,af,R⟩
 have post:∃v,(results fn b2.tmps).run E.P w'=.ok v w'/\∃I' gs hs eV,Ending.returned v=.returned (tP eV)/\TM I B w fs args vs res I' gs hs eV w':=
  ⟨_,atr tm b2.tmps w' ka,I',gs,hs,_,rfl,bT,gP,Lh,(fun b aa=>by
   obtain⟨id,t,af,hB⟩:=zW b aa;obtain⟨aK,aL,a8,bH⟩:=(ev.tree id t af).2.2 b hB;exact⟨aK,aL,a8,bH⟩),ev.i0,(fun b aa=>by
   rcases ev.i1 b aa with h|h|h
   ·exact .inl h
   ·exact .inr ⟨ev.ib b (.inl aa),.inl h⟩
   ·exact .inr ⟨ev.ib b (.inl aa),.inr h⟩),ev.size,ev.os,ev.tape,ev.output,ev.evo,fun b aa FK=>ev.frame b aa FK⟩
 rcases aE with rfl|rfl
 ·exact⟨aN,post⟩
 ·exact⟨aN,post⟩
end
end
section
open Classical in
def pick {α:Type} (iV:α->Prop):Option α:=if h:∃y,iV y then some h.choose else none
theorem ar4 {α:Type} {iV:α->Prop} {y:α} (h:pick iV=some y):iV y:=by
 unfold pick at h;split at h
 ·rename_i ax;cases h;exact ax.choose_spec
 ·cases h
inductive wJ where
 |v (τ:aq)
 |s (a:aw)
 |p (id:Nat) (a b:List bw)
 |w (id:Nat)
structure ql where
 g:List (Nat×wJ)
 h:List (Nat×aq)
@[reducible] def tY:List (Nat×wJ)->Type->Type
 |[],r=>r
 |(_,.v τ)::l,r=>τ.den×tY l r
 |(_,.s _)::l,r=>tY l r
 |(_,.p _ _ _)::l,r=>Nat×tY l r
 |(_,.w _)::l,r=>axM×tY l r
@[reducible] def A4:List (Nat×aq)->Type
 |[]=>Unit
 |(_,τ)::l=>τ.den×A4 l
@[reducible] def ql.den (dg:ql):Type:=tY dg.g (A4 dg.h)
def qu {r:Type}:(l:List (Nat×wJ))->tY l r->List (Nat×aw)
 |[],_=>[]
 |(d,.v τ)::l,s=>(d,.val τ s.1)::qu l s.2
 |(d,.s a)::l,s=>(d,a)::qu l s
 |(d,.p id a b)::l,s=>(d,.ref id (a++.idx s.1::b))::qu l s.2
 |(d,.w id)::l,s=>(d,.view id [] s.1.1 s.1.2)::qu l s.2
def zE {r:Type}:(l:List (Nat×wJ))->tY l r->r
 |[],s=>s
 |(_,.v _)::l,s=>zE l s.2
 |(_,.s _)::l,s=>zE l s
 |(_,.p _ _ _)::l,s=>zE l s.2
 |(_,.w _)::l,s=>zE l s.2
def zC:(l:List (Nat×aq))->A4 l->List (Nat×a1)
 |[],_=>[]
 |(d,τ)::l,s=>(d,⟨τ,s.1⟩)::zC l s.2
def lY (dg:ql) (s:dg.den):ba:=⟨qu dg.g s,zC dg.h (zE dg.g s)⟩
def h1 {τ:aq} (υ:aq) (x:τ.den):Option υ.den:=if e:τ=υ then some (e▸x) else none
theorem ll {τ υ:aq} {x:τ.den} {y:υ.den} (h:h1 υ x=some y):(⟨τ,x⟩:a1)=⟨υ,y⟩:=by
 unfold h1 at h;split at h
 ·rename_i e;subst e;cases h;rfl
 ·cases h
def A8:bw->bw->Bool
 |.idx i,.idx j=>Nat.beq i j
 |.deref,.deref|.unst,.unst|.fst,.fst|.snd,.snd=>true
 |_,_=>false
theorem A8.ok {a b:bw} (h:A8 a b=true):a=b:=by cases a<;>cases b<;>first|rfl|(cases h;done)|(rw[eZ h])
def m6:List bw->List bw->Bool
 |[],[]=>true
 |a::p,b::q=>A8 a b&&m6 p q
 |_,_=>false
theorem m6.ok:∀{p q:List bw},m6 p q=true->p=q
 |[],[],_=>rfl
 |[],_::_,h=>by cases h
 |_::_,[],h=>by cases h
 |a::p,b::q,h=>by simp only[m6,bM] at h;rw[A8.ok h.1,m6.ok h.2]
def y1:aw->aw->Bool
 |.ref i p,.ref j q=>Nat.beq i j&&m6 p q
 |.addr i p,.addr j q=>Nat.beq i j&&m6 p q
 |_,_=>false
theorem y1.ok {a b:aw} (h:y1 a b=true):a=b:=by cases a<;>cases b<;>first|(cases h;done)|(simp only[y1,bM] at h;rw[eZ h.1,m6.ok h.2])
def y2:List aw->List aw->Bool
 |[],[]=>true
 |a::l,b::m=>y1 a b&&y2 l m
 |_,_=>false
theorem y2.ok:∀{l m:List aw},y2 l m=true->l=m
 |[],[],_=>rfl
 |[],_::_,h=>by cases h
 |_::_,[],h=>by cases h
 |a::l,b::m,h=>by simp only[y2,bM] at h;rw[y1.ok h.1,y2.ok h.2]
def wR:aw->aw->Bool
 |.dQ f l,.dQ g m=>Nat.beq f g&&y2 l m
 |a,b=>y1 a b
theorem wR.ok {a b:aw} (h:wR a b=true):a=b:=by cases a<;>cases b<;>first|exact y1.ok h|(simp only[wR,bM] at h;rw[eZ h.1,y2.ok h.2])
def HG:List bw->List bw->List bw->Option Nat
 |[],b,.idx k::q=>bif m6 b q then some k else none
 |s::a,b,t::q=>bif A8 s t then HG a b q else none
 |_,_,_=>none
theorem abr:∀{a b q:List bw} {k:Nat},HG a b q=some k->q=a++.idx k::b
 |[],b,[],k,h=>by cases h
 |[],b,s::q,k,h=>by
  cases s<;>simp only[HG] at h<;>try (cases h;done)
  cases aa:m6 b q with
  |false=>rw[aa] at h;cases h
  |true=>rw[aa] at h;cases h;rw[m6.ok aa];rfl
 |s::a,b,[],k,h=>by cases h
 |s::a,b,t::q,k,h=>by
  simp only[HG] at h;cases aa:A8 s t with
  |false=>rw[aa] at h;cases h
  |true=>rw[aa] at h;rw[A8.ok aa,abr h];rfl
def tL {r:Type} (g:List (Nat×aw)) (o:Option r):(l:List (Nat×wJ))->Option (tY l r)
 |[]=>o
 |(d,.v τ)::l=>match gt g d with
  |.val _ x=>match h1 τ x with
   |some y=>(tL g o l).map (fun q=>(y,q))
   |none=>none
  |_=>none
 |(d,.s a)::l=>match wR a (gt g d) with
  |true=>tL g o l
  |false=>none
 |(d,.p id a b)::l=>match gt g d with
  |.ref j q=>bif Nat.beq id j then match HG a b q with
   |some k=>(tL g o l).map (fun r=>(k,r))
   |none=>none else none
  |_=>none
 |(d,.w id)::l=>match gt g d with
  |.view j [] lo hi=>bif Nat.beq id j then(tL g o l).map (fun r=>((lo,hi),r)) else none
  |_=>none
def Mr (h:List (Nat×a1)):(l:List (Nat×aq))->Option (A4 l)
 |[]=>some ()
 |(d,τ)::l=>match az h d with
  |some t=>match h1 τ t.2 with
   |some y=>(Mr h l).map (fun q=>(y,q))
   |none=>none
  |none=>none
def Cu:List (Nat×aq)->Nat->Bool
 |[],_=>false
 |(k,_)::r,n=>bif Nat.beq k n then true else Cu r n
def tZ:List (Nat×wJ)->List (Nat×aq)->Bool
 |[],_=>true
 |(_,.v _)::l,h=>tZ l h
 |(_,.s a)::l,h=>(a.ids.all fun id=>Cu h id)&&tZ l h
 |(_,.p id _ _)::l,h=>Cu h id&&tZ l h
 |(_,.w id)::l,h=>Cu h id&&tZ l h
def proj (dg:ql) (st:ba):Option dg.den:=bif tZ dg.g dg.h then tL st.g (Mr st.h dg.h) dg.g else none
theorem Kv:∀{l:List (Nat×aq)} {s:A4 l} {id:Nat},Cu l id=true->(az (zC l s) id).isSome=true
 |[],_,_,h=>by cases h
 |(k,τ)::l,s,id,h=>by
  simp only[Cu] at h;simp only[zC,az];cases aa:Nat.beq k id with
  |true=>rfl
  |false=>rw[aa] at h;exact Kv (by simpa using h)
theorem Hl {r:Type} {st:ba} {o:Option r}:∀{l:List (Nat×wJ)} {s:tY l r},tL st.g o l=some s->rA (qu l s) st/\o=some (zE l s)
 |[],s,h=>⟨trivial,h⟩
 |(d,.v τ)::l,s,h=>by
  simp only[tL] at h;split at h
  case h_2=>cases h
  rename_i τ' x ab;split at h
  case h_2=>cases h
  rename_i y aB;obtain⟨q,ai,rfl⟩:=eM.1 h;obtain⟨J,R⟩:=Hl ai;refine⟨⟨?_,J⟩,R⟩;rw[ab];cases ll aB;rfl
 |(d,.s a)::l,s,h=>by
  simp only[tL] at h;split at h
  case h_2=>cases h
  rename_i aG;obtain⟨J,R⟩:=Hl h;exact⟨⟨(wR.ok aG).symm,J⟩,R⟩
 |(d,.p id a b)::l,s,h=>by
  simp only[tL] at h;split at h
  case h_2=>cases h
  rename_i j q ai;cases aa:Nat.beq id j with
  |false=>rw[aa] at h;cases h
  |true=>
  rw[aa] at h;simp only[cond_true] at h;split at h
  case h_2=>cases h
  rename_i k ac;obtain⟨r',hr,rfl⟩:=eM.1 h;obtain⟨J,R⟩:=Hl hr;refine⟨⟨?_,J⟩,R⟩;rw[ai,abr ac,eZ aa]
 |(d,.w id)::l,s,h=>by
  simp only[tL] at h;split at h
  case h_2=>cases h
  rename_i j lo hi ai;cases aa:Nat.beq id j with
  |false=>rw[aa] at h;cases h
  |true=>
  rw[aa] at h;simp only[cond_true] at h;obtain⟨r',hr,rfl⟩:=eM.1 h;obtain⟨J,R⟩:=Hl hr;refine⟨⟨?_,J⟩,R⟩;rw[ai,eZ aa]
theorem aao {st:ba}:∀{l:List (Nat×aq)} {s:A4 l},Mr st.h l=some s->rB (zC l s) st
 |[],s,h=>trivial
 |(d,τ)::l,s,h=>by
  simp only[Mr] at h;split at h
  case h_2=>cases h
  rename_i t af;split at h
  case h_2=>cases h
  rename_i y aB;obtain⟨q,ai,rfl⟩:=eM.1 h;refine⟨?_,aao ai⟩;rw[af];cases t;rw[ll aB]
theorem HD {r:Type} {ah:List (Nat×aq)} {t:A4 ah}:∀{l:List (Nat×wJ)} {s:tY l r},tZ l ah=true->oe (qu l s) (zC ah t)=true
 |[],s,h=>rfl
 |(d,.v τ)::l,s,h=>by have:=HD (r:=r) (t:=t) (l:=l) (s:=s.2) h;simp only[oe,qu,yH,aw.ids,List.all_nil,Bool.true_and] at this|-;exact this
 |(d,.s a)::l,s,h=>by simp only[tZ,bM] at h;have:=HD (r:=r) (t:=t) (l:=l) (s:=s) h.2;simp only[oe,qu,yH,bM] at this|-;refine⟨?_,this⟩;rw[fk] at h|-;exact fun id bh=>Kv (h.1 id bh)
 |(_,.p id a b)::l,s,h=>by simp only[tZ,bM] at h;have:=HD (r:=r) (t:=t) (l:=l) (s:=s.2) h.2;simp only[oe,qu,yH,bM] at this|-;refine⟨?_,this⟩;simp only[aw.ids,yH,List.all_nil,Bool.and_true];exact Kv h.1
 |(_,.w id)::l,s,h=>by simp only[tZ,bM] at h;have:=HD (r:=r) (t:=t) (l:=l) (s:=s.2) h.2;simp only[oe,qu,yH,bM] at this|-;refine⟨?_,this⟩;simp only[aw.ids,yH,List.all_nil,Bool.and_true];exact Kv h.1
theorem x6 {dg:ql} {st:ba} {s:dg.den} (h:proj dg st=some s):rA (lY dg s).g st/\rB (lY dg s).h st/\oe (lY dg s).g (lY dg s).h=true:=by
 unfold proj at h;cases aa:tZ dg.g dg.h with
 |false=>rw[aa] at h;cases h
 |true=>
  rw[aa] at h;obtain⟨J,R⟩:=Hl h;exact⟨J,aao R,HD aa⟩
inductive g7 where
 |v (τ:aq)
 |m (τ:aq)
 |o (τ:aq)
 |c (f:Nat) (τs:List aq)
 |n
 |s (f:Nat) (l:List Nat)
 |w (σ:aq)
@[reducible] def nE:List aq->Type
 |[]=>Unit
 |τ::l=>τ.den×nE l
@[reducible] def hb:List g7->Type
 |[]=>Unit
 |.c _ τs::l=>nE τs×hb l
 |.n::l=>Unit×hb l
 |.s _ _::l=>Unit×hb l
 |.v τ::l=>τ.den×hb l
 |.m τ::l=>τ.den×hb l
 |.o τ::l=>τ.den×hb l
 |.w σ::l=>(List σ.den×Nat×Nat)×hb l
@[reducible] def jA:List g7->Type->Type
 |[],r=>r
 |.m τ::l,r=>τ.den×jA l r
 |.w σ::l,r=>List σ.den×jA l r
 |.v _::l,r=>jA l r
 |.o _::l,r=>jA l r
 |.c _ _::l,r=>jA l r
 |.n::l,r=>jA l r
 |.s _ _::l,r=>jA l r
structure bg where
 f:Nat
 ps:List g7
 rs:List aq
 m8:hb ps->Option (jA ps (nE rs))
def jz:(rs:List aq)->nE rs->List a1
 |[],_=>[]
 |τ::l,s=>⟨τ,s.1⟩::jz l s.2
def fF {r:Type}:(ps:List g7)->hb ps->jA ps r->List hg
 |[],_,_=>[]
 |.v τ::l,a,b=>.v ⟨τ,a.1⟩::fF l a.2 b
 |.m τ::l,a,b=>.m ⟨τ,a.1⟩ b.1::fF l a.2 b.2
 |.o τ::l,a,b=>.o ⟨τ,a.1⟩::fF l a.2 b
 |.c n τs::l,a,b=>.c n (jz τs a.1)::fF l a.2 b
 |.n::l,a,b=>.n::fF l a.2 b
 |.w σ::l,a,b=>.w σ a.1.1 a.1.2.1 a.1.2.2 b.1::fF l a.2 b.2
 |.s f q::l,a,b=>.s f q::fF l a.2 b
def iB {r:Type}:(ps:List g7)->jA ps r->r
 |[],b=>b
 |.m _::l,b=>iB l b.2
 |.w _::l,b=>iB l b.2
 |.v _::l,b=>iB l b
 |.o _::l,b=>iB l b
 |.c _ _::l,b=>iB l b
 |.n::l,b=>iB l b
 |.s _ _::l,b=>iB l b
def kH:Nat->List g7->Option axC
 |_,[]=>none
 |k,.s f l::_=>some (k,f,l)
 |k,_::r=>kH (k+1) r
theorem Hz {r:Type}:∀{k:Nat} {ps:List g7} {a:hb ps} {b:jA ps r},sr k (fF ps a b)=kH k ps
 |k,[],a,b=>rfl
 |k,p::l,a,b=>by have aT:=fun a b=>Hz (r:=r) (k:=k+1) (ps:=l) (a:=a) (b:=b);cases p<;>first|exact aT _ _|rfl
def be (E:eI) (F:bg):Prop:=
 (∀(vs:Array Value) (w:World),(callFunc F.f vs).run E.P w=.ok (.enter F.f vs) w)/\∀a b,F.m8 a=some b->wv E F.f (fF F.ps a b) (jz F.rs (iB F.ps b))
def hO:(τ:aq)->τ.den->List bw->(τ':aq)->Option τ'.den
 |_,x,[],τ'=>h1 τ' x
 |.osl t,xs,.idx i::p,τ'=>match xs[i]? with
  |some e=>hO t e p τ'
  |none=>none
 |.optr t,x,.deref::p,τ'=>hO t x p τ'
 |.st t,x,.unst::p,τ'=>hO t x p τ'
 |.pr a _,x,.fst::p,τ'=>hO a x.1 p τ'
 |.pr _ b,x,.snd::p,τ'=>hO b x.2 p τ'
 |_,_,_,_=>none
theorem aj5 {τ:aq} {x:τ.den} {τ':aq}:hO τ x [] τ'=h1 τ' x:=by cases τ<;>rfl
theorem jb:∀{p:List bw} {τ:aq} {x:τ.den} {τ':aq} {y:τ'.den},hO τ x p τ'=some y->dr τ x p τ' y
 |[],τ,x,τ',y,h=>by rw[aj5] at h;cases ll h;exact dr.fH.2 ⟨rfl,rfl⟩
 |s::p,τ,x,τ',y,h=>by
  cases τ<;>cases s<;>simp only[hO] at h<;>try (cases h;done)
  case osl.idx t i=>
   split at h
   ·rename_i e aE;exact⟨e,aE,jb h⟩
   ·cases h
  case optr.deref t=>exact jb (τ:=t) h
  case st.unst t=>exact jb (τ:=t) h
  case pr.fst a b=>exact jb (τ:=a) h
  case pr.snd a b=>exact jb (τ:=b) h
def Dp {τ':aq} (x:τ'.den) (τ:aq):Option τ.den:=if e:dx τ' τ=true then some (cast (dx.den e) x) else none
theorem aae {τ' τ:aq} {x:τ'.den} {y:τ.den} (h:Dp x τ=some y):qj τ' x τ y:=by
 unfold Dp at h;split at h
 ·rename_i e;cases h;exact .same e (cast_heq _ _).symm
 ·cases h
def Hk:(τ':aq)->τ'.den->(τ:aq)->Option τ.den
 |.optr t,x,.ptr .ey u=>(Dp (τ':=t) x u).map some
 |_,x,τ=>Dp x τ
theorem arZ {τ' τ:aq} {x:τ'.den} {y:τ.den} (h:Hk τ' x τ=some y):qj τ' x τ y:=by
 unfold Hk at h;split at h
 ·obtain⟨z,aZ,rfl⟩:=eM.1 h;simp only[Dp] at aZ;split at aZ
  ·rename_i e;cases aZ;exact .ptr e (cast_heq _ _).symm
  ·cases aZ
 ·exact aae h
def rD:aq->Value->Bool
 |τ,.agg _=>tz τ
 |_,.tuple _=>false
 |τ,_=>!tz τ
theorem rD.ok {τ:aq} {v:Value} (h:rD τ v=true):cH τ v.cells.toList=v:=by
 cases v<;>simp only[rD] at h<;>first
  |(cases h;done)
  |(rw[MB h];rfl)
  |(rw[DX] at h;rw[MA h];rfl)
def qq (
 h:List (Nat×a1)) (S:List Nat):aw->(τ:aq)->Option τ.den
 |.val _ x,τ=>Dp x τ
 |.c5 v,τ=>bif rD τ v then js τ v.cells.toList else none
 |.ref id p,τ=>match dJ id S with
  |true=>none
  |false=>match az h id with
   |none=>none
   |some t=>match el t.1 p with
    |none=>none
    |some τ'=>match hO t.1 t.2 p τ' with
     |none=>none
     |some y=>Hk τ' y τ
 |_,_=>none
theorem Us {h:List (Nat×a1)} {S:List Nat} {av:aw} {τ:aq} {x:τ.den} (ax:qq h S av τ=some x):yB h S av ⟨τ,x⟩:=by
 cases av with
 |val τ' y=>exact aae ax
 |c5 v=>
  simp only[qq] at ax;cases aa:rD τ v with
  |false=>rw[aa] at ax;cases ax
  |true=>rw[aa] at ax;exact⟨ax,rD.ok aa⟩
 |ref id p=>
  simp only[qq] at ax;split at ax
  ·cases ax
  rename_i bB;split at ax
  ·cases ax
  rename_i t af;split at ax
  ·cases ax
  rename_i τ' lB;split at ax
  ·cases ax
  rename_i y aB;have:dJ id S=false/\∃yn τ' y,az h id=some yn/\dr yn.1 yn.2 p τ' y/\qj τ' y τ x:=⟨bB,t,τ',y,af,jb aB,arZ ax⟩;exact this
 |_=>cases ax
def rP (h:List (Nat×a1)) (S:List Nat):(τs:List aq)->List aw->Option (nE τs)
 |[],[]=>some ()
 |τ::l,av::as=>match qq h S av τ with
  |some x=>(rP h S l as).map (fun q=>(x,q))
  |none=>none
 |_,_=>none
theorem Wh {h:List (Nat×a1)} {S:List Nat}:∀{τs:List aq} {avs:List aw} {a:nE τs},rP h S τs avs=some a->i4 (yB h S) avs (jz τs a)
 |[],[],_,_=>trivial
 |[],_::_,_,ax=>by cases ax
 |_::_,[],_,ax=>by cases ax
 |τ::l,av::as,a,ax=>by
  simp only[rP] at ax;split at ax
  case h_2=>cases ax
  rename_i x ab;obtain⟨q,ai,rfl⟩:=eM.1 ax;exact⟨Us ab,Wh ai⟩
def wb:List aw->List g7->List Nat
 |.ref id []::as,.m _::bs=>id::wb as bs
 |.ref id []::as,.o _::bs=>id::wb as bs
 |.view id [] _ _::as,.w _::bs=>id::wb as bs
 |_::as,_::bs=>wb as bs
 |_,_=>[]
def xY:Value->Bool
 |.slice none 0 0=>true
 |_=>false
theorem xY.ok {v:Value} (h:xY v=true):v=.slice none 0 0:=by
 unfold xY at h;split at h
 ·rfl
 ·cases h
def G8:(τ:aq)->Value->Option τ.den
 |.osl _,.slice none 0 0=>some []
 |_,_=>none
theorem apw {τ:aq} {v:Value} {x:τ.den} (h:G8 τ v=some x):v=.slice none 0 0/\∃σ,(⟨τ,x⟩:a1)=⟨.osl σ,[]⟩:=by
 unfold G8 at h;split at h
 ·cases h;exact⟨rfl,_,rfl⟩
 ·cases h
def eN (h:List (Nat×a1)) (S:List Nat):(ps:List g7)->List aw->Option (hb ps)
 |[],[]=>some ()
 |.v τ::l,av::as=>match qq h S av τ with
  |some x=>(eN h S l as).map (fun q=>(x,q))
  |none=>none
 |.c n τs::l,.dQ m q::as=>bif Nat.beq m n then match rP h S τs q with
  |some x=>(eN h S l as).map (fun q=>(x,q))
  |none=>none else none
 |.m τ::l,.ref id []::as=>bif τ.e3&&wj τ then match az h id with
  |some t=>match h1 τ t.2 with
   |some x=>(eN h S l as).map (fun q=>(x,q))
   |none=>none
  |none=>none else none
 |.o τ::l,.ref id []::as=>match az h id with
  |some t=>match h1 τ t.2 with
   |some x=>(eN h S l as).map (fun q=>(x,q))
   |none=>none
  |none=>none
 |.n::l,.c5 v::as=>bif xY v then(eN h S l as).map (fun q=>((),q)) else none
 |.s _ _::l,_::as=>(eN h S l as).map (fun q=>((),q))
 |.o τ::l,.c5 v::as=>match G8 τ v with
  |some x=>(eN h S l as).map (fun q=>(x,q))
  |none=>none
 |.w σ::l,.view id [] lo hi::as=>bif σ.e3 then(bif Nat.blt lo hi then match az h id with
  |some t=>match h1 (.osl σ) t.2 with
   |some x=>(eN h S l as).map (fun q=>((x,lo,hi),q))
   |none=>none
  |none=>none else none) else none
 |_,_=>none
def II {aR:Type} (h:List (Nat×a1)) (S:List Nat) (av:aw) (τ:aq) (K:τ.den->Option aR):Option aR:=match av with
 |.ref id p=>match dJ id S with
  |true=>none
  |false=>match az h id with
   |none=>none
   |some t=>match el t.1 p with
    |none=>none
    |some τ'=>(hO t.1 t.2 p τ').bind fun y=>match Hk τ' y τ with
     |none=>none
     |some x=>K x
 |av=>match qq h S av τ with
  |none=>none
  |some x=>K x
theorem agu {aR:Type} {h:List (Nat×a1)} {S:List Nat} {av:aw} {τ:aq} {K:τ.den->Option aR}:II h S av τ K=(qq h S av τ).bind K:=by
 cases av with
 |ref id p=>
  simp only[II,qq];cases dJ id S with
  |true=>rfl
  |false=>
   simp only;cases az h id with
   |none=>rfl
   |some t=>
    simp only;cases el t.1 p with
    |none=>rfl
    |some τ'=>
     simp only;cases hO t.1 t.2 p τ' with
     |none=>rfl
     |some y=>
      simp only[br];cases Hk τ' y τ<;>rfl
 |
  _=>
  simp only[II];split
  ·rename_i ax;rw[ax];rfl
  ·rename_i ax;rw[ax];rfl
def kV {aR:Type} (h:List (Nat×a1)) (S:List Nat):(ps:List g7)->List aw->(hb ps->Option aR)->Option aR
 |[],[],K=>K ()
 |.v τ::l,av::as,K=>II h S av τ fun x=>kV h S l as fun q=>K (x,q)
 |.c n τs::l,.dQ m q::as,K=>bif Nat.beq m n then match rP h S τs q with
  |some x=>kV h S l as fun q=>K (x,q)
  |none=>none else none
 |.m τ::l,.ref id []::as,K=>bif τ.e3&&wj τ then match az h id with
  |some t=>match h1 τ t.2 with
   |some x=>kV h S l as fun q=>K (x,q)
   |none=>none
  |none=>none else none
 |.o τ::l,.ref id []::as,K=>match az h id with
  |some t=>match h1 τ t.2 with
   |some x=>kV h S l as fun q=>K (x,q)
   |none=>none
  |none=>none
 |.n::l,.c5 v::as,K=>bif xY v then kV h S l as fun q=>K ((),q) else none
 |.s _ _::l,_::as,K=>kV h S l as fun q=>K ((),q)
 |.o τ::l,.c5 v::as,K=>match G8 τ v with
  |some x=>kV h S l as fun q=>K (x,q)
  |none=>none
 |.w σ::l,.view id [] lo hi::as,K=>bif σ.e3 then(bif Nat.blt lo hi then match az h id with
  |some t=>match h1 (.osl σ) t.2 with
   |some x=>kV h S l as fun q=>K ((x,lo,hi),q)
   |none=>none
  |none=>none else none) else none
 |_,_,_=>none
theorem py {aR:Type} {h:List (Nat×a1)} {S:List Nat}:∀{ps:List g7} {avs:List aw} {K:hb ps->Option aR},kV h S ps avs K=(eN h S ps avs).bind K
 |[],[],K=>rfl
 |[],_::_,K=>rfl
 |p::l,[],K=>by cases p<;>rfl
 |.v τ::l,av::as,K=>by
  simp only[kV,eN,agu];cases qq h S av τ with
  |none=>rfl
  |some x=>
   simp only[br];rw[py];cases eN h S l as<;>rfl
 |.c n τs::l,av::as,K=>by
  cases av with
  |dQ m q=>
   simp only[kV,eN];cases Nat.beq m n with
   |false=>rfl
   |true=>
    simp only[cond_true];cases rP h S τs q with
    |none=>rfl
    |some x=>
     simp only;rw[py];cases eN h S l as<;>rfl
  |ref id p=>cases p<;>rfl
  |_=>rfl
 |.m τ::l,av::as,K=>by
  cases av with
  |ref id p=>
   cases p with
   |cons=>rfl
   |nil=>
    simp only[kV,eN];cases(τ.e3&&wj τ) with
    |false=>rfl
    |true=>
     simp only[cond_true];cases az h id with
     |none=>rfl
     |some t=>
      simp only;cases h1 τ t.2 with
      |none=>rfl
      |some x=>
       simp only;rw[py];cases eN h S l as<;>rfl
  |_=>rfl
 |.o τ::l,av::as,K=>by
  cases av with
  |ref id p=>
   cases p with
   |cons=>rfl
   |nil=>
    simp only[kV,eN];cases az h id with
    |none=>rfl
    |some t=>
     simp only;cases h1 τ t.2 with
     |none=>rfl
     |some x=>
      simp only;rw[py];cases eN h S l as<;>rfl
  |c5 v=>
   simp only[kV,eN];cases G8 τ v with
   |none=>rfl
   |some x=>
    simp only;rw[py];cases eN h S l as<;>rfl
  |_=>rfl
 |.w σ::l,av::as,K=>by
  cases av with
  |view id p lo hi=>
   cases p with
   |cons=>rfl
   |nil=>
    simp only[kV,eN];cases σ.e3 with
    |false=>rfl
    |true=>
     simp only[cond_true];cases Nat.blt lo hi with
     |false=>rfl
     |true=>
     simp only[cond_true];cases az h id with
     |none=>rfl
     |some t=>
      simp only;cases h1 (.osl σ) t.2 with
      |none=>rfl
      |some x=>
       simp only;rw[py];cases eN h S l as<;>rfl
  |ref id p=>cases p<;>rfl
  |_=>rfl
 |.n::l,av::as,K=>by
  cases av with
  |c5 v=>
   simp only[kV,eN];cases xY v with
   |false=>rfl
   |true=>
    simp only[cond_true];rw[py];cases eN h S l as<;>rfl
  |ref id p=>cases p<;>rfl
  |_=>rfl
 |.s f q::l,av::as,K=>by
  have e:∀x:Option (hb l),(x.bind fun q=>K ((),q))=(x.map fun q=>((),q)).bind K:=fun x=>(by cases x<;>rfl);cases av with
  |ref id p=>cases p<;>(simp only[kV,eN];rw[py];exact e _)
  |view id p lo hi=>cases p<;>(simp only[kV,eN];rw[py];exact e _)
  |_=>simp only[kV,eN];rw[py];exact e _
theorem SZ {r:Type}:∀{ps:List g7} {a:hb ps} {b:jA ps r} {avs:List aw},fd avs (fF ps a b)=wb avs ps
 |[],a,b,avs=>by cases avs with|nil=>rfl|cons x l=>cases x<;>first|rfl|(rename_i id p;cases p<;>rfl)|(rename_i id p l e;cases p<;>rfl)
 |p::l,a,b,[]=>by cases p<;>rfl
 |p::l,a,b,av::avs=>by have aT:=fun a b=>SZ (r:=r) (ps:=l) (a:=a) (b:=b) (avs:=avs);cases p<;>cases av<;>first|exact aT _ _|(rename_i id q;cases q<;>simp only[fF,fd,wb,aT];done)|(rename_i id q l e;cases q<;>simp only[fF,fd,wb,aT])
theorem s5 {r:Type} {h:List (Nat×a1)} {S:List Nat}:∀{ps:List g7} {a:hb ps} {b:jA ps r} {avs:List aw},eN h S ps avs=some a->re h S avs (fF ps a b)
 |[],a,b,[],_=>trivial
 |[],a,b,_::_,ax=>by cases ax
 |p::l,a,b,[],ax=>by cases p<;>cases ax
 |.v τ::l,a,b,av::avs,ax=>by
  simp only[eN] at ax;split at ax
  case h_2=>cases ax
  rename_i x ab;obtain⟨q,ai,rfl⟩:=eM.1 ax;exact⟨by cases av<;>exact Us ab,s5 ai⟩
 |.c n τs::l,a,b,av::avs,ax=>by
  cases av with
  |dQ m q=>
   simp only[eN] at ax;cases aa:Nat.beq m n with
   |false=>rw[aa] at ax;cases ax
   |true=>
    rw[aa] at ax;obtain rfl:=eZ aa;simp only[cond_true] at ax;split at ax
    case h_2=>cases ax
    rename_i x ab;obtain⟨gH,ai,rfl⟩:=eM.1 ax;exact⟨⟨rfl,Wh ab⟩,s5 ai⟩
  |ref id p=>cases p<;>cases ax
  |_=>cases ax
 |.m τ::l,a,b,av::avs,ax=>by
  cases av with
  |ref id p=>cases p with
   |cons=>cases ax
   |nil=>
    simp only[eN] at ax;cases aa:(τ.e3&&wj τ) with
    |false=>rw[aa] at ax;cases ax
    |true=>
     rw[aa] at ax;simp only[bM] at aa;simp only[cond_true] at ax;split at ax
     case h_2=>cases ax
     rename_i t af;split at ax
     case h_2=>cases ax
     rename_i x ab;obtain⟨q,ai,rfl⟩:=eM.1 ax;refine⟨⟨?_,aa.1,aa.2⟩,s5 ai⟩;rw[af,<-ll ab]
  |_=>cases ax
 |.o τ::l,a,b,av::avs,ax=>by
  cases av with
  |ref id p=>cases p with
   |cons=>cases ax
   |nil=>
    simp only[eN] at ax;split at ax
    case h_2=>cases ax
    rename_i t af;split at ax
    case h_2=>cases ax
    rename_i x ab;obtain⟨q,ai,rfl⟩:=eM.1 ax;refine⟨?_,s5 ai⟩;show az h id=some _;rw[af,<-ll ab]
  |c5 v=>
   simp only[eN] at ax;split at ax
   case h_2=>cases ax
   rename_i x ab;obtain⟨q,ai,rfl⟩:=eM.1 ax;exact⟨apw ab,s5 ai⟩
  |_=>cases ax
 |.w σ::l,a,b,av::avs,ax=>by
  cases av with
  |view id p lo hi=>cases p with
   |cons=>cases ax
   |nil=>
    simp only[eN] at ax;cases aa:σ.e3 with
    |false=>rw[aa] at ax;cases ax
    |true=>
     rw[aa] at ax;simp only[cond_true] at ax;cases ah:Nat.blt lo hi with
     |false=>rw[ah] at ax;cases ax
     |true=>
     rw[ah] at ax;simp only[cond_true] at ax;split at ax
     case h_2=>cases ax
     rename_i t af;split at ax
     case h_2=>cases ax
     rename_i x ab;obtain⟨q,ai,rfl⟩:=eM.1 ax;refine⟨⟨?_,⟨rfl,rfl⟩,fw ah,aa⟩,s5 ai⟩;rw[af,<-ll ab]
  |ref id p=>cases p<;>cases ax
  |_=>cases ax
 |.n::l,a,b,av::avs,ax=>by
  cases av with
  |c5 v=>
   simp only[eN] at ax;cases aa:xY v with
   |false=>rw[aa] at ax;cases ax
   |true=>
    rw[aa] at ax;obtain⟨q,ai,rfl⟩:=eM.1 ax;exact⟨xY.ok aa,s5 ai⟩
  |ref id p=>cases p<;>cases ax
  |_=>cases ax
 |.s f q::l,a,b,av::avs,ax=>by
  have ax:(eN h S l avs).map (fun x=>(((),x):hb (.s f q::l)))=some a:=by
   cases av with
   |ref id p=>cases p<;>exact ax
   |view id p lo hi=>cases p<;>exact ax
   |_=>exact ax
  obtain⟨x,ai,rfl⟩:=eM.1 ax;refine⟨?_,s5 ai⟩;cases av with
  |ref id p=>cases p<;>trivial
  |view id p lo hi=>cases p<;>trivial
  |_=>trivial
end
section
def ow:(τ:aq)->τ.den->List bw->(τ':aq)->τ'.den->Option τ.den
 |τ,_,[],_,y=>h1 τ y
 |.osl t,xs,.idx i::p,τ',y=>match xs[i]? with
  |some e=>(ow t e p τ' y).map fun dy=>xs.set i dy
  |none=>none
 |.optr t,x,.deref::p,τ',y=>ow t x p τ' y
 |.st t,x,.unst::p,τ',y=>ow t x p τ' y
 |.pr a _,x,.fst::p,τ',y=>(ow a x.1 p τ' y).map fun dy=>(dy,x.2)
 |.pr _ b,x,.snd::p,τ',y=>(ow b x.2 p τ' y).map fun dy=>(x.1,dy)
 |_,_,_,_,_=>none
theorem atJ {τ:aq} {x:τ.den} {τ':aq} {y:τ'.den}:ow τ x [] τ' y=h1 τ y:=by cases τ<;>rfl
theorem ea.apm {τ:aq} {x:τ.den} {τ':aq} {y:τ'.den} {z:τ.den} (h:h1 τ y=some z):ea τ x [] τ' y z:=by cases ll h;cases τ<;>exact⟨rfl,rfl⟩
theorem o8:∀{p:List bw} {τ:aq} {x:τ.den} {τ':aq} {y:τ'.den} {z:τ.den},ow τ x p τ' y=some z->ea τ x p τ' y z
 |[],τ,x,τ',y,z,h=>by rw[atJ] at h;exact ea.apm h
 |s::p,τ,x,τ',y,z,h=>by
  cases τ<;>cases s<;>simp only[ow] at h<;>try (cases h;done)
  case osl.idx t i=>
   split at h
   ·rename_i e aE;obtain⟨dy,J,rfl⟩:=eM.1 h;exact⟨e,dy,aE,o8 J,rfl⟩
   ·cases h
  case optr.deref t=>exact o8 (τ:=t) h
  case st.unst t=>exact o8 (τ:=t) h
  case pr.fst a b=>
   obtain⟨dy,J,rfl⟩:=eM.1 h;exact⟨dy,o8 J,rfl⟩
  case pr.snd a b=>
   obtain⟨dy,J,rfl⟩:=eM.1 h;exact⟨dy,o8 J,rfl⟩
def hp (i:Int):Option Nat:=if 0<=i then some i.toNat else none
theorem apa {i:Int} {k:Nat} (h:hp i=some k):i=(k:Int):=by
 unfold hp at h;split at h
 ·cases h;omega
 ·cases h
def cV (n:Nat) (i:Int):Option Nat:=if 0<=i/\i.toNat<n then some i.toNat else none
theorem XT {n:Nat} {i:Int} {k:Nat} (h:cV n i=some k):i=(k:Int)/\k<n:=by
 unfold cV at h;split at h
 ·cases h;omega
 ·cases h
def dA (n:Nat):Option Unit:=if n<=gv then some () else none
theorem C5 {n:Nat} {u:Unit} (h:dA n=some u):n<=gv:=by
 unfold dA at h;split at h
 ·assumption
 ·cases h
def j8 (k:IntKind) (x y:Int):Option Int:=if y≠0 then some (k.wrap (x.tdiv y)) else none
def jB (x y:Int):Option Int:=if y≠0 then some (x.tmod y) else none
def iE (k:IntKind) (x y:Int):Option Int:=if 0<=y then some (k.wrap (x*2^min y.toNat k.bits)) else none
def ec (k:IntKind) (x y:Int):Option Int:=if 0<=y then some (x.fdiv (2^min y.toNat k.bits)) else none
def eg (k:IntKind) (x y:Int):Int:=k.wrap (BitVec.ofInt k.bits x&&&BitVec.ofInt k.bits y).toNat
def fr (k:IntKind) (x y:Int):Int:=k.wrap (BitVec.ofInt k.bits x|||BitVec.ofInt k.bits y).toNat
def yv (k:IntKind) (x y:Int):Int:=k.wrap (BitVec.ofInt k.bits x^^^BitVec.ofInt k.bits y).toNat
def agi (k:IntKind) (x y:Int):Int:=k.wrap (BitVec.ofInt k.bits x&&&~~~BitVec.ofInt k.bits y).toNat
def BS (x:Option aw) (d:Nat):Option Nat:=
 match x with
 |none=>some d
 |some (.val (.int _) i)=>hp i
 |some _=>none
theorem IR {x:Option aw} {d k:Nat} (h:BS x d=some k):wT x d k:=by
 unfold BS at h;unfold wT;split at h
 ·cases h;rfl
 ·exact apa h
 ·cases h
def ia (l h n:Nat):Option Unit:=if l<=h/\h<=n then some () else none
theorem Yp {l h n:Nat} {u:Unit} (ax:ia l h n=some u):l<=h/\h<=n:=by
 unfold ia at ax;split at ax
 ·assumption
 ·cases ax
def Mo (_:Nat):Option Unit:=some ()
def gG (l c:Int):Option Nat:=if 0<=l/\l<=c/\c<=(gv:Int) then some l.toNat else none
open Classical in
def qP {aR:Type} (n:Nat) (x y:Option aR):Option aR:=if n=0 then if x=y then y else none else y
theorem apk {aR:Type} {n:Nat} {x y:Option aR} {r:aR} (h:qP n x y=some r):y=some r/\(n=0->x=some r):=by
 unfold qP at h;split at h
 ·split at h
  ·rename_i e;exact⟨h,fun _=>e.trans h⟩
  ·cases h
 ·rename_i e;exact⟨h,fun aV=>absurd aV e⟩
def sY:List Int:=[0,1,28,2,29,14,24,3,30,22,20,15,25,17,4,8,31,27,13,23,21,19,16,7,26,12,18,6,11,5,10,9]
inductive Nq where
 |d2 (av:aw)
 |opt (α:Type) (o:Option α) (f:α->aw)
 |new (α:Type) (o:Option α) (t:α->a1) (d:Nat)
 |no
def lr (tt:List (TypeId×aq)) (an:List (Nat×aq)) (h:List (Nat×a1)) (g:Operand->aw) (d:Nat) (op:Op):Nq:=
 match op with
 |.binOp op _ x y _=>match g x,g y with
  |.val (.int k) x,.val (.int cN) y=>if k=cN then
   (match op with
   |.add=>.d2 (.val (.int k) (k.wrap (x+y)))
   |.sub=>.d2 (.val (.int k) (k.wrap (x-y)))
   |.mul=>.d2 (.val (.int k) (k.wrap (x*y)))
   |.quo=>.opt Int (j8 k x y) (.val (.int k))
   |.rem=>.opt Int (jB x y) (.val (.int k))
   |.shl=>.opt Int (iE k x y) (.val (.int k))
   |.shr=>.opt Int (ec k x y) (.val (.int k))
   |.and=>.d2 (.val (.int k) (eg k x y))
   |.or=>.d2 (.val (.int k) (fr k x y))
   |.xor=>.d2 (.val (.int k) (yv k x y))
   |.andNot=>.d2 (.val (.int k) (agi k x y))
   |_=>.no) else
   (match op with
   |.shl=>.opt Int (iE k x y) (.val (.int k))
   |.shr=>.opt Int (ec k x y) (.val (.int k))
   |_=>.no)
  |_,_=>.no
 |.unOp .neg _ x=>match g x with
  |.val (.int k) x=>.d2 (.val (.int k) (k.wrap (0-x)))
  |_=>.no
 |.convert s e x=>match az tt s,az tt e,g x with
  |some (.int _),some (.int k),.val (.int _) x=>.d2 (.val (.int k) (k.wrap x))
  |_,_,_=>.no
 |.nilCheck x=>match g x with
  |.val (.ptr m t) x=>.opt t.den x fun y=>.val (.ptr m t) (some y)
  |_=>.no
 |.indexAddr T x i=>match fU tt T,g i with
  |some u,.val (.int _) i=>match g x with
   |.val (.bJ m t) xs=>bif bF u t then .opt t.den (bb xs i) fun y=>.val (.ptr m t) (some y) else .no
   |.ref id p=>match az h id with
    |some b5=>match el b5.1 p with
     |some (.osl t)=>bif bF u t then .opt Nat ((hO b5.1 b5.2 p (.osl t)).bind fun xs=>cV xs.length i) fun k=>.addr id (p++[.idx k]) else .no
     |_=>.no
    |none=>.no
   |.view id [] lo hi=>match az h id with
    |some b5=>match b5.1 with
     |.osl t=>bif bF u t then .opt Nat (cV (hi-lo) i) fun k=>.addr id [.idx (lo+k)] else .no
     |_=>.no
    |none=>.no
   |_=>.no
  |_,_=>.no
 |.load T x=>match az tt T with
  |some u=>match g x with
   |.addr id p=>match az h id with
    |some b5=>match el b5.1 p with
     |some t=>bif bF u t&&t.pure then .opt t.den (hO b5.1 b5.2 p t) fun y=>.val t y else .no
     |none=>.no
    |none=>.no
   |.ref id p=>match az h id with
    |some b5=>match el b5.1 p with
     |some (.optr t)=>bif bF u t&&t.pure then .opt t.den (hO b5.1 b5.2 (p++[.deref]) t) fun y=>.val t y else .no
     |_=>.no
    |none=>.no
   |.val (.ptr _ t) x=>bif bF u t then .opt t.den x fun y=>.val t y else .no
   |_=>.no
  |none=>.no
 |.fieldAddr T x n=>match m0 tt T,g x with
  |some u,.val (.ptr m (.st t)) x=>bif bF u t&&(ez t n).isSome then .opt t.den x fun y=>(match uX t y n with
   |some q=>.val (.ptr m q.1) (some q.2)
   |none=>.dead) else .no
  |_,_=>.no
 |.slice T x lo hi none=>match fU tt T with
  |some u=>match g x with
   |.val (.bJ m t) xs=>bif bF u t then
    .opt axM ((BS (lo.map g) 0).bind fun l=>(BS (hi.map g) xs.length).bind fun e=>(ia l e xs.length).map fun _=>(l,e)) (fun q=>.val (.bJ m t) ((xs.take q.2).drop q.1)) else .no
   |.ref id p=>match az h id with
    |some b5=>match el b5.1 p with
     |some (.osl t)=>bif bF u t then
      .opt axM ((hO b5.1 b5.2 p (.osl t)).bind fun xs=>(BS (lo.map g) 0).bind fun l=>(BS (hi.map g) xs.length).bind fun e=>(ia l e xs.length).bind fun _=>(Mo xs.length).map fun _=>(l,e)) (fun q=>.view id p q.1 q.2) else .no
     |_=>.no
    |none=>.no
   |_=>.no
  |none=>.no
 |.makeSlice T l c=>match fU tt T,az an d,az h d with
  |some u,some (.osl t),none=>match nL t,g l,g c with
   |some z,.val (.int _) l,.val (.int _) c=>bif bF u t&&Nat.ble t.size 2000 then
    .new Nat (gG l c) (fun n=>⟨.osl t,List.replicate n z⟩) d else .no
   |_,_,_=>.no
  |_,_,_=>.no
 |.index T x i=>match az tt T,g x,g i with
  |some .str,.c5 (.string s),.val (.int _) n=>.opt Int (t6 s n) (.val (.int .u8))
  |some .str,.val .str s,.val (.int _) n=>.opt Int (t6 s n) (.val (.int .u8))
  |_,_,_=>.no
 |.lookup T x k ok=>match mb tt T,g x,g k with
  |some u,.ref id p,.val (.int .i64) k=>match az h id with
   |some b5=>match el b5.1 p with
    |some (.mp t)=>match nL t with
     |some z=>bif bF u t then .opt (Option (List (Int×t.den)×Nat)) (hO b5.1 b5.2 p (.mp t)) fun fW=>LS t fW z k ok else .no
     |none=>.no
    |_=>.no
   |none=>.no
  |_,_,_=>.no
 |.call c=>match c.callee,c.args.toList,c.argTypes.toList with
  |.builtin .len,[x],[T]=>match fU tt T,g x with
   |some _,.ref id p=>match az h id with
    |some b5=>match el b5.1 p with
     |some (.osl t)=>.opt (List t.den) (hO b5.1 b5.2 p (.osl t)) fun xs=>.val (.int .i64) (xs.length:Int)
     |_=>.no
    |none=>.no
   |none,.ref id p=>match mb tt T,az h id with
    |some _,some b5=>match el b5.1 p with
     |some (.mp t)=>.opt (Option (List (Int×t.den)×Nat)) (hO b5.1 b5.2 p (.mp t)) fun fW=>.val (.int .i64) (C8 fW)
     |_=>.no
    |_,_=>.no
   |_,_=>.no
  |_,_,_=>.no
 |_=>.no
theorem V1:∀{t:aq} {y:t.den} {n:Nat},(ez t n).isSome=true->∃q,uX t y n=some q
 |.pr a b,y,0,_=>⟨_,rfl⟩
 |.pr a b,y,n+1,h=>by
  simp only[ez] at h;split at h
  ·rename_i q ai;exact V1 (t:=b) (by rw[ai];rfl)
  ·cases h
 |.int _,_,_,h=>by cases h
 |.bool,_,_,h=>by cases h
 |.str,_,_,h=>by cases h
 |.bJ _ _,_,_,h=>by cases h
 |.ptr _ _,_,_,h=>by cases h
 |.osl _,_,_,h=>by cases h
 |.optr _,_,_,h=>by cases h
 |.st _,_,_,h=>by cases h
 |.nil,_,_,h=>by cases h
 |.dw,_,_,h=>by cases h
def Nq.K (r:Nq) (Q:aw->List (Nat×a1)->Prop):Prop:=
 match r with
 |.d2 av=>Q av []
 |.opt _ o f=>∃y,o=some y/\Q (f y) []
 |.new _ o t d=>∃y,o=some y/\Q (.ref d []) [(d,t y)]
 |.no=>False
theorem OL {tt:List (TypeId×aq)} {an:List (Nat×aq)} {h:List (Nat×a1)} {g:Operand->aw} {d:Nat} {op:Op} {Q:aw->List (Nat×a1)->Prop} (ax:(lr tt an h g d op).K Q):(gr tt an h g d op).K Q:=by
 unfold lr at ax;split at ax
 ·rename_i op T x y li;simp only[gr];split at ax
  case h_2=>exact ax.elim
  rename_i k x cN y ex i9;simp only[ex,i9];split at ax
  ·rename_i e;subst e;split at ax
   ·simp only[nl,if_true];exact⟨_,⟨trivial,rfl⟩,ax⟩
   ·simp only[nl,if_true];exact⟨_,⟨trivial,rfl⟩,ax⟩
   ·simp only[nl,if_true];exact⟨_,⟨trivial,rfl⟩,ax⟩
   ·obtain⟨z,aZ,ai⟩:=ax;unfold j8 at aZ;split at aZ
    ·rename_i aB;cases aZ;simp only[nl,if_true];exact⟨_,⟨aB,rfl⟩,ai⟩
    ·cases aZ
   ·obtain⟨z,aZ,ai⟩:=ax;unfold jB at aZ;split at aZ
    ·rename_i aB;cases aZ;simp only[nl,if_true];exact⟨_,⟨aB,rfl⟩,ai⟩
    ·cases aZ
   ·obtain⟨z,aZ,ai⟩:=ax;unfold iE at aZ;split at aZ
    ·rename_i aB;cases aZ;exact⟨_,⟨aB,rfl⟩,ai⟩
    ·cases aZ
   ·obtain⟨z,aZ,ai⟩:=ax;unfold ec at aZ;split at aZ
    ·rename_i aB;cases aZ;exact⟨_,⟨aB,rfl⟩,ai⟩
    ·cases aZ
   ·simp only[nl,if_true];exact⟨_,⟨trivial,rfl⟩,ax⟩
   ·simp only[nl,if_true];exact⟨_,⟨trivial,rfl⟩,ax⟩
   ·simp only[nl,if_true];exact⟨_,⟨trivial,rfl⟩,ax⟩
   ·simp only[nl,if_true];exact⟨_,⟨trivial,rfl⟩,ax⟩
   ·exact ax.elim
  ·split at ax
   ·obtain⟨z,aZ,ai⟩:=ax;unfold iE at aZ;split at aZ
    ·rename_i aB;cases aZ;exact⟨_,⟨aB,rfl⟩,ai⟩
    ·cases aZ
   ·obtain⟨z,aZ,ai⟩:=ax;unfold ec at aZ;split at aZ
    ·rename_i aB;cases aZ;exact⟨_,⟨aB,rfl⟩,ai⟩
    ·cases aZ
   ·exact ax.elim
 ·rename_i T x;simp only[gr];split at ax
  case h_2=>exact ax.elim
  rename_i k x ex;rw[ex];exact⟨_,rfl,ax⟩
 ·rename_i s e x;simp only[gr,I1];split at ax
  case h_2=>exact ax.elim
  rename_i cN k bE x aC aV ex;rw[aC,aV,ex];exact⟨_,rfl,ax⟩
 ·rename_i x;simp only[gr,AG];split at ax
  case h_2=>exact ax.elim
  rename_i m t x ex;rw[ex];obtain⟨y,rfl,ai⟩:=ax;exact⟨y,rfl,ai⟩
 ·rename_i T x i;simp only[gr,Al];split at ax
  case h_2=>exact ax.elim
  rename_i u k i aC aV;rw[aC,aV];simp only;split at ax
  ·rename_i m t xs ex;rw[ex];simp only;cases aa:bF u t with
   |false=>rw[aa] at ax;exact ax.elim
   |true=>
   rw[aa] at ax;obtain⟨y,aB,ai⟩:=ax;exact⟨y,aB,ai⟩
  ·rename_i id p ex;rw[ex];simp only;split at ax
   case h_2=>exact ax.elim
   rename_i b5 af;rw[af];simp only;split at ax
   case h_2=>exact ax.elim
   rename_i t lB;rw[lB];simp only;cases aa:bF u t with
   |false=>rw[aa] at ax;exact ax.elim
   |true=>
   rw[aa] at ax;obtain⟨y,aB,ai⟩:=ax;obtain⟨xs,ab,aB⟩:=dk.1 aB;obtain⟨J,R⟩:=XT aB;exact⟨(xs,y),⟨jb ab,J,R⟩,ai⟩
  ·rename_i id lo hi ex;rw[ex];simp only;split at ax
   case h_2=>exact ax.elim
   rename_i b5 af;obtain⟨τ,x⟩:=b5;rw[af];simp only at ax|-;split at ax
   case h_2=>exact ax.elim
   rename_i t;simp only[el];cases aa:bF u t with
   |false=>rw[aa] at ax;exact ax.elim
   |true=>
   rw[aa] at ax;obtain⟨k,ac,ai⟩:=ax;obtain⟨J,R⟩:=XT ac;exact⟨(x,k),⟨⟨rfl,rfl⟩,J,R⟩,ai⟩
  ·exact ax.elim
 ·rename_i T x;simp only[gr,Au];split at ax
  case h_2=>exact ax.elim
  rename_i u aC;rw[aC];simp only;split at ax
  ·rename_i id p ex;rw[ex];simp only;split at ax
   case h_2=>exact ax.elim
   rename_i b5 af;rw[af];simp only;split at ax
   case h_2=>exact ax.elim
   rename_i t lB;rw[lB];simp only[AT];cases aa:(bF u t&&t.pure) with
   |false=>rw[aa] at ax;exact ax.elim
   |true=>
   rw[aa] at ax;simp only[bM] at aa;rw[aa.1,aa.2];obtain⟨y,aB,ai⟩:=ax;exact⟨y,jb aB,ai⟩
  ·rename_i id p ex;rw[ex];simp only;split at ax
   case h_2=>exact ax.elim
   rename_i b5 af;rw[af];simp only;split at ax
   case h_2=>exact ax.elim
   rename_i t lB;rw[lB];simp only[AT];cases aa:(bF u t&&t.pure) with
   |false=>rw[aa] at ax;exact ax.elim
   |true=>
   rw[aa] at ax;simp only[bM] at aa;rw[aa.1,aa.2];obtain⟨y,aB,ai⟩:=ax;exact⟨y,jb aB,ai⟩
  ·rename_i m t x ex;rw[ex];cases aa:bF u t with
   |false=>rw[aa] at ax;exact ax.elim
   |true=>
   rw[aa] at ax;obtain⟨y,rfl,ai⟩:=ax;simp only[aa,cond_true];exact ai
  ·exact ax.elim
 ·rename_i T x n;simp only[gr,zN];split at ax
  case h_2=>exact ax.elim
  rename_i u m t x aC ex;rw[aC,ex];cases aa:(bF u t&&(ez t n).isSome) with
  |false=>rw[aa] at ax;exact ax.elim
  |true=>
  rw[aa] at ax;simp only[bM] at aa;obtain⟨y,rfl,ai⟩:=ax;obtain⟨q,aF⟩:=V1 (y:=y) aa.2;simp only[aF] at ai;simp only[aa.1,cond_true,aF];exact ai
 ·rename_i T x lo hi;simp only[gr,A6];split at ax
  case h_2=>exact ax.elim
  rename_i u aC;rw[aC];simp only;split at ax
  ·rename_i m t xs ex;rw[ex];simp only;cases aa:bF u t with
   |false=>rw[aa] at ax;exact ax.elim
   |true=>
   rw[aa] at ax;obtain⟨y,aB,ai⟩:=ax;obtain⟨l,ah,aB⟩:=dk.1 aB;obtain⟨e,aE,aB⟩:=dk.1 aB;obtain⟨v,hv,rfl⟩:=eM.1 aB;obtain⟨J,R⟩:=Yp hv;exact⟨(l,e),⟨IR ah,IR aE,J,R⟩,ai⟩
  ·rename_i id p ex;rw[ex];simp only;split at ax
   case h_2=>exact ax.elim
   rename_i b5 af;rw[af];simp only;split at ax
   case h_2=>exact ax.elim
   rename_i t lB;rw[lB];simp only;cases aa:bF u t with
   |false=>rw[aa] at ax;exact ax.elim
   |true=>
   rw[aa] at ax;obtain⟨y,aB,ai⟩:=ax;obtain⟨xs,ab,aB⟩:=dk.1 aB;obtain⟨l,ah,aB⟩:=dk.1 aB;obtain⟨e,aE,aB⟩:=dk.1 aB;obtain⟨v,hv,aB⟩:=dk.1 aB;obtain⟨f0,lA,rfl⟩:=eM.1 aB;obtain⟨J,R⟩:=Yp hv;exact⟨(xs,l,e),⟨jb ab,IR ah,IR aE,J,R⟩,ai⟩
  ·exact ax.elim
 ·rename_i T l c;simp only[gr,AA];split at ax
  case h_2=>exact ax.elim
  rename_i u t aC aV b4;rw[aC,aV,b4];simp only;split at ax
  case h_2=>exact ax.elim
  rename_i z k l cN c fo pw uR;rw[fo,pw,uR];simp only;cases aa:(bF u t&&Nat.ble t.size 2000) with
  |false=>rw[aa] at ax;exact ax.elim
  |true=>
  rw[aa] at ax;obtain⟨y,aB,ai⟩:=ax;unfold gG at aB;split at aB
  ·rename_i hc;cases aB;exact⟨(l.toNat,c.toNat),⟨(Int.toNat_of_nonneg hc.1).symm,(Int.toNat_of_nonneg (Int.le_trans hc.1 hc.2.1)).symm,by show l.toNat<=c.toNat;omega,by show c.toNat<=gv;omega⟩,ai⟩
  ·cases aB
 ·rename_i T x i;simp only[gr,MU];split at ax
  ·rename_i s k n aC aV b4;rw[aC,aV,b4];obtain⟨b,aa,ai⟩:=ax;exact⟨b,aa,ai⟩
  ·rename_i s k n aC aV b4;rw[aC,aV,b4];obtain⟨b,aa,ai⟩:=ax;exact⟨b,aa,ai⟩
  ·exact ax.elim
 ·rename_i T x k ok;simp only[gr,Av];split at ax
  case h_2=>exact ax.elim
  rename_i u id p k aC aV b4;rw[aC,aV,b4];simp only;split at ax
  case h_2=>exact ax.elim
  rename_i b5 af;rw[af];simp only;split at ax
  case h_2=>exact ax.elim
  rename_i t lB;rw[lB];simp only;split at ax
  case h_2=>exact ax.elim
  rename_i z aZ;rw[aZ];simp only;cases aa:bF u t with
  |false=>rw[aa] at ax;exact ax.elim
  |true=>
  rw[aa] at ax;obtain⟨y,aB,ai⟩:=ax;exact⟨y,jb aB,ai⟩
 ·rename_i c;simp only[gr];split at ax
  ·rename_i x T aC aV b4;rw[aC,aV,b4];simp only;split at ax
   ·rename_i u id p fo pw;rw[fo,pw];simp only[At,fo];split at ax
    case h_2=>exact ax.elim
    rename_i b5 af;rw[af];simp only;split at ax
    case h_2=>exact ax.elim
    rename_i t lB;rw[lB];obtain⟨y,aB,ai⟩:=ax;exact⟨y,jb aB,ai⟩
   ·rename_i id p fo pw;rw[fo,pw];simp only[AD];split at ax
    case h_2=>exact ax.elim
    rename_i u b5 uR af;rw[uR,af];simp only;split at ax
    case h_2=>exact ax.elim
    rename_i t lB;rw[lB];obtain⟨y,aB,ai⟩:=ax;exact⟨y,jb aB,ai⟩
   ·exact ax.elim
  ·exact ax.elim
 ·exact ax.elim
def mI {α:Type} (xs aS:List α) (lo hi:Nat):List α:=xs.take lo++(aS.take (hi-lo)++xs.drop (lo+min aS.length (hi-lo)))
end
section
def Gj:aw->Bool
 |.val _ _=>true
 |_=>false
def QM:aw->Bool
 |.val _ _=>true
 |.dQ _ l=>l.all Gj
 |_=>false
theorem QN {a:aw} (h:QM a=true):∀id∈a.ids,False:=by
 intro id bh;cases a with
 |val τ x=>simp[aw.ids] at bh
 |dQ f l=>
  have h:l.all Gj=true:=h;have:∀l:List aw,l.all Gj=true->∀id∈aw.qI l,False:=by
   intro l
   induction l with
   |nil=>intro _ id bh;simp[aw.qI] at bh
   |cons a l aT=>
    intro h id bh;simp only[yH,bM] at h;simp only[aw.qI,fe] at bh;rcases bh with bh|bh
    ·cases a with
     |val τ x=>simp[aw.ids] at bh
     |_=>cases h.1
    ·exact aT h.2 id bh
  exact this l h id bh
 |_=>cases h
def sI (C:dZ) (kg:List (Nat×aw)):Prop:=
 (∀b,C.I0 b\/C.B b->b<C.w0.heap.size/\¬C.F0 b)/\
 ∀q∈kg,q.1∈C.pin/\QM q.2=true/\cw (bK C.I0 C.B) C.w0 [] (fun _=>[]) (fun _=>[]) q.2 (C.vs q.1)
section
variable {E:eI} {C:dZ}
theorem sI.nil (h:∀b,C.I0 b\/C.B b->b<C.w0.heap.size/\¬C.F0 b):sI C []:=⟨h,fun q h=>by cases h⟩
theorem akc (l g:List (Nat×aw)) (k:Nat):gt (l++g) k=match az l k with|some v=>v|none=>gt g k:=by unfold gt;rw[k1];cases az l k<;>rfl
theorem GN {α:Type}:∀{l:List (Nat×α)} {k:Nat} {v:α},az l k=some v->(k,v)∈l
 |[],_,_,h=>by cases h
 |(k0,v0)::l,k,v,h=>by
  rw[db] at h;split at h
  ·rename_i e;cases h;subst e;exact mB ..
  ·exact f6 _ (GN h)
theorem f7.kg {kg:List (Nat×aw)} (ac:sI C kg) {st:ba} {bY:Array Value} {w:World} (h:f7 C st bY w):f7 C ⟨kg++st.g,st.h⟩ bY w:=by
 obtain⟨I,rt,fp,ar⟩:=h;refine⟨I,rt,fp,{ar with tmp:=fun k=>?_}⟩;show cw _ _ _ _ _ (gt (kg++st.g) k) _;rw[akc];split
 ·rename_i av ah;obtain⟨J,R,ae⟩:=ac.2 _ (GN ah);have ae:cw (bK C.I0 C.B) C.w0 [] (fun _=>[]) (fun _=>[]) av (C.vs k):=ae;rw[ar.pin k J];refine ae.xU (fun m b ao=>?_) (fun id bh=>(QN R id bh).elim);have aa:C.I0 b\/C.B b:=pQ ao;obtain⟨aK,aL⟩:=ac.1 b aa;refine⟨?_,c3.of_heap (ar.frame b aK aL)⟩;cases m
  ·exact ar.i0 b ao
  ·exact ao.imp (ar.i0 b) id
 ·exact ar.tmp k
theorem c2.kg {kg:List (Nat×aw)} (ac:sI C kg) {c:Code} {st:ba} {Q:Exit->ba->Prop} (h:c2 E C c ⟨kg++st.g,st.h⟩ Q):c2 E C c st Q:=
 fun a w ar aN=>h a w (ar.kg ac) aN
def xF (g:List (Nat×aw)):List Nat->Option (List (Nat×aw))
 |[]=>some []
 |k::l=>match gt g k with
  |.val τ x=>(xF g l).map fun r=>(k,.val τ x)::r
  |.dQ f q=>bif q.all Gj then(xF g l).map fun r=>(k,.dQ f q)::r else none
  |_=>none
theorem QF {g:List (Nat×aw)}:∀{l:List Nat} {r:List (Nat×aw)},xF g l=some r->∀q∈r,q.1∈l/\QM q.2=true/\gt g q.1=q.2
 |[],r,h,q,ai=>by cases h;cases ai
 |k::l,r,h,q,ai=>by
  simp only[xF] at h;split at h
  ·rename_i τ x ab;obtain⟨r',hr,rfl⟩:=eM.1 h;rcases dV.1 ai with rfl|ai
   ·exact⟨mB ..,rfl,ab⟩
   ·obtain⟨J,R⟩:=QF hr q ai;exact⟨f6 _ J,R⟩
  ·rename_i f p ab;cases aa:p.all Gj with
   |false=>rw[aa] at h;cases h
   |true=>
   rw[aa] at h;obtain⟨r',hr,rfl⟩:=eM.1 h;rcases dV.1 ai with rfl|ai
   ·exact⟨mB ..,aa,ab⟩
   ·obtain⟨J,R⟩:=QF hr q ai;exact⟨f6 _ J,R⟩
  ·cases h
theorem c2.keep {c:Code} {st:ba} {kg r:List (Nat×aw)} {CZ:List Nat} {Q:Exit->ba->Prop} (ac:sI C kg) (hr:xF st.g CZ=some r) (h:∀nc:dZ,nc.n=C.n->nc.pin=CZ++C.pin->sI nc (r++kg)->(∀s,yT C s->yT nc s)->(mu E C.I0 C.w0->mu E nc.I0 nc.w0)->c2 E nc c st Q):c2 E C c st Q:=by
 rintro a w ⟨I,rt,fp,ar⟩ aN
 let nc:dZ:={I0:=I,B:=C.B,F0:=fun b=>∃id t,az st.h id=some t/\b∈fp id,w0:=w,n:=C.n,pin:=CZ++C.pin,vs:=fun k=>a.tmps.getD k undef}
 have ev:cc nc st a.tmps w I rt fp:=
  {n:=ar.n,i0:=fun _ h=>h,i1:=fun _ h=>.inl h,ib:=ar.ib,tree:=fun id t af=>⟨(ar.tree id t af).1,(ar.tree id t af).2.1,fun b aa=>⟨((ar.tree id t af).2.2 b aa).1,((ar.tree id t af).2.2 b aa).2.1,((ar.tree id t af).2.2 b aa).2.2.1,.inr ⟨id,t,af,aa⟩⟩⟩,dis:=ar.dis,tmp:=ar.tmp,frame:=fun _ _ _=>rfl,evo:=fun _ _=>.refl _ _,size:=bS _,os:=rfl,tape:=rfl,output:=rfl,pin:=fun k _=>rfl}
 have PO:sI nc (r++kg):=by
  refine⟨fun b aa=>⟨ar.ib b aa,?_⟩,fun q ai=>?_⟩
  ·rintro⟨id,t,af,zW⟩;obtain⟨aK,aL,_⟩:=(ar.tree id t af).2.2 b zW;exact aa.elim aK aL
  ·rcases fe.1 ai with ai|ai
   ·obtain⟨J,R,ae⟩:=QF hr q ai;refine⟨fe.2 (.inl J),R,?_⟩;have:=ar.tmp q.1;rw[ae] at this;exact this.xU (fun m b ao=>⟨ao,c3.refl _ _⟩) (fun id bh=>(QN R id bh).elim)
   ·obtain⟨J,R,ae⟩:=ac.2 q ai;refine⟨fe.2 (.inr J),R,?_⟩
    ·show cw _ _ _ _ _ _ (a.tmps.getD q.1 undef);rw[ar.pin _ J];refine ae.xU (fun m b ao=>?_) (fun id bh=>(QN R id bh).elim);obtain⟨aK,aL⟩:=ac.1 b (pQ ao);refine⟨?_,c3.of_heap (ar.frame b aK aL)⟩;cases m
     ·exact ar.i0 b ao
     ·exact ao.imp (ar.i0 b) id
 have CK:∀s,yT C s->yT nc s:=by
  rintro(_|⟨k,f,l⟩) hs
  ·trivial
  obtain⟨gP,iC,b,o,gh,mm,sp,ye,Hy,SA⟩:=hs;refine⟨oH _ gP,fun j al=>oH _ (iC j al),b,o,gh,(ar.pin k gP).trans mm,jn sp ar.size,?_,?_,?_⟩
  ·rintro⟨id,t,af,aa⟩;rcases((ar.tree id t af).2.2 b aa).2.2.2 with J|J
   ·omega
   ·exact ye J
  ·have aa:=ar.frame b sp ye;rw[<-Hy];unfold World.cell?;rw[show w.heap[(⟨b,o,none⟩:Addr).block]?=C.w0.heap[(⟨b,o,none⟩:Addr).block]? from aa]
  ·rw[SA];exact ke fun j al=>(ar.pin j (iC j al)).symm
 refine wp_mono (h nc rfl rfl PO CK (fun nt=>ar.glob ac.1 nt) a w ⟨I,rt,fp,ev⟩ aN) ?_;rintro e b2 w' ⟨cj,ai,⟨I',ou,gX,bB⟩,pB⟩;have c9:∀b,nc.F0 b->C.w0.heap.size<=b\/C.F0 b:=(by rintro b ⟨id,t,af,aa⟩;exact((ar.tree id t af).2.2 b aa).2.2.2);refine⟨cj,ai,⟨I',ou,gX,?_⟩,pB⟩;refine{n:=bB.n,i0:=fun b aa=>bB.i0 b (ar.i0 b aa),i1:=fun b aa=>?_,ib:=bB.ib,tree:=fun id t af=>?_,dis:=bB.dis,tmp:=bB.tmp,frame:=fun b J R=>?_,evo:=fun b aa=>(ar.evo b aa).trans (bB.evo b (jn aa ar.size)),size:=eu ar.size bB.size,os:=bB.os.trans ar.os,tape:=bB.tape.trans ar.tape,output:=bB.output.trans ar.output,pin:=fun k ac=>?_}
 ·rcases bB.i1 b aa with h|h|h
  ·exact ar.i1 b h
  ·exact .inr (.inl (eu ar.size h))
  ·exact .inr (c9 b h)
 ·obtain⟨aK,aL,a8⟩:=bB.tree id t af;refine⟨aK,aL,fun b aa=>?_⟩;obtain⟨bX,bn,a9,bD⟩:=a8 b aa;refine⟨bX,bn,a9,?_⟩;rcases bD with h|h
  ·exact .inl (eu ar.size h)
  ·exact c9 b h
 ·refine(bB.frame b (jn J ar.size) ?_).trans (ar.frame b J R);intro aF;rcases c9 b aF with h|h
  ·omega
  ·exact R h
 ·rw[bB.pin k (fe.2 (.inr ac))];exact ar.pin k ac
end
end
structure b0 where
 d:Option (Nat×aw)
 S:List Nat
 keep:List (Nat×List bw)
 put:List (Nat×a1)
def pN (S:List Nat) (keep:List (Nat×List bw)) (g:List (Nat×aw)):List (Nat×aw):=match S with
 |[]=>g
 |_=>kill S keep g
def uO (S:List Nat) (h:List (Nat×a1)):List (Nat×a1):=match S with
 |[]=>h
 |_=>del S h
def b0.app (e:b0) (st:ba):ba:=⟨match e.d with
 |some q=>q::pN e.S e.keep st.g
 |none=>pN e.S e.keep st.g,e.put++uO e.S st.h⟩
theorem anb (keep:List (Nat×List bw)) (a:aw):eT [] keep a=a:=by
 have aa:∀a,d1 [] keep a=a:=fun a=>(by have:(a.ids.any fun i=>dJ i [])=false:=(by rw[By];intro i _;simp[dJ]);simp only[d1,aw.er,this,Bool.false_and,cond_false]);cases a with
 |d3 l=>simp only[eT,ke (fun a _=>aa a),List.map_id']
 |_=>exact aa _
theorem Yb (keep:List (Nat×List bw)):∀g:List (Nat×aw),kill [] keep g=g
 |[]=>rfl
 |(k,a)::g=>by have:=Yb keep g;simp only[kill,eY,anb] at this|-;rw[this]
theorem Vk:∀h:List (Nat×a1),del [] h=h
 |[]=>rfl
 |x::h=>by have:=Vk h;simp only[del] at this|-;rw[mA,if_pos (by simp[dJ]),this]
theorem tB (S:List Nat) (keep:List (Nat×List bw)) (g:List (Nat×aw)):pN S keep g=kill S keep g:=by
 cases S
 ·exact(Yb keep g).symm
 ·rfl
theorem zw (S:List Nat) (h:List (Nat×a1)):uO S h=del S h:=by
 cases S
 ·exact(Vk h).symm
 ·rfl
def wa {aR:Type} (tt:List (TypeId×aq)) (h:List (Nat×a1)) (T:TypeId) (x v:aw) (K:b0->Option aR):Option aR:=
 match vR h x with
 |none=>none
 |some (id,p)=>match az h id,az tt T with
  |some pa,some u=>match el pa.1 p with
   |none=>none
   |some τ'=>bif bF u τ' then match v with
    |.ref cO eF=>match az h cO with
     |some yA=>bif Nat.beq id cO then none else(hO yA.1 yA.2 eF τ').bind fun y=>(ow pa.1 pa.2 p τ' y).bind fun hI=>K ⟨none,[id,cO],[(id,p)],[(id,⟨pa.1,hI⟩)]⟩
     |none=>none
    |.app cO eF σ aS own=>match h1 (τ:=.osl σ) τ' aS with
     |some _=>bif Nat.beq cO id&&m6 eF p then(hO pa.1 pa.2 p (.osl σ)).bind fun xs=>(ow pa.1 pa.2 p (.osl σ) (xs++aS)).bind fun hI=>K ⟨none,id::own,[(id,p)],[(id,⟨pa.1,hI⟩)]⟩ else none
     |none=>none
    |v=>match coe τ' v with
     |some y=>(ow pa.1 pa.2 p τ' y).bind fun hI=>K ⟨none,[id],[(id,p)],[(id,⟨pa.1,hI⟩)]⟩
     |none=>none
   else none
  |_,_=>none
theorem at7 {aR:Type} {r:aR} {K:b0->Option aR} {tt:List (TypeId×aq)} {st:ba} {T:TypeId} {x v:aw} {Q:ba->Prop} (h:wa tt st.h T x v K=some r) (ai:∀e,K e=some r->Q (e.app st)):(MT tt st T x v).K Q:=by
 unfold wa at h;unfold MT;split at h
 ·cases h
 rename_i id p ay;rw[ay];simp only;split at h
 case h_2=>cases h
 rename_i pa u af bd;obtain⟨τ,z⟩:=pa;rw[af,bd];simp only at h|-;split at h
 ·cases h
 rename_i τ' lB;rw[lB];simp only;cases aa:bF u τ' with
 |false=>rw[aa] at h;cases h
 |true=>
 rw[aa] at h;simp only[cond_true] at h|-;split at h
 ·rename_i cO eF;split at h
  case h_2=>cases h
  rename_i yA kA;obtain⟨f2,dL⟩:=yA;cases l5:Nat.beq id cO with
  |true=>rw[l5] at h;cases h
  |false=>
  rw[l5] at h;obtain⟨y,aB,h⟩:=dk.1 h;obtain⟨hI,aZ,h⟩:=dk.1 h;simp only[kA,l5,cond_false];exact⟨(y,hI),⟨jb aB,o8 aZ⟩,ai _ h⟩
 ·rename_i cO eF σ aS own;split at h
  case h_2=>cases h
  rename_i y aB;cases ll aB;cases l5:(Nat.beq cO id&&m6 eF p) with
  |false=>rw[l5] at h;cases h
  |true=>
  rw[l5] at h;simp only[bM] at l5;obtain⟨xs,ab,h⟩:=dk.1 h;obtain⟨hI,aZ,h⟩:=dk.1 h;simp only[dif_pos];exact⟨(xs,hI),⟨eZ l5.1,m6.ok l5.2,jb ab,o8 aZ⟩,ai _ h⟩
 ·rename_i v J R;split at h
  case h_2=>cases h
  rename_i y aB;obtain⟨hI,aZ,h⟩:=dk.1 h;split
  ·rename_i cO eF;exact(J cO eF rfl).elim
  ·rename_i cO eF σ aS own;exact(R cO eF σ aS own rfl).elim
  ·rw[aB];exact⟨hI,o8 aZ,ai _ h⟩
def mq (h:List (Nat×a1)) (σ:aq) (y:aw):Option (List σ.den):=
 match y with
 |.val (.bJ _ t) aS=>h1 (τ:=.osl t) (.osl σ) aS
 |.c5 (.slice none 0 0)=>some []
 |.ref id p=>match az h id with
  |some b5=>bif σ.pure then hO b5.1 b5.2 p (.osl σ) else none
  |none=>none
 |.view id p lo hi=>match az h id with
  |some b5=>bif σ.pure then(hO b5.1 b5.2 p (.osl σ)).bind fun aS=>some ((aS.take hi).drop lo) else none
  |none=>none
 |_=>none
def nk.Nm {σ:aq} (r:nk σ) (aS:List σ.den):Prop:=
 match r with
 |.d2 z=>z=aS
 |.part _ iV f=>∃q,iV q/\f q=aS
 |.bad=>False
theorem H2 {h:List (Nat×a1)} {σ:aq} {y:aw} {aS:List σ.den} (aB:mq h σ y=some aS):(wq h σ y).Nm aS:=by
 unfold mq at aB;unfold wq;split at aB
 ·rename_i m t zs;cases ll aB;simp only[dif_pos];rfl
 ·cases aB;rfl
 ·rename_i id p;split at aB
  case h_2=>cases aB
  rename_i b5 af;obtain⟨τ,x⟩:=b5;simp only[af];cases ay:σ.pure with
  |false=>rw[ay] at aB;cases aB
  |true=>rw[ay] at aB;exact⟨aS,jb aB,rfl⟩
 ·rename_i id p lo hi;split at aB
  case h_2=>cases aB
  rename_i b5 af;obtain⟨τ,x⟩:=b5;simp only[af];cases ay:σ.pure with
  |false=>rw[ay] at aB;cases aB
  |true=>
   rw[ay] at aB;obtain⟨zs,aZ,aB⟩:=dk.1 aB;cases aB;exact⟨zs,jb aZ,rfl⟩
 ·cases aB
theorem nk.Nm.to {σ:aq} {r:nk σ} {aS:List σ.den} (h:r.Nm aS) {g:Nat->Prop} {f:List σ.den->ba} {Q:ba->Prop} (aD:g aS.length) (ai:Q (f aS)):(r.to g f).K Q:=by
 cases r with
 |d2 z=>obtain rfl:z=aS:=h;exact⟨(),aD,ai⟩
 |part α iV k=>obtain⟨q,J,rfl⟩:=h;exact⟨q,⟨J,aD⟩,ai⟩
 |bad=>exact h.elim
def rx {aR:Type} (tt:List (TypeId×aq)) (an:List (Nat×aq)) (h:List (Nat×a1)) (d:Nat) (T:TypeId) (x y:aw) (K:b0->Option aR):Option aR:=
 match fU tt T with
 |none=>none
 |some u=>
   match x with
  |.ref id []=>match az h id with
   |some ⟨.osl σ,xs⟩=>bif bF u σ&&Nat.ble σ.size 1300 then
     match σ.pure with
     |true=>(mq h σ y).bind fun aS=>(dA (xs.length+aS.length)).bind fun _=>K ⟨some (d,.ref d []),[id,d],[],[(d,⟨.osl σ,xs++aS⟩)]⟩
     |false=>match y with
      |.ref cO []=>match az h cO with
       |some yA=>match h1 (.osl σ) yA.2 with
        |some aS=>bif Nat.beq id cO then none else(dA (xs.length+List.length (α:=σ.den) aS)).bind fun _=>K ⟨some (d,.ref d []),[id,cO,d],[],[(d,⟨.osl σ,List.append (α:=σ.den) xs aS⟩)]⟩
        |none=>none
       |none=>none
      |_=>none
    else none
   |_=>none
  |.ref id p=>match az h id,az h d with
   |some b5,none=>match el b5.1 p with
    |some (.osl σ)=>bif bF u σ&&Nat.ble σ.size 1300&&σ.gd then
      (hO b5.1 b5.2 p (.osl σ)).bind fun xs=>(mq h σ y).bind fun aS=>(dA (List.length (α:=σ.den) xs+aS.length)).bind fun _=>
       K ⟨some (d,.app id p σ aS [d]),[id],[(id,p),(id,[])],[(d,⟨.dw,()⟩),(id,b5)]⟩
     else none
    |_=>none
   |_,_=>none
  |.view id [] lo hi=>match az h id with
   |some ⟨.osl σ,xs⟩=>bif bF u σ&&Nat.ble σ.size 1300 then
     (mq h σ y).bind fun aS=>(dA (List.length (α:=σ.den) ((xs.take hi).drop lo)+aS.length)).bind fun _=>K ⟨some (d,.ref d []),[id,d],[],[(d,⟨.osl σ,(xs.take hi).drop lo++aS⟩)]⟩
    else none
   |_=>none
  |.c5 (.slice none 0 0)=>match az an d with
   |some (.osl σ)=>bif bF u σ&&Nat.ble σ.size 1300 then
     (mq h σ y).bind fun aS=>(dA aS.length).bind fun _=>K ⟨some (d,.ref d []),[d],[],[(d,⟨.osl σ,aS⟩)]⟩
    else none
   |_=>none
  |_=>none
theorem agn {aR:Type} {r:aR} {K:b0->Option aR} {tt:List (TypeId×aq)} {an:List (Nat×aq)} {st:ba} {d:Nat} {T:TypeId} {x y:aw} {Q:ba->Prop} (h:rx tt an st.h d T x y K=some r) (ai:∀e,K e=some r->Q (e.app st)):(IH tt an st d T x y).K Q:=by
 unfold rx at h;unfold IH;split at h
 ·cases h
 rename_i u aQ;rw[aQ];simp only;split at h
 ·rename_i id;simp only;split at h
  case h_2=>cases h
  rename_i σ xs af;rw[af];simp only;cases aa:(bF u σ&&Nat.ble σ.size 1300) with
  |false=>rw[aa] at h;cases h
  |true=>
  rw[aa] at h;simp only[cond_true] at h|-;split at h
  ·rename_i ay;rw[ay];obtain⟨aS,aB,h⟩:=dk.1 h;obtain⟨_,ah,h⟩:=dk.1 h;exact(H2 aB).to (C5 ah) (ai _ h)
  ·rename_i ay;rw[ay];split at h
   case h_2=>cases h
   rename_i cO;split at h
   case h_2=>cases h
   rename_i yA kA;obtain⟨f2,dL⟩:=yA;split at h
   case h_2=>cases h
   rename_i aS aB;cases ll aB;cases l5:Nat.beq id cO with
   |true=>rw[l5] at h;cases h
   |false=>
   rw[l5] at h;obtain⟨_,ah,h⟩:=dk.1 h;simp only[kA,dif_pos,l5,cond_false];exact⟨(),C5 ah,ai _ h⟩
 ·rename_i id p ay;split at h
  case h_2=>cases h
  rename_i b5 af c0;obtain⟨τ,z⟩:=b5;simp only at h;split at h
  case h_2=>cases h
  rename_i σ lB;cases aa:(bF u σ&&Nat.ble σ.size 1300&&σ.gd) with
  |false=>rw[aa] at h;cases h
  |true=>
  rw[aa] at h;obtain⟨xs,ab,h⟩:=dk.1 h;obtain⟨aS,aB,h⟩:=dk.1 h;obtain⟨_,ah,h⟩:=dk.1 h;have ah:=C5 ah;have aB:=H2 aB;have ab:=jb ab;cases p with
  |nil=>exact(ay rfl).elim
  |cons s p=>
  simp only[af,c0,lB,aa,cond_true];split
  ·rename_i zs aZ;rw[aZ] at aB;obtain rfl:zs=aS:=aB;exact⟨xs,⟨ab,ah⟩,ai _ h⟩
  ·rename_i α iV f aZ;rw[aZ] at aB;obtain⟨q,J,rfl⟩:=aB;exact⟨(xs,q),⟨ab,J,ah⟩,ai _ h⟩
  ·rename_i aZ;rw[aZ] at aB;exact aB.elim
 ·rename_i id lo hi;simp only;split at h
  case h_2=>cases h
  rename_i σ xs af;rw[af];simp only;cases aa:(bF u σ&&Nat.ble σ.size 1300) with
  |false=>rw[aa] at h;cases h
  |true=>
  rw[aa] at h;simp only[cond_true] at h|-;obtain⟨aS,aB,h⟩:=dk.1 h;obtain⟨_,ah,h⟩:=dk.1 h;exact(H2 aB).to (C5 ah) (ai _ h)
 ·simp only;split at h
  case h_2=>cases h
  rename_i σ nu;rw[nu];simp only;cases aa:(bF u σ&&Nat.ble σ.size 1300) with
  |false=>rw[aa] at h;cases h
  |true=>
  rw[aa] at h;simp only[cond_true] at h|-;obtain⟨aS,aB,h⟩:=dk.1 h;obtain⟨_,ah,h⟩:=dk.1 h;exact(H2 aB).to (C5 ah) (ai _ h)
 ·cases h
def sV (an:List (Nat×aq)) (h:List (Nat×a1)) (d:Nat) (v:aw):Option b0:=
 match v with
 |.ref id []=>match az h id with
  |some t=>some ⟨some (d,.ref d []),[id,d],[],[(d,t)]⟩
  |none=>none
 |.ref id p=>bif Nat.beq id d then none else some ⟨some (d,.ref id p),[d],[],[]⟩
 |.view id [] lo hi=>match az h id with
  |some ⟨.osl t,xs⟩=>some ⟨some (d,.ref d []),[id,d],[],[(d,⟨.osl t,(xs.take hi).drop lo⟩)]⟩
  |_=>none
 |.c5 (.slice none 0 0)=>match az an d with
  |some (.osl t)=>some ⟨some (d,.ref d []),[d],[],[(d,⟨.osl t,[]⟩)]⟩
  |_=>none
 |_=>none
theorem agx {an:List (Nat×aq)} {st:ba} {d:Nat} {v:aw} {e:b0} {Q:ba->Prop} (h:sV an st.h d v=some e) (ai:Q (e.app st)):(IJ an st d v).K Q:=by
 unfold sV at h;unfold IJ;split at h
 ·split at h
  ·rename_i t af;cases h;simp only[af];exact ai
  ·cases h
 ·rename_i id p ay;cases aa:Nat.beq id d with
  |true=>rw[aa] at h;cases h
  |false=>
  rw[aa] at h;cases h;cases p with
  |nil=>exact(ay rfl).elim
  |cons s p=>simp only[aa,cond_false];exact ai
 ·split at h
  ·rename_i t xs af;cases h;simp only[af];exact ai
  ·cases h
 ·split at h
  ·rename_i t af;cases h;simp only[af];exact ai
  ·cases h
 ·cases h
section
section
variable {E:eI} {C:dZ} {st:ba} {a:Act} {w w':World} {I:Nat->Prop} {rt:Nat->List Value} {fp:Nat->List Nat} {o:Oper} {Q:ba->Prop}
theorem dW.own {S:List Nat} {t:a1} {cs:List Value} {f:List Nat} {d:Nat} {v:Value} {next:Act->World->Prop} {X:Exit->Act->World->Prop} (aN:o.dst=some d) (c0:C.ok d) (ar:cc C st a.tmps w I rt fp) (eb:∀cj b2 w',Q cj->b2.defers=a.defers->f7 C cj b2.tmps w'->next b2 w') (FO:d∈S\/az st.h d=none) (eA:(execOp a.eval o).run E.P w=.ok (.value v) w') (aD:hV w w') (hv:v=cH t.1 cs) (hr:bi (bK I C.B) w' t.1 cs t.2 f) (aF:f.Nodup) (aa:∀b∈f,(w.heap.size<=b/\b<w'.heap.size)\/∃fS∈S,∃t',az st.h fS=some t'/\b∈fp fS) (ai:Q ⟨(d,.ref d [])::kill S [] st.g,(d,t)::del S st.h⟩):o.wp E.P a w next X:=by
 have aQ:=ar.fZ (pj.one (st:=st) (C:=C) (rt:=rt) (w':=w') (I':=I) (S:=S) (d:=d) (t:=t) (cs:=cs) (f:=f) FO aD.size aD.os aD.tape aD.output (fun b aa _=>aD.heap b aa) (fun b aa=>(c3.of_heap (aD.heap b aa)).2) (fun _ h=>h) (fun _ h=>.inl h) hr aF (fun b cM=>by
  rcases aa b cM with⟨J,R⟩|⟨i,hi,u,aQ,hB⟩
  ·exact⟨fun h=>by have:=ar.ib b (.inl h);omega,R,.inl J⟩
  ·obtain⟨aK,aL,a8,bH⟩:=(ar.tree i u aQ).2.2 b hB;exact⟨aK,jn a8 aD.size,.inr ⟨i,hi,u,aQ,hB⟩⟩))
 unfold Oper.wp;rw[eA];show next (a.put o.dst v) w'
 rw[aN];refine eb _ _ _ ai rfl ⟨_,_,_,aQ.put c0 (av:=.ref d []) ?_⟩;rw[hv];refine .ref (t:=t) (loc:=none) (by rw[k1,db,if_pos rfl];rfl) ?_;rw[L0];exact bk.here
def Do (h:List (Nat×a1)) (a:aq):aw->Option (a1×List Nat)
 |.val τ y=>bif bF a τ then some (⟨τ,y⟩,[]) else none
 |.c5 v=>match js a v.cells.toList with
  |some y=>some (⟨a,y⟩,[])
  |none=>none
 |.ref id []=>match az h id with
  |some t=>bif bF a t.1 then some (t,[id]) else none
  |none=>none
 |_=>none
theorem aad {P:Program} {M:du->Nat->Prop} {h:List (Nat×a1)} (ax:∀id t,az h id=some t->bi M w t.1 (rt id) t.2 (fp id)) {a:aq} {T:TypeId} (bd:ei P a T) {av:aw} {v:Value} (hv:cw M w h rt fp av v) {t:a1} {ids:List Nat} (ay:Do h a av=some (t,ids)):bi M w t.1 v.cells.toList t.2 (ids.map fp).flatten/\t.1.size=a.size/\∀id∈ids,∃u,az h id=some u:=by
 unfold Do at ay;split at ay
 ·rename_i τ y;cases aa:bF a τ with
  |false=>rw[aa] at ay;cases ay
  |true=>
   rw[aa] at ay;cases ay;cases hv with|val r=>
   rw[sn (bd.lay aa) r.len r.one];exact⟨r,(bF.size aa).symm,by simp⟩
 ·rename_i ed;split at ay
  ·rename_i y aB;cases ay;cases hv;exact⟨sZ aB,rfl,by simp⟩
  ·cases ay
 ·rename_i id;split at ay
  ·rename_i t' af;cases aa:bF a t'.1 with
   |false=>rw[aa] at ay;cases ay
   |true=>
    rw[aa] at ay;cases ay;cases hv with|ref bx ag=>
    rw[af] at bx;cases bx;obtain⟨rfl,rfl,rfl⟩:=bk.fH.1 ag;have r:=ax id _ af;rw[sn (bd.lay aa) r.len r.one];refine⟨by simpa using r,(bF.size aa).symm,?_⟩;intro i hi;rw[fv] at hi;subst hi;exact⟨_,af⟩
  ·cases ay
 ·cases ay
def o2 (h:List (Nat×a1)) (g:Operand->aw) (parts:List (Nat×Operand)):aq->Nat->Option (a1×List Nat)
 |.pr a b,n=>
  match(match nD parts n with
   |none=>match nL a with
    |some z=>some ((⟨a,z⟩:a1),([]:List Nat))
    |none=>none
   |some x=>Do h a (g x)),o2 h g parts b (n+1) with
  |some x,some y=>some (⟨.pr x.1.1 y.1.1,(x.1.2,y.1.2)⟩,x.2++y.2)
  |_,_=>none
 |.nil,_=>some (⟨.nil,()⟩,[])
 |_,_=>none
theorem YS {P:Program} {M:du->Nat->Prop} {h:List (Nat×a1)} (ax:∀id t,az h id=some t->bi M w t.1 (rt id) t.2 (fp id)) {g:Operand->aw} {h2:Operand->Value} (aD:∀x,cw M w h rt fp (g x) (h2 x)) {parts:List (Nat×Operand)} {cells:List Value}:∀{u:aq} {n:Nat} {fs:List Field} {off:Nat} {zs:List Value} {t:a1} {ids:List Nat},ji P u fs off zs->o2 h g parts u n=some (t,ids)->cells.length=off+u.size->(∀m s τ,ez u m=some (s,τ)->(∀x,nD parts (n+m)=some x->(h2 x).cells.size=τ.size/\(cells.drop (off+dU u m)).take τ.size=(h2 x).cells.toList)/\(nD parts (n+m)=none->(cells.drop (off+dU u m)).take τ.size=(zs.drop (dU u m)).take τ.size))->bi M w t.1 (cells.drop off) t.2 (ids.map fp).flatten/\t.1.size=u.size/\∀id∈ids,∃u,az h id=some u
 |.pr a b,n,f::r,off,zs,t,ids,c9,ao,ah,hc=>by
  simp only[o2] at ao;split at ao
  case h_2=>cases ao
  rename_i x y ab aB;cases ao;obtain⟨J,R,ae,⟨i,z,aK,aL,a8⟩,aX⟩:=c9;have n7:=hc 0 _ a rfl;simp only[pg,dU,rf] at n7;have eS:bi M w x.1.1 ((cells.drop off).take a.size) x.1.2 (x.2.map fp).flatten/\x.1.1.size=a.size/\∀id∈x.2,∃u,az h id=some u:=by
   split at ab
   ·rename_i ay;split at ab
    ·rename_i hI aZ;cases ab;obtain⟨kB,il,bX,bn,_,bD⟩:=Bp R aZ;rw[aK] at bX;cases bX;rw[aL] at bn;cases bn;rw[n7.2 ay,a8];exact⟨bD M w,rfl,by simp⟩
    ·cases ab
   ·rename_i p ay;obtain⟨bu,bE⟩:=n7.1 p ay;rw[bE];exact aad ax R (aD p) ab
  have eP:=YS ax aD (parts:=parts) (cells:=cells) (u:=b) (n:=n+1) (off:=off+a.size) (zs:=zs.drop a.size) (t:=y.1) (ids:=y.2) aX aB (by rw[ah];simp only[aq.size];omega) (by
   intro m s τ hs;have:=hc (m+1) (.snd::s) τ (by simp[ez,hs]);simp only[dU] at this;rw[show n+(m+1)=n+1+m by omega,show off+(a.size+dU b m)=off+a.size+dU b m by omega] at this;rw[uj];exact this)
  refine⟨⟨(x.2.map fp).flatten,(y.2.map fp).flatten,by simp,?_,?_⟩,by simp only[aq.size];omega,?_⟩
  ·rw[eS.2.1];exact eS.1
  ·rw[eS.2.1,uj];exact eP.1
  ·intro id bh;rcases fe.1 bh with bh|bh
   ·exact eS.2.2 id bh
   ·exact eP.2.2 id bh
 |.nil,n,[],off,zs,t,ids,c9,ao,ah,hc=>by cases ao;exact⟨⟨rfl,by rw[List.drop_eq_nil_iff];simp only[aq.size] at ah;omega⟩,rfl,by simp⟩
 |.pr _ _,_,[],_,_,_,_,h,_,_,_=>h.elim
 |.nil,_,_::_,_,_,_,_,h,_,_,_=>h.elim
 |.int _,_,_,_,_,_,_,h,_,_,_=>by cases h
 |.bool,_,_,_,_,_,_,h,_,_,_=>by cases h
 |.str,_,_,_,_,_,_,h,_,_,_=>by cases h
 |.bJ _ _,_,_,_,_,_,_,h,_,_,_=>by cases h
 |.osl _,_,_,_,_,_,_,h,_,_,_=>by cases h
 |.ptr _ _,_,_,_,_,_,_,h,_,_,_=>by cases h
 |.optr _,_,_,_,_,_,_,h,_,_,_=>by cases h
 |.st _,_,_,_,_,_,_,h,_,_,_=>by cases h
 |.dw,_,_,_,_,_,_,h,_,_,_=>by cases h
theorem YT {P:Program} {M:du->Nat->Prop} {h:List (Nat×a1)} (ax:∀id t,az h id=some t->bi M w t.1 (rt id) t.2 (fp id)) {g:Operand->aw} {h2:Operand->Value} (aD:∀x,cw M w h rt fp (g x) (h2 x)) {parts:List (Nat×Operand)}:∀{u:aq} {n:Nat} {fs:List Field} {off:Nat} {zs:List Value} {t:a1} {ids:List Nat},ji P u fs off zs->o2 h g parts u n=some (t,ids)->∀m s τ,ez u m=some (s,τ)->∀x,nD parts (n+m)=some x->(h2 x).cells.size=τ.size
 |.pr a b,n,f::r,off,zs,t,ids,c9,ao,m,s,τ,hs,x,ay=>by
  simp only[o2] at ao;split at ao
  case h_2=>cases ao
  rename_i na g4 ab aB;obtain⟨J,R,ae,⟨i,z,aK,aL,a8⟩,aX⟩:=c9;cases m with
  |zero=>
   simp only[ez,cI,gz] at hs;obtain⟨_,rfl⟩:=hs;rw[pg] at ay;rw[ay] at ab;obtain⟨bu,bE,_⟩:=aad (t:=na.1) (ids:=na.2) ax R (aD x) ab;have:=bu.len;rw[bE] at this;simpa using this
  |succ m=>
   simp only[ez] at hs;split at hs
   ·rename_i q ai;simp only[cI,gz] at hs;obtain⟨_,rfl⟩:=hs;exact YT ax aD (u:=b) (n:=n+1) (t:=g4.1) (ids:=g4.2) aX aB m q.1 q.2 ai x (by rwa[show n+1+m=n+(m+1) by omega])
   ·cases hs
 |.pr _ _,_,[],_,_,_,_,h,_,_,_,_,_,_,_=>h.elim
 |.nil,_,_,_,_,_,_,_,_,_,_,_,hs,_,_=>by cases hs
 |.int _,_,_,_,_,_,_,h,_,_,_,_,_,_,_=>by cases h
 |.bool,_,_,_,_,_,_,h,_,_,_,_,_,_,_=>by cases h
 |.str,_,_,_,_,_,_,h,_,_,_,_,_,_,_=>by cases h
 |.bJ _ _,_,_,_,_,_,_,h,_,_,_,_,_,_,_=>by cases h
 |.osl _,_,_,_,_,_,_,h,_,_,_,_,_,_,_=>by cases h
 |.ptr _ _,_,_,_,_,_,_,h,_,_,_,_,_,_,_=>by cases h
 |.optr _,_,_,_,_,_,_,h,_,_,_,_,_,_,_=>by cases h
 |.st _,_,_,_,_,_,_,h,_,_,_,_,_,_,_=>by cases h
 |.dw,_,_,_,_,_,_,h,_,_,_,_,_,_,_=>by cases h
theorem ag2 {T:TypeId} {parts:Array (Nat×Operand)} (aH:o.op=.build T parts) {hq u:aq} (bd:m0 E.tt T=some hq) (ob:bF hq u=true\/hq=u) (dn:og parts.toList 0=true) (dM:∀q∈parts.toList,Nat.blt q.1 (fG u)=true) (d8:∀m s τ,ez u m=some (s,τ)->∀x,nD parts.toList m=some x->(a.eval x).cells.size=τ.size):∃fs zs r,ji E.P u fs 0 zs/\(execOp a.eval o).run E.P w=.ok (.value (.agg r)) w/\r.toList.length=u.size/\(∀m s τ,ez u m=some (s,τ)->(∀x,nD parts.toList (0+m)=some x->(a.eval x).cells.size=τ.size/\(r.toList.drop (0+dU u m)).take τ.size=(a.eval x).cells.toList)/\(nD parts.toList (0+m)=none->(r.toList.drop (0+dU u m)).take τ.size=(zs.drop (dU u m)).take τ.size)):=by
 obtain⟨i,fs,zs,J,R,aI,aX,bI,eO⟩:∃i fs zs,E.P.info? T=some i/\i.size=u.size/\i.zero=some (.agg zs)/\E.P.underlying T=some (.struct fs)/\ji E.P u fs.toList 0 zs.toList/\zs.size=u.size:=by
  unfold m0 at bd;split at bd
  ·rename_i iG ah;cases bd;obtain⟨_,i,fs,zs,aK,aL,_,bH,dp,tM,AO⟩:=E.ok T _ ah;rcases ob with ob|rfl
   ·have hs:=bF.size ob;exact⟨i,fs,zs,aK,by rw[<-hs];exact aL,bH,dp,ji.lay ob tM,by rw[<-hs];exact AO⟩
   ·exact⟨i,fs,zs,aK,aL,bH,dp,tM,AO⟩
  ·cases bd
 have nz:=run_places (P:=E.P) w u fs.toList 0 zs.toList bI;simp only[ks] at nz;generalize P5:((List.range (fG u)).map fun n=>(dU u n,match ez u n with|some q=>q.2.size|none=>0))=AM at nz;have r0:∀n s τ,ez u n=some (s,τ)->n<fG u->AM.toArray[n]?=some (dU u n,τ.size):=(by intro n s τ hs ag;rw[<-P5];simp[ag,hs]);obtain⟨r,bX,bn,a9,bD⟩:=Fy (fun i=>AM.toArray[i]?) (parts.toList.map fun q=>(q.1,a.eval q.2)) zs (by
  intro q ai;obtain⟨p,ay,rfl⟩:=dj.1 ai;have cg:p.1<fG u:=fw (dM p ay);obtain⟨s,τ,hs⟩:=vF bI p.1 cg;refine⟨_,_,r0 _ _ _ hs cg,d8 _ _ _ hs p.2 ?_,by rw[eO];exact Co hs⟩;exact Qr dn ay) (by
  rw[BC];refine(Qs dn).imp_of_mem ?_;intro q gH ai fq cg hQ gP mf iC aC aV;have da:q.1<fG u:=fw (dM q ai);have l2:gH.1<fG u:=fw (dM gH fq);obtain⟨SF,ta,aG⟩:=vF bI q.1 da;obtain⟨atC,tb,aa⟩:=vF bI gH.1 l2;rw[r0 _ _ _ aG da] at aC;rw[r0 _ _ _ aa l2] at aV;cases aC;cases aV;exact .inl (zO aG aa cg))
 have qG:r.toList.length=u.size:=(by simp[bn,eO]);refine⟨fs.toList,zs.toList,r,bI,?_,qG,?_⟩
 ·have qE:(Array.map (fun x=>(x.fst,a.eval x.snd)) parts).toList=parts.toList.map fun q=>(q.1,a.eval q.2):=(by simp);have P4:(fs.mapM fun f=>do Pure.pure (f.offset,<-sizeOf f.type):Sem (Array axM)).run E.P w=.ok AM.toArray w:=by
   rw[Array.mapM_eq_mapM_toList,Sem.run_map,nz];rfl
  have aZ:(zeroValue T).run E.P w=.ok (.agg zs) w:=(by simp[zeroValue,typeInfo,J,aI]);simp only[execOp,aH,Instr.build,Sem.run_bind,aZ,run_underlying aX,Result.andThen_ok,P4,qE,Value.cells,bX];rfl
 ·intro m s τ hs;have ao:m<fG u:=OX hs;simp only[ks];have fb:=Co hs;refine⟨fun x ab=>?_,fun ab=>?_⟩
  ·have kz:=GM ab;have aZ:=d8 m s τ hs x ab;refine⟨aZ,?_⟩;apply jj;intro j;rcases ch j τ.size with al|al
   ·obtain⟨v,hv⟩:∃v,(a.eval x).cells[j]?=some v:=⟨_,DV (by omega)⟩;have:=bD (m,a.eval x) (dj.2 ⟨(m,x),kz,rfl⟩) _ _ (r0 _ _ _ hs ao) j v hv;rw[oG al,ng];simp only[Bq];rw[this,hv]
   ·rw[gy (by simp;omega),gy (by simp;omega)]
  ·apply jj;intro j;rcases ch j τ.size with al|al
   ·rw[oG al,oG al,ng,ng];simp only[Bq];refine a9 _ ?_;intro q ai hQ gP aC;obtain⟨p,ay,rfl⟩:=dj.1 ai;have cL:=QR ab p ay;have da:p.1<fG u:=fw (dM p ay);obtain⟨SF,ta,aG⟩:=vF bI p.1 da;rw[r0 _ _ _ aG da] at aC;cases aC;rcases Nat.lt_or_gt_of_ne cL with cg|La
    ·have:=zO aG hs cg;omega
    ·have:=zO hs aG La;omega
   ·rw[gy (by simp;omega),gy (by simp;omega)]
theorem cc.dI {bY:Array Value} (ar:cc C st bY w I rt fp):∀{ids:List Nat},ids.Nodup->(∀id∈ids,∃u,az st.h id=some u)->(ids.map fp).flatten.Nodup
 |[],_,_=>by simp
 |i::ids,ag,ax=>by obtain⟨J,R⟩:=lQ.1 ag;obtain⟨u,aQ⟩:=ax i (by simp);simp only[eY,kL];refine kO.2 ⟨(ar.tree i u aQ).2.1,cc.dI ar R (fun id bh=>ax id (by simp[bh])),fun b aa c hc e=>?_⟩;subst e;obtain⟨l,ah,xl⟩:=kN.1 hc;obtain⟨j,al,rfl⟩:=dj.1 ah;obtain⟨v,hv⟩:=ax j (by simp[al]);exact ar.dis i j u v aQ hv (fun e=>J (e▸al)) b aa xl
theorem Q4 {ids:List Nat} {b:Nat} (aa:b∈(ids.map fp).flatten):∃id∈ids,b∈fp id:=by obtain⟨l,ah,xl⟩:=kN.1 aa;obtain⟨j,al,rfl⟩:=dj.1 ah;exact⟨j,al,xl⟩
def wS {aR:Type} (tt:List (TypeId×aq)) (an:List (Nat×aq)) (h:List (Nat×a1)) (g:Operand->aw) (d:Nat) (T:TypeId) (parts:List (Nat×Operand)) (K:b0->Option aR):Option aR:=
 match m0 tt T with
 |none=>none
 |some u=>match az an d with
  |some (.st iG)=>bif bF u iG&&(og parts 0&&parts.all (fun q=>Nat.blt q.1 (fG iG))) then match az h d,o2 h g parts iG 0 with
    |none,some (t,ids)=>bif j7 ids then K ⟨some (d,.ref d []),ids,[],[(d,⟨.st t.1,t.2⟩)]⟩ else none
    |_,_=>none
   else none
  |
   _=>bif og parts 0&&parts.all (fun q=>Nat.blt q.1 (fG u)) then match tG g parts u 0 with
   |some t=>K ⟨some (d,.val (.st t.1) t.2),[],[],[]⟩
   |none=>match az h d,o2 h g parts u 0 with
    |none,some (t,ids)=>bif j7 ids then K ⟨some (d,.ref d []),ids,[],[(d,⟨.st t.1,t.2⟩)]⟩ else none
    |_,_=>none
   else none
theorem UL {aR:Type} {r:aR} {K:b0->Option aR} {d:Nat} {T:TypeId} {parts:Array (Nat×Operand)} (aH:o.op=.build T parts) (aN:o.dst=some d) (c0:C.ok d) {hq u:aq} (bd:m0 E.tt T=some hq) (ob:bF hq u=true\/hq=u) (aa:(og parts.toList 0&&parts.toList.all (fun q=>Nat.blt q.1 (fG u)))=true) (h:(match az st.h d,o2 st.h (bj st.g) parts.toList u 0 with
  |none,some (t,ids)=>bif j7 ids then K ⟨some (d,.ref d []),ids,[],[(d,⟨.st t.1,t.2⟩)]⟩ else none
  |_,_=>none)=some r)
 (ai:∀e,K e=some r->Q (e.app st)):dW E C o st Q:=by
 split at h
 case h_2=>cases h
 rename_i t ids z1 af;cases eh:j7 ids with
 |false=>rw[eh] at h;cases h
 |true=>
 rw[eh] at h;simp only[bM,fk] at aa;obtain⟨dn,dM⟩:=aa;rintro a w ⟨I,rt,fp,ar⟩ next X eb
 have ax:∀id t,az st.h id=some t->bi (bK I C.B) w t.1 (rt id) t.2 (fp id):=fun id t af=>(ar.tree id t af).1;obtain⟨fs,zs,kF,c9,eA,qG,hc⟩:=ag2 (a:=a) (w:=w) aH bd ob dn dM (by
  obtain⟨fs,zs,_,q⟩:=m0.ok bd;intro m s τ hs x ay;exact YT ax (fun x=>ar.bj x) (ob.elim (fun h=>ji.lay h q) (fun h=>h▸q)) af m s τ hs x (by rwa[ks]))
 obtain⟨bT,bz,cZ⟩:=YS ax (fun x=>ar.bj x) (cells:=kF.toList) c9 af (by omega) hc;rw[rf] at bT;refine dW.own (S:=ids) (t:=⟨.st t.1,t.2⟩) (cs:=kF.toList) (f:=(ids.map fp).flatten) aN c0 ar eb (.inr z1) eA (hV.refl w) rfl bT (ar.dI (j7.ok eh) cZ) (fun b aa=>?_) ?_
 ·obtain⟨id,bh,aa⟩:=Q4 aa;obtain⟨u,aQ⟩:=cZ id bh;exact .inr ⟨id,bh,u,aQ,aa⟩
 ·have:=ai _ h;rw[show(b0.mk (some (d,.ref d [])) ids [] [(d,⟨.st t.1,t.2⟩)]).app st=⟨(d,.ref d [])::kill ids [] st.g,(d,⟨.st t.1,t.2⟩)::del ids st.h⟩ by
   show ba.mk ((d,_)::pN ids [] st.g) ([_]++uO ids st.h)=_;rw[tB,zw];rfl] at this
  exact this
theorem agO {aR:Type} {r:aR} {K:b0->Option aR} {d:Nat} {T:TypeId} {parts:Array (Nat×Operand)} {an:List (Nat×aq)} (aH:o.op=.build T parts) (aN:o.dst=some d) (c0:C.ok d) (h:wS E.tt an st.h (bj st.g) d T parts.toList K=some r) (ai:∀e,K e=some r->Q (e.app st)):dW E C o st Q:=by
 unfold wS at h;split at h
 ·cases h
 rename_i u bd;split at h
 ·rename_i iG nu;cases aa:(bF u iG&&(og parts.toList 0&&parts.toList.all (fun q=>Nat.blt q.1 (fG iG)))) with
  |false=>rw[aa] at h;cases h
  |true=>
  rw[aa] at h;simp only[cond_true] at h;have cM:=aa;rw[bM] at cM;exact UL aH aN c0 bd (.inl cM.1) cM.2 h ai
 cases aa:(og parts.toList 0&&parts.toList.all (fun q=>Nat.blt q.1 (fG u))) with
 |false=>rw[aa] at h;cases h
 |true=>
 rw[aa] at h;simp only[cond_true] at h;split at h
 ·rename_i t af;refine dW.eval (an:=[]) aN c0 ?_;rw[aH];simp only[gr,Eu,bd,aa,cond_true,af];exact ai _ h
 exact UL aH aN c0 bd (.inr rfl) aa h ai
def y7 {aR:Type} (tt:List (TypeId×aq)) (an:List (Nat×aq)) (h:List (Nat×a1)) (d:Nat) (T:TypeId) (x:aw) (K:b0->Option aR):Option aR:=
 match az tt T,az h d with
 |some u,none=>match x with
  |.val τ x=>bif bF u τ then match az an d with
    |some (.ptr .cD _)=>K ⟨some (d,.val (.ptr .cD τ) (some x)),[],[],[]⟩
    |_=>K ⟨some (d,.ref d []),[],[],[(d,⟨.optr τ,x⟩)]⟩
   else none
  |.ref id []=>match az h id with
   |some t=>bif bF u t.1 then K ⟨some (d,.ref d []),[id],[],[(d,⟨.optr t.1,t.2⟩)]⟩ else none
   |none=>none
  |_=>none
 |_,_=>none
theorem agV {aR:Type} {r:aR} {K:b0->Option aR} {an:List (Nat×aq)} {d:Nat} {T:TypeId} {x:Operand} (aH:o.op=.box T x) (aN:o.dst=some d) (c0:C.ok d) (h:y7 E.tt an st.h d T (bj st.g x) K=some r) (ai:∀e,K e=some r->Q (e.app st)):dW E C o st Q:=by
 unfold y7 at h;split at h
 case h_2=>cases h
 rename_i u bd z1;split at h
 ·rename_i τ y ex;cases aa:bF u τ with
  |false=>rw[aa] at h;cases h
  |true=>
  rw[aa] at h;simp only[cond_true] at h;split at h
  ·rintro a w ⟨I,rt,fp,ar⟩ next X eb
   have ab:=ar.bj x;rw[ex] at ab;have aF:=(E.ok T u bd).lay aa;generalize hv:a.eval x=v at ab;cases ab with|val kF=>
   rename_i cs;have bC:∀m b,bK I C.B m b->c3 w (w.alloc (.cells cs.toArray T)) b:=fun m b aa=>.of_heap ((hV.alloc w _).heap b (ar.ib b (pQ aa)));have amH:Yields E C st a w I rt fp o (fun av new=>Q ⟨(d,av)::st.g,new++st.h⟩):=by
    refine⟨.pointer (some ⟨w.heap.size,0,none⟩),w.alloc (.cells cs.toArray T),fun b=>I b\/b=w.heap.size,fun _=>[],fun _=>[],.val (.ptr .cD τ) (some y),[],?_,hV.alloc w _,fun _ h=>.inl h,?_,.nil,?_,ai _ h⟩
    ·simp[execOp,aH,hv,Instr.box,newVar,newRow,sn aF kF.len kF.one]
    ·rintro b (h|rfl)
     ·exact .inl h
     ·exact .inr ⟨bS _,by simp⟩
    ·refine .val (τ:=.ptr .cD τ) (x:=some y) (cs:=[.pointer (some ⟨w.heap.size,0,none⟩)]) ⟨rfl,w.heap.size,0,cs,rfl,.inr rfl,kF.len,es.alloc (fun j v al=>by simpa using al),?_⟩;refine kF.mono (fun m b aa=>⟨?_,bC m b aa⟩) (by simp);cases m
     ·exact .inl aa
     ·exact aa.imp .inl (fun h=>h)
   exact amH.wp ar aN c0 (fun av new b2 w' fq jN hr=>eb _ b2 w' fq jN hr)
  ·refine dW.eval (an:=[]) aN c0 ?_;rw[aH];simp only[gr,Ev,bd,z1,ex,aa,cond_true];exact ai _ h
 ·rename_i id ex;split at h
  case h_2=>cases h
  rename_i t af;cases aa:bF u t.1 with
  |false=>rw[aa] at h;cases h
  |true=>
  rw[aa] at h;rintro a w ⟨I,rt,fp,ar⟩ next X eb
  have ab:=ar.bj x;rw[ex] at ab;obtain⟨bX,bn,a9⟩:=ar.tree id t af;have aF:=(E.ok T u bd).lay aa;generalize hv:a.eval x=v at ab;cases ab with|ref bx ag=>
  rw[af] at bx;cases bx;obtain⟨rfl,rfl,rfl⟩:=bk.fH.1 ag;have bC:∀b,b<w.heap.size->c3 w (w.alloc (.cells (rt id).toArray T)) b:=fun b aa=>.of_heap ((hV.alloc w _).heap b aa);have Dt:bi (bK I C.B) (w.alloc (.cells (rt id).toArray T)) t.1 (rt id) t.2 (fp id):=bX.mono (fun m b aa=>⟨aa,bC b (ar.ib b (pQ aa))⟩) (fun b aa=>bC b (a9 b aa).2.2.1);refine dW.own (S:=[id]) (t:=⟨.optr t.1,t.2⟩) (cs:=[.pointer (some ⟨w.heap.size,0,none⟩)]) (f:=w.heap.size::fp id) (v:=.pointer (some ⟨w.heap.size,0,none⟩)) (w':=w.alloc (.cells (rt id).toArray T)) aN c0 ar eb (.inr z1) ?_ (hV.alloc w _) rfl ⟨w.heap.size,0,fp id,rt id,rfl,rfl,bX.len,es.alloc (fun j v al=>by simpa using al),jR.alloc (by simp[bX.len]),Dt⟩ (lQ.2 ⟨fun ao=>Nat.lt_irrefl _ (a9 _ ao).2.2.1,bn⟩) ?_ ?_
  ·simp[execOp,aH,hv,Instr.box,newVar,newRow,sn aF bX.len bX.one]
  ·intro b aa;rcases dV.1 aa with rfl|aa
   ·exact .inl ⟨bS _,by simp⟩
   ·exact .inr ⟨id,by simp,t,af,aa⟩
  ·have:=ai _ h;rw[show(b0.mk (some (d,.ref d [])) [id] [] [(d,⟨.optr t.1,t.2⟩)]).app st=⟨(d,.ref d [])::kill [id] [] st.g,(d,⟨.optr t.1,t.2⟩)::del [id] st.h⟩ from rfl] at this;exact this
 ·cases h
def zb (h:List (Nat×a1)) (t:aq) (x:aw):Option (t.den×List Nat):=
 match x with
 |.ref id []=>match az h id with
  |some b5=>match h1 t b5.2 with
   |some y=>some (y,[id])
   |none=>none
  |none=>none
 |x=>match coe t x with
  |some y=>some (y,[])
  |none=>none
def zc (h:List (Nat×a1)) (t:aq):List aw->Option (List t.den×List (List Nat))
 |[]=>some ([],[])
 |x::r=>match zb h t x,zc h t r with
  |some y,some l=>some (y.1::l.1,y.2::l.2)
  |_,_=>none
theorem ahy {M:du->Nat->Prop} {h:List (Nat×a1)} (ax:∀id t,az h id=some t->bi M w t.1 (rt id) t.2 (fp id)) {t:aq} {T:TypeId} (bd:ei E.P t T) {x:aw} {v:Value} (ab:cw M w h rt fp x v) {y:t.den} {ids:List Nat} (hc:zb h t x=some (y,ids)):bi M w t v.cells.toList y (ids.map fp).flatten/\∀id∈ids,∃u,az h id=some u:=by
 unfold zb at hc;split at hc
 ·rename_i id;split at hc
  case h_2=>cases hc
  rename_i b5 af;split at hc
  case h_2=>cases hc
  rename_i y' aB;cases hc;obtain⟨τ,x⟩:=b5;have aE:=ll aB;cases aE;cases ab with|ref bx ag=>
  rw[af] at bx;cases bx;obtain⟨rfl,rfl,rfl⟩:=bk.fH.1 ag;have r:=ax id _ af;rw[sn bd r.len r.one];refine⟨by simpa using r,fun i hi=>?_⟩;rw[fv] at hi;subst hi;exact⟨_,af⟩
 ·split at hc
  ·rename_i y' aB;cases hc;exact⟨N2 bd ab aB,by simp⟩
  ·cases hc
theorem U8 {h:List (Nat×a1)} {t:aq}:∀{l:List aw} {xs:List t.den} {is:List (List Nat)},zc h t l=some (xs,is)->xs.length=l.length/\is.length=l.length/\∀(i:Nat) (x:t.den),xs[i]?=some x->∃(y:aw) (q:List Nat),l[i]?=some y/\is[i]?=some q/\zb h t y=some (x,q)
 |[],xs,is,hc=>by cases hc;exact⟨rfl,rfl,fun i x h=>by simp at h⟩
 |y::l,xs,is,hc=>by
  simp only[zc] at hc;split at hc
  ·rename_i z r aZ hr;cases hc;obtain⟨J,R,ae⟩:=U8 (xs:=r.1) (is:=r.2) hr;refine⟨by simp[J],by simp[R],fun i x hi=>?_⟩;cases i with
   |zero=>simp only[ld,cI] at hi;subst hi;exact⟨y,z.2,rfl,rfl,aZ⟩
   |succ i=>simpa using ae i x (by simpa using hi)
  ·cases hc
def wU {aR:Type} (tt:List (TypeId×aq)) (an:List (Nat×aq)) (h:List (Nat×a1)) (g:Operand->aw) (d:Nat) (T:TypeId) (n:Nat) (parts:List (Nat×Operand)) (K:b0->Option aR):Option aR:=
 match fU tt T,az h d with
 |some u,none=>
  match(match az an d with|some (.osl t)=>t|_=>u) with
  |t=>bif bF u t&&Nat.ble t.size 2000&&Nat.ble n 1000&&A3 parts 0&&Nat.beq parts.length n then
   match Ey t (parts.map fun q=>g q.2) with
   |some xs=>K ⟨some (d,.ref d []),[],[],[(d,⟨.osl t,xs⟩)]⟩
   |none=>match zc h t (parts.map fun q=>g q.2) with
    |some q=>bif j7 q.2.flatten then K ⟨some (d,.ref d []),q.2.flatten,[],[(d,⟨.osl t,q.1⟩)]⟩ else none
    |none=>none
  else none
 |_,_=>none
theorem agZ {aR:Type} {r:aR} {K:b0->Option aR} {an:List (Nat×aq)} {d:Nat} {T:TypeId} {n:Nat} {parts:Array (Nat×Operand)} (aH:o.op=.buildSlice T n parts) (aN:o.dst=some d) (c0:C.ok d) (h:wU E.tt an st.h (bj st.g) d T n parts.toList K=some r) (ai:∀e,K e=some r->Q (e.app st)):dW E C o st Q:=by
 unfold wU at h;split at h
 case h_2=>cases h
 rename_i u bd z1;generalize af:(match az an d with|some (.osl t)=>t|_=>u)=t at h;simp only at h;cases aa:(bF u t&&Nat.ble t.size 2000&&Nat.ble n 1000&&A3 parts.toList 0&&Nat.beq parts.toList.length n) with
 |false=>rw[aa] at h;cases h
 |true=>
 rw[aa] at h;simp only[cond_true] at h;split at h
 ·rename_i xs Lr;refine dW.eval (an:=an) aN c0 ?_;rw[aH];simp only[gr,BU,bd,z1];cases ah:az an d with
  |none=>
   rw[ah] at af;simp only at af;subst af;simp only[aa,cond_true,Lr];exact ai _ h
  |some q=>
   rw[ah] at af;cases q<;>(simp only at af;subst af;simp only[aa,cond_true,Lr];exact ai _ h)
 split at h
 case h_2=>cases h
 rename_i q iP;obtain⟨xs,is⟩:=q;cases eh:j7 is.flatten with
 |false=>rw[eh] at h;cases h
 |true=>
 rw[eh] at h;rintro a w ⟨I,rt,fp,ar⟩ next X eb
 have ax:∀id t,az st.h id=some t->bi (bK I C.B) w t.1 (rt id) t.2 (fp id):=fun id t af=>(ar.tree id t af).1;simp only[bM] at aa;obtain⟨⟨⟨⟨dn,dM⟩,hL⟩,jI⟩,BN⟩:=aa;have dM:=fw dM;have hL:=fw hL;have BN:parts.toList.length=n:=eZ BN;obtain⟨j,S,_,aX,bI⟩:=fU.ok bd;have iO:=bI.lay dn;obtain⟨i,ahZ,dp,_⟩:=iO.info;have mV:=iO.pos;obtain⟨c4,jU,cd⟩:=U8 iP;simp only[iI] at c4 jU;have Gc:xs.length=n:=(by omega);have dR:n*t.size<=16777216:=(by have:n*t.size<=1000*2000:=oJ hL dM;omega);have mQ:∀(k:Nat) (q:Nat×Operand),parts.toList[k]?=some q->∃(x:t.den) (ids:List Nat),xs[k]?=some x/\is[k]?=some ids/\bi (bK I C.B) w t (a.eval q.2).cells.toList x (ids.map fp).flatten/\∀id∈ids,∃u,az st.h id=some u:=(by intro k q ac;have pE:k<xs.length:=(by have:=(e9.1 ac).1;omega);obtain⟨y,ids,aC,b4,aV⟩:=cd k xs[k] (by simp);rw[f5,ac] at aC;simp only[g6,cI] at aC;subst aC;obtain⟨bu,bE⟩:=ahy ax iO (ar.bj q.2) aV;exact⟨xs[k],ids,by simp,b4,bu,bE⟩);have FU:∀id∈is.flatten,∃u,az st.h id=some u:=by
  intro id bh;obtain⟨l,ah,j5⟩:=kN.1 bh;obtain⟨k,ac,rfl⟩:=jk.1 ah;have ky:parts.toList[k]?=some (parts.toList[k]'(by omega)):=ct _
  obtain⟨x,ids,_,e,_,aQ⟩:=mQ k _ ky;rw[ct ac] at e;cases e;exact aQ id j5
 obtain⟨Gl,PM,PN⟩:∃Ia:Array Value,(n*t.size=0->Ia=#[])/\(n*t.size≠0->∃p9,(zeroValue S).run E.P w=.ok p9 w/\Ia=p9.cells):=by
  by_cases aU:n*t.size=0
  ·exact⟨#[],fun _=>rfl,fun h=>absurd aU h⟩
  ·obtain⟨p9,_,Ql⟩:=ei.Pu iO;exact⟨p9.cells,fun h=>absurd h aU,fun _=>⟨p9,by simp[zeroValue,typeInfo,dp.info,Ql i dp.info],rfl⟩⟩
 obtain⟨kF,bX,bn,a9,bD⟩:=Fy (fun i=>some (i*t.size,t.size)) (parts.toList.map fun q=>(q.1,a.eval q.2)) ((Array.range (n*t.size)).map (Gl[· %Gl.size]!)) (by
  intro q ai;obtain⟨p,ay,rfl⟩:=dj.1 ai;obtain⟨k,ac,rfl⟩:=jk.1 ay;have ky:parts.toList[k]?=some parts.toList[k]:=(by simp);obtain⟨x,_,_,_,ab,_⟩:=mQ k _ ky;have e:=vZ jI k _ ky;have:(k+1)*t.size<=n*t.size:=jT _ (by omega);rw[iJ,kP] at this;refine⟨_,_,rfl,by have:=ab.len;simpa using this,?_⟩;simp only[Array.size_map,Array.size_range];rw[e,ks];exact this) (by
  rw[iX];intro k l ac ah pE hQ gP mf iC aC aV;simp only[List.getElem_map,cI,gz] at aC aV;simp only[iI] at ac ah;have f1:=vZ jI k parts.toList[k] (by simp);have cC:=vZ jI l parts.toList[l] (by simp);obtain⟨rfl,rfl⟩:=aC;obtain⟨rfl,rfl⟩:=aV;left;rw[f1,cC];have:(0+k+1)*t.size<=(0+l)*t.size:=jT _ (by omega);rw[iJ,kP] at this;exact this)
 have P8:kF.size=n*t.size:=(by rw[bn];simp);have bC:∀b,b<w.heap.size->c3 w (w.alloc (.cells kF S)) b:=fun b aa=>.of_heap ((hV.alloc w _).heap b aa);have K6:(is.map fun ids=>(ids.map fp).flatten).flatten=(is.flatten.map fp).flatten:=by
  clear mQ FU cd eh h iP jU
  induction is with
  |nil=>rfl
  |cons x l aT=>simp only[eY,kL,aT,jS,um]
 have cg:∀b∈(is.flatten.map fp).flatten,b<w.heap.size/\∃id∈is.flatten,∃u,az st.h id=some u/\b∈fp id:=(by intro b aa;obtain⟨id,bh,aa⟩:=Q4 aa;obtain⟨u,aQ⟩:=FU id bh;exact⟨((ar.tree id u aQ).2.2 b aa).2.2.1,id,bh,u,aQ,aa⟩);refine dW.own (S:=is.flatten) (t:=⟨.osl t,xs⟩) (cs:=[.slice (some ⟨w.heap.size,0,none⟩) n n]) (f:=w.heap.size::(is.flatten.map fp).flatten) (v:=.slice (some ⟨w.heap.size,0,none⟩) n n) (w':=w.alloc (.cells kF S)) aN c0 ar eb (.inr z1) ?_ (hV.alloc w _) rfl ?_ (lQ.2 ⟨fun ao=>Nat.lt_irrefl _ (cg _ ao).1,ar.dI (j7.ok eh) FU⟩) ?_ ?_
 ·have d8:=iO.sizeOf w;have fA:¬(16777216<n*t.size):=(by omega);have qE:(Array.map (fun x=>(x.fst,a.eval x.snd)) parts).toList=parts.toList.map fun q=>(q.1,a.eval q.2):=(by simp);simp only[execOp,aH,Instr.buildSlice,Sem.run_bind,run_underlying aX,Result.andThen_ok,d8];rw[if_neg (by omega)];by_cases aU:n*t.size=0
  ·rw[if_pos aU];obtain rfl:=PM aU;rw[qE];simp only[Sem.run_bind,Sem.run_pure,Result.andThen_ok,bX,newRow,newObj];rfl
  ·rw[if_neg aU];obtain⟨p9,Ge,rfl⟩:=PN aU;rw[qE];simp only[Sem.run_bind,Sem.run_pure,Result.andThen_ok,Ge,bX,newRow,newObj];rfl
 ·refine⟨some ⟨w.heap.size,0,none⟩,n,by rw[Gc],.inr ⟨w.heap.size,0,is.map fun ids=>(ids.map fp).flatten,rfl,by rw[K6],by simp;omega,(by show xs.length<=n;omega),jR.alloc (by rw[P8];omega),fun k x g ab aD=>?_⟩⟩;have ac:k<n:=(by have:k<xs.length:=(e9.1 ab).1;omega);have ky:parts.toList[k]?=some (parts.toList[k]'(by omega)):=by simp
  obtain⟨ht,ids,vg,dP,n9,aQ⟩:=mQ k _ ky;rw[ab] at vg;obtain rfl:=ff vg;rw[f5,dP] at aD;obtain rfl:=ff aD;refine⟨_,n9.len,es.alloc (fun j v al=>?_),n9.mono (fun m b aa=>⟨aa,bC b (ar.ib b (pQ aa))⟩) (fun b aa=>?_)⟩
  ·have:=bD (parts.toList[k].1,a.eval parts.toList[k].2) (dj.2 ⟨parts.toList[k],dt _,rfl⟩) _ _ rfl j v (by simpa using al);have e:=vZ jI k _ ky;rw[e,ks] at this;simpa using this
  ·obtain⟨id,bh,aa⟩:=Q4 aa;obtain⟨u,aQ⟩:=aQ id bh;exact bC b ((ar.tree id u aQ).2.2 b aa).2.2.1
 ·intro b aa;rcases dV.1 aa with rfl|aa
  ·exact .inl ⟨bS _,by simp⟩
  ·obtain⟨_,id,bh,u,aQ,aa⟩:=cg b aa;exact .inr ⟨id,bh,u,aQ,aa⟩
 ·have:=ai _ h;rw[show(b0.mk (some (d,.ref d [])) is.flatten [] [(d,⟨.osl t,xs⟩)]).app st=⟨(d,.ref d [])::kill is.flatten [] st.g,(d,⟨.osl t,xs⟩)::del is.flatten st.h⟩ by
   show ba.mk ((d,_)::pN _ [] st.g) ([_]++uO _ st.h)=_;rw[tB,zw];rfl] at this
  exact this
end
end
section
def ju:aq->aq
 |.osl t=>.bJ .cD (ju t)
 |.st t=>.st (ju t)
 |.pr a b=>.pr (ju a) (ju b)
 |.mp t=>.ee .cD t
 |τ=>τ
def xd:aq->Bool
 |.osl t|.st t=>xd t
 |.pr a b=>xd a&&xd b
 |.optr _|.dw=>false
 |_=>true
theorem xf:∀τ:aq,(ju τ).den=τ.den
 |.osl t=>congrArg List (xf t)
 |.st t=>xf t
 |.pr a b=>by show((ju a).den×(ju b).den)=(a.den×b.den);rw[xf a,xf b]
 |.int _|.bool|.str|.bJ _ _|.ptr _ _|.optr _|.nil|.dw|.mp _|.ee _ _=>rfl
def mM (τ:aq) (x:τ.den):(ju τ).den:=cast (xf τ).symm x
theorem ahf {A B:Type} (h:A=B) (a2:List A=List B) (xs:List A):cast a2 xs=xs.map (cast h):=by subst h;show xs=xs.map (fun x=>x);simp
theorem ahg {A B C D:Type} (h:A=B) (k:C=D) (a2:(A×C)=(B×D)) (x:A×C):cast a2 x=(cast h x.1,cast k x.2):=by subst h;subst k;rfl
theorem O4 (t:aq) (xs:List t.den):(mM (.osl t) xs:List (ju t).den)=xs.map (mM t):=ahf (xf t).symm _ xs
theorem ajS (a b:aq) (x:a.den×b.den):(mM (.pr a b) x:(ju a).den×(ju b).den)=(mM a x.1,mM b x.2):=ahg (xf a).symm (xf b).symm _ x
theorem zR:∀τ:aq,(ju τ).size=τ.size
 |.osl t=>rfl
 |.st t=>zR t
 |.pr a b=>by simp only[ju,aq.size,zR a,zR b]
 |.int _|.bool|.str|.bJ _ _|.ptr _ _|.optr _|.nil|.dw|.mp _|.ee _ _=>rfl
theorem Dv {M et:du->Nat->Prop} {w:World} (bC:∀m b,M m b->et m b):∀{τ:aq} {cs:List Value} {x:τ.den} {f:List Nat},xd τ=true->bi M w τ cs x f->(∀b∈f,et .cD b)->bi et w (ju τ) cs (mM τ x) []
 |.osl t,cs,xs,f,aH,h,aF=>by
  obtain⟨a,cap,rW,h⟩:=h;have ah:(mM (.osl t) xs:List (ju t).den).length=List.length (α:=t.den) xs:=(by rw[O4];simp);rcases h with⟨rfl,aU,rfl,rfl⟩|⟨b,o,dI,rfl,rfl,J,R,ae,aI⟩
  ·refine⟨rfl,none,0,by rw[rW,ah],by rw[ah,aU];simp,fun _=>rfl,.inl ?_⟩;rw[O4,aU];rfl
  ·refine⟨rfl,_,cap,by rw[rW,ah],by rw[ah];exact R,(fun h=>by cases h),?_⟩;refine .inr ⟨b,o,rfl,aF b (by simp),fun i x ab=>?_⟩;rw[O4] at ab;have ab:(List.map (mM t) xs)[i]?=some x:=ab;rw[f5] at ab;obtain⟨y,aB,rfl⟩:=eM.1 ab;have hi:i<List.length (α:=t.den) xs:=(e9.1 aB).1;have aD:dI[i]?=some (dI[i]'(by omega)):=ct _
   obtain⟨ds,cJ,cz,cX⟩:=aI i y _ aB aD;rw[zR];exact⟨ds,cJ,cz,Dv bC aH cX (fun c hc=>aF c (f6 _ (kN.2 ⟨_,dt _,hc⟩)))⟩
 |.st t,cs,x,f,aH,h,aF=>Dv (τ:=t) bC aH h aF
 |.pr a b,cs,x,f,aH,h,aF=>by
  simp only[xd,bM] at aH;obtain⟨f1,cC,rfl,J,R⟩:=h;have e:=ajS a b x;refine⟨[],[],rfl,?_,?_⟩
  ·rw[zR];have:=Dv bC aH.1 J (fun c hc=>aF c (by simp[hc]));rw[show(mM (.pr a b) x:(ju a).den×(ju b).den).1=mM a x.1 by rw[e]];exact this
  ·rw[zR];have:=Dv bC aH.2 R (fun c hc=>aF c (by simp[hc]));rw[show(mM (.pr a b) x:(ju a).den×(ju b).den).2=mM b x.2 by rw[e]];exact this
 |.int k,cs,x,f,_,h,_=>by obtain rfl:=bi.pure (τ:=.int k) rfl h;exact h.mono (fun m b aa=>⟨bC m b aa,c3.refl _ _⟩) (by simp)
 |.bool,cs,x,f,_,h,_=>by obtain rfl:=bi.pure (τ:=.bool) rfl h;exact h.mono (fun m b aa=>⟨bC m b aa,c3.refl _ _⟩) (by simp)
 |.str,cs,x,f,_,h,_=>by obtain rfl:=bi.pure (τ:=.str) rfl h;exact h.mono (fun m b aa=>⟨bC m b aa,c3.refl _ _⟩) (by simp)
 |.bJ m t,cs,x,f,_,h,_=>by obtain rfl:=bi.pure (τ:=.bJ m t) rfl h;exact h.mono (fun m b aa=>⟨bC m b aa,c3.refl _ _⟩) (by simp)
 |.ptr m t,cs,x,f,_,h,_=>by obtain rfl:=bi.pure (τ:=.ptr m t) rfl h;exact h.mono (fun m b aa=>⟨bC m b aa,c3.refl _ _⟩) (by simp)
 |.nil,cs,x,f,_,h,_=>by obtain rfl:=bi.pure (τ:=.nil) rfl h;exact h.mono (fun m b aa=>⟨bC m b aa,c3.refl _ _⟩) (by simp)
 |.optr _,_,_,_,aH,_,_=>by cases aH
 |.ee m t,cs,x,f,_,h,_=>by obtain rfl:=bi.pure (τ:=.ee m t) rfl h;exact h.mono (fun m b aa=>⟨bC m b aa,c3.refl _ _⟩) (by simp)
 |.mp t,cs,x,f,_,h,aF=>by
  cases x with
  |none=>exact⟨rfl,h.2⟩
  |some q=>
   obtain⟨b,bG,L,J,R,eQ,ae,aI,aX⟩:=h;refine⟨b,bG,L,J,rfl,eQ,aF b (by rw[R];simp),ae,aI,fun i q ai=>?_⟩;obtain⟨ds,cJ,cz,cX⟩:=aX i q ai;exact⟨ds,cJ,cz,cX.mono (fun m b aa=>⟨bC m b aa,c3.refl _ _⟩) (by simp)⟩
 |.dw,_,_,_,aH,_,_=>by cases aH
def uY:a1->aw
 |⟨.optr u,x⟩=>.val (.ptr .cD (ju u)) (some (mM u x))
 |⟨τ,x⟩=>.val (ju τ) (mM τ x)
def O5:aq->Bool
 |.optr u=>xd u
 |τ=>xd τ
def gC (h:List (Nat×a1)) (F:List Nat) (a:aw):aw:=
 match a with
 |.ref id []=>bif dJ id F then match az h id with
  |some t=>uY t
  |none=>.dead else .ref id []
 |a=>bif a.er F then .dead else a
theorem oP (h:List (Nat×a1)) (F:List Nat) (a:aw):(∃id t,a=.ref id []/\id∈F/\az h id=some t/\gC h F a=uY t)\/(gC h F a=.dead/\a.er F=true)\/(gC h F a=a/\a.er F=false):=by
 have gen:∀a:aw,gC h F a=(bif a.er F then .dead else a)->(∃id t,a=.ref id []/\id∈F/\az h id=some t/\gC h F a=uY t)\/(gC h F a=.dead/\a.er F=true)\/(gC h F a=a/\a.er F=false):=by
  intro a aG;cases aQ:a.er F with
  |true=>rw[aQ] at aG;exact .inr (.inl ⟨aG,rfl⟩)
  |false=>rw[aQ] at aG;exact .inr (.inr ⟨aG,rfl⟩)
 cases a with
 |ref id p=>
  cases p with
  |nil=>
   cases ao:dJ id F with
   |true=>
    have aQ:(aw.ref id []).er F=true:=(by simp[aw.er,aw.ids,ao]);cases ah:az h id with
    |none=>exact .inr (.inl ⟨by simp[gC,ao,ah],aQ⟩)
    |some t=>exact .inl ⟨id,t,rfl,eX.1 ao,ah,by simp[gC,ao,ah]⟩
   |false=>exact .inr (.inr ⟨by simp[gC,ao],by simp[aw.er,aw.ids,ao]⟩)
  |cons s p=>exact gen _ rfl
 |_=>exact gen _ rfl
def ja (h:List (Nat×a1)) (F:List Nat):aw->aw
 |.d3 l=>.d3 (l.map (gC h F))
 |a=>gC h F a
theorem KH {h:List (Nat×a1)} {F:List Nat} {a:aw} (aG:∀l,a≠.d3 l):ja h F a=gC h F a:=by
 cases a with
 |d3 l=>exact absurd rfl (aG l)
 |_=>rfl
def xe (F:List Nat) (st:ba):ba:=⟨st.g.map fun q=>(q.1,ja st.h F q.2),del F st.h⟩
theorem Wl (f:aw->aw) (aF:f .dead=.dead):∀(g:List (Nat×aw)) (k:Nat),gt (g.map fun q=>(q.1,f q.2)) k=f (gt g k)
 |[],k=>aF.symm
 |(k0,a)::g,k=>by
  show gt ((k0,f a)::_) k=_;rw[jv,jv];split
  ·rfl
  ·exact Wl f aF g k
theorem KJ (F:List Nat) (st:ba) (k:Nat):gt (xe F st).g k=ja st.h F (gt st.g k):=Wl (ja st.h F) rfl st.g k
theorem ajT (F:List Nat) (st:ba):bj (xe F st).g=fun x=>ja st.h F (bj st.g x):=by
 funext x;cases x with
 |tmp k=>exact KJ F st k
 |const v=>cases v<;>rfl
 |func f=>rfl
 |global g=>rfl
theorem M6 {F:List Nat} {a:aw} (h:a.er F=false) (keep:List (Nat×List bw)):d1 F keep a=a:=by unfold d1;rw[h];rfl
theorem auS {F:List Nat} {l:List aw} (h:(aw.d3 l).er F=false) {a:aw} (aG:a∈l):a.er F=false:=by unfold aw.er at h|-;rw[By] at h|-;intro id bh;obtain⟨i,hi,rfl⟩:=jk.1 aG;exact h id (aw.GY (l:=l) (i:=i) (ct hi) bh)
theorem auR {F:List Nat} {a:aw} (h:a.er F=false) (keep:List (Nat×List bw)):eT F keep a=a:=by
 cases a with
 |d3 l=>
  simp only[eT];rw[ke (fun a aG=>M6 (auS h aG) keep),List.map_id']
 |_=>exact M6 h keep
theorem zQ (S:List Nat) (keep:List (Nat×List bw)) (t:a1):eT S keep (uY t)=d1 S keep (uY t):=by unfold uY;split<;>rfl
def DS (a b:aw):Prop:=a=.dead\/a=b\/∃l l',a=.d3 l/\b=.d3 l'/\l.length=l'.length/\∀(i:Nat) (x y:aw),l[i]?=some x->l'[i]?=some y->x=.dead\/x=y
section
variable {C:dZ} {st:ba} {bY:Array Value} {w:World}
theorem cc.freeze {I:Nat->Prop} {rt:Nat->List Value} {fp:Nat->List Nat} (ar:cc C st bY w I rt fp) {F:List Nat} (c9:∀id∈F,∃t,az st.h id=some t/\O5 t.1=true):f7 C (xe F st) bY w:=by
 have aQ:=ar.fZ (S:=F) (keep:=[]) (new:=[]) (rtn:=rt) (fpn:=fp) (w':=w) (I':=fun b=>I b\/∃id∈F,∃t,az st.h id=some t/\b∈fp id) ⟨bS _,rfl,rfl,rfl,fun _ _ _=>rfl,fun _ _=>.refl _ _,fun _ h=>.inl h,fun b h=>h.imp id fun⟨id,bh,t,af,aa⟩=>
  ⟨((ar.tree id t af).2.2 b aa).2.2.1,.inr ⟨id,bh,t,af,aa⟩⟩,(fun _ _ h=>by cases h),(fun _ _ _ _ h=>by cases h),(fun _ h=>by cases h),(fun _ h=>by cases h)⟩
 refine⟨_,_,_,{aQ with tmp:=fun k=>?_}⟩;rw[KJ];have ac:=ar.tmp k;have mW:=aQ.tmp k;rw[show gt (ba.mk (kill F [] st.g) ([]++del F st.h)).g k=eT F [] (gt st.g k) from rQ _ _ _ _] at mW;generalize gt st.g k=av at ac mW;generalize bY.getD k undef=v at ac mW;have Ez:∀(av:aw) (v:Value),cw (bK I C.B) w st.h rt fp av v->cw (bK (fun b=>I b\/∃id∈F,∃t,az st.h id=some t/\b∈fp id) C.B) w ([]++del F st.h) (d9 [] rt rt) (d9 [] fp fp) (d1 F [] av) v->
  cw (bK (fun b=>I b\/∃id∈F,∃t,az st.h id=some t/\b∈fp id) C.B) w ([]++del F st.h) (d9 [] rt rt) (d9 [] fp fp) (gC st.h F av) v:=by
  intro av v ac mW;rcases oP st.h F av with⟨id,t,J,R,ae,aI⟩|⟨J,_⟩|⟨J,R⟩
  ·rw[aI];rw[J] at ac;cases ac with|ref af ag=>
   rw[ae] at af;cases af;obtain⟨rfl,rfl,rfl⟩:=bk.fH.1 ag;obtain⟨t',bx,xy⟩:=c9 id R;rw[ae] at bx;cases bx;have bC:∀m b,bK I C.B m b->bK (fun b=>I b\/∃id∈F,∃t,az st.h id=some t/\b∈fp id) C.B m b:=by
    intro m b aa;cases m
    ·exact .inl aa
    ·exact aa.imp .inl (fun h=>h)
   have n9:=(ar.tree id t ae).1;have Cz:∀b∈fp id,bK (fun b=>I b\/∃id∈F,∃t,az st.h id=some t/\b∈fp id) C.B .cD b:=fun b aa=>.inr ⟨id,R,t,ae,aa⟩;obtain⟨τ,x⟩:=t;by_cases aH:∃u,τ=.optr u
   ·obtain⟨u,rfl⟩:=aH;obtain⟨b,o,g,ds,aC,aV,b4,fo,pw,uR⟩:=n9;show cw _ _ _ _ _ (.val (.ptr .cD (ju u)) (some (mM u x))) _;have aC:rt id=[.pointer (some ⟨b,o,none⟩)]:=aC;rw[aC];refine .val (τ:=.ptr .cD (ju u)) (x:=some (mM u x)) (cs:=[.pointer (some ⟨b,o,none⟩)]) ⟨rfl,b,o,ds,rfl,Cz b (by rw[aV];exact mB ..),by rw[zR];exact b4,fo,Dv bC xy uR (fun c hc=>Cz c (by rw[aV];exact f6 _ hc))⟩
   ·have ama:cH τ (rt id)=cH (ju τ) (rt id):=by
     cases τ<;>rfl
    have Ga:uY ⟨τ,x⟩=.val (ju τ) (mM τ x):=by cases τ<;>first|rfl|exact absurd ⟨_,rfl⟩ aH
    have alS:xd τ=true:=by cases τ<;>first|exact xy|exact absurd ⟨_,rfl⟩ aH
    rw[Ga];show cw _ _ _ _ _ _ (cH τ (rt id));rw[ama];exact .val (Dv bC alS n9 Cz)
  ·rw[J];exact .dead _
  ·rw[J];rw[M6 R] at mW;exact mW
 cases av with
 |d3 l=>
  cases ac with|d3 ah ax=>
  cases mW with|d3 PP PL=>
  refine .d3 (by simp[ah]) (fun i a v J R=>?_);rw[f5] at J;obtain⟨a0,ae,rfl⟩:=eM.1 J;exact Ez a0 v (ax i a0 v ae R) (PL i _ v (by rw[f5,ae];rfl) R)
 |_=>exact Ez _ _ ac mW
theorem f7.Yt {cj:ba} (h:f7 C st bY w) (aD:∀k,DS (gt cj.g k) (gt st.g k)) (ax:∀id,az cj.h id=az st.h id):f7 C cj bY w:=by
 obtain⟨I,rt,fp,ar⟩:=h;refine⟨I,rt,fp,{ar with tree:=fun id t af=>ar.tree id t (by rw[<-ax];exact af),dis:=fun i j t u hi al=>ar.dis i j t u (by rw[<-ax];exact hi) (by rw[<-ax];exact al),tmp:=fun k=>?_}⟩;have mono:∀(a:aw) (v:Value),cw (bK I C.B) w st.h rt fp a v->cw (bK I C.B) w cj.h rt fp a v:=fun a v aG=>
  aG.xU (fun m b aa=>⟨aa,c3.refl _ _⟩) (fun id _ t af=>⟨by rw[ax];exact af,rfl,rfl,(ar.tree id t af).1,fun _ _=>c3.refl _ _⟩)
 have ac:=ar.tmp k;rcases aD k with e|e|⟨l,l',aC,aV,b4,fo⟩
 ·rw[e];exact .dead _
 ·rw[e];exact mono _ _ ac
 ·rw[aC];rw[aV] at ac;generalize bY.getD k undef=v at ac;cases ac with|d3 ah PL=>
  refine .d3 (b4.trans ah) (fun i a v J R=>?_);obtain⟨y,aB⟩:∃y,l'[i]?=some y:=(by have:=(e9.1 J).1;exact⟨_,ct (by omega)⟩);rcases fo i a y J aB with e|e
  ·rw[e];exact .dead _
  ·rw[e];exact mono _ _ (PL i y v aB R)
theorem f7.less {cj:ba} (h:f7 C st bY w) (aD:∀k,gt cj.g k=.dead\/gt cj.g k=gt st.g k) (ax:∀id,az cj.h id=az st.h id):f7 C cj bY w:=
 h.Yt (fun k=>(aD k).imp id .inl) ax
end
def wi:Op->List Operand
 |.build _ ps=>ps.toList.map (·.2)
 |.buildSlice _ _ ps=>ps.toList.map (·.2)
 |.store _ _ v=>[v]
 |.mapUpdate _ _ _ v=>[v]
 |.insert _ _ _ v=>[v]
 |.entryStore _ _ _ v=>[v]
 |.box _ v=>[v]
 |.assign v=>[v]
 |.call c=>match c.callee with
  |.value _=>c.args.toList
  |.builtin .append=>c.args.toList.drop 1
  |_=>[]
 |_=>[]
def zP (o:Oper):Nat:=match o.dst with
 |some d=>d
 |none=>999999
def n2 (hN:List axM) (k:Nat) (g:Operand->aw):List Operand->List Nat
 |[]=>[]
 |x::l=>match g x with
  |.ref id []=>bif hN.any (fun q=>Nat.beq q.1 k&&Nat.beq q.2 id) then id::n2 hN k g l else n2 hN k g l
  |_=>n2 hN k g l
end
section
theorem N9 {α:Type} {xs aS:List α} {lo hi:Nat} (J:lo<=hi) (R:hi<=xs.length):(mI xs aS lo hi).length=xs.length:=by unfold mI;simp only[qi,fl,pe];omega
theorem Vf {α:Type} {xs aS:List α} {lo hi:Nat} (J:lo<=hi) (R:hi<=xs.length) (i:Nat):(mI xs aS lo hi)[i]?=if lo<=i/\i<lo+min aS.length (hi-lo) then aS[i-lo]? else xs[i]?:=by
 unfold mI;rw[List.getElem?_append];simp only[fl];rcases ch i lo with h|h
 ·rw[if_pos (by omega),if_neg (by omega),oG h]
 ·rw[if_neg (by omega),List.getElem?_append];simp only[fl];have e:i-min lo xs.length=i-lo:=(by omega);rw[e];by_cases ac:i<lo+min aS.length (hi-lo)
  ·rw[if_pos (by omega),if_pos ⟨h,ac⟩,oG (by omega)]
  ·rw[if_neg (by omega),if_neg (by omega),ng];congr 1;omega
def uI {aR:Type} (tt:List (TypeId×aq)) (h:List (Nat×a1)) (d:Nat) (T:TypeId) (x y:aw) (K:b0->Option aR):Option aR:=
 match fU tt T with
 |none=>none
 |some u=>match x with
  |.ref id []=>match az h id with
   |some ⟨.osl σ,xs⟩=>bif bF u σ&&Nat.beq σ.size 1&&σ.pure then
     (mq h σ y).bind fun aS=>K ⟨some (d,.val (.int .i64) ((min aS.length (xs.length-0):Nat):Int)),[id],[(id,[])],[(id,⟨.osl σ,mI xs aS 0 xs.length⟩)]⟩
    else none
   |_=>none
  |.view id [] lo hi=>match az h id with
   |some ⟨.osl σ,xs⟩=>bif bF u σ&&Nat.beq σ.size 1&&σ.pure then
     (mq h σ y).bind fun aS=>K ⟨some (d,.val (.int .i64) ((min aS.length (hi-lo):Nat):Int)),[id],[(id,[])],[(id,⟨.osl σ,mI xs aS lo hi⟩)]⟩
    else none
   |_=>none
  |_=>none
theorem b0.agt {d:Nat} {av:aw} {S:List Nat} {keep:List (Nat×List bw)} {put:List (Nat×a1)} {st:ba}:(b0.mk (some (d,av)) S keep put).app st=⟨(d,av)::kill S keep st.g,put++del S st.h⟩:=by show ba.mk ((d,av)::pN S keep st.g) (put++uO S st.h)=_;rw[tB,zw]
section
variable {E:eI} {C:dZ} {st:ba} {a:Act} {w:World} {I:Nat->Prop} {rt:Nat->List Value} {fp:Nat->List Nat} {o:Oper}
theorem Tm (ar:cc C st a.tmps w I rt fp) {σ:aq} {y:Operand} {aS:List σ.den} (h:mq st.h σ (bj st.g y)=some aS):Ek I C.B w σ (a.eval y) aS:=by
 refine Bh ar ?_;have:=H2 h;generalize wq st.h σ (bj st.g y)=r at this;cases r with
 |d2 z=>exact this.symm
 |part α iV k=>obtain⟨q,J,rfl⟩:=this;exact⟨q,J,rfl⟩
 |bad=>exact this.elim
theorem N8 (ar:cc C st a.tmps w I rt fp) {aR:Type} {r:aR} {K:b0->Option aR} {T jo:TypeId} {x y:Operand} {d:Nat} (aH:o.op=.call {callee:=.builtin .copy,args:=#[x,y],argTypes:=#[T,jo]}) (aN:o.dst=some d) (c0:C.ok d) {next:Act->World->Prop} {X:Exit->Act->World->Prop} (eb:∀cj b2 w',(∃e,K e=some r/\cj=e.app st)->b2.defers=a.defers->f7 C cj b2.tmps w'->next b2 w') {u σ:aq} (bd:fU E.tt T=some u) (ah:bF u σ=true) (d8:σ.size=1) (ay:σ.pure=true) {id lo hi:Nat} {xs aS:List σ.den} (af:az st.h id=some ⟨.osl σ,xs⟩) (J:lo<=hi) (R:hi<=xs.length) (aB:Ek I C.B w σ (a.eval y) aS) {ad:Option Addr} {c:Nat} (ab:a.eval x=.slice ad (hi-lo) c) (Ah:hi-lo=0\/∃b off cap,rt id=[.slice (some ⟨b,off,none⟩) xs.length cap]/\ad=some ⟨b,off+lo,none⟩) (cn:K ⟨some (d,.val (.int .i64) ((min aS.length (hi-lo):Nat):Int)),[id],[(id,[])],[(id,⟨.osl σ,mI xs aS lo hi⟩)]⟩=some r):o.wp E.P a w next X:=by
 obtain⟨i,It,aK,aX,bI⟩:=fU.ok bd;have iO:=bI.lay ah;obtain⟨XU,_,dp,_⟩:=iO.info;obtain⟨t1,t2,t3⟩:=ar.tree id _ af;obtain⟨yd,avA,dG,Lt,u3,rX⟩:=aB;have fP:∀w':World,w'.heap.size=w.heap.size->w'.os=w.os->w'.tape=w.tape->w'.output=w.output->(∀b,b∉fp id->w'.heap[b]?=w.heap[b]?)->(∀b,jy w' b=jy w b)->bi (bK I C.B) w' (.osl σ) (rt id) (mI xs aS lo hi) (fp id)->
  (Builtin.copy_ #[T,jo] o.type #[a.eval x,a.eval y]).run E.P w=.ok (goInt ((min aS.length (hi-lo):Nat):Int)) w'->o.wp E.P a w next X:=by
  intro w' gP iC mm sp ye SL Hy eA;have eA:(execOp a.eval o).run E.P w=.ok (.value (goInt ((min aS.length (hi-lo):Nat):Int))) w':=(by simp only[execOp,aH,resolve,invoke,builtin,Sem.run_bind,Sem.run_pure,Result.andThen_ok,Eb,eY,List.map_nil,eA]);have aQ:=ar.fZ (S:=[id]) (keep:=[(id,[])]) (new:=[(id,⟨.osl σ,mI xs aS lo hi⟩)]) (rtn:=rt) (fpn:=fp) (w':=w') (I':=I)
   ⟨Nat.le_of_eq gP.symm,iC,mm,sp,fun b aa bB=>ye b (bB id (by simp) _ af),fun b _=>.of_eq (SL b),fun _ h=>h,fun _ h=>.inl h,(by
    intro i t' dP;rw[db] at dP;split at dP
    ·rename_i e;subst e;cases dP;exact⟨.inl (by simp),Hy,t2,fun b aa=>⟨(t3 b aa).1,by have:=(t3 b aa).2.2.1;omega,.inr ⟨_,by simp,_,af,aa⟩⟩⟩
    ·cases dP),(by
    intro i j p3 gg dP ny dz;rw[db] at dP ny;split at dP
    ·split at ny
     ·rename_i aC aV;exact absurd (aC.symm.trans aV) dz
     ·cases ny
    ·cases dP),(by
    intro e aE t' bx;simp only[fv] at aE;subst aE;have bx:az st.h id=some t':=bx;rw[af] at bx;obtain rfl:=ff bx;exact⟨⟨.osl σ,mI xs aS lo hi⟩,by rw[db,if_pos rfl],rfl,rfl,⟨_,rfl⟩,fun q _ _ _ ac=>by rw[LJ] at ac;cases ac⟩),(by
    intro e aE t' _ q _ _ _ _ _ aN;simp only[fv] at aE;subst aE;rw[zx] at aN;cases aN)⟩
  unfold Oper.wp;rw[eA];show next (a.put o.dst _) w'
  rw[aN];have ay:=aQ.put c0 (av:=.val (.int .i64) ((min aS.length (hi-lo):Nat):Int)) (v:=goInt ((min aS.length (hi-lo):Nat):Int)) (.val (τ:=.int .i64) (cs:=[.int .i64 _]) ⟨rfl,rfl⟩);have hrel:f7 C ((b0.mk (some (d,.val (.int .i64) ((min aS.length (hi-lo):Nat):Int))) [id] [(id,[])] [(id,⟨.osl σ,mI xs aS lo hi⟩)]).app st) (a.put (some d) (goInt ((min aS.length (hi-lo):Nat):Int))).tmps w':=(by rw[b0.agt];exact⟨I,_,_,ay⟩);exact eb _ _ _ ⟨_,cn,rfl⟩ rfl hrel
 have CB:Nat.min aS.length (hi-lo)=min aS.length (hi-lo):=rfl;by_cases ac:min aS.length (hi-lo)=0
 ·have akU:mI xs aS lo hi=xs:=by
   apply jj;intro i;rw[Vf J R,if_neg (by omega)]
  refine fP w rfl rfl rfl rfl (fun _ _=>rfl) (fun _=>rfl) (by rw[akU];exact t1) ?_;rw[ab,Lt,ac];exact run_copy_none w T jo o.type It ad yd _ _ _ _ aX (by rw[dp.info];simp[dp.size,d8]) (by rw[CB];exact ac)
 ·rcases Ah with aU|⟨b,off,cap,Ad,rfl⟩
  ·omega
  rw[Ad] at t1;obtain⟨av3,fy,aC,aV⟩:=t1;simp only[hh,Value.slice.injEq,and_true] at aC;obtain⟨rfl,_,rfl⟩:=aC;rcases aV with⟨ep,_⟩|⟨cP,Rt,dI,ep,nx,bT,bz,cZ,cU⟩
  ·cases ep
  cases ep;have bz:xs.length<=cap:=bz;have bT:dI.length=xs.length:=bT;have K6:dI.flatten=[]:=OU (fun f aF=>by
   obtain⟨i,dP,rfl⟩:=jk.1 aF;have W6:i<xs.length:=(by rw[<-bT];exact dP);obtain⟨ds,_,_,cX⟩:=cU i xs[i] dI[i] (by simp) (by simp);exact cX.pure ay)
  rw[K6] at nx;obtain⟨news,om,lF,se,o3⟩:=u3.cells (by omega);rw[d8,Nat.mul_one] at om;have XL:aS≠[]:=fun e=>(by rw[e] at ac;simp at ac);obtain⟨Ng,rfl⟩:∃Ng,yd=some Ng:=by
   rcases u3.2 with h|⟨dM,mf,rfl,_⟩
   ·exact absurd h XL
   ·exact⟨_,rfl⟩
  let cs:=news.take (min aS.length (hi-lo))
  have mP:cs.length=min aS.length (hi-lo):=(by simp[cs,om]);have akV:∀j v,cs[j]?=some v->news[j]?=some v:=fun j v al=>by
   rw[yL] at al;split at al
   ·exact al
   ·cases al
  have oT:∀j,j<cs.length->(w.cell? ⟨b,off+lo+j,none⟩).isSome=true:=fun j al=>(cZ (off+lo+j) (by omega) (by rw[d8];omega)).1;have eA:=run_copy_cells (P:=E.P) w T jo o.type It b (off+lo) (hi-lo) c Ng aS.length avA cs aX (by rw[dp.info];simp[dp.size,d8]) (by rw[mP]) (fun j v al=>se Ng rfl XL j v (akV j v al)) oT (fun j al=>(cZ (off+lo+j) (by omega) (by rw[d8];omega)).2) (fun v hv=>lF v (List.mem_of_mem_take hv));have WK:b∈fp id:=(by rw[nx];simp);have bC:∀m k,bK I C.B m k->k≠b:=fun m k ao e=>ar.notM af b WK m (e▸ao);refine fP (w.setCells b (off+lo) cs) (DC b cs _ w) (tX b cs _ w).1 (tX b cs _ w).2.1 (tX b cs _ w).2.2 (fun k ac=>HB b cs _ w k (fun e=>ac (e▸WK))) (fun k=>GV _ _ _ _ _) ?_ ?_
  ·rw[Ad,nx];refine⟨some ⟨b,off,none⟩,cap,by rw[N9 J R],.inr ⟨b,off,List.replicate xs.length [],rfl,by rw[OU (fun f aF=>List.eq_of_mem_replicate aF)],by rw[N9 J R];simp,by rw[N9 J R];exact bz,?_,?_⟩⟩
   ·intro j Gn oZ;obtain⟨Bi,yy⟩:=cZ j Gn oZ;exact⟨by rw[<-Bi,show j=(off+lo)+j-(off+lo) by omega];exact(SJ b cs (off+lo) w oT _).trans (by congr 1),by rw[World.frozen?_setCells];exact yy⟩
   ·intro i z f aZ aF;have ak7:f=[]:=by
     have:=nQ aF;exact List.eq_of_mem_replicate this
    subst ak7;rw[Vf J R] at aZ;have mono:∀{ds:List Value} {z:σ.den},bi (bK I C.B) w σ ds z []->bi (bK I C.B) (w.setCells b (off+lo) cs) σ ds z []:=fun hr=>hr.mono (fun m k ao=>⟨ao,v2 (bC m k ao)⟩) (by simp);split at aZ
    ·rename_i Cz;have al:i-lo<cs.length:=(by omega);have ale:dG[i-lo]?=some []:=by
      have PP:i-lo<dG.length:=(by rw[u3.1];omega);rw[ct PP];have:dG[i-lo]∈dG:=dt PP;congr 1;exact(List.flatten_eq_nil_iff.1 rX) _ this
     have hr:=o3 (i-lo) z [] aZ ale;rw[d8,Nat.mul_one] at hr;have akZ:(news.drop (i-lo)).take 1=[cs[i-lo]]:=(by have alr:i-lo<news.length:=(by omega);rw[List.drop_eq_getElem_cons alr];simp only[List.take_succ_cons,List.take_zero,hh,and_true];simp[cs]);rw[akZ] at hr;refine⟨[cs[i-lo]],by simp[d8],?_,mono hr⟩;intro j v hv;cases j with
     |zero=>
      simp only[ld,cI] at hv;subst hv;have:=World.cell?_setCells_in b cs (off+lo) w oT (i-lo) al;rw[<-this,d8];congr 2;omega
     |succ j=>simp at hv
    ·rename_i PZ;have j5:i<xs.length:=(e9.1 aZ).1;obtain⟨ds,cJ,cz,cX⟩:=cU i z (dI[i]'(by omega)) aZ (by simp)
     have aE:dI[i]'(by omega)=[]:=cX.pure ay
     rw[aE] at cX;refine⟨ds,cJ,?_,mono cX⟩;intro j v hv;have:=cz j v hv;have al:j<ds.length:=(e9.1 hv).1;rw[World.cell?_setCells_out b cs (off+lo) w _ (fun _ _=>?_)]
     ·exact this
     ·rw[cJ,d8] at al;simp only[d8];omega
  ·rw[ab,Lt];have:goInt ((min aS.length (hi-lo):Nat):Int)=goInt cs.length:=(by rw[mP]);rw[this];exact eA
theorem dW.copy {aR:Type} {r:aR} {K:b0->Option aR} {T jo:TypeId} {x y:Operand} {d:Nat} (aH:o.op=.call {callee:=.builtin .copy,args:=#[x,y],argTypes:=#[T,jo]}) (aN:o.dst=some d) (c0:C.ok d) (h:uI E.tt st.h d T (bj st.g x) (bj st.g y) K=some r):dW E C o st (fun s=>∃e,K e=some r/\s=e.app st):=by
 rintro a w ⟨I,rt,fp,ar⟩ next X eb
 have ab:=ar.bj x;unfold uI at h;split at h
 ·cases h
 rename_i u aQ;split at h
 ·rename_i id ex;split at h
  case h_2=>cases h
  rename_i σ xs af;cases aa:(bF u σ&&Nat.beq σ.size 1&&σ.pure) with
  |false=>rw[aa] at h;cases h
  |true=>
  rw[aa] at h;simp only[bM] at aa;obtain⟨aS,gE,h⟩:=dk.1 h;rw[ex] at ab;generalize hv:a.eval x=v at ab;cases ab with|ref bx ag=>
  rw[af] at bx;cases bx;obtain⟨rfl,rfl,rfl⟩:=bk.fH.1 ag;have t1:=(ar.tree id _ af).1;obtain⟨ad,cap,aC,aV⟩:=t1;have lz:a.eval x=.slice ad (xs.length-0) cap:=(by rw[hv,aC];rfl);refine N8 ar aH aN c0 eb aQ aa.1.1 (eZ aa.1.2) aa.2 af (eL _) (bS _) (Tm ar gE) lz ?_ h;rcases aV with⟨_,rfl,_⟩|⟨b,off,dI,rfl,_⟩
  ·exact .inl rfl
  ·exact .inr ⟨b,off,cap,aC,rfl⟩
 ·rename_i id lo hi ex;split at h
  case h_2=>cases h
  rename_i σ xs af;cases aa:(bF u σ&&Nat.beq σ.size 1&&σ.pure) with
  |false=>rw[aa] at h;cases h
  |true=>
  rw[aa] at h;simp only[bM] at aa;obtain⟨aS,gE,h⟩:=dk.1 h;rw[ex] at ab;generalize hv:a.eval x=v at ab;cases ab with|nJ=>(exact N8 ar aH aN c0 eb aQ aa.1.1 (eZ aa.1.2) aa.2 af (bS _) (eL _) (Tm ar gE) hv (.inl rfl) h)|view bx ag da l2 md=>
  rw[af] at bx;cases bx;rename_i τ' loc b off len cap;obtain⟨ep,_,b4⟩:=bk.fH.1 ag;have ep:aq.osl σ=aq.osl τ':=ep;cases ep;have d8:=eZ aa.1.2;have t1:=(ar.tree id _ af).1;obtain⟨ad,fy,aC,aV⟩:=t1;rw[aC] at b4;simp only[hh,Value.slice.injEq,and_true] at b4;obtain⟨rfl,rfl,rfl⟩:=b4;refine N8 ar aH aN c0 eb aQ aa.1.1 d8 aa.2 af da l2 (Tm ar gE) hv ?_ h;by_cases hc:fy=lo
  ·left;omega
  ·exact .inr ⟨b,off,fy,aC,by rw[if_neg hc,d8,Nat.mul_one]⟩
 ·cases h
end
end
section
theorem bk.cells {w w':World} (h:∀a,w'.cell? a=w.cell? a):∀{p:List bw} {τ τ':aq} {loc dE:Loc} {cs b3:List Value},bk w τ loc cs p τ' dE b3->bk w' τ loc cs p τ' dE b3
 |[],τ,_,_,_,_,_,ag=>by cases τ<;>exact ag
 |s::p,τ,τ',loc,dE,cs,b3,ag=>by
  have jM:∀{b o:Nat} {ds:List Value},es w b o ds->es w' b o ds:=fun aG j v al=>(by rw[h];exact aG j v al);cases τ<;>cases s<;>simp only[bk] at ag
  case osl.idx t i=>
   obtain⟨b,o,len,cap,ds,J,R,ae,aI,aX⟩:=ag;exact⟨b,o,len,cap,ds,J,R,ae,jM aI,aX.cells h⟩
  case optr.deref t=>
   obtain⟨b,o,ds,J,R,ae,aI⟩:=ag;exact⟨b,o,ds,J,R,jM ae,aI.cells h⟩
  case st.unst t=>exact bk.cells h (τ:=t) ag
  case pr.fst a b=>exact bk.cells h (τ:=a) ag
  case pr.snd a b=>exact bk.cells h (τ:=b) ag
theorem auD (τ:aq):el τ []=some τ:=by cases τ<;>rfl
theorem bk.DJ {w:World} {r:List bw}:∀{p:List bw} {τ τ':aq} {l l':Loc} {cs b3:List Value},bk w τ l cs p τ' l' b3->el τ (p++r)=el τ' r
 |[],τ,_,_,_,_,_,h=>by obtain⟨rfl,_⟩:=bk.fH.1 h;rfl
 |s::p,τ,_,_,_,_,_,h=>by
  cases τ<;>cases s<;>simp only[bk] at h
  case osl.idx t i=>obtain⟨b,o,len,cap,ds,J,R,ae,aI,aX⟩:=h;exact aX.DJ
  case optr.deref t=>obtain⟨b,o,ds,J,R,ae,aI⟩:=h;exact aI.DJ
  case st.unst t=>exact bk.DJ (p:=p) (τ:=t) h
  case pr.fst t1 t2=>exact bk.DJ (p:=p) (τ:=t1) h
  case pr.snd t1 t2=>exact bk.DJ (p:=p) (τ:=t2) h
section
variable {E:eI} {C:dZ} {st:ba} {a:Act} {bY:Array Value} {w:World} {I:Nat->Prop} {rt:Nat->List Value} {fp:Nat->List Nat} {o:Oper} {Q:ba->Prop}
theorem Vm:∀{p q:List bw},lX (p++[.deref]) q=true->lX p q=true
 |[],q,h=>by
  cases q with
  |nil=>cases h
  |cons s q=>
   cases s<;>cases h
 |s::p,[],h=>by cases s<;>cases h
 |s::p,s'::q,h=>by cases s<;>cases s'<;>first|(cases h;done)|exact Vm (p:=p) (q:=q) h|rfl
theorem cc.LY (ar:cc C st bY w I rt fp) {id:Nat} {t:a1} (af:az st.h id=some t) {p:List bw} {τ τ':aq} {loc:Loc} {cs:List Value} (ag:bk w t.1 none (rt id) p τ' loc cs) {l:List (Int×τ.den)} {c:Nat} (aD:dr t.1 t.2 p (.mp τ) (some (l,c))):∃b bG L,cs=[.map (some b)]/\b∈fp id/\(∀m k,bK I C.B m k->k≠b)/\gT (bK I C.B) w τ b l c bG L/\∀{es':Array MapEntry} {c':Nat} {l':List (Int×τ.den)} {hW:List (Int×Nat×τ.den)} {z:t.1.den},gT (bK I C.B) (fX w b es' c') τ b l' c' es' hW->lO w (fX w b es' c') b->ea t.1 t.2 p (.mp τ) (some (l',c')) z->∃rtn fpn,cc C ⟨kill [id] [(id,p++[.deref])] st.g,(id,⟨t.1,z⟩)::del [id] st.h⟩ bY (fX w b es' c') I rtn fpn:=by
 obtain⟨hr,CF,K2⟩:=ar.tree id t af;obtain⟨dE,Oa,hM,dK,bT,bz,cZ,cU,gD,jZ,nq⟩:=FA p (loc:=none) hr (fun _ _ h=>by cases h) CF (fun _ _ h=>by cases h) (ar.notM af) aD;obtain⟨ep,aC,aV⟩:=ag.jX bT;subst ep;subst aC;subst aV;obtain⟨b,bG,L,rfl,rfl,bC⟩:=bz.YZ;have aa:b∈fp id:=cU.mem_iff.2 (by simp);have n4:∀m k,bK I C.B m k->k≠b:=fun m k ac e=>ar.notM af b aa m (e▸ac);refine⟨b,bG,L,rfl,aa,n4,bC,?_⟩;intro es' c' l' hW z Pm PE hs;have pG:=cU.nodup_iff.1 CF;rw[kO] at pG;have kY:∀k∈dK,k≠b:=fun k ac e=>pG.2.2 b (by simp) k ac e.symm;have oT:=atK (es':=es') (c':=c') bC.h;have alb:=atL (es':=es') (c':=c') bC.h;have CL:∀k,k≠b->c3 w (fX w b es' c') k:=fun k ac=>MO ac;obtain⟨fa,hA,bu,_,bE,_,cl,_,h9⟩:=jZ (fX w b es' c') (bK I C.B) [.map (some b)] (some (l',c')) [b] z (fun _ _ h=>h) (fun k ac=>by
   have alu:k≠b:=by
    rcases ac with⟨m,ao⟩|ac|⟨o,aH⟩
    ·exact n4 m k ao
    ·exact kY k ac
    ·cases aH
   exact⟨fun j _=>oT _,fun j=>alb _,fun j=>by rw[oT],(CL k alu).2⟩)
  (bi.Y0 Pm) (fun _ _=>rfl) (fun dn hQ e=>by
   have:=(cZ dn hQ e).1;exact fun j v al=>by rw[oT];exact this j v al) hs
 obtain rfl:=bE rfl (.inr rfl);have cg:=(K2 b aa).2.2.1;have aQ:pj C st w (fX w b es' c') I I rt fp [id] [(id,p++[.deref])] [(id,⟨t.1,z⟩)] (fun _=>rt id) (fun _=>hA):=by
  refine⟨by rw[abf];exact bS _,rfl,rfl,rfl,?_,?_,fun _ h=>h,fun _ h=>.inl h,?_,?_,?_,?_⟩
  ·intro k _ ac;exact HC (fun e=>ac id (by simp) t af (e▸aa))
  ·intro k _;by_cases e:k=b
   ·subst e;exact PE
   ·exact .of_heap (HC e)
  ·intro i u aQ;rw[db] at aQ;split at aQ
   ·rename_i e;subst e;cases aQ;refine⟨.inl (by simp),bu,?_,fun k ac=>?_⟩
    ·rw[cl.nodup_iff,<-cU.nodup_iff];exact CF
    ·have ky:k∈fp id:=cU.mem_iff.2 (cl.mem_iff.1 ac);obtain⟨aK,aL,a8,bH⟩:=K2 k ky;exact⟨aK,by rw[abf];exact a8,.inr ⟨id,by simp,t,af,ky⟩⟩
   ·cases aQ
  ·intro i j u v hi al dz;rw[db] at hi al;split at hi
   ·split at al
    ·rename_i aC aV;exact absurd (aC.symm.trans aV) dz
    ·cases al
   ·cases hi
  ·intro i hi u aQ;simp only[fv] at hi;subst hi;rw[af] at aQ;obtain rfl:=ff aQ;refine⟨⟨t.1,z⟩,by rw[db,if_pos rfl],rfl,rfl,?_,fun q gx ha gq _ ai=>ai.cells oT⟩;have J:=ag.DJ (r:=[.deref]);have:∃nb,el (.mp τ) [.deref]=some nb:=⟨τ,auD τ⟩;rw[J];exact this
  ·intro i hi u aQ q f2 Tg l2 cd cC aN fA h6 h5 e2;simp only[fv] at hi;subst hi;rw[af] at aQ;obtain rfl:=ff aQ;have aN:=Vm aN;refine⟨⟨t.1,z⟩,by rw[db,if_pos rfl],zy aN hs h5,fun k ac=>?_⟩;obtain⟨aK,aL⟩:=nq q _ _ _ _ _ aN (by exact fA) h5 h6 e2 k ac;exact⟨cl.mem_iff.2 (oH _ aK),CL k (kY k aK)⟩
 exact⟨_,_,ar.fZ aQ⟩
def vw {α:Type} (m:Option (List (Int×α)×Nat)) (k:Int) (v:α):Option (Option (List (Int×α)×Nat)):=match m with
 |none=>none
 |some q=>some (some (jg q.1 k v,bif (eU q.1 k).isSome then q.2 else q.2+1))
def qO {aR:Type} (tt:List (TypeId×aq)) (h:List (Nat×a1)) (T:TypeId) (x k v:aw) (K:b0->Option aR):Option aR:=
 match x with
 |.ref id p=>match az h id with
  |some b5=>match mb tt T,k,v with
   |some u,.val (.int .i64) k,.val τ y=>match el b5.1 p with
    |some (.mp t)=>bif bF u t then match h1 t y with
     |some y=>(hO b5.1 b5.2 p (.mp t)).bind fun fW=>(vw (α:=t.den) fW k y).bind fun vD=>(ow b5.1 b5.2 p (.mp t) vD).bind fun z=>K ⟨none,[id],[(id,p++[.deref])],[(id,⟨b5.1,z⟩)]⟩
     |none=>none
     else none
    |_=>none
   |_,_,_=>none
  |none=>none
 |_=>none
def an8 {α:Type} (m:Option (List (Int×α)×Nat)) (k:Int):Option (Option (List (Int×α)×Nat)):=match m with
 |none=>none
 |some q=>some (some (jO q.1 k,q.2))
def vB {aR:Type} (tt:List (TypeId×aq)) (h:List (Nat×a1)) (T:TypeId) (x k:aw) (K:b0->Option aR):Option aR:=
 match x with
 |.ref id p=>match az h id with
  |some b5=>match mb tt T,k with
   |some u,.val (.int .i64) k=>match el b5.1 p with
    |some (.mp t)=>bif bF u t then
     (hO b5.1 b5.2 p (.mp t)).bind fun fW=>(an8 (α:=t.den) fW k).bind fun vD=>(ow b5.1 b5.2 p (.mp t) vD).bind fun z=>K ⟨none,[id],[(id,p++[.deref])],[(id,⟨b5.1,z⟩)]⟩
     else none
    |_=>none
   |_,_=>none
  |none=>none
 |_=>none
theorem Y4 {aR:Type} {r:aR} {K:b0->Option aR} {T:TypeId} {x k v:Operand} (aH:o.op=.mapUpdate T x k v\/o.op=.insert T x k v) (pC:o.dst=none) (h:qO E.tt st.h T (bj st.g x) (bj st.g k) (bj st.g v) K=some r):dW E C o st (fun s=>∃e,K e=some r/\s=e.app st):=by
 rintro a w ⟨I,rt,fp,ar⟩ next X eb
 have ab:=ar.bj x;have ac:=ar.bj k;have hv:=ar.bj v;unfold qO at h;split at h
 case h_2=>cases h
 rename_i id p ex;split at h
 case h_2=>cases h
 rename_i b5 af;split at h
 case h_2=>cases h
 rename_i u n τ g4 bd s1 h2;obtain⟨Nn,S,t1,t2,t3⟩:=mb.ok bd;split at h
 case h_2=>cases h
 rename_i t fB;cases aa:bF u t with
 |false=>rw[aa] at h;cases h
 |true=>
 rw[aa] at h;simp only[cond_true] at h;split at h
 case h_2=>cases h
 rename_i y aB;obtain⟨fW,aD,J⟩:=dk.1 h;obtain⟨vD,ao,R⟩:=dk.1 J;obtain⟨z,aZ,ae⟩:=dk.1 R;cases fW with
 |none=>cases ao
 |some q=>
 obtain⟨l,c⟩:=q;cases ao;cases ll aB;rw[ex] at ab;rw[s1] at ac;rw[h2] at hv;generalize ix:a.eval x=DO at ab;generalize xq:a.eval k=QI at ac;generalize r3:a.eval v=Bc at hv;cases ac with|val AY=>
 obtain⟨_,rfl⟩:=AY;cases hv with|val eV=>
 cases ab with|ref bx ag=>
 rw[af] at bx;cases bx;obtain⟨b,bG,L,rfl,aa,n4,bC,pD⟩:=ar.LY af ag (jb aD);have:=ag.ty;rw[fB] at this;cases this;obtain⟨es',hW,aK,aL,a8⟩:=bC.update (P:=E.P) t1 t2 n eV.len eV;obtain⟨rtn,fpn,ev⟩:=pD (aL (fun m k ac=>⟨ac,n4 m k ac⟩)) a8 (o8 aZ);unfold Oper.wp;have eA:(execOp a.eval o).run E.P w=.ok .skip (fX w b es' (bif (eU l n).isSome then c else c+1)):=by
  have this:∀t:aq,cH (.mp t) [Value.map (some b)]=.map (some b):=fun _=>rfl;rcases aH with aH|aH<;>
  ·simp only[execOp,aH,ix,xq,r3,Sem.run_bind];rw[this,show cH (.int .i64) [Value.int .i64 n]=.int .i64 n from rfl,aK];rfl
 rw[eA];show next (a.put o.dst undef) _
 rw[pC];refine eb _ _ _ ⟨_,ae,?_⟩ rfl ⟨I,rtn,fpn,ev⟩;rfl
theorem aoD {aR:Type} {r:aR} {K:b0->Option aR} {T sR:TypeId} {x k:Operand} (aH:o.op=.call {callee:=.builtin .delete,args:=#[x,k],argTypes:=#[T,sR]}) (pC:o.dst=none) (h:vB E.tt st.h T (bj st.g x) (bj st.g k) K=some r):dW E C o st (fun s=>∃e,K e=some r/\s=e.app st):=by
 rintro a w ⟨I,rt,fp,ar⟩ next X eb
 have ab:=ar.bj x;have ac:=ar.bj k;unfold vB at h;split at h
 case h_2=>cases h
 rename_i id p ex;split at h
 case h_2=>cases h
 rename_i b5 af;split at h
 case h_2=>cases h
 rename_i u n bd s1;obtain⟨Nn,S,t1,t2,t3⟩:=mb.ok bd;split at h
 case h_2=>cases h
 rename_i t fB;cases aa:bF u t with
 |false=>rw[aa] at h;cases h
 |true=>
 rw[aa] at h;simp only[cond_true] at h;obtain⟨fW,aD,J⟩:=dk.1 h;obtain⟨vD,ao,R⟩:=dk.1 J;obtain⟨z,aZ,ae⟩:=dk.1 R;cases fW with
 |none=>cases ao
 |some q=>
 obtain⟨l,c⟩:=q;cases ao;rw[ex] at ab;rw[s1] at ac;generalize ix:a.eval x=DO at ab;generalize xq:a.eval k=QI at ac;cases ac with|val AY=>
 obtain⟨_,rfl⟩:=AY;cases ab with|ref bx ag=>
 rw[af] at bx;cases bx;obtain⟨b,bG,L,rfl,aa,n4,bC,pD⟩:=ar.LY af ag (jb aD);have:=ag.ty;rw[fB] at this;cases this;obtain⟨es',hW,aK,aL,a8⟩:=bC.delete (P:=E.P) t1 t2 n o.type sR;obtain⟨rtn,fpn,ev⟩:=pD (aL (fun m k ac=>⟨ac,n4 m k ac⟩)) a8 (o8 aZ);unfold Oper.wp;have eA:(execOp a.eval o).run E.P w=.ok (.value (.tuple #[])) (fX w b es' c):=(by simp only[execOp,aH,resolve,invoke,builtin,Sem.run_bind,Sem.run_pure,Result.andThen_ok,Eb,eY,List.map_nil,ix,xq];have this:∀t:aq,cH (.mp t) [Value.map (some b)]=.map (some b):=fun _=>rfl;rw[this,show cH (.int .i64) [Value.int .i64 n]=.int .i64 n from rfl,aK];rfl);rw[eA];show next (a.put o.dst (.tuple #[])) _
 rw[pC];refine eb _ _ _ ⟨_,ae,?_⟩ rfl ⟨I,rtn,fpn,ev⟩;rfl
def AK (h:List (Nat×a1)) (x y:aw):Option (Nat×List bw×Nat×a1):=match x,y with
 |.ref id (s::p),.ref cO []=>match az h cO with
  |some t=>match t.1 with
   |.osl σ=>match σ.pure with
    |true=>none
    |false=>some (id,s::p,cO,t)
   |_=>none
  |none=>none
 |_,_=>none
def En {aR:Type} (tt:List (TypeId×aq)) (h:List (Nat×a1)) (d:Nat) (T:TypeId) (id:Nat) (p:List bw) (cO:Nat) (t2:a1) (K:b0->Option aR):Option aR:=
 match fU tt T,az h id,az h d with
 |some u,some b5,none=>match el b5.1 p with
  |some (.osl σ)=>match h1 (.osl σ) t2.2 with
   |some aS=>bif bF u σ&&(Nat.ble σ.size 1300&&(σ.gd&&!(Nat.beq cO id))) then
     (hO b5.1 b5.2 p (.osl σ)).bind fun xs=>(dA (List.length (α:=σ.den) xs+List.length (α:=σ.den) aS)).bind fun _=>K ⟨some (d,.app id p σ aS [d,cO]),[id],[(id,p),(id,[])],[(d,⟨.dw,()⟩),(id,b5)]⟩
    else none
   |none=>none
  |_=>none
 |_,_,_=>none
def qp {aR:Type} (tt:List (TypeId×aq)) (an:List (Nat×aq)) (h:List (Nat×a1)) (d:Nat) (T:TypeId) (x y:aw) (K:b0->Option aR):Option aR:=match AK h x y with
 |some (id,p,cO,t)=>En tt h d T id p cO t K
 |none=>rx tt an h d T x y K
theorem RW {h:List (Nat×a1)} {x y:aw} {id:Nat} {p:List bw} {cO:Nat} {t:a1} (ax:AK h x y=some (id,p,cO,t)):x=.ref id p/\y=.ref cO []/\az h cO=some t:=by
 unfold AK at ax;split at ax
 ·split at ax
  ·rename_i t' af;split at ax
   ·split at ax
    ·cases ax
    ·cases ax;exact⟨rfl,rfl,af⟩
   ·cases ax
  ·cases ax
 ·cases ax
theorem agq {aR:Type} {r:aR} {K:b0->Option aR} {an:List (Nat×aq)} {T:TypeId} {x y:Operand} {d:Nat} (aH:o.op=.call {callee:=.builtin .append,args:=#[x,y],argTypes:=#[T,T]}) (aN:o.dst=some d) (c0:C.ok d) (h:qp E.tt an st.h d T (bj st.g x) (bj st.g y) K=some r):dW E C o st (fun s=>∃e,K e=some r/\s=e.app st):=by
 unfold qp at h;split at h
 case h_2=>exact dW.app aH aN c0 (agn h (fun e aE=>⟨e,aE,rfl⟩))
 rename_i id p cO t2 mU;obtain⟨oU,u3,kA⟩:=RW mU;unfold En at h;split at h
 case h_2=>cases h
 rename_i u b5 bd af jN;split at h
 case h_2=>cases h
 rename_i σ fB;split at h
 case h_2=>cases h
 rename_i aS gE;cases aa:(bF u σ&&(Nat.ble σ.size 1300&&(σ.gd&&!(Nat.beq cO id)))) with
 |false=>rw[aa] at h;cases h
 |true=>
 rw[aa] at h;simp only[bM] at aa;obtain⟨ah,d8,fA,cL⟩:=aa;have cL:cO≠id:=fun e=>(by subst e;rw[wG] at cL;cases cL);obtain⟨xs,ab,J⟩:=dk.1 h;obtain⟨_,gK,R⟩:=dk.1 J;obtain⟨f2,dL⟩:=t2;cases ll gE;rintro a w ⟨I,rt,fp,ar⟩ next X eb
 refine Un (S2:=[cO]) aH aN c0 ar eb bd ah (fw d8) fA oU af jN (jb ab) ?_ ?_ (C5 gK) ⟨_,R,rfl⟩
 ·have aB:=ar.bj y;rw[u3] at aB;generalize r3:a.eval y=Bc at aB;cases aB with|ref bx iw=>
  rw[kA] at bx;cases bx;obtain⟨rfl,rfl,rfl⟩:=bk.fH.1 iw;obtain⟨bX,bn,a9⟩:=ar.tree cO _ kA;have AQ:=bX;obtain⟨ad,cap,Ad,kY⟩:=AQ;have Dt:bi (bK I C.B) w (.osl σ) [.slice ad (List.length (α:=σ.den) dL) cap] dL (fp cO):=(by rw[<-Ad];exact bX);obtain⟨_,_,dG,aE,j1,lw,_⟩:=k9.osl Dt;exact⟨ad,cap,dG,by rw[Ad];rfl,aE,lw bn,fun b aa=>⟨cO,by simp,_,kA,j1 b aa⟩⟩
 ·intro i hi;simp only[fv] at hi;subst hi;exact⟨cL,_,kA⟩
end
end
section
section
variable {P:Program} {w:World} {b c:Nat} {bG:Array MapEntry} {M:du->Nat->Prop} {t:aq} {l:List (Int×t.den)} {L:List (Int×Nat×t.den)}
theorem SK {OK Fu:Array MapEntry} {c4 cd:Nat} (h:w.heap[b]?=some (.map bG c)) (e:fX w b OK c4=fX w b Fu cd):OK=Fu/\c4=cd:=by have J:=p1 (es':=OK) (c':=c4) h;rw[e,p1 h] at J;simp only[cI,Obj.map.injEq] at J;exact⟨J.1.symm,J.2.symm⟩
theorem gT.Uy (h:gT M w t b l c bG L) {i:Nat} {e:MapEntry} (hi:bG[i]?=some e):∃q ds,L[i]?=some q/\e=⟨.int .i64 q.1,cH t ds,q.2.1⟩:=by have ah:i<L.length:=(by have:=(qa.1 hi).1;rw[h.n] at this;exact this);obtain⟨ds,_,R,_⟩:=h.e i L[i] (ct ah);rw[hi] at R;exact⟨L[i],ds,ct ah,ff R⟩
theorem gT.auL (h:gT M w t b l c bG L) {i j:Nat} {p q:Int×Nat×t.den} (hi:L[i]?=some p) (al:L[j]?=some q) (e:p.1=q.1):i=j:=by have eh:=h.sc.Dh;have j5:i<(L.map (·.1)).length:=(by have:=(e9.1 hi).1;simpa using this);apply(List.getElem?_inj j5 eh (i:=i) (j:=j)).1;rw[f5,f5,hi,al];simp[e]
theorem gT.auK (h:gT M w t b l c bG L) {i j:Nat} {p q:Int×Nat×t.den} (hi:L[i]?=some p) (al:L[j]?=some q) (e:p.2.1=q.2.1):i=j:=by have eh:=h.sc.2.2.1;have j5:i<(L.map fun q=>q.2.1).length:=(by have:=(e9.1 hi).1;simpa using this);apply(List.getElem?_inj j5 eh (i:=i) (j:=j)).1;rw[f5,f5,hi,al];simp[e]
theorem YY {α:Type} {xs:Array α} {i:Nat} {f g:α->α} (h:∀e,xs[i]?=some e->f e=g e):xs.modify i f=xs.modify i g:=by
 apply Array.ext_getElem?;intro j;rw[wu,wu];split
 ·rename_i e;subst e;cases ab:xs[i]? with
  |none=>rfl
  |some x=>simp[h x ab]
 ·rfl
theorem gT.entry (h:gT M w t b l c bG L) {T K D:TypeId} {kd:IntKind} (bd:P.underlying T=some (.map K D)) (cn:P.underlying K=some (.int kd)) (k:Int) {z:t.den} {zs:List Value} (Aj:zs.length=t.size) (aZ:bi M w t zs z []) (CS:∀w,(zeroValue D).run P w=.ok (cH t zs) w):∃(es':Array MapEntry) (hW:List (Int×Nat×t.den)) (ds:List Value) (s i:Nat),(Instr.mapEntry T (.map (some b)) (.int .i64 k)).run P w=.ok (.tuple #[cH t ds,goInt ((s:Nat):Int)]) (fX w b es' (bif (eU l k).isSome then c else c+1))/\bi M w t ds ((eU l k).getD z) []/\es'[i]?=some (MapEntry.mk (.int .i64 k) (cH t ds) s)/\(∀{et:du->Nat->Prop},(∀m k,M m k->et m k/\k≠b)->gT et (fX w b es' (bif (eU l k).isSome then c else c+1)) t b (jg l k ((eU l k).getD z)) (bif (eU l k).isSome then c else c+1) es' hW)/\lO w (fX w b es' (bif (eU l k).isSome then c else c+1)) b:=by
 rcases h.find (P:=P) cn k with⟨J,R,ae⟩|⟨i,s,g4,w7,J,R,ae,aI,aX,bI⟩
 ·obtain⟨es',hW,aK,aL,a8⟩:=h.update (P:=P) bd cn k Aj aZ;rw[J] at aK aL a8|-;simp only[Option.isSome_none,cond_false,Option.getD_none] at aK aL a8|-;have bH:(Instr.mapUpdate T (.map (some b)) (.int .i64 k) (cH t zs)).run P w=.ok () (fX w b (bG.push ⟨.int .i64 k,cH t zs,c⟩) (c+1)):=by
   simp only[Instr.mapUpdate,Sem.run_bind,run_underlying bd,Result.andThen_ok,run_getObj_map h.h,qV cn,ae];exact tT h.h
  rw[aK] at bH;simp only[Result.ok.injEq,true_and] at bH;obtain⟨rfl,_⟩:=SK h.h bH;refine⟨_,hW,zs,c,bG.size,?_,aZ,by rw[DW,if_pos rfl],aL,a8⟩;simp only[Instr.mapEntry,Sem.run_bind,run_underlying bd,Result.andThen_ok,run_getObj_map h.h,qV cn,ae,CS,tT h.h,Sem.run_pure];rfl
 ·obtain⟨es',hW,aK,aL,a8⟩:=h.update (P:=P) bd cn k ae aX;rw[J] at aK aL a8|-;simp only[Iq,cond_true,wH] at aK aL a8|-;have CC:(Instr.keyThatStays (((bG[i]?).map (·.key)).getD (.int .i64 k)) (.int .i64 k)).run P w=.ok (.int .i64 k) w:=by
   rw[aI];simp[Instr.keyThatStays,Instr.sameBits]
  have bH:(Instr.mapUpdate T (.map (some b)) (.int .i64 k) (cH t w7)).run P w=.ok () (fX w b (bG.modify i fun e=>{e with key:=.int .i64 k,val:=cH t w7}) c):=(by simp only[Instr.mapUpdate,Sem.run_bind,run_underlying bd,Result.andThen_ok,run_getObj_map h.h,qV cn,bI,CC];exact tT h.h);rw[aK] at bH;simp only[Result.ok.injEq,true_and] at bH;obtain⟨rfl,_⟩:=SK h.h bH;refine⟨_,hW,w7,s,i,?_,aX,by rw[wu,if_pos rfl,aI];rfl,aL,a8⟩;have aC:(bG.modify i fun e=>{e with key:=.int .i64 k,val:=cH t w7})=bG.modify i fun e=>{e with key:=.int .i64 k}:=YY fun e aE=>(by rw[aI] at aE;cases aE;rfl);have aV:((bG[i]?).map fun x=>((x.born:Nat):Int)).getD 0=(s:Int):=(by rw[aI];rfl);simp only[Instr.mapEntry,Sem.run_bind,run_underlying bd,Result.andThen_ok,run_getObj_map h.h,qV cn,bI,CC,tT h.h,Sem.run_pure,aC,aV];rfl
theorem gT.aiN (h:gT M w t b l c bG L) {i:Nat} {e:MapEntry} {k:Int} (hi:bG[i]?=some e) (ac:e.key=.int .i64 k) {T K D:TypeId} {kd:IntKind} (bd:P.underlying T=some (.map K D)) (cn:P.underlying K=some (.int kd)) {y:t.den} {ds:List Value} (aN:ds.length=t.size) (aB:bi M w t ds y []):∃es' hW,(Instr.entryStore T (.map (some b)) (.int .i64 (e.born:Int)) (cH t ds)).run P w=.ok () (fX w b es' (bif (eU l k).isSome then c else c+1))/\(∀{et:du->Nat->Prop},(∀m k,M m k->et m k/\k≠b)->gT et (fX w b es' (bif (eU l k).isSome then c else c+1)) t b (jg l k y) (bif (eU l k).isSome then c else c+1) es' hW)/\lO w (fX w b es' (bif (eU l k).isSome then c else c+1)) b:=by
 obtain⟨q,awa,ai,aE⟩:=h.Uy hi;have Xm:q.1=k:=(by rw[aE] at ac;simpa using ac);rcases h.find (P:=P) cn k with⟨J,R,ae⟩|⟨kB,s,g4,w7,J,R,ae,aI,aX,bI⟩
 ·exact absurd Xm (R q (nQ ai))
 obtain rfl:kB=i:=h.auL R ai (by simp[Xm]);obtain⟨es',hW,aK,aL,a8⟩:=h.update (P:=P) bd cn k aN aB;rw[J] at aK aL a8|-;simp only[Iq,cond_true] at aK aL a8|-;have CC:(Instr.keyThatStays (((bG[kB]?).map (·.key)).getD (.int .i64 k)) (.int .i64 k)).run P w=.ok (.int .i64 k) w:=(by rw[aI];simp[Instr.keyThatStays,Instr.sameBits]);have bH:(Instr.mapUpdate T (.map (some b)) (.int .i64 k) (cH t ds)).run P w=.ok () (fX w b (bG.modify kB fun e=>{e with key:=.int .i64 k,val:=cH t ds}) c):=(by simp only[Instr.mapUpdate,Sem.run_bind,run_underlying bd,Result.andThen_ok,run_getObj_map h.h,qV cn,bI,CC];exact tT h.h);rw[aK] at bH;simp only[Result.ok.injEq,true_and] at bH;obtain⟨rfl,_⟩:=SK h.h bH;refine⟨_,hW,?_,aL,a8⟩;have aC:(bG.modify kB fun e=>{e with key:=.int .i64 k,val:=cH t ds})=bG.modify kB fun e=>{e with val:=cH t ds}:=YY fun dy u1=>(by rw[hi] at u1;cases u1;rw[<-ac]);have aF:bG.findIdx? (fun x=>(x.born:Int)==(e.born:Int))=some kB:=by
  rw[Array.findIdx?_eq_some_iff_getElem];have j5:=(qa.1 hi).1;refine⟨j5,?_,fun j al ay=>?_⟩
  ·rw[(qa.1 hi).2];simp
  ·have kX:j<bG.size:=(by omega);obtain⟨gH,iu,fq,u1⟩:=h.Uy (DV kX);have aa:(bG[j].born:Int)=(e.born:Int):=(by simpa using ay);have cM:gH.2.1=q.2.1:=by
    have eO:bG[j].born=gH.2.1:=(by rw[u1]);have s8:e.born=q.2.1:=(by rw[aE]);omega
   have:=h.auK fq ai cM;omega
 have aG:∀(n:Int) (w:World),(asInt (.int .i64 n)).run P w=.ok n w:=fun n w=>(by simp[asInt,asIntOf]);simp only[Instr.entryStore,Sem.run_bind,Sem.run_pure,Result.andThen_ok,run_getObj_map h.h,aG,aF,tT h.h,aC];rfl
end
def vC {aR:Type} (tt:List (TypeId×aq)) (h:List (Nat×a1)) (d:Nat) (T:TypeId) (x k:aw) (K:b0->Option aR):Option aR:=
 match x with
 |.ref id p=>match az h id with
  |some b5=>match mb tt T,k with
   |some u,.val (.int .i64) k=>match el b5.1 p with
    |some (.mp t)=>match nL t with
     |some z=>bif bF u t then
       (hO b5.1 b5.2 p (.mp t)).bind fun fW=>(vw (α:=t.den) fW k ((k2 fW k).getD z)).bind fun vD=>(ow b5.1 b5.2 p (.mp t) vD).bind fun hI=>
        K ⟨some (d,.d3 [.val t ((k2 (α:=t.den) fW k).getD z),.lq id p k]),[id],[(id,p++[.deref])],[(id,⟨b5.1,hI⟩)]⟩
      else none
     |none=>none
    |_=>none
   |_,_=>none
  |none=>none
 |_=>none
def uT {aR:Type} (tt:List (TypeId×aq)) (h:List (Nat×a1)) (T:TypeId) (x s v:aw) (K:b0->Option aR):Option aR:=
 match x,s with
 |.ref id p,.lq cO eF k=>bif Nat.beq cO id&&m6 eF p then qO tt h T (.ref id p) (.val (.int .i64) k) v K else none
 |_,_=>none
theorem ea.l3:∀{p:List bw} {τ:aq} {x z:τ.den} {τ':aq} {y:τ'.den},ea τ x p τ' y z->dr τ z p τ' y
 |[],τ,x,z,τ',y,h=>by obtain⟨e,h⟩:=ea.fH.1 h;exact dr.fH.2 ⟨e,h⟩
 |s::p,τ,x,z,τ',y,h=>by
  cases τ<;>cases s<;>simp only[ea] at h
  case osl.idx t i=>
   obtain⟨e,dy,aE,h,rfl⟩:=h;have hi:i<x.length:=(e9.1 aE).1;exact⟨dy,by rw[nP hi],ea.l3 (p:=p) h⟩
  case optr.deref t=>exact ea.l3 (p:=p) (τ:=t) h
  case st.unst t=>exact ea.l3 (p:=p) (τ:=t) h
  case pr.fst a b=>obtain⟨dy,h,rfl⟩:=h;exact ea.l3 (p:=p) h
  case pr.snd a b=>obtain⟨dy,h,rfl⟩:=h;exact ea.l3 (p:=p) h
theorem X8:∀p:List bw,gL (p++[.deref]) p=true
 |[]=>rfl
 |s::p=>by cases s<;>exact X8 p
theorem ang (id:Nat) (p:List bw):eT [id] [(id,p++[.deref])] (.ref id p)=.ref id p:=by
 have:mZ [(id,p++[.deref])] (.ref id p)=true:=by
  cases p with
  |nil=>simp[mZ]
  |cons s p=>
   have:=X8 (s::p);simp only[mZ,List.any_cons,List.any_nil,Bool.or_false,wG,Bool.true_and];exact this
 show d1 _ _ _=_;unfold d1;rw[show j6 [id] [(id,p++[.deref])] (.ref id p)=mZ [(id,p++[.deref])] (.ref id p) from rfl,this];simp
theorem arB {g:List (Nat×aw)} {x:Operand} {id:Nat} {p:List bw} (ex:bj g x=.ref id p):bj (kill [id] [(id,p++[.deref])] g) x=.ref id p:=by
 cases x with
 |tmp j=>
  have ex:gt g j=.ref id p:=ex;have J:=rQ [id] [(id,p++[bw.deref])] g j;rw[ex] at J;exact J.trans (ang id p)
 |const v=>exact absurd ex (by cases v<;>simp[bj])
 |global g=>cases ex
 |func f=>cases ex
section
variable {E:eI} {C:dZ} {st:ba} {o:Oper} {Q:ba->Prop}
theorem aoK {a:Act} {w':World} {I:Nat->Prop} {rtn:Nat->List Value} {fpn:Nat->List Nat} {cj:ba} (ev:cc C cj a.tmps w' I rtn fpn) {x:Operand} {id:Nat} {p:List bw} (ex:bj cj.g x=.ref id p) {t':a1} (bh:az cj.h id=some t') {t:aq} {l':List (Int×t.den)} {c':Nat} (aD:dr t'.1 t'.2 p (.mp t) (some (l',c'))) {b:Nat} (ix:a.eval x=.map (some b)) {es':Array MapEntry} (ao:w'.heap[b]?=some (.map es' c')) {i:Nat} {e:MapEntry} (hi:es'[i]?=some e) {n:Int} (aE:e.key=.int .i64 n):cw (bK I C.B) w' cj.h rtn fpn (.lq id p n) (.int .i64 (e.born:Int)):=by
 have ab:=ev.bj (a:=a) x;rw[ex,ix] at ab;generalize hv:Value.map (some b)=v0 at ab;cases ab with|ref af ag=>
 rename_i t0 Tu awW ze;rw[bh] at af;obtain rfl:=ff af;obtain⟨rfl,VP,qF,_,ak5⟩:=ev.l3 bh aD ag;rcases qF.Rd with⟨e,_⟩|⟨cP,l2,cd,Fu,av0,_,rfl,rfl,_⟩
 ·cases e
 ·have akN:b=cP:=(by simpa[cH] using hv);subst akN;exact .lq bh ag (ak5 b (by simp)) (pO.2 ao) hi aE
theorem aoL {aR:Type} {r:aR} {K:b0->Option aR} {T:TypeId} {x k:Operand} {d:Nat} (aH:o.op=.mapEntry T x k) (pC:o.dst=some d) (c0:C.ok d) (h:vC E.tt st.h d T (bj st.g x) (bj st.g k) K=some r):dW E C o st (fun s=>∃e,K e=some r/\s=e.app st):=by
 rintro a w ⟨I,rt,fp,ar⟩ next X eb
 have ab:=ar.bj x;have ac:=ar.bj k;unfold vC at h;split at h
 case h_2=>cases h
 rename_i id p ex;split at h
 case h_2=>cases h
 rename_i b5 af;split at h
 case h_2=>cases h
 rename_i u n bd s1;obtain⟨Nn,S,t1,t2,t3⟩:=mb.ok bd;split at h
 case h_2=>cases h
 rename_i t fB;split at h
 case h_2=>cases h
 rename_i z aZ;cases aa:bF u t with
 |false=>rw[aa] at h;cases h
 |true=>
 rw[aa] at h;simp only[cond_true] at h;obtain⟨fW,aD,J⟩:=dk.1 h;obtain⟨vD,ao,R⟩:=dk.1 J;obtain⟨hI,Lu,ae⟩:=dk.1 R;clear h J R;cases fW with
 |none=>cases ao
 |some q=>
 obtain⟨l,c⟩:=q;rw[ex] at ab;rw[s1] at ac;generalize ix:a.eval x=DO at ab;generalize xq:a.eval k=QI at ac;cases ac with|val AY=>
 obtain⟨_,rfl⟩:=AY;cases ab with|ref bx ag=>
 rw[af] at bx;cases bx;obtain⟨b,bG,L,rfl,zW,n4,bC,pD⟩:=ar.LY af ag (jb aD);have:=ag.ty;rw[fB] at this;cases this;obtain⟨i0,il,Bi,yy,z3,z4⟩:=Bp (t3.lay aa) aZ;have CS:∀w,(zeroValue S).run E.P w=.ok (cH t il.cells.toList) w:=fun w=>(by rw[<-z3];simp[zeroValue,typeInfo,Bi,yy]);have XM:=z4 (bK I C.B) w;obtain⟨es',hW,ds,s,i,aK,aL,a8,bH,dp⟩:=bC.entry (P:=E.P) t1 t2 n XM.len XM CS;have va:k2 (α:=t.den) (some (l,c)) n=eU l n:=rfl;rw[va] at ao ae;simp only[vw,cI] at ao;subst ao;generalize(bif (eU l n).isSome then c else c+1)=c' at*;generalize(eU l n).getD z=y at*;obtain⟨rtn,fpn,ev⟩:=pD (bH (fun m k ac=>⟨ac,n4 m k ac⟩)) dp (o8 Lu);have eA:(execOp a.eval o).run E.P w=.ok (.value (.tuple #[cH t ds,goInt ((s:Nat):Int)])) (fX w b es' c'):=(by simp only[execOp,aH,ix,xq,Sem.run_bind];have this:∀t:aq,cH (.mp t) [Value.map (some b)]=.map (some b):=fun _=>rfl;rw[this,show cH (.int .i64) [Value.int .i64 n]=.int .i64 n from rfl,aK];rfl);unfold Oper.wp;rw[eA];show next (a.put o.dst _) _
 rw[pC];have bh:az ((id,(⟨b5.1,hI⟩:a1))::del [id] st.h) id=some ⟨b5.1,hI⟩:=(by rw[db,if_pos rfl]);have hP:bi (bK I C.B) (fX w b es' c') t ds y []:=aL.mono (fun m k ac=>⟨ac,MO (n4 m k ac)⟩) (by simp);have ak2:=aoK ev (arB ex) bh (ea.l3 (o8 Lu)) ix (p1 bC.h) a8 (n:=n) rfl;refine eb _ _ _ ⟨_,ae,?_⟩ rfl ⟨I,rtn,fpn,ev.put c0 (av:=.d3 [.val t y,.lq id p n]) ?_⟩
 ·rfl
 ·refine .d3 rfl (fun j av v J R=>?_)
  match j with
  |0=>simp at J R;subst J;subst R;exact .val hP
  |1=>simp at J R;subst J;subst R;exact ak2
  |n+2=>simp at J
theorem aiS {aR:Type} {r:aR} {K:b0->Option aR} {T:TypeId} {x s v:Operand} (aH:o.op=.entryStore T x s v) (pC:o.dst=none) (h:uT E.tt st.h T (bj st.g x) (bj st.g s) (bj st.g v) K=some r):dW E C o st (fun s=>∃e,K e=some r/\s=e.app st):=by
 rintro a w ⟨I,rt,fp,ar⟩ next X eb
 have ab:=ar.bj x;have hs:=ar.bj s;have hv:=ar.bj v;unfold uT at h;split at h
 case h_2=>cases h
 rename_i id p cO eF n ex Ft;cases F4:(Nat.beq cO id&&m6 eF p) with
 |false=>rw[F4] at h;cases h
 |true=>
 rw[F4] at h;rw[bM] at F4;obtain rfl:=eZ F4.1;obtain rfl:=m6.ok F4.2;simp only[cond_true] at h;unfold qO at h;simp only at h;split at h
 case h_2=>cases h
 rename_i b5 af;split at h
 case h_2=>cases h
 rename_i u G2 τ g4 bd s1 h2;simp only[aw.val.injEq,heq_eq_eq,true_and] at s1;subst s1;obtain⟨Nn,S,t1,t2,t3⟩:=mb.ok bd;split at h
 case h_2=>cases h
 rename_i t fB;cases aa:bF u t with
 |false=>rw[aa] at h;cases h
 |true=>
 rw[aa] at h;simp only[cond_true] at h;split at h
 case h_2=>cases h
 rename_i y aB;obtain⟨fW,aD,J⟩:=dk.1 h;obtain⟨vD,ao,R⟩:=dk.1 J;obtain⟨z,aZ,ae⟩:=dk.1 R;clear h J R;cases fW with
 |none=>cases ao
 |some q=>
 obtain⟨l,c⟩:=q;cases ll aB;rw[ex] at ab;rw[Ft] at hs;rw[h2] at hv;generalize ix:a.eval x=DO at ab;generalize amn:a.eval s=kI at hs;generalize r3:a.eval v=Bc at hv;cases hv with|val eV=>
 cases hs with|lq Xv pF WI Xd alk FV=>
 rw[af] at Xv;cases Xv;cases ab with|ref bx ag=>
 rw[af] at bx;cases bx;obtain⟨b,bG,L,rfl,zW,n4,bC,pD⟩:=ar.LY af ag (jb aD);have:=ag.ty;rw[fB] at this;cases this;obtain⟨aC,_,aV⟩:=ag.jX pF;simp only[hh,Value.map.injEq,cI,and_true] at aV;subst aV;rw[pO.2 bC.h] at Xd;cases Xd;obtain⟨es',hW,aK,aL,a8⟩:=bC.aiN (P:=E.P) alk FV t1 t2 eV.len eV;simp only[vw,cI] at ao;subst ao;generalize(bif (eU l n).isSome then c else c+1)=c' at*;obtain⟨rtn,fpn,ev⟩:=pD (aL (fun m k ac=>⟨ac,n4 m k ac⟩)) a8 (o8 aZ);unfold Oper.wp;have eA:(execOp a.eval o).run E.P w=.ok .skip (fX w b es' c'):=(by have this:∀t:aq,cH (.mp t) [Value.map (some b)]=.map (some b):=fun _=>rfl;simp only[execOp,aH,ix,amn,r3,Sem.run_bind];rw[this,aK];rfl);rw[eA];show next (a.put o.dst undef) _
 rw[pC];refine eb _ _ _ ⟨_,ae,?_⟩ rfl ⟨I,rtn,fpn,ev⟩;rfl
end
end
section
structure af5 where
 c:Code
 n:Nat
 pin:Option (List Nat)
 ds:List Nat
 α:Type
 f:ba->Option α
 g:ba->α->ba
structure gS where
 tt:List (TypeId×aq)
 q2:List (Nat×bg)
 an:List (Nat×aq)
 n:Nat
 pin:List Nat
 kg:List (Nat×aw)
 hN:List axM
 atT:Option axC
 bA:List TypeId
 aw8:List af5
 s7:List yV
def Tw (P:Program) (T:TypeId):Prop:=∃i z d,P.info? T=some i/\i.size=1/\i.zero=some z/\z.cells.size=1/\P.underlying T=some d/\(match d with|.struct _|.array _ _=>true|_=>false)=false
def Fz:List g7->List aw->Bool
 |.c n _::l,.dQ m _::as=>Nat.beq m n&&Fz l as
 |.c _ _::_,_=>false
 |_::l,_::as=>Fz l as
 |_,_=>true
def xL:List (Nat×bg)->Nat->List aw->Option bg
 |[],_,_=>none
 |(k,F)::l,f,as=>bif Nat.beq k f&&(Fz F.ps as&&(kH 0 F.ps).isNone) then some F else xL l f as
theorem QP:∀{l:List (Nat×bg)} {f:Nat} {as:List aw} {F:bg},xL l f as=some F->∃k,(k,F)∈l
 |[],_,_,_,h=>by cases h
 |(k,G)::l,f,as,F,h=>by
  simp only[xL] at h;cases aa:(Nat.beq k f&&(Fz G.ps as&&(kH 0 G.ps).isNone)) with
  |true=>rw[aa] at h;cases h;exact⟨k,by simp⟩
  |false=>
   rw[aa] at h;obtain⟨cN,ac⟩:=QP h;exact⟨cN,by simp[ac]⟩
theorem QQ:∀{l:List (Nat×bg)} {f:Nat} {as:List aw} {F:bg},xL l f as=some F->kH 0 F.ps=none
 |[],_,_,_,h=>by cases h
 |(k,G)::l,f,as,F,h=>by
  simp only[xL] at h;cases aa:(Nat.beq k f&&(Fz G.ps as&&(kH 0 G.ps).isNone)) with
  |true=>
   rw[aa] at h;cases h;simp only[bM] at aa;exact Option.isNone_iff_eq_none.1 aa.2.2
  |false=>
   rw[aa] at h;exact QQ h
def zD (ic:gS) (dg:ql) (s:dg.den):ba:=⟨ic.kg++qu dg.g s,zC dg.h (zE dg.g s)⟩
def g3 (n:Nat) (pin:List Nat) (d:Nat):Bool:=Nat.blt d n&&!(dJ d pin)
def aC (
 ic:gS) {aR:Type} (g:Operand->aw) (h:List (Nat×a1)) (o:Oper) (K:b0->Option aR):Option aR:=
 match o.dst with
 |none=>match o.op with
  |.store T x v=>wa ic.tt h T (g x) (g v) K
  |.mapUpdate T x k v=>qO ic.tt h T (g x) (g k) (g v) K
  |.insert T x k v=>qO ic.tt h T (g x) (g k) (g v) K
  |.entryStore T x s v=>uT ic.tt h T (g x) (g s) (g v) K
  |.call {callee:=.builtin .delete,args:=xs,argTypes:=ca}=>match xs.toList,ca.toList with
   |[x,k],[T,_]=>vB ic.tt h T (g x) (g k) K
   |_,_=>none
  |_=>none
 |some d=>
   bif g3 ic.n ic.pin d then
   match o.op with
   |.pick c x y=>match g c with
    |.val .bool b=>(match g x,g y with
     |.val τ u,.val τ' v=>match h1 (τ:=τ') τ v with
      |some v=>K ⟨some (d,.val τ (bif b then u else v)),[],[],[]⟩
      |none=>none
     |u,v=>match b with
      |true=>K ⟨some (d,u),[],[],[]⟩
      |false=>K ⟨some (d,v),[],[],[]⟩)
    |_=>none
   |.call {callee:=.value z,args:=xs,argTypes:=_}=>match g z with
    |.dQ f l=>
     match xL ic.q2 f (xs.toList.map g++l) with
     |none=>none
     |some F=>bif Nat.beq F.f f then
       kV h (wb (xs.toList.map g++l) F.ps) F.ps (xs.toList.map g++l) fun a=>(F.m8 a).bind fun b=>bif pt d ⟨[],h⟩ (xs.toList.map g++l) (fF F.ps a b) (jz F.rs (iB F.ps b)) then
        K ⟨some (d,AV d (jz F.rs (iB F.ps b))),fd (xs.toList.map g++l) (fF F.ps a b),C0 (oh (xs.toList.map g++l) (fF F.ps a b)),kE (xs.toList.map g++l) (fF F.ps a b)++jC d (jf (jz F.rs (iB F.ps b))) 0 (jz F.rs (iB F.ps b))⟩ else none
      else none
    |_=>none
   |.call {callee:=.builtin .append,args:=xs,argTypes:=ca}=>match xs.toList,ca.toList with
    |[x,y],[T,jo]=>bif Nat.beq T jo then qp ic.tt ic.an h d T (g x) (g y) K else none
    |_,_=>none
   |.call {callee:=.builtin .copy,args:=xs,argTypes:=ca}=>match xs.toList,ca.toList with
    |[x,y],[T,_]=>uI ic.tt h d T (g x) (g y) K
    |_,_=>none
   |.assign x=>match g x with
    |.val τ y=>K ⟨some (d,.val τ y),[],[],[]⟩
    |.dQ f l=>K ⟨some (d,.dQ f l),[],[],[]⟩
    |.addr id p=>K ⟨some (d,.addr id p),[],[],[]⟩
    |.c5 v=>match az ic.an d with
     |none=>K ⟨some (d,.c5 v),[],[],[]⟩
     |some τ=>match τ.pure&&rD τ v with
      |true=>(js τ v.cells.toList).bind fun y=>K ⟨some (d,.val τ y),[],[],[]⟩
      |false=>(sV ic.an h d (.c5 v)).bind K
    |v=>(sV ic.an h d v).bind K
   |.build T ps=>wS ic.tt ic.an h g d T ps.toList K
   |.mapEntry T x k=>vC ic.tt h d T (g x) (g k) K
   |.box T x=>y7 ic.tt ic.an h d T (g x) K
   |.buildSlice T n ps=>wU ic.tt ic.an h g d T n ps.toList K
   |
    _=>match lr ic.tt ic.an h g d o.op with
    |.d2 av=>K ⟨some (d,av),[],[],[]⟩
    |.opt _ y f=>y.bind fun q=>K ⟨some (d,f q),[],[],[]⟩
    |.new _ y t e=>bif Nat.beq e d then y.bind fun q=>K ⟨some (d,.ref d []),[],[],[(d,t q)]⟩ else none
    |.no=>match gr ic.tt ic.an h g d o.op with
     |.d2 av new=>K ⟨some (d,av),[],[],new⟩
     |.part _ iV f=>(pick iV).bind fun q=>K ⟨some (d,(f q).1),[],[],(f q).2⟩
     |.bad=>none
  else none
def pu (h:List (Nat×a1)) (F:List Nat):Bool:=F.all fun id=>match az h id with|some t=>O5 t.1|none=>false
def kT (ic:gS) {aR:Type} (g:Operand->aw) (h:List (Nat×a1)) (o:Oper) (K:b0->Option aR):Option aR:=
 match n2 ic.hN (zP o) g (wi o.op) with
 |[]=>aC ic g h o K
 |F=>bif pu h F then aC ic (fun x=>ja h F (g x)) (del F h) o fun e=>bif e.keep.all (fun i=>!dJ i.1 F) then K ⟨e.d,F++e.S,e.keep,e.put⟩ else none else none
def qJ:g7->Bool
 |.m _=>true
 |_=>false
def SS (ic:gS) (g:Operand->aw) (o:Oper):Option (Nat×List bw):=match o.op with
 |.call {callee:=.value z,args:=xs,argTypes:=_}=>match g z with
  |.dQ f l=>match xL ic.q2 f (xs.toList.map g++l) with
   |some F=>yl (xs.toList.map g++l) (F.ps.map qJ)
   |none=>none
  |_=>none
 |_=>none
def OD (
 ic:gS) {aR:Type} (id:Nat) (s:bw) (p:List bw) (g:Operand->aw) (h:List (Nat×a1)) (o:Oper) (K:b0->Option aR):Option aR:=
 match o.dst with
 |none=>none
 |some d=>
   bif g3 ic.n ic.pin d then
  match o.op with
  |.call {callee:=
    .value z,args:=xs,argTypes:=_}=>match g z with
   |.dQ f l=>
    match xL ic.q2 f (xs.toList.map g++l) with
    |none=>none
    |some F=>
      bif Nat.beq F.f f then
     match az h id with
     |none=>none
     |some t=>match el t.1 (s::p) with
      |none=>none
      |some τ'=>match hO t.1 t.2 (s::p) τ' with
       |none=>none
       |some y=>
         match eN ((id,⟨τ',y⟩)::del [id] h) (wb (oy id (xs.toList.map g++l) (F.ps.map qJ)) F.ps) F.ps (oy id (xs.toList.map g++l) (F.ps.map qJ)) with
        |none=>none
        |some a=>(F.m8 a).bind fun b=>bif pt d ⟨[],(id,⟨τ',y⟩)::del [id] h⟩ (oy id (xs.toList.map g++l) (F.ps.map qJ)) (fF F.ps a b) (jz F.rs (iB F.ps b))&&(dJ id (fd (oy id (xs.toList.map g++l) (F.ps.map qJ)) (fF F.ps a b))&&dJ id (oh (oy id (xs.toList.map g++l) (F.ps.map qJ)) (fF F.ps a b))) then
         match az (kE (oy id (xs.toList.map g++l) (F.ps.map qJ)) (fF F.ps a b)++jC d (jf (jz F.rs (iB F.ps b))) 0 (jz F.rs (iB F.ps b))) id with
         |none=>none
         |some t2=>match h1 τ' t2.2 with
          |none=>none
          |some y'=>(ow t.1 t.2 (s::p) τ' y').bind fun z=>
           K ⟨some (d,AV d (jz F.rs (iB F.ps b))),fd (oy id (xs.toList.map g++l) (F.ps.map qJ)) (fF F.ps a b),(id,s::p)::C0 (oh (oy id (xs.toList.map g++l) (F.ps.map qJ)) (fF F.ps a b)),(id,⟨t.1,z⟩)::(kE (oy id (xs.toList.map g++l) (F.ps.map qJ)) (fF F.ps a b)++jC d (jf (jz F.rs (iB F.ps b))) 0 (jz F.rs (iB F.ps b)))⟩
         else none
     else none
   |_=>none
  |_=>none
  else none
def Rp (ic:gS) (g:Operand->aw) (o:Oper):Option axM:=match o.dst,o.op with
 |some d,.binOp .eql T x y _=>match fU ic.tt T,g x,g y with
  |some _,.val (.bJ _ τ) xs,.c5 (.slice none 0 0)=>bif g3 ic.n ic.pin d then some (d,List.length (α:=τ.den) xs) else none
  |_,_,_=>none
 |_,_=>none
def XY (tt:List (TypeId×aq)) (T:TypeId):Bool:=match az tt T with|some (.ptr _ _)=>true|_=>false
def Ro (h:List (Nat×a1)):aw->Option Bool
 |.val (.ptr _ t) v=>some (Option.isNone (α:=t.den) v)
 |.ref id p=>match az h id with
  |some t=>match el t.1 p with
   |some (.optr _)=>some false
   |_=>none
  |none=>none
 |_=>none
def R5 (ic:gS) (g:Operand->aw) (h:List (Nat×a1)) (o:Oper):Option (Nat×Bool):=match o.dst,o.op with
 |some d,.binOp op T x y _=>match XY ic.tt T,Ro h (g x),g y with
  |true,some b,.c5 (.pointer none)=>bif g3 ic.n ic.pin d then(match op with
   |.eql=>some (d,b)
   |.neq=>some (d,!b)
   |_=>none) else none
  |_,_,_=>none
 |_,_=>none
def SW (ic:gS) (g:Operand->aw) (o:Oper):Option (Nat×yV×Int):=match o.dst,o.op with
 |some d,.indexAddr T (.global k) i=>match ic.s7.find? (fun t=>Nat.beq t.b k&&Nat.beq t.T T),g i with
  |some t,.val (.int _) n=>bif g3 ic.n ic.pin d then some (d,t,n) else none
  |_,_=>none
 |_,_=>none
def i1 (ic:gS) {aR:Type} (st:ba) (o:Oper) (K:ba->Option aR):Option aR:=
 match SW ic (bj st.g) o with
 |some (d,t,n)=>(bb t.xs n).bind fun y=>K ⟨(d,.val (.ptr .cD (.int t.k)) (some y))::st.g,st.h⟩
 |none=>match R5 ic (bj st.g) st.h o with
 |some (d,b)=>K ⟨(d,.val .bool b)::st.g,st.h⟩
 |none=>match Rp ic (bj st.g) o with
 |some (d,n)=>qP n (K ⟨(d,.val .bool true)::st.g,st.h⟩) (K ⟨(d,.val .bool false)::st.g,st.h⟩)
 |none=>match SS ic (bj st.g) o with
  |some (id,s::p)=>OD ic id s p (bj st.g) st.h o fun e=>K (e.app st)
  |_=>kT ic (bj st.g) st.h o fun e=>K (e.app st)
def l9 (
 ic:gS) {aR:Type} (bv:Array Oper):List Nat->ba->(ba->Option aR)->Option aR
 |[],st,K=>K st
 |i::l,st,K=>match bv[i]? with
  |none=>none
  |some o=>match o.guard with
   |none=>i1 ic st o fun s=>l9 ic bv l s K
   |some (j,jQ)=>match(bv[j]?).bind (·.dst),o.dst with
    |some fO,some d=>match gt st.g fO with
     |.val .bool x=>bif g3 ic.n ic.pin d then
      (match x==jQ with
      |true=>i1 ic ⟨(fO,.val .bool jQ)::st.g,st.h⟩ o fun s=>l9 ic bv l s K
      |false=>l9 ic bv l ⟨(d,.c5 undef)::(fO,.val .bool (!jQ))::st.g,st.h⟩ K) else none
     |.c5 (.tuple _)=>bif g3 ic.n ic.pin d then l9 ic bv l ⟨(d,.c5 undef)::st.g,st.h⟩ K else none
     |_=>none
    |_,_=>none
section
variable {E:eI} {C:dZ} {ic:gS} {aR:Type}
def gS.U (E:eI) (C:dZ) (ic:gS):Prop:=ic.tt=E.tt/\ic.n=C.n/\ic.pin=C.pin/\((∀q∈ic.q2,be E q.2)/\yT C ic.atT/\(∀T∈ic.bA,Tw E.P T)/\mu E C.I0 C.w0/\ic.s7=E.glob)/\sI C ic.kg
theorem g3.ok (h:ic.U E C) {d:Nat} (aN:g3 ic.n ic.pin d=true):C.ok d:=by obtain⟨_,R,ae,_,_⟩:=h;rw[R,ae] at aN;simp only[g3,bM] at aN;exact⟨fw aN.1,fun ao=>by have R:=aN.2;rw[eX.2 ao] at R;cases R⟩
theorem f7.same {bY:Array Value} {w:World} {st cj:ba} (aD:∀k,gt cj.g k=gt st.g k) (ax:cj.h=st.h) (h:f7 C st bY w):f7 C cj bY w:=by obtain⟨I,rt,fp,ar⟩:=h;exact⟨I,rt,fp,{ar with tree:=by rw[ax];exact ar.tree,dis:=by rw[ax];exact ar.dis,tmp:=fun k=>by rw[ax,aD];exact ar.tmp k}⟩
theorem iK.same {bv:Array Oper} {l:List Nat} {st cj:ba} {Q:ba->Prop} (aD:∀k,gt cj.g k=gt st.g k) (ax:cj.h=st.h) (h:iK E C bv l cj Q):iK E C bv l st Q:=
 fun a w ar=>h a w (ar.same aD ax)
theorem b0.Uh {d:Nat} {av:aw} {S:List Nat} {keep:List (Nat×List bw)} {put:List (Nat×a1)} {st:ba}:(b0.mk (some (d,av)) S keep put).app st=⟨(d,av)::kill S keep st.g,put++del S st.h⟩:=by show ba.mk ((d,av)::pN S keep st.g) (put++uO S st.h)=_;rw[tB,zw]
theorem Vt (cf:ic.U E C) {o:Oper} {st:ba} {K:b0->Option aR} {r:aR} (h:aC ic (bj st.g) st.h o K=some r):dW E C o st (fun s=>∃e,K e=some r/\s=e.app st):=by
 obtain⟨nC,ag,P3,Qc,_⟩:=id cf;unfold aC at h;split at h
 ·rename_i aN;split at h
  ·rename_i T x v bZ;rw[nC] at h;exact at8 bZ aN (at7 h (fun e aE=>⟨e,aE,rfl⟩))
  ·rename_i T x k v bZ;rw[nC] at h;exact Y4 (.inl bZ) aN h
  ·rename_i T x k v bZ;rw[nC] at h;exact Y4 (.inr bZ) aN h
  ·rename_i T x s v bZ;rw[nC] at h;exact aiS bZ aN h
  ·rename_i xs ca bZ;split at h
   case h_2=>cases h
   rename_i x k T sR aC aV;rw[nC] at h;obtain rfl:xs=#[x,k]:=(by cases xs;simp_all);obtain rfl:ca=#[T,sR]:=(by cases ca;simp_all);exact aoD bZ aN h
  ·cases h
 rename_i d aN;cases hs:g3 ic.n ic.pin d with
 |false=>rw[hs] at h;cases h
 |true=>
 rw[hs] at h;have c0:=g3.ok cf hs;simp only[cond_true] at h;split at h
 ·rename_i c x y bZ;split at h
  case h_2=>cases h
  rename_i b hc;have fP:∀av,(b=true->av=bj st.g x)->(b=false->av=bj st.g y)->K ⟨some (d,av),[],[],[]⟩=some r->dW E C o st (fun s=>∃e,K e=some r/\s=e.app st):=by
   clear h;intro av J R ax;refine dW.eval (an:=ic.an) aN c0 ?_;rw[bZ];simp only[gr,Mn,hc];refine⟨b,rfl,_,ax,?_⟩;cases b
   ·rw[R rfl];rfl
   ·rw[J rfl];rfl
  split at h
  ·rename_i τ u τ' v aQ hv;split at h
   case h_2=>cases h
   rename_i ed lz;cases ll lz;refine fP _ ?_ ?_ h
   ·intro e;rw[aQ,e];rfl
   ·intro e;rw[hv,e];rfl
  ·cases b
   ·exact fP _ (fun e=>by cases e) (fun _=>rfl) h
   ·exact fP _ (fun _=>rfl) (fun e=>by cases e) h
 ·rename_i z xs _ bZ;split at h
  case h_2=>cases h
  rename_i f l aZ;split at h
  ·cases h
  rename_i F c9;cases aa:Nat.beq F.f f with
  |false=>rw[aa] at h;cases h
  |true=>
  rw[aa] at h;obtain rfl:=eZ aa;simp only[cond_true,py] at h;obtain⟨a,aG,h⟩:=dk.1 h;obtain⟨b,Af,h⟩:=dk.1 h;cases hc:pt d ⟨[],st.h⟩ (xs.toList.map (bj st.g)++l) (fF F.ps a b) (jz F.rs (iB F.ps b)) with
  |false=>rw[hc] at h;cases h
  |true=>
  rw[hc] at h;obtain⟨k0,u6⟩:=QP c9;obtain⟨j1,lw⟩:=Qc.1 _ u6;refine dW.call bZ aZ aN c0 j1 (lw a b Af) (by rw[Hz];exact QQ c9) cf.2.2.2.2.1 cf.2.2.2.1.2.2.2.1 ?_ hc ⟨_,h,?_⟩
  ·rw[SZ];exact s5 aG
  ·rw[b0.Uh];rfl
 ·rename_i xs ca bZ;split at h
  case h_2=>cases h
  rename_i x y T jo aC aV;cases aa:Nat.beq T jo with
  |false=>rw[aa] at h;cases h
  |true=>
  rw[aa] at h;obtain rfl:=eZ aa;have uQ:xs=#[x,y]:=(by cases xs;simp_all);have Fk:ca=#[T,T]:=(by cases ca;simp_all);subst uQ;subst Fk;rw[nC] at h;exact agq bZ aN c0 h
 ·rename_i xs ca bZ;split at h
  case h_2=>cases h
  rename_i x y T jo aC aV;have uQ:xs=#[x,y]:=(by cases xs;simp_all);have Fk:ca=#[T,jo]:=(by cases ca;simp_all);subst uQ;subst Fk;rw[nC] at h;exact dW.copy bZ aN c0 h
 ·rename_i x bZ;have h2:Qu (bj st.g x)=true->K ⟨some (d,bj st.g x),[],[],[]⟩=some r->dW E C o st (fun s=>∃e,K e=some r/\s=e.app st):=fun hv ax=>by
   refine dW.eval (an:=ic.an) aN c0 ?_;rw[bZ];simp only[gr,hv,cond_true];exact⟨_,ax,rfl⟩
  have as:(sV ic.an st.h d (bj st.g x)).bind K=some r->dW E C o st (fun s=>∃e,K e=some r/\s=e.app st):=fun ax=>(by obtain⟨e,aE,ax⟩:=dk.1 ax;exact dW.agw bZ aN c0 (agx aE ⟨e,ax,rfl⟩));split at h
  ·rename_i τ y ex;exact h2 (by rw[ex];rfl) (by rw[ex];exact h)
  ·rename_i f l ex;exact h2 (by rw[ex];rfl) (by rw[ex];exact h)
  ·rename_i id p ex;rintro a w ⟨I,rt,fp,ar⟩ next X eb
   have ab:=ar.bj x;have eA:(execOp a.eval o).run E.P w=.ok (.value (a.eval x)) w:=(by simp[execOp,bZ]);unfold Oper.wp;rw[eA];show next (a.put o.dst (a.eval x)) w
   rw[aN];refine eb _ _ _ ⟨_,h,rfl⟩ rfl ⟨_,_,_,ar.put c0 ?_⟩;rw[ex] at ab;exact ab
  ·rename_i v ex;split at h
   ·exact h2 (by rw[ex];rfl) (by rw[ex];exact h)
   ·split at h
    ·rename_i zY;simp only[bM] at zY;obtain⟨y,aB,h⟩:=dk.1 h;rintro a w ⟨I,rt,fp,ar⟩ next X eb
     have ab:=ar.bj x;have eA:(execOp a.eval o).run E.P w=.ok (.value (a.eval x)) w:=(by simp[execOp,bZ]);unfold Oper.wp;rw[eA];show next (a.put o.dst (a.eval x)) w
     rw[aN];refine eb _ _ _ ⟨_,h,rfl⟩ rfl ⟨_,_,_,ar.put c0 ?_⟩;rw[ex] at ab;generalize a.eval x=ed at ab;cases ab;rw[<-rD.ok zY.2];exact .val (sZ aB)
    ·exact as (by rw[ex];exact h)
  ·exact as h
 ·rename_i T ps bZ;rw[nC] at h;exact agO bZ aN c0 h (fun e aE=>⟨e,aE,rfl⟩)
 ·rename_i T x k bZ;rw[nC] at h;exact aoL bZ aN c0 h
 ·rename_i T x bZ;rw[nC] at h;exact agV bZ aN c0 h (fun e aE=>⟨e,aE,rfl⟩)
 ·rename_i T n ps bZ;rw[nC] at h;exact agZ bZ aN c0 h (fun e aE=>⟨e,aE,rfl⟩)
 ·split at h
  ·rename_i av pz;refine dW.eval (an:=ic.an) aN c0 ?_;rw[<-nC];exact OL (by rw[pz];exact⟨_,h,rfl⟩)
  ·rename_i α y f pz;refine dW.eval (an:=ic.an) aN c0 ?_;rw[<-nC];obtain⟨q,ai,h⟩:=dk.1 h;exact OL (by rw[pz];exact⟨q,ai,_,h,rfl⟩)
  ·rename_i α y t e pz;cases aa:Nat.beq e d with
   |false=>rw[aa] at h;cases h
   |true=>
   rw[aa] at h;obtain rfl:=eZ aa;obtain⟨q,ai,h⟩:=dk.1 h;refine dW.eval (an:=ic.an) aN c0 ?_;rw[<-nC];exact OL (by rw[pz];exact⟨q,ai,_,h,rfl⟩)
  ·refine dW.eval (an:=ic.an) aN c0 ?_;rw[nC] at h;split at h
   ·rename_i av new pz;rw[pz];exact⟨_,h,rfl⟩
   ·rename_i α iV f pz;rw[pz];obtain⟨q,ai,h⟩:=dk.1 h;exact⟨q,ar4 ai,_,h,rfl⟩
   ·cases h
theorem dW.mono {o:Oper} {st:ba} {P Q:ba->Prop} (h:dW E C o st P) (jc:∀s,P s->Q s):dW E C o st Q:=
 fun a w ar next X ag=>h a w ar next X (fun s b2 w' hs=>ag s b2 w' (jc s hs))
theorem ata {keep:List (Nat×List bw)} {a:aw} (h:mZ keep a=true):∃id,a.ids=[id]/\∃x∈keep,x.1=id:=by
 have get:∀(id:Nat) (P:Nat×List bw->Bool),(keep.any fun x=>Nat.beq x.1 id&&P x)=true->∃x∈keep,x.1=id:=(by intro id P ax;obtain⟨x,ab,R⟩:=sJ.1 ax;simp only[bM] at R;exact⟨x,ab,eZ R.1⟩);cases a with
 |ref id p=>
  cases p with
  |nil=>
   obtain⟨x,ab,ae⟩:=sJ.1 (show(keep.any fun x=>Nat.beq x.1 id)=true from h);exact⟨id,rfl,x,ab,eZ ae⟩
  |cons s p=>exact⟨id,rfl,get id _ h⟩
 |addr id p=>exact⟨id,rfl,get id _ h⟩
 |view id p lo hi=>exact⟨id,rfl,get id _ h⟩
 |_=>cases h
theorem M5 {F S:List Nat} {a:aw}:a.er (F++S)=(a.er F||a.er S):=by
 simp only[aw.er];rw[qb];simp only[sJ,hJ];constructor
 ·rintro⟨i,hi,ao⟩;rcases fe.1 (eX.1 ao) with h|h
  ·exact .inl ⟨i,hi,eX.2 h⟩
  ·exact .inr ⟨i,hi,eX.2 h⟩
 ·rintro(⟨i,hi,ao⟩|⟨i,hi,ao⟩)
  ·exact⟨i,hi,eX.2 (rh _ (eX.1 ao))⟩
  ·exact⟨i,hi,eX.2 (oH _ (eX.1 ao))⟩
theorem U1 {F:List Nat} {f:Nat} {l:List aw}:(aw.dQ f l).er F=l.any fun a=>a.er F:=by
 show(aw.qI l).any _=_
 induction l with
 |nil=>rfl
 |cons a l aT=>simp only[aw.qI,List.any_append,List.any_cons,aT,aw.er]
theorem aaX {F S:List Nat} {keep:List (Nat×List bw)} {a:aw} (c9:a.er F=false):j6 (F++S) keep a=j6 S keep a:=by
 cases a with
 |dQ f l=>
  rw[U1,By] at c9;rw[qb];simp only[j6,fk];constructor<;>intro h b aa<;>have:=h b aa<;>rw[M5,Bool.eq_false_iff.2 (c9 b aa)] at*<;>simpa using this
 |app id p τ aS own=>
  have J:=Ta c9;have ao:∀i∈own,dJ i (F++S)=dJ i S:=fun i hi=>(by have dP:i∉F:=J i (f6 _ hi);rw[qb,eX,eX,fe];exact⟨fun h=>h.resolve_left dP,.inr⟩);have e:(own.all fun i=>!(dJ i (F++S)))=own.all fun i=>!(dJ i S):=(by rw[qb];simp only[fk];exact⟨fun h i hi=>by rw[<-ao i hi];exact h i hi,fun h i hi=>by rw[ao i hi];exact h i hi⟩);simp only[j6,e]
 |_=>rfl
theorem am9 {F S:List Nat} {keep:List (Nat×List bw)} {a:aw}:d1 (F++S) keep a=.dead\/(a.er F=false/\d1 (F++S) keep a=d1 S keep a)\/(j6 (F++S) keep a=true/\d1 (F++S) keep a=a):=by
 have aQ:=M5 (F:=F) (S:=S) (a:=a);have hr:a.er F=false->j6 (F++S) keep a=j6 S keep a:=aaX;unfold d1;rw[aQ];cases c9:a.er F with
 |false=>right;left;rw[hr c9];simp
 |true=>
  cases j6 (F++S) keep a<;>simp
theorem pu.ok {h:List (Nat×a1)} {F:List Nat} (ax:pu h F=true):∀id∈F,∃t,az h id=some t/\O5 t.1=true:=by
 intro id bh;have:=fk.1 ax id bh;split at this
 ·rename_i t af;exact⟨t,af,this⟩
 ·cases this
theorem Vw (cf:ic.U E C) {o:Oper} {st:ba} {K:b0->Option aR} {r:aR} (h:kT ic (bj st.g) st.h o K=some r):dW E C o st (fun s=>∃e,K e=some r/\s=e.app st):=by
 unfold kT at h;split at h
 ·exact Vt cf h
 generalize n2 ic.hN (zP o) (bj st.g) (wi o.op)=F at h;cases hc:pu st.h F with
 |false=>rw[hc] at h;cases h
 |true=>
 rw[hc] at h;simp only[cond_true] at h;rw[<-ajT F st] at h;have J:=Vt (st:=xe F st) cf h;intro a w ar next X ag
 obtain⟨I,rt,fp,ar⟩:=ar;refine J a w (ar.freeze (pu.ok hc)) next X (fun cj b2 w' nB aN ev=>?_)
 obtain⟨e,aE,rfl⟩:=nB;cases ac:e.keep.all (fun i=>!dJ i.1 F) with
 |false=>rw[ac] at aE;cases aE
 |true=>
 rw[ac] at aE;have ac:∀i∈e.keep,i.1∉F:=fun i hi ao=>(by have:=fk.1 ac i hi;rw[eX.2 ao] at this;cases this);refine ag _ b2 w' ⟨_,aE,rfl⟩ aN (ev.Yt ?_ ?_)
 ·intro k;have vq:∀a:aw,d1 (F++e.S) e.keep a=.dead\/d1 (F++e.S) e.keep a=d1 e.S e.keep (gC st.h F a):=by
   intro a;rcases am9 (F:=F) (S:=e.S) (keep:=e.keep) (a:=a) with h|⟨J,R⟩|⟨J,R⟩
   ·exact .inl h
   ·right;rw[R];rcases oP st.h F a with⟨id,t,rfl,aL,_⟩|⟨_,q⟩|⟨q,_⟩
    ·simp[aw.er,aw.ids,eX.2 aL] at J
    ·rw[J] at q;cases q
    ·rw[q]
   ·have PY:∀(id:Nat),(∃x∈e.keep,x.1=id)->dJ id F=false:=fun id ⟨x,ab,e⟩=>by
     cases ao:dJ id F
     ·rfl
     ·exact absurd (e▸eX.1 ao) (ac x ab)
    have fP:j6 (F++e.S) e.keep a=j6 e.S e.keep a->∀(id:Nat),a.ids=[id]->(∃x∈e.keep,x.1=id)->d1 (F++e.S) e.keep a=.dead\/d1 (F++e.S) e.keep a=d1 e.S e.keep (gC st.h F a):=by
     intro mP id FU ab;have aQ:a.er F=false:=(by simp[aw.er,FU,PY id ab]);right;rcases oP st.h F a with⟨i,t,rfl,aL,_⟩|⟨_,q⟩|⟨q,_⟩
     ·simp[aw.er,aw.ids,eX.2 aL] at aQ
     ·rw[aQ] at q;cases q
     ·rw[q,R];unfold d1;rw[show j6 e.S e.keep a=true by rw[<-mP];exact J];simp
    have get:∀(id:Nat) (P:Nat×List bw->Bool),(e.keep.any fun x=>Nat.beq x.1 id&&P x)=true->∃x∈e.keep,x.1=id:=(by intro id P ax;obtain⟨x,ab,R⟩:=sJ.1 ax;simp only[bM] at R;exact⟨x,ab,eZ R.1⟩);cases a with
    |ref id p=>
     cases p with
     |nil=>
      obtain⟨x,ab,ae⟩:=sJ.1 (show(e.keep.any fun x=>Nat.beq x.1 id)=true from J);exact fP rfl id rfl ⟨x,ab,eZ ae⟩
     |cons s p=>exact fP rfl id rfl (get id _ J)
    |addr id p=>exact fP rfl id rfl (get id _ J)
    |view id p lo hi=>exact fP rfl id rfl (get id _ J)
    |dQ f l=>
     have fQ:=fk.1 J;have aQ:(aw.dQ f l).er F=false:=(by rw[U1,By];intro b aa Pv;have ae:=fQ b aa;rw[M5,Pv] at ae;obtain⟨id,aC,ab⟩:=ata (keep:=e.keep) (a:=b) (by simpa using ae);rw[aw.er,aC] at Pv;simp[PY id ab] at Pv);right;rcases oP st.h F (.dQ f l) with⟨i,t,aK,_⟩|⟨_,q⟩|⟨q,_⟩
     ·cases aK
     ·rw[aQ] at q;cases q
     ·rw[q,R];unfold d1;have aI:j6 e.S e.keep (.dQ f l)=true:=fk.2 fun b aa=>by
       have ae:=fQ b aa;rw[M5,Bool.not_or,hJ,bM] at ae;rw[hJ];exact ae.imp (fun h=>h.2) (fun h=>h)
      rw[aI];simp
    |app id p τ aS own=>
     have nr:((own.all fun i=>!(dJ i (F++e.S)))&&e.keep.any fun x=>Nat.beq x.1 id&&lX x.2 p)=true:=J;rw[bM] at nr;have bh:=PY id (get id _ nr.2);have aQ:(aw.app id p τ aS own).er F=false:=by
      unfold aw.er;rw[By];intro i hi ao;rcases dV.1 (show i∈id::own from hi) with rfl|hi
      ·rw[bh] at ao;cases ao
      ·have:=fk.1 nr.1 i hi;rw[eX.2 (rh _ (eX.1 ao))] at this;cases this
     right;rcases oP st.h F (.app id p τ aS own) with⟨i,t,aK,_⟩|⟨_,q⟩|⟨q,_⟩
     ·cases aK
     ·rw[aQ] at q;cases q
     ·rw[q,R];unfold d1;rw[<-aaX aQ,J];simp
    |_=>cases J
  have key:∀a:aw,DS (eT (F++e.S) e.keep a) (eT e.S e.keep (ja st.h F a)):=by
   intro a;cases a with
   |d3 l=>
    refine .inr (.inr ⟨_,_,rfl,rfl,by simp,fun i x y J R=>?_⟩);rw[f5] at J R;rw[f5] at R;obtain⟨na,ae,rfl⟩:=eM.1 J;rw[ae] at R;simp only[g6,cI] at R;subst R;exact vq na
   |ref id p=>
    have q:=vq (.ref id p);have aC:eT e.S e.keep (ja st.h F (.ref id p))=d1 e.S e.keep (gC st.h F (.ref id p)):=by show eT e.S e.keep (gC st.h F (.ref id p))=_;rcases oP st.h F (.ref id p) with⟨i,t,_,_,_,h⟩|⟨h,_⟩|⟨h,_⟩<;>rw[h]<;>first|rfl|exact zQ _ _ _
    rw[aC];exact q.imp (fun h=>h) .inl
   |dead=>exact(vq .dead).imp (fun h=>h) .inl
   |val τ x=>exact .inr (.inl (by
    simp[d1,gC,ja,eT,aw.er,aw.ids]))
   |c5 v=>exact .inr (.inl (by
    simp[d1,gC,ja,eT,aw.er,aw.ids]))
   |addr id p=>
    have aC:eT e.S e.keep (ja st.h F (.addr id p))=d1 e.S e.keep (gC st.h F (.addr id p)):=by show eT e.S e.keep (gC st.h F (.addr id p))=_;rcases oP st.h F (.addr id p) with⟨i,t,_,_,_,h⟩|⟨h,_⟩|⟨h,_⟩<;>rw[h]<;>first|rfl|exact zQ _ _ _
    rw[aC];exact(vq _).imp (fun h=>h) .inl
   |view id p lo hi=>
    have aC:eT e.S e.keep (ja st.h F (.view id p lo hi))=d1 e.S e.keep (gC st.h F (.view id p lo hi)):=by show eT e.S e.keep (gC st.h F (.view id p lo hi))=_;rcases oP st.h F (.view id p lo hi) with⟨i,t,_,_,_,h⟩|⟨h,_⟩|⟨h,_⟩<;>rw[h]<;>first|rfl|exact zQ _ _ _
    rw[aC];exact(vq _).imp (fun h=>h) .inl
   |lq id p LM=>
    have aC:eT e.S e.keep (ja st.h F (.lq id p LM))=d1 e.S e.keep (gC st.h F (.lq id p LM)):=by show eT e.S e.keep (gC st.h F (.lq id p LM))=_;rcases oP st.h F (.lq id p LM) with⟨i,t,_,_,_,h⟩|⟨h,_⟩|⟨h,_⟩<;>rw[h]<;>first|rfl|exact zQ _ _ _
    rw[aC];exact(vq _).imp (fun h=>h) .inl
   |app id p τ aS own=>
    have aC:eT e.S e.keep (ja st.h F (.app id p τ aS own))=d1 e.S e.keep (gC st.h F (.app id p τ aS own)):=by show eT e.S e.keep (gC st.h F (.app id p τ aS own))=_;rcases oP st.h F (.app id p τ aS own) with⟨i,t,_,_,_,h⟩|⟨h,_⟩|⟨h,_⟩<;>rw[h]<;>first|rfl|exact zQ _ _ _
    rw[aC];exact(vq _).imp (fun h=>h) .inl
   |agg l=>
    have aC:eT e.S e.keep (ja st.h F (.agg l))=d1 e.S e.keep (gC st.h F (.agg l)):=by show eT e.S e.keep (gC st.h F (.agg l))=_;rcases oP st.h F (.agg l) with⟨i,t,_,_,_,h⟩|⟨h,_⟩|⟨h,_⟩<;>rw[h]<;>first|rfl|exact zQ _ _ _
    rw[aC];exact(vq _).imp (fun h=>h) .inl
   |dQ f l=>
    have aC:eT e.S e.keep (ja st.h F (.dQ f l))=d1 e.S e.keep (gC st.h F (.dQ f l)):=by show eT e.S e.keep (gC st.h F (.dQ f l))=_;rcases oP st.h F (.dQ f l) with⟨i,t,_,_,_,h⟩|⟨h,_⟩|⟨h,_⟩<;>rw[h]<;>first|rfl|exact zQ _ _ _
    rw[aC];exact(vq _).imp (fun h=>h) .inl
  show DS (gt (b0.app ⟨e.d,F++e.S,e.keep,e.put⟩ st).g k) (gt (e.app (xe F st)).g k);obtain⟨d,S,keep,put⟩:=e;cases d with
  |none=>
   show DS (gt (pN (F++S) keep st.g) k) (gt (pN S keep (xe F st).g) k);rw[tB,tB,rQ,rQ,KJ];exact key _
  |some q=>
   obtain⟨d,av⟩:=q;show DS (gt ((d,av)::pN (F++S) keep st.g) k) (gt ((d,av)::pN S keep (xe F st).g) k);rw[jv,jv];split
   ·exact .inr (.inl rfl)
   ·rw[tB,tB,rQ,rQ,KJ];exact key _
 ·intro id;show az (e.put++uO (F++e.S) st.h) id=az (e.put++uO e.S (del F st.h)) id;rw[zw,zw,k1,k1,m1,m1,m1];by_cases J:id∈F<;>by_cases R:id∈e.S<;>simp[J,R]
theorem aiw (cf:ic.U E C) {o:Oper} {st:ba} {id:Nat} {s:bw} {p:List bw} (fh:SS ic (bj st.g) o=some (id,s::p)) {K:b0->Option aR} {r:aR} (h:OD ic id s p (bj st.g) st.h o K=some r):dW E C o st (fun s=>∃e,K e=some r/\s=e.app st):=by
 have Ag:=fun d=>g3.ok cf (d:=d);have alf:=cf.2.2.2.2.1;have xp:=cf.2.2.2.1.2.2.2.1;obtain⟨nC,_,_,Qc,_⟩:=cf;unfold OD at h;split at h
 ·cases h
 rename_i d aN;cases hs:g3 ic.n ic.pin d with
 |false=>rw[hs] at h;cases h
 |true=>
 rw[hs] at h;have c0:=Ag d hs;simp only[cond_true] at h;split at h
 case h_2=>cases h
 rename_i z xs ca bZ;split at h
 case h_2=>cases h
 rename_i f l aZ;split at h
 ·cases h
 rename_i F c9;cases aa:Nat.beq F.f f with
 |false=>rw[aa] at h;cases h
 |true=>
 rw[aa] at h;obtain rfl:=eZ aa;simp only[cond_true] at h;split at h
 ·cases h
 rename_i t af;split at h
 ·cases h
 rename_i τ' lB;split at h
 ·cases h
 rename_i y aB;split at h
 ·cases h
 rename_i a aG;obtain⟨b,Af,h⟩:=dk.1 h;have amm:yl (xs.toList.map (bj st.g)++l) (F.ps.map qJ)=some (id,s::p):=(by unfold SS at fh;rw[bZ] at fh;simp only[aZ,c9] at fh;exact fh);generalize pz:oy id (xs.toList.map (bj st.g)++l) (F.ps.map qJ)=avs at*;cases hc:pt d ⟨[],(id,⟨τ',y⟩)::del [id] st.h⟩ avs (fF F.ps a b) (jz F.rs (iB F.ps b)) with
 |false=>rw[hc] at h;cases h
 |true=>
 rw[hc] at h;cases J:dJ id (fd avs (fF F.ps a b)) with
 |false=>rw[J] at h;cases h
 |true=>
 rw[J] at h;cases R:dJ id (oh avs (fF F.ps a b)) with
 |false=>rw[R] at h;cases h
 |true=>
 rw[R] at h;simp only[Bool.and_self,cond_true] at h;split at h
 ·cases h
 rename_i t2 kA;split at h
 ·cases h
 rename_i y' tu;obtain⟨hI,Lu,h⟩:=dk.1 h;obtain⟨k0,u6⟩:=QP c9;obtain⟨j1,lw⟩:=Qc.1 _ u6;refine dW.sub bZ aZ aN c0 j1 (lw a b Af) (by rw[Hz];exact QQ c9) alf xp af (jb aB) amm pz.symm ?_ hc (eX.1 J) (eX.1 R) (y':=y') (z:=hI) ?_ (o8 Lu) ⟨_,h,?_⟩
 ·rw[SZ];exact s5 aG
 ·rw[kA];exact congrArg some (ll tu)
 ·rw[b0.Uh]
theorem atp {P:Program} (w:World) (d:Nat) {t S:TypeId} (a:Option Addr) (n c:Nat) (h:P.underlying t=some (.slice S)):(Op.equalIn (d+1) t (.slice a n c) (.slice none 0 0)).run P w=.ok a.isNone w:=by cases a<;>simp[Op.equalIn,run_underlying h]
theorem atn {P:Program} (w:World) {t S:TypeId} (a:Option Addr) (n c:Nat) (h:P.underlying t=some (.slice S)):(binOp .eql t (.slice a n c) (.slice none 0 0)).run P w=.ok (.bool a.isNone) w:=by simp only[binOp];simp[Op.equal,Op.maxDepth,atp w 9999 a n c h]
theorem apl (cf:ic.U E C) {o:Oper} {st:ba} {d n:Nat} (h:Rp ic (bj st.g) o=some (d,n)):dW E C o st (fun s=>∃b:Bool,s=⟨(d,.val .bool b)::st.g,st.h⟩/\(b=true->n=0)):=by
 unfold Rp at h;split at h
 case h_2=>cases h
 rename_i kS T x y u aN aH;split at h
 case h_2=>cases h
 rename_i t0 m τ xs bd ex i9;cases hs:g3 ic.n ic.pin kS with
 |false=>rw[hs] at h;cases h
 |true=>
 rw[hs] at h;simp only[cond_true,cI,gz] at h;obtain⟨rfl,rfl⟩:=h;rw[cf.1] at bd;obtain⟨_,S,_,aQ,_⟩:=fU.ok bd;rintro a w ⟨I,rt,fp,ar⟩ next X ag
 have ab:=ar.bj x;have aB:=ar.bj y;rw[ex] at ab;rw[i9] at aB;obtain⟨v,hv⟩:∃v,v=a.eval x:=⟨_,rfl⟩;obtain⟨f0,lA⟩:∃v,v=a.eval y:=⟨_,rfl⟩;rw[<-hv] at ab;rw[<-lA] at aB;cases ab with|val bX=>cases aB with|c5 _=>
 obtain⟨_,b,cap,rfl,J,R,_⟩:=bX;have lz:a.eval x=.slice b (List.length (α:=τ.den) xs) cap:=hv.symm;have tu:a.eval y=.slice none 0 0:=lA.symm;have aD:∀w,(eqGuard .eql T x y (.slice b (List.length (α:=τ.den) xs) cap) (.slice none 0 0)).run E.P w=.ok () w:=fun w=>(by unfold eqGuard;simp);refine Yields.wp (Q:=fun av new=>av=.val .bool b.isNone/\new=[]) ar (.pure (v:=.bool _) (by simp only[execOp,aH,lz,tu,Sem.run_bind,aD,Result.andThen_ok,atn _ _ _ _ aQ];rfl) (.bool _) ⟨rfl,rfl⟩) aN (g3.ok cf hs) ?_;rintro av new b2 w' ⟨rfl,rfl⟩ jN hr;refine ag _ b2 w' ⟨b.isNone,rfl,fun e=>?_⟩ jN hr;cases b with
 |none=>have:=R rfl;omega
 |some _=>cases e
theorem auq {T:TypeId} {S:TypeId} {len:Nat} {k:IntKind} (bd:E.P.underlying T=some (.array len S)) (bB:ei E.P (.int k) S) {a:Act} {o:Oper} {w:World} {g:Nat} {i:Operand} (aH:o.op=.indexAddr T (.global g) i) {n:Nat} {vk:IntKind} (hi:a.eval i=.int vk n) (ag:n<len):(execOp a.eval o).run E.P w=.ok (.value (.pointer (some ⟨g,0+n*1,none⟩))) w:=by have hs:=bB.sizeOf w;have ab:a.eval (.global g)=.pointer (some ⟨g,0,none⟩):=rfl;have:(0:Int)<=(n:Int)/\(n:Int)<(len:Int):=⟨by omega,by omega⟩;have d8:(aq.int k).size=1:=rfl;rw[d8] at hs;simp[execOp,aH,ab,hi,Instr.indexAt,Instr.sureAddr,asIntOf,run_underlying bd,this,hs,Addr.add_lit];intro aU;omega
theorem aum (cf:ic.U E C) {o:Oper} {st:ba} {d:Nat} {t:yV} {n y:Int} (h:SW ic (bj st.g) o=some (d,t,n)) (aB:bb t.xs n=some y):dW E C o st (fun s=>s=⟨(d,.val (.ptr .cD (.int t.k)) (some y))::st.g,st.h⟩):=by
 unfold SW at h;split at h
 case h_2=>cases h
 rename_i kS T k i aN aH;split at h
 case h_2=>cases h
 rename_i t0 vk Rh aF hm;cases hs:g3 ic.n ic.pin kS with
 |false=>rw[hs] at h;cases h
 |true=>
 rw[hs] at h;simp only[cond_true,cI,gz] at h;obtain⟨rfl,rfl,rfl⟩:=h;have aa:=List.find?_some aF;have ao:=List.mem_of_find?_eq_some aF;rw[bM] at aa;obtain rfl:=eZ aa.1;obtain rfl:=eZ aa.2;rw[cf.2.2.2.1.2.2.2.2] at ao;obtain⟨S,bd,bB⟩:=E.gok t0 ao;rintro a w ⟨I,rt,fp,ar⟩ next X ag
 have hi:=ar.bj i;rw[hm] at hi;generalize Gb:a.eval i=au3 at hi;cases hi with|val r=>
 obtain⟨_,rfl⟩:=r;obtain⟨aC,aV,b4⟩:=Wf aB;obtain⟨_,ad,cap,rW,aK,aL,a8⟩:=ar.glob cf.2.2.2.2.1 cf.2.2.2.1.2.2.2.1 t0 ao;simp only[hh,Value.slice.injEq,and_true] at rW;obtain⟨rfl,_⟩:=rW;rcases a8 with a8|⟨b,off,WL,bC,bH⟩
 ·rw[a8] at aV;simp at aV
 simp only[cI,Addr.mk.injEq,and_true] at WL;obtain⟨rfl,rfl⟩:=WL;obtain⟨ds,cJ,cz,cX⟩:=bH _ _ b4;have Qi:a.eval i=.int vk (Rh.toNat:Nat):=(by rw[Gb];show Value.int vk Rh=_;rw[<-aC]);refine Yields.wp (Q:=fun av new=>av=.val (.ptr .cD (.int t0.k)) (some y)/\new=[]) ar (.pure (auq bd bB aH Qi aV) (.val (τ:=.ptr .cD (.int t0.k)) (x:=some y) (cs:=[.pointer (some ⟨t0.b,0+Rh.toNat*1,none⟩)]) ⟨rfl,t0.b,_,ds,rfl,bC,cJ,cz,cX⟩) ⟨rfl,rfl⟩) aN (g3.ok cf hs) ?_;rintro av new b2 w' ⟨rfl,rfl⟩ jN hr;exact ag _ b2 w' rfl jN hr
theorem aa8 {P:Program} (w:World) (d:Nat) {t S:TypeId} (a:Option Addr) (h:P.underlying t=some (.pointer S)):(Op.equalIn (d+1) t (.pointer a) (.pointer none)).run P w=.ok a.isNone w:=by cases a<;>simp[Op.equalIn,run_underlying h]
theorem ato {P:Program} (w:World) {t S:TypeId} (a:Option Addr) (h:P.underlying t=some (.pointer S)):(binOp .eql t (.pointer a) (.pointer none)).run P w=.ok (.bool a.isNone) w:=by simp only[binOp];simp[Op.equal,Op.maxDepth,aa8 w 9999 a h]
theorem atq {P:Program} (w:World) {t S:TypeId} (a:Option Addr) (h:P.underlying t=some (.pointer S)):(binOp .neq t (.pointer a) (.pointer none)).run P w=.ok (.bool (!a.isNone)) w:=by simp only[binOp];simp[Op.equal,Op.maxDepth,aa8 w 9999 a h]
theorem aph {st:ba} {a:Act} {w:World} {I:Nat->Prop} {rt:Nat->List Value} {fp:Nat->List Nat} (ar:cc C st a.tmps w I rt fp) {x:Operand} {b:Bool} (h:Ro st.h (bj st.g x)=some b):∃ad:Option Addr,a.eval x=.pointer ad/\ad.isNone=b:=by
 have ab:=ar.bj x;obtain⟨v1,hv⟩:∃v,v=a.eval x:=⟨_,rfl⟩;rw[<-hv] at ab;unfold Ro at h;split at h
 ·rename_i m t v ex;rw[ex] at ab;cases ab with|val bX=>
  obtain⟨_,bX⟩:=bX;cases h;cases v with
  |none=>subst bX;exact⟨none,hv.symm,rfl⟩
  |some z=>obtain⟨sX,k4,ds,rfl,_⟩:=bX;exact⟨some ⟨sX,k4,none⟩,hv.symm,rfl⟩
 ·rename_i id p ex;split at h
  case h_2=>cases h
  rename_i t af;split at h
  case h_2=>cases h
  rename_i t' fB;cases h;rw[ex] at ab;cases ab with|ref bx ag=>
  rw[af] at bx;cases bx;have:=ag.ty;rw[fB] at this;cases this;obtain⟨b,off,ds,rfl,cJ,cz⟩:=sf (ar.tree id _ af).1 ag;exact⟨some ⟨b,off,none⟩,hv.symm,rfl⟩
 ·cases h
theorem asn (cf:ic.U E C) {o:Oper} {st:ba} {d:Nat} {b:Bool} (h:R5 ic (bj st.g) st.h o=some (d,b)):dW E C o st (fun s=>s=⟨(d,.val .bool b)::st.g,st.h⟩):=by
 unfold R5 at h;split at h
 case h_2=>cases h
 rename_i kS op T x y u aN aH;split at h
 case h_2=>cases h
 rename_i sX bd ex i9;cases hs:g3 ic.n ic.pin kS with
 |false=>rw[hs] at h;cases h
 |true=>
 rw[hs] at h;simp only[cond_true] at h;have zV:∃S,E.P.underlying T=some (.pointer S):=by
  rw[cf.1] at bd;unfold XY at bd;split at bd
  ·rename_i iz t' ah;obtain⟨_,S,_,_,_,_,aX,_⟩:=E.ok T _ ah;exact⟨S,aX⟩
  ·cases bd
 obtain⟨S,aQ⟩:=zV;rintro a w ⟨I,rt,fp,ar⟩ next X ag
 have aB:=ar.bj y;rw[i9] at aB;obtain⟨f0,lA⟩:∃v,v=a.eval y:=⟨_,rfl⟩;rw[<-lA] at aB;cases aB with|c5 _=>
 obtain⟨ad,lz,iw⟩:=aph ar ex;have tu:a.eval y=.pointer none:=lA.symm;have aD:∀op w,(eqGuard op T x y (.pointer ad) (.pointer none)).run E.P w=.ok () w:=fun op w=>(by unfold eqGuard;cases op<;>simp);split at h
 ·cases h;refine Yields.wp (Q:=fun av new=>av=.val .bool b/\new=[]) ar (.pure (v:=.bool _) (by simp only[execOp,aH,lz,tu,Sem.run_bind,aD,Result.andThen_ok,ato _ _ aQ,iw];rfl) (.bool _) ⟨rfl,rfl⟩) aN (g3.ok cf hs) ?_;rintro av new b2 w' ⟨rfl,rfl⟩ jN hr;exact ag _ b2 w' rfl jN hr
 ·cases h;refine Yields.wp (Q:=fun av new=>av=.val .bool (!sX)/\new=[]) ar (.pure (v:=.bool _) (by simp only[execOp,aH,lz,tu,Sem.run_bind,aD,Result.andThen_ok,atq _ _ aQ,iw];rfl) (.bool _) ⟨rfl,rfl⟩) aN (g3.ok cf hs) ?_;rintro av new b2 w' ⟨rfl,rfl⟩ jN hr;exact ag _ b2 w' rfl jN hr
 ·cases h
theorem XN (cf:ic.U E C) {bv:Array Oper} {i:Nat} {l:List Nat} {o:Oper} {st:ba} {K:ba->Option aR} {r:aR} {Q:ba->Prop} (aH:bv[i]?=some o) (hw:lL bv st o true) (h:i1 ic st o K=some r) (cn:∀s,K s=some r->iK E C bv l s Q):iK E C bv (i::l) st Q:=
by
 unfold i1 at h;split at h
 ·rename_i d t n ai;obtain⟨y,aB,h⟩:=dk.1 h;refine iK.op aH hw ((aum cf ai aB).mono (fun s hs=>?_));subst hs;exact cn _ h
 split at h
 ·rename_i d b ai;refine iK.op aH hw ((asn cf ai).mono (fun s hs=>?_));subst hs;exact cn _ h
 split at h
 ·rename_i d n ai;obtain⟨J,R⟩:=apk h;refine iK.op aH hw ((apl cf ai).mono (fun s hs=>?_));obtain⟨b,rfl,aa⟩:=hs;cases b with
  |false=>exact cn _ J
  |true=>exact cn _ (R (aa rfl))
 split at h
 ·rename_i id s p hs;exact iK.op aH hw ((aiw cf hs h).mono (fun s ⟨e,aE,hs⟩=>by subst hs;exact cn _ aE))
 ·exact iK.op aH hw ((Vw cf h).mono (fun s ⟨e,aE,hs⟩=>by subst hs;exact cn _ aE))
theorem Gh {l2:List Nat} (cf:ic.U E C) {bv:Array Oper} {K:ba->Option aR} {r:aR} {Q:ba->Prop} (cn:∀s,K s=some r->iK E C bv l2 s Q):∀{l:List Nat} {st:ba},l9 ic bv l st K=some r->iK E C bv (l++l2) st Q
 |[],st,h=>cn _ h
 |i::l,st,h=>by
  simp only[l9] at h;split at h
  ·cases h
  rename_i o aH;split at h
  ·rename_i aD;exact XN cf aH (by unfold lL;rw[aD]) h (fun s hs=>Gh cf cn hs)
  ·rename_i j jQ aD;split at h
   case h_2=>cases h
   rename_i fO d te aN;split at h
   case h_3=>cases h
   case h_2=>
    rename_i q ab;cases hs:g3 ic.n ic.pin d with
    |false=>rw[hs] at h;cases h
    |true=>
    rw[hs] at h;have c0:=g3.ok cf hs;refine iK.skip aH aN c0 ?_ (Gh cf cn h);unfold lL;rw[aD];simp only[te,ab]
   rename_i x ab;cases hs:g3 ic.n ic.pin d with
   |false=>rw[hs] at h;cases h
   |true=>
   rw[hs] at h;have c0:=g3.ok cf hs;simp only[cond_true] at h;split at h
   ·rename_i aa;obtain rfl:x=jQ:=(by simpa using aa);have same:∀k,gt (⟨(fO,.val .bool x)::st.g,st.h⟩:ba).g k=gt st.g k:=fun k=>by
     show gt ((fO,_)::st.g) k=_;rw[jv];split
     ·rename_i e;rw[<-e,ab]
     ·rfl
    refine iK.same same rfl (XN cf aH ?_ h (fun s hs=>Gh cf cn hs));unfold lL;rw[aD];simp only[te,same fO,ab];simp
   ·rename_i aa;have Qj:x=!jQ:=by cases x<;>cases jQ<;>first|rfl|cases aa
    have same:∀k,gt (⟨(fO,.val .bool (!jQ))::st.g,st.h⟩:ba).g k=gt st.g k:=fun k=>by
     show gt ((fO,_)::st.g) k=_;rw[jv];split
     ·rename_i e;rw[<-e,ab,Qj]
     ·rfl
    refine iK.same same rfl (iK.skip aH aN c0 ?_ (Gh cf cn h));unfold lL;rw[aD];simp only[te,same fO,ab];exact aa
theorem amM (cf:ic.U E C) {bv:Array Oper} {K:ba->Option aR} {r:aR} {Q:ba->Prop} (cn:∀s,K s=some r->Q s) {l:List Nat} {st:ba} (h:l9 ic bv l st K=some r):iK E C bv l st Q:=by have:=Gh (l2:=[]) cf (fun s hs=>iK.nil (cn s hs)) h;rwa[sK] at this
end
end
structure lh (s t:ba):Prop where
 g:∀k,gt s.g k=gt t.g k
 h:∀id,az s.h id=az t.h id
theorem lh.refl (s:ba):lh s s:=⟨fun _=>rfl,fun _=>rfl⟩
theorem lh.symm {s t:ba} (h:lh s t):lh t s:=⟨fun k=>(h.g k).symm,fun k=>(h.h k).symm⟩
theorem lh.trans {s t u:ba} (h:lh s t) (k:lh t u):lh s u:=⟨fun i=>(h.g i).trans (k.g i),fun i=>(h.h i).trans (k.h i)⟩
theorem b0.y0 (e:b0) (s:ba) (k:Nat):gt (e.app s).g k=match e.d with
 |some (d,av)=>if d=k then av else eT e.S e.keep (gt s.g k)
 |none=>eT e.S e.keep (gt s.g k):=by
 obtain⟨d,S,keep,put⟩:=e;cases d with
 |none=>
  show gt (pN S keep s.g) k=_;rw[tB,rQ]
 |some q=>
  obtain⟨d,av⟩:=q;show gt ((d,av)::pN S keep s.g) k=_;rw[jv,tB,rQ]
theorem b0.wP (e:b0) (s:ba) (id:Nat):az (e.app s).h id=(az e.put id).or (if id∈e.S then none else az s.h id):=by show az (e.put++uO e.S s.h) id=_;rw[zw,k1,m1]
theorem lh.app {s t:ba} (h:lh s t) (e:b0):lh (e.app s) (e.app t):=
 ⟨fun k=>by rw[b0.y0,b0.y0,h.g],fun k=>by rw[b0.wP,b0.wP,h.h]⟩
theorem f7.seq {C:dZ} {s t:ba} {bY:Array Value} {w:World} (h:lh s t) (hr:f7 C s bY w):f7 C t bY w:=hr.less (fun k=>.inr (h.g k).symm) (fun id=>(h.h id).symm)
def Kq:Option (Nat×aw)->Option Nat->Bool
 |some q,some d=>Nat.beq q.1 d
 |none,none=>true
 |_,_=>false
def xZ:aw->Bool
 |.dead=>false
 |_=>true
def sw (l r:List Nat):Bool:=l.all fun i=>dJ i r
theorem sw.ok {l r:List Nat} (h:sw l r=true):∀i∈l,i∈r:=fun i hi=>eX.1 (fk.1 h i hi)
def sv (f:List Nat):aw->Bool
 |.ref id []=>dJ (id+500000) f
 |_=>false
def CW:Op->Bool
 |.move _=>true
 |_=>false
def KK:Nat->List bw->Option (Nat×List bw)
 |k,.snd::p=>KK (k+1) p
 |k,.fst::p=>some (k,p)
 |_,_=>none
def FB:List bw->Option (Nat×List bw)
 |.deref::.unst::p=>KK 0 p
 |_=>none
def Cm (q:List bw):Option Nat:=match q with
 |[]=>some 1
 |q=>match FB q with
  |some (k,[])=>some (2*k+2)
  |some (k,_::_)=>some (2*k+3)
  |none=>none
def uG:aw->Option axM
 |.ref id q=>match Cm q with
  |some c=>some (id,c)
  |none=>none
 |.addr id q=>match Cm q with
  |some c=>some (id,c)
  |none=>none
 |.app id q _ _ own=>match dJ id own,FB q with
  |false,some (k,_)=>some (id,2*k+3)
  |_,_=>none
 |_=>none
def xJ (f:List Nat) (a:aw):Bool:=match uG a with
 |some (id,c)=>Nat.blt id 500000&&(dJ (id+1000000*c) f&&a.ids.all fun i=>Nat.beq i id||dJ i f)
 |none=>false
def Mm (p:List bw) (c:Nat):Bool:=match FB p with
 |some (j,r)=>Nat.beq c 1||(Nat.ble 2 c&&(!(Nat.beq (c/2) (j+1))||(Nat.beq (c %2) 0&&rU r)))
 |none=>false
def wO (g:Operand->aw) (o:Oper):Option (Nat×List bw):=match o.op with
 |.call {callee:=.builtin .append,args:=xs,argTypes:=_}=>match xs.toList with
  |[x,_]=>match g x with
   |.ref id (s::p)=>some (id,s::p)
   |_=>none
  |_=>none
 |_=>none
def R1 (b9:List Nat) (g:Operand->aw) (o:Oper):Bool:=b9.all fun m=>Nat.blt m 1000000||(match wO g o with
 |some (id,p)=>Nat.beq (m %1000000) (id+500000)&&(Nat.blt id 500000&&Mm p (m/1000000))
 |none=>false)
def anf (b9:List Nat) (keep:List (Nat×List bw)) (S:List Nat):Bool:=S.all fun id=>Nat.blt id 500000&&((dJ id b9&&(dJ (id+500000) b9||mZ keep (.ref id [])))||dJ (id+1500000) b9)
def IF:aw->Bool
 |.d3 l=>l.all xZ
 |a=>xZ a
def qQ (op:Op) (cu:List Nat) (a:aw):Bool:=match op with
 |.extract _ i=>match a with
  |.d3 l=>match l[i]? with
   |some c=>xZ c&&(sw c.ids cu||sv cu c)
   |none=>false
  |_=>false
 |op=>IF a&&(sw a.ids cu||((CW op&&sv cu a)||xJ cu a))
def s4 (cu b9:List Nat) (g:Operand->aw) (o:Oper) (e:b0):Bool:=
 Kq e.d o.dst&&(o.op.operands.toList.all fun x=>qQ o.op cu (g x))&&anf b9 e.keep e.S&&(e.put.all fun q=>Nat.blt q.1 500000&&(dJ q.1 b9||dJ (q.1+1500000) b9))&&((match e.d with|some q=>sw q.2.ids cu||(sv cu q.2||xJ cu q.2)|none=>true)&&R1 b9 g o)
theorem iq {α aR:Type} (b:Bool) (x:Option α) (K:α->Option aR):(bif b then x else none).bind K=bif b then x.bind K else none:=by cases b<;>rfl
theorem at5 {aR:Type} (tt:List (TypeId×aq)) (h:List (Nat×a1)) (T:TypeId) (x v:aw) (K:b0->Option aR):wa tt h T x v K=(wa tt h T x v some).bind K:=by
 unfold wa;split
 ·rfl
 split
 case h_2=>rfl
 split
 ·rfl
 rw[iq];congr 1;split
 ·split
  case h_2=>rfl
  cases Nat.beq _ _
  ·simp only[cond_false,kt,br]
  ·rfl
 ·split
  case h_2=>rfl
  rw[iq];simp only[kt,br]
 ·split
  ·simp only[kt,br]
  ·rfl
theorem Rf {aR:Type} (tt:List (TypeId×aq)) (h:List (Nat×a1)) (T:TypeId) (x k v:aw) (K:b0->Option aR):qO tt h T x k v K=(qO tt h T x k v some).bind K:=by
 unfold qO;split
 case h_2=>rfl
 split
 case h_2=>rfl
 split
 case h_2=>rfl
 split
 case h_2=>rfl
 rw[iq];congr 1;split
 ·simp only[kt,br]
 ·rfl
theorem aoI {aR:Type} (tt:List (TypeId×aq)) (h:List (Nat×a1)) (d:Nat) (T:TypeId) (x k:aw) (K:b0->Option aR):vC tt h d T x k K=(vC tt h d T x k some).bind K:=by
 unfold vC;split
 case h_2=>rfl
 split
 case h_2=>rfl
 split
 case h_2=>rfl
 split
 case h_2=>rfl
 split
 case h_2=>rfl
 rw[iq];simp only[kt,br]
theorem aiQ {aR:Type} (tt:List (TypeId×aq)) (h:List (Nat×a1)) (T:TypeId) (x s v:aw) (K:b0->Option aR):uT tt h T x s v K=(uT tt h T x s v some).bind K:=by
 unfold uT;split
 case h_2=>rfl
 rw[iq,Rf]
theorem aoB {aR:Type} (tt:List (TypeId×aq)) (h:List (Nat×a1)) (T:TypeId) (x k:aw) (K:b0->Option aR):vB tt h T x k K=(vB tt h T x k some).bind K:=by
 unfold vB;split
 case h_2=>rfl
 split
 case h_2=>rfl
 split
 case h_2=>rfl
 split
 case h_2=>rfl
 rw[iq];simp only[kt,br]
theorem agl {aR:Type} (tt:List (TypeId×aq)) (an:List (Nat×aq)) (h:List (Nat×a1)) (d:Nat) (T:TypeId) (x y:aw) (K:b0->Option aR):rx tt an h d T x y K=(rx tt an h d T x y some).bind K:=by
 unfold rx;split
 ·rfl
 split
 ·split
  case h_2=>rfl
  rw[iq];congr 1;split
  ·simp only[kt,br]
  ·split
   case h_2=>rfl
   split
   case h_2=>rfl
   split
   case h_2=>rfl
   cases Nat.beq _ _
   ·simp only[cond_false,kt,br]
   ·rfl
 ·split
  case h_2=>rfl
  split
  case h_2=>rfl
  rw[iq];simp only[kt,br]
 ·split
  case h_2=>rfl
  rw[iq];simp only[kt,br]
 ·split
  case h_2=>rfl
  rw[iq];simp only[kt,br]
 ·rfl
theorem ago {aR:Type} (tt:List (TypeId×aq)) (an:List (Nat×aq)) (h:List (Nat×a1)) (d:Nat) (T:TypeId) (x y:aw) (K:b0->Option aR):qp tt an h d T x y K=(qp tt an h d T x y some).bind K:=by
 unfold qp;split
 ·unfold En;split
  case h_2=>rfl
  split
  case h_2=>rfl
  split
  case h_2=>rfl
  rw[iq];simp only[kt,br]
 ·exact agl _ _ _ _ _ _ _ K
theorem ahL {aR:Type} (tt:List (TypeId×aq)) (h:List (Nat×a1)) (d:Nat) (T:TypeId) (x y:aw) (K:b0->Option aR):uI tt h d T x y K=(uI tt h d T x y some).bind K:=by
 unfold uI;split
 ·rfl
 split
 ·split
  case h_2=>rfl
  rw[iq];simp only[kt,br]
 ·split
  case h_2=>rfl
  rw[iq];simp only[kt,br]
 ·rfl
theorem agN {aR:Type} (tt:List (TypeId×aq)) (an:List (Nat×aq)) (h:List (Nat×a1)) (g:Operand->aw) (d:Nat) (T:TypeId) (parts:List (Nat×Operand)) (K:b0->Option aR):wS tt an h g d T parts K=(wS tt an h g d T parts some).bind K:=by
 unfold wS;split
 ·rfl
 split
 ·rw[iq];congr 1;split
  ·rw[iq];rfl
  ·rfl
 rw[iq];congr 1;split
 ·rfl
 split
 ·rw[iq];rfl
 ·rfl
theorem agU {aR:Type} (tt:List (TypeId×aq)) (an:List (Nat×aq)) (h:List (Nat×a1)) (d:Nat) (T:TypeId) (x:aw) (K:b0->Option aR):y7 tt an h d T x K=(y7 tt an h d T x some).bind K:=by
 unfold y7;split
 ·split
  ·rw[iq];congr 1;split<;>rfl
  ·split
   ·rw[iq];rfl
   ·rfl
  ·rfl
 ·rfl
theorem agY {aR:Type} (tt:List (TypeId×aq)) (an:List (Nat×aq)) (h:List (Nat×a1)) (g:Operand->aw) (d:Nat) (T:TypeId) (n:Nat) (parts:List (Nat×Operand)) (K:b0->Option aR):wU tt an h g d T n parts K=(wU tt an h g d T n parts some).bind K:=by
 unfold wU;split
 ·simp only;rw[iq];congr 1;split
  ·rfl
  ·split
   ·rw[iq];rfl
   ·rfl
 ·rfl
theorem Fj {ic:gS} {aR:Type} (g:Operand->aw) (h:List (Nat×a1)) (o:Oper) (K:b0->Option aR):aC ic g h o K=(aC ic g h o some).bind K:=by
 unfold aC;split
 ·split
  ·exact at5 _ _ _ _ _ K
  ·exact Rf _ _ _ _ _ _ K
  ·exact Rf _ _ _ _ _ _ K
  ·exact aiQ _ _ _ _ _ _ K
  ·split
   case h_2=>rfl
   exact aoB _ _ _ _ _ K
  ·rfl
 rw[iq];congr 1;split
 ·split
  case h_2=>rfl
  split
  ·split<;>rfl
  ·split<;>rfl
 ·split
  case h_2=>rfl
  split
  ·rfl
  rw[iq];congr 1;simp only[py,kt,iq,br]
 ·split
  case h_2=>rfl
  rw[iq];congr 1;exact ago _ _ _ _ _ _ _ K
 ·split
  case h_2=>rfl
  exact ahL _ _ _ _ _ _ K
 ·split
  ·rfl
  ·rfl
  ·rfl
  ·split
   ·rfl
   ·split
    ·simp only[kt,br]
    ·simp only[kt,br]
  ·simp only[kt,br]
 ·exact agN _ _ _ _ _ _ _ K
 ·exact aoI _ _ _ _ _ _ K
 ·exact agU _ _ _ _ _ _ K
 ·exact agY _ _ _ _ _ _ _ _ K
 ·split
  ·rfl
  ·simp only[kt,br]
  ·rw[iq];simp only[kt,br]
  ·split
   ·rfl
   ·simp only[kt,br]
   ·rfl
theorem ais {ic:gS} {aR:Type} (g:Operand->aw) (h:List (Nat×a1)) (o:Oper) (K:b0->Option aR):kT ic g h o K=(kT ic g h o some).bind K:=by
 unfold kT;split
 ·exact Fj g h o K
 ·rw[iq];congr 1;refine(Fj _ _ _ _).trans (Eq.trans ?_ (congrArg (fun z=>Option.bind z K) (Fj _ _ _ _)).symm);simp only[kt,iq,br]
theorem Wa:∀{p:List bw} {k j:Nat} {r:List bw},KK k p=some (j,r)->k<=j/\p=List.replicate (j-k) .snd++.fst::r
 |[],_,_,_,h=>by cases h
 |s::p,k,j,r,h=>by
  cases s<;>simp only[KK] at h<;>first|(cases h;done)|skip
  ·cases h;exact⟨bS _,by simp⟩
  ·obtain⟨J,R⟩:=Wa h;refine⟨by omega,?_⟩;rw[show j-k=(j-(k+1))+1 by omega,List.replicate_succ,mz,<-R]
theorem KL {p:List bw} {j:Nat} {r:List bw} (h:FB p=some (j,r)):p=.deref::.unst::(List.replicate j .snd++.fst::r):=by
 unfold FB at h;split at h
 ·rename_i p;have:=(Wa h).2;rw[Nat.sub_zero] at this;rw[this]
 ·cases h
theorem Kp:∀{j k:Nat} {r r':List bw},j≠k->lX (List.replicate j .snd++.fst::r) (List.replicate k .snd++.fst::r')=true
 |0,0,_,_,h=>absurd rfl h
 |0,k+1,_,_,_=>rfl
 |j+1,0,_,_,_=>rfl
 |j+1,k+1,r,r',h=>Kp (j:=j) (k:=k) (r:=r) (r':=r') (fun e=>h (by rw[e]))
theorem X9:∀{j:Nat} {r:List bw},gL (List.replicate j .snd++.fst::r) (List.replicate j .snd++[.fst])=rU r
 |0,r=>by cases r<;>rfl
 |j+1,r=>X9 (j:=j) (r:=r)
theorem ar1 {id c:Nat} {p:List bw} {S:List Nat} {a:aw} (ay:Mm p c=true) (aG:uG a=some (id,c)) (bB:∀j∈a.ids,j=id\/j∉S):j6 S [(id,p),(id,[])] a=true:=by
 unfold Mm at ay;split at ay
 case h_2=>cases ay
 rename_i j r hs;have Li:=KL hs;have kz:rU p=true:=(by rw[Li];rfl);have aa:∀i:Nat,Nat.beq i i=true:=wG;have place:∀q,Cm q=some c->gL p q=true:=by
  intro q ai;unfold Cm at ai;split at ai
  ·have:gL p []=rU p:=by cases p with|nil=>rfl|cons s p=>cases s<;>rfl
   rw[this];exact kz
  ·split at ai
   ·rename_i k ac;cases ai;rw[KL ac,Li];have J:(2*k+2)/2=k+1:=(by omega);have R:(2*k+2) %2=0:=(by omega);rw[J,R] at ay;show gL (List.replicate j .snd++.fst::r) (List.replicate k .snd++[.fst])=true;by_cases e:j=k
    ·subst e;rw[X9];simpa using ay
    ·exact Ko (Kp e)
   ·rename_i k s gH ac;cases ai;rw[KL ac,Li];have J:(2*k+3)/2=k+1:=(by omega);have R:(2*k+3) %2=1:=(by omega);rw[J,R] at ay;show gL (List.replicate j .snd++.fst::r) (List.replicate k .snd++.fst::(s::gH))=true;by_cases e:j=k
    ·subst e;simp at ay
    ·exact Ko (Kp e)
   ·cases ai
 unfold uG at aG;split at aG
 ·rename_i i q;split at aG
  case h_2=>cases aG
  rename_i c' hc;cases aG;cases q with
  |nil=>simp[j6,mZ]
  |cons s q=>simp[j6,mZ,place _ hc]
 ·rename_i i q;split at aG
  case h_2=>cases aG
  rename_i c' hc;cases aG;simp[j6,mZ,QE,place _ hc]
 ·rename_i i q τ aS own;split at aG
  case h_2=>cases aG
  rename_i k r' l8 ac;cases aG;have J:(2*k+3)/2=k+1:=(by omega);have R:(2*k+3) %2=1:=(by omega);rw[J,R] at ay;have aN:lX p q=true:=by
   rw[KL ac,Li];show lX (List.replicate j .snd++.fst::r) (List.replicate k .snd++.fst::r')=true;by_cases e:j=k
   ·subst e;simp at ay
   ·exact Kp e
  have aH:(own.all fun i=>!(dJ i S))=true:=fk.2 fun x ab=>by
   rcases bB x (f6 _ ab) with e|e
   ·rw[e] at ab;rw[eX.2 ab] at l8;cases l8
   ·cases ao:dJ x S
    ·rfl
    ·exact absurd (eX.1 ao) e
  show((own.all fun i=>!(dJ i S))&&([(id,p),(id,[])].any fun e=>Nat.beq e.1 id&&lX e.2 q))=true;rw[aH];simp[aN]
 ·cases aG
section
theorem Rb {g ej:Operand->aw} {parts:List (Nat×Operand)} (aD:∀q∈parts,g q.2=ej q.2):∀(t:aq) (n:Nat),tG g parts t n=tG ej parts t n
 |.pr a b,n=>by
  simp only[tG,Rb aD b (n+1)];cases ay:nD parts n with
  |none=>rfl
  |some x=>
   have:g x=ej x:=aD (n,x) (GN ay);simp only[this]
 |.nil,_=>rfl
 |.int _,_=>rfl
 |.bool,_=>rfl
 |.str,_=>rfl
 |.bJ _ _,_=>rfl
 |.ptr _ _,_=>rfl
 |.osl _,_=>rfl
 |.optr _,_=>rfl
 |.st _,_=>rfl
 |.dw,_=>rfl
 |.mp _,_=>rfl
 |.ee _ _,_=>rfl
theorem YQ {h:List (Nat×a1)} {g ej:Operand->aw} {parts:List (Nat×Operand)} (aD:∀q∈parts,g q.2=ej q.2):∀(t:aq) (n:Nat),o2 h g parts t n=o2 h ej parts t n
 |.pr a b,n=>by
  simp only[o2,YQ aD b (n+1)];cases ay:nD parts n with
  |none=>rfl
  |some x=>
   have:g x=ej x:=aD (n,x) (GN ay);simp only[this]
 |.nil,_=>rfl
 |.int _,_=>rfl
 |.bool,_=>rfl
 |.str,_=>rfl
 |.bJ _ _,_=>rfl
 |.ptr _ _,_=>rfl
 |.osl _,_=>rfl
 |.optr _,_=>rfl
 |.st _,_=>rfl
 |.dw,_=>rfl
 |.mp _,_=>rfl
 |.ee _ _,_=>rfl
section
variable {tt:List (TypeId×aq)} {an:List (Nat×aq)} {h a2:List (Nat×a1)} {d:Nat} {g ej:Operand->aw}
theorem Mg {x:Option Operand} (aD:∀y∈x.toArray,g y=ej y):x.map g=x.map ej:=by
 cases x with
 |none=>rfl
 |some y=>simp only[g6,cI];exact aD y (by simp)
theorem aiY {op:Op} (aD:∀x∈op.operands,g x=ej x):gr tt an h g d op=gr tt an h ej d op:=by
 cases op
 case build T ps=>
  have:∀q∈ps.toList,g q.2=ej q.2:=fun q ai=>aD q.2 (by simp only[Op.operands,Ec,dj];exact⟨q,ai,rfl⟩);simp only[gr,Eu,Rb this]
 case buildSlice T n ps=>
  have:∀q∈ps.toList,g q.2=ej q.2:=fun q ai=>aD q.2 (by simp only[Op.operands,Ec,dj];exact⟨q,ai,rfl⟩);simp only[gr,BU,ke this]
 case slice T x lo hi mx=>
  simp only[Op.operands] at aD;have J:g x=ej x:=aD x (by simp);have R:lo.map g=lo.map ej:=Mg (fun y aB=>aD y (by simp at aB|-;simp[aB]));have ae:hi.map g=hi.map ej:=Mg (fun y aB=>aD y (by simp at aB|-;simp[aB]));cases mx
  ·simp only[gr,J,R,ae]
  ·rfl
 case makeMap T r=>
  cases r<;>rfl
 case makeFunc fn fs cs=>
  cases fn<;>try rfl
  have:∀x∈cs.toList,g x=ej x:=fun x ab=>aD x (by simp only[Op.operands];exact uc _ (by simpa using ab));simp only[gr,ke this]
 case call c=>
  obtain⟨callee,args,ca⟩:=c;have ah:∀x∈args.toList,g x=ej x:=fun x ab=>aD x (by simp only[Op.operands,Call.operands];exact uc _ (by simpa using ab));clear aD;simp only[gr];split
  ·rename_i x T aC _;rw[aC] at ah;rw[ah x (by simp)]
  ·rename_i x r aC;rw[aC] at ah;rw[ah x (by simp),ke (fun y aB=>ah y (by simp[aB]))]
  ·rename_i x r aC;rw[aC] at ah;rw[ah x (by simp),ke (fun y aB=>ah y (by simp[aB]))]
  ·rfl
 all_goals (simp only[Op.operands] at aD;simp only[gr])
 all_goals (first|rfl|(simp_all;done))
theorem ai1 {op:Op} (aD:∀x∈op.operands,g x=ej x):lr tt an h g d op=lr tt an h ej d op:=by
 cases op
 case slice T x lo hi mx=>
  simp only[Op.operands] at aD;have J:g x=ej x:=aD x (by simp);have R:lo.map g=lo.map ej:=Mg (fun y aB=>aD y (by simp at aB|-;simp[aB]));have ae:hi.map g=hi.map ej:=Mg (fun y aB=>aD y (by simp at aB|-;simp[aB]));cases mx
  ·simp only[lr,J,R,ae]
  ·rfl
 case call c=>
  obtain⟨callee,args,ca⟩:=c;have ah:∀x∈args.toList,g x=ej x:=fun x ab=>aD x (by simp only[Op.operands,Call.operands];exact uc _ (by simpa using ab));clear aD;simp only[lr];split
  ·rename_i x T aC _;rw[aC] at ah;rw[ah x (by simp)]
  ·rfl
 case unOp o T x=>
  have J:g x=ej x:=aD x (by simp[Op.operands]);cases o<;>simp only[lr,J]
 all_goals (simp only[Op.operands] at aD;simp only[lr])
 all_goals (first|rfl|(simp_all;done))
theorem Vr {ic:gS} {aR:Type} {o:Oper} {K:b0->Option aR} (aD:∀x∈o.op.operands,g x=ej x):aC ic g h o K=aC ic ej h o K:=by
 have xi:=fun(d:Nat)=>ai1 (tt:=ic.tt) (an:=ic.an) (h:=h) (d:=d) aD;have c9:=fun(d:Nat)=>aiY (tt:=ic.tt) (an:=ic.an) (h:=h) (d:=d) aD;unfold aC;cases aN:o.dst with
 |none=>
  simp only;split
  ·rename_i T x v bZ;rw[bZ] at aD;rw[aD x (by simp[Op.operands]),aD v (by simp[Op.operands])]
  ·rename_i T x k v bZ;rw[bZ] at aD;rw[aD x (by simp[Op.operands]),aD k (by simp[Op.operands]),aD v (by simp[Op.operands])]
  ·rename_i T x k v bZ;rw[bZ] at aD;rw[aD x (by simp[Op.operands]),aD k (by simp[Op.operands]),aD v (by simp[Op.operands])]
  ·rename_i T x k v bZ;rw[bZ] at aD;rw[aD x (by simp[Op.operands]),aD k (by simp[Op.operands]),aD v (by simp[Op.operands])]
  ·rename_i xs ca bZ;rw[bZ] at aD;split
   ·rename_i x y T jo aC _;have ab:∀z∈xs.toList,g z=ej z:=fun z aZ=>aD z (by simp only[Op.operands,Call.operands];exact uc _ (by simpa using aZ));rw[aC] at ab;rw[ab x (by simp),ab y (by simp)]
   ·rfl
  ·rfl
 |some d=>
  simp only;congr 1;split
  ·rename_i c x y bZ;rw[bZ] at aD;rw[aD c (by simp[Op.operands]),aD x (by simp[Op.operands]),aD y (by simp[Op.operands])]
  ·rename_i z xs _ bZ;rw[bZ] at aD;have:xs.toList.map g=xs.toList.map ej:=ke fun x ab=>aD x (by simp only[Op.operands,Call.operands];exact uc _ (by simpa using ab));have aZ:g z=ej z:=aD z (by simp[Op.operands,Call.operands]);rw[this,aZ]
  ·rename_i xs ca bZ;rw[bZ] at aD;split
   ·rename_i x y T jo aC _;have ab:∀z∈xs.toList,g z=ej z:=fun z aZ=>aD z (by simp only[Op.operands,Call.operands];exact uc _ (by simpa using aZ));rw[aC] at ab;rw[ab x (by simp),ab y (by simp)]
   ·rfl
  ·rename_i xs ca bZ;rw[bZ] at aD;split
   ·rename_i x y T jo aC _;have ab:∀z∈xs.toList,g z=ej z:=fun z aZ=>aD z (by simp only[Op.operands,Call.operands];exact uc _ (by simpa using aZ));rw[aC] at ab;rw[ab x (by simp),ab y (by simp)]
   ·rfl
  ·rename_i x bZ;rw[bZ] at aD;rw[aD x (by simp[Op.operands])]
  ·rename_i T ps bZ;rw[bZ] at aD;have ay:∀q∈ps.toList,g q.2=ej q.2:=fun q ai=>aD q.2 (by simp only[Op.operands,Ec,dj];exact⟨q,ai,rfl⟩);simp only[wS,Rb ay,YQ ay]
  ·rename_i T x k bZ;rw[bZ] at aD;rw[aD x (by simp[Op.operands]),aD k (by simp[Op.operands])]
  ·rename_i T x bZ;rw[bZ] at aD;rw[aD x (by simp[Op.operands])]
  ·rename_i T n ps bZ;rw[bZ] at aD;have ay:∀q∈ps.toList,g q.2=ej q.2:=fun q ai=>aD q.2 (by simp only[Op.operands,Ec,dj];exact⟨q,ai,rfl⟩);simp only[wU,ke ay]
  ·rw[xi,c9]
def e4 (h a2:List (Nat×a1)) (a:aw):Prop:=∀id∈a.ids,az h id=az a2 id
theorem ar6 {x:aw} (ab:e4 h a2 x):vR h x=vR a2 x:=by
 cases x with
 |ref id p=>simp only[vR,ab id (by simp[aw.ids])]
 |_=>rfl
theorem ar5 {x:aw} {id:Nat} {p:List bw} (ay:vR h x=some (id,p)):id∈x.ids:=by
 unfold vR at ay;split at ay
 ·cases ay;simp[aw.ids]
 ·split at ay
  ·split at ay
   ·cases ay;simp[aw.ids]
   ·cases ay
  ·cases ay
 ·cases ay
theorem at6 {T:TypeId} {x v:aw} {aR:Type} {K:b0->Option aR} (ab:e4 h a2 x) (hv:e4 h a2 v):wa tt h T x v K=wa tt a2 T x v K:=by
 unfold wa;rw[<-ar6 ab];split
 ·rfl
 ·rename_i id p ay;rw[ab id (ar5 ay)];cases v with
  |ref cO eF=>simp only[hv cO (by simp[aw.ids])]
  |_=>rfl
theorem acg {σ:aq} {y:aw} (aB:e4 h a2 y):mq h σ y=mq a2 σ y:=by
 cases y with
 |ref id p=>simp only[mq,aB id (by simp[aw.ids])]
 |view id p lo hi=>simp only[mq,aB id (by simp[aw.ids])]
 |val τ z=>cases τ<;>rfl
 |c5 v=>unfold mq;split<;>first|rfl|(split<;>first|rfl|simp_all)
 |_=>rfl
theorem agm {T:TypeId} {x y:aw} {aR:Type} {K:b0->Option aR} (ab:e4 h a2 x) (aB:e4 h a2 y) (aN:az h d=az a2 d):rx tt an h d T x y K=rx tt an a2 d T x y K:=by
 unfold rx;split
 ·rfl
 ·have gE:∀σ:aq,mq h σ y=mq a2 σ y:=fun σ=>acg aB;cases x with
  |ref id p=>
   cases p with
   |nil=>
    simp only[ab id (by simp[aw.ids]),gE];cases y with
    |ref cO eF=>
     cases eF with
     |nil=>simp only[aB cO (by simp[aw.ids])]
     |cons s eF=>rfl
    |_=>rfl
   |cons s p=>simp only[ab id (by simp[aw.ids]),gE,aN]
  |view id p lo hi=>
   cases p with
   |nil=>simp only[ab id (by simp[aw.ids]),gE]
   |cons s p=>rfl
  |c5 v=>simp only[gE];split<;>first|rfl|(split<;>first|rfl|simp_all)
  |_=>rfl
theorem arS {x y:aw} (aB:e4 h a2 y):AK h x y=AK a2 x y:=by
 unfold AK;cases x with
 |ref id p=>
  cases p with
  |nil=>rfl
  |cons s p=>
   cases y with
   |ref cO eF=>
    cases eF with
    |nil=>simp only[aB cO (by simp[aw.ids])]
    |cons iC eF=>rfl
   |_=>rfl
 |_=>rfl
theorem agp {T:TypeId} {x y:aw} {aR:Type} {K:b0->Option aR} (ab:e4 h a2 x) (aB:e4 h a2 y) (aN:az h d=az a2 d):qp tt an h d T x y K=qp tt an a2 d T x y K:=by
 unfold qp;rw[arS aB,agm ab aB aN];split
 ·rename_i id p cO t ax;obtain⟨rfl,_,_⟩:=RW ax;unfold En;rw[ab id (by simp[aw.ids]),aN]
 ·rfl
theorem ahM {T:TypeId} {x y:aw} {aR:Type} {K:b0->Option aR} (ab:e4 h a2 x) (aB:e4 h a2 y):uI tt h d T x y K=uI tt a2 d T x y K:=by
 unfold uI;split
 ·rfl
 ·have gE:∀σ:aq,mq h σ y=mq a2 σ y:=fun σ=>acg aB;cases x with
  |ref id p=>
   cases p with
   |nil=>simp only[ab id (by simp[aw.ids]),gE]
   |cons s p=>rfl
  |view id p lo hi=>
   cases p with
   |nil=>simp only[ab id (by simp[aw.ids]),gE]
   |cons s p=>rfl
  |_=>rfl
theorem NH {v:aw} (hv:e4 h a2 v):sV an h d v=sV an a2 d v:=by
 cases v with
 |ref id p=>
  cases p with
  |nil=>simp only[sV,hv id (by simp[aw.ids])]
  |cons s p=>rfl
 |view id p lo hi=>
  cases p with
  |nil=>simp only[sV,hv id (by simp[aw.ids])]
  |cons s p=>rfl
 |c5 v=>unfold sV;split<;>first|rfl|(split<;>first|rfl|simp_all)
 |_=>rfl
theorem arY {a:aq} {v:aw} (hv:e4 h a2 v):Do h a v=Do a2 a v:=by
 cases v with
 |ref id p=>
  cases p with
  |nil=>simp only[Do,hv id (by simp[aw.ids])]
  |cons s p=>rfl
 |_=>rfl
theorem YR {parts:List (Nat×Operand)} (aD:∀q∈parts,e4 h a2 (g q.2)):∀(t:aq) (n:Nat),o2 h g parts t n=o2 a2 g parts t n
 |.pr a b,n=>by
  simp only[o2,YR aD b (n+1)];cases ay:nD parts n with
  |none=>rfl
  |some x=>simp only[arY (aD (n,x) (GN ay))]
 |.nil,_=>rfl
 |.int _,_=>rfl
 |.bool,_=>rfl
 |.str,_=>rfl
 |.bJ _ _,_=>rfl
 |.ptr _ _,_=>rfl
 |.osl _,_=>rfl
 |.optr _,_=>rfl
 |.st _,_=>rfl
 |.dw,_=>rfl
 |.mp _,_=>rfl
 |.ee _ _,_=>rfl
theorem ahx {t:aq} {v:aw} (hv:e4 h a2 v):zb h t v=zb a2 t v:=by
 cases v with
 |ref id p=>
  cases p with
  |nil=>simp only[zb,hv id (by simp[aw.ids])]
  |cons s p=>rfl
 |_=>rfl
theorem U9 {t:aq}:∀{l:List aw},(∀a∈l,e4 h a2 a)->zc h t l=zc a2 t l
 |[],_=>rfl
 |x::r,ah=>by simp only[zc,ahx (ah x (by simp)),U9 (l:=r) (fun a aG=>ah a (by simp[aG]))]
theorem Ur {S:List Nat} {τ:aq} {v:aw} (hv:e4 h a2 v):qq h S v τ=qq a2 S v τ:=by
 cases v with
 |ref id p=>simp only[qq,hv id (by simp[aw.ids])]
 |_=>rfl
theorem aw.YN {f:Nat} {l:List aw} {a:aw} {id:Nat} (aG:a∈l) (bh:id∈a.ids):id∈(aw.dQ f l).ids:=by obtain⟨i,hi,rfl⟩:=jk.1 aG;exact aw.GY (l:=l) (i:=i) (ct hi) bh
theorem Wg {S:List Nat}:∀{τs:List aq} {avs:List aw},(∀a∈avs,e4 h a2 a)->rP h S τs avs=rP a2 S τs avs
 |[],[],_=>rfl
 |[],_::_,_=>rfl
 |_::_,[],_=>rfl
 |τ::l,av::as,ah=>by simp only[rP,Ur (ah av (by simp)),Wg (τs:=l) (avs:=as) (fun a aG=>ah a (by simp[aG]))]
theorem xg {S:List Nat}:∀{ps:List g7} {avs:List aw},(∀a∈avs,e4 h a2 a)->eN h S ps avs=eN a2 S ps avs
 |[],[],_=>rfl
 |[],_::_,_=>rfl
 |p::l,[],_=>by cases p<;>rfl
 |.v τ::l,av::as,ah=>by simp only[eN,Ur (ah av (by simp)),xg (ps:=l) (avs:=as) (fun a aG=>ah a (by simp[aG]))]
 |.c n τs::l,av::as,ah=>by
  have aT:=xg (S:=S) (ps:=l) (avs:=as) (fun a aG=>ah a (by simp[aG]));cases av with
  |dQ m q=>
   have:rP h S τs q=rP a2 S τs q:=Wg (fun a aG id bh=>ah (.dQ m q) (by simp) id (aw.YN aG bh));simp only[eN,this,aT]
  |_=>rfl
 |.m τ::l,av::as,ah=>by
  have aT:=xg (S:=S) (ps:=l) (avs:=as) (fun a aG=>ah a (by simp[aG]));cases av with
  |ref id p=>
   cases p with
   |nil=>simp only[eN,ah (.ref id []) (by simp) id (by simp[aw.ids]),aT]
   |cons s p=>rfl
  |_=>rfl
 |.o τ::l,av::as,ah=>by
  have aT:=xg (S:=S) (ps:=l) (avs:=as) (fun a aG=>ah a (by simp[aG]));cases av with
  |ref id p=>
   cases p with
   |nil=>simp only[eN,ah (.ref id []) (by simp) id (by simp[aw.ids]),aT]
   |cons s p=>rfl
  |c5 v=>simp only[eN,aT]
  |_=>rfl
 |.w σ::l,av::as,ah=>by
  have aT:=xg (S:=S) (ps:=l) (avs:=as) (fun a aG=>ah a (by simp[aG]));cases av with
  |view id p lo hi=>
   cases p with
   |nil=>simp only[eN,ah (.view id [] lo hi) (by simp) id (by simp[aw.ids]),aT]
   |cons s p=>rfl
  |_=>rfl
 |.n::l,av::as,ah=>by
  have aT:=xg (S:=S) (ps:=l) (avs:=as) (fun a aG=>ah a (by simp[aG]));cases av with
  |c5 v=>simp only[eN,aT]
  |_=>rfl
 |.s f q::l,av::as,ah=>by
  have aT:=xg (S:=S) (ps:=l) (avs:=as) (fun a aG=>ah a (by simp[aG]));cases av with
  |ref id p=>cases p<;>simp only[eN,aT]
  |view id p lo hi=>cases p<;>simp only[eN,aT]
  |_=>simp only[eN,aT]
theorem anD {T:TypeId} {x:aw} (ab:e4 h a2 x):At tt h T x=At tt a2 T x:=by
 unfold At;cases x with
 |ref id p=>simp only[ab id (by simp[aw.ids])]
 |app id p τ aS own=>simp only[ab id (by simp[aw.ids])]
 |val τ z=>cases fU tt T with|none=>rfl|some u=>cases τ<;>rfl
 |c5 v=>cases fU tt T with|none=>rfl|some u=>simp only;split<;>first|rfl|(split<;>first|rfl|simp_all)
 |_=>rfl
theorem aoP {T:TypeId} {x:aw} (ab:e4 h a2 x):AD tt h T x=AD tt a2 T x:=by
 unfold AD;cases x with
 |ref id p=>simp only[ab id (by simp[aw.ids])]
 |val τ z=>cases mb tt T with|none=>rfl|some u=>cases τ<;>rfl
 |_=>rfl
theorem anN {T:TypeId} {x k:aw} {ok:Bool} (ab:e4 h a2 x):Av tt h T x k ok=Av tt a2 T x k ok:=by
 unfold Av;cases x with
 |ref id p=>simp only[ab id (by simp[aw.ids])]
 |val τ z=>split<;>first|rfl|(cases τ<;>rfl)
 |_=>split<;>rfl
theorem aoN {T:TypeId} (aN:az h d=az a2 d):Dd tt an h d T=Dd tt an a2 d T:=by unfold Dd;rw[aN]
theorem Rg {aR:Type} {K:b0->Option aR} {T:TypeId} {x k v:aw} (ab:e4 h a2 x):qO tt h T x k v K=qO tt a2 T x k v K:=by
 unfold qO;cases x with
 |ref id p=>simp only[ab id (by simp[aw.ids])]
 |_=>rfl
theorem aoJ {aR:Type} {K:b0->Option aR} {T:TypeId} {x k:aw} (ab:e4 h a2 x):vC tt h d T x k K=vC tt a2 d T x k K:=by
 unfold vC;cases x with
 |ref id p=>simp only[ab id (by simp[aw.ids])]
 |_=>rfl
theorem aiR {aR:Type} {K:b0->Option aR} {T:TypeId} {x s v:aw} (ab:e4 h a2 x):uT tt h T x s v K=uT tt a2 T x s v K:=by
 unfold uT;cases x with
 |ref id p=>
  cases s with
  |lq cO eF k=>simp only[Rg ab]
  |_=>rfl
 |_=>rfl
theorem aoC {aR:Type} {K:b0->Option aR} {T:TypeId} {x k:aw} (ab:e4 h a2 x):vB tt h T x k K=vB tt a2 T x k K:=by
 unfold vB;cases x with
 |ref id p=>simp only[ab id (by simp[aw.ids])]
 |_=>rfl
theorem amP {T:TypeId} {x i:aw} (ab:e4 h a2 x):Al tt h T x i=Al tt a2 T x i:=by
 unfold Al;cases x with
 |ref id p=>simp only[ab id (by simp[aw.ids])]
 |view id p lo hi=>simp only[ab id (by simp[aw.ids])]
 |val τ z=>cases τ<;>rfl
 |c5 v=>rfl
 |_=>rfl
theorem anK {T:TypeId} {x:aw} (ab:e4 h a2 x):Au tt h T x=Au tt a2 T x:=by
 unfold Au;cases x with
 |ref id p=>simp only[ab id (by simp[aw.ids])]
 |addr id p=>simp only[ab id (by simp[aw.ids])]
 |val τ z=>cases τ<;>first|rfl|(cases z<;>rfl)
 |c5 v=>rfl
 |_=>rfl
theorem ajE {T:TypeId} {x:aw} {n:Nat} (ab:e4 h a2 x):zN tt h T x n=zN tt a2 T x n:=by
 unfold zN;cases x with
 |ref id p=>simp only[ab id (by simp[aw.ids])]
 |addr id p=>simp only[ab id (by simp[aw.ids])]
 |val τ z=>cases τ<;>first|rfl|(rename_i m t;cases z<;>first|rfl|(cases t<;>rfl))
 |c5 v=>rfl
 |_=>rfl
theorem ajG {T:TypeId} {x:aw} {n:Nat} (ab:e4 h a2 x):lP.Cn tt h T x n=lP.Cn tt a2 T x n:=by
 unfold lP.Cn;cases x with
 |ref id p=>simp only[ab id (by simp[aw.ids])]
 |val τ z=>cases τ<;>rfl
 |c5 v=>rfl
 |_=>rfl
theorem api {x:aw} (ab:e4 h a2 x):AG h x=AG a2 x:=by
 unfold AG;cases x with
 |ref id p=>simp only[ab id (by simp[aw.ids])]
 |val τ z=>cases τ<;>rfl
 |c5 v=>rfl
 |_=>rfl
theorem atR {T:TypeId} {x:aw} {lo hi:Option aw} (ab:e4 h a2 x):A6 tt h T x lo hi=A6 tt a2 T x lo hi:=by
 unfold A6;cases x with
 |ref id p=>simp only[ab id (by simp[aw.ids])]
 |val τ z=>cases τ<;>rfl
 |c5 v=>rfl
 |_=>rfl
theorem aos {T:TypeId} {l c:aw} (aN:az h d=az a2 d):AA tt an h d T l c=AA tt an a2 d T l c:=by unfold AA;rw[aN]
theorem age {T:TypeId} (aN:az h d=az a2 d):BK tt an h d T=BK tt an a2 d T:=by unfold BK;rw[aN]
theorem aiZ {op:Op} (aD:∀x∈op.operands,e4 h a2 (g x)) (aN:az h d=az a2 d):gr tt an h g d op=gr tt an a2 g d op:=by
 cases op
 case box T x=>simp only[gr,Ev];rw[aN]
 case buildSlice T n ps=>simp only[gr,BU];rw[aN]
 case alloc T=>exact age aN
 case makeSlice T l c=>exact aos aN
 case makeMap T r=>
  cases r
  ·exact aoN aN
  ·rfl
 case lookup T x k ok=>exact anN (aD x (by simp[Op.operands]))
 case load T x=>exact anK (aD x (by simp[Op.operands]))
 case nilCheck x=>exact api (aD x (by simp[Op.operands]))
 case indexAddr T x i=>exact amP (aD x (by simp[Op.operands]))
 case fieldAddr T x n=>exact ajE (aD x (by simp[Op.operands]))
 case field T x n=>exact ajG (aD x (by simp[Op.operands]))
 case slice T x lo hi mx=>
  cases mx
  ·exact atR (aD x (by simp[Op.operands]))
  ·rfl
 case call c=>
  obtain⟨callee,args,ca⟩:=c;have ah:∀x∈args.toList,e4 h a2 (g x):=fun x ab=>aD x (by simp only[Op.operands,Call.operands];exact uc _ (by simpa using ab));clear aD;simp only[gr];split
  ·rename_i x T aC _;rw[aC] at ah;split;exact anD (ah x (by simp));exact aoP (ah x (by simp))
  ·rfl
  ·rfl
  ·rfl
 case makeFunc fn fs cs=>cases fn<;>rfl
 all_goals rfl
theorem ai2 {op:Op} (aD:∀x∈op.operands,e4 h a2 (g x)) (aN:az h d=az a2 d):lr tt an h g d op=lr tt an a2 g d op:=by
 cases op
 case lookup T x k ok=>
  have ab:=aD x (by simp[Op.operands]);simp only[lr];split
  ·rename_i u id p n aC aV b4;rw[aV] at ab;rw[ab id (by simp[aw.ids])]
  ·rfl
 case makeSlice T l c=>simp only[lr,aN]
 case unOp o T x=>cases o<;>rfl
 case indexAddr T x i=>
  have ab:=aD x (by simp[Op.operands]);simp only[lr];revert ab;cases g x with
  |ref id p=>intro ab;simp only[ab id (by simp[aw.ids])]
  |view id p lo hi=>
   intro ab;cases p with
   |nil=>simp only[ab id (by simp[aw.ids])]
   |cons=>rfl
  |val τ z=>intro _;cases τ<;>rfl
  |_=>intro _;rfl
 case load T x=>
  have ab:=aD x (by simp[Op.operands]);simp only[lr];revert ab;cases g x with
  |ref id p=>intro ab;simp only[ab id (by simp[aw.ids])]
  |addr id p=>intro ab;simp only[ab id (by simp[aw.ids])]
  |val τ z=>intro _;cases τ<;>rfl
  |_=>intro _;rfl
 case slice T x lo hi mx=>
  have ab:=aD x (by simp[Op.operands]);cases mx
  ·simp only[lr];revert ab;cases g x with
   |ref id p=>intro ab;simp only[ab id (by simp[aw.ids])]
   |val τ z=>intro _;cases τ<;>rfl
   |_=>intro _;rfl
  ·rfl
 case call c=>
  obtain⟨callee,args,ca⟩:=c;have ah:∀x∈args.toList,e4 h a2 (g x):=fun x ab=>aD x (by simp only[Op.operands,Call.operands];exact uc _ (by simpa using ab));clear aD;simp only[lr];split
  ·rename_i x T aC _;rw[aC] at ah;have ab:=ah x (by simp);cases fU tt T with
   |none=>
    revert ab;cases g x with
    |ref id p=>intro ab;simp only;rw[ab id (by simp[aw.ids])]
    |_=>intro _;rfl
   |some u=>
    revert ab;cases g x with
    |ref id p=>intro ab;simp only;rw[ab id (by simp[aw.ids])]
    |_=>intro _;rfl
  ·rfl
 all_goals rfl
theorem xS {callee:Callee} {args:Array Operand} {ca:Array TypeId} {x:Operand} (ab:x∈args.toList):x∈(Op.call {callee:=callee,args:=args,argTypes:=ca}).operands:=by simp only[Op.operands,Call.operands];exact uc _ (by simpa using ab)
theorem Vs {ic:gS} {o:Oper} {e:b0} (aE:aC ic g h o some=some e) (aD:∀x∈o.op.operands,e4 h a2 (g x)) (aN:∀d,o.dst=some d->az h d=az a2 d) (ay:∀q∈e.put,az h q.1=az a2 q.1):aC ic g a2 o some=some e:=by
 unfold aC at aE|-;cases pC:o.dst with
 |none=>
  rw[pC] at aE;simp only at aE|-;split at aE
  ·rename_i T x v bZ;rw[bZ] at aD;rw[<-at6 (aD x (by simp[Op.operands])) (aD v (by simp[Op.operands]))];exact aE
  ·rename_i T x k v bZ;rw[bZ] at aD;rw[<-Rg (aD x (by simp[Op.operands]))];exact aE
  ·rename_i T x k v bZ;rw[bZ] at aD;rw[<-Rg (aD x (by simp[Op.operands]))];exact aE
  ·rename_i T x s v bZ;rw[bZ] at aD;rw[<-aiR (aD x (by simp[Op.operands]))];exact aE
  ·rename_i xs ca bZ;rw[bZ] at aD;split at aE
   case h_2=>cases aE
   rename_i x k T jo aC aV;have ah:∀z∈xs.toList,e4 h a2 (g z):=fun z aZ=>aD z (xS aZ);rw[aC] at ah;rw[<-aoC (ah x (by simp))];exact aE
  ·cases aE
 |some d=>
  rw[pC] at aE;have aN:=aN d pC;simp only at aE|-;cases hs:g3 ic.n ic.pin d with
  |false=>rw[hs] at aE;cases aE
  |true=>
  rw[hs] at aE;simp only[cond_true] at aE|-;split at aE
  ·rename_i c x y bZ;exact aE
  ·rename_i z xs _ bZ;rw[bZ] at aD;split at aE
   case h_2=>cases aE
   rename_i f l aZ
   try rw[aZ]
   try simp only
   have ah:∀a∈xs.toList.map g++l,e4 h a2 a:=fun a aG=>by
    rcases fe.1 aG with aG|aG
    ·obtain⟨x,ab,rfl⟩:=dj.1 aG;exact aD x (xS ab)
    ·intro id bh;exact aD z (by simp[Op.operands,Call.operands]) id (by rw[aZ];exact aw.YN aG bh)
   split at aE
   ·cases aE
   rename_i F c9;cases aa:Nat.beq F.f f with
   |false=>rw[aa] at aE;cases aE
   |true=>
   rw[aa] at aE;simp only[cond_true,py] at aE|-;rw[<-xg ah];obtain⟨a,aG,aE⟩:=dk.1 aE;obtain⟨b,Af,aE⟩:=dk.1 aE;simp only[aG,Af,br];cases hc:pt d ⟨[],h⟩ (xs.toList.map g++l) (fF F.ps a b) (jz F.rs (iB F.ps b)) with
   |false=>rw[hc] at aE;cases aE
   |true=>
   rw[hc] at aE;have qA:pt d ⟨[],a2⟩ (xs.toList.map g++l) (fF F.ps a b) (jz F.rs (iB F.ps b))=true:=(by rw[<-hc];unfold pt;congr 1;rw[qb,fk,fk];cases aE;have ai:∀q∈jC d (jf (jz F.rs (iB F.ps b))) 0 (jz F.rs (iB F.ps b)),az h q.1=az a2 q.1:=fun q ai=>ay q (by simp only[fe];exact .inr ai);exact⟨fun ax q fq=>by rw[show az (ba.mk [] h).h q.1=az h q.1 from rfl,ai q fq];exact ax q fq,fun ax q fq=>by rw[show az (ba.mk [] a2).h q.1=az a2 q.1 from rfl,<-ai q fq];exact ax q fq⟩);rw[qA];exact aE
  ·rename_i xs ca bZ;rw[bZ] at aD;split at aE
   case h_2=>cases aE
   rename_i x y T jo aC aV;have ah:∀z∈xs.toList,e4 h a2 (g z):=fun z aZ=>aD z (xS aZ);rw[aC] at ah;rw[<-agp (ah x (by simp)) (ah y (by simp)) aN];exact aE
  ·rename_i xs ca bZ;rw[bZ] at aD;split at aE
   case h_2=>cases aE
   rename_i x y T jo aC aV;have ah:∀z∈xs.toList,e4 h a2 (g z):=fun z aZ=>aD z (xS aZ);rw[aC] at ah;rw[<-ahM (ah x (by simp)) (ah y (by simp))];exact aE
  ·rename_i x bZ;rw[bZ] at aD;have ab:=aD x (by simp[Op.operands]);revert aE ab;cases g x with
   |val τ y=>intro aE _;exact aE
   |c5 v=>intro aE ab;simp only[<-NH ab];exact aE
   |ref id p=>intro aE ab;simp only[<-NH ab];exact aE
   |view id p lo hi=>intro aE ab;simp only[<-NH ab];exact aE
   |_=>intro aE _;exact aE
  ·rename_i T ps bZ;rw[bZ] at aD;have ay:∀q∈ps.toList,e4 h a2 (g q.2):=fun q ai=>aD q.2 (by simp only[Op.operands,Ec,dj];exact⟨q,ai,rfl⟩);rw[<-aE];simp only[wS,YR ay,aN]
  ·rename_i T x k bZ;rw[bZ] at aD;rw[<-aoJ (aD x (by simp[Op.operands]))];exact aE
  ·rename_i T x bZ;rw[bZ] at aD;have ab:=aD x (by simp[Op.operands]);rw[<-aE];simp only[y7,aN];revert ab;cases g x with
   |ref id p=>
    intro ab;cases p with
    |nil=>simp only[ab id (by simp[aw.ids])]
    |cons s p=>rfl
   |_=>intro _;rfl
  ·rename_i T n ps bZ;rw[bZ] at aD;have ay:∀a∈ps.toList.map (fun q=>g q.2),e4 h a2 a:=fun a aG=>by
    obtain⟨q,ai,rfl⟩:=dj.1 aG;exact aD q.2 (by simp only[Op.operands,Ec,dj];exact⟨q,ai,rfl⟩)
   rw[<-aE];simp only[wU,U9 ay,aN]
  ·rw[ai2 aD aN,aiZ aD aN] at aE;exact aE
end
theorem ab0 {op:Op}:∀x∈wi op,x∈op.operands:=by
 intro x ab;cases op<;>simp only[wi] at ab<;>first|(cases ab;done)|skip
 case assign y=>simpa[Op.operands] using ab
 case box T y=>simpa[Op.operands] using ab
 case build T ps=>simpa[Op.operands] using ab
 case buildSlice T n ps=>simpa[Op.operands] using ab
 case store T a v=>simp at ab;simp[Op.operands,ab]
 case mapUpdate T a k v=>simp at ab;simp[Op.operands,ab]
 case insert T a k v=>simp at ab;simp[Op.operands,ab]
 case entryStore T a k v=>simp at ab;simp[Op.operands,ab]
 case call c=>
  obtain⟨callee,args,ca⟩:=c;simp only at ab;split at ab
  ·exact xS ab
  ·exact xS (List.mem_of_mem_drop ab)
  ·cases ab
theorem KI {hN:List axM} {k:Nat} {g:Operand->aw}:∀{l:List Operand},∀id∈n2 hN k g l,∃x∈l,g x=.ref id []
 |[],id,h=>by cases h
 |x::l,id,h=>by
  simp only[n2] at h;split at h
  ·rename_i i ab;rw[Bool.cond_eq_ite] at h;split at h
   ·rcases dV.1 h with rfl|h
    ·exact⟨x,by simp,ab⟩
    ·obtain⟨y,aB,e⟩:=KI id h;exact⟨y,by simp[aB],e⟩
   ·obtain⟨y,aB,e⟩:=KI id h;exact⟨y,by simp[aB],e⟩
  ·obtain⟨y,aB,e⟩:=KI id h;exact⟨y,by simp[aB],e⟩
theorem V9 {hN:List axM} {k:Nat} {g ej:Operand->aw}:∀{l:List Operand},(∀x∈l,g x=ej x)->n2 hN k g l=n2 hN k ej l
 |[],_=>rfl
 |x::l,aD=>by simp only[n2,aD x (by simp),V9 (l:=l) (fun y aB=>aD y (by simp[aB]))]
theorem V8 {h a2:List (Nat×a1)} {F:List Nat} (c9:∀id∈F,az h id=az a2 id) (a:aw):gC h F a=gC a2 F a:=by
 cases a with
 |ref id p=>
  cases p with
  |nil=>
   simp only[gC];cases ao:dJ id F with
   |false=>rfl
   |true=>rw[c9 id (eX.1 ao)]
  |cons s p=>rfl
 |_=>rfl
theorem ajR {h a2:List (Nat×a1)} {F:List Nat} (c9:∀id∈F,az h id=az a2 id) (a:aw):ja h F a=ja a2 F a:=by
 by_cases af:∃l,a=.d3 l
 ·obtain⟨l,rfl⟩:=af;simp only[ja,ke (fun a _=>V8 c9 a)]
 ·rw[KH (fun l e=>af ⟨l,e⟩),KH (fun l e=>af ⟨l,e⟩),V8 c9 a]
theorem V7 {h:List (Nat×a1)} {F:List Nat} {a:aw}:∀id∈(gC h F a).ids,id∈a.ids:=by
 intro id bh;rcases oP h F a with⟨i,t,rfl,_,_,e⟩|⟨e,_⟩|⟨e,_⟩
 ·rw[e] at bh;have:(uY t).ids=[]:=(by unfold uY;split<;>rfl);rw[this] at bh;cases bh
 ·rw[e] at bh;cases bh
 ·rw[e] at bh;exact bh
theorem XR {f:aw->aw} (aF:∀a,∀id∈(f a).ids,id∈a.ids):∀{l:List aw} {id:Nat},id∈aw.qI (l.map f)->id∈aw.qI l
 |[],_,h=>h
 |a::l,id,h=>by simp only[eY,aw.qI,fe] at h|-;exact h.imp (aF a id) (XR aF)
theorem ajQ {h:List (Nat×a1)} {F:List Nat} {a:aw}:∀id∈(ja h F a).ids,id∈a.ids:=by
 by_cases af:∃l,a=.d3 l
 ·obtain⟨l,rfl⟩:=af;exact fun id bh=>XR (fun a=>V7) bh
 ·rw[KH (fun l e=>af ⟨l,e⟩)];exact V7
theorem aiu {ic:gS} {g ej:Operand->aw} {h a2:List (Nat×a1)} {o:Oper} {e:b0} (aE:kT ic g h o some=some e) (PI:∀x∈o.op.operands,g x=ej x) (aD:∀x∈o.op.operands,e4 h a2 (g x)) (aN:∀d,o.dst=some d->az h d=az a2 d) (ay:∀q∈e.put,az h q.1=az a2 q.1):kT ic ej a2 o some=some e:=by
 unfold kT at aE|-;rw[<-V9 (fun x ab=>PI x (ab0 x ab))];split
 ·rename_i c9;rw[c9] at aE;rw[<-Vr PI];exact Vs aE aD aN ay
 ·rename_i cL;split at aE
  ·rename_i c9;exact(cL c9).elim
  have c9:∀id∈n2 ic.hN (zP o) g (wi o.op),az h id=az a2 id:=fun id bh=>(by obtain⟨x,ab,e⟩:=KI id bh;exact aD x (ab0 x ab) id (by rw[e];simp[aw.ids]));generalize n2 ic.hN (zP o) g (wi o.op)=F at aE c9|-;have hc:pu a2 F=pu h F:=(by unfold pu;rw[qb,fk,fk];exact⟨fun ax id bh=>by rw[c9 id bh];exact ax id bh,fun ax id bh=>by rw[<-c9 id bh];exact ax id bh⟩);rw[hc];cases WN:pu h F with
  |false=>rw[WN] at aE;cases aE
  |true=>
  rw[WN] at aE;simp only[cond_true] at aE|-;rw[Fj] at aE|-;obtain⟨ep,J,R⟩:=dk.1 aE;have al3:ep.put=e.put:=by
   cases ac:(ep.keep.all fun i=>!dJ i.1 F) with
   |false=>rw[ac] at R;cases R
   |true=>rw[ac] at R;cases R;rfl
  have ae:aC ic (fun x=>ja a2 F (ej x)) (del F a2) o some=some ep:=by
   rw[<-Vr (g:=fun x=>ja h F (g x)) (fun x ab=>by simp only[PI x ab,ajR c9])];refine Vs J (fun x ab id bh=>?_) (fun d akX=>?_) (fun q ai=>?_)
   ·rw[m1,m1,aD x ab id (ajQ id bh)]
   ·rw[m1,m1,aN d akX]
   ·rw[m1,m1,ay q (by rw[<-al3];exact ai)]
  rw[ae];exact R
end
section
def tK (bv:Array Oper) (i:Nat):List Nat:=match bv[i]? with
 |some o=>(o.after.toList.filter (Region.binds .any)).map (·.on)
 |none=>[]
def DF (d:Nat):b0:=⟨some (d,.c5 undef),[],[],[]⟩
def Ks (ic:gS) {aR:Type} (cu b9:List Nat) (st:ba) (o:Oper) (K:b0->Option aR):Option aR:=
 kT ic (bj st.g) st.h o fun e=>bif s4 cu b9 (bj st.g) o e then K e else none
def iL (ic:gS) (bv:Array Oper) (cu b9:Nat->List Nat) (i:Nat) (st:ba) (e:b0):Prop:=
 ∃o,bv[i]?=some o/\((lL bv st o true/\kT ic (bj st.g) st.h o some=some e/\s4 (cu i) (b9 i) (bj st.g) o e=true)\/(lL bv st o false/\∃d,o.dst=some d/\g3 ic.n ic.pin d=true/\e=DF d))
def xD (
 ic:gS) {aR:Type} (bv:Array Oper) (cu b9:Nat->List Nat):List Nat->ba->(ba->Option aR)->Option aR
 |[],st,K=>K st
 |i::l,st,K=>match bv[i]? with
  |none=>none
  |some o=>match o.guard with
   |none=>Ks ic (cu i) (b9 i) st o fun e=>xD ic bv cu b9 l (e.app st) K
   |some (j,jQ)=>match(bv[j]?).bind (·.dst),o.dst with
    |some fO,some d=>match gt st.g fO with
     |.val .bool x=>bif g3 ic.n ic.pin d then
      (match x==jQ with
      |true=>Ks ic (cu i) (b9 i) ⟨(fO,.val .bool jQ)::st.g,st.h⟩ o fun e=>xD ic bv cu b9 l (e.app ⟨(fO,.val .bool jQ)::st.g,st.h⟩) K
      |false=>xD ic bv cu b9 l ⟨(d,.c5 undef)::(fO,.val .bool (!jQ))::st.g,st.h⟩ K) else none
     |.c5 (.tuple _)=>bif g3 ic.n ic.pin d then xD ic bv cu b9 l ⟨(d,.c5 undef)::st.g,st.h⟩ K else none
     |_=>none
    |_,_=>none
def qk (ic:gS) (bv:Array Oper) (cu b9:Nat->List Nat):List Nat->ba->ba->Prop
 |[],s,t=>lh s t
 |i::l,s,t=>∃e,iL ic bv cu b9 i s e/\qk ic bv cu b9 l (e.app s) t
theorem agk {tt:List (TypeId×aq)} {an:List (Nat×aq)} {h:List (Nat×a1)} {d:Nat} {T:TypeId} {id:Nat} {s:bw} {p:List bw} {y:aw} {e:b0} (aE:qp tt an h d T (.ref id (s::p)) y some=some e):e.keep=[(id,s::p),(id,[])]/\e.S=[id]/\az e.put id=az h id:=by
 have fP:∀{av:aw} {b5:a1},az h id=some b5->az h d=none->some (b0.mk (some (d,av)) [id] [(id,s::p),(id,[])] [(d,⟨.dw,()⟩),(id,b5)])=some e->e.keep=[(id,s::p),(id,[])]/\e.S=[id]/\az e.put id=az h id:=(by intro av b5 J R ae;cases ae;have cL:¬d=id:=fun e=>(by rw[e,J] at R;cases R);exact⟨rfl,rfl,by rw[db,if_neg cL,db,if_pos rfl,J]⟩);unfold qp at aE;split at aE
 ·rename_i fS vP cO t2 aH;obtain⟨aC,_,_⟩:=RW aH;cases aC;unfold En at aE;split at aE
  case h_2=>cases aE
  rename_i u b5 _ J R;split at aE
  case h_2=>cases aE
  rename_i σ amr;split at aE
  case h_2=>cases aE
  cases aa:(bF u σ&&(Nat.ble σ.size 1300&&(σ.gd&&!(Nat.beq cO id)))) with
  |false=>rw[aa] at aE;cases aE
  |true=>
  rw[aa] at aE;obtain⟨_,_,aE⟩:=dk.1 aE;obtain⟨_,_,aE⟩:=dk.1 aE;exact fP J R aE
 ·unfold rx at aE;split at aE
  ·cases aE
  rename_i u _;simp only at aE;split at aE
  case h_2=>cases aE
  rename_i b5 J R;split at aE
  case h_2=>cases aE
  rename_i σ amr;cases aa:(bF u σ&&Nat.ble σ.size 1300&&σ.gd) with
  |false=>rw[aa] at aE;cases aE
  |true=>
  rw[aa] at aE;obtain⟨_,_,aE⟩:=dk.1 aE;obtain⟨_,_,aE⟩:=dk.1 aE;obtain⟨_,_,aE⟩:=dk.1 aE;exact fP J R aE
theorem NF {g:Operand->aw} {o:Oper} {id:Nat} {p:List bw} (h:wO g o=some (id,p)):∃xs ca x y s q,o.op=.call {callee:=.builtin .append,args:=xs,argTypes:=ca}/\xs.toList=[x,y]/\p=s::q/\g x=.ref id (s::q):=by
 unfold wO at h;split at h
 case h_2=>cases h
 rename_i xs ca bZ;split at h
 case h_2=>cases h
 rename_i x y ab;split at h
 case h_2=>cases h
 rename_i fS s q aD;cases h;exact⟨xs,ca,x,y,s,q,bZ,ab,rfl,aD⟩
theorem Vq {ic:gS} {g:Operand->aw} {h:List (Nat×a1)} {o:Oper} {e:b0} {id:Nat} {p:List bw} {xs:Array Operand} {ca:Array TypeId} {x y:Operand} {s:bw} {q:List bw} (bZ:o.op=.call {callee:=.builtin .append,args:=xs,argTypes:=ca}) (ab:xs.toList=[x,y]) (ay:p=s::q) (aD:g x=.ref id (s::q)) (aE:aC ic g h o some=some e):e.keep=[(id,p),(id,[])]/\e.S=[id]/\az e.put id=az h id:=by
 unfold aC at aE;cases aN:o.dst with
 |none=>rw[aN] at aE;simp only[bZ] at aE;cases aE
 |some d=>
  rw[aN] at aE;simp only at aE;cases hs:g3 ic.n ic.pin d with
  |false=>rw[hs] at aE;cases aE
  |true=>
  rw[hs] at aE;simp only[cond_true,bZ,ab] at aE;split at aE
  case h_2=>cases aE
  rename_i ht y' T jo ex aiX;cases ex;cases aa:Nat.beq T jo with
  |false=>rw[aa] at aE;cases aE
  |true=>
  rw[aa,aD] at aE;rw[ay];exact agk aE
theorem Vv {ic:gS} {g:Operand->aw} {h:List (Nat×a1)} {o:Oper} {e:b0} {id:Nat} {p:List bw} (aG:wO g o=some (id,p)) (aE:kT ic g h o some=some e):e.keep=[(id,p),(id,[])]/\az e.put id=az h id:=by
 obtain⟨xs,ca,x,y,s,q,bZ,ab,ay,aD⟩:=NF aG;unfold kT at aE;split at aE
 ·obtain⟨J,_,ae⟩:=Vq bZ ab ay aD aE;exact⟨J,ae⟩
 ·generalize n2 ic.hN (zP o) g (wi o.op)=F at aE;cases hc:pu h F with
  |false=>rw[hc] at aE;cases aE
  |true=>
  rw[hc] at aE;simp only[cond_true] at aE;rw[Fj] at aE;obtain⟨dy,J,R⟩:=dk.1 aE;cases ac:dy.keep.all (fun i=>!dJ i.1 F) with
  |false=>rw[ac] at R;cases R
  |true=>
  rw[ac] at R;cases R;have z2:ja h F (.ref id (s::q))=.ref id (s::q)\/ja h F (.ref id (s::q))=.dead:=by
   rw[KH (by intro l h;cases h)];rcases oP h F (.ref id (s::q)) with⟨i,t,e,_⟩|⟨e,_⟩|⟨e,_⟩
   ·cases e
   ·exact .inr e
   ·exact .inl e
  rcases z2 with z2|z2
  ·obtain⟨bu,_,cl⟩:=Vq (g:=fun x=>ja h F (g x)) bZ ab ay (by show ja h F (g x)=_;rw[aD];exact z2) J;refine⟨bu,?_⟩;show az dy.put id=_;rw[cl,m1];have ag:id∉F:=fun ao=>by
    have:=fk.1 ac (id,p) (by rw[bu];simp);rw[eX.2 ao] at this;cases this
   rw[if_neg ag]
  ·exfalso;unfold aC at J;cases aN:o.dst with
   |none=>rw[aN] at J;simp only[bZ] at J;cases J
   |some d=>
    rw[aN] at J;simp only at J;cases hs:g3 ic.n ic.pin d with
    |false=>rw[hs] at J;cases J
    |true=>
    rw[hs] at J;simp only[cond_true,bZ,ab] at J;split at J
    case h_2=>cases J
    rename_i ht y' T jo ex aiX;cases ex;cases aa:Nat.beq T jo with
    |false=>rw[aa] at J;cases J
    |true=>
    rw[aa] at J;simp only[cond_true,aD,z2,qp,AK,rx] at J;split at J<;>cases J
section
variable {ic:gS} {bv:Array Oper} {cu b9:Nat->List Nat}
theorem Kq.ok {x:Option (Nat×aw)} {y:Option Nat} (h:Kq x y=true):∀d av,x=some (d,av)->y=some d:=by
 intro d av e;subst e;cases y with
 |none=>cases h
 |some kS=>rw[eZ (show Nat.beq d kS=true from h)]
theorem Vx {f m:List Nat} {st:ba} {o:Oper} {aR:Type} {K:b0->Option aR} {r:aR} (h:Ks ic f m st o K=some r):∃e,kT ic (bj st.g) st.h o some=some e/\s4 f m (bj st.g) o e=true/\K e=some r:=by
 unfold Ks at h;rw[ais] at h;obtain⟨e,J,R⟩:=dk.1 h;refine⟨e,J,?_⟩;cases hc:s4 f m (bj st.g) o e with
 |false=>rw[hc] at R;cases R
 |true=>rw[hc] at R;exact⟨rfl,R⟩
def oE (f:List Nat) (a:aw):Prop:=(∀id∈a.ids,id∈f)\/(∃id,a=.ref id []/\id+500000∈f)\/∃id c,uG a=some (id,c)/\id<500000/\id+1000000*c∈f/\∀i∈a.ids,i=id\/i∈f
theorem xJ.ok {f:List Nat} {a:aw} (h:xJ f a=true):∃id c,uG a=some (id,c)/\id<500000/\id+1000000*c∈f/\∀i∈a.ids,i=id\/i∈f:=by
 unfold xJ at h;split at h
 case h_2=>cases h
 rename_i id c hc;simp only[bM] at h;refine⟨id,c,hc,fw h.1,eX.1 h.2.1,fun i hi=>?_⟩;have:=fk.1 h.2.2 i hi;rw[hJ] at this;exact this.imp eZ eX.1
theorem sv.ok {f:List Nat} {a:aw} (h:sv f a=true):∃id,a=.ref id []/\id+500000∈f:=by
 unfold sv at h;split at h
 ·exact⟨_,rfl,eX.1 h⟩
 ·cases h
theorem oE.ok {f:List Nat} {a:aw} (h:(sw a.ids f||sv f a)=true):oE f a:=by
 rcases hJ _ _▸h with h|h
 ·exact .inl (sw.ok h)
 ·exact .inr (.inl (sv.ok h))
theorem oE.aqk {f:List Nat} {a:aw} (h:(sw a.ids f||(sv f a||xJ f a))=true):oE f a:=by
 simp only[hJ] at h;rcases h with h|h|h
 ·exact .inl (sw.ok h)
 ·exact .inr (.inl (sv.ok h))
 ·exact .inr (.inr (xJ.ok h))
theorem VT {q:List bw} {c:Nat} (h:Cm q=some c):1<=c:=by
 unfold Cm at h;split at h
 ·cases h;exact bS _
 ·split at h<;>first|(cases h;done)|(cases h;omega)
theorem U7 {a:aw} {id c:Nat} (h:uG a=some (id,c)):1<=c:=by
 unfold uG at h;split at h
 ·split at h
  ·rename_i hc;cases h;exact VT hc
  ·cases h
 ·split at h
  ·rename_i hc;cases h;exact VT hc
  ·cases h
 ·split at h
  ·cases h;omega
  ·cases h
 ·cases h
def TJ (op:Op) (f:List Nat) (a:aw):Prop:=
 (∃x i l c,op=.extract x i/\a=.d3 l/\l[i]?=some c/\xZ c=true/\oE f c)\/
 ((∀x i,op≠.extract x i)/\IF a=true/\oE f a/\((∀id∈a.ids,id∈f\/∃c,1<=c/\id<500000/\id+1000000*c∈f)\/CW op=true))
theorem qQ.ok {op:Op} {f:List Nat} {a:aw} (h:qQ op f a=true):TJ op f a:=by
 unfold qQ at h;split at h
 ·rename_i x i;split at h
  case h_2=>cases h
  rename_i l;split at h
  case h_2=>cases h
  rename_i c hc;rw[bM] at h;exact .inl ⟨x,i,l,c,rfl,rfl,hc,h.1,.ok h.2⟩
 ·rename_i cL;simp only[bM,hJ] at h;refine .inr ⟨fun x i e=>cL x i e,h.1,?_⟩;rcases h.2 with h|⟨h,a2⟩|h
  ·exact⟨.inl (sw.ok h),.inl fun i hi=>.inl (sw.ok h i hi)⟩
  ·exact⟨.inr (.inl (sv.ok a2)),.inr h⟩
  ·obtain⟨id,c,J,R,ae,aI⟩:=xJ.ok h;refine⟨.inr (.inr ⟨id,c,J,R,ae,aI⟩),.inl fun i hi=>?_⟩;rcases aI i hi with e|e
   ·exact .inr ⟨c,U7 J,by omega,by rw[e];exact ae⟩
   ·exact .inl e
theorem s4.ok {f m:List Nat} {g:Operand->aw} {o:Oper} {e:b0} (h:s4 f m g o e=true):(∀d av,e.d=some (d,av)->o.dst=some d)/\(∀x∈o.op.operands,TJ o.op f (g x))/\(∀id∈e.S,id<500000/\(id∈m/\(id+500000∈m\/mZ e.keep (.ref id [])=true)\/id+1500000∈m))/\(∀q∈e.put,q.1<500000/\(q.1∈m\/q.1+1500000∈m))/\(∀d av,e.d=some (d,av)->oE f av)/\(∀n∈m,1000000<=n->∃id p,wO g o=some (id,p)/\n %1000000=id+500000/\id<500000/\Mm p (n/1000000)=true):=by
 unfold s4 at h;simp only[bM] at h;obtain⟨⟨⟨⟨J,R⟩,ae⟩,aI⟩,aX,bI⟩:=h;refine⟨Kq.ok J,fun x ab=>?_,fun id bh=>?_,fun q ai=>?_,fun d av aN=>?_,fun n ag ah=>?_⟩
 ·exact qQ.ok (fk.1 R x (by simpa using ab))
 ·have:=fk.1 ae id bh;simp only[bM,hJ] at this;exact⟨fw this.1,this.2.imp (fun h=>⟨eX.1 h.1,h.2.imp eX.1 (fun h=>h)⟩) eX.1⟩
 ·have:=fk.1 aI q ai;simp only[bM,hJ] at this;exact⟨fw this.1,this.2.imp eX.1 eX.1⟩
 ·rw[aN] at aX;exact oE.aqk aX
 ·have:=fk.1 bI n ag;rw[hJ] at this;rcases this with h|h
  ·have:n<1000000:=fw h;omega
  ·split at h
   case h_2=>cases h
   rename_i id p aG;simp only[bM] at h;exact⟨id,p,aG,eZ h.1,fw h.2.1,h.2.2⟩
def uy (f:List Nat) (a b2:aw):Prop:=(IF a=true->oE f a->b2=a)/\∀l,a=.d3 l->∃l',b2=.d3 l'/\∀(i:Nat) (c:aw),l[i]?=some c->xZ c=true->oE f c->l'[i]?=some c
theorem uy.refl {f:List Nat} {a b2:aw} (h:b2=a):uy f a b2:=⟨fun _ _=>h,fun l ah=>⟨l,by rw[h,ah],fun _ _ h _ _=>h⟩⟩
theorem uy.qQ {f:List Nat} {op:Op} {a b2:aw} (h:uy f a b2) (aH:qQ op f a=true):lP.qQ op f b2=true:=by
 rcases qQ.ok aH with⟨x,i,l,c,J,R,ae,aI,aX⟩|⟨J,R,ae,aI⟩
 ·obtain⟨l',e,bI⟩:=h.2 l R;subst J R e;simp only[lP.qQ,ae,bI i c ae aI aX] at aH|-;exact aH
 ·rw[h.1 R ae];exact aH
theorem ait {ic:gS} {g ej:Operand->aw} {h a2:List (Nat×a1)} {o:Oper} {e:b0} {x:Operand} {i:Nat} {l l':List aw} {c:aw} (bZ:o.op=.extract x i) (aE:kT ic g h o some=some e) (J:g x=.d3 l) (R:ej x=.d3 l') (ae:l[i]?=some c) (aI:l'[i]?=some c):kT ic ej a2 o some=some e:=by
 unfold kT at aE|-;have aF:∀g:Operand->aw,n2 ic.hN (zP o) g (wi o.op)=[]:=fun g=>(by rw[bZ];rfl);rw[aF] at aE|-;simp only at aE|-;unfold aC at aE|-;cases aN:o.dst with
 |none=>rw[aN] at aE;simp only[bZ] at aE;cases aE
 |some d=>
  rw[aN] at aE;simp only[bZ,lr,gr,KA,J,R,ae,aI] at aE|-;exact aE
theorem aiv {ic:gS} {g ej:Operand->aw} {h a2:List (Nat×a1)} {o:Oper} {e:b0} (ao:CW o.op=true) (aE:kT ic g h o some=some e) (aD:∀x∈o.op.operands,g x=ej x):kT ic ej a2 o some=some e:=by
 unfold CW at ao;split at ao
 ·rename_i x bZ;have ab:g x=ej x:=aD x (by rw[bZ];simp[Op.operands]);unfold kT at aE|-;have aF:∀g:Operand->aw,n2 ic.hN (zP o) g (wi o.op)=[]:=fun g=>(by rw[bZ];rfl);rw[aF] at aE|-;simp only at aE|-;unfold aC at aE|-;cases aN:o.dst with
  |none=>rw[aN] at aE;simp only[bZ] at aE;cases aE
  |some d=>
   rw[aN] at aE;simp only[bZ,lr,gr,<-ab] at aE|-;exact aE
 ·cases ao
theorem aoF {o:Oper} {k:Nat} (h:.tmp k∈o.op.operands):k∈o.looksAt bv:=
 rh _ (List.mem_filterMap.2 ⟨.tmp k,by simpa using h,rfl⟩)
theorem aoG {o:Oper} {j fO:Nat} {jQ:Bool} (aD:o.guard=some (j,jQ)) (al:(bv[j]?).bind (·.dst)=some fO):fO∈o.looksAt bv:=
 oH _ (by rw[aD];simp only[al];simp)
theorem ab8 {f:List Nat} {s s':ba} {o:Oper} {b:Bool} (h:∀k∈o.looksAt bv,uy f (gt s.g k) (gt s'.g k)) (hw:lL bv s o b):lL bv s' o b:=by
 unfold lL at*;cases aD:o.guard with
 |none=>rw[aD] at hw;exact hw
 |some p=>
  obtain⟨j,jQ⟩:=p;rw[aD] at hw;simp only at hw|-;cases al:(bv[j]?).bind (·.dst) with
  |none=>rw[al] at hw;exact hw
  |some fO=>
   rw[al] at hw;simp only at hw|-;have ao:=h fO (aoG aD al);split at hw
   ·rename_i x ab;rw[ao.1 (by rw[ab];rfl) (by rw[ab];exact .inl (by simp[aw.ids])),ab];exact hw
   ·rename_i l ab;rw[ao.1 (by rw[ab];rfl) (by rw[ab];exact .inl (by simp[aw.ids])),ab];exact hw
   ·exact hw.elim
theorem iL.congr {i:Nat} {s s':ba} {e:b0} (h:iL ic bv cu b9 i s e) (aD:∀o,bv[i]?=some o->∀k∈o.looksAt bv,uy (cu i) (gt s.g k) (gt s'.g k)) (ax:∀o,bv[i]?=some o->∀id,id∈cu i\/id∈b9 i\/o.dst=some id->az s.h id=az s'.h id) (ah:∀id c,1<=c->id<500000->id+1000000*c∈cu i->az s.h id=az s'.h id):iL ic bv cu b9 i s' e:=by
 obtain⟨o,aH,h⟩:=h;have aD:=aD o aH;have ax:=ax o aH;refine⟨o,aH,h.imp (fun⟨J,R,ae⟩=>⟨ab8 aD J,?_⟩) (fun⟨J,R⟩=>⟨ab8 aD J,R⟩)⟩;obtain⟨f1,cC,hA,n0,uV,KB⟩:=s4.ok ae;have hs:∀x∈o.op.operands,uy (cu i) (bj s.g x) (bj s'.g x):=by
  intro x ab;cases x with
  |tmp k=>exact aD k (aoF ab)
  |const v=>exact .refl (by cases v<;>rfl)
  |func f=>exact .refl rfl
  |global g=>exact .refl rfl
 constructor
 ·by_cases oU:∃x j,o.op=.extract x j
  ·obtain⟨x,j,bZ⟩:=oU;have ab:x∈o.op.operands:=(by rw[bZ];simp[Op.operands]);rcases cC x ab with⟨ht,r7,l,c,bT,bz,cZ,cU,gD⟩|⟨bT,_⟩
   ·rw[bZ] at bT;cases bT;obtain⟨l',aK,aL⟩:=(hs x ab).2 l bz;exact ait bZ R bz aK cZ (aL _ c cZ cU gD)
   ·exact absurd bZ (bT x j)
  ·have cL:∀x∈o.op.operands,IF (bj s.g x)=true/\oE (cu i) (bj s.g x)/\((∀id∈(bj s.g x).ids,id∈cu i\/∃c,1<=c/\id<500000/\id+1000000*c∈cu i)\/CW o.op=true):=fun x ab=>by
    rcases cC x ab with⟨ht,r7,l,c,bT,_⟩|⟨_,g⟩
    ·exact absurd ⟨ht,r7,bT⟩ oU
    ·exact g
   have aG:∀x∈o.op.operands,bj s.g x=bj s'.g x:=fun x ab=>((hs x ab).1 (cL x ab).1 (cL x ab).2.1).symm;by_cases ao:CW o.op=true
   ·exact aiv ao R aG
   ·have CR:∀x∈o.op.operands,∀id∈(bj s.g x).ids,az s.h id=az s'.h id:=fun x ab id bh=>by
     rcases((cL x ab).2.2.resolve_right ao) id bh with h|⟨c,J,R,ae⟩
     ·exact ax id (.inl h)
     ·exact ah id c J R ae
    refine aiu R aG CR (fun d aN=>ax d (.inr (.inr aN))) (fun q ai=>?_);rcases(n0 q ai).2 with h|h
    ·exact ax _ (.inr (.inl h))
    ·obtain⟨id,p,cq,dv,a3,_⟩:=KB _ h (by omega);have:=(n0 q ai).1;obtain⟨xs,ca,x,y,gP,aK,dn,dM,_,jI⟩:=NF cq;have Lq:x∈o.op.operands:=(by rw[dn];exact xS (by rw[dM];simp));exact CR x Lq q.1 (by rw[jI];simp only[aw.ids,fv];omega)
 ·unfold s4 at*;have:(o.op.operands.toList.all fun x=>qQ o.op (cu i) (bj s'.g x))=true:=by
   simp only[bM] at ae;rw[fk];intro x ab;exact(hs x (by simpa using ab)).qQ (fk.1 ae.1.1.1.2 x ab)
  have Pt:∀id p,wO (bj s.g) o=some (id,p)->wO (bj s'.g) o=some (id,p):=fun id p aG=>by
   obtain⟨xs,ca,x,y,gP,aK,dn,dM,hL,jI⟩:=NF aG;have Lq:x∈o.op.operands:=(by rw[dn];exact xS (by rw[dM];simp));have amB:bj s'.g x=bj s.g x:=by
    rcases cC x Lq with⟨ht,r7,l,c,bT,_⟩|⟨_,bz,cZ,_⟩
    ·rw[dn] at bT;cases bT
    ·exact(hs x Lq).1 bz cZ
   unfold wO;rw[dn];simp only[dM,amB,jI,hL]
  have alZ:R1 (b9 i) (bj s'.g) o=true:=by
   simp only[bM] at ae;have bI:=ae.2.2;unfold R1 at bI|-;rw[fk] at bI|-;intro n ag;have:=bI n ag;rw[hJ] at this|-;refine this.imp (fun h=>h) (fun h=>?_);split at h
   case h_2=>cases h
   rename_i id p aG;rw[Pt id p aG];exact h
  simp only[bM] at ae|-;exact⟨⟨⟨⟨ae.1.1.1.1,this⟩,ae.1.1.2⟩,ae.1.2⟩,ae.2.1,alZ⟩
theorem iL.Ku {i:Nat} {s:ba} {e:b0} (h:iL ic bv cu b9 i s e) {o:Oper} (aH:bv[i]?=some o):(∀d av,e.d=some (d,av)->o.dst=some d)/\(∀id∈e.S,id<500000/\(id∈b9 i/\(id+500000∈b9 i\/mZ e.keep (.ref id [])=true)\/id+1500000∈b9 i))/\(∀q∈e.put,q.1<500000/\(q.1∈b9 i\/q.1+1500000∈b9 i))/\(∀d av,e.d=some (d,av)->oE (cu i) av)/\(∀id,id<500000->id+1500000∈b9 i->az (e.app s).h id=az s.h id)/\(∀id c a,id∈e.S->id<500000->id+1000000*c+500000∈b9 i->1<=c->uG a=some (id,c)->(∀j∈a.ids,j=id\/j∉e.S)->j6 e.S e.keep a=true):=by
 obtain⟨bL,jx,h⟩:=h;rw[aH] at jx;cases jx;rcases h with⟨_,R,h⟩|⟨_,d,aN,_,rfl⟩
 ·obtain⟨f1,cC,hA,n0,uV,KB⟩:=s4.ok h;refine⟨f1,hA,n0,uV,fun id bh ao=>?_,fun id c a bB bh ao hc aG al=>?_⟩
  ·obtain⟨fS,p,cq,dv,a3,_⟩:=KB _ ao (by omega);obtain rfl:fS=id:=(by omega);obtain⟨_,aI⟩:=Vv cq R;rw[b0.wP,aI];cases az s.h fS with
   |none=>simp
   |some x=>rfl
  ·obtain⟨fS,p,cq,dv,a3,a4⟩:=KB _ ao (by omega);obtain rfl:fS=id:=(by omega);obtain⟨ae,_⟩:=Vv cq R;rw[ae];refine ar1 ?_ aG al;have:(fS+1000000*c+500000)/1000000=c:=(by omega);rw[this] at a4;exact a4
 ·refine⟨fun kS av pB=>?_,by simp[DF],by simp[DF],fun kS av pB=>?_,fun id _ _=>rfl,fun id c a bB=>by cases bB⟩
  ·cases pB;exact aN
  ·cases pB;exact .inl (by simp[aw.ids])
structure Eh (f S:List Nat) (keep:List (Nat×List bw)):Prop where
 a:∀id∈S,id∉f
 b:∀id∈S,id+500000∈f->mZ keep (.ref id [])=true
 c:∀id∈S,∀c v,1<=c->id<500000->id+1000000*c∈f->uG v=some (id,c)->(∀j∈v.ids,j=id\/j∉S)->j6 S keep v=true
theorem Gz (S:List Nat) (keep:List (Nat×List bw)) (a:aw):d1 S keep a=.dead\/d1 S keep a=a:=by unfold d1;cases(a.er S&&!(j6 S keep a))<;>simp
theorem QH {S:List Nat} {keep:List (Nat×List bw)} {a:aw} (h:xZ (d1 S keep a)=true):d1 S keep a=a:=by
 rcases Gz S keep a with e|e
 ·rw[e] at h;cases h
 ·exact e
theorem QG {S:List Nat} {keep:List (Nat×List bw)} {a:aw} (h:∀id∈a.ids,id∉S):d1 S keep a=a:=by refine M6 ?_ keep;unfold aw.er;rw[By];intro id bh ao;exact h id bh (eX.1 ao)
theorem ana {S:List Nat} {keep:List (Nat×List bw)} {a:aw} (h:∀id∈a.ids,id∉S):eT S keep a=a:=by refine auR ?_ keep;unfold aw.er;rw[By];intro id bh ao;exact h id bh (eX.1 ao)
theorem Yd {f S:List Nat} {keep:List (Nat×List bw)} {a:aw} (h:oE f a) (hs:Eh f S keep):d1 S keep a=a:=by
 rcases h with h|⟨id,rfl,h⟩|⟨id,c,J,R,ae,aI⟩
 ·exact QG fun id bh ao=>hs.a id ao (h id bh)
 ·by_cases ao:id∈S
  ·unfold d1;rw[show j6 S keep (.ref id [])=mZ keep (.ref id []) from rfl,hs.b id ao h];simp
  ·exact QG fun i hi Lf=>by simp only[aw.ids,fv] at hi;exact ao (hi▸Lf)
 ·by_cases ao:id∈S
  ·unfold d1;rw[hs.c id ao c a (U7 J) R ae J (fun j al=>(aI j al).imp (fun h=>h) (fun h ao=>hs.a j ao h))];simp
  ·exact QG fun i hi Lf=>by
    rcases aI i hi with e|e
    ·exact ao (e▸Lf)
    ·exact hs.a i Lf e
theorem Gy {f S:List Nat} {keep:List (Nat×List bw)} {a:aw} (h:oE f a) (hs:Eh f S keep):eT S keep a=a:=by
 cases a with
 |d3 l=>
  rcases h with h|⟨id,e,_⟩|⟨id,c,e,_⟩
  ·exact ana fun id bh ao=>hs.a id ao (h id bh)
  ·cases e
  ·cases e
 |_=>exact Yd h hs
theorem Yc (S:List Nat) (keep:List (Nat×List bw)) (yR:List Nat) (Ap:List (Nat×List bw)) (a:aw):d1 S keep (d1 yR Ap a)=d1 yR Ap (d1 S keep a):=by have aN:∀S keep,d1 S keep .dead=.dead:=fun S keep=>(by simp[d1,aw.er,aw.ids]);rcases Gz S keep a with J|J<;>rcases Gz yR Ap a with R|R<;>simp only[J,R,aN]
theorem Gx {S:List Nat} {keep:List (Nat×List bw)} {a:aw} (h:∀l,a≠.d3 l):eT S keep a=d1 S keep a:=by
 cases a with
 |d3 l=>exact absurd rfl (h l)
 |_=>rfl
theorem LK (S:List Nat) (keep:List (Nat×List bw)) (yR:List Nat) (Ap:List (Nat×List bw)) (a:aw):eT S keep (eT yR Ap a)=eT yR Ap (eT S keep a):=by
 by_cases af:∃l,a=.d3 l
 ·obtain⟨l,rfl⟩:=af;simp only[eT,wE];exact congrArg _ (ke fun a _=>Yc S keep yR Ap a)
 ·have ag:∀l,a≠.d3 l:=fun l e=>af ⟨l,e⟩;have aa:∀S keep,∀l,d1 S keep a≠.d3 l:=fun S keep l e=>by
   rcases Gz S keep a with h|h
   ·rw[h] at e;cases e
   ·rw[h] at e;exact ag l e
  rw[Gx ag,Gx ag,Gx (aa _ _),Gx (aa _ _),Yc]
theorem anc (f S:List Nat) (keep:List (Nat×List bw)) (a:aw):uy f (eT S keep a) a:=by
 by_cases af:∃l,a=.d3 l
 ·obtain⟨l,rfl⟩:=af;refine⟨fun h _=>?_,fun da J=>⟨l,rfl,fun i c hc ag _=>?_⟩⟩
  ·simp only[eT] at h|-;have h:∀x∈l.map (d1 S keep),xZ x=true:=fk.1 h;congr 1;rw[ke (fun x ab=>QH (h _ (dj.2 ⟨x,ab,rfl⟩))),List.map_id']
  ·simp only[eT,aw.d3.injEq] at J;subst J;rw[f5] at hc;obtain⟨jU,R,rfl⟩:=eM.1 hc;rw[QH ag,R]
 ·have ag:∀l,a≠.d3 l:=fun l e=>af ⟨l,e⟩;rw[Gx ag];have aa:∀l,d1 S keep a≠.d3 l:=fun l e=>by
   rcases Gz S keep a with h|h
   ·rw[h] at e;cases e
   ·rw[h] at e;exact ag l e
  refine⟨fun h _=>?_,fun l e=>absurd e (aa l)⟩;have:xZ (d1 S keep a)=true:=by
   generalize d1 S keep a=b at h aa;cases b with
   |d3 l=>exact absurd rfl (aa l)
   |_=>exact h
  exact(QH this).symm
theorem ane {f S:List Nat} {keep:List (Nat×List bw)} (a:aw) (hs:Eh f S keep):uy f a (eT S keep a):=by refine⟨fun _ h=>Gy h hs,fun l e=>?_⟩;subst e;refine⟨_,rfl,fun i c hc _ aF=>?_⟩;rw[f5,hc,g6,Yd aF hs]
theorem Ui {e:b0} {s:ba} {k:Nat} (h:∀d av,e.d=some (d,av)->d≠k):gt (e.app s).g k=eT e.S e.keep (gt s.g k):=by
 rw[b0.y0];cases aN:e.d with
 |none=>rfl
 |some q=>obtain⟨d,av⟩:=q;simp only;rw[if_neg (h d av aN)]
theorem anI {α:Type} {l:List (Nat×α)} {id:Nat} (h:∀q∈l,q.1≠id):az l id=none:=by
 induction l with
 |nil=>rfl
 |cons q l aT=>
  obtain⟨k,v⟩:=q;rw[db,if_neg (h (k,v) (by simp)),aT (fun q ai=>h q (by simp[ai]))]
theorem Uj {e:b0} {s:ba} {id:Nat} (J:id∉e.S) (R:∀q∈e.put,q.1≠id):az (e.app s).h id=az s.h id:=by rw[b0.wP,if_neg J,anI R];rfl
def w5 (l r:List Nat):Bool:=l.all fun i=>!(dJ i r)
theorem w5.ok {l r:List Nat} (h:w5 l r=true):∀i∈l,i∉r:=fun i hi ao=>by have:=fk.1 h i hi;rw[eX.2 ao] at this;cases this
def dl (o:Oper):List Nat:=match o.dst with
 |some d=>[d]
 |none=>[]
theorem Dc {o:Oper} {d:Nat} (h:o.dst=some d):d∈dl o:=by unfold dl;rw[h];simp
def w6 (l r:List Nat):Bool:=l.all fun i=>Nat.ble 1000000 i||!(dJ i r)
theorem w6.ok {l r:List Nat} (h:w6 l r=true):∀i∈l,i<1000000->i∉r:=fun i hi ah ao=>by
 have:=fk.1 h i hi;rw[eX.2 ao,hJ] at this;rcases this with h|h
 ·have:=fw h;omega
 ·cases h
def uZ (d f mx tF:List Nat):Bool:=(tF.all fun m=>Nat.blt m 1000000||(!(dJ (m %1000000-500000) d)&&(!(dJ (m %1000000-500000) f)&&!(dJ (m %1000000-500000) mx))))&&f.all fun n=>Nat.blt n 1000000||(!(dJ (n %1000000) tF)&&(!(dJ (n %1000000+1500000) tF)||dJ (n+500000) tF))
theorem uZ.ok {d f mx tF:List Nat} (h:uZ d f mx tF=true):(∀id,id<500000->id+1500000∈tF->id∉d/\id∉f/\id∉mx)/\∀id c,1<=c->id<500000->id+1000000*c∈f->id∉tF/\(id+1500000∈tF->id+1000000*c+500000∈tF):=by
 unfold uZ at h;rw[bM] at h;have G7:∀{i:Nat} {l:List Nat},(!(dJ i l))=true->i∉l:=fun{i l} h ao=>(by rw[eX.2 ao] at h;cases h);constructor
 ·intro id bh ao;have:=fk.1 h.1 _ ao;rw[hJ] at this;rcases this with h|h
  ·have:id+1500000<1000000:=fw h;omega
  ·rw[show(id+1500000) %1000000-500000=id by omega] at h;simp only[bM] at h;exact⟨G7 h.1,G7 h.2.1,G7 h.2.2⟩
 ·intro id c hc bh ao;have:=fk.1 h.2 _ ao;rw[hJ] at this;rcases this with h|h
  ·have:id+1000000*c<1000000:=fw h;omega
  ·rw[show(id+1000000*c) %1000000=id by omega] at h;simp only[bM,hJ] at h;refine⟨G7 h.1,fun aD=>?_⟩;rcases h.2 with h|h
   ·exact absurd aD (G7 h)
   ·exact eX.1 h
def zd (bv:Array Oper) (cu b9:Nat->List Nat) (x i:Nat):Bool:=
 match bv[x]?,bv[i]? with
 |some x5,some x1=>x5.apart bv x1&&w6 (b9 i) (dl x5++(cu x++b9 x))&&w6 (b9 x) (dl x1++cu i)&&(uZ (dl x5) (cu x) (b9 x) (b9 i)&&uZ (dl x1) (cu i) (b9 i) (b9 x))
 |_,_=>false
theorem iL.C6 {i:Nat} {s:ba} {e:b0} (h:iL ic bv cu b9 i s e) {id:Nat} (bh:500000<=id):az (e.app s).h id=az s.h id:=by obtain⟨o,aH,kY⟩:=h;have h:iL ic bv cu b9 i s e:=⟨o,aH,kY⟩;obtain⟨_,R,ae,_⟩:=h.Ku aH;exact Uj (fun ao=>by have:=(R id ao).1;omega) (fun q ai e=>by have:=(ae q ai).1;omega)
theorem iL.xN {i:Nat} {s:ba} {e:b0} (h:iL ic bv cu b9 i s e) {id:Nat} (bh:id∉b9 i):az (e.app s).h id=az s.h id:=by
 obtain⟨o,aH,kY⟩:=h;have h:iL ic bv cu b9 i s e:=⟨o,aH,kY⟩;obtain⟨_,R,ae,_,aX,_⟩:=h.Ku aH;by_cases aD:id<500000/\id+1500000∈b9 i
 ·exact aX id aD.1 aD.2
 ·refine Uj (fun ao=>?_) (fun q ai e=>?_)
  ·obtain⟨aK,aL⟩:=R id ao;rcases aL with aL|aL
   ·exact bh aL.1
   ·exact aD ⟨aK,aL⟩
  ·subst e;obtain⟨aK,aL⟩:=ae q ai;rcases aL with aL|aL
   ·exact bh aL
   ·exact aD ⟨aK,aL⟩
theorem iL.swap {x i:Nat} {s:ba} {ex hm:b0} (hc:zd bv cu b9 x i=true) (J:iL ic bv cu b9 x s ex) (R:iL ic bv cu b9 i (ex.app s) hm):iL ic bv cu b9 i s hm/\iL ic bv cu b9 x (hm.app s) ex/\lh (hm.app (ex.app s)) (ex.app (hm.app s)):=by
 unfold zd at hc;split at hc
 case h_2=>cases hc
 rename_i x5 x1 F3 F1;simp only[bM] at hc;obtain⟨⟨⟨Pt,l6⟩,kw⟩,xp,h5⟩:=hc;have l6:=w6.ok l6;have kw:=w6.ok kw;obtain⟨bT,bz⟩:=uZ.ok xp;obtain⟨cZ,cU⟩:=uZ.ok h5;obtain⟨cq,dv,a3⟩:=Oper.apart_spec Pt;obtain⟨DN,kq,avd,Nb,acc,acd⟩:=J.Ku F3;obtain⟨i1,i2,i3,Lv,XO,XP⟩:=R.Ku F1;have att:∀k∈x1.looksAt bv,gt (ex.app s).g k=eT ex.S ex.keep (gt s.g k):=fun k ac=>Ui fun d av aN e=>cq d (DN d av aN) (e▸ac);have as3:∀k∈x5.looksAt bv,gt (hm.app s).g k=eT hm.S hm.keep (gt s.g k):=fun k ac=>Ui fun d av aN e=>a3 d (i1 d av aN) (e▸ac);have cL:∀d a kS b2,hm.d=some (d,a)->ex.d=some (kS,b2)->d≠kS:=fun d a kS b2 aN pB e=>dv kS (DN kS b2 pB) (e▸i1 d a aN);have ym:∀id,id<1000000->id∈cu x\/id∈b9 x\/x5.dst=some id->id∉b9 i:=fun id ah h ao=>l6 id ao ah (by
  rcases h with h|h|h
  ·simp[h]
  ·simp[h]
  ·simp[Dc h])
 have M1:∀id,id<1000000->id∈cu i\/x1.dst=some id->id∉b9 x:=fun id ah h ao=>kw id ao ah (by
  rcases h with h|h
  ·simp[h]
  ·simp[Dc h])
 have bY:∀id,id<1000000->id∈b9 i->id∉b9 x:=fun id ah h ao=>ym id ah (.inr (.inl ao)) h;have DH:Eh (cu i) ex.S ex.keep:=by
  refine⟨fun id bB aF=>?_,fun id bB aF=>?_,fun id bB c v hc bh aF hv al=>?_⟩
  ·obtain⟨aK,aL⟩:=kq id bB;rcases aL with aL|aL
   ·exact M1 id (by omega) (.inl aF) aL.1
   ·exact(cZ id aK aL).2.1 aF
  ·obtain⟨aK,aL⟩:=kq id bB;rcases aL with aL|aL
   ·exact aL.2.resolve_left (M1 _ (by omega) (.inl aF))
   ·exact acd id 1 (.ref id []) bB aK (by rw[show id+1000000*1+500000=id+1500000 by omega];exact aL) (bS _) rfl (fun j al=>.inl (by simpa[aw.ids] using al))
  ·obtain⟨_,aL⟩:=kq id bB;obtain⟨bX,bn⟩:=cU id c hc bh aF;rcases aL with aL|aL
   ·exact absurd aL.1 bX
   ·exact acd id c v bB bh (bn aL) hc hv al
 have SN:Eh (cu x) hm.S hm.keep:=by
  refine⟨fun id bB aF=>?_,fun id bB aF=>?_,fun id bB c v hc bh aF hv al=>?_⟩
  ·obtain⟨aK,aL⟩:=i2 id bB;rcases aL with aL|aL
   ·exact ym id (by omega) (.inl aF) aL.1
   ·exact(bT id aK aL).2.1 aF
  ·obtain⟨aK,aL⟩:=i2 id bB;rcases aL with aL|aL
   ·exact aL.2.resolve_left (ym _ (by omega) (.inl aF))
   ·exact XP id 1 (.ref id []) bB aK (by rw[show id+1000000*1+500000=id+1500000 by omega];exact aL) (bS _) rfl (fun j al=>.inl (by simpa[aw.ids] using al))
  ·obtain⟨_,aL⟩:=i2 id bB;obtain⟨bX,bn⟩:=bz id c hc bh aF;rcases aL with aL|aL
   ·exact absurd aL.1 bX
   ·exact XP id c v bB bh (bn aL) hc hv al
 have BG:iL ic bv cu b9 i s hm:=by
  refine R.congr (fun o aH k ac=>?_) (fun o aH id bh=>?_) (fun id c hc bh aF=>?_)
  ·rw[F1] at aH;cases aH;rw[att k ac];exact anc _ _ _ _
  ·rw[F1] at aH;cases aH;rcases ch id 500000 with ah|ah
   ·refine J.xN ?_;rcases bh with h|h|h
    ·exact M1 id (by omega) (.inl h)
    ·exact bY id (by omega) h
    ·exact M1 id (by omega) (.inr h)
   ·exact J.C6 ah
  ·exact J.xN (cU id c hc bh aF).1
 have Np:iL ic bv cu b9 x (hm.app s) ex:=by
  refine J.congr (fun o aH k ac=>?_) (fun o aH id bh=>?_) (fun id c hc bh aF=>?_)
  ·rw[F3] at aH;cases aH;rw[as3 k ac];exact ane _ SN
  ·rw[F3] at aH;cases aH;rcases ch id 500000 with ah|ah
   ·exact(BG.xN (ym id (by omega) bh)).symm
   ·exact(BG.C6 ah).symm
  ·exact(BG.xN (bz id c hc bh aF).1).symm
 refine⟨BG,Np,?_,fun id=>?_⟩
 ·intro k;rw[b0.y0 hm,b0.y0 ex (hm.app s),b0.y0 ex s,b0.y0 hm s];cases PC:ex.d with
  |none=>
   cases xn:hm.d with
   |none=>exact LK _ _ _ _ _
   |some q=>
    obtain⟨d,av⟩:=q;simp only;split
    ·exact(Gy (Lv d av xn) DH).symm
    ·exact LK _ _ _ _ _
  |some p=>
   obtain⟨kS,NI⟩:=p;cases xn:hm.d with
   |none=>
    simp only;split
    ·exact Gy (Nb kS NI PC) SN
    ·exact LK _ _ _ _ _
   |some q=>
    obtain⟨d,av⟩:=q;have cL:d≠kS:=cL d av kS NI xn PC;simp only;by_cases J:d=k
    ·subst J;rw[if_pos rfl,if_neg (Ne.symm cL),if_pos rfl];exact(Gy (Lv d av xn) DH).symm
    ·rw[if_neg J,if_neg J];split
     ·exact Gy (Nb kS NI PC) SN
     ·exact LK _ _ _ _ _
 ·rcases ch id 500000 with ah|ah
  ·by_cases ao:id∈b9 i
   ·have pJ:=bY id (by omega) ao;rw[Np.xN pJ,b0.wP hm,b0.wP hm,J.xN pJ]
   ·rw[R.xN ao,b0.wP ex,b0.wP ex,BG.xN ao]
  ·rw[R.C6 ah,J.C6 ah,Np.C6 ah,BG.C6 ah]
theorem iL.seq {i:Nat} {s s':ba} {e:b0} (hs:lh s s') (h:iL ic bv cu b9 i s e):iL ic bv cu b9 i s' e:=
 h.congr (fun _ _ k _=>.refl (hs.g k).symm) (fun _ _ id _=>hs.h id) (fun id _ _ _ _=>hs.h id)
theorem qk.seq:∀{l:List Nat} {s s' t:ba},lh s s'->qk ic bv cu b9 l s t->qk ic bv cu b9 l s' t
 |[],_,_,_,hs,h=>hs.symm.trans h
 |_::_,_,_,_,hs,⟨e,J,R⟩=>⟨e,J.seq hs,qk.seq (hs.app e) R⟩
theorem qk.front {i:Nat} {B:List Nat}:∀{A:List Nat} {s t:ba},(∀x∈A,zd bv cu b9 x i=true)->qk ic bv cu b9 (A++i::B) s t->∃e,iL ic bv cu b9 i s e/\qk ic bv cu b9 (A++B) (e.app s) t
 |[],s,t,_,⟨e,J,R⟩=>⟨e,J,R⟩
 |x::A,s,t,hc,⟨ex,J,R⟩=>by obtain⟨hm,ae,aI⟩:=qk.front (fun y aB=>hc y (by simp[aB])) R;obtain⟨bT,bz,cZ⟩:=iL.swap (hc x (by simp)) J ae;exact⟨hm,bT,ex,bz,aI.seq cZ⟩
end
end
end Go.lP
end
