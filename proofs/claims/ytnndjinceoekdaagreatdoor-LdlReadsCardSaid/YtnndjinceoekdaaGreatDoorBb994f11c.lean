/-
  Parts of the proof: Fw21: the framework (Fw), pure forms (Dn), plain laws (Pl, Th), calls of functions (Ok).
-/
import Derived.Test.YtnndjinceoekdaaGreatDoorB0f37ae35

set_option linter.all false
set_option maxHeartbeats 1000000
open _root_ renaming Nat->X,List->bn,Bool->bA,rfl->bo,Array->bU,cond_true->bH,cond_false->bR
open Go renaming World->bD,Oper->bS,Operand->bP,execOp->bO,resolve->akC
open Option renaming some->Y,none->bq
open Bool renaming false->br,true->bp
open Go.jt.c6 renaming refl->cp
open Go.jt.aX renaming here->alv
open Go.Sem renaming run_bind->bY,run_pure->ct
open Go.Result renaming andThen_ok->b2
open Go.Oper renaming wp->aj9
noncomputable section
namespace Go.jt
section
def nD (d:X) (st:aO) (c:bn al) (b:bn hE) (a:bn aK):bA:=
 jA (gm c b)&&jA ((kj c b++jb d (i5 a) 0 a).map (·.1))&&(jb d (i5 a) 0 a).all λe=>(aq st.h e.1).isNone
section
variable {E:fk} {C:eW} {st:aO} {a:Act} {w w':bD} {I I' B':X->Prop} {rt:X->ajT} {fp:X->ajZ}
theorem O6 {rt:X->ajT} {l:ajZ} {b:bn (X×aK)}:∀{as:bn al} {bs:bn hE} {gs:ez},oV b l as bs->gs.length=bs.length->∀id∈mG as bs,∃e∈g0 rt as bs gs,e.1=id/\aq b id=Y ⟨e.2.1.1,(match aq b id with|some h=>if i:h.1=e.2.1.1 then i▸h.2 else e.2.1.2|none=>e.2.1.2)⟩
 |[],bs,gs,_,_,id,b=>by cases bs<;>cases b
 |a::as,[],gs,f,_,id,b=>by cases a<;>exact f.elim
 |a::as,c::bs,[],_,k,id,b=>by cases k
 |a::as,c::bs,o::gs,f,k,id,b=>by
  have d:=O6 (rt:=rt) (as:=as) (bs:=bs) (gs:=gs) f.2 (by grind) id;have j:=f.1;cases a with
  |ref n g=>cases g with
   |nil=>
    cases c with
    |m h t=>
     simp only[mG,fG] at b;simp only[g0];rcases b with rfl|b
     ·refine⟨_,mr ..,bo,?_⟩;rw[j.1];simp
     grind
    |_=>exact d b
   |cons=>cases c<;>exact d b
  |view n g q i=>cases g with
   |nil=>
    cases c with
    |w v s r p u=>
     simp only[mG,fG] at b;simp only[g0];rcases b with rfl|b
     ·refine⟨_,mr ..,bo,?_⟩;rw[j.1];simp
     grind
    |_=>exact d b
   |cons=>cases c<;>exact d b
  |_=>cases c<;>exact d b
theorem G6 {e f g:Type} {h:e->f->g->Prop}:∀{as:bn e} {c:bn f} {d:bn g},mx h as c d->c.length=as.length/\d.length=as.length
 |[],c,d,b=>by cases c<;>cases d<;>first|exact⟨bo,bo⟩|exact b.elim
 |a::as,[],d,b=>b.elim
 |a::as,i::c,[],b=>b.elim
 |a::as,i::c,j::d,b=>by obtain⟨k,l⟩:=G6 b.2;grind
theorem Zs {a:bn (X×Cs)} (c:((a.map λb=>b.2.2.2).flatten).Nodup):(∀b∈a,b.2.2.2.Nodup)/\∀d e g h,aq a d=Y g->aq a e=Y h->d≠e->∀j∈g.2.2,j∉h.2.2:=by
 induction a with
 |nil=>exact⟨ac,λd e g h c=>by cases c⟩
 |cons l a r=>
  obtain⟨z,l⟩:=l;simp only[hX,lV,ji] at c;obtain⟨s,m,t⟩:=c;obtain⟨i1,x⟩:=r m;refine⟨λb w=>?_,λd e g h o p v j u=>?_⟩
  ·grind
  rw[de] at o p;have y:∀i f,aq a i=Y f->∀k∈f.2.2,k∈(a.map λb=>b.2.2.2).flatten:=λi f q k n=>lX.2 ⟨_,fe.2 ⟨(i,f),AY q,bo⟩,n⟩;grind
theorem Fb {e:Type}:∀{c:bn (X×e)},(c.map (·.1)).Nodup->∀{b:X×e},b∈c->aq c b.1=Y b.2
 |[],_,b,a=>by cases a
 |(k,x)::c,d,b,a=>by
  simp only[hX,kp] at d;rw[de];rcases fG.1 a with rfl|a
  ·rw[ax bo]
  rw[aw (λf=>d.1 (by grind))];exact Fb d.2 a
theorem RN {e:X} {g:bA}:∀{j:X} {f:bn aK} {a:X} {c:al},(v9 e g j f)[a]?=Y c->∃b,f[a]?=Y b/\c=(bif b.1.pure then .val b.1 b.2 else .ref (rH e g (j+a)) [])
 |j,[],a,c,d=>by grind [v9]
 |j,b::k,a,c,d=>by
  simp only[v9] at d;cases a with
  |zero=>grind
  |succ a=>
   obtain⟨l,h,i⟩:=RN (by simpa using d);grind
theorem RO {b:X} {c:bA}:∀{j:X} {a:bn aK},(v9 b c j a).length=a.length
 |j,[]=>rfl
 |j,e::d=>by simp[v9,RO]
theorem RT {d:X} {s:bA}:∀{j:X} {res:bn aK} {cs:eu} {hs:ez},cs.length=res.length->hs.length=res.length->∀(a:X) b c e,res[a]?=Y b->cs[a]?=Y c->hs[a]?=Y e->b.1.pure=br->(rH d s (j+a),(b,c,e))∈ls d s j res cs hs
 |j,[],cs,hs,_,_,a,b,c,e,ao,_,_,_=>by grind
 |j,b::f,[],hs,g,_,_,_,_,_,_,_,_,_=>by cases g
 |j,b::f,c::cs,[],_,h,_,_,_,_,_,_,_,_=>by cases h
 |j,b::f,c::cs,e::hs,g,h,a,m,i,k,ao,n,o,l=>by
  simp only[ls];cases a with
  |zero=>
   grind
  |succ a=>
   have:=RT (d:=d) (s:=s) (j:=j+1) (res:=f) (cs:=cs) (hs:=hs) (by grind) (by grind) a m i k (by grind) (by grind) (by grind) l;grind
end
section
variable {E:fk} {C:eW} {st:aO} {A:bU bS} {Q:aO->Prop}
theorem SQ {i:bn (X×aK)} {j:ajZ}:∀{as:bn al} {bs:bn hE},oV i j as bs->∀id∈gm as bs,∃h,aq i id=Y h
 |[],bs,_,id,b=>by cases bs<;>cases b
 |a::as,[],e,id,b=>by cases a<;>exact e.elim
 |a::as,c::bs,e,id,b=>by
  have d:=SQ (as:=as) (bs:=bs) e.2 id;have f:=e.1;cases a with
  |ref k g=>cases g with
   |nil=>
    cases c with
    |m h s=>
     simp only[gm,fG] at b;rcases b with rfl|b
     ·exact⟨_,f.1⟩
     grind
    |o h=>
     simp only[gm,fG] at b;rcases b with rfl|b
     ·exact⟨_,f⟩
     grind
    |_=>exact d b
   |cons=>cases c<;>exact d b
  |view k g p l=>cases g with
   |nil=>
    cases c with
    |w u r q n t=>
     simp only[gm,fG] at b;rcases b with rfl|b
     ·exact⟨_,f.1⟩
     grind
    |_=>exact d b
   |cons=>cases c<;>exact d b
  |_=>cases c<;>exact d b
theorem JN {s:ajR} {w:bD} {I:X->Prop} {rt:X->ajT} {fp:X->ajZ} (e:cM C st s w I rt fp):∀{a:ajZ},(∀id∈a,∃b,aq st.h id=Y b)->a.Nodup->((a.map fp).flatten).Nodup
 |[],_,_=>by simp
 |id::a,d,f=>by rw[kp] at f;simp only[hX,lV,ji];obtain⟨b,g⟩:=d id ac;refine⟨(e.tree id b g).2.1,JN e (λq u=>d q (by grind)) f.2,λj m t n c=>?_⟩;subst c;obtain⟨v,k,l⟩:=lX.1 n;obtain⟨i,o,rfl⟩:=fe.1 k;obtain⟨r,p⟩:=d i (by grind);exact e.dis id i b r g p (λc=>f.1 (c▸o)) j m l
def Ug (e:dh->X->Prop) (w:bD) (c:X) (b:bn aK) (f:X->ajT) (g:Value):Prop:=
 ∀(d:bn (X×aK)) (rt:X->ajT) (fp:X->ajZ),(∀a∈jb c (i5 b) 0 b,aq d a.1=Y a.2/\rt a.1=f a.1)->cQ e w d rt fp (v8 c b) g
def cM.glob {E:fk} {C:eW} {st:aO} {f:ajR} {w:bD} {I:X->Prop} {rt:X->ajT} {fp:X->ajZ} (b:cM C st f w I rt fp) (d:∀a,C.I0 a\/C.B a->a<C.w0.heap.size/\¬C.F0 a) (e:lA E C.I0 C.w0):lA E I w:=
 e.mono b.i0 λa c=>b.frame a (d a (.inl c)).1 (d a (.inl c)).2
theorem cM.call {C:eW} {st:aO} {gl:ajR} {w:bD} {I:X->Prop} {rt:X->ajT} {fp:X->ajZ} (G:cM C st gl w I rt fp) {m bx:X} {n:bn al} {R:ajT} (cv:iq (cQ (bb I C.B) w st.h rt fp) n R) {l:bn hE} {g:bn aK} (fn:rX E bx l g) (T:oV st.h (gm n l) n l) (a0:nD m st n l g=bp) (f9:∀F:ez,(∀e∈F.flatten,∃id c,aq st.h id=Y c/\e∈fp id)->L2 w R F (pn 0 l)) (el:lA E I w):Calls E.P bx R.toArray w (λM w'=>∃I' H O cJ,M=.returned (qg cJ)/\ns C st w w' I I' rt fp (gm n l) (ye (mG n l)) (kj n l++jb m (i5 g) 0 g) H O/\Ug (bb I' C.B) w' m g H (qg cJ)):=by
 simp only[nD,cE,gU] at a0;obtain⟨⟨c1,c2⟩,i0⟩:=a0;have c1:=jA.ok c1;have c2:=jA.ok c2
 let u:=gm n l
 let B':X->Prop:=λe=>C.B e\/∃id c,aq st.h id=Y c/\eQ id u=br/\e∈fp id
 have d9:∀e,C.B e->B' e:=λe k=>.inl k;have ek:∀id c,aq st.h id=Y c->eQ id u=br->∀e∈fp id,B' e:=λid c x o e k=>.inr ⟨id,c,x,o,k⟩;obtain⟨F,ft,ii⟩:=Mz G (B':=B') (S:=u) d9 ek (args:=l) cv T;have i3:∀id∈u,∃c,aq st.h id=Y c:=λid v=>SQ T id v;have U:∀e∈F.flatten,∃id∈u,∃c,aq st.h id=Y c/\e∈fp id:=(by grind);have fz:F.flatten.Nodup:=(by grind [JN]);have fr:=fn w I B' R F (λe k=>by
  rcases k with k|k|⟨id,c,x,_,k⟩
  ·exact G.ib e (.inl k)
  ·exact G.ib e (.inr k)
  ·exact((G.tree id c x).2.2 e k).2.2.1) ft fz (λe k=>by
  obtain⟨id,v,c,x,ap⟩:=U e k;obtain⟨ay,d3,bl,d4⟩:=(G.tree id c x).2.2 e ap;refine⟨ay,?_,bl⟩;rintro(z|⟨d1,ad,gc,o,ex⟩)
  ·grind
  ·have f6:id≠d1:=λM=>(by grind [g8]);exact G.dis id d1 c ad x gc f6 e ap ex) (f9 F λe k=>by
  grind) el
 refine fr.mono ?_;rintro M w' ⟨I',D,A,cJ,rfl,p⟩;obtain⟨J,a1,a3,i8,ds⟩:=RQ p.res;have fT:=(G6 p.args).2;have cs:oV st.h u n l:=T
 let q:bn (X×Cs):=g0 rt n l D++ls m (i5 g) 0 g J A
 have hs:q.map (λb=>(b.1,b.2.1))=kj n l++jb m (i5 g) 0 g:=(by grind [Rd,F5]);have co:(q.map (·.1)).Nodup:=(by grind);have io:((g0 rt n l D).map (λb=>b.2.2.2)).flatten=D.flatten:=Rc cs p.args;have is:((ls m (i5 g) 0 g J A).map (λb=>b.2.2.2)).flatten.Sublist A.flatten:=RR;have ci:((q.map λb=>b.2.2.2).flatten).Sublist (D.flatten++A.flatten):=(by grind);obtain⟨hv,hc⟩:=Zs (p.nd.sublist ci);have f7:∀b∈g0 rt n l D,aT (bb I' C.B) w' b.2.1.1 b.2.2.1 b.2.1.2 b.2.2.2/\b.2.2.1=rt b.1/\b.1∈u/\∃c,aq st.h b.1=Y c/\b.2.1.1=c.1:=(by exact Re G (S:=u) (args:=l) (gs:=D) cv T p.args);have eq:∀b∈q,aT (bb I' C.B) w' b.2.1.1 b.2.2.1 b.2.1.2 b.2.2.2/\(b.1∈u\/aq st.h b.1=bq):=by
  intro b y;rcases ha.1 y with y|y
  ·grind
  obtain⟨f,ao,N,am⟩:=RS a1 a3 b y;have f3:f<cJ.length:=(by grind);obtain⟨_,Q⟩:=ds f _ _ _ cJ[f] ao N am ac;refine⟨Q.mono (λa4 e o=>⟨?_,cp _ _⟩) (λe _=>cp _ _),.inr ?_⟩
  ·cases a4
   ·exact o
   exact o.elim .inl (λz=>z.elim)
  have o:(b.1,b.2.1)∈jb m (i5 g) 0 g:=(by grind [F5]);grind [Option.isNone_iff_eq_none]
 have em:∀b∈q,∀e∈b.2.2.2,e∈D.flatten++A.flatten:=λb y e k=>ci.subset (lX.2 ⟨_,fe.2 ⟨b,y,bo⟩,k⟩);have dg:∀f,aq (kj n l++jb m (i5 g) 0 g) f=(aq q f).map (·.1):=λf=>by grind [Pt]
 let H:X->ajT:=λf=>match aq q f with|some b=>b.2.1|none=>[]
 let O:X->ajZ:=λf=>match aq q f with|some b=>b.2.2|none=>[]
 have ge:ns C st w w' I I' rt fp u (ye (mG n l)) (kj n l++jb m (i5 g) 0 g) H O:=
  ⟨p.size,p.os,p.tape,p.output,λe k hw=>p.heap e k (λfs=>by obtain⟨id,v,c,x,ap⟩:=U e fs;grind),p.evo,p.i,(λe k=>by
    rcases p.i2 e k with z|⟨K,L|L⟩
    ·grind
    ·omega
    exact .inr ⟨K,.inr (U e L)⟩),
   (λid c v=>by
    rw[dg] at v;cases an:aq q id with
    |none=>grind
    |some b=>
     rw[an] at v;obtain rfl:b.1=c:=gb v;have o:=AY an;obtain⟨K,L⟩:=eq _ o;refine⟨L,by grind,by grind,λe k=>?_⟩;simp only[O,an] at k;obtain⟨ay,d3,bl,d4⟩:=p.MJ e (em _ o e k);exact⟨ay,bl,d4.imp (λz=>z) (U e)⟩),
   (λV d5 c lb f1 f2 ix e k=>by
    rw[dg] at f1 f2;cases hi:aq q V with
    |none=>grind
    |some jp=>
     cases hr:aq q d5 with
     |none=>grind
     |some kd=>
      grind),
   (λd6 av c x=>by
    obtain⟨id,v,rfl⟩:=fe.1 av;obtain⟨b,y,M,_⟩:=O6 (rt:=rt) cs fT id v;subst M;have o:b∈q:=n5 _ y;have i1:=Fb co o;obtain⟨_,L,_,ad,ce,d8⟩:=f7 b y;rw[x] at ce;obtain rfl:=gb ce;exact⟨b.2.1,by grind,d8,by grind,⟨c.1,by cases c.1<;>rfl⟩,λb _ _ _ a0=>by grind [E4]⟩),
   (λd6 av c x b _ _ _ _ _ ic=>by
    obtain⟨id,v,rfl⟩:=fe.1 av;grind [vj])⟩
 refine⟨I',H,O,cJ,bo,ge,λK gf d7 f0=>?_⟩;have d2:∀(f:X) (c:aK) (r:Value),g[f]?=Y c->cJ[f]?=Y r->cQ (bb I' C.B) w' K gf d7 (bif c.1.pure then .val c.1 c.2 else .ref (rH m (i5 g) (0+f)) []) r:=by
  intro f c r ao N;have f3:f<g.length:=(hN.1 ao).1;obtain⟨am,Q⟩:=ds f c J[f] A[f] r ao ac ac N;subst am;cases dl:c.1.pure with
  |true=>
   simp only[bH];have:=Q.pure dl;rw[this] at Q;refine .val (Q.mono (λa4 e o=>⟨?_,cp _ _⟩) ac);cases a4
   ·exact o
   exact o.elim .inl (λz=>z.elim)
  |false=>
   simp only[bR];have f4:=RT (d:=m) (s:=i5 g) (j:=0) a1 a3 f c J[f] A[f] ao ac ac dl;have o:(rH m (i5 g) (0+f),(c,J[f],A[f]))∈q:=lD _ f4;have f5:(rH m (i5 g) (0+f),c)∈jb m (i5 g) 0 g:=(by rw[<-F5 (d:=m) (s:=i5 g) (j:=0) a1 a3];grind);obtain⟨ay,d3⟩:=f0 _ f5;refine .ref (t:=c) (loc:=bq) ay ?_;have gt:H (rH m (i5 g) (0+f))=J[f]:=(by simp only[H,Fb co o]);grind [alv]
 cases d0:g with
 |nil=>
  have:cJ=[]:=r7 (by grind);subst this;exact .e6 (vs:=#[]) rfl (λV a r z=>by grind)
 |cons c bs=>
  cases bs with
  |nil=>
   obtain⟨r,rfl⟩:∃r,cJ=[r]:=sc.1 (by grind);have:=d2 0 c r (by grind) rfl;rw[d0] at this;exact this
  |cons gi bs=>
   have f8:qg cJ=.tuple cJ.toArray:=by
    have:cJ.length=(c::gi::bs).length:=by grind
    match cJ,this with
    |v1::nh::kg,_=>rfl
   rw[f8];refine .e6 (by grind [RO]) (λV go r K L=>?_);obtain⟨ad,ao,N⟩:=RN K;have:=d2 V ad r (by grind) (by grind);rw[d0] at this;rw[N];exact this
theorem RU {a:X} {d:bA} {c:bn aK} {e:bn (X×aK)} (f:((e++jb a d 0 c).map (·.1)).Nodup):∀b∈jb a d 0 c,aq (e++jb a d 0 c) b.1=Y b.2:=
 λb g=>Fb f (lD _ g)
theorem eX.call {Q:aO->Prop} {j d:X} {l:bS} {f:bP} {c:bn al} {b s:bU _} (K:l.op=.call {callee:=.value f,args:=b,argTypes:=s}) (S:aU st.g f=.da d c) (G:l.dst=Y j) (H:C.ok j) (an:∀(r:ajR) (w:bD),(callFunc d r).run E.P w=.ok (.enter d r) w) {i:bn hE} {n:bn aK} (D:rX E d i n) (N:pn 0 i=bq) (x:∀m,C.I0 m\/C.B m->m<C.w0.heap.size/\¬C.F0 m) (y:lA E C.I0 C.w0) (z:oV st.h (gm (b.toList.map (aU st.g)++c) i) (b.toList.map (aU st.g)++c) i) (p:nD j st (b.toList.map (aU st.g)++c) i n=bp) (u:Q (Vu j st (b.toList.map (aU st.g)++c) i n)):eX E C l st Q:=by
 rintro a w ⟨I,rt,fp,k⟩ next T J
 obtain⟨e,R,v⟩:∃e:ajR,a.eval f=.func (.func d) #[] e/\iq (cQ (bb I C.B) w st.h rt fp) c e.toList:=by
  have o:=k.aU f;rw[S] at o;generalize a4:a.eval f=bx at o;cases o with|da a0 ap=>
  grind [zv]
 have A:iq (cQ (bb I C.B) w st.h rt fp) (b.toList.map (aU st.g)++c) (b.toList.map a.eval++e.toList):=G4 (G5 (λf=>k.aU f) _) v;have F:=k.call A D z p (λ_ _=>by rw[N];trivial) (k.glob x y);generalize am:b.toList.map (aU st.g)++c=U at*;have M:(bO a.eval l).run E.P w=.ok (.enter d (b.toList.map a.eval++e.toList).toArray) w:=(by have ao:b.map a.eval=(b.toList.map a.eval).toArray:=(by grind);have t:(b.toList.map a.eval++e.toList).toArray=(b.toList.map a.eval).toArray++e:=ac;rw[t];simp only[bO,K,akC,ao,bY,R,Deferred.ofValue,ct,b2,invoke,Array.empty_append,Array.append_empty];grind);unfold aj9;rw[M];show Calls E.P d _ w _;refine F.mono ?_;rintro V w' ⟨I',bs,ad,cJ,rfl,O,L⟩;show next (a.put l.dst (qg cJ)) w'
 rw[G];have q:=p;simp only[nD,cE] at q;have a1:=jA.ok q.1.2;refine J _ _ _ u bo ⟨I',_,_,(k.eI O).put H (av:=v8 j n) (L _ _ _ (λbl a3=>?_))⟩;grind [kV,RU,e8]
end
end
end Go.jt
end
