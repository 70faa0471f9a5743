/-
  Parts of the proof: Fw1, Fw2, Fw3, Fw4, Fw5, Fw6, Fw7, Fw8, Fw40, Fw41, Fw9, Fw10, Fw11, Fw12, Fw13, Fw14, Fw15, Fw16, Fw17, Fw18, Fw19: the framework (Fw), pure forms (Dn), plain laws (Pl, Th), calls of functions (Ok).
-/
import Derived.Laws.AppendOwn
import Derived.ArgAppend
import Derived.Laws.IdiomCopy
import Derived.Laws.Cells
import Derived.Laws.MakeOwn
import Derived.Calls
import Derived.Orders
import Derived.Laws.Entries
import Derived.Maps.RangeRun

set_option linter.all false
theorem U{p:Prop}(h:p:=by omega):p:=h
theorem aa{p:Prop}(h:p:=by decide):p:=h
theorem ab{p:Prop}(h:p:=by simp):p:=h
abbrev aM:=@Option.bind_some
abbrev a8:=@Nat.le_refl
abbrev bd:=@Bool.and_eq_true
abbrev bo:=@List.getElem?_eq_getElem
abbrev bp:=@Nat.lt_or_ge
abbrev bI:=@Option.some.injEq
abbrev bQ:=@List.getElem_mem
abbrev bR:=@List.mem_map
abbrev bZ:=@Option.bind_eq_some_iff
abbrev c9:=@List.take_of_length_le
abbrev da:=@Nat.le_trans
abbrev de:=@Int.toNat_natCast
abbrev dh:=@List.mem_cons
abbrev dL:=@Int.le_of_lt
abbrev dO:=@List.mem_append
abbrev dP:=@List.mem_singleton
abbrev dQ:=@Nat.zero_le
abbrev dX:=@List.length_take
abbrev dZ:=@Option.map_eq_some_iff
abbrev eb:=@List.getElem?_eq_some_iff
abbrev ec:=@Option.some.inj
abbrev ep:=@List.map_cons
abbrev er:=@Nat.eq_of_beq_eq_true
abbrev ew:=@Int.eq_ofNat_of_zero_le
abbrev eI:=@List.all_eq_true
abbrev eL:=@Nat.add_mul
abbrev eM:=@Nat.le_of_ble_eq_true
abbrev eS:=@List.getElem?_map
abbrev e2:=@List.mem_cons_of_mem
abbrev fc:=@List.getElem?_eq_none
abbrev fd:=@Prod.mk.injEq
abbrev fr:=@List.nil_append
abbrev fB:=@Option.map_some
abbrev fK:=@List.cons.injEq
abbrev fL:=@List.length_map
abbrev fR:=@Nat.min_eq_left
abbrev fZ:=@Bool.or_eq_true
abbrev gb:=@List.map_append
abbrev gr:=@List.mem_filter
abbrev gu:=@List.pairwise_iff_getElem
abbrev gv:=@Nat.mul_le_mul_right
abbrev gw:=@Nat.one_mul
abbrev gH:=@Int.lt_or_le
abbrev gN:=@List.mem_range
abbrev gO:=@Nat.lt_of_lt_of_le
abbrev gW:=@Int.mul_comm
abbrev gX:=@Nat.pow_add
abbrev g8:=@Int.emod_add_mul_ediv
abbrev g9:=@List.ext_getElem?
abbrev ha:=@List.mem_iff_getElem
abbrev hq:=@List.take_add_one
abbrev ht:=@Nat.two_pow_pos
abbrev hF:=@List.nodup_append
abbrev hT:=@Int.mul_le_mul_of_nonneg_left
abbrev hU:=@List.length_cons
abbrev hV:=@List.length_filter_le
abbrev hW:=@List.map_congr_left
abbrev hX:=@Nat.zero_add
abbrev h9:=@Nat.eq_zero_or_pos
abbrev ia:=@Nat.mul_le_mul
abbrev ie:=@Option.bind_assoc
abbrev iu:=@List.flatten_cons
abbrev iv:=@List.mem_flatten
abbrev iK:=@List.getD_eq_getElem?_getD
abbrev iL:=@List.getElem?_cons_zero
abbrev i6:=@Bool.not_true
abbrev ja:=@Int.mul_assoc
abbrev jb:=@Int.pow_add
abbrev jc:=@List.append_nil
abbrev jd:=@List.cons_append
abbrev je:=@List.nodup_cons
abbrev jf:=@Nat.mul_comm
abbrev jg:=@Nat.pow_succ
abbrev jF:=@Int.natCast_mul
abbrev jH:=@List.filter_cons
abbrev jI:=@List.mem_cons_self
abbrev ke:=@List.getElem?_drop
abbrev kx:=@Bool.not_false
abbrev ky:=@Int.ediv_nonneg
abbrev kz:=@Int.mul_le_mul_of_nonneg_right
abbrev kA:=@List.append_assoc
abbrev kB:=@List.getElem?_set_self
abbrev kC:=@List.length_drop
abbrev kD:=@List.mem_of_getElem?
abbrev kE:=@List.take_append_drop
abbrev k1:=@List.getElem?_take_of_lt
abbrev k2:=@List.mem_append_right
abbrev k3:=@List.range_succ
abbrev k4:=@Nat.add_zero
abbrev ls:=@Int.mul_nonneg
abbrev lu:=@List.drop_zero
abbrev lv:=@List.eq_nil_of_length_eq_zero
abbrev lw:=@List.filter_append
abbrev lx:=@List.getElem?_append_left
abbrev ly:=@List.getElem?_replicate
abbrev lz:=@List.getElem?_set_ne
abbrev lA:=@List.length_append
abbrev lB:=@Nat.add_sub_cancel_left
abbrev lW:=@Array.getElem?_eq_some_iff
abbrev lX:=@Bool.eq_iff_iff
abbrev lY:=@Int.emod_nonneg
abbrev lZ:=@Int.le_refl
abbrev l0:=@List.filter_eq_self
abbrev l1:=@List.getElem?_append_right
abbrev l3:=@Nat.lt_trichotomy
abbrev mN:=@Int.pow_pos
abbrev mO:=@List.mem_append_left
abbrev mP:=@List.pairwise_cons
abbrev mQ:=@Nat.div_add_mod
abbrev ny:=@Int.ediv_eq_zero_of_lt
abbrev nz:=@Int.emod_lt_of_pos
abbrev nA:=@Int.mul_pos
abbrev nD:=@List.any_eq_true
abbrev nE:=@List.drop_drop
abbrev nF:=@List.drop_eq_nil_of_le
abbrev nG:=@List.length_range
abbrev nJ:=@Nat.add_assoc
abbrev nK:=@Nat.mul_assoc
abbrev nL:=@Nat.pow_le_pow_right
abbrev oz:=@Array.mem_append_right
abbrev oC:=@Int.ediv_lt_of_lt_mul
abbrev oD:=@List.drop_append_of_le_length
abbrev oE:=@List.drop_of_length_le
abbrev oF:=@List.flatten_append
abbrev oG:=@List.getElem?_cons_succ
abbrev oH:=@List.getElem?_range
abbrev oI:=@List.length_nil
abbrev oJ:=@List.length_replicate
abbrev oK:=@List.take_length
abbrev pH:=@Array.getElem?_modify
abbrev pK:=@Int.emod_eq_of_lt
abbrev pL:=@Int.mul_lt_mul_of_pos_right
abbrev pM:=@Int.natAbs_natCast
abbrev pN:=@Int.natAbs_neg
abbrev pO:=@Int.natCast_ediv
abbrev pP:=@Int.zero_mul
abbrev pQ:=@List.getElem?_set
abbrev pR:=@List.map_map
abbrev pS:=@List.map_nil
abbrev pT:=@List.size_toArray
abbrev pU:=@Nat.beq_refl
abbrev pV:=@Nat.zero_mul
abbrev pW:=@Option.getD_some
abbrev rn:=@Int.ediv_ediv_of_nonneg
abbrev ro:=@Int.ediv_le_self
abbrev rp:=@List.all_cons
abbrev rq:=@List.count_append
abbrev rr:=@List.getElem?_take
abbrev ru:=@List.getElem_set_ne
abbrev rv:=@List.perm_iff_count
abbrev rx:=@List.take_append_of_le_length
abbrev ry:=@Nat.div_le_self
abbrev s9:=@Array.getElem?_toList
abbrev ta:=@Array.replicate_succ
abbrev tb:=@Array.replicate_zero
abbrev tg:=@Int.add_mul_ediv_left
abbrev th:=@List.any_eq_false
abbrev tj:=@List.append_toArray
abbrev tk:=@List.filter_cons_of_neg
abbrev tm:=@List.filter_nil
abbrev tn:=@List.length_eq_one_iff
abbrev tp:=@List.pairwise_map
abbrev tq:=@List.push_toArray
abbrev tr:=@Nat.add_sub_cancel
abbrev vg:=@Array.getElem?_eq_getElem
abbrev vh:=@Array.getElem?_push
abbrev vi:=@Bool.not_eq_true'
abbrev vp:=@Int.add_mul_emod_self_left
abbrev vq:=@Int.tdiv_eq_ediv_of_nonneg
abbrev vr:=@List.append_of_mem
abbrev vt:=@List.filter_congr
abbrev vu:=@List.filter_cons_of_pos
abbrev vv:=@List.getElem_take
abbrev vw:=@List.length_set
abbrev vx:=@List.map_toArray
abbrev vy:=@List.mem_toArray
abbrev x9:=@Array.getD_eq_getD_getElem?
abbrev ye:=@Int.fdiv_eq_ediv_of_nonneg
abbrev yf:=@Int.lt_of_mul_lt_mul_left
abbrev yg:=@Int.tmod_eq_emod_of_nonneg
abbrev yh:=@List.find?_eq_none
abbrev yi:=@List.length_pos_iff
abbrev yj:=@List.singleton_append
abbrev yk:=@Nat.le_div_iff_mul_le
abbrev yl:=@Nat.testBit_two_pow
abbrev yn:=@Option.isSome_some
abbrev B8:=@Array.getElem?_setIfInBounds_ne
abbrev Cc:=@Int.mul_ediv_cancel_left
abbrev Cf:=@List.drop_eq_getElem_cons
abbrev Cg:=@List.length_eq_zero_iff
abbrev Ch:=@List.mem_of_find?_eq_some
abbrev Ci:=@List.mem_take_iff_getElem
abbrev b1:=(List (List Int)×Unit)×(List (List Int)×Unit)×List Int×Unit
abbrev b2:=Int×(List (List Int)×Unit)×(List (List Int)×Unit)×Unit
abbrev b3:=(List (List Int)×Unit)×(List (List Int)×Unit)×Unit
abbrev b4:=List Int×(Option (List (List Int)×Unit)×Unit)×Unit
abbrev b5:=Int×(List (List Int)×Unit)×List (List Bool)×Unit
abbrev b6:=(List (List Int)×Unit)×List (List Bool)×Unit
abbrev b7:=Int×(List (List Bool)×(List Bool×Unit))×Unit
abbrev b8:=(List (List Bool)×(List Bool×Unit))×Unit
abbrev b9:=(Int×List Bool×Unit)⊕(Unit⊕(Bool×Unit))
abbrev ca:=(Int×List Bool×Unit)⊕(List Bool×Unit)
abbrev cb:=(List (List Int)×Unit)×List Int×Unit
abbrev cc:=Unit⊕((Int×Unit)⊕(Unit⊕(Int×Unit)))
abbrev cd:=Int×(List Int×(List Int×Unit))×Unit
abbrev cg:=(Int×Int×Unit)⊕(Unit⊕(Bool×Unit))
abbrev ch:=List (List Bool)×(List Bool×Unit)
abbrev cj:=(List Int×(List Int×Unit))×Unit
abbrev ck:=(List (List Int)×Unit)×Int×Unit
abbrev cl:=(Int×Unit)⊕(Unit⊕(Int×Unit))
abbrev cm:=(List (List Int)×Unit)×Unit
abbrev cn:=Int×List (List Bool)×Unit
abbrev cp:=List Int×(List Int×Unit)
abbrev cq:=List (List Int)×Int×Unit
abbrev cr:=List (List Bool)×Unit
abbrev ct:=List (List Int)×Unit
abbrev cu:=Int×List Bool×Unit
abbrev cw:=List Int×Int×Unit
abbrev cx:=Int×List Int×Unit
abbrev cy:=Nat×Nat×List Nat
abbrev cz:=Unit⊕(Bool×Unit)
abbrev cA:=Unit⊕(Int×Unit)
abbrev cB:=List Bool×Unit
abbrev cC:=Int×Bool×Unit
abbrev cD:=List Int×Unit
abbrev cE:=Bool×Int×Unit
abbrev cF:=Int×Int×Unit
abbrev cG:=Bool×Unit
abbrev cH:=Int×Unit
abbrev cI:=Nat×Nat
abbrev cJ:=List (List Go.Value)
abbrev cK:=Option (List Int)
abbrev cL:=List (Option Int)
abbrev cM:=List (List Bool)
abbrev cN:=List (List Nat)
abbrev cO:=List (List Int)
abbrev cP:=Option Go.Operand
abbrev cQ:=Array Go.Value
abbrev cR:=List Go.TypeId
abbrev cS:=List Go.Value
abbrev cT:=Option Int
abbrev cU:=Option Nat
abbrev cV:=List Bool
abbrev cW:=Option cG
abbrev cX:=Option cH
abbrev cY:=List Nat
abbrev cZ:=List Int
abbrev c0:=List cI
noncomputable section
namespace Go.i9
variable{a w G:TypeId}{b h:Operand}{c g M O:Nat}{e m:World}{i D:cS}{k C V:Nat->Prop}{n:cY}{p:Nat->cS}{q:Nat->cY}{r T:Option Addr}{s:Exit->Act->World->Prop}{t:Array MapEntry}{u:IntKind}{y E:Type}{A:cQ}{B:Array (Nat×Operand)}{I:Value}{N:Program}{S:Int}
inductive c5 where
 |bA
 |dN
 deriving DecidableEq
variable{f:c5->Nat->Prop}{P:c5}
inductive ag where
 |int (k:IntKind)
 |bool
 |str
 |a7 (m:c5) (t:ag)
 |ptr (m:c5) (t:ag)
 |osl (t:ag)
 |optr (t:ag)
 |st (t:ag)
 |pr (a b:ag)
 |nil
 |c6
 |mp (t:ag)
 |dC (m:c5) (t:ag)
 deriving DecidableEq
variable{d o Q:ag}{j:List (Nat×ag)}
def ag.size:ag->Nat
 |.pr a b=>a.size+b.size
 |.st c=>c.size
 |.nil|.c6=>0
 |_=>1
@[reducible] def ag.den:ag->Type
 |.int _=>Int
 |.bool=>Bool
 |.str=>ByteArray
 |.a7 _ a=>List a.den
 |.ptr _ a=>Option a.den
 |.osl a=>List a.den
 |.optr a=>a.den
 |.st a=>a.den
 |.pr b c=>b.den×c.den
 |.nil=>Unit
 |.c6=>Unit
 |.mp a=>Option (List (Int×a.den)×Nat)
 |.dC _ a=>Option (List (Int×a.den)×Nat)
def iM {d:Type} (b:List (Int×Nat×d)) (c:List (Int×d)) (g:Nat):Prop:=
 c.Pairwise (λe f=>e.1<f.1)/\(b.map λa=>(a.1,a.2.2)).Perm c/\(b.map λa=>a.2.1).Nodup/\∀a∈b,a.2.1<g
def bH:ag->cS->Value
 |.st _,a=>.agg a.toArray
 |_,a=>a.headD undef
def dK (f:World) (c e:Nat) (d:cS):Prop:=∀a b,d[a]?=some b->f.cell? ⟨c,e+a,none⟩=some b
def hE (c:World) (b e d:Nat):Prop:=∀a,e<=a->a<d->(c.cell? ⟨b,a,none⟩).isSome=true/\c.frozen? ⟨b,a,none⟩=false
def hl (d:World) (a:Nat):Option (Array MapEntry×Nat):=match d.heap[a]? with
 |some (.map c b)=>some (c,b)
 |_=>none
def bN (c d:World) (a:Nat):Prop:=(∀b,d.cell? ⟨a,b,none⟩=c.cell? ⟨a,b,none⟩/\d.frozen? ⟨a,b,none⟩=c.frozen? ⟨a,b,none⟩)/\hl d a=hl c a
theorem bN.refl (a:World) (b:Nat):bN a a b:=⟨λ_=>⟨rfl,rfl⟩,rfl⟩
theorem bN.of_heap (b:m.heap[c]?=e.heap[c]?):bN e m c:=
 ⟨λd=>⟨World.cell?_of_block (a:=⟨c,d,none⟩) b,World.frozen?_of_block (a:=⟨c,d,none⟩) b⟩,by unfold hl;rw[b]⟩
def i7 (j k:World) (d:Nat):Prop:=∀f b,hl j d=some (f,b)->∃g e,hl k d=some (g,e)/\b<=e/\∀(h:Nat) (a:MapEntry),g[h]?=some a->a.born<b->∃(i:Nat) (c:MapEntry),f[i]?=some c/\c.key=a.key/\c.born=a.born
theorem i7.of_eq (f:hl m c=hl e c):i7 e m c:=
 λd a h=>⟨d,a,f.trans h,a8 _,λi b g _=>⟨i,b,g,rfl,rfl⟩⟩
theorem i7.refl (a:World) (b:Nat):i7 a a b:=.of_eq rfl
theorem i7.of_heap {b c:World} {a:Nat} (d:c.heap[a]?=b.heap[a]?):i7 b c a:=.of_eq (bN.of_heap d).2
theorem i7.trans {b c d:World} {a:Nat} (m:i7 b c a) (n:i7 c d a):i7 b d a:=λj e s=>by obtain⟨k,f,o,p,q⟩:=m j e s;obtain⟨l,g,w,x,y⟩:=n k f o;refine⟨l,g,w,da p x,λt h r E=>?_⟩;obtain⟨u,i,ar,z,A⟩:=y t h r U;obtain⟨v,aj,B,C,D⟩:=q u i ar U;exact⟨v,aj,B,C.trans z,D.trans A⟩
theorem dK.ev (a:dK e c g i) (d:bN e m c):dK m c g i:=
 λf h b=>by rw[(d.1 _).1];exact a f h b
theorem hE.ev (b:hE e c M g) (a:bN e m c):hE m c M g:=
 λh d f=>by rw[(a.1 _).1,(a.1 _).2];exact b h d f
def aN (i:c5->Nat->Prop) (f:World):(A:ag)->cS->A.den->cY->Prop
 |.int x,b,y,d=>d=[]/\b=[.int x y]
 |.bool,b,a,d=>d=[]/\b=[.bool a]
 |.str,b,z,d=>d=[]/\b=[.string z]
 |.a7 s c,b,l,d=>d=[]/\∃k n,b=[.slice k l.length n]/\l.length<=n/\(k=none->n=0)/\(l=[]\/∃a h,k=some ⟨a,h,none⟩/\i s a/\∀j g,l[j]?=some g->∃e,e.length=c.size/\dK f a (h+j*c.size) e/\aN i f c e g [])
 |.ptr s c,b,g,d=>d=[]/\match g with
  |none=>b=[.pointer none]
  |some v=>∃a h e,b=[.pointer (some ⟨a,h,none⟩)]/\i s a/\e.length=c.size/\dK f a h e/\aN i f c e v []
 |.osl c,b,l,d=>∃k n,b=[.slice k l.length n]/\((
   k=none/\l=[]/\n=0/\d=[])\/∃(a h:Nat) (t:cN),k=some ⟨a,h,none⟩/\d=a::t.flatten/\t.length=l.length/\l.length<=n/\
   hE f a h (h+n*c.size)/\∀j g r,l[j]?=some g->t[j]?=some r->∃e,e.length=c.size/\dK f a (h+j*c.size) e/\aN i f c e g r)
 |.optr c,b,v,d=>∃a h r e,b=[.pointer (some ⟨a,h,none⟩)]/\d=a::r/\e.length=c.size/\dK f a h e/\hE f a h (h+c.size)/\aN i f c e v r
 |.st c,b,g,d=>aN i f c b g d
 |.pr k a,b,g,d=>∃w f2,d=w++f2/\aN i f k (b.take k.size) g.1 w/\aN i f a (b.drop k.size) g.2 f2
 |.nil,b,_,d=>d=[]/\b=[]
 |.c6,b,_,_=>b=[]
 |.mp c,b,g,d=>match g with
  |none=>d=[]/\b=[.map none]
  |some (u,q)=>∃(a:Nat) (p:Array MapEntry) (o:List (Int×Nat×c.den)),b=[.map (some a)]/\d=[a]/\iM o u q/\hl f a=some (p,q)/\p.size=o.length/\∀(j:Nat) (m:Int×Nat×c.den),o[j]?=some m->∃e:cS,e.length=c.size/\p[j]?=some (MapEntry.mk (.int .i64 m.1) (bH c e) m.2.1)/\aN i f c e m.2.2 []
 |.dC s c,b,g,d=>match g with
  |none=>d=[]/\b=[.map none]
  |some (u,q)=>∃(a:Nat) (p:Array MapEntry) (o:List (Int×Nat×c.den)),b=[.map (some a)]/\d=[]/\iM o u q/\i s a/\hl f a=some (p,q)/\p.size=o.length/\∀(j:Nat) (m:Int×Nat×c.den),o[j]?=some m->∃e:cS,e.length=c.size/\p[j]?=some (MapEntry.mk (.int .i64 m.1) (bH c e) m.2.1)/\aN i f c e m.2.2 []
theorem aN.len {i:c5->Nat->Prop} {r:World}:∀{τ:ag} {e:cS} {b:τ.den} {l:cY},aN i r τ e b l->e.length=τ.size
 |.int _,_,_,_,a=>by rw[a.2];rfl
 |.bool,_,_,_,a=>by rw[a.2];rfl
 |.str,_,_,_,a=>by rw[a.2];rfl
 |.a7 _ _,_,_,_,a=>by obtain⟨_,c,g,a,_⟩:=a;rw[a];rfl
 |.ptr _ _,_,b,_,a=>by
  obtain⟨_,a⟩:=a;cases b with
  |none=>simp only at a;rw[a];rfl
  |some w=>obtain⟨d,v,j,a,_⟩:=a;rw[a];rfl
 |.osl _,_,_,_,a=>by obtain⟨c,g,a,_⟩:=a;rw[a];rfl
 |.optr _,_,_,_,a=>by obtain⟨c,g,s,j,a,_⟩:=a;rw[a];rfl
 |.st f,_,_,_,a=>aN.len (τ:=f) a
 |.pr c d,e,_,_,a=>by obtain⟨t,f2,_,m,n⟩:=a;have o:=aN.len (τ:=c) m;have p:=aN.len (τ:=d) n;simp only[dX,kC] at o p;show e.length=c.size+d.size;omega
 |.nil,_,_,_,a=>by rw[a.2];rfl
 |.c6,_,_,_,a=>by rw[show _=[] from a];rfl
 |.mp f,_,b,_,a=>by
  cases b with
  |none=>rw[a.2];rfl
  |some q=>obtain⟨d,k,h,a,_⟩:=a;rw[a];rfl
 |.dC u f,_,b,_,a=>by
  cases b with
  |none=>rw[a.2];rfl
  |some q=>obtain⟨d,k,h,a,_⟩:=a;rw[a];rfl
theorem aN.one {j:c5->Nat->Prop} {s:World}:∀{τ:ag} {cs:cS} {b:τ.den} {m:cY},aN j s τ cs b m->∀g∈cs,g.oneCell'=true
 |.int _,_,_,_,a=>by rw[a.2];simp[Value.oneCell']
 |.bool,_,_,_,a=>by rw[a.2];simp[Value.oneCell']
 |.str,_,_,_,a=>by rw[a.2];simp[Value.oneCell']
 |.a7 _ _,_,_,_,a=>by obtain⟨_,d,h,a,_⟩:=a;rw[a];simp[Value.oneCell']
 |.ptr _ _,_,b,_,a=>by
  obtain⟨_,a⟩:=a;cases b with
  |none=>simp only at a;rw[a];simp[Value.oneCell']
  |some x=>obtain⟨e,w,k,a,_⟩:=a;rw[a];simp[Value.oneCell']
 |.osl _,_,_,_,a=>by obtain⟨d,h,a,_⟩:=a;rw[a];simp[Value.oneCell']
 |.optr _,_,_,_,a=>by obtain⟨d,h,f,k,a,_⟩:=a;rw[a];simp[Value.oneCell']
 |.st t,_,_,_,a=>aN.one (τ:=t) a
 |.pr d e,cs,_,_,a=>by
  obtain⟨u,f2,_,n,o⟩:=a;have p:=aN.one (τ:=d) n;have q:=aN.one (τ:=e) o;intro g c;rw[<-kE d.size cs] at c;rcases dO.1 c with c|c
  ·exact p g c
  exact q g c
 |.nil,_,_,_,a=>by rw[a.2];simp
 |.c6,_,_,_,a=>by rw[show _=[] from a];simp
 |.mp t,_,b,_,a=>by
  cases b with
  |none=>rw[a.2];simp[Value.oneCell']
  |some r=>obtain⟨e,l,i,a,_⟩:=a;rw[a];simp[Value.oneCell']
 |.dC v t,_,b,_,a=>by
  cases b with
  |none=>rw[a.2];simp[Value.oneCell']
  |some r=>obtain⟨e,l,i,a,_⟩:=a;rw[a];simp[Value.oneCell']
theorem aN.mono {L M:c5->Nat->Prop} {A B:World} (d:∀j a,L j a->M j a/\bN A B a):∀{τ:ag} {F:cS} {g:τ.den} {x:cY},aN L A τ F g x->(∀a∈x,bN A B a)->aN M B τ F g x
 |.int _,_,_,_,b,_=>b
 |.bool,_,_,_,b,_=>b
 |.str,_,_,_,b,_=>b
 |.a7 j w,_,T,_,b,_=>by obtain⟨H,y,E,e,c,k,l⟩:=b;refine⟨H,y,E,e,c,k,l.imp id ?_⟩;rintro⟨a,v,J,i,K⟩;refine⟨a,v,J,(d j a i).1,λu g t=>?_⟩;obtain⟨h,o,p,q⟩:=K u g t;exact⟨h,o,p.ev (d j a i).2,aN.mono d q ab⟩
 |.ptr j w,_,g,_,b,_=>by
  obtain⟨H,b⟩:=b;refine⟨H,?_⟩;cases g with
  |none=>exact b
  |some U=>
   obtain⟨a,v,h,e,c,k,l,r⟩:=b;exact⟨a,v,h,e,(d j a c).1,k,l.ev (d j a c).2,aN.mono d r ab⟩
 |.osl w,_,T,x,b,f=>by obtain⟨y,E,e,c⟩:=b;refine⟨y,E,e,c.imp id ?_⟩;rintro⟨a,v,P,J,s,S,m,R,K⟩;have i:bN A B a:=f a (by rw[s];simp);refine⟨a,v,P,J,s,S,m,R.ev i,λu g C t N=>?_⟩;obtain⟨h,o,p,q⟩:=K u g C t N;refine⟨h,o,p.ev i,aN.mono d q (λn m=>f n ?_)⟩;rw[s];exact e2 _ (iv.2 ⟨C,kD N,m⟩)
 |.optr w,_,_,_,b,f=>by obtain⟨a,v,C,h,e,c,k,l,r,Q⟩:=b;have i:bN A B a:=f a (by rw[c];simp);exact⟨a,v,C,h,e,c,k,l.ev i,r.ev i,aN.mono d Q (λn m=>f n (by rw[c];exact e2 _ m))⟩
 |.st w,_,_,_,b,f=>aN.mono (τ:=w) d b f
 |.pr y a,F,_,_,b,f=>by obtain⟨O,f2,s,e,c⟩:=b;exact⟨O,f2,s,aN.mono (τ:=y) d e (λn m=>f n (by rw[s];exact mO _ m)),aN.mono (τ:=a) d c (λn m=>f n (by rw[s];exact k2 _ m))⟩
 |.nil,_,_,_,b,_=>b
 |.c6,_,_,_,b,_=>b
 |.mp w,_,g,x,b,f=>by
  cases g with
  |none=>exact b
  |some z=>
   obtain⟨a,G,D,e,c,I,k,l,r⟩:=b;refine⟨a,G,D,e,c,I,(f a (by rw[c];simp)).2.trans k,l,λu z t=>?_⟩;obtain⟨h,o,p,q⟩:=r u z t;exact⟨h,o,p,aN.mono d q ab⟩
 |.dC j w,_,g,x,b,f=>by
  cases g with
  |none=>exact b
  |some z=>
   obtain⟨a,G,D,e,c,I,i,k,l,r⟩:=b;refine⟨a,G,D,e,c,I,(d j a i).1,(d j a i).2.2.trans k,l,λu z t=>?_⟩;obtain⟨h,o,p,q⟩:=r u z t;exact⟨h,o,p,aN.mono d q ab⟩
def ag.ik:ag->Bool
 |.c6=>false
 |.a7 _ a|.ptr _ a|.osl a|.optr a|.st a|.mp a|.dC _ a=>a.ik
 |.pr b c=>b.ik&&c.ik
 |_=>true
theorem aN.uniq {w:c5->Nat->Prop} {B:World}:∀{τ:ag} {r:cS} {e n:τ.den} {i y:cY},τ.ik=true->aN w B τ r e i->aN w B τ r n y->i=y
 |.int _,_,_,_,_,_,_,a,b=>a.1.trans b.1.symm
 |.bool,_,_,_,_,_,_,a,b=>a.1.trans b.1.symm
 |.str,_,_,_,_,_,_,a,b=>a.1.trans b.1.symm
 |.a7 _ _,_,_,_,_,_,_,a,b=>a.1.trans b.1.symm
 |.ptr _ _,_,_,_,_,_,_,a,b=>a.1.trans b.1.symm
 |.nil,_,_,_,_,_,_,a,b=>a.1.trans b.1.symm
 |.c6,_,_,_,_,_,d,_,_=>by cases d
 |.dC J h,r,e,n,i,y,_,a,b=>by
  have F:∀{e:(ag.dC J h).den} {i:cY},aN w B (.dC J h) r e i->i=[]:=λ{e i} a=>by
   cases e with
   |none=>exact a.1
   |some T=>obtain⟨j,H,C,_,l,_⟩:=a;exact l
  rw[F a,F b]
 |.mp h,_,e,n,_,_,_,a,b=>by
  cases e with
  |none=>
   cases n with
   |none=>exact a.1.trans b.1.symm
   |some V=>
    obtain⟨j,H,C,f,_⟩:=b;have:=a.2.symm.trans f;simp at this
  |some T=>
   obtain⟨j,H,C,f,l,_⟩:=a;cases n with
   |none=>
    have:=f.symm.trans b.2;simp at this
   |some V=>
    obtain⟨E,a0,Z,g,t,_⟩:=b;have:=f.symm.trans g;simp only[fK,Value.map.injEq,bI,and_true] at this;rw[l,t,this]
 |.st h,_,_,_,_,_,d,a,b=>aN.uniq (τ:=h) d a b
 |.pr D j,_,_,_,_,_,d,a,b=>by simp only[ag.ik,bd] at d;obtain⟨a4,f2,rfl,f,l⟩:=a;obtain⟨bl,bs,rfl,I,z⟩:=b;rw[aN.uniq (τ:=D) d.1 f I,aN.uniq (τ:=j) d.2 l z]
 |.optr h,_,_,_,_,_,d,a,b=>by
  obtain⟨j,K,i,k,f,rfl,I,z,_,Q⟩:=a;obtain⟨E,S,a3,p,g,rfl,ce,P,_,R⟩:=b;rw[f] at g;simp only[fK,Value.pointer.injEq,bI,Addr.mk.injEq,and_true] at g;obtain⟨rfl,rfl⟩:=g;obtain rfl:k=p:=by
   apply g9;intro c;rcases bp c k.length with m|m
   ·have ar:=z c k[c] (by simp[m]);have v:=P c (p[c]'(by omega)) ab
    rw[ar] at v;simp only[bI] at v;rw[bo m,bo U,v]
   rw[fc m,fc U]
  rw[aN.uniq (τ:=h) d Q R]
 |.osl h,_,e,n,_,_,d,a,b=>by
  obtain⟨D,am,f,l⟩:=a;obtain⟨ad,an,g,t⟩:=b;rw[f] at g;simp only[fK,Value.slice.injEq,and_true] at g;obtain⟨rfl,ci,rfl⟩:=g;rcases l with⟨rfl,rfl,rfl,rfl⟩|⟨j,K,s,rfl,rfl,ar,v,cv,W⟩
  ·rcases t with⟨_,rfl,_,rfl⟩|⟨j,K,s,o,_⟩
   ·rfl
   cases o
  rcases t with⟨o,_⟩|⟨E,S,x,o,rfl,co,cs,dl,X⟩
  ·cases o
  simp only[bI,Addr.mk.injEq,and_true] at o;obtain⟨rfl,rfl⟩:=o;have:s=x:=by
   apply g9;intro c;rcases bp c e.length with m|m
   ·have aj:s[c]?=some (s[c]'(by omega)):=bo U
    have G:x[c]?=some (x[c]'(by omega)):=bo U
    obtain⟨k,ap,L,N⟩:=W c e[c] _ (by simp[m]) aj;obtain⟨p,av,M,O⟩:=X c (n[c]'(by omega)) _ ab G
    obtain rfl:k=p:=by
     apply g9;intro q;rcases bp q k.length with u|u
     ·have Y:=L q k[q] (by simp[u]);have A:=M q (p[q]'(by omega)) ab
      rw[Y] at A;simp only[bI] at A;rw[bo u,bo U,A]
     rw[fc u,fc U]
    rw[aj,G,aN.uniq (τ:=h) d N O]
   rw[fc U,fc U]
  rw[this]
inductive aV where
 |idx (i:Nat)
 |deref
 |unst
 |fst
 |snd
 deriving DecidableEq
variable{l:List aV}
def c4:(τ:ag)->τ.den->List aV->(a:ag)->a.den->Prop
 |τ,d,[],a,b=>∃i:τ=a,i▸d=b
 |.osl e,k,.idx j::c,a,b=>∃f,k[j]?=some f/\c4 e f c a b
 |.optr e,d,.deref::c,a,b=>c4 e d c a b
 |.st e,d,.unst::c,a,b=>c4 e d c a b
 |.pr g _,d,.fst::c,a,b=>c4 g d.1 c a b
 |.pr _ h,d,.snd::c,a,b=>c4 h d.2 c a b
 |_,_,_,_,_=>False
def dB:(τ:ag)->τ.den->List aV->(a:ag)->a.den->τ.den->Prop
 |τ,_,[],a,b,e=>∃m:τ=a,m▸e=b
 |.osl g,j,.idx i::c,a,b,n=>∃h f,j[i]?=some h/\dB g h c a b f/\n=j.set i f
 |.optr g,d,.deref::c,a,b,e=>dB g d c a b e
 |.st g,d,.unst::c,a,b,e=>dB g d c a b e
 |.pr k _,d,.fst::c,a,b,e=>∃f,dB k d.1 c a b f/\e=(f,d.2)
 |.pr _ l,d,.snd::c,a,b,e=>∃f,dB l d.2 c a b f/\e=(d.1,f)
 |_,_,_,_,_,_=>False
theorem c4.eR {a:d.den} {b:o.den}:c4 d a [] o b↔∃c:d=o,c▸a=b:=by cases d<;>exact Iff.rfl
theorem dB.eR {e a:d.den} {b:o.den}:dB d e [] o b a↔∃c:d=o,c▸a=b:=by cases d<;>exact Iff.rfl
abbrev Loc:=Option cI
variable{v:Loc}
def aP (k:World):(τ:ag)->Loc->cS->List aV->(a:ag)->Loc->cS->Prop
 |τ,i,b,[],a,d,c=>τ=a/\i=d/\b=c
 |.osl g,_,b,.idx m::f,a,d,c=>∃e j n p h,b=[.slice (some ⟨e,j,none⟩) n p]/\m<n/\h.length=g.size/\dK k e (j+m*g.size) h/\aP k g (some (e,j+m*g.size)) h f a d c
 |.optr g,_,b,.deref::f,a,d,c=>∃e j h,b=[.pointer (some ⟨e,j,none⟩)]/\h.length=g.size/\dK k e j h/\aP k g (some (e,j)) h f a d c
 |.st g,i,b,.unst::f,a,d,c=>aP k g i b f a d c
 |.pr l _,i,b,.fst::f,a,d,c=>aP k l i (b.take l.size) f a d c
 |.pr l e,i,b,.snd::f,a,d,c=>aP k e (i.map λo=>(o.1,o.2+l.size)) (b.drop l.size) f a d c
 |_,_,_,_,_,_,_=>False
theorem dK.eq (f:dK e c g i) (h:dK e c g D) (k:i.length=D.length):i=D:=by
 apply g9;intro a;rcases bp a i.length with b|b
 ·have j:=f a i[a] (by simp[b]);have d:=h a (D[a]'(by omega)) ab
  rw[j] at d;simp only[bI] at d;rw[bo b,bo U,d]
 rw[fc b,fc U]
theorem aP.ih {w:World}:∀{p:List aV} {e:ag} {j:Loc} {f:cS} {u v:ag} {g h:Loc} {q r:cS},aP w e j f p u g q->aP w e j f p v h r->u=v/\g=h/\q=r
 |[],e,j,f,_,_,_,_,_,_,b,c=>by simp only[aP] at b c;exact⟨b.1.symm.trans c.1,b.2.1.symm.trans c.2.1,b.2.2.symm.trans c.2.2⟩
 |s::p,e,j,f,_,_,_,_,_,_,b,c=>by
  cases e<;>cases s<;>simp only[aP] at b c
  case osl.idx t i=>
   obtain⟨m,A,E,C,y,aj,_,g,k,n⟩:=b;obtain⟨x,B,F,D,z,d,_,h,l,o⟩:=c;rw[aj] at d;simp only[fK,Value.slice.injEq,bI,Addr.mk.injEq,and_true] at d;obtain⟨⟨rfl,rfl⟩,rfl,rfl⟩:=d;obtain rfl:=k.eq l U;exact aP.ih n o
  case optr.deref t=>
   obtain⟨m,A,y,aj,g,k,n⟩:=b;obtain⟨x,B,z,d,h,l,o⟩:=c;rw[aj] at d;simp only[fK,Value.pointer.injEq,bI,Addr.mk.injEq,and_true] at d;obtain⟨rfl,rfl⟩:=d;obtain rfl:=k.eq l U;exact aP.ih n o
  case st.unst t=>exact aP.ih b c
  case pr.fst a m=>exact aP.ih b c
  case pr.snd a m=>exact aP.ih b c
def pJ (c d:World) (f:Loc) (g:Nat) (b:Nat):Prop:=
 (∀a,(∀e,f=some (b,e)->a<e\/e+g<=a)->d.cell? ⟨b,a,none⟩=c.cell? ⟨b,a,none⟩)/\
 (∀a,d.frozen? ⟨b,a,none⟩=c.frozen? ⟨b,a,none⟩)/\(∀a,(d.cell? ⟨b,a,none⟩).isSome=(c.cell? ⟨b,a,none⟩).isSome)/\hl d b=hl c b
theorem pJ.ev (a:pJ e m v g c) (f:∀b,v≠some (c,b)):bN e m c:=
 ⟨λd=>⟨a.1 d (λb h=>absurd h (f b)),a.2.1 d⟩,a.2.2.2⟩
theorem pJ.HZ (a:pJ e m v O c) (f:hE e c M g):hE m c M g:=
 λh b d=>by rw[a.2.1,a.2.2.1];exact f h b d
def nH (c:World) (e:Loc) (d:cS) (f:Nat):Prop:=∀b a,e=some (b,a)->dK c b a d/\hE c b a (a+f)
theorem dK.take {e:World} {b d h:Nat} {c:cS} (f:dK e b d c):dK e b d (c.take h):=λg i a=>by
 rw[rr] at a;split at a
 ·exact f g i a
 cases a
theorem dK.drop {f:World} {b e a:Nat} {c:cS} (g:dK f b e c):dK f b (e+a) (c.drop a):=λh i d=>by rw[ke] at d;have:=g (a+h) i d;rwa[<-nJ] at this
theorem dK.append (f:dK e g c i) (h:dK e g (c+i.length) D):dK e g c (i++D):=λb d a=>by
 rw[List.getElem?_append] at a;split at a
 ·exact f b d a
 have:=h _ d a;rwa[(U:c+i.length+(b-i.length)=c+b)] at this
theorem Z4 {a:List y} {d:y} (e:a[c]?=some d):∃b f,a=b++d::f/\b.length=c:=by obtain⟨g,rfl⟩:=eb.1 e;exact⟨a.take c,a.drop (c+1),by rw[List.getElem_cons_drop,kE],by simp;omega⟩
theorem aP.ev {E:c5->Nat->Prop} {y D:World}:∀{x:List aV} {τ:ag} {u:Loc} {j:cS} {z:τ.den} {p:cY} {A:ag} {v:Loc} {n:cS},aN E y τ j z p->(∀a∈p,bN y D a)->aP y τ u j x A v n->aP D τ u j x A v n
 |[],τ,_,_,_,_,_,_,_,_,_,b=>by cases τ<;>exact b
 |s::x,τ,u,j,z,p,A,v,n,h,e,b=>by
  cases τ<;>cases s<;>simp only[aP] at b
  case osl.idx t i=>
   obtain⟨a,w,V,G,o,rfl,C,q,g,r⟩:=b;obtain⟨m,Q,f,l⟩:=h;simp only[fK,Value.slice.injEq,and_true] at f;obtain⟨rfl,rfl,rfl⟩:=f;rcases l with⟨k,_⟩|⟨F,O,L,k,rfl,ar,W,X,P⟩
   ·cases k
   simp only[bI,Addr.mk.injEq,and_true] at k;obtain⟨rfl,rfl⟩:=k;obtain⟨J,R,H,I⟩:=P i z[i] (L[i]'(by omega)) (by simp[C]) ab
   obtain rfl:=g.eq H U;exact⟨a,w,_,G,o,rfl,C,q,g.ev (e a ab),aP.ev I (λc d=>e c (e2 _ (iv.2 ⟨_,bQ U,d⟩))) r⟩
  case optr.deref t=>
   obtain⟨a,w,o,rfl,q,g,r⟩:=b;obtain⟨F,O,S,J,B,rfl,T,M,_,N⟩:=h;simp only[fK,Value.pointer.injEq,bI,Addr.mk.injEq,and_true] at B;obtain⟨rfl,rfl⟩:=B;obtain rfl:=g.eq M U;exact⟨a,w,o,rfl,q,g.ev (e a ab),aP.ev N (λc d=>e c (by simp[d])) r⟩
  case st.unst t=>exact aP.ev (τ:=t) h e b
  case pr.fst m a=>
   obtain⟨K,f2,rfl,f,l⟩:=h;exact aP.ev (τ:=m) f (λc d=>e c (by simp[d])) b
  case pr.snd m a=>
   obtain⟨K,f2,rfl,f,l⟩:=h;exact aP.ev (τ:=a) l (λc d=>e c (by simp[d])) b
def na:List aV->Bool
 |[]=>false
 |.idx _::_=>true
 |.deref::_=>true
 |_::a=>na a
def fk:List aV->List aV->Bool
 |p,[]=>na p
 |.idx _::p,.idx _::a=>fk p a
 |.deref::p,.deref::a=>fk p a
 |.unst::p,.unst::a=>fk p a
 |.fst::p,.fst::a=>fk p a
 |.snd::p,.snd::a=>fk p a
 |.fst::_,.snd::_=>true
 |.snd::_,.fst::_=>true
 |_,_=>false
theorem aP.lP {a:Loc}:aP e d v i [] o a D↔d=o/\v=a/\i=D:=by cases d<;>exact Iff.rfl
def jk:List aV->List aV->Bool
 |.deref::a,.deref::b=>jk a b
 |.unst::a,.unst::b=>jk a b
 |.fst::a,.fst::b=>jk a b
 |.snd::a,.snd::b=>jk a b
 |.fst::_,.snd::_=>true
 |.snd::_,.fst::_=>true
 |_,_=>false
theorem sb (a:List aV):jk [] a=false:=by cases a<;>rfl
theorem Ap:∀{p q:List aV},jk p q=true->fk p q=true
 |[],q,a=>by rw[sb] at a;cases a
 |s::p,[],a=>by cases s<;>cases a
 |s::p,b::q,a=>by cases s<;>cases b<;>first|(cases a;done)|exact Ap (p:=p) (q:=q) a|rfl
theorem sc:∀{p q:List aV} {τ:ag} {h j:τ.den} {k f:ag} {l:k.den} {i:f.den},jk p q=true->dB τ h p k l j->c4 τ h q f i->c4 τ j q f i
 |[],q,_,_,_,_,_,_,_,d,_,_=>by rw[sb] at d;cases d
 |s::p,[],_,_,_,_,_,_,_,d,_,_=>by cases s<;>cases d
 |s::p,m::q,τ,h,j,k,f,l,i,d,c,e=>by
  cases τ<;>cases s<;>simp only[dB] at c<;>cases m<;>first|(cases d;done)|(simp only[c4] at e;done)|skip
  case optr.deref.deref t=>exact sc (p:=p) (q:=q) (τ:=t) d c e
  case st.unst.unst t=>exact sc (p:=p) (q:=q) (τ:=t) d c e
  case pr.fst.fst a b=>
   obtain⟨g,c,rfl⟩:=c;exact sc (p:=p) (q:=q) (τ:=a) d c e
  case pr.snd.snd a b=>
   obtain⟨g,c,rfl⟩:=c;exact sc (p:=p) (q:=q) (τ:=b) d c e
  case pr.fst.snd a b=>
   obtain⟨g,c,rfl⟩:=c;exact e
  case pr.snd.fst a b=>
   obtain⟨g,c,rfl⟩:=c;exact e
theorem aN.sub {C:c5->Nat->Prop} {B:World}:∀{p:List aV} {τ:ag} {A:Loc} {q:cS} {n:τ.den} {m:cY} {l:ag} {r:l.den} {z:Loc} {o:cS},aN C B τ q n m->c4 τ n p l r->aP B τ A q p l z o->∃e,aN C B l o r e/\∀b∈e,b∈m
 |[],τ,A,q,n,m,l,r,z,o,d,c,a=>by obtain⟨rfl,rfl⟩:=c4.eR.1 c;obtain⟨_,_,rfl⟩:=aP.lP.1 a;exact⟨m,d,λb L=>L⟩
 |s::p,τ,A,q,n,m,l,r,z,o,d,c,a=>by
  cases τ<;>cases s<;>simp only[c4] at c<;>simp only[aP] at a
  case osl.idx t i=>
   obtain⟨J,y,c⟩:=c;obtain⟨G,R,am,X,I,f,u,M,v,a⟩:=a;obtain⟨V,W,rfl,d⟩:=d;rcases d with⟨_,rfl,_⟩|⟨F,Q,D,rfl,rfl,ad,Y,O,P⟩
   ·simp at y
   have Z:i<n.length:=(eb.1 y).1;obtain⟨e,E⟩:∃e,D[i]?=some e:=⟨D[i],bo U⟩;obtain⟨H,N,w,x⟩:=P i J e y E;simp only[fK,Value.slice.injEq,bI,Addr.mk.injEq,and_true] at f;obtain⟨⟨rfl,rfl⟩,rfl,rfl⟩:=f;obtain rfl:=v.eq w U;obtain⟨g,j,k⟩:=aN.sub (p:=p) x c a;exact⟨g,j,λb h=>e2 _ (iv.2 ⟨e,kD E,k b h⟩)⟩
  case optr.deref t=>
   obtain⟨G,R,I,f,M,v,a⟩:=a;obtain⟨F,Q,e,H,rfl,rfl,N,w,O,x⟩:=d;simp only[fK,Value.pointer.injEq,bI,Addr.mk.injEq,and_true] at f;obtain⟨rfl,rfl⟩:=f;obtain rfl:=v.eq w U;obtain⟨g,j,k⟩:=aN.sub (p:=p) x c a;exact⟨g,j,λb h=>e2 _ (k b h)⟩
  case st.unst t=>exact aN.sub (p:=p) (τ:=t) d c a
  case pr.fst S T=>
   obtain⟨K,f2,rfl,f,u⟩:=d;obtain⟨g,j,k⟩:=aN.sub (p:=p) f c a;exact⟨g,j,λb h=>mO _ (k b h)⟩
  case pr.snd S T=>
   obtain⟨K,f2,rfl,f,u⟩:=d;obtain⟨g,j,k⟩:=aN.sub (p:=p) u c a;exact⟨g,j,λb h=>k2 _ (k b h)⟩
theorem wW:∀(Z:List aV) {τ:ag} {loc:Loc} {u:cS} {an:τ.den} {fp:cY} {F:ag} {jp:F.den},aN f e τ u an fp->nH e loc u τ.size->fp.Nodup->(∀d g,loc=some (d,g)->d∉fp/\∀r,¬f r d)->(∀d∈fp,∀r,¬f r d)->c4 τ an Z F jp->∃y V a0 X,aP e τ loc u Z F y V/\aN f e F V jp a0/\nH e y V F.size/\fp.Perm (a0++X)/\(∀m h,y=some (m,h)->(∃g,loc=some (m,g)/\g<=h/\h+F.size<=g+τ.size)\/m∈X)/\(∀(
   s:World) (L:c5->Nat->Prop) (D:cS) (z:F.den) (Y:cY) (d1:τ.den),
   (∀r d,f r d->L r d)->(∀d,(∃r,f r d)\/d∈X\/(∃g,loc=some (d,g))->pJ e s y F.size d)->
   aN L s F D z Y->(y=none->Z≠[]->D=V)->(∀d g,y=some (d,g)->dK s d g D)->dB τ an Z F z d1->
   ∃q Q,aN L s τ q d1 Q/\(Z=[]->q=D)/\(loc=none->(y≠none\/D=V)->q=u)/\(∀d g,loc=some (d,g)->dK s d g q)/\Q.Perm (Y++X)/\aP s τ loc q Z F y D/\∀(c:List aV) (T:ag) (S:Loc) (P:cS),fk Z c=true->aP e τ loc u c T S P->aP s τ loc q c T S P)/\
  (∀(c:List aV) (ap:ag) (z:ap.den) (am:Loc) (dl:cS) (f2:cY),jk Z c=true->ap.ik=true->c4 τ an c ap z->aP e τ loc u c ap am dl->aN f e ap dl z f2->∀b∈f2,b∈X/\∀m h,y=some (m,h)->b≠m):=by
 intro Z
 induction Z with
 |nil=>
  intro τ loc u an fp F jp em cs d9 R bs H;obtain⟨rfl,rfl⟩:=c4.eR.1 H;refine⟨loc,u,fp,[],(by cases τ<;>exact⟨rfl,rfl,rfl⟩),em,cs,ab,λm h a=>.inl ⟨h,a,U,U⟩,?_,λc _ _ _ _ _ a=>by rw[sb] at a;cases a⟩;intro s L D z Y d1 _ _ A _ M B;obtain⟨_,rfl⟩:=dB.eR.1 B;exact⟨D,Y,A,λ_=>rfl,λco a=>a.resolve_left (λc=>c co),M,ab,(by cases τ<;>exact⟨rfl,rfl,rfl⟩),λc _ _ _ n=>by cases c<;>simp[fk,na] at n⟩
 |cons tl Z hv=>
  intro τ loc u an fp F jp em cs d9 R bs H;cases τ<;>cases tl<;>simp only[c4] at H
  case osl.idx t i=>
   obtain⟨av,f0,H⟩:=H;obtain⟨to,fn,rfl,em⟩:=em;rcases em with⟨_,rfl,_⟩|⟨d,g,f9,rfl,rfl,ne,rd,hi,lo⟩
   ·simp at f0
   have i1:i<an.length:=(eb.1 f0).1;obtain⟨gl,mp⟩:∃gl,f9[i]?=some gl:=⟨f9[i],bo U⟩;obtain⟨ge,k0,fT,la⟩:=lo i av gl f0 mp;obtain⟨d0,i8,f1,ti⟩:=Z4 mp;have rg:∀w,w<an.length->g+w*t.size+t.size<=g+fn*t.size:=λw n=>(by have:(w+1)*t.size<=fn*t.size:=gv _ U;rw[eL,gw] at this;omega);have f8:nH e (some (d,g+i*t.size)) ge t.size:=(by rintro O o a;simp only[bI,fd] at a;obtain⟨rfl,rfl⟩:=a;exact⟨fT,λx l M=>hi x U (by have:=rg i i1;omega)⟩);have lk:=d9;rw[f1] at lk;simp only[oF,iu,je,hF,dO,not_or] at lk;obtain⟨⟨pl,ft,pm⟩,le,⟨f4,gc,rs⟩,rt⟩:=lk;obtain⟨y,V,a0,X,d3,d4,d5,G,W,d6,fs⟩:=hv (loc:=some (d,g+i*t.size)) la f8 f4 (by rintro O o a;simp only[bI,fd] at a;obtain⟨rfl,rfl⟩:=a;exact⟨ft,bs d ab⟩) (λb k=>bs b (by rw[f1];simp[k])) H;refine⟨y,V,a0,d::(d0.flatten++(X++i8.flatten)),⟨d,g,_,fn,ge,rfl,i1,k0,fT,d3⟩,d4,d5,?_,?_,?_,λc _ _ _ _ _ a=>by cases c with|nil=>cases a|cons I c=>cases I<;>cases a⟩
   ·rw[f1];simp only[oF,iu];rw[rv] at G|-;intro b;have:=G b;simp only[rq,List.count_cons] at this|-;omega
   ·intro m h a;right;rcases W m h a with⟨o,l,_⟩|l
    ·simp only[bI,fd] at l;rw[l.1];simp
    simp[l]
   intro s L D z Y d1 a4 v A el d7 B;simp only[dB] at B;obtain⟨op,gf,mo,B,rfl⟩:=B;obtain rfl:op=av:=(by rw[f0] at mo;exact(ec mo).symm);obtain⟨q,Q,C,_,_,N,ad,ex,ci⟩:=d6 s L D z Y gf a4 (by
     rintro b (a|a|⟨o,a⟩)
     ·exact v b (.inl a)
     ·exact v b (.inr (.inl (by simp[a])))
     simp only[bI,fd] at a;exact v b (.inr (.inl (by rw[<-a.1];simp)))) A
    (by
     intro co t4;exact el co ab) d7 B
   have bl:∀m h,y=some (m,h)->(m=d/\g+i*t.size<=h/\h+F.size<=g+i*t.size+t.size)\/m∈gl:=by
    intro m h a;rcases W m h a with⟨o,l,M,go⟩|l
    ·simp only[bI,fd] at l;obtain⟨rfl,rfl⟩:=l;exact .inl ⟨rfl,M,go⟩
    exact .inr (G.mem_iff.2 (by simp[l]))
   have fz:=v d (.inr (.inl ab));have gt:∀r b,f r b->L r b/\bN e s b:=λr b k=>⟨a4 r b k,(v b (.inl ⟨r,k⟩)).ev (λo a=>by
    rcases bl b o a with⟨rfl,_⟩|l
    ·exact bs b ab r k
    exact bs b (by rw[f1];simp[l]) r k)⟩
   have nn:∀(w:Nat) (is:t.den) (a3:cY),w≠i->an[w]?=some is->f9[w]?=some a3->∀d2:cS,d2.length=t.size->dK e d (g+w*t.size) d2->dK s d (g+w*t.size) d2/\∀b∈a3,bN e s b:=by
    intro w is a3 hr n ds d2 i3 ib;have t2:w<an.length:=(eb.1 n).1;have lb:∀b∈a3,b∈d0.flatten\/b∈i8.flatten:=by
     intro b k;rw[f1] at ds;rcases bp w d0.length with a|a
     ·rw[lx a] at ds;exact .inl (iv.2 ⟨a3,kD ds,k⟩)
     rw[l1 a] at ds;obtain⟨c,E⟩:∃c,w-d0.length=c+1:=⟨w-d0.length-1,U⟩;rw[E] at ds;simp only[oG] at ds;exact .inr (iv.2 ⟨a3,kD ds,k⟩)
    refine⟨?_,?_⟩
    ·intro x io f3;have i2:x<d2.length:=(eb.1 f3).1;rw[fz.1]
     ·exact ib x io f3
     intro h a;rcases bl d h a with⟨_,l,M⟩|l
     ·rcases Nat.lt_or_gt_of_ne hr with t3|t1
      ·left;have:(w+1)*t.size<=i*t.size:=gv _ U;rw[eL,gw] at this;omega
      right;have:(i+1)*t.size<=w*t.size:=gv _ U;rw[eL,gw] at this;omega
     exact absurd l ft
    intro b k;refine(v b (.inr (.inl ?_))).ev ?_
    ·rcases lb b k with a|a<;>simp[a]
    intro h a;rcases bl b h a with⟨rfl,_⟩|l
    ·rcases lb b k with a|a
     ·exact pl a
     exact pm a
    rcases lb b k with a|a
    ·exact rt b a b (.inl l) rfl
    exact rs b l b a rfl
   refine⟨[.slice (some ⟨d,g,none⟩) an.length fn],d::(d0++Q::i8).flatten,⟨some ⟨d,g,none⟩,fn,ab,.inr ⟨d,g,d0++Q::i8,rfl,rfl,?_,by simpa using rd,fz.HZ hi,?_⟩⟩,ab,λ_ _=>rfl,?_,?_,⟨d,g,_,fn,q,rfl,i1,by rw[C.len],N d _ rfl,ex⟩,?_⟩
   ·rw[f1] at ne;simpa using ne
   ·intro w is a3 n H;by_cases hr:w=i
    ·subst hr;rw[kB i1] at n;obtain rfl:=ec n;rw[l1 U,ti,Nat.sub_self] at H;simp only[iL,bI] at H;subst H;exact⟨q,by rw[C.len],N d _ rfl,C⟩
    rw[lz (λa=>hr a.symm)] at n;have ds:f9[w]?=some a3:=by
     rw[f1];rcases bp w d0.length with a|a
     ·rw[lx a] at H|-;exact H
     rw[l1 a] at H|-;obtain⟨c,E⟩:∃c,w-d0.length=c+1:=⟨w-d0.length-1,U⟩;rw[E] at H|-;simpa using H
    obtain⟨d2,i3,ib,lt⟩:=lo w is a3 n ds;obtain⟨l2,mc⟩:=nn w is a3 hr n ds d2 i3 ib;exact⟨d2,i3,l2,lt.mono gt mc⟩
   ·intro O o a;have hc:=(R O o a).1;refine((cs O o a).1).ev ((v O (.inr (.inr ⟨o,a⟩))).ev ?_);intro h f6;rcases bl O h f6 with⟨rfl,_⟩|l
    ·exact hc ab
    exact hc (by rw[f1];simp[l])
   ·rw[rv] at ad|-;intro b;have:=ad b;simp only[oF,iu,rq,List.count_cons] at this|-;omega
   intro c T S P n E;cases c with
   |nil=>exact E
   |cons I c=>
    cases I<;>simp only[fk] at n<;>first|(cases n;done)|skip
    rename_i x;obtain⟨O,o,t6,tt,kd,l,M,go,gs,i0⟩:=E;simp only[fK,Value.slice.injEq,bI,Addr.mk.injEq,and_true] at l;obtain⟨⟨rfl,rfl⟩,rfl,rfl⟩:=l;by_cases nd:x=i
    ·subst nd;obtain rfl:=gs.eq fT U;exact⟨d,g,_,fn,q,rfl,M,C.len,N d _ rfl,ci c T S P n i0⟩
    have of:an[x]?=some an[x]:=bo M;have mt:f9[x]?=some (f9[x]'(by omega)):=bo _
    obtain⟨d2,i3,ib,lt⟩:=lo x _ _ of mt;obtain rfl:=gs.eq ib U;obtain⟨l2,mc⟩:=nn x _ _ nd of mt kd go gs;exact⟨d,g,_,fn,kd,rfl,M,go,l2,aP.ev lt mc i0⟩
  case optr.deref t=>
   obtain⟨d,g,gl,ge,rfl,rfl,k0,fT,hi,la⟩:=em;simp only[je] at d9;obtain⟨ps,tf⟩:=d9;have f8:nH e (some (d,g)) ge t.size:=(by rintro O o a;simp only[bI,fd] at a;obtain⟨rfl,rfl⟩:=a;exact⟨fT,hi⟩);obtain⟨y,V,a0,X,d3,d4,d5,G,W,d6,fs⟩:=hv (loc:=some (d,g)) la f8 tf (by rintro O o a;simp only[bI,fd] at a;obtain⟨rfl,rfl⟩:=a;exact⟨ps,bs d ab⟩) (λb k=>bs b (by simp[k])) H;refine⟨y,V,a0,d::X,⟨d,g,ge,rfl,k0,fT,d3⟩,d4,d5,?_,?_,?_,?_⟩
   rotate_left 3
   ·intro c ap z am dl f2 a f4 d8 ce A b k;cases c with
    |nil=>cases a
    |cons I c=>
     cases I<;>first|(cases a;done)|skip
     simp only[aP] at ce;obtain⟨O,o,ty,aj,t0,or,ce⟩:=ce;simp only[fK,Value.pointer.injEq,bI,Addr.mk.injEq,and_true] at aj;obtain⟨rfl,rfl⟩:=aj;obtain rfl:=or.eq fT U;obtain⟨ar,K⟩:=fs c ap z am dl f2 a f4 d8 ce A b k;exact⟨by simp[ar],K⟩
   ·rw[rv] at G|-;intro b;have:=G b;simp only[rq,List.count_cons] at this|-;omega
   ·intro m h a;right;rcases W m h a with⟨o,l,_⟩|l
    ·simp only[bI,fd] at l;rw[l.1];simp
    simp[l]
   intro s L D z Y d1 a4 v A el d7 B;simp only[dB] at B;obtain⟨q,Q,C,_,_,N,ad,ex,ci⟩:=d6 s L D z Y d1 a4 (by
     rintro b (a|a|⟨o,a⟩)
     ·exact v b (.inl a)
     ·exact v b (.inr (.inl (by simp[a])))
     simp only[bI,fd] at a;exact v b (.inr (.inl (by rw[<-a.1];simp)))) A
    (λco _=>el co ab) d7 B
   have fz:=v d (.inr (.inl ab));refine⟨[.pointer (some ⟨d,g,none⟩)],d::Q,⟨d,g,Q,q,rfl,rfl,C.len,N d g rfl,fz.HZ hi,C⟩,ab,λ_ _=>rfl,?_,?_,⟨d,g,q,rfl,C.len,N d g rfl,ex⟩,?_⟩
   ·intro O o a;have hc:=(R O o a).1;refine((cs O o a).1).ev ((v O (.inr (.inr ⟨o,a⟩))).ev ?_);intro h f6;rcases W O h f6 with⟨ol,l,_⟩|l
    ·simp only[bI,fd] at l;exact hc (by rw[l.1];simp)
    exact hc (e2 _ (G.mem_iff.2 (by simp[l])))
   ·rw[rv] at ad|-;intro b;have:=ad b;simp only[rq,List.count_cons] at this|-;omega
   intro c T S P n E;cases c with
   |nil=>exact E
   |cons I c=>
    cases I<;>simp only[fk] at n<;>first|(cases n;done)|skip
    obtain⟨O,o,kd,l,go,gs,i0⟩:=E;simp only[fK,Value.pointer.injEq,bI,Addr.mk.injEq,and_true] at l;obtain⟨rfl,rfl⟩:=l;obtain rfl:=gs.eq fT U;exact⟨d,g,q,rfl,C.len,N d g rfl,ci c T S P n i0⟩
  case st.unst t=>
   obtain⟨y,V,a0,X,d3,d4,d5,G,W,d6,fs⟩:=hv (loc:=loc) (τ:=t) em cs d9 R bs H;refine⟨y,V,a0,X,d3,d4,d5,G,W,?_,?_⟩
   rotate_left 1
   ·intro c ap z am dl f2 a f4 d8 ce A b k;cases c with
    |nil=>cases a
    |cons I c=>
     cases I<;>first|(cases a;done)|skip
     exact fs c ap z am dl f2 a f4 d8 ce A b k
   intro s L D z Y d1 a4 v A el d7 B;obtain⟨q,Q,C,t5,hw,N,ad,ex,ci⟩:=d6 s L D z Y d1 a4 v A (λco _=>el co ab) d7 B;refine⟨q,Q,C,ab,hw,N,ad,ex,?_⟩;intro c T S P n E;cases c with
   |nil=>
    obtain⟨rfl,rfl,rfl⟩:=aP.lP.1 E;obtain⟨_,_,av⟩:=aP.lP.1 (ci [] t loc u (by simpa[fk,na] using n) (aP.lP.2 ⟨rfl,rfl,rfl⟩));exact aP.lP.2 ⟨rfl,rfl,av⟩
   |cons I c=>
    cases I<;>simp only[fk] at n<;>first|(cases n;done)|skip
    exact ci c T S P n E
  case pr.fst j cv=>
   obtain⟨f5,f2,rfl,l,M⟩:=em;have lp:=l.len;have am:=M.len;simp only[dX,kC] at lp am;have f8:nH e loc (u.take j.size) j.size:=λd g a=>⟨(cs d g a).1.take,λx ar K=>(cs d g a).2 x ar (by show x<g+(j.size+cv.size);omega)⟩;simp only[hF] at d9;obtain⟨le,f4,gc⟩:=d9;obtain⟨y,V,a0,X,d3,d4,d5,G,W,d6,fs⟩:=hv (loc:=loc) l f8 le (λd g a=>⟨λc=>(R d g a).1 (by simp[c]),(R d g a).2⟩) (λb k=>bs b (by simp[k])) H;refine⟨y,V,a0,X++f2,d3,d4,d5,?_,?_,?_,?_⟩
   rotate_left 3
   ·intro c ap z am dl kg a hs d8 ce A b k;cases c with
    |nil=>cases a
    |cons I c=>
     cases I<;>first|(cases a;done)|skip
     ·obtain⟨ar,K⟩:=fs c ap z am dl kg a hs d8 ce A b k;exact⟨by simp[ar],K⟩
     obtain⟨a3,C,N⟩:=aN.sub (p:=c) M d8 ce;have f7:b∈f2:=N b (by rw[<-aN.uniq hs A C];exact k);refine⟨by simp[f7],λm h f0 av=>?_⟩;subst av;rcases W b h f0 with⟨o,aj,_⟩|aj
     ·exact(R b o aj).1 (by simp[f7])
     exact gc b (G.mem_iff.2 (by simp[aj])) b f7 rfl
   ·rw[rv] at G|-;intro b;have:=G b;simp only[rq] at this|-;omega
   ·intro m h a;rcases W m h a with⟨o,ar,K,ic⟩|ar
    ·exact .inl ⟨o,ar,K,by show h+F.size<=o+(j.size+cv.size);omega⟩
    exact .inr (by simp[ar])
   intro s L D z Y d1 a4 v A el d7 B;simp only[dB] at B;obtain⟨gf,B,rfl⟩:=B;obtain⟨q,Q,C,_,hw,N,ad,ex,ci⟩:=d6 s L D z Y gf a4 (by
     rintro b (a|a|a)
     ·exact v b (.inl a)
     ·exact v b (.inr (.inl (by simp[a])))
     exact v b (.inr (.inr a))) A (λco _=>el co ab) d7 B
   have bl:∀m h,y=some (m,h)->(∃g,loc=some (m,g)/\g<=h/\h+F.size<=g+j.size)\/m∈f5:=λm h a=>(W m h a).imp id (λc=>G.mem_iff.2 (by simp[c]));have gt:∀r b,f r b->L r b/\bN e s b:=λr b k=>⟨a4 r b k,(v b (.inl ⟨r,k⟩)).ev (λo a=>by
    rcases bl b o a with⟨g,c,_⟩|c
    ·exact(R b g c).2 r k
    exact bs b (by simp[c]) r k)⟩
   have n5:∀b∈f2,bN e s b:=λb k=>(v b (.inr (.inl (by simp[k])))).ev (λh a=>by
    rcases bl b h a with⟨g,c,_⟩|c
    ·exact(R b g c).1 (by simp[k])
    exact gc b c b k rfl)
   have ok:=C.len;refine⟨q++u.drop j.size,Q++f2,⟨Q,f2,rfl,?_,?_⟩,ab,?_,?_,?_,(by
    show aP s j loc ((q++u.drop j.size).take j.size) Z F y D;rw[rx U,c9 U];exact ex),?_⟩
   ·rw[rx U,c9 U];exact C
   ·rw[oD U,oE U,fr];exact M.mono gt n5
   ·intro ar K;rw[hw ar K,kE]
   ·intro d g a;refine(N d g a).append ?_;rw[ok];intro x io f3;have fz:=v d (.inr (.inr ⟨g,a⟩));have i2:x<(u.drop j.size).length:=(eb.1 f3).1;simp only[kC] at i2;rw[fz.1]
    ·exact((cs d g a).1.drop) x io f3
    intro h f6;rcases bl d h f6 with⟨ol,ar,K,ic⟩|c
    ·rw[a] at ar;simp only[bI,fd,true_and] at ar;right;omega
    exact absurd (by simp[c]) (R d g a).1
   ·rw[rv] at ad|-;intro b;have:=ad b;simp only[rq] at this|-;omega
   intro c T S P n E;have aj:(q++u.drop j.size).take j.size=q:=(by rw[rx U,c9 U]);have gi:(q++u.drop j.size).drop j.size=u.drop j.size:=(by rw[oD U,oE U,fr]);cases c with
   |nil=>
    obtain⟨rfl,rfl,rfl⟩:=aP.lP.1 E;obtain⟨_,_,av⟩:=aP.lP.1 (ci [] j loc (u.take j.size) (by simpa[fk,na] using n) (aP.lP.2 ⟨rfl,rfl,rfl⟩));exact aP.lP.2 ⟨rfl,rfl,by rw[av,kE]⟩
   |cons I c=>
    cases I<;>simp only[fk] at n<;>first|(cases n;done)|skip
    ·show aP s j loc ((q++u.drop j.size).take j.size) c T S P;rw[aj];exact ci c T S P n E
    show aP s cv (loc.map λc=>(c.1,c.2+j.size)) ((q++u.drop j.size).drop j.size) c T S P;rw[gi];exact aP.ev M n5 E
  case pr.snd j cv=>
   obtain⟨f5,f2,rfl,l,M⟩:=em;have lp:=l.len;have am:=M.len;simp only[dX,kC] at lp am;have f8:nH e (loc.map λc=>(c.1,c.2+j.size)) (u.drop j.size) cv.size:=by
    intro d g a;cases loc with
    |none=>simp at a
    |some c=>
     obtain⟨on,J⟩:=c;simp only[fB,bI,fd] at a;obtain⟨rfl,rfl⟩:=a;exact⟨(cs _ _ rfl).1.drop,λx ar K=>(cs _ _ rfl).2 x U (by show x<J+(j.size+cv.size);omega)⟩
   simp only[hF] at d9;obtain⟨le,f4,gc⟩:=d9;have ft:∀d g,(loc.map λc=>(c.1,c.2+j.size))=some (d,g)->∃J,loc=some (d,J)/\g=J+j.size:=by
    intro d g a;cases loc with
    |none=>simp at a
    |some c=>
     obtain⟨on,J⟩:=c;simp only[fB,bI,fd] at a;exact⟨J,by rw[a.1],a.2.symm⟩
   obtain⟨y,V,a0,X,d3,d4,d5,G,W,d6,fs⟩:=hv (loc:=loc.map λc=>(c.1,c.2+j.size)) M f8 f4 (λd g a=>by obtain⟨J,a,_⟩:=ft d g a;exact⟨λc=>(R d J a).1 (by simp[c]),(R d J a).2⟩) (λb k=>bs b (by simp[k])) H;refine⟨y,V,a0,X++f5,d3,d4,d5,?_,?_,?_,?_⟩
   rotate_left 3
   ·intro c ap z am dl kg a hs d8 ce A b k;cases c with
    |nil=>cases a
    |cons I c=>
     cases I<;>first|(cases a;done)|skip
     ·obtain⟨a3,C,N⟩:=aN.sub (p:=c) l d8 ce;have f7:b∈f5:=N b (by rw[<-aN.uniq hs A C];exact k);refine⟨by simp[f7],λm h f0 av=>?_⟩;subst av;rcases W b h f0 with⟨o,aj,_⟩|aj
      ·obtain⟨J,gi,_⟩:=ft _ _ aj;exact(R b J gi).1 (by simp[f7])
      exact gc b f7 b (G.mem_iff.2 (by simp[aj])) rfl
     obtain⟨ar,K⟩:=fs c ap z am dl kg a hs d8 ce A b k;exact⟨by simp[ar],K⟩
   ·rw[rv] at G|-;intro b;have:=G b;simp only[rq] at this|-;omega
   ·intro m h a;rcases W m h a with⟨o,ar,K,ic⟩|ar
    ·obtain⟨J,ii,rfl⟩:=ft _ _ ar;exact .inl ⟨J,ii,U,by show h+F.size<=J+(j.size+cv.size);omega⟩
    exact .inr (by simp[ar])
   intro s L D z Y d1 a4 v A el d7 B;simp only[dB] at B;obtain⟨gf,B,rfl⟩:=B;obtain⟨q,Q,C,_,hw,N,ad,ex,ci⟩:=d6 s L D z Y gf a4 (by
     rintro b (a|a|⟨g,a⟩)
     ·exact v b (.inl a)
     ·exact v b (.inr (.inl (by simp[a])))
     obtain⟨J,ii,rfl⟩:=ft _ _ a;exact v b (.inr (.inr ⟨J,ii⟩))) A (λco _=>el co ab) d7 B
   have bl:∀m h,y=some (m,h)->(∃g,loc=some (m,g)/\g+j.size<=h/\h+F.size<=g+j.size+cv.size)\/m∈f2:=λm h a=>by
    rcases W m h a with⟨o,ar,K,ic⟩|c
    ·obtain⟨J,ii,rfl⟩:=ft _ _ ar;exact .inl ⟨J,ii,K,ic⟩
    exact .inr (G.mem_iff.2 (by simp[c]))
   have gt:∀r b,f r b->L r b/\bN e s b:=λr b k=>⟨a4 r b k,(v b (.inl ⟨r,k⟩)).ev (λo a=>by
    rcases bl b o a with⟨g,c,_⟩|c
    ·exact(R b g c).2 r k
    exact bs b (by simp[c]) r k)⟩
   have no:∀b∈f5,bN e s b:=λb k=>(v b (.inr (.inl (by simp[k])))).ev (λh a=>by
    rcases bl b h a with⟨g,c,_⟩|c
    ·exact(R b g c).1 (by simp[k])
    exact gc b k b c rfl)
   have ok:=C.len;refine⟨u.take j.size++q,f5++Q,⟨f5,Q,rfl,?_,?_⟩,ab,?_,?_,?_,(by
    show aP s cv (loc.map λc=>(c.1,c.2+j.size)) ((u.take j.size++q).drop j.size) Z F y D;rw[oD (by simp;omega),oE (by simp;omega),fr];exact ex),?_⟩
   ·rw[rx (by simp;omega),List.take_take,Nat.min_self];exact l.mono gt no
   ·rw[oD (by simp;omega),oE (by simp;omega),fr];exact C
   ·intro ar K;rw[hw (by rw[ar];rfl) K,kE]
   ·intro d g a;have fz:=v d (.inr (.inr ⟨g,a⟩));have os:dK s d g (u.take j.size):=by
     intro x io f3;have i2:x<(u.take j.size).length:=(eb.1 f3).1;simp only[dX] at i2;rw[fz.1]
     ·exact((cs d g a).1.take) x io f3
     intro h f6;rcases bl d h f6 with⟨ol,ar,K,ic⟩|c
     ·rw[a] at ar;simp only[bI,fd,true_and] at ar;left;omega
     exact absurd (by simp[c]) (R d g a).1
    refine os.append ?_;have:=N d (g+j.size) (by rw[a];rfl);rwa[dX,fR U]
   ·rw[rv] at ad|-;intro b;have:=ad b;simp only[rq] at this|-;omega
   intro c T S P n E;have aj:(u.take j.size++q).take j.size=u.take j.size:=(by rw[rx (by simp;omega),List.take_take,Nat.min_self]);have gi:(u.take j.size++q).drop j.size=q:=(by rw[oD (by simp;omega),oE (by simp;omega),fr]);cases c with
   |nil=>
    obtain⟨rfl,rfl,rfl⟩:=aP.lP.1 E;obtain⟨_,_,av⟩:=aP.lP.1 (ci [] cv (loc.map λc=>(c.1,c.2+j.size)) (u.drop j.size) (by simpa[fk,na] using n) (aP.lP.2 ⟨rfl,rfl,rfl⟩));exact aP.lP.2 ⟨rfl,rfl,by rw[av,kE]⟩
   |cons I c=>
    cases I<;>simp only[fk] at n<;>first|(cases n;done)|skip
    ·show aP s j loc ((u.take j.size++q).take j.size) c T S P;rw[aj];exact aP.ev l no E
    show aP s cv (loc.map λc=>(c.1,c.2+j.size)) ((u.take j.size++q).drop j.size) c T S P;rw[gi];exact ci c T S P n E
theorem AF (h:List aV) {loc:Loc} {u:d.den} {τ':ag} {y:τ'.den} (J:aN f e d i u n) (K:nH e loc i d.size) (L:n.Nodup) (M:∀a b,loc=some (a,b)->a∉n/\∀g,¬f g a) (N:∀a∈n,∀g,¬f g a) (O:c4 d u h τ' y):∃c j p o,aP e d loc i h τ' c j/\aN f e τ' j y p/\nH e c j τ'.size/\n.Perm (p++o)/\(∀r s,c=some (r,s)->(∃b,loc=some (r,b)/\b<=s/\s+τ'.size<=b+d.size)\/r∈o)/\(∀(
   k:World) (q:c5->Nat->Prop) (l:cS) (B:τ'.den) (w:cY) (A:d.den),
   (∀g a,f g a->q g a)->(∀a,(∃g,f g a)\/a∈o\/(∃b,loc=some (a,b))->pJ e k c τ'.size a)->
   aN q k τ' l B w->(c=none->h≠[]->l=j)->(∀a b,c=some (a,b)->dK k a b l)->dB d u h τ' B A->
   ∃m x,aN q k d m A x/\(h=[]->m=l)/\(loc=none->(c≠none\/l=j)->m=i)/\(∀a b,loc=some (a,b)->dK k a b m)/\x.Perm (w++o)/\aP k d loc m h τ' c l/\∀(t:List aV) (C:ag) (z:Loc) (v:cS),fk h t=true->aP e d loc i t C z v->aP k d loc m t C z v):=by
 obtain⟨c,j,p,o,D,E,F,G,H,I,_⟩:=wW h J K L M N O;exact⟨c,j,p,o,D,E,F,G,H,I⟩
def ba (a c:Nat->Prop):c5->Nat->Prop
 |.bA=>a
 |.dN=>λb=>a b\/c b
theorem lN (a:ba C k P c):C c\/k c:=by cases P;exact .inl a;exact a
inductive al where
 |dead
 |val (τ:ag) (x:τ.den)
 |ref (id:Nat) (p:List aV)
 |addr (id:Nat) (p:List aV)
 |view (id:Nat) (p:List aV) (lo hi:Nat)
 |app (id:Nat) (p:List aV) (τ:ag) (x7:List τ.den) (own:cY)
 |bP (v:Value)
 |dw (l:List al)
 |agg (l:List al)
 |dg (f:Nat) (l:List al)
 |iV (id:Nat) (p:List aV) (k:Int)
variable{L:List (Nat×al)}{R:al}
abbrev aC:=(a:ag)×a.den
variable{x:List (Nat×aC)}{F:aC}
structure aJ where
 g:List (Nat×al)
 h:List (Nat×aC)
variable{z:aJ}
def ao {a:Type}:List (Nat×a)->Nat->Option a
 |[],_=>none
 |(k,v)::r,n=>bif Nat.beq k n then some v else ao r n
theorem bU (b:Nat) (e:y) (d:List (Nat×y)) (a:Nat):ao ((b,e)::d) a=if b=a then some e else ao d a:=by
 show(bif Nat.beq b a then some e else ao d a)=_;by_cases c:b=a
 ·rw[if_pos c,c];simp
 rw[if_neg c];have:Nat.beq b a=false:=by
  cases f:Nat.beq b a
  ·rfl
  exact absurd (er f) c
 rw[this];rfl
def gt (a:List (Nat×al)) (b:Nat):al:=match ao a b with|some c=>c|none=>.dead
structure dn where
 I0:Nat->Prop
 B:Nat->Prop
 F0:Nat->Prop
 w0:World
 n:Nat
 pin:cY
 vs:Nat->Value
variable{H:dn}
def dn.ok (a:dn) (d:Nat):Prop:=d<a.n/\d∉a.pin
inductive bE (M:c5->Nat->Prop) (w:World) (h:List (Nat×aC)) (rt:Nat->cS) (fp:Nat->cY):al->Value->Prop
 |dead (v:Value):bE M w h rt fp .dead v
 |bP (v:Value):bE M w h rt fp (.bP v) v
 |val {τ:ag} {x:τ.den} {cs:cS} (r:aN M w τ cs x []):bE M w h rt fp (.val τ x) (bH τ cs)
 |ref {id:Nat} {p:List aV} {t:aC} {τ':ag} {loc:Loc} {cs:cS} (sr:ao h id=some t) (AR:aP w t.1 none (rt id) p τ' loc cs):bE M w h rt fp (.ref id p) (bH τ' cs)
 |addr {id:Nat} {p:List aV} {t:aC} {τ':ag} {b o:Nat} {cs:cS} (sr:ao h id=some t) (AR:aP w t.1 none (rt id) p τ' (some (b,o)) cs):bE M w h rt fp (.addr id p) (.pointer (some ⟨b,o,none⟩))
 |view {id:Nat} {p:List aV} {lo hi:Nat} {t:aC} {τ':ag} {loc:Loc} {b o len cap:Nat} (sr:ao h id=some t) (AR:aP w t.1 none (rt id) p (.osl τ') loc [.slice (some ⟨b,o,none⟩) len cap]) (T9:lo<=hi) (Ua:hi<=len) (abf:len<=cap):bE M w h rt fp (.view id p lo hi) (.slice (some ⟨b,if cap=lo then o else o+lo*τ'.size,none⟩) (hi-lo) (cap-lo))
 |kv (id:Nat) (p:List aV):bE M w h rt fp (.view id p 0 0) (.slice none 0 0)
 |app {id:Nat} {p:List aV} {τ:ag} {x7:List τ.den} {own:cY} {t:aC} {loc:Loc} {vI:cS} {xs:List τ.den} {f1 f2:cY} {v:Value} (sr:ao h id=some t) (abk:τ.ik=true) (AR:aP w t.1 none (rt id) p (.osl τ) loc vI) (abi:c4 t.1 t.2 p (.osl τ) xs) (T9:aN M w (.osl τ) vI xs f1) (abh:∀b∈f1,b∈fp id) (Ua:aN M w (.osl τ) [v] (xs++x7) f2) (abm:∀i∈own,i≠id/\∃u,ao h i=some u) (abn:∀b∈f2,b∈f1\/∃i∈own,b∈fp i) (abl:f2.Nodup):bE M w h rt fp (.app id p τ x7 own) v
 |dw {l:List al} {vs:cQ} (Il:l.length=vs.size) (AQ:∀(i:Nat) (a:al) (v:Value),l[i]?=some a->vs[i]?=some v->bE M w h rt fp a v):bE M w h rt fp (.dw l) (.tuple vs)
 |agg {l:List al} {vs:cS} (Il:l.length=vs.length) (AQ:∀(i:Nat) (a:al) (v:Value),l[i]?=some a->vs[i]?=some v->bE M w h rt fp a v):bE M w h rt fp (.agg l) (.agg (vs.map λv=>v.cells.toList).flatten.toArray)
 |iV {id:Nat} {p:List aV} {k:Int} {t:aC} {τ':ag} {loc:Loc} {b c i:Nat} {di:Array MapEntry} {e:MapEntry} (sr:ao h id=some t) (AR:aP w t.1 none (rt id) p (.mp τ') loc [.map (some b)]) (abg:b∈fp id) (Im:hl w b=some (di,c)) (hi:di[i]?=some e) (abj:e.key=.int .i64 k):bE M w h rt fp (.iV id p k) (.int .i64 (e.born:Int))
 |dg {f:Nat} {l:List al} {vs:cQ} (Il:l.length=vs.size) (AQ:∀(i:Nat) (a:al) (v:Value),l[i]?=some a->vs[i]?=some v->bE M w h rt fp a v):bE M w h rt fp (.dg f l) (.func (.func f) #[] vs)
structure bt (C:dn) (st:aJ) (Ft:cQ) (w:World) (I:Nat->Prop) (rt:Nat->cS) (fp:Nat->cY):Prop where
 n:Ft.size=C.n
 i0:∀b,C.I0 b->I b
 i1:∀b,I b->C.I0 b\/C.w0.heap.size<=b\/C.F0 b
 ib:∀b,I b\/C.B b->b<w.heap.size
 tree:∀id t,ao st.h id=some t->aN (ba I C.B) w t.1 (rt id) t.2 (fp id)/\(fp id).Nodup/\∀b∈fp id,¬I b/\¬C.B b/\b<w.heap.size/\(C.w0.heap.size<=b\/C.F0 b)
 dis:∀i j t u,ao st.h i=some t->ao st.h j=some u->i≠j->∀b∈fp i,b∉fp j
 tmp:∀k,bE (ba I C.B) w st.h rt fp (gt st.g k) (Ft.getD k undef)
 frame:∀b,b<C.w0.heap.size->¬C.F0 b->w.heap[b]?=C.w0.heap[b]?
 evo:∀b,b<C.w0.heap.size->i7 C.w0 w b
 size:C.w0.heap.size<=w.heap.size
 os:w.os=C.w0.os
 tape:w.tape=C.w0.tape
 output:w.output=C.w0.output
 pin:∀k∈C.pin,Ft.getD k undef=C.vs k
def e3 (a:dn) (e:aJ) (f:cQ) (g:World):Prop:=∃b d c,bt a e f g b d c
structure gq (w w':World):Prop where
 os:w'.os=w.os
 tape:w'.tape=w.tape
 output:w'.output=w.output
 size:w.heap.size<=w'.heap.size
 heap:∀b,b<w.heap.size->w'.heap[b]?=w.heap[b]?
theorem gq.refl (a:World):gq a a:=⟨rfl,rfl,rfl,a8 _,λ_ _=>rfl⟩
theorem gq.trans {c d e:World} (a:gq c d) (b:gq d e):gq c e:=
 ⟨b.os.trans a.os,b.tape.trans a.tape,b.output.trans a.output,da a.size b.size,λg f=>(b.heap g (gO f a.size)).trans (a.heap g f)⟩
theorem gq.drew {b c:World} (a:gq b c):gq b c.drew:=⟨a.os,a.tape,a.output,a.size,a.heap⟩
theorem gq.alloc (a:World) (b:Obj):gq a (a.alloc b):=⟨rfl,rfl,rfl,ab,λc d=>by
 show(a.heap.push b)[c]?=_;rw[vh,if_neg U]⟩
theorem bE.mono {w E:c5->Nat->Prop} {t v:World} {x G:List (Nat×aC)} {D K:Nat->cS} {u F:Nat->cY} (y:∀I b,w I b->E I b/\bN t v b) (f:∀id o,ao x id=some o->aN w t o.1 (D id) o.2 (u id)/\∀b∈u id,bN t v b) {l:al} {e:Value} (M:bE w t x D u l e) (n:∀id o,ao x id=some o->ao G id=some o/\K id=D id/\F id=u id):bE E v G K F l e:=by
 induction M with
 |dead e=>exact .dead e
 |bP e=>exact .bP e
 |val V=>exact .val (V.mono y ab)
 |ref a i=>
  obtain⟨j,k,_⟩:=n _ _ a;exact .ref j (by rw[k];exact i.ev (f _ _ a).1 (f _ _ a).2)
 |addr a i=>
  obtain⟨j,k,_⟩:=n _ _ a;exact .addr j (by rw[k];exact i.ev (f _ _ a).1 (f _ _ a).2)
 |kv id J=>exact .kv id J
 |view a i g h L=>
  obtain⟨j,k,_⟩:=n _ _ a;exact .view j (by rw[k];exact i.ev (f _ _ a).1 (f _ _ a).2) g h L
 |@app id J τ am Z o Y W ad X f2 e a R i O g z h A H S=>
  obtain⟨j,k,C⟩:=n _ _ a;obtain⟨T,B⟩:=f _ _ a;have N:∀b∈f2,bN t v b:=λb c=>by
   rcases H b c with c|⟨d,m,c⟩
   ·exact B b (z b c)
   obtain⟨_,p,r⟩:=A d m;exact(f d p r).2 b c
  refine .app j R (by rw[k];exact i.ev T B) O (g.mono y (λb c=>B b (z b c))) (by rw[C];exact z) (h.mono y N) ?_ ?_ S
  ·intro d m;obtain⟨U,p,r⟩:=A d m;exact⟨U,p,(n d p r).1⟩
  intro b c;rcases H b c with c|⟨d,m,c⟩
  ·exact .inl c
  obtain⟨_,p,r⟩:=A d m;exact .inr ⟨d,m,by rw[(n d p r).2.2];exact c⟩
 |iV a i c Q m P=>
  obtain⟨j,k,C⟩:=n _ _ a;exact .iV j (by rw[k];exact i.ev (f _ _ a).1 (f _ _ a).2) (by rw[C];exact c) (by rw[((f _ _ a).2 _ c).2];exact Q) m P
 |dw q _ s=>exact .dw q (λd l e g h=>s d l e g h)
 |agg q _ s=>exact .agg q (λd l e g h=>s d l e g h)
 |dg q _ s=>exact .dg q (λd l e g h=>s d l e g h)
def aO (c:List (Nat×al)):Operand->al
 |.tmp g=>gt c g
 |.const (.int d e)=>.val (.int d) e
 |.const (.bool a)=>.val .bool a
 |.const (.string f)=>.val .str f
 |.const h=>.bP h
 |.func b=>.dg b []
 |.global _=>.dead
theorem bE.int {c:c5->Nat->Prop} {g:World} {e:List (Nat×aC)} {f:Nat->cS} {d:Nat->cY} (a:IntKind) (b:Int):bE c g e f d (.val (.int a) b) (.int a b):=
 .val (τ:=.int a) (cs:=[.int a b]) ⟨rfl,rfl⟩
theorem bE.bool {b:c5->Nat->Prop} {f:World} {d:List (Nat×aC)} {e:Nat->cS} {c:Nat->cY} (a:Bool):bE b f d e c (.val .bool a) (.bool a):=
 .val (τ:=.bool) (cs:=[.bool a]) ⟨rfl,rfl⟩
theorem bE.str {b:c5->Nat->Prop} {f:World} {d:List (Nat×aC)} {e:Nat->cS} {c:Nat->cY} (a:ByteArray):bE b f d e c (.val .str a) (.string a):=
 .val (τ:=.str) (cs:=[.string a]) ⟨rfl,rfl⟩
theorem bt.aO {e:dn} {c:aJ} {a:Act} {l:World} {f:Nat->Prop} {j:Nat->cS} {i:Nat->cY} (m:bt e c a.tmps l f j i) (d:Operand):bE (ba f e.B) l c.h j i (aO c.g d) (a.eval d):=by
 cases d with
 |tmp o=>exact m.tmp o
 |const p=>
  cases p<;>simp only[i9.aO,Act.eval]
  case int k n=>exact .int k n
  case bool b=>exact .bool b
  case string s=>exact .str s
  all_goals exact .bP _
 |func q=>exact .dg (vs:=#[]) ab ab
 |global r=>exact .dead _
theorem iF {d:Type}:∀(c b:List (Nat×d)) (a:Nat),ao (c++b) a=(ao c a).or (ao b a)
 |[],b,a=>by simp[ao]
 |(k,v)::c,b,a=>by rw[jd,bU,bU,iF c b a];split<;>simp
theorem hk (b:Nat) (c:al) (d:List (Nat×al)) (a:Nat):gt ((b,c)::d) a=if b=a then c else gt d a:=by unfold gt;rw[bU];by_cases e:b=a<;>simp[e]
theorem bt.put (a:bt H z A e k p q) (f:H.ok c) {av:al} {v:Value} (l:bE (ba k H.B) e z.h p q av v):bt H ⟨(c,av)::z.g,z.h⟩ (A.setIfInBounds c v) e k p q where
 n:=by simpa using a.n
 i0:=a.i0
 i1:=a.i1
 ib:=a.ib
 tree:=a.tree
 dis:=a.dis
 tmp:=λb=>by
  show bE _ _ _ _ _ (gt ((c,av)::z.g) b) _;unfold gt;rw[bU];have j:c<A.size:=(by rw[a.n];exact f.1);by_cases d:c=b
  ·subst d;rw[if_pos rfl];have:(A.setIfInBounds c v).getD c undef=v:=(by simp[Array.getD,j]);rw[this];exact l
  rw[if_neg d];have:(A.setIfInBounds c v).getD b undef=A.getD b undef:=(by simp only[x9,B8 d]);rw[this];exact a.tmp b
 frame:=a.frame
 evo:=a.evo
 size:=a.size
 os:=a.os
 tape:=a.tape
 output:=a.output
 pin:=λb d=>by have:c≠b:=λi=>f.2 (i▸d);rw[<-a.pin b d];simp only[x9,B8 this]
structure ts (C:dn) (st:aJ) (w w':World) (I':Nat->Prop) (new:List (Nat×aC)) (rtn:Nat->cS) (fpn:Nat->cY):Prop where
 tree:∀id t,ao new id=some t->ao st.h id=none/\aN (ba I' C.B) w' t.1 (rtn id) t.2 (fpn id)/\(fpn id).Nodup/\∀b∈fpn id,w.heap.size<=b/\b<w'.heap.size/\¬I' b
 dis:∀i j t u,ao new i=some t->ao new j=some u->i≠j->∀b∈fpn i,b∉fpn j
theorem ts.nil:ts H z e m k [] p q:=
 ⟨(λ_ _ a=>by cases a),(λ_ _ _ _ a=>by cases a)⟩
theorem ts.one {C:dn} {st:aJ} {e w':World} {I':Nat->Prop} {id:Nat} {t:aC} {cs:cS} {f:cY} (m:ao st.h id=none) (n:aN (ba I' C.B) w' t.1 cs t.2 f) (k:f.Nodup) (j:∀b∈f,e.heap.size<=b/\b<w'.heap.size/\¬I' b):ts C st e w' I' [(id,t)] (λ_=>cs) (λ_=>f) where
 tree:=λo p a=>by
  rw[bU] at a;split at a
  ·rename_i g;subst g;obtain rfl:=ec a;exact⟨m,n,k,j⟩
  cases a
 dis:=λo q r p c d l=>by
  rw[bU] at c d;split at c
  ·split at d
   ·rename_i aj i;exact absurd (aj.symm.trans i) l
   cases d
  cases c
def dA (d:List (Nat×aC)) {a:Type} (b c:Nat->a):Nat->a:=λid=>match ao d id with|some _=>b id|none=>c id
theorem bt.ext {rtn:Nat->cS} {fpn:Nat->cY} (d:bt H z A e C p q) (i:gq e m) (D:∀a,C a->k a) (E:∀a,k a->C a\/(e.heap.size<=a/\a<m.heap.size)) {new:List (Nat×aC)} (t:ts H z e m k new rtn fpn):bt H ⟨z.g,new++z.h⟩ A m k (dA new rtn p) (dA new fpn q):=by
 have M:∀x a,ba C H.B x a->ba k H.B x a/\bN e m a:=λx a b=>by
  refine⟨?_,.of_heap (i.heap a (d.ib a (lN b)))⟩;cases x
  ·exact D a b
  exact b.imp (D a) id
 have U:∀id c,ao z.h id=some c->ao (new++z.h) id=some c/\dA new rtn p id=p id/\dA new fpn q id=q id:=λid c f=>by
  have:ao new id=none:=by
   cases l:ao new id with
   |none=>rfl
   |some o=>have:=(t.tree id o l).1;rw[f] at this;cases this
  refine⟨by rw[iF,this,f];rfl,by simp[dA,this],by simp[dA,this]⟩
 have F:∀id c,ao (new++z.h) id=some c->(ao new id=some c/\dA new rtn p id=rtn id/\dA new fpn q id=fpn id)\/(ao z.h id=some c/\dA new rtn p id=p id/\dA new fpn q id=q id):=λid c f=>by
  rw[iF] at f;cases l:ao new id with
  |none=>rw[l] at f;exact .inr ⟨by simpa using f,by simp[dA,l],by simp[dA,l]⟩
  |some o=>rw[l] at f;exact .inl ⟨by simpa using f,by simp[dA,l],by simp[dA,l]⟩
 have N:∀id c,ao z.h id=some c->∀a∈q id,bN e m a:=λid c f a b=>.of_heap (i.heap a ((d.tree id c f).2.2 a b).2.2.1);refine{n:=d.n,i0:=λa b=>D a (d.i0 a b),i1:=?_,ib:=?_,tree:=?_,dis:=?_,tmp:=?_,frame:=?_,evo:=λa b=>(d.evo a b).trans (.of_heap (i.heap a (gO b d.size))),size:=da d.size i.size,os:=i.os.trans d.os,tape:=i.tape.trans d.tape,output:=i.output.trans d.output,pin:=d.pin}
 ·intro a b;rcases E a b with b|⟨b,_⟩
  ·exact d.i1 a b
  exact .inr (.inl (da d.size b))
 ·intro a b;rcases b with b|b
  ·rcases E a b with b|⟨_,b⟩
   ·exact gO (d.ib a (.inl b)) i.size
   exact b
  exact gO (d.ib a (.inr b)) i.size
 ·intro id c f;rcases F id c f with⟨j,y,r⟩|⟨j,y,r⟩
  ·obtain⟨_,ar,G,I⟩:=t.tree id c j;rw[y,r];refine⟨ar,G,λa b=>?_⟩;obtain⟨J,K,L⟩:=I a b;exact⟨L,λQ=>by have:=d.ib a (.inr Q);omega,K,.inl (da d.size J)⟩
  obtain⟨ar,G,I⟩:=d.tree id c j;rw[y,r];refine⟨ar.mono M (N id c j),G,λa b=>?_⟩;obtain⟨J,K,L,aL⟩:=I a b;exact⟨λs=>(E a s).elim J (λW=>by omega),K,gO L i.size,aL⟩
 ·intro u v c o S T O a b;rcases F u c S with⟨j,_,r⟩|⟨j,_,r⟩<;>rcases F v o T with⟨w,_,P⟩|⟨w,_,P⟩<;>rw[r] at b<;>rw[P]
  ·exact t.dis u v c o j w O a b
  ·intro s;have:=((t.tree u c j).2.2.2 a b).1;have:=((d.tree v o w).2.2 a s).2.2.1;omega
  ·intro s;have:=((t.tree v o w).2.2.2 a s).1;have:=((d.tree u c j).2.2 a b).2.2.1;omega
  exact d.dis u v c o j w O a b
 ·intro V;exact(d.tmp V).mono M (λid c f=>⟨(d.tree id c f).1,N id c f⟩) U
 intro a b R;rw[i.heap a (gO b d.size)];exact d.frame a b R
theorem bt.T7 (a:bt H z A e k p q) (b:gq e m):bt H z A m k p q:=by have:=a.ext (rtn:=p) (fpn:=q) b (λ_ a=>a) (λ_ a=>.inl a) (new:=[]) .nil;exact this
def mW:List (Nat×al)->aJ->Prop
 |[],_=>True
 |(k,a)::r,st=>gt st.g k=a/\mW r st
def mX:List (Nat×aC)->aJ->Prop
 |[],_=>True
 |(k,t)::r,st=>ao st.h k=some t/\mX r st
theorem mW.get (b:mW L z):∀a,gt L a=.dead\/gt L a=gt z.g a:=by
 induction L with
 |nil=>exactλa=>.inl rfl
 |cons e L d=>
  obtain⟨h,f⟩:=e;intro a;rw[hk];split
  ·rename_i c;subst c;exact .inr b.1.symm
  exact d b.2 a
theorem mX.get (c:mX x z):∀a b,ao x a=some b->ao z.h a=some b:=by
 induction x with
 |nil=>intro a b c;cases c
 |cons g x f=>
  obtain⟨j,i⟩:=g;intro a b d;rw[bU] at d;split at d
  ·rename_i e;subst e;rw[<-d];exact c.1
  exact f c.2 a b d
mutual
def al.ids:al->cY
 |.dead|.val _ _|.bP _=>[]
 |.ref id _|.addr id _|.view id _ _ _|.iV id _ _=>[id]
 |.app id _ _ _ b=>id::b
 |.dw a|.agg a|.dg _ a=>al.mq a
def al.mq:List al->cY
 |[]=>[]
 |a::b=>a.ids++al.mq b
end
theorem al.xj {l:List al} {i:Nat} (a:l[i]?=some R) {id:Nat} (b:id∈R.ids):id∈al.mq l:=by
 induction l generalizing i with
 |nil=>simp at a
 |cons e d c=>
  simp only[al.mq,dO];cases i with
  |zero=>simp at a;subst a;exact .inl b
  |succ i=>simp at a;exact .inr (c a)
theorem bE.qW {E:c5->Nat->Prop} {G:List (Nat×aC)} {L:Nat->cS} {F:Nat->cY} (z:∀J a,f J a->E J a/\bN e m a) (N:bE f e x p q R I) (h:∀id∈R.ids,∀y,ao x id=some y->ao G id=some y/\L id=p id/\F id=q id/\aN f e y.1 (p id) y.2 (q id)/\∀a∈q id,bN e m a):bE E m G L F R I:=by
 induction N with
 |dead I=>exact .dead I
 |bP I=>exact .bP I
 |val X=>exact .val (X.mono z ab)
 |ref k j=>
  obtain⟨l,n,_,r,o⟩:=h _ (by simp[al.ids]) _ k;exact .ref l (by rw[n];exact j.ev r o)
 |addr k j=>
  obtain⟨l,n,_,r,o⟩:=h _ (by simp[al.ids]) _ k;exact .addr l (by rw[n];exact j.ev r o)
 |kv id K=>exact .kv id K
 |view k j d i M=>
  obtain⟨l,n,_,r,o⟩:=h _ (by simp[al.ids]) _ k;exact .view l (by rw[n];exact j.ev r o) d i M
 |@app id K av ap am y ad Y an Z f2 I k T j P d A i B H U=>
  obtain⟨l,n,D,V,C⟩:=h _ (by simp[al.ids]) _ k;have O:∀a∈f2,bN e m a:=λa b=>by
   rcases H a b with b|⟨c,g,b⟩
   ·exact C a (A a b)
   obtain⟨_,s,v⟩:=B c g;exact(h c (by simp[al.ids,g]) s v).2.2.2.2 a b
  refine .app l T (by rw[n];exact j.ev V C) P (d.mono z (λa b=>C a (A a b))) (by rw[D];exact A) (i.mono z O) ?_ ?_ U
  ·intro c g;obtain⟨W,s,v⟩:=B c g;exact⟨W,s,(h c (by simp[al.ids,g]) s v).1⟩
  intro a b;rcases H a b with b|⟨c,g,b⟩
  ·exact .inl b
  obtain⟨_,s,v⟩:=B c g;exact .inr ⟨c,g,by rw[(h c (by simp[al.ids,g]) s v).2.2.1];exact b⟩
 |iV k j b S g Q=>
  obtain⟨l,n,D,r,o⟩:=h _ (by simp[al.ids]) _ k;exact .iV l (by rw[n];exact j.ev r o) (by rw[D];exact b) (by rw[(o _ b).2];exact S) g Q
 |dw u _ w=>exact .dw u (λc R I d i=>w c R I d i (λid t=>h id (al.xj d t)))
 |agg u _ w=>exact .agg u (λc R I d i=>w c R I d i (λid t=>h id (al.xj d t)))
 |dg u _ w=>exact .dg u (λc R I d i=>w c R I d i (λid t=>h id (al.xj d t)))
theorem bt.vM {o:aJ} (a:bt H o A e k p q) (v:mW z.g o) (d:mX z.h o) (w:∀c,∀id∈(gt z.g c).ids,(ao z.h id).isSome=true):bt H z A e k p q where
 n:=a.n
 i0:=a.i0
 i1:=a.i1
 ib:=a.ib
 tree:=λid b f=>a.tree id b (d.get id b f)
 dis:=λs t b i m x=>a.dis s t b i (d.get s b m) (d.get t i x)
 tmp:=λc=>by
  rcases v.get c with l|l
  ·rw[l];exact .dead _
  have:=w c;rw[l] at this|-;refine(a.tmp c).qW (λy j u=>⟨u,bN.refl e j⟩) (λid m b f=>?_);obtain⟨i,r⟩:=Option.isSome_iff_exists.1 (this id m);have:=d.get id i r;rw[f] at this;obtain rfl:=ec this;exact⟨r,rfl,rfl,(a.tree id b f).1,λj _=>bN.refl e j⟩
 frame:=a.frame
 evo:=a.evo
 size:=a.size
 os:=a.os
 tape:=a.tape
 output:=a.output
 pin:=a.pin
def kN (a:List (Nat×al)) (b:List (Nat×aC)):Bool:=a.all λc=>c.2.ids.all λid=>(ao b id).isSome
theorem kN.get (d:kN L x=true) (c:Nat):∀id∈(gt L c).ids,(ao x id).isSome=true:=by
 intro id b;unfold gt at b;cases a:ao L c with
 |none=>rw[a] at b;simp[al.ids] at b
 |some e=>
  rw[a] at b;have g:(c,e)∈L:=by
   clear d b
   induction L with
   |nil=>cases a
   |cons i l h=>
    obtain⟨k,j⟩:=i;rw[bU] at a;split at a
    ·rename_i f;subst f;obtain rfl:=ec a;simp
    exact e2 _ (h a)
  simp only[kN,eI] at d;exact d (c,e) g id b
section
mutual
def dF (P:Program):ag->TypeId->Prop
 |.int f,T=>∃a,P.info? T=some a/\a.size=1/\a.bytes<=24/\a.zero=some (.int f 0)/\P.underlying T=some (.int f)
 |.bool,T=>∃a,P.info? T=some a/\a.size=1/\a.bytes<=24/\a.zero=some (.bool false)/\P.underlying T=some .bool
 |.str,T=>∃a,P.info? T=some a/\a.size=1/\a.bytes<=24/\a.zero=some (.string ByteArray.empty)/\P.underlying T=some .string
 |.a7 _ b,T=>∃a E,P.info? T=some a/\a.size=1/\a.bytes<=24/\a.zero=some (.slice none 0 0)/\P.underlying T=some (.slice E)/\dF P b E
 |.osl b,T=>∃a E,P.info? T=some a/\a.size=1/\a.bytes<=24/\a.zero=some (.slice none 0 0)/\P.underlying T=some (.slice E)/\dF P b E
 |.ptr _ b,T=>∃a E,P.info? T=some a/\a.size=1/\a.bytes<=24/\a.zero=some (.pointer none)/\P.underlying T=some (.pointer E)/\dF P b E
 |.optr b,T=>∃a E,P.info? T=some a/\a.size=1/\a.bytes<=24/\a.zero=some (.pointer none)/\P.underlying T=some (.pointer E)/\dF P b E
 |.st b,T=>0<b.size/\∃a e d,P.info? T=some a/\a.size=b.size/\a.bytes<=24*b.size/\a.zero=some (.agg d)/\P.underlying T=some (.struct e)/\g7 P b e.toList 0 d.toList/\d.size=b.size
 |.mp b,T=>∃a c E,P.info? T=some a/\a.size=1/\a.bytes<=24/\a.zero=some (.map none)/\P.underlying T=some (.map c E)/\P.underlying c=some (.int .i64)/\dF P b E
 |.dC _ b,T=>∃a c E,P.info? T=some a/\a.size=1/\a.bytes<=24/\a.zero=some (.map none)/\P.underlying T=some (.map c E)/\P.underlying c=some (.int .i64)/\dF P b E
 |_,_=>False
def g7 (P:Program):ag->List Field->Nat->cS->Prop
 |.pr a g,c::h,e,b=>c.offset=e/\dF P a c.type/\0<a.size/\(∃d f,P.info? c.type=some d/\d.zero=some f/\b.take a.size=f.cells.toList)/\g7 P g h (e+a.size) (b.drop a.size)
 |.nil,[],_,b=>b=[]
 |_,_,_,_=>False
end
def n6:ag->Bool
 |.st _=>true
 |_=>false
structure Rt (P:Program) (τ:ag) (T:TypeId) (i:TypeInfo):Prop where
 info:P.info? T=some i
 size:i.size=τ.size
 bytes:i.bytes<=24*τ.size
 pos:0<τ.size
theorem dF.info {P:Program}:∀{τ:ag} {T:TypeId},dF P τ T->∃a g,Rt P τ T a/\P.underlying T=some g/\(match g with|.struct _|.array _ _=>true|_=>false)=n6 τ
 |.int _,_,⟨a,b,c,d,_,e⟩=>⟨a,_,⟨b,c,d,by simp[ag.size]⟩,e,rfl⟩
 |.bool,_,⟨a,b,c,d,_,e⟩=>⟨a,_,⟨b,c,d,by simp[ag.size]⟩,e,rfl⟩
 |.str,_,⟨a,b,c,d,_,e⟩=>⟨a,_,⟨b,c,d,by simp[ag.size]⟩,e,rfl⟩
 |.a7 _ _,_,⟨a,_,b,c,d,_,e,_⟩=>⟨a,_,⟨b,c,d,by simp[ag.size]⟩,e,rfl⟩
 |.osl _,_,⟨a,_,b,c,d,_,e,_⟩=>⟨a,_,⟨b,c,d,by simp[ag.size]⟩,e,rfl⟩
 |.ptr _ _,_,⟨a,_,b,c,d,_,e,_⟩=>⟨a,_,⟨b,c,d,by simp[ag.size]⟩,e,rfl⟩
 |.optr _,_,⟨a,_,b,c,d,_,e,_⟩=>⟨a,_,⟨b,c,d,by simp[ag.size]⟩,e,rfl⟩
 |.st i,_,⟨h,a,_,_,b,c,d,_,e,_⟩=>⟨a,_,⟨b,c,d,h⟩,e,rfl⟩
 |.pr _ _,_,f=>f.elim
 |.nil,_,f=>f.elim
 |.c6,_,f=>f.elim
 |.mp _,_,⟨a,_,_,b,c,d,_,e,_⟩=>⟨a,_,⟨b,c,d,by simp[ag.size]⟩,e,rfl⟩
 |.dC _ _,_,⟨a,_,_,b,c,d,_,e,_⟩=>⟨a,_,⟨b,c,d,by simp[ag.size]⟩,e,rfl⟩
theorem dF.DF {P:Program}:∀{τ:ag} {T:TypeId},dF P τ T->∃g,g.cells.size=τ.size/\∀d,P.info? T=some d->d.zero=some g
 |.int _,_,⟨d,a,_,_,b,_⟩|.bool,_,⟨d,a,_,_,b,_⟩|.str,_,⟨d,a,_,_,b,_⟩=>⟨_,rfl,λf c=>by rw[a] at c;cases c;exact b⟩
 |.a7 _ _,_,⟨d,_,a,_,_,b,_⟩|.osl _,_,⟨d,_,a,_,_,b,_⟩|.ptr _ _,_,⟨d,_,a,_,_,b,_⟩|.optr _,_,⟨d,_,a,_,_,b,_⟩=>⟨_,rfl,λf c=>by rw[a] at c;cases c;exact b⟩
 |.st n,_,⟨j,d,_,i,a,k,l,b,m,_,h⟩=>⟨.agg i,h,λf c=>by rw[a] at c;cases c;exact b⟩
 |.pr _ _,_,e=>e.elim
 |.nil,_,e=>e.elim
 |.c6,_,e=>e.elim
 |.mp _,_,⟨d,_,_,a,_,_,b,_⟩=>⟨_,rfl,λf c=>by rw[a] at c;cases c;exact b⟩
 |.dC _ _,_,⟨d,_,_,a,_,_,b,_⟩=>⟨_,rfl,λf c=>by rw[a] at c;cases c;exact b⟩
section
variable {P:Program} {τ:ag} {T:TypeId}
theorem dF.sizeOf (c:dF P τ T) (b:World):(Go.sizeOf T).run P b=.ok τ.size b:=by obtain⟨e,d,a,_⟩:=c.info;simp[Go.sizeOf,typeInfo,a.info,a.size]
theorem dF.isAgg (c:dF P τ T) (a:World):(Go.isAgg T).run P a=.ok (n6 τ) a:=by obtain⟨g,b,f,e,d⟩:=c.info;simp only[Go.isAgg,Sem.run_bind,run_underlying e,Result.andThen_ok];rw[<-d];cases b<;>rfl
theorem dF.pos (a:dF P τ T):0<τ.size:=by obtain⟨d,c,b,_⟩:=a.info;exact b.pos
theorem EK:∀{τ:ag} {T:TypeId},dF P τ T->n6 τ=false->τ.size=1
 |.int _,_,_,_|.bool,_,_,_|.str,_,_,_|.a7 _ _,_,_,_|.osl _,_,_,_|.ptr _ _,_,_,_|.optr _,_,_,_|.mp _,_,_,_|.dC _ _,_,_,_=>rfl
 |.st _,_,_,a=>by cases a
 |.pr _ _,_,a,_=>a.elim
 |.nil,_,a,_=>a.elim
 |.c6,_,a,_=>a.elim
theorem Bz (a:n6 τ=false):bH τ i=i.headD undef:=by cases τ<;>first|rfl|cases a
theorem BA (a:n6 τ=true):bH τ i=.agg i.toArray:=by cases τ<;>first|rfl|cases a
theorem nm (d:dF P τ T) (c:i.length=τ.size) (e:∀a∈i,a.oneCell'=true):(bH τ i).cells=i.toArray:=by
 cases b:n6 τ with
 |true=>rw[BA b];rfl
 |false=>
  rw[Bz b];rw[EK d b] at c;obtain⟨a,rfl⟩:=tn.1 c;have:=e a ab;cases a<;>first|rfl|(simp[Value.oneCell'] at this)
theorem LJ (a:dF P τ T) (h:dK e c g i) (b:i.length=τ.size):(loadVar T ⟨c,g,none⟩).run P e=.ok (bH τ i) e:=by
 simp only[loadVar,Sem.run_bind,a.isAgg,Result.andThen_ok];cases d:n6 τ with
 |true=>
  simp only[if_true,Sem.run_bind,a.sizeOf,Result.andThen_ok];rw[<-b,run_loadCells_list e ⟨c,g,none⟩ i (λk f j=>by rw[Addr.add_lit];exact h k f j)];rw[BA d];rfl
 |false=>
  rw[EK a d] at b;obtain⟨f,rfl⟩:=tn.1 b;have:=h 0 f rfl;simp only[k4] at this;rw[Bz d];simp[this]
end
def kw:(τ:ag)->Option τ.den
 |.int _=>some (0:Int)
 |.bool=>some false
 |.str=>some ByteArray.empty
 |.a7 _ _=>some []
 |.osl _=>some []
 |.ptr _ _=>some none
 |.optr _=>none
 |.st c=>kw c
 |.pr a b=>match kw a,kw b with|some d,some e=>some (d,e)|_,_=>none
 |.nil=>some ()
 |.c6=>none
 |.mp _=>some none
 |.dC _ _=>some none
mutual
theorem s8 {P:Program}:∀{τ:ag} {T:TypeId} {g:τ.den},dF P τ T->kw τ=some g->∃a l,P.info? T=some a/\a.zero=some l/\l=bH τ l.cells.toList/\∀(e:c5->Nat->Prop) (f:World),aN e f τ l.cells.toList g []
 |.int p,_,g,⟨a,c,h,i,d,j⟩,b=>⟨a,_,c,d,rfl,λe f=>by cases b;exact⟨rfl,rfl⟩⟩
 |.bool,_,g,⟨a,c,h,i,d,j⟩,b=>⟨a,_,c,d,rfl,λe f=>by cases b;exact⟨rfl,rfl⟩⟩
 |.str,_,g,⟨a,c,h,i,d,j⟩,b=>⟨a,_,c,d,rfl,λe f=>by cases b;exact⟨rfl,rfl⟩⟩
 |.a7 _ _,_,g,⟨a,_,c,h,i,d,j,_⟩,b=>⟨a,_,c,d,rfl,λe f=>by cases b;exact⟨rfl,none,0,rfl,a8 _,λ_=>rfl,.inl rfl⟩⟩
 |.osl _,_,g,⟨a,_,c,h,i,d,j,_⟩,b=>⟨a,_,c,d,rfl,λe f=>by cases b;exact⟨none,0,rfl,.inl ⟨rfl,rfl,rfl,rfl⟩⟩⟩
 |.ptr _ _,_,g,⟨a,_,c,h,i,d,j,_⟩,b=>⟨a,_,c,d,rfl,λe f=>by cases b;exact⟨rfl,rfl⟩⟩
 |.optr _,_,_,_,b=>by cases b
 |.st n,_,g,⟨_,a,o,q,c,h,i,d,j,m,_⟩,b=>⟨a,_,c,d,rfl,λe f=>MJ (τ:=n) m b e f⟩
 |.pr _ _,_,_,k,_=>k.elim
 |.nil,_,_,k,_=>k.elim
 |.c6,_,_,k,_=>k.elim
 |.mp _,_,g,⟨a,_,_,c,h,i,d,j,_⟩,b=>⟨a,_,c,d,rfl,λe f=>by cases b;exact⟨rfl,rfl⟩⟩
 |.dC _ _,_,g,⟨a,_,_,c,h,i,d,j,_⟩,b=>⟨a,_,c,d,rfl,λe f=>by cases b;exact⟨rfl,rfl⟩⟩
theorem MJ {P:Program}:∀{τ:ag} {l:List Field} {g:Nat} {f:cS} {e:τ.den},g7 P τ l g f->kw τ=some e->∀(b:c5->Nat->Prop) (d:World),aN b d τ f e []
 |.pr j k,t::y,g,f,e,a,c,b,d=>by
  obtain⟨u,m,v,⟨w,B,ar,q,r⟩,n⟩:=a;simp only[kw] at c;split at c
  ·rename_i z A o p;cases c;obtain⟨x,C,h,i,_,s⟩:=s8 (τ:=j) m o;rw[ar] at h;obtain rfl:=ec h;rw[q] at i;obtain rfl:=ec i;exact⟨[],[],rfl,by rw[r];exact s b d,MJ (τ:=k) n p b d⟩
  cases c
 |.nil,[],_,f,e,a,c,b,d=>⟨rfl,a⟩
 |.pr _ _,[],_,_,_,a,_,_,_=>a.elim
 |.nil,_::_,_,_,_,a,_,_,_=>a.elim
 |.int _,_,_,_,_,a,_,_,_=>by cases a
 |.bool,_,_,_,_,a,_,_,_=>by cases a
 |.str,_,_,_,_,a,_,_,_=>by cases a
 |.a7 _ _,_,_,_,_,a,_,_,_=>by cases a
 |.osl _,_,_,_,_,a,_,_,_=>by cases a
 |.ptr _ _,_,_,_,_,a,_,_,_=>by cases a
 |.optr _,_,_,_,_,a,_,_,_=>by cases a
 |.st _,_,_,_,_,a,_,_,_=>by cases a
 |.c6,_,_,_,_,a,_,_,_=>by cases a
 |.mp _,_,_,_,_,a,_,_,_=>by cases a
 |.dC _ _,_,_,_,_,a,_,_,_=>by cases a
end
def a2:ag->ag->Bool
 |.int g,.int h=>if g=h then true else false
 |.bool,.bool|.str,.str|.nil,.nil=>true
 |.a7 _ a,.a7 _ b|.a7 _ a,.osl b|.osl a,.a7 _ b|.osl a,.osl b=>a2 a b
 |.ptr _ a,.ptr _ b|.ptr _ a,.optr b|.optr a,.ptr _ b|.optr a,.optr b=>a2 a b
 |.st a,.st b=>a2 a b
 |.mp a,.mp b|.mp a,.dC _ b|.dC _ a,.mp b|.dC _ a,.dC _ b=>a2 a b
 |.pr c d,.pr e f=>a2 c e&&a2 d f
 |_,_=>false
theorem a2.size:∀{τ b:ag},a2 τ b=true->τ.size=b.size:=by
 intro τ
 induction τ with
 |st h c=>intro b a;cases b<;>simp only[a2] at a<;>first|(simp only[ag.size];exact c a)|cases a
 |pr f g d e=>
  intro b a;cases b<;>simp only[a2] at a<;>try (cases a;done)
  simp only[bd] at a;simp only[ag.size];rw[d a.1,e a.2]
 |_=>intro b a;cases b<;>simp[a2] at a<;>simp[ag.size]
mutual
theorem dF.lay {P:Program}:∀{τ c:ag} {T:TypeId},a2 τ c=true->dF P τ T->dF P c T
 |.int q,c,_,a,b=>by cases c<;>simp[a2] at a;subst a;exact b
 |.bool,c,_,a,b=>by cases c<;>simp[a2] at a;exact b
 |.str,c,_,a,b=>by cases c<;>simp[a2] at a;exact b
 |.a7 _ k,c,_,a,b=>by obtain⟨h,E,d,i,j,e,f,g⟩:=b;cases c<;>simp only[a2] at a<;>first|exact⟨h,E,d,i,j,e,f,dF.lay a g⟩|cases a
 |.osl k,c,_,a,b=>by obtain⟨h,E,d,i,j,e,f,g⟩:=b;cases c<;>simp only[a2] at a<;>first|exact⟨h,E,d,i,j,e,f,dF.lay a g⟩|cases a
 |.ptr _ k,c,_,a,b=>by obtain⟨h,E,d,i,j,e,f,g⟩:=b;cases c<;>simp only[a2] at a<;>first|exact⟨h,E,d,i,j,e,f,dF.lay a g⟩|cases a
 |.optr k,c,_,a,b=>by obtain⟨h,E,d,i,j,e,f,g⟩:=b;cases c<;>simp only[a2] at a<;>first|exact⟨h,E,d,i,j,e,f,dF.lay a g⟩|cases a
 |.st k,c,_,a,b=>by
  obtain⟨p,h,n,o,d,i,j,e,f,g,l⟩:=b;cases c<;>simp only[a2] at a<;>try (cases a;done)
  have:=a2.size a;exact⟨U,h,n,o,d,U,U,e,f,g7.lay a g,U⟩
 |.pr _ _,_,_,_,b=>b.elim
 |.nil,_,_,_,b=>b.elim
 |.c6,_,_,_,b=>b.elim
 |.mp k,c,_,a,b=>by obtain⟨h,m,E,d,i,j,e,f,g,l⟩:=b;cases c<;>simp only[a2] at a<;>first|exact⟨h,m,E,d,i,j,e,f,g,dF.lay a l⟩|cases a
 |.dC _ k,c,_,a,b=>by obtain⟨h,m,E,d,i,j,e,f,g,l⟩:=b;cases c<;>simp only[a2] at a<;>first|exact⟨h,m,E,d,i,j,e,f,g,dF.lay a l⟩|cases a
theorem g7.lay {P:Program}:∀{τ c:ag} {f:List Field} {d:Nat} {e:cS},a2 τ c=true->g7 P τ f d e->g7 P c f d e
 |.pr k l,c,m::o,d,e,b,a=>by
  obtain⟨g,h,n,i,j⟩:=a;cases c<;>simp only[a2] at b<;>try (cases b;done)
  simp only[bd] at b;have:=a2.size b.1;exact⟨g,dF.lay b.1 h,U,by rw[<-this];exact i,by rw[<-this];exact g7.lay b.2 j⟩
 |.nil,c,[],_,_,b,a=>by cases c<;>simp[a2] at b;exact a
 |.pr _ _,_,[],_,_,_,a=>a.elim
 |.nil,_,_::_,_,_,_,a=>a.elim
 |.int _,_,_,_,_,_,a=>by cases a
 |.bool,_,_,_,_,_,a=>by cases a
 |.str,_,_,_,_,_,a=>by cases a
 |.a7 _ _,_,_,_,_,_,a=>by cases a
 |.osl _,_,_,_,_,_,a=>by cases a
 |.ptr _ _,_,_,_,_,_,a=>by cases a
 |.optr _,_,_,_,_,_,a=>by cases a
 |.st _,_,_,_,_,_,a=>by cases a
 |.c6,_,_,_,_,_,a=>by cases a
 |.mp _,_,_,_,_,_,a=>by cases a
end
structure rD where
 b:Nat
 T:TypeId
 k:IntKind
 xs:cZ
def F8 (P:Program) (a:rD):Prop:=∃b,P.underlying a.T=some (.array a.xs.length b)/\dF P (.int a.k) b
structure dW where
 P:Program
 tt:List (TypeId×ag)
 ok:∀T τ,ao tt T=some τ->dF P τ T
 mix:P.follows .mixedOrders=true
 glob:List rD:=[]
 gok:∀g∈glob,F8 P g:=by intro g h;cases h
end
section
def e8:Nat:=4294967296
def ay {b:Type} (c:List b) (a:Int):Option b:=if 0<=a then c[a.toNat]? else none
theorem Ia {b:List y} {c:y} (a:ay b S=some c):S=(S.toNat:Int)/\S.toNat<b.length/\b[S.toNat]?=some c:=by
 unfold ay at a;split at a
 ·exact⟨U,(eb.1 a).1,a⟩
 cases a
inductive gx where
 |dv (av:al) (new:List (Nat×aC))
 |part (α:Type) (φ:α->Prop) (f:α->al×List (Nat×aC))
 |bad
def gx.K (e:gx) (Q:al->List (Nat×aC)->Prop):Prop:=
 match e with
 |.dv c d=>Q c d
 |.part f g b=>∃a:f,g a/\Q (b a).1 (b a).2
 |.bad=>False
def ag.pure:ag->Bool
 |.osl _|.optr _|.c6|.mp _=>false
 |.st c=>c.pure
 |.pr a b=>a.pure&&b.pure
 |_=>true
def dI:ag->List aV->Option ag
 |τ,[]=>some τ
 |.osl c,.idx _::b=>dI c b
 |.optr c,.deref::b=>dI c b
 |.mp c,.deref::b=>dI c b
 |.st c,.unst::b=>dI c b
 |.pr a _,.fst::b=>dI a b
 |.pr _ d,.snd::b=>dI d b
 |_,_=>none
def dS:ag->Nat->Option (List aV×ag)
 |.pr a _,0=>some ([.fst],a)
 |.pr _ c,d+1=>match dS c d with|some b=>some (.snd::b.1,b.2)|none=>none
 |_,_=>none
def dj:ag->Nat->Nat
 |.pr _ _,0=>0
 |.pr a b,c+1=>a.size+dj b c
 |_,_=>0
def pa:(e:ag)->e.den->Nat->Option aC
 |.pr a _,b,0=>some ⟨a,b.1⟩
 |.pr _ c,b,d+1=>pa c b.2 d
 |_,_,_=>none
theorem Dv {h:Program}:∀{τ:ag} {j:List Field} {f:Nat} {g:cS} {e:Nat} {s:List aV} {τf:ag},g7 h τ j f g->dS τ e=some (s,τf)->∃c,j[e]?=some c/\c.offset=f+dj τ e/\dF h τf c.type
 |.pr a i,c::q,f,g,0,s,τf,d,b=>by simp only[dS,bI,fd] at b;obtain⟨rfl,rfl⟩:=b;exact⟨c,rfl,by rw[d.1];rfl,d.2.1⟩
 |.pr a i,c::q,f,g,e+1,s,τf,d,b=>by
  simp only[dS] at b;split at b
  ·rename_i k p;simp only[bI,fd] at b;obtain⟨rfl,rfl⟩:=b;obtain⟨l,m,n,o⟩:=Dv (τ:=i) d.2.2.2.2 (s:=k.1) (τf:=k.2) p;exact⟨l,by simpa using m,by rw[n];simp only[dj];omega,o⟩
  cases b
 |.pr _ _,[],_,_,_,_,_,d,_=>d.elim
 |.int _,_,_,_,_,_,_,_,b=>by cases b
 |.bool,_,_,_,_,_,_,_,b=>by cases b
 |.str,_,_,_,_,_,_,_,b=>by cases b
 |.a7 _ _,_,_,_,_,_,_,_,b=>by cases b
 |.osl _,_,_,_,_,_,_,_,b=>by cases b
 |.ptr _ _,_,_,_,_,_,_,_,b=>by cases b
 |.optr _,_,_,_,_,_,_,_,b=>by cases b
 |.st _,_,_,_,_,_,_,_,b=>by cases b
 |.nil,_,_,_,_,_,_,_,b=>by cases b
 |.c6,_,_,_,_,_,_,_,b=>by cases b
theorem Dy:∀{τ:ag} {f:τ.den} {d:Nat} {c:aC},pa τ f d=some c->∃e,dS τ d=some (e,c.1)
 |.pr a g,f,0,c,b=>by simp only[pa,bI] at b;subst b;exact⟨_,rfl⟩
 |.pr a g,f,d+1,c,b=>by obtain⟨e,h⟩:=Dy (τ:=g) b;exact⟨.snd::e,by simp[dS,h]⟩
 |.int _,_,_,_,b=>by cases b
 |.bool,_,_,_,b=>by cases b
 |.str,_,_,_,b=>by cases b
 |.a7 _ _,_,_,_,b=>by cases b
 |.osl _,_,_,_,b=>by cases b
 |.ptr _ _,_,_,_,b=>by cases b
 |.optr _,_,_,_,b=>by cases b
 |.st _,_,_,_,b=>by cases b
 |.nil,_,_,_,b=>by cases b
 |.c6,_,_,_,b=>by cases b
theorem ur:∀{τ:ag} {c:Nat} {s:List aV} {tf:ag},dS τ c=some (s,tf)->dj τ c+tf.size<=τ.size
 |.pr a d,0,s,tf,b=>by simp only[dS,bI,fd] at b;obtain⟨_,rfl⟩:=b;simp[dj,ag.size]
 |.pr a d,c+1,s,tf,b=>by
  simp only[dS] at b;split at b
  ·rename_i e f;simp only[bI,fd] at b;obtain⟨_,rfl⟩:=b;have:=ur (τ:=d) (s:=e.1) (tf:=e.2) f;simp only[dj,ag.size];omega
  cases b
 |.int _,_,_,_,b=>by cases b
 |.bool,_,_,_,b=>by cases b
 |.str,_,_,_,b=>by cases b
 |.a7 _ _,_,_,_,b=>by cases b
 |.osl _,_,_,_,b=>by cases b
 |.ptr _ _,_,_,_,b=>by cases b
 |.optr _,_,_,_,b=>by cases b
 |.st _,_,_,_,b=>by cases b
 |.nil,_,_,_,b=>by cases b
 |.c6,_,_,_,b=>by cases b
theorem Dx {j:c5->Nat->Prop} {w:World}:∀{τ:ag} {f:τ.den} {e:Nat} {c:aC} {d:cS},aN j w τ d f []->pa τ f e=some c->aN j w c.1 ((d.drop (dj τ e)).take c.1.size) c.2 []/\dj τ e+c.1.size<=τ.size
 |.pr a k,f,0,c,d,i,b=>by simp only[pa,bI] at b;subst b;obtain⟨g,f2,h,l,m⟩:=i;obtain⟨rfl,rfl⟩:g=[]/\f2=[]:=(by simpa[eq_comm] using h);exact⟨by simpa[dj] using l,by simp[dj,ag.size]⟩
 |.pr a k,f,e+1,c,d,i,b=>by obtain⟨g,f2,h,l,m⟩:=i;obtain⟨rfl,rfl⟩:g=[]/\f2=[]:=(by simpa[eq_comm] using h);obtain⟨n,o⟩:=Dx (τ:=k) m b;refine⟨?_,by simp only[dj,ag.size];omega⟩;simp only[dj];rwa[nE] at n
 |.int _,_,_,_,_,_,b=>by cases b
 |.bool,_,_,_,_,_,b=>by cases b
 |.str,_,_,_,_,_,b=>by cases b
 |.a7 _ _,_,_,_,_,_,b=>by cases b
 |.osl _,_,_,_,_,_,b=>by cases b
 |.ptr _ _,_,_,_,_,_,b=>by cases b
 |.optr _,_,_,_,_,_,b=>by cases b
 |.st _,_,_,_,_,_,b=>by cases b
 |.nil,_,_,_,_,_,b=>by cases b
 |.c6,_,_,_,_,_,b=>by cases b
theorem aP.eR {w:World} {a:Loc}:aP w d v i [] o a D↔d=o/\v=a/\i=D:=by cases d<;>exact Iff.rfl
theorem aP.append {w:World}:∀{p c:List aV} {τ u v:ag} {n q r:Loc} {m k l:cS},aP w τ n m p u q k->aP w u q k c v r l->aP w τ n m (p++c) v r l
 |[],c,τ,_,_,_,_,_,_,_,_,a,b=>by obtain⟨rfl,rfl,rfl⟩:=aP.eR.1 a;exact b
 |s::p,c,τ,_,_,_,_,_,_,_,_,a,b=>by
  cases τ<;>cases s<;>simp only[aP] at a
  case osl.idx t i=>
   obtain⟨d,o,z,x,e,f,g,h,j,y⟩:=a;exact⟨d,o,z,x,e,f,g,h,j,y.append b⟩
  case optr.deref t=>
   obtain⟨d,o,e,f,g,h,j⟩:=a;exact⟨d,o,e,f,g,h,j.append b⟩
  case st.unst t=>exact aP.append (p:=p) (τ:=t) a b
  case pr.fst t1 t2=>exact aP.append (p:=p) (τ:=t1) a b
  case pr.snd t1 t2=>exact aP.append (p:=p) (τ:=t2) a b
theorem aP.here {w:World}:aP w d v i [] d v i:=by cases d<;>exact⟨rfl,rfl,rfl⟩
theorem aP.ty {w:World}:∀{p:List aV} {τ c:ag} {m n:Loc} {e f:cS},aP w τ m e p c n f->dI τ p=some c
 |[],τ,_,_,_,_,_,a=>by obtain⟨rfl,_⟩:=aP.eR.1 a;cases τ<;>rfl
 |s::p,τ,_,_,_,_,_,a=>by
  cases τ<;>cases s<;>simp only[aP] at a
  case osl.idx t i=>obtain⟨d,o,r,q,g,h,j,k,b,l⟩:=a;exact l.ty
  case optr.deref t=>obtain⟨d,o,g,h,j,k,b⟩:=a;exact b.ty
  case st.unst t=>exact aP.ty (p:=p) (τ:=t) a
  case pr.fst t1 t2=>exact aP.ty (p:=p) (τ:=t1) a
  case pr.snd t1 t2=>exact aP.ty (p:=p) (τ:=t2) a
theorem aP.at {w:World}:∀{q:List aV} {τ r:ag} {h p:Loc} {g j:cS},aP w τ h g q r p j->g.length=τ.size->(∀b o,h=some (b,o)->dK w b o g)->j.length=r.size/\∀b o,p=some (b,o)->dK w b o j
 |[],τ,_,_,_,_,_,d,f,e=>by obtain⟨rfl,rfl,rfl⟩:=aP.eR.1 d;exact⟨f,e⟩
 |s::q,τ,_,h,_,g,_,d,f,e=>by
  cases τ<;>cases s<;>simp only[aP] at d
  case osl.idx t i=>
   obtain⟨b,o,A,z,u,v,n,k,l,x⟩:=d;exact x.at k (λm y c=>by simp only[bI,fd] at c;obtain⟨rfl,rfl⟩:=c;exact l)
  case optr.deref t=>
   obtain⟨b,o,u,v,n,k,l⟩:=d;exact l.at n (λm y c=>by simp only[bI,fd] at c;obtain⟨rfl,rfl⟩:=c;exact k)
  case st.unst t=>exact aP.at (τ:=t) d f e
  case pr.fst a b=>
   exact aP.at (τ:=a) d (by simp only[ag.size] at f;simp;omega) (λb o c=>(e b o c).take)
  case pr.snd a b=>
   refine aP.at (τ:=b) d (by simp only[ag.size] at f;simp;omega) (λm o c=>?_);cases h with
   |none=>simp at c
   |some B=>
    simp only[fB,bI,fd] at c;obtain⟨rfl,rfl⟩:=c;exact(e _ _ rfl).drop
theorem aP.AE {w:World}:∀{τ:ag} {e:Nat} {s:List aV} {τf:ag} {l:Loc} {cs:cS},dS τ e=some (s,τf)->aP w τ l cs s τf (l.map λc=>(c.1,c.2+dj τ e)) ((cs.drop (dj τ e)).take τf.size)
 |.pr a f,0,s,τf,l,cs,d=>by
  simp only[dS,bI,fd] at d;obtain⟨rfl,rfl⟩:=d;have:(l.map λc=>(c.1,c.2+dj (.pr a f) 0))=l:=(by cases l<;>simp[dj]);rw[this];simp only[aP,dj,lu]
  first|exact aP.here|exact⟨rfl,rfl,rfl⟩|trivial|simp
 |.pr a f,e+1,s,τf,l,cs,d=>by
  simp only[dS] at d;split at d
  ·rename_i c g;simp only[bI,fd] at d;obtain⟨rfl,rfl⟩:=d;have:=aP.AE (w:=w) (τ:=f) (s:=c.1) (τf:=c.2) (l:=l.map λc=>(c.1,c.2+a.size)) (cs:=cs.drop a.size) g;simp only[aP,dj];rw[nE] at this;cases l with
   |none=>exact this
   |some h=>simp only[fB,nJ] at this|-;exact this
  cases d
 |.int _,_,_,_,_,_,b=>by cases b
 |.bool,_,_,_,_,_,b=>by cases b
 |.str,_,_,_,_,_,b=>by cases b
 |.a7 _ _,_,_,_,_,_,b=>by cases b
 |.osl _,_,_,_,_,_,b=>by cases b
 |.ptr _ _,_,_,_,_,_,b=>by cases b
 |.optr _,_,_,_,_,_,b=>by cases b
 |.st _,_,_,_,_,_,b=>by cases b
 |.nil,_,_,_,_,_,b=>by cases b
 |.c6,_,_,_,_,_,b=>by cases b
theorem c4.uniq:∀{p:List aV} {τ:ag} {e:τ.den} {c:ag} {f g:c.den},c4 τ e p c f->c4 τ e p c g->f=g
 |[],τ,_,_,_,_,a,b=>by obtain⟨rfl,a⟩:=c4.eR.1 a;obtain⟨_,b⟩:=c4.eR.1 b;exact a.symm.trans b
 |s::p,τ,_,_,_,_,a,b=>by
  cases τ<;>cases s<;>simp only[c4] at a b
  case osl.idx=>
   obtain⟨i,h,a⟩:=a;obtain⟨j,d,b⟩:=b;rw[h] at d;obtain rfl:=ec d;exact a.uniq b
  case optr.deref=>exact c4.uniq (p:=p) a b
  case st.unst=>exact c4.uniq (p:=p) a b
  case pr.fst=>exact c4.uniq (p:=p) a b
  case pr.snd=>exact c4.uniq (p:=p) a b
def Yields (E:dW) (C:dn) (st:aJ) (a:Act) (w:World) (I:Nat->Prop) (rt:Nat->cS) (fp:Nat->cY) (o:Oper) (Q:al->List (Nat×aC)->Prop):Prop:=
 ∃j d e i g f c,(execOp a.eval o).run E.P w=.ok (.value j) d/\gq w d/\(∀b,I b->e b)/\(∀b,e b->I b\/(w.heap.size<=b/\b<d.heap.size))/\ts C st w d e c i g/\bE (ba e C.B) d (c++st.h) (dA c i rt) (dA c g fp) f j/\Q f c
section
variable {E:dW} {C:dn} {st:aJ} {a:Act} {w:World} {I:Nat->Prop} {rt:Nat->cS} {fp:Nat->cY} {o:Oper} {Q:al->List (Nat×aC)->Prop}
theorem Yields.pure {v:Value} (d:(execOp a.eval o).run E.P w=.ok (.value v) w) (e:bE (ba I C.B) w st.h rt fp R v) (c:Q R []):Yields E C st a w I rt fp o Q:=
 ⟨v,w,I,rt,fp,R,[],d,.refl w,λ_ b=>b,λ_ b=>.inl b,.nil,e,c⟩
theorem Yields.wp (t:bt C st a.tmps w I rt fp) (k:Yields E C st a w I rt fp o Q) {next:Act->World->Prop} {j:Exit->Act->World->Prop} {f:Nat} (u:o.dst=some f) (v:C.ok f) (x:∀b c e d,Q b c->e.defers=a.defers->e3 C ⟨(f,b)::st.g,c++st.h⟩ e.tmps d->next e d):o.wp E.P a w next j:=by
 obtain⟨y,d,i,A,z,b,c,l,m,n,p,q,r,s⟩:=k;unfold Oper.wp;rw[l];show next (a.put o.dst y) d
 rw[u];exact x b c _ _ s rfl ⟨i,_,_,(t.ext m n p q).put v r⟩
def km (h:BinOp) (a:IntKind) (d:Int) (g:IntKind) (b:Int):gx:=
 let c (i:Prop) (f:Int):gx:=if a=g then .part Int (λc=>i/\f=c) (λc=>(.val (.int a) c,[])) else .bad
 let e (f:Bool):gx:=if a=g then .dv (.val .bool f) [] else .bad
 match h with
 |.add=>c True (a.wrap (d+b))
 |.sub=>c True (a.wrap (d-b))
 |.mul=>c True (a.wrap (d*b))
 |.quo=>c (b≠0) (a.wrap (d.tdiv b))
 |.rem=>c (b≠0) (d.tmod b)
 |.and=>c True (a.wrap (BitVec.ofInt a.bits d&&&BitVec.ofInt a.bits b).toNat)
 |.or=>c True (a.wrap (BitVec.ofInt a.bits d|||BitVec.ofInt a.bits b).toNat)
 |.xor=>c True (a.wrap (BitVec.ofInt a.bits d^^^BitVec.ofInt a.bits b).toNat)
 |.andNot=>c True (a.wrap (BitVec.ofInt a.bits d&&&~~~BitVec.ofInt a.bits b).toNat)
 |.shl=>.part Int (λc=>0<=b/\a.wrap (d*2^min b.toNat a.bits)=c) (λc=>(.val (.int a) c,[]))
 |.shr=>.part Int (λc=>0<=b/\d.fdiv (2^min b.toNat a.bits)=c) (λc=>(.val (.int a) c,[]))
 |.eql=>e (d==b)
 |.neq=>e (d !=b)
 |.lss=>e (decide (d<b))
 |.leq=>e (decide (d<=b))
 |.gtr=>e (decide (d>b))
 |.geq=>e (decide (d>=b))
def CA (c:BinOp) (a b:al):gx:=
 match a,b with
 |.val (.int d) a,.val (.int e) b=>km c d a e b
 |.val .bool a,.val .bool b=>match c with
  |.eql=>.dv (.val .bool (a==b)) []
  |.neq=>.dv (.val .bool (!(a==b))) []
  |_=>.bad
 |_,_=>.bad
theorem RW {d:BinOp} {r:TypeId} {j:IntKind} {m:Int} (f:o.op=.binOp d G b h r) (g:a.eval b=.int u m) (i:a.eval h=.int j S) (c:(km d u m j S).K Q):Yields E C st a w I rt fp o Q:=by
 have e:∀w,(eqGuard d G b h (.int u m) (.int j S)).run E.P w=.ok () w:=λw=>(by unfold eqGuard;cases d<;>simp);have n:d=.shl->Yields E C st a w I rt fp o Q:=(by rintro rfl;simp only[km] at c;obtain⟨k,⟨l,rfl⟩,c⟩:=c;exact .pure (v:=.int u _) (by simp[execOp,f,g,i,e,binOp,Op.shift,(U:¬S<0)]) (.int u _) c);have p:d=.shr->Yields E C st a w I rt fp o Q:=(by rintro rfl;simp only[km] at c;obtain⟨k,⟨l,rfl⟩,c⟩:=c;exact .pure (v:=.int u _) (by simp[execOp,f,g,i,e,binOp,Op.shift,(U:¬S<0)]) (.int u _) c);by_cases q:u=j
 case neg=>
  cases d<;>simp only[km,q,if_false] at c
  case shl=>exact n rfl
  case shr=>exact p rfl
  all_goals exact c.elim
 subst q;cases d<;>simp only[km,if_true] at c
 case shl=>exact n rfl
 case shr=>exact p rfl
 case quo|rem=>
  obtain⟨k,⟨l,rfl⟩,c⟩:=c;exact .pure (v:=.int u _) (by simp[execOp,f,g,i,e,binOp,Op.intDiv,l]) (.int u _) c
 case add|sub|mul=>
  obtain⟨k,⟨_,rfl⟩,c⟩:=c;exact .pure (v:=.int u _) (by simp[execOp,f,g,i,e,binOp,Op.intArith]) (.int u _) c
 case and|or|xor|andNot=>
  obtain⟨k,⟨_,rfl⟩,c⟩:=c;exact .pure (v:=.int u _) (by simp only[execOp,f,g,i,Sem.run_bind,e,binOp,Op.intBits];simp) (.int u _) c
 all_goals exact .pure (v:=.bool _) (by simp[execOp,f,g,i,e,binOp,Op.intCmp]) (.bool _) c
theorem run_equalIn_bool (w:World) (c:Nat) (a b:Bool) (d:N.underlying G=some .bool):(Op.equalIn (c+1) G (.bool a) (.bool b)).run N w=.ok (a==b) w:=by simp[Op.equalIn,run_underlying d]
theorem run_eql_bool (w:World) (a b:Bool) (c:N.underlying G=some .bool):(binOp .eql G (.bool a) (.bool b)).run N w=.ok (.bool (a==b)) w:=by simp only[binOp];simp[Op.equal,Op.maxDepth,run_equalIn_bool w 9999 a b c]
theorem run_neq_bool (w:World) (a b:Bool) (c:N.underlying G=some .bool):(binOp .neq G (.bool a) (.bool b)).run N w=.ok (.bool (!(a==b))) w:=by simp only[binOp];simp[Op.equal,Op.maxDepth,run_equalIn_bool w 9999 a b c]
theorem GQ (t:bt C st a.tmps w I rt fp) {i:BinOp} {D:TypeId} (q:o.op=.binOp i G b h D) (B:∀j k:Bool,(i=.eql\/i=.neq)->(aO st.g b=.val .bool j/\aO st.g h=.val .bool k)->E.P.underlying G=some .bool) (d:(CA i (aO st.g b) (aO st.g h)).K Q):Yields E C st a w I rt fp o Q:=by
 have e:=t.aO b;have f:=t.aO h;unfold CA at d;split at d
 ·rename_i H L J M n p;rw[n] at e;rw[p] at f;obtain⟨c,m⟩:∃c,c=a.eval b:=⟨_,rfl⟩;obtain⟨F,l⟩:∃c,c=a.eval h:=⟨_,rfl⟩;rw[<-m] at e;rw[<-l] at f;cases e with|val r=>cases f with|val s=>
  obtain⟨_,rfl⟩:=r;obtain⟨_,rfl⟩:=s;exact RW q m.symm l.symm d
 ·rename_i j k n p;have l:=B j k;have A:aO st.g b=.val .bool j/\aO st.g h=.val .bool k:=⟨n,p⟩;rw[n] at e;rw[p] at f;obtain⟨c,m⟩:∃c,c=a.eval b:=⟨_,rfl⟩;obtain⟨F,x⟩:∃c,c=a.eval h:=⟨_,rfl⟩;rw[<-m] at e;rw[<-x] at f;cases e with|val r=>cases f with|val s=>
  obtain⟨_,rfl⟩:=r;obtain⟨_,rfl⟩:=s;have z:a.eval b=.bool j:=m.symm;have y:a.eval h=.bool k:=x.symm;have u:∀w,(eqGuard i G b h (.bool j) (.bool k)).run E.P w=.ok () w:=λw=>(by unfold eqGuard;cases i<;>simp);split at d
  ·have:=l (.inl rfl) A;exact .pure (v:=.bool _) (by simp only[execOp,q,z,y,Sem.run_bind,u,Result.andThen_ok,run_eql_bool _ _ _ this];rfl) (.bool _) d
  ·have:=l (.inr rfl) A;exact .pure (v:=.bool _) (by simp only[execOp,q,z,y,Sem.run_bind,u,Result.andThen_ok,run_neq_bool _ _ _ this];rfl) (.bool _) d
  exact d.elim
 exact d.elim
end
end
section
section
variable {E:dW} {C:dn} {st:aJ} {a:Act} {w:World} {I:Nat->Prop} {rt:Nat->cS} {fp:Nat->cY} {o:Oper} {Q:al->List (Nat×aC)->Prop}
theorem bt.notM (d:bt C st A w I rt fp) {id:Nat} (g:ao st.h id=some F):∀a∈fp id,∀c,¬ba I C.B c a:=λa e c f=>by
 have:=(d.tree id F g).2.2 a e;rcases lN f with b|b
 ·exact this.1 b
 exact this.2.1 b
theorem bt.jq (e:bt C st A w I rt fp) {id:Nat} (f:ao st.h id=some F) {p:List aV} {τ:ag} {g:τ.den} (o:c4 F.1 F.2 p τ g) (q:aP w F.1 none (rt id) p d v i):∃_e:d=τ,∃a,aN (ba I C.B) w τ i g a/\nH w v i τ.size/\∀c∈a,c∈fp id:=by obtain⟨s,r,_⟩:=e.tree id F f;obtain⟨u,t,a,x,j,k,l,m,_⟩:=AF p (loc:=none) s (λ_ _ b=>by cases b) r (λ_ _ b=>by cases b) (e.notM f) o;obtain⟨rfl,rfl,rfl⟩:=q.ih j;exact⟨rfl,a,k,l,λc n=>m.mem_iff.2 (by simp[n])⟩
theorem bt.Ly (c:bt C st A w I rt fp) {id:Nat} (f:ao st.h id=some F) (e:aP w F.1 none (rt id) l d v i):i.length=d.size/\∀a o,v=some (a,o)->dK w a o i:=e.at (c.tree id F f).1.len (λ_ _ b=>by cases b)
theorem nh {u:c5->Nat->Prop}:∀{p:List aV} {τ:ag} {E:Loc} {j:cS} {q:τ.den} {h:cY} {e:ag} {F:Loc} {r:cS},aN u w τ j q h->aP w τ E j p (.optr e) F r->∃c o d,r=[.pointer (some ⟨c,o,none⟩)]/\d.length=e.size/\dK w c o d
 |[],τ,_,_,_,_,_,_,_,a,b=>by obtain⟨rfl,rfl,rfl⟩:=aP.eR.1 b;obtain⟨c,o,h,d,l,_,m,g,_⟩:=a;exact⟨c,o,d,l,m,g⟩
 |s::p,τ,_,j,q,h,_,_,_,a,b=>by
  cases τ<;>cases s<;>simp only[aP] at b
  case osl.idx e i=>
   obtain⟨c,o,N,J,d,rfl,t,m,g,n⟩:=b;obtain⟨I,K,f,a⟩:=a;simp only[fK,Value.slice.injEq,and_true] at f;obtain⟨rfl,rfl,rfl⟩:=f;rcases a with⟨k,_⟩|⟨v,G,B,k,_,ar,O,P,H⟩
   ·cases k
   cases k;obtain⟨z,L,x,y⟩:=H i q[i] (B[i]'(by omega)) ab ab
   obtain rfl:=g.eq x U;exact nh (p:=p) y n
  case optr.deref e=>
   obtain⟨c,o,d,rfl,m,g,n⟩:=b;obtain⟨v,G,h,z,f,_,M,C,_,D⟩:=a;simp only[fK,Value.pointer.injEq,bI,Addr.mk.injEq,and_true] at f;obtain⟨rfl,rfl⟩:=f;obtain rfl:=g.eq C U;exact nh (p:=p) D n
  case st.unst e=>exact nh (p:=p) (τ:=e) a b
  case pr.fst t1 t2=>obtain⟨A,f2,_,l,_⟩:=a;exact nh (p:=p) (τ:=t1) l b
  case pr.snd t1 t2=>obtain⟨A,f2,_,_,t⟩:=a;exact nh (p:=p) (τ:=t2) t b
def eY (tt:List (TypeId×ag)) (a:TypeId):Option ag:=match ao tt a with|some (.a7 _ b)=>some b|_=>none
def jX (tt:List (TypeId×ag)) (a:TypeId):Option ag:=match ao tt a with|some (.st b)=>some b|_=>none
theorem eY.ok {b:TypeId} {e:ag} (c:eY E.tt b=some e):∃d a,E.P.info? b=some d/\E.P.underlying b=some (.slice a)/\dF E.P e a:=by
 unfold eY at c;split at c
 ·rename_i j k i;cases c;obtain⟨d,a,f,_,_,_,g,h⟩:=E.ok b _ i;exact⟨d,a,f,g,h⟩
 cases c
theorem jX.ok {c:TypeId} {e:ag} (b:jX E.tt c=some e):∃a d,E.P.underlying c=some (.struct a)/\g7 E.P e a.toList 0 d:=by
 unfold jX at b;split at b
 ·rename_i k h;cases b;obtain⟨_,j,a,d,i,_,_,_,f,g,_⟩:=E.ok c _ h;exact⟨a,d.toList,f,g⟩
 cases b
def sy (tt:List (TypeId×ag)) (e:List (Nat×aC)) (g:TypeId) (b:al):gx:=
 match eY tt g with
 |none=>.bad
 |some _=>match b with
  |.val (.a7 _ _) a=>.dv (.val (.int .i64) (a.length:Int)) []
  |.bP (.slice none 0 0)=>.dv (.val (.int .i64) (0:Int)) []
  |.ref id d=>match ao e id with
   |some ⟨c,b⟩=>match dI c d with
    |some (.osl f)=>.part (List f.den) (λa=>c4 c b d (.osl f) a) (λa=>(.val (.int .i64) (a.length:Int),[]))
    |_=>.bad
   |none=>.bad
  |.view _ _ i h=>.dv (.val (.int .i64) ((h-i:Nat):Int)) []
  |.app id d c j _=>match ao e id with
   |some ⟨k,b⟩=>.part (List c.den) (λa=>c4 k b d (.osl c) a) (λa=>(.val (.int .i64) ((a.length+j.length:Nat):Int),[]))
   |none=>.bad
  |_=>.bad
theorem uB (f:eY E.tt G=some d) (h:o.op=.call {callee:=.builtin .len,args:=#[b],argTypes:=#[G]}) (i:a.eval b=.slice r c g):(execOp a.eval o).run E.P w=.ok (.value (.int .i64 c)) w:=by obtain⟨k,j,_,e,_⟩:=eY.ok f;simp[execOp,h,resolve,invoke,builtin,i,Builtin.len_,run_underlying e,goInt]
theorem UW (s:bt C st a.tmps w I rt fp) (j:o.op=.call {callee:=.builtin .len,args:=#[b],argTypes:=#[G]}) (c:(sy E.tt st.h G (aO st.g b)).K Q):Yields E C st a w I rt fp o Q:=by
 have d:=s.aO b;unfold sy at c;split at c
 ·exact c.elim
 rename_i T i;generalize f:a.eval b=U at d;split at c
 ·rename_i R B u e;rw[e] at d;cases d with|val A=>
  obtain⟨_,p,q,rfl,_⟩:=A;exact .pure (uB i j f) (.int _ _) c
 ·rename_i e;rw[e] at d;cases d;exact .pure (uB i j f) (.int _ _) c
 ·rename_i id t e;rw[e] at d;split at c
  ·rename_i F D l;split at c
   ·rename_i B O;obtain⟨u,m,c⟩:=c;cases d with|ref k n=>
    rw[l] at k;cases k;obtain⟨rfl,H,z,_⟩:=s.jq l m n;obtain⟨p,q,rfl,_⟩:=z;exact .pure (uB i j f) (.int _ _) c
   exact c.elim
  exact c.elim
 ·rename_i id t P M e;rw[e] at d;cases d with
  |kv=>exact .pure (uB i j f) (.int _ _) c
  |view k n=>exact .pure (uB i j f) (.int _ _) c
 ·rename_i id t F V S e;rw[e] at d;split at c
  ·rename_i W D l;obtain⟨u,m,c⟩:=c;cases d with|app k N n x J L v=>
   rw[l] at k;cases k;obtain⟨p,q,r,_⟩:=v;simp only[fK,and_true] at r;have y:=c4.uniq m x;subst y;rw[r] at f;have:=uB (w:=w) i j f;rw[lA] at this;exact .pure this (.int _ _) c
  exact c.elim
 exact c.elim
theorem aP.Iq {o:Nat} (a:g<M) (b:i.length=d.size) (e:dK w c (o+g*d.size) i):aP w (.osl d) v [.slice (some ⟨c,o,none⟩) M O] [.idx g] d (some (c,o+g*d.size)) i:=⟨c,o,M,O,i,rfl,a,b,e,aP.here⟩
theorem aP.C5 {o:Nat} (a:i.length=d.size) (b:dK w c o i):aP w (.optr d) v [.pointer (some ⟨c,o,none⟩)] [.deref] d (some (c,o)) i:=⟨c,o,i,rfl,a,b,aP.here⟩
def su (
 tt:List (TypeId×ag)) (i:List (Nat×aC)) (k:TypeId) (e d:al):gx:=
 match eY tt k with
 |none=>.bad
 |some g=>match d with
  |.val (.int _) d=>match e with
   |.val (.a7 m b) n=>bif a2 g b then .part b.den (λh=>ay n d=some h) (λh=>(.val (.ptr m b) (some h),[])) else .bad
   |.ref id c=>match ao i id with
    |some ⟨f,e⟩=>match dI f c with
     |some (.osl b)=>bif a2 g b then .part (List b.den×Nat) (λa=>c4 f e c (.osl b) a.1/\d=(a.2:Int)/\a.2<a.1.length) (λa=>(.addr id (c++[.idx a.2]),[])) else .bad
     |_=>.bad
    |none=>.bad
   |.view id c j l=>match ao i id with
    |some ⟨f,e⟩=>match dI f c with
     |some (.osl b)=>bif a2 g b then .part (List b.den×Nat) (λa=>c4 f e c (.osl b) a.1/\d=(a.2:Int)/\a.2<l-j) (λa=>(.addr id (c++[.idx (j+a.2)]),[])) else .bad
     |_=>.bad
    |none=>.bad
   |_=>.bad
  |_=>.bad
theorem DI {e:ag} (k:eY E.tt G=some e) (m:a2 e d=true) (n:o.op=.indexAddr G h b) {f:Nat} (q:a.eval h=.slice (some ⟨M,O,none⟩) g f) (l:a.eval b=.int u c) (t:c<g):(execOp a.eval o).run E.P w=.ok (.value (.pointer (some ⟨M,O+c*d.size,none⟩))) w:=by obtain⟨v,r,_,i,j⟩:=eY.ok k;have p:=(j.lay m).sizeOf w;have:(0:Int)<=(c:Int)/\(c:Int)<(g:Int):=⟨U,U⟩;simp[execOp,n,q,l,Instr.indexAt,asIntOf,run_underlying i,this,p,Addr.add_lit];intro s;omega
theorem Uo (B:bt C st a.tmps w I rt fp) {z:Operand} (N:o.op=.indexAddr G z b) (c:(su E.tt st.h G (aO st.g z) (aO st.g b)).K Q):Yields E C st a w I rt fp o Q:=by
 have l:=B.aO z;have M:=B.aO b;unfold su at c;split at c
 ·exact c.elim
 rename_i V L;generalize O:a.eval z=d7 at l;generalize P:a.eval b=d8 at M;split at c
 case h_2=>exact c.elim
 rename_i am R a3;rw[a3] at M;cases M with|val T=>
 obtain⟨_,rfl⟩:=T;split at c
 ·rename_i cv f y q;cases d:a2 V f with
  |false=>rw[d] at c;exact c.elim
  |true=>
   rw[d] at c;obtain⟨W,co,c⟩:=c;rw[q] at l;cases l with|val T=>
   obtain⟨_,X,Y,rfl,ar,an,S⟩:=T;obtain⟨aj,Z,a0⟩:=Ia co;rcases S with rfl|⟨A,u,rfl,bl,v⟩
   ·simp at Z
   obtain⟨F,n,p,D⟩:=v _ _ a0;have ci:a.eval b=.int am (R.toNat:Nat):=(by rw[P];show Value.int am R=_;rw[<-aj]);exact .pure (DI L d N O ci Z) (.val (τ:=.ptr cv f) (x:=some W) (cs:=[.pointer (some ⟨A,u+R.toNat*f.size,none⟩)]) ⟨rfl,A,_,F,rfl,bl,n,p,D⟩) c
 ·rename_i id dl q;split at c
  case h_2=>exact c.elim
  rename_i ap W k;split at c
  case h_2=>exact c.elim
  rename_i f ce;cases d:a2 V f with
  |false=>rw[d] at c;exact c.elim
  |true=>
   rw[d] at c;obtain⟨⟨y,e⟩,⟨r,rfl,i⟩,c⟩:=c;simp only at r i c;rw[q] at l;cases l with|ref t s=>
   rw[k] at t;cases t;obtain⟨rfl,a4,j,_⟩:=B.jq k r s;obtain⟨X,Y,rfl,j⟩:=j;rcases j with⟨_,rfl,_⟩|⟨A,u,H,rfl,_,ar,an,S,v⟩
   ·simp at i
   obtain⟨F,n,p,D⟩:=v e y[e] (H[e]'(by omega)) ab ab
   exact .pure (DI L d N O P i) (.addr k (s.append (aP.Iq i n p))) c
 ·rename_i id dl m d1 q;split at c
  case h_2=>exact c.elim
  rename_i ap W k;split at c
  case h_2=>exact c.elim
  rename_i f ce;cases d:a2 V f with
  |false=>rw[d] at c;exact c.elim
  |true=>
   rw[d] at c;obtain⟨⟨y,e⟩,⟨r,rfl,i⟩,c⟩:=c;simp only at r i c;rw[q] at l;cases l with|kv=>(exact absurd i U)|view t s d2 d3 d4=>
   rename_i A u d5 Y;rw[k] at t;cases t;obtain⟨av,a4,j,_⟩:=B.jq k r s;cases av;obtain⟨X,d0,ad,j⟩:=j;simp only[fK,Value.slice.injEq,and_true] at ad;obtain⟨rfl,rfl,rfl⟩:=ad;rcases j with⟨J,_⟩|⟨ds,d6,H,J,_,ar,an,S,v⟩
   ·cases J
   cases J;have bs:m+e<y.length:=U;obtain⟨F,n,p,D⟩:=v (m+e) y[m+e] (H[m+e]'(by omega)) ab ab
   have:=DI (w:=w) L d N O P i;rw[if_neg U,show u+m*f.size+e*f.size=u+(m+e)*f.size by rw[eL];omega] at this;exact .pure this (.addr k (s.append (aP.Iq bs n p))) c
 exact c.elim
theorem aN.pure {h:c5->Nat->Prop} {w:World}:∀{τ:ag} {i:cS} {e:τ.den} {g:cY},τ.pure=true->aN h w τ i e g->g=[]
 |.int _,_,_,_,_,b=>b.1
 |.bool,_,_,_,_,b=>b.1
 |.str,_,_,_,_,b=>b.1
 |.a7 _ _,_,_,_,_,b=>b.1
 |.ptr _ _,_,_,_,_,b=>b.1
 |.nil,_,_,_,_,b=>b.1
 |.st k,_,_,_,c,b=>aN.pure (τ:=k) c b
 |.pr a f,_,_,_,c,b=>by simp only[ag.pure,bd] at c;obtain⟨n,f2,rfl,j,d⟩:=b;rw[aN.pure (τ:=a) c.1 j,aN.pure (τ:=f) c.2 d];rfl
 |.osl _,_,_,_,c,_=>by cases c
 |.optr _,_,_,_,c,_=>by cases c
 |.dC _ _,_,e,_,_,b=>by
  cases e with
  |none=>exact b.1
  |some o=>obtain⟨f,m,l,_,d,_⟩:=b;exact d
 |.c6,_,_,_,c,_=>by cases c
def sT (d:ag) (e:d.den) (id:Nat) (c:List aV) (a:ag):gx:=
 bif a.pure then .part a.den (λb=>c4 d e c a b) (λb=>(.val a b,[])) else .dv (.ref id c) []
def sz (tt:List (TypeId×ag)) (f:List (Nat×aC)) (g:TypeId) (c:al):gx:=
 match ao tt g with
 |none=>.bad
 |some e=>match c with
  |.val (.ptr _ a) (some h)=>bif a2 e a then .dv (.val a h) [] else .bad
  |.addr id b=>match ao f id with
   |some ⟨d,c⟩=>match dI d b with
    |some a=>bif a2 e a then sT d c id b a else .bad
    |none=>.bad
   |none=>.bad
  |.ref id b=>match ao f id with
   |some ⟨d,c⟩=>match dI d b with
    |some (.optr a)=>bif a2 e a then sT d c id (b++[.deref]) a else .bad
    |_=>.bad
   |none=>.bad
  |_=>.bad
theorem D3 {e:ag} (f:ao E.tt G=some e) (k:a2 e d=true) (l:o.op=.load G b) (m:a.eval b=.pointer (some ⟨c,g,none⟩)) (h:dK w c g i) (j:i.length=d.size):(execOp a.eval o).run E.P w=.ok (.value (bH d i)) w:=by have:=LJ ((E.ok G e f).lay k) h j;simp[execOp,l,m,Instr.loadAt,Instr.sureAddr,this]
theorem E0 (n:bt C st a.tmps w I rt fp) {id:Nat} {c:ag} {m:c.den} (k:ao st.h id=some ⟨c,m⟩) (f:aP w c none (rt id) l d v i) (g:(execOp a.eval o).run E.P w=.ok (.value (bH d i)) w) (b:(sT c m id l d).K Q):Yields E C st a w I rt fp o Q:=by
 unfold sT at b;cases e:d.pure with
 |true=>
  rw[e] at b;obtain⟨r,p,b⟩:=b;obtain⟨_,q,j,_⟩:=n.jq k p f;have:=j.pure e;subst this;exact .pure g (.val j) b
 |false=>
  rw[e] at b;exact .pure g (.ref k f) b
theorem U1 (k:bt C st a.tmps w I rt fp) (p:o.op=.load G b) (c:(sz E.tt st.h G (aO st.g b)).K Q):Yields E C st a w I rt fp o Q:=by
 have i:=k.aO b;unfold sz at c;split at c
 ·exact c.elim
 rename_i t n;generalize r:a.eval b=O at i;split at c
 ·rename_i N m x j;cases d:a2 t m with
  |false=>rw[d] at c;exact c.elim
  |true=>
   rw[d] at c;rw[j] at i;cases i with|val H=>
   obtain⟨_,y,A,z,rfl,ar,s,D,F⟩:=H;exact .pure (D3 n d p r D s) (.val F) c
 ·rename_i id B j;split at c
  case h_2=>exact c.elim
  rename_i J x f;split at c
  case h_2=>exact c.elim
  rename_i m q;cases d:a2 t m with
  |false=>rw[d] at c;exact c.elim
  |true=>
   rw[d] at c;rw[j] at i;cases i with|addr l e=>
   rw[f] at l;cases l;have:=e.ty;rw[q] at this;cases this;obtain⟨ar,s⟩:=k.Ly f e;exact E0 k f e (D3 n d p r (s _ _ rfl) ar) c
 ·rename_i id B j;split at c
  case h_2=>exact c.elim
  rename_i J x f;split at c
  case h_2=>exact c.elim
  rename_i m q;cases d:a2 t m with
  |false=>rw[d] at c;exact c.elim
  |true=>
   rw[d] at c;rw[j] at i;cases i with|ref l e=>
   rename_i P M L;rw[f] at l;cases l;have:=e.ty;rw[q] at this;cases this;obtain⟨y,A,z,rfl,u,v⟩:=nh (k.tree id _ f).1 e;exact E0 k f (e.append (aP.C5 u v)) (D3 n d p r v u) c
 exact c.elim
def sm (tt:List (TypeId×ag)) (g:List (Nat×aC)) (h:TypeId) (k:al) (c:Nat):gx:=
 match jX tt h with
 |none=>.bad
 |some e=>match k with
  |.val (.ptr i (.st a)) (some l)=>bif a2 e a then match pa a l c with
   |some ⟨j,m⟩=>.dv (.val (.ptr i j) (some m)) []
   |none=>.bad
   else .bad
  |.ref id b=>match ao g id with
   |some ⟨f,_⟩=>match dI f b with
    |some (.optr (.st a))=>bif a2 e a then match dS a c with
     |some (d,_)=>.dv (.addr id (b++(.deref::.unst::d))) []
     |none=>.bad
     else .bad
    |_=>.bad
   |none=>.bad
  |.addr id b=>match ao g id with
   |some ⟨f,_⟩=>match dI f b with
    |some (.st a)=>bif a2 e a then match dS a c with
     |some (d,_)=>.dv (.addr id (b++(.unst::d))) []
     |none=>.bad
     else .bad
    |_=>.bad
   |none=>.bad
  |_=>.bad
theorem Du {h:ag} (n:jX E.tt G=some h) (r:a2 h d=true) {f:ag} (u:dS d c=some (l,f)) (s:o.op=.fieldAddr G b c) (v:a.eval b=.pointer (some ⟨g,M,none⟩)):(execOp a.eval o).run E.P w=.ok (.value (.pointer (some ⟨g,M+dj d c,none⟩))) w:=by obtain⟨j,y,k,m⟩:=jX.ok n;obtain⟨i,p,t,e⟩:=Dv (g7.lay r m) u;have x:f.size≠0:=(by have:=e.pos;omega);have q:j[c]?=some i:=(by simpa using p);simp[execOp,s,v,Instr.fieldAt,run_underlying k,q,Instr.sureAddr,fieldPlace,e.sizeOf,x,Addr.add_lit,t]
theorem TQ (H:bt C st a.tmps w I rt fp) (y:o.op=.fieldAddr G b c) (d:(sm E.tt st.h G (aO st.g b) c).K Q):Yields E C st a w I rt fp o Q:=by
 have m:=H.aO b;unfold sm at d;split at d
 ·exact d.elim
 rename_i D v;generalize A:a.eval b=am at m;split at d
 ·rename_i U e N r;cases i:a2 D e with
  |false=>rw[i] at d;exact d.elim
  |true=>
   rw[i] at d;simp only[cond_true] at d;split at d
   case h_2=>exact d.elim
   rename_i n Z J;rw[r] at m;cases m with|val X=>
   obtain⟨_,f,j,u,rfl,ar,ad,W,L⟩:=X;obtain⟨t,k⟩:=Dy J;obtain⟨M,Y⟩:=Dx (τ:=e) L J;have S:=L.len;simp only[ag.size] at S M Y;exact .pure (Du v i k y A) (.val (τ:=.ptr U n) (x:=some Z) (cs:=[.pointer (some ⟨f,j+dj e c,none⟩)]) ⟨rfl,f,_,_,rfl,ar,by simp;omega,W.drop.take,M⟩) d
 ·rename_i id V r;split at d
  case h_2=>exact d.elim
  rename_i O N q;split at d
  case h_2=>exact d.elim
  rename_i e z;cases i:a2 D e with
  |false=>rw[i] at d;exact d.elim
  |true=>
   rw[i] at d;simp only[cond_true] at d;split at d
   case h_2=>exact d.elim
   rename_i t n k;rw[r] at m;cases m with|ref s p=>
   rw[q] at s;cases s;have:=p.ty;rw[z] at this;cases this;obtain⟨f,j,u,rfl,P,R⟩:=nh (H.tree id _ q).1 p;rename_i T;have B:aP w (.optr (.st e)) T [.pointer (some ⟨f,j,none⟩)] (.deref::.unst::t) n (some (f,j+dj e c)) ((u.drop (dj e c)).take n.size):=⟨f,j,u,rfl,P,R,aP.AE (l:=some (f,j)) k⟩;exact .pure (Du v i k y A) (.addr q (p.append B)) d
 ·rename_i id V r;split at d
  case h_2=>exact d.elim
  rename_i O N q;split at d
  case h_2=>exact d.elim
  rename_i e z;cases i:a2 D e with
  |false=>rw[i] at d;exact d.elim
  |true=>
   rw[i] at d;simp only[cond_true] at d;split at d
   case h_2=>exact d.elim
   rename_i t n k;rw[r] at m;cases m with|addr s p=>
   rw[q] at s;cases s;have:=p.ty;rw[z] at this;cases this;rename_i f j F;have B:aP w (.st e) (some (f,j)) F (.unst::t) n (some (f,j+dj e c)) ((F.drop (dj e c)).take n.size):=aP.AE (l:=some (f,j)) k;exact .pure (Du v i k y A) (.addr q (p.append B)) d
 exact d.elim
def uq (
 tt:List (TypeId×ag)) (i:List (Nat×aC)) (h:TypeId) (c:al) (d:Nat):gx:=
 match jX tt h with
 |none=>.bad
 |some f=>match c with
  |.val (.st a) k=>bif a2 f a then match pa a k d with
   |some ⟨b,l⟩=>.dv (.val b l) []
   |none=>.bad
   else .bad
  |.ref id e=>match ao i id with
   |some ⟨g,c⟩=>match dI g e with
    |some (.st a)=>bif a2 f a then match dS a d with
     |some (j,b)=>sT g c id (e++(.unst::j)) b
     |none=>.bad
     else .bad
    |_=>.bad
   |none=>.bad
  |_=>.bad
theorem HX {m:ag} (s:jX E.tt G=some m) (v:a2 m d=true) {e:ag} (y:dS d c=some (l,e)) (x:o.op=.field G b c) (z:a.eval b=bH (.st d) i) (C:dj d c+e.size<=i.length):(execOp a.eval o).run E.P w=.ok (.value (bH e ((i.drop (dj d c)).take e.size))) w:=by
 obtain⟨n,F,q,r⟩:=jX.ok s;obtain⟨g,t,k,f⟩:=Dv (g7.lay v r) y;have D:=f.pos;have u:n[c]?=some g:=(by simpa using t);simp only[hX] at k;have A:a.eval b=.agg i.toArray:=z;have B:(part g.type i.toArray g.offset).run E.P w=.ok (bH e ((i.drop (dj d c)).take e.size)) w:=by
  simp only[part,Sem.run_bind,f.isAgg,Result.andThen_ok,k];cases h:n6 e with
  |true=>
   rw[BA h];simp only[if_true,Sem.run_bind,f.sizeOf,Result.andThen_ok,Sem.run_pure];congr 2;apply Array.ext';rw[Array.toList_extract,List.extract_eq_take_drop,lB]
  |false=>
   have p:=EK f h;rw[Bz h,p];have j:dj d c<i.length:=U;have:(i.drop (dj d c)).take 1=[i[dj d c]]:=(by rw[Cf j];rfl);rw[this];simp[j]
 simp[execOp,x,A,Instr.field,run_underlying q,u,asAgg,B]
theorem TS (m:bt C st a.tmps w I rt fp) (u:o.op=.field G b c) (d:(uq E.tt st.h G (aO st.g b) c).K Q):Yields E C st a w I rt fp o Q:=by
 have j:=m.aO b;unfold uq at d;split at d
 ·exact d.elim
 rename_i B s;generalize x:a.eval b=P at j;split at d
 ·rename_i f J l;cases e:a2 B f with
  |false=>rw[e] at d;exact d.elim
  |true=>
   rw[e] at d;simp only[cond_true] at d;split at d
   case h_2=>exact d.elim
   rename_i q R t;rw[l] at j;cases j with|val z=>
   obtain⟨A,i⟩:=Dy t;obtain⟨H,O⟩:=Dx (τ:=f) z t;have F:=z.len;simp only[ag.size] at F;exact .pure (HX s e i u x (by simp only at*;omega)) (.val H) d
 ·rename_i id M l;split at d
  case h_2=>exact d.elim
  rename_i L J p;split at d
  case h_2=>exact d.elim
  rename_i f D;cases e:a2 B f with
  |false=>rw[e] at d;exact d.elim
  |true=>
   rw[e] at d;simp only[cond_true] at d;split at d
   case h_2=>exact d.elim
   rename_i A q i;rw[l] at j;cases j with|ref v n=>
   rename_i S y r;rw[p] at v;cases v;have:=n.ty;rw[D] at this;cases this;obtain⟨ar,N⟩:=m.Ly p n;have k:aP w (.st f) y r (.unst::A) q (y.map λk=>(k.1,k.2+dj f c)) ((r.drop (dj f c)).take q.size):=aP.AE i;exact E0 m p (n.append k) (HX s e i u x (by rw[ar];exact ur i)) d
 exact d.elim
def sG (f:List (Nat×aC)) (b:al):gx:=
 match b with
 |.val (.ptr h d) b=>.part d.den (λc=>b=some c) (λc=>(.val (.ptr h d) (some c),[]))
 |.ref id a=>match ao f id with
  |some ⟨i,_⟩=>match dI i a with
   |some (.optr _)=>.dv (.ref id a) []
   |_=>.bad
  |none=>.bad
 |.addr id a=>.dv (.addr id a) []
 |.dg e g=>.dv (.dg e g) []
 |_=>.bad
theorem VK (r:bt C st a.tmps w I rt fp) (l:o.op=.nilCheck b) (c:(sG st.h (aO st.g b)).K Q):Yields E C st a w I rt fp o Q:=by
 have d:=r.aO b;unfold sG at c;generalize m:a.eval b=H at d;split at c
 ·rename_i z n p e;obtain⟨p,rfl,c⟩:=c;rw[e] at d;cases d with|val G=>
  obtain⟨_,f,k,q,rfl,ar,B,D,F⟩:=G;exact .pure (v:=.pointer (some ⟨f,k,none⟩)) (by simp[execOp,l,m,bH]) (.val (τ:=.ptr z n) (x:=some p) (cs:=[.pointer (some ⟨f,k,none⟩)]) ⟨rfl,f,k,q,rfl,ar,B,D,F⟩) c
 ·rename_i id A e;split at c
  case h_2=>exact c.elim
  rename_i J p j;split at c
  case h_2=>exact c.elim
  rename_i n y;rw[e] at d;cases d with|ref s i=>
  rw[j] at s;cases s;have:=i.ty;rw[y] at this;cases this;obtain⟨f,k,q,rfl,L,M⟩:=nh (r.tree id _ j).1 i;exact .pure (v:=.pointer (some ⟨f,k,none⟩)) (by simp[execOp,l,m,bH]) (.ref (τ':=.optr n) j i) c
 ·rename_i id A e;rw[e] at d;cases d with|addr j i=>
  exact .pure (by simp[execOp,l,m]) (.addr j i) c
 ·rename_i N O e;rw[e] at d;cases d with|dg u t=>
  exact .pure (by simp[execOp,l,m]) (.dg u t) c
 exact c.elim
def p9 (d:Option al) (b a:Nat):Prop:=
 match d with
 |none=>a=b
 |some (.val (.int _) c)=>c=(a:Int)
 |some _=>False
def s0 (tt:List (TypeId×ag)) (k:List (Nat×aC)) (j:TypeId) (d:al) (g f:Option al):gx:=
 match eY tt j with
 |none=>.bad
 |some h=>match d with
  |.val (.a7 l b) e=>bif a2 h b then
   .part cI (λa=>p9 g 0 a.1/\p9 f e.length a.2/\a.1<=a.2/\a.2<=e.length) (λa=>(.val (.a7 l b) ((e.take a.2).drop a.1),[])) else .bad
  |.ref id c=>match ao k id with
   |some ⟨i,d⟩=>match dI i c with
    |some (.osl b)=>bif a2 h b then
     .part (List b.den×Nat×Nat) (λa=>c4 i d c (.osl b) a.1/\p9 g 0 a.2.1/\p9 f a.1.length a.2.2/\a.2.1<=a.2.2/\a.2.2<=a.1.length) (λa=>(.view id c a.2.1 a.2.2,[])) else .bad
    |_=>.bad
   |none=>.bad
  |_=>.bad
def CC (a:Act) (e:cP) (c b:Nat):Prop:=
 match e with
 |none=>b=c
 |some f=>∃d,a.eval f=.int d b
theorem Fh {l:ag} (v:eY E.tt G=some l) (x:a2 l d=true) {h e:cP} (y:o.op=.slice G b h e none) (A:a.eval b=.slice r O M) (k:CC a h 0 g) (f:CC a e O c) (q:g<=c) (s:c<=M):(execOp a.eval o).run E.P w=.ok (.value (.slice (if M=g then r else r.map (·.add (g*d.size))) (c-g) (M-g))) w:=by
 obtain⟨F,D,_,t,u⟩:=eY.ok v;have z:=(u.lay x).sizeOf w;have aj:(0:Int)<=(c:Int)/\(c:Int)<=(M:Int):=⟨U,U⟩;have m:(0:Int)<=(g:Int)/\(g:Int)<=(c:Int):=⟨U,U⟩;have n:(Instr.sliceBounds true O M (h.map a.eval) (e.map a.eval) none).run E.P w=.ok (g,c,M) w:=by
  cases h with
  |none=>
   obtain rfl:g=0:=k;cases e with
   |none=>obtain rfl:c=O:=f;simp[Instr.sliceBounds]
   |some C=>obtain⟨B,i⟩:=f;simp[Instr.sliceBounds,Instr.sliceBound,i,asIntOf,aj];intro p;omega
  |some K=>
   obtain⟨H,j⟩:=k;cases e with
   |none=>obtain rfl:c=O:=f;simp[Instr.sliceBounds,Instr.sliceBound,j,asIntOf,m];intro p;omega
   |some C=>
    obtain⟨B,i⟩:=f;have I:¬M<c:=U;have J:¬c<g:=U;simp[Instr.sliceBounds,Instr.sliceBound,i,j,asIntOf,q,s]
 simp[execOp,y,A,Instr.sliceAt,Instr.slice,run_underlying t,n,z]
theorem tH (h:bt C st a.tmps w I rt fp) {e:cP} (b:p9 (e.map (aO st.g)) c M):CC a e c M:=by
 cases e with
 |none=>exact b
 |some f=>
  have:=h.aO f;simp only[fB,p9] at b;split at b
  ·rename_i d;cases d
  ·rename_i j l d;simp only[bI] at d;rw[d] at this;subst b;generalize i:a.eval f=m at this;cases this with|val k=>obtain⟨_,rfl⟩:=k;exact⟨j,i⟩
  exact b.elim
theorem ZV (f:bt C st a.tmps w I rt fp) {R k:cP} (A:o.op=.slice G b R k none) (c:(s0 E.tt st.h G (aO st.g b) (R.map (aO st.g)) (k.map (aO st.g))).K Q):Yields E C st a w I rt fp o Q:=by
 have t:=f.aO b;unfold s0 at c;split at c
 ·exact c.elim
 rename_i V z;generalize F:a.eval b=ds at t;split at c
 ·rename_i a3 e v y;cases i:a2 V e with
  |false=>rw[i] at c;exact c.elim
  |true=>
   rw[i] at c;obtain⟨⟨d,q⟩,⟨l,m,n,p⟩,c⟩:=c;simp only at l m n p c;rw[y] at t;cases t with|val bl=>
   obtain⟨_,L,s,rfl,ar,J,S⟩:=bl;have u:=Fh (w:=w) z i A F (tH f l) (tH f m) n U;have a0:((v.take q).drop d).length=q-d:=(by simp;omega);refine .pure u (.val (τ:=.a7 a3 e) (x:=(v.take q).drop d) (cs:=[_]) ⟨rfl,_,s-d,by rw[a0],U,?_,?_⟩) c
   ·intro M;by_cases am:s=d
    ·omega
    rw[if_neg am] at M;cases L with
    |none=>have:=J rfl;omega
    |some _=>cases M
   by_cases cv:q=d
   ·left;apply lv;omega
   right;rcases S with rfl|⟨r,j,rfl,ad,T⟩
   ·simp at p;omega
   refine⟨r,j+d*e.size,by rw[if_neg U];simp[Addr.add_lit],ad,λH W k=>?_⟩;have an:v[d+H]?=some W:=by
    rw[ke,rr] at k;split at k
    ·exact k
    cases k
   obtain⟨Z,X,ce,Y⟩:=T _ _ an;refine⟨Z,X,?_,Y⟩;rwa[show j+d*e.size+H*e.size=j+(d+H)*e.size by rw[eL];omega]
 ·rename_i id a4 y;split at c
  case h_2=>exact c.elim
  rename_i bs W D;split at c
  case h_2=>exact c.elim
  rename_i e dl;cases i:a2 V e with
  |false=>rw[i] at c;exact c.elim
  |true=>
   rw[i] at c;obtain⟨⟨v,d,q⟩,⟨N,l,m,n,p⟩,c⟩:=c;simp only at N l m n p c;rw[y] at t;cases t with|ref P O=>
   rw[D] at P;cases P;obtain⟨rfl,ci,B,_⟩:=f.jq D N O;obtain⟨L,s,rfl,B⟩:=B;rcases B with⟨rfl,rfl,rfl,_⟩|⟨r,j,co,rfl,_,ar,J,S,T⟩
   ·have ap:q=0:=(by simpa using p);subst ap;have av:d=0:=U;subst av;exact .pure (Fh (w:=w) z i A F (tH f l) (tH f m) (a8 _) (a8 _)) (.kv id a4) c
   have u:=Fh (w:=w) z i A F (tH f l) (tH f m) n U;have:(if s=d then some (⟨r,j,none⟩:Addr) else(some (⟨r,j,none⟩:Addr)).map (·.add (d*e.size)))=some ⟨r,if s=d then j else j+d*e.size,none⟩:=(by split<;>simp[Addr.add_lit]);rw[this] at u;exact .pure u (.view D O n p J) c
 exact c.elim
end
end
section
def hf:(i:ag)->cS->Option i.den
 |.int d,b=>match b with
  |[.int e n]=>if d=e then some n else none
  |_=>none
 |.bool,b=>match b with
  |[.bool c]=>some c
  |_=>none
 |.str,b=>match b with
  |[.string s]=>some s
  |_=>none
 |.a7 _ _,b=>match b with
  |[.slice none 0 0]=>some []
  |_=>none
 |.osl _,b=>match b with
  |[.slice none 0 0]=>some []
  |_=>none
 |.ptr _ _,b=>match b with
  |[.pointer none]=>some none
  |_=>none
 |.st f,b=>hf f b
 |.pr a c,b=>match hf a (b.take a.size),hf c (b.drop a.size) with
  |some g,some h=>some (g,h)
  |_,_=>none
 |.nil,b=>match b with
  |[]=>some ()
  |_=>none
 |.optr _,_=>none
 |.c6,_=>none
 |.mp _,_=>none
 |.dC _ _,_=>none
theorem nX {M:c5->Nat->Prop} {w:World}:∀{τ:ag} {d:cS} {c:τ.den},hf τ d=some c->aN M w τ d c []
 |.int j,d,c,b=>by
  simp only[hf] at b;split at b
  ·split at b
   ·rename_i f;cases b;subst f;exact⟨rfl,rfl⟩
   cases b
  cases b
 |.bool,d,c,b=>by simp only[hf] at b;split at b<;>cases b;exact⟨rfl,rfl⟩
 |.str,d,c,b=>by simp only[hf] at b;split at b<;>cases b;exact⟨rfl,rfl⟩
 |.a7 _ _,d,c,b=>by simp only[hf] at b;split at b<;>cases b;exact⟨rfl,none,0,rfl,a8 _,λ_=>rfl,.inl rfl⟩
 |.osl _,d,c,b=>by simp only[hf] at b;split at b<;>cases b;exact⟨none,0,rfl,.inl ⟨rfl,rfl,rfl,rfl⟩⟩
 |.ptr _ _,d,c,b=>by simp only[hf] at b;split at b<;>cases b;exact⟨rfl,rfl⟩
 |.st i,d,c,b=>nX (τ:=i) (by simp only[hf] at b;exact b)
 |.pr a e,d,c,b=>by
  simp only[hf] at b;split at b
  ·rename_i c k g h;cases b;exact⟨[],[],rfl,nX (τ:=a) g,nX (τ:=e) h⟩
  cases b
 |.nil,d,c,b=>by simp only[hf] at b;split at b<;>cases b;exact⟨rfl,rfl⟩
 |.optr _,d,c,b=>by simp only[hf] at b;cases b
 |.c6,d,c,b=>by simp only[hf] at b;cases b
 |.mp _,d,c,b=>by simp only[hf] at b;cases b
 |.dC _ _,d,c,b=>by simp only[hf] at b;cases b
theorem HY (d:Nat):∀(e:cS) (b:Nat) (c:cQ),let h:=(e.zipIdx b).foldl (λc (j:Value×Nat)=>c.setIfInBounds (d+j.2) j.1) c
 h.size=c.size/\(∀a,a<d+b\/d+b+e.length<=a->h[a]?=c[a]?)/\(d+b+e.length<=c.size->∀a f,e[a]?=some f->h[d+b+a]?=some f)
 |[],b,c=>⟨rfl,λ_ _=>rfl,λ_ a f k=>by simp at k⟩
 |x::e,b,c=>by
  obtain⟨l,i,m⟩:=HY d e (b+1) (c.setIfInBounds (d+b) x);simp only[List.zipIdx_cons,List.foldl_cons];refine⟨by rw[l];simp,λa n=>?_,λo a f g=>?_⟩
  ·simp only[hU] at n;rw[i a U,B8 U]
  simp only[hU] at o;cases a with
  |zero=>
   simp only[iL,bI] at g;subst g;rw[k4,i _ U];have:d+b<c.size:=U;simp[this]
  |succ a=>
   simp only[oG] at g;have:=m (by simp;omega) a f g;rwa[(U:d+(b+1)+a=d+b+(a+1))] at this
theorem wU (n:Nat->Option cI):∀(m:List (Nat×Value)) (d:cQ),(∀a∈m,∃f c,n a.1=some (f,c)/\a.2.cells.size=c/\f+c<=d.size)->(m.Pairwise λa j=>∀o c h k,n a.1=some (o,c)->n j.1=some (h,k)->o+c<=h\/h+k<=o)->∃j,Instr.fill n d m=some j/\j.size=d.size/\(∀b,(∀a∈m,∀o c,n a.1=some (o,c)->b<o\/o+c<=b)->j[b]?=d[b]?)/\(∀a∈m,∀o c,n a.1=some (o,c)->∀b e,a.2.cells[b]?=some e->j[o+b]?=some e)
 |[],d,_,_=>⟨d,rfl,rfl,λ_ _=>rfl,λa g=>by cases g⟩
 |(i,e)::m,d,w,u=>by
  obtain⟨f,c,p,I,N⟩:=w (i,e) ab;simp only at p I;rw[mP] at u;have H:e.cells.zipIdx.foldl (λl (a:Value×Nat)=>l.setIfInBounds (f+a.2) a.1) d=(e.cells.toList.zipIdx 0).foldl (λl (a:Value×Nat)=>l.setIfInBounds (f+a.2) a.1) d:=(by rw[<-Array.foldl_toList,Array.toList_zipIdx]);obtain⟨q,f2,r⟩:=HY f e.cells.toList 0 d;rw[<-H] at q f2 r;simp only[Array.length_toList] at f2 r;generalize F:e.cells.zipIdx.foldl (λl (a:Value×Nat)=>l.setIfInBounds (f+a.2) a.1) d=v at q f2 r;obtain⟨j,J,K,y,aL⟩:=wU n m v (λa g=>by
   obtain⟨h,k,B,C,D⟩:=w a (e2 _ g);exact⟨h,k,B,C,by rw[q];exact D⟩) u.2
  refine⟨j,?_,by rw[K,q],λb x=>?_,λa g h k s b z t=>?_⟩
  ·have E:(decide (e.cells.size≠c)||decide (f+e.cells.size>d.size))=false:=(by simp;omega);simp only[Instr.fill,p,E];rw[show(e.cells.zipIdx.foldl (λl L=>match L with|(A,b)=>l.setIfInBounds (f+b) A) d)=v from F];simpa using J
  ·rw[y b (λa g=>x a (e2 _ g)),f2 b (by have:=x (i,e) ab f c p;omega)]
  rcases dh.1 g with rfl|g
  ·simp only at s t;rw[p] at s;cases s;have M:b<e.cells.size:=(lW.1 t).1;rw[y (f+b) (λa g h k G=>by
    have:=u.1 a g f c h k p G;omega)]
   exact r U b z (by simpa using t)
  exact aL a g h k s b z t
section
variable {E:dW} {C:dn} {st:aJ} {a:Act} {w:World} {I:Nat->Prop} {rt:Nat->cS} {fp:Nat->cY} {o:Oper} {Q:al->List (Nat×aC)->Prop}
theorem dK.alloc {w:World} {c:cQ} {e:TypeId} {o:Nat} {d:cS} (f:∀a b,d[a]?=some b->c[o+a]?=some b):dK (w.alloc (.cells c e)) w.heap.size o d:=λa b g=>by rw[World.cell?_alloc_new];exact f a b g
theorem hE.alloc {w:World} {a:cQ} {c:TypeId} {d b:Nat} (e:b<=a.size):hE (w.alloc (.cells a c)) w.heap.size d b:=λg _ f=>by rw[World.cell?_alloc_new,World.frozen?_alloc_new];exact⟨by simp;omega,rfl⟩
theorem Yields.new {d:Nat} {t:aC} {e:Value} {cs:cS} {f:cY} {cells:cQ} {T:TypeId} (l:ao st.h d=none) (g:bt C st a.tmps w I rt fp) (p:(execOp a.eval o).run E.P w=.ok (.value e) (w.alloc (.cells cells T))) (r:e=bH t.1 cs) (q:aN (ba I C.B) (w.alloc (.cells cells T)) t.1 cs t.2 f) (j:∀c∈f,c=w.heap.size) (m:f.Nodup) (n:Q (.ref d []) [(d,t)]):Yields E C st a w I rt fp o Q:=by
 refine⟨e,_,I,λ_=>cs,λ_=>f,.ref d [],[(d,t)],p,.alloc w _,λ_ b=>b,λ_ b=>.inl b,.one l q m (λc i=>?_),?_,n⟩
 ·rw[j c i];exact⟨a8 _,ab,λb=>by have:=g.ib _ (.inl b);omega⟩
 rw[r];have k:ao ([(d,t)]++st.h) d=some t:=(by rw[yj,bU,if_pos rfl]);refine .ref (t:=t) (τ':=t.1) (loc:=none) k ?_;have:dA [(d,t)] (λ_=>cs) rt d=cs:=(by simp[dA,bU]);rw[this];exact aP.here
def sC (tt:List (TypeId×ag)) (g:List (Nat×ag)) (h:List (Nat×aC)) (b:Nat) (f:TypeId) (e d:al):gx:=
 match eY tt f,ao g b,ao h b with
 |some i,some (.osl c),none=>match kw c,e,d with
  |some j,.val (.int _) e,.val (.int _) d=>bif a2 i c&&Nat.ble c.size 2000 then
   .part cI (λa=>e=(a.1:Int)/\d=(a.2:Int)/\a.1<=a.2/\a.2<=e8) (λa=>(.ref b [],[(b,⟨.osl c,List.replicate a.1 j⟩)])) else .bad
  |_,_,_=>.bad
 |_,_,_=>.bad
theorem Ve (a:cQ) (e c b:Nat) (g:Value) (_hz:0<a.size) (f:a[b]?=some g) (j:c<e):(madeCells a (e*a.size))[c*a.size+b]?=some g:=by have d:b<a.size:=(lW.1 f).1;have h:(c+1)*a.size<=e*a.size:=gv _ j;rw[eL,gw] at h;have i:(c*a.size+b) %a.size=b:=(by rw[Nat.add_comm,Nat.add_mul_mod_self_right,Nat.mod_eq_of_lt d]);simp only[madeCells,Array.getElem?_map,Array.getElem?_range];rw[if_pos U];simp only[fB,i];rw[<-f,getElem!_pos a b d,vg d]
theorem Vg (t:bt C st a.tmps w I rt fp) {p:Operand} (am:o.op=.makeSlice G p b) (e:(sC E.tt j st.h c G (aO st.g p) (aO st.g b)).K Q):Yields E C st a w I rt fp o Q:=by
 have v:=t.aO p;have u:=t.aO b;unfold sC at e;split at e
 case h_2=>exact e.elim
 rename_i co A X ds Z;split at e
 case h_2=>exact e.elim
 rename_i dl bl d3 a4 d2 av O N;cases k:(a2 co A&&Nat.ble A.size 2000) with
 |false=>rw[k] at e;exact e.elim
 |true=>
  rw[k] at e;simp only[bd] at k;obtain⟨⟨q,i⟩,⟨rfl,rfl,H,r⟩,e⟩:=e;simp only at H r e;have d0:=eM k.2;rw[O] at v;rw[N] at u;generalize ap:a.eval p=d7 at v;generalize an:a.eval b=d6 at u;cases v with|val ce=>cases u with|val ci=>
  obtain⟨_,rfl⟩:=ce;obtain⟨_,rfl⟩:=ci;obtain⟨a0,D,_,V,W⟩:=eY.ok X;have s:=W.lay k.1;obtain⟨n,m,ar,bs,d4,M⟩:=s8 s av;obtain⟨d1,_,z,_⟩:=s.info;have F:=z.info;rw[ar] at F;cases F;have l:m.cells.size=A.size:=(by have:=(M (ba I C.B) w).len;simpa using this);have Y:(n.bytes:Int)*(i:Int)<=281474976710656:=(by have:n.bytes*i<=48000*e8:=ia (by have:=z.bytes;omega) r;have S:((n.bytes*i:Nat):Int)<=281474976710656:=(by unfold e8 at this;omega);rwa[jF] at S);have x:=run_make (P:=E.P) w G D n m V ar bs bl a4 (q:Int) (i:Int) U U Y (by unfold e8 at r;omega);simp only[de,z.size] at x;rw[<-l] at x;refine .new (d:=c) (cells:=madeCells m.cells (i*m.cells.size)) (T:=D) (cs:=[.slice (some ⟨w.heap.size,0,none⟩) q i]) (f:=[w.heap.size]) Z t ?_ rfl ?_ ab ab e
  ·simp[execOp,am,ap,an,bH,x]
  refine⟨some ⟨w.heap.size,0,none⟩,i,ab,.inr ⟨w.heap.size,0,List.replicate q [],rfl,ab,ab,by simpa using H,hE.alloc (by rw[size_madeCells,l];omega),λa3 cv R y J=>?_⟩⟩;have L:a3<q:=(by have:=(eb.1 y).1;simpa using this);obtain rfl:dl=cv:=(by rw[ly,if_pos L] at y;exact ec y);obtain rfl:[]=R:=(by rw[ly,if_pos L] at J;exact ec J);refine⟨m.cells.toList,by simpa using l,dK.alloc (λa0 d5 ad=>?_),M _ _⟩;rw[hX,<-l];exact Ve _ _ _ _ _ (by rw[l];exact s.pos) (by simpa using ad) U
def tz (tt:List (TypeId×ag)) (d:List (Nat×ag)) (e:List (Nat×aC)) (a:Nat) (c:TypeId):gx:=
 match ao tt c,ao d a,ao e a with
 |some f,some b,none=>match kw b with
  |some g=>bif a2 f b then .dv (.ref a []) [(a,⟨.optr b,g⟩)] else .bad
  |none=>.bad
 |_,_,_=>.bad
theorem Yields.box {e:ag} {i:e.den} {cs:cS} (r:ao st.h c=none) (j:bt C st a.tmps w I rt fp) (_hT:dF E.P e G) (u:(execOp a.eval o).run E.P w=.ok (.value (.pointer (some ⟨w.heap.size,0,none⟩))) (w.alloc (.cells cs.toArray G))) (v:∀m,(∀g b,ba I C.B g b->bN w m b)->aN (ba I C.B) m e cs i []) (s:Q (.ref c []) [(c,⟨.optr e,i⟩)]):Yields E C st a w I rt fp o Q:=by have n:∀g b,ba I C.B g b->bN w (w.alloc (.cells cs.toArray G)) b:=λg b p=>.of_heap ((gq.alloc w _).heap b (j.ib b (lN p)));have l:=v _ n;have k:=l.len;refine .new (d:=c) (t:=⟨.optr e,i⟩) (cs:=[.pointer (some ⟨w.heap.size,0,none⟩)]) (f:=[w.heap.size]) r j u rfl ⟨w.heap.size,0,[],cs,rfl,rfl,k,dK.alloc (λx y q=>by simpa using q),hE.alloc (by simp[k]),l⟩ ab ab s
theorem Rz (g:bt C st a.tmps w I rt fp) (l:o.op=.alloc G) (b:(tz E.tt j st.h c G).K Q):Yields E C st a w I rt fp o Q:=by
 unfold tz at b;split at b
 case h_2=>exact b.elim
 rename_i f q i s k;split at b
 case h_2=>exact b.elim
 rename_i x m;cases d:a2 f q with
 |false=>rw[d] at b;exact b.elim
 |true=>
  rw[d] at b;have e:=(E.ok G f i).lay d;obtain⟨t,r,ar,n,u,p⟩:=s8 e m;refine .box (cs:=r.cells.toList) k g e ?_ (λv _=>p _ _) b;simp[execOp,l,Instr.alloc,zeroValue,typeInfo,ar,n,newVar,newRow]
def vH (tt:List (TypeId×ag)) (e:List (Nat×aC)) (a:Nat) (d:TypeId) (b:al):gx:=
 match ao tt d,ao e a with
 |some f,none=>match b with
  |.val c b=>bif a2 f c then .dv (.ref a []) [(a,⟨.optr c,b⟩)] else .bad
  |_=>.bad
 |_,_=>.bad
theorem R5 (j:bt C st a.tmps w I rt fp) (t:o.op=.box G b) (d:(vH E.tt st.h c G (aO st.g b)).K Q):Yields E C st a w I rt fp o Q:=by
 have f:=j.aO b;unfold vH at d;split at d
 case h_2=>exact d.elim
 rename_i l r s;split at d
 case h_2=>exact d.elim
 rename_i x A p;cases e:a2 l x with
 |false=>rw[e] at d;exact d.elim
 |true=>
  rw[e] at d;rw[p] at f;generalize u:a.eval b=y at f;cases f with|val i=>
  rename_i m;have k:=(E.ok G l r).lay e;refine .box (cs:=m) s j k ?_ (λz q=>i.mono (λv n e=>⟨e,q v n e⟩) ab) d;simp[execOp,t,u,Instr.box,newVar,newRow,nm k i.len i.one]
def coe (a:ag) (b:al):Option a.den:=
 match b with
 |.val d b=>if h:d=a then some (h▸b) else none
 |.bP c=>hf a c.cells.toList
 |_=>none
def vL (a:ag):List al->Option (List a.den)
 |[]=>some []
 |x::c=>match coe a x,vL a c with
  |some d,some b=>some (d::b)
  |_,_=>none
theorem CJ (i:dF E.P d G) {e:Value} (c:bE f w x rt fp R e) {g:d.den} (a:coe d R=some g):aN f w d e.cells.toList g []:=by
 unfold coe at a;split at a
 ·rename_i k j;split at a
  ·rename_i h;subst h;cases a;cases c with|val b=>
   rw[nm i b.len b.one];exact b
  cases a
 ·cases c;exact nX a
 cases a
def sX:List (Nat×Operand)->Nat->Bool
 |[],_=>true
 |q::b,a=>Nat.beq q.1 a&&sX b (a+1)
def tI (tt:List (TypeId×ag)) (g:List (Nat×ag)) (i:List (Nat×aC)) (h:Operand->al) (b:Nat) (f:TypeId) (d:Nat) (c:List (Nat×Operand)):gx:=
 match eY tt f,ao i b with
 |some e,none=>
  let a:=match ao g b with|some (.osl a)=>a|_=>e
  bif a2 e a&&Nat.ble a.size 2000&&Nat.ble d 1000&&sX c 0&&Nat.beq c.length d then
   match vL a (c.map λj=>h j.2) with
   |some k=>.dv (.ref b []) [(b,⟨.osl a,k⟩)]
   |none=>.bad
  else .bad
 |_,_=>.bad
theorem He {f:ag}:∀{e:List al} {d:List f.den},vL f e=some d->d.length=e.length/\∀(b:Nat) (c:f.den),d[b]?=some c->∃y:al,e[b]?=some y/\coe f y=some c
 |[],d,a=>by cases a;exact⟨rfl,λb c a=>by simp at a⟩
 |y::e,d,a=>by
  simp only[vL] at a;split at a
  ·rename_i m l k j;cases a;obtain⟨h,i⟩:=He j;refine⟨by simp[h],λb c g=>?_⟩;cases b with
   |zero=>simp only[iL,bI] at g;subst g;exact⟨y,rfl,k⟩
   |succ b=>simpa using i b c (by simpa using g)
  cases a
theorem pv:∀{f:List (Nat×Operand)} {e:Nat},sX f e=true->∀(a:Nat) (c:Nat×Operand),f[a]?=some c->c.1=e+a
 |[],_,_,a,c,b=>by simp at b
 |x::f,e,b,a,c,d=>by
  simp only[sX,bd] at b;cases a with
  |zero=>simp only[iL,bI] at d;subst d;exact er b.1
  |succ a=>have:=pv b.2 a c (by simpa using d);omega
theorem R9 (H:bt C st a.tmps w I rt fp) {i:Array (Nat×Operand)} (d5:o.op=.buildSlice G c i) (k:(tI E.tt j st.h (aO st.g) M G c i.toList).K Q):Yields E C st a w I rt fp o Q:=by
 unfold tI at k;split at k
 case h_2=>exact k.elim
 rename_i a0 dl ds;generalize f0:(match ao j M with|some (.osl e)=>e|_=>a0)=e at k;simp only at k;cases p:(a2 a0 e&&Nat.ble e.size 2000&&Nat.ble c 1000&&sX i.toList 0&&Nat.beq i.toList.length c) with
 |false=>rw[p] at k;exact k.elim
 |true=>
  rw[p] at k;simp only[bd] at p;obtain⟨⟨⟨⟨a4,A⟩,D⟩,x⟩,R⟩:=p;have A:=eM A;have D:=eM D;have R:i.toList.length=c:=er R;simp only[cond_true] at k;split at k
  case h_2=>exact k.elim
  rename_i m el;obtain⟨am,N,_,co,cv⟩:=eY.ok dl;have u:=cv.lay a4;obtain⟨J,fs,an,_⟩:=u.info;have fT:=u.pos;obtain⟨bl,bs⟩:=He el;simp only[fL] at bl;have Z:m.length=c:=U;have ft:c*e.size<=16777216:=(by have:c*e.size<=1000*2000:=ia D A;omega);have S:∀(b:Nat) (l:Nat×Operand),i.toList[b]?=some l->∃r:e.den,m[b]?=some r/\aN (ba I C.B) w e (a.eval l.2).cells.toList r []:=(by intro b l q;have d3:b<m.length:=(by have:=(eb.1 q).1;omega);obtain⟨gc,aj,y⟩:=bs b m[b] ab;rw[eS,q] at aj;simp only[fB,bI] at aj;subst aj;exact⟨m[b],ab,CJ u (H.aO l.2) y⟩);obtain⟨ad,d0,d1⟩:∃a3:cQ,(c*e.size=0->a3=#[])/\(c*e.size≠0->∃s,(zeroValue N).run E.P w=.ok s w/\a3=s.cells):=by
   by_cases n:c*e.size=0
   ·exact⟨#[],λ_=>rfl,λk=>absurd n k⟩
   obtain⟨s,_,eq⟩:=dF.DF u;exact⟨s.cells,λk=>absurd k n,λ_=>⟨s,by simp[zeroValue,typeInfo,an.info,eq J an.info],rfl⟩⟩
  obtain⟨ap,av,ex,f6,aL⟩:=wU (λJ=>some (J*e.size,e.size)) (i.toList.map λl=>(l.1,a.eval l.2)) ((Array.range (c*e.size)).map (ad[· %ad.size]!)) (by
   intro l d7;obtain⟨f5,d6,rfl⟩:=bR.1 d7;obtain⟨b,q,rfl⟩:=ha.1 d6;have v:i.toList[b]?=some i.toList[b]:=ab;obtain⟨r,_,z⟩:=S b _ v;have F:=pv x b _ v;have:(b+1)*e.size<=c*e.size:=gv _ U;rw[eL,gw] at this;refine⟨_,_,rfl,by have:=z.len;simpa using this,?_⟩;simp only[Array.size_map,Array.size_range];rw[F,hX];exact this) (by
   rw[gu];intro b L q d4 d3 f3 f7 f4 f8 aj y;simp only[List.getElem_map,bI,fd] at aj y;simp only[fL] at q d4;have ce:=pv x b i.toList[b] ab;have f2:=pv x L i.toList[L] ab;obtain⟨rfl,rfl⟩:=aj;obtain⟨rfl,rfl⟩:=y;left;rw[ce,f2];have:(0+b+1)*e.size<=(0+L)*e.size:=gv _ U;rw[eL,gw] at this;exact this)
  have d8:ap.size=c*e.size:=(by rw[ex];simp);refine .new (d:=M) (t:=⟨.osl e,m⟩) (cells:=ap) (T:=N) (cs:=[.slice (some ⟨w.heap.size,0,none⟩) c c]) (f:=[w.heap.size]) ds H ?_ rfl ?_ ab ab k
  ·have d9:=u.sizeOf w;have fz:¬(16777216<c*e.size):=U;have W:(Array.map (λr=>(r.fst,a.eval r.snd)) i).toList=i.toList.map λl=>(l.1,a.eval l.2):=ab;simp only[execOp,d5,Instr.buildSlice,Sem.run_bind,run_underlying co,Result.andThen_ok,d9];rw[if_neg U];by_cases n:c*e.size=0
   ·rw[if_pos n];obtain rfl:=d0 n;rw[W];simp only[Sem.run_bind,Sem.run_pure,Result.andThen_ok,av,newRow,newObj];rfl
   rw[if_neg n];obtain⟨s,em,rfl⟩:=d1 n;rw[W];simp only[Sem.run_bind,Sem.run_pure,Result.andThen_ok,em,av,newRow,newObj];rfl
  refine⟨some ⟨w.heap.size,0,none⟩,c,by rw[Z],.inr ⟨w.heap.size,0,List.replicate c [],rfl,ab,by simp[Z],(by show m.length<=c;omega),hE.alloc (by rw[d8];omega),λb r ci z V=>?_⟩⟩;have q:b<c:=(by have:b<m.length:=(eb.1 z).1;omega);obtain rfl:[]=ci:=(by rw[ly,if_pos q] at V;exact ec V);have v:i.toList[b]?=some (i.toList[b]'(by omega)):=by simp
  obtain⟨f9,Y,X⟩:=S b _ v;rw[z] at Y;obtain rfl:=ec Y;refine⟨_,X.len,dK.alloc (λam fn d2=>?_),X.mono (λf1 O p=>⟨p,.of_heap ((gq.alloc w _).heap O (H.ib O (lN p)))⟩) ab⟩;have:=aL (i.toList[b].1,a.eval i.toList[b].2) (bR.2 ⟨i.toList[b],bQ _,rfl⟩) _ _ rfl am fn (by simpa using d2);have F:=pv x b _ v;rw[F,hX] at this;simpa using this
end
end
section
def kq (a:List (Nat×Operand)) (b:Nat):cP:=ao a b
def oa (
 g:Operand->al) (e:List (Nat×Operand)):ag->Nat->Option aC
 |.pr a h,d=>
  match(match kq e d with
   |none=>match kw a with
    |some j=>some (⟨a,j⟩:aC)
    |none=>none
   |some c=>match g c with
    |.val f b=>bif a2 a f then some ⟨f,b⟩ else none
    |.bP i=>match hf a i.cells.toList with
     |some b=>some ⟨a,b⟩
     |none=>none
    |_=>none),oa g e h (d+1) with
  |some c,some b=>some ⟨.pr c.1 b.1,(c.2,b.2)⟩
  |_,_=>none
 |.nil,_=>some ⟨.nil,()⟩
 |_,_=>none
def kO:List (Nat×Operand)->Nat->Bool
 |[],_=>true
 |q::b,a=>Nat.ble a q.1&&kO b (q.1+1)
def eQ:ag->Nat
 |.pr _ a=>eQ a+1
 |_=>0
theorem DJ:∀{e:List (Nat×Operand)} {d:Nat},kO e d=true->∀b∈e,d<=b.1
 |[],_,_,b,a=>by cases a
 |x::e,d,a,b,c=>by
  simp only[kO,bd] at a;rcases dh.1 c with rfl|c
  ·exact eM a.1
  have:=DJ a.2 b c;have:=eM a.1;omega
theorem DL:∀{b:List (Nat×Operand)} {d:Nat},kO b d=true->b.Pairwise λc f=>c.1<f.1
 |[],_,_=>List.Pairwise.nil
 |x::b,d,a=>by simp only[kO,bd] at a;exact List.Pairwise.cons (λc e=>by have:=DJ a.2 c e;omega) (DL a.2)
theorem w9 {e:Type}:∀{d:List (Nat×e)} {b:Nat} {c:e},ao d b=some c->(b,c)∈d
 |[],_,_,a=>by cases a
 |(g,v0)::r,b,c,a=>by
  rw[bU] at a;split at a
  ·rename_i f;subst f;cases a;simp
  exact e2 _ (w9 a)
theorem D2 {g:Type}:∀{e:List (Nat×g)} {d:Nat},ao e d=none->∀c∈e,c.1≠d
 |[],_,_,c,a=>by cases a
 |(h,v0)::r,d,b,c,a=>by
  rw[bU] at b;split at b
  ·cases b
  rename_i f;rcases dh.1 a with rfl|a
  ·exact f
  exact D2 b c a
theorem pk {j:Program}:∀{u:ag} {l:List Field} {e:Nat} {h:cS},g7 j u l e h->∀d,d<eQ u->∃f g,dS u d=some (f,g)
 |.pr a i,k::n,e,h,c,0,_=>⟨_,_,rfl⟩
 |.pr a i,k::n,e,h,c,d+1,b=>by obtain⟨f,g,m⟩:=pk (u:=i) c.2.2.2.2 d (by simp only[eQ] at b;omega);exact⟨.snd::f,g,by simp[dS,m]⟩
 |.pr _ _,[],_,_,c,_,_=>c.elim
 |.int _,_,_,_,_,_,b=>by simp[eQ] at b
 |.bool,_,_,_,_,_,b=>by simp[eQ] at b
 |.str,_,_,_,_,_,b=>by simp[eQ] at b
 |.a7 _ _,_,_,_,_,_,b=>by simp[eQ] at b
 |.osl _,_,_,_,_,_,b=>by simp[eQ] at b
 |.ptr _ _,_,_,_,_,_,b=>by simp[eQ] at b
 |.optr _,_,_,_,_,_,b=>by simp[eQ] at b
 |.st _,_,_,_,_,_,b=>by simp[eQ] at b
 |.nil,_,_,_,_,_,b=>by simp[eQ] at b
 |.c6,_,_,_,_,_,b=>by simp[eQ] at b
theorem sn:∀{u:ag} {e d:Nat} {s s':List aV} {t t':ag},dS u e=some (s,t)->dS u d=some (s',t')->e<d->dj u e+t.size<=dj u d
 |.pr a f,0,d+1,s,s',t,t',b,c,_=>by simp only[dS,bI,fd] at b;obtain⟨_,rfl⟩:=b;simp[dj]
 |.pr a f,e+1,d+1,s,s',t,t',b,c,k=>by
  simp only[dS] at b c;cases g:dS f e with
  |none=>rw[g] at b;cases b
  |some i=>
   cases h:dS f d with
   |none=>rw[h] at c;cases c
   |some j=>
    rw[g] at b;rw[h] at c;simp only[bI,fd] at b c;obtain⟨_,rfl⟩:=b;obtain⟨_,rfl⟩:=c;have:=sn (u:=f) (s:=i.1) (t:=i.2) (s':=j.1) (t':=j.2) g h U;simp only[dj];omega
 |.int _,_,_,_,_,_,_,b,_,_=>by cases b
 |.bool,_,_,_,_,_,_,b,_,_=>by cases b
 |.str,_,_,_,_,_,_,b,_,_=>by cases b
 |.a7 _ _,_,_,_,_,_,_,b,_,_=>by cases b
 |.osl _,_,_,_,_,_,_,b,_,_=>by cases b
 |.ptr _ _,_,_,_,_,_,_,b,_,_=>by cases b
 |.optr _,_,_,_,_,_,_,b,_,_=>by cases b
 |.st _,_,_,_,_,_,_,b,_,_=>by cases b
 |.nil,_,_,_,_,_,_,b,_,_=>by cases b
 |.c6,_,_,_,_,_,_,b,_,_=>by cases b
theorem Dw:∀{u:ag} {c:Nat} {s:List aV} {t:ag},dS u c=some (s,t)->c<eQ u
 |.pr a d,0,_,_,_=>by simp[eQ]
 |.pr a d,c+1,s,t,b=>by
  simp only[dS] at b;split at b
  ·rename_i e f;have:=Dw (u:=d) (s:=e.1) (t:=e.2) f;simp only[eQ];omega
  cases b
 |.int _,_,_,_,b=>by cases b
 |.bool,_,_,_,b=>by cases b
 |.str,_,_,_,b=>by cases b
 |.a7 _ _,_,_,_,b=>by cases b
 |.osl _,_,_,_,b=>by cases b
 |.ptr _ _,_,_,_,b=>by cases b
 |.optr _,_,_,_,b=>by cases b
 |.st _,_,_,_,b=>by cases b
 |.nil,_,_,_,b=>by cases b
 |.c6,_,_,_,b=>by cases b
theorem DK:∀{d:List (Nat×Operand)} {e:Nat} {b:Nat×Operand},kO d e=true->b∈d->kq d b.1=some b.2
 |[],_,_,_,a=>by cases a
 |x::d,e,b,a,c=>by
  simp only[kO,bd] at a;obtain⟨f,g⟩:=x;unfold kq;rw[bU];rcases dh.1 c with rfl|c
  ·rw[if_pos rfl]
  have:=DJ a.2 b c;simp only at this;rw[if_neg U];exact DK a.2 c
section
variable {E:dW} {C:dn} {st:aJ} {a:Act} {w:World} {I:Nat->Prop} {rt:Nat->cS} {fp:Nat->cY} {o:Oper} {Q:al->List (Nat×aC)->Prop}
def vG (tt:List (TypeId×ag)) (e:Operand->al) (d:TypeId) (a:List (Nat×Operand)):gx:=
 match jX tt d with
 |none=>.bad
 |some c=>bif kO a 0&&a.all (λf=>Nat.blt f.1 (eQ c)) then match oa e a c 0 with
  |some b=>.dv (.val (.st b.1) b.2) []
  |none=>.bad
  else .bad
theorem I9 {G:Program} {k:c5->Nat->Prop} {b:List (Nat×aC)} {z:Operand->al} {j:Operand->Value} (C:∀e,bE k w b rt fp (z e) (j e)) {parts:List (Nat×Operand)} {cells:cS}:∀{u:ag} {n:Nat} {H:List Field} {off:Nat} {zs:cS} {i:aC},g7 G u H off zs->oa z parts u n=some i->cells.length=off+u.size->(∀d y f,dS u d=some (y,f)->(∀e,kq parts (n+d)=some e->(j e).cells.size=f.size/\(cells.drop (off+dj u d)).take f.size=(j e).cells.toList)/\(kq parts (n+d)=none->(cells.drop (off+dj u d)).take f.size=(zs.drop (dj u d)).take f.size))->aN k w i.1 (cells.drop off) i.2 []/\i.1.size=u.size
 |.pr a o,n,T::ad,off,zs,i,B,h,t,r=>by
  simp only[oa] at h;split at h
  case h_2=>cases h
  rename_i e an c M;cases h;obtain⟨V,A,W,⟨X,ap,ar,P,Q⟩,I⟩:=B;have s:=r 0 _ a rfl;simp only[k4,dj,lu] at s;have q:aN k w e.1 ((cells.drop off).take a.size) e.2 []/\e.1.size=a.size:=by
   split at c
   ·rename_i v;split at c
    ·rename_i av O;cases c;obtain⟨Y,a0,E,F,_,aL⟩:=s8 A O;rw[ar] at E;cases E;rw[P] at F;cases F;rw[s.2 v,Q];exact⟨aL k w,rfl⟩
    cases c
   rename_i m v;have g:=C m;obtain⟨Z,D⟩:=s.1 m v;split at c
   ·rename_i f S p;cases l:a2 a f with
    |false=>rw[l] at c;cases c
    |true=>
     rw[l] at c;cases c;rw[p] at g;rw[D];generalize L:j m=R at g;cases g with|val x=>
     rw[nm (A.lay l) x.len x.one];exact⟨x,(a2.size l).symm⟩
   ·rename_i R p;split at c
    ·rename_i S N;cases c;rw[p] at g;rw[D];generalize L:j m=am at g;cases g;exact⟨nX N,rfl⟩
    cases c
   cases c
  have J:=I9 C (parts:=parts) (cells:=cells) (u:=o) (n:=n+1) (off:=off+a.size) (zs:=zs.drop a.size) I M (by rw[t];simp only[ag.size];omega) (by
   intro d y f K;have:=r (d+1) (.snd::y) f (by simp[dS,K]);simp only[dj] at this;rw[(U:n+(d+1)=n+1+d),(U:off+(a.size+dj o d)=off+a.size+dj o d)] at this;rw[nE];exact this)
  refine⟨⟨[],[],rfl,?_,?_⟩,by simp only[ag.size];omega⟩
  ·rw[q.2];exact q.1
  rw[q.2,nE];exact J.1
 |.nil,n,[],off,zs,i,B,h,t,r=>by cases h;exact⟨⟨rfl,by rw[List.drop_eq_nil_iff];simp only[ag.size] at t;omega⟩,rfl⟩
 |.pr _ _,_,[],_,_,_,b,_,_,_=>b.elim
 |.nil,_,_::_,_,_,_,b,_,_,_=>b.elim
 |.int _,_,_,_,_,_,b,_,_,_=>by cases b
 |.bool,_,_,_,_,_,b,_,_,_=>by cases b
 |.str,_,_,_,_,_,b,_,_,_=>by cases b
 |.a7 _ _,_,_,_,_,_,b,_,_,_=>by cases b
 |.osl _,_,_,_,_,_,b,_,_,_=>by cases b
 |.ptr _ _,_,_,_,_,_,b,_,_,_=>by cases b
 |.optr _,_,_,_,_,_,b,_,_,_=>by cases b
 |.st _,_,_,_,_,_,b,_,_,_=>by cases b
 |.c6,_,_,_,_,_,b,_,_,_=>by cases b
theorem Ja {A:Program} {o:c5->Nat->Prop} {b:List (Nat×aC)} {p:Operand->al} {i:Operand->Value} (q:∀c,bE o w b rt fp (p c) (i c)) {t:List (Nat×Operand)}:∀{u:ag} {n:Nat} {C:List Field} {s:Nat} {z:cS} {y:aC},g7 A u C s z->oa p t u n=some y->∀f x h,dS u f=some (x,h)->∀c,kq t (n+f)=some c->(i c).cells.size=h.size
 |.pr a B,n,N::T,s,z,y,F,l,f,x,h,d,c,r=>by
  simp only[oa] at l;split at l
  case h_2=>cases l
  rename_i W X e I;obtain⟨O,D,P,⟨Q,Y,ar,R,S⟩,E⟩:=F;cases f with
  |zero=>
   simp only[dS,bI,fd] at d;obtain⟨_,rfl⟩:=d;rw[k4] at r;rw[r] at e;have g:=q c;simp only at e;split at e
   ·rename_i h L j;cases k:a2 a h with
    |false=>rw[k] at e;cases e
    |true=>
     rw[j] at g;generalize H:i c=K at g;cases g with|val m=>
     rw[nm (D.lay k) m.len m.one];have:=m.len;have:=a2.size k;simp;omega
   ·rename_i K j;split at e
    ·rename_i L J;rw[j] at g;generalize H:i c=V at g;cases g;have:=(nX (M:=o) (w:=w) J).len;simpa using this
    cases e
   cases e
  |succ f=>
   simp only[dS] at d;split at d
   ·rename_i v G;simp only[bI,fd] at d;obtain⟨_,rfl⟩:=d;exact Ja q (u:=B) (n:=n+1) E I f v.1 v.2 G c (by rwa[(U:n+1+f=n+(f+1))])
   cases d
 |.pr _ _,_,[],_,_,_,b,_,_,_,_,_,_,_=>b.elim
 |.nil,_,_,_,_,_,_,_,_,_,_,d,_,_=>by cases d
 |.int _,_,_,_,_,_,b,_,_,_,_,_,_,_=>by cases b
 |.bool,_,_,_,_,_,b,_,_,_,_,_,_,_=>by cases b
 |.str,_,_,_,_,_,b,_,_,_,_,_,_,_=>by cases b
 |.a7 _ _,_,_,_,_,_,b,_,_,_,_,_,_,_=>by cases b
 |.osl _,_,_,_,_,_,b,_,_,_,_,_,_,_=>by cases b
 |.ptr _ _,_,_,_,_,_,b,_,_,_,_,_,_,_=>by cases b
 |.optr _,_,_,_,_,_,b,_,_,_,_,_,_,_=>by cases b
 |.st _,_,_,_,_,_,b,_,_,_,_,_,_,_=>by cases b
 |.c6,_,_,_,_,_,b,_,_,_,_,_,_,_=>by cases b
theorem run_places {P:Program} (w:World):∀(e:ag) (i:List Field) (d:Nat) (g:cS),g7 P e i d g->(i.mapM λf=>do Pure.pure (f.offset,<-sizeOf f.type):Sem c0).run P w=.ok ((List.range (eQ e)).map λc=>(d+dj e c,match dS e c with|some k=>k.2.size|none=>0)) w
 |.pr a h,f::l,d,g,b=>by have j:=run_places w h l (d+a.size) (g.drop a.size) b.2.2.2.2;simp only[List.mapM_cons,Sem.run_bind,b.2.1.sizeOf,Result.andThen_ok,Sem.run_pure,j];simp only[eQ,List.range_succ_eq_map,ep,pR,b.1,dj,k4,dS];congr 2;apply hW;intro c _;simp only[Function.comp,dj,dS];rw[nJ];cases dS h c<;>rfl
 |.nil,[],_,_,_=>rfl
 |.pr _ _,[],_,_,b=>b.elim
 |.nil,_::_,_,_,b=>b.elim
 |.int _,_,_,_,b=>by cases b
 |.bool,_,_,_,b=>by cases b
 |.str,_,_,_,b=>by cases b
 |.a7 _ _,_,_,_,b=>by cases b
 |.osl _,_,_,_,b=>by cases b
 |.ptr _ _,_,_,_,b=>by cases b
 |.optr _,_,_,_,b=>by cases b
 |.st _,_,_,_,b=>by cases b
 |.c6,_,_,_,b=>by cases b
theorem R2 (an:bt C st a.tmps w I rt fp) (ds:o.op=.build G B) (f:(vG E.tt (aO st.g) G B.toList).K Q):Yields E C st a w I rt fp o Q:=by
 unfold vG at f;split at f
 ·exact f.elim
 rename_i b J;cases q:(kO B.toList 0&&B.toList.all (λc=>Nat.blt c.1 (eQ b))) with
 |false=>rw[q] at f;exact f.elim
 |true=>
  rw[q] at f;simp only[bd,eI] at q;obtain⟨X,H⟩:=q;simp only[cond_true] at f;split at f
  case h_2=>exact f.elim
  rename_i fs ap;obtain⟨l,m,i,a3,fT,a4,bl,p,am⟩:∃l m i,E.P.info? G=some l/\l.size=b.size/\l.zero=some (.agg i)/\E.P.underlying G=some (.struct m)/\g7 E.P b m.toList 0 i.toList/\i.size=b.size:=by
   unfold jX at J;split at J
   ·rename_i f6 ce;cases J;obtain⟨_,l,m,i,ar,d5,_,d6,d7,d8,d9⟩:=E.ok G _ ce;exact⟨l,m,i,ar,d5,d6,d7,d8,d9⟩
   cases J
  have S:=Ja (λe=>an.aO e) p ap;have R:=run_places (P:=E.P) w b m.toList 0 i.toList p;simp only[hX] at R S;generalize d1:((List.range (eQ b)).map λj=>(dj b j,match dS b j with|some c=>c.2.size|none=>0))=V at R;have y:∀j F k,dS b j=some (F,k)->j<eQ b->V.toArray[j]?=some (dj b j,k.size):=(by intro j F k d cv;rw[<-d1];simp[cv,d]);obtain⟨N,el,em,eq,aL⟩:=wU (λl=>V.toArray[l]?) (B.toList.map λc=>(c.1,a.eval c.2)) i (by
   intro c z;obtain⟨h,x,rfl⟩:=bR.1 z;have t:h.1<eQ b:=eM (H h x);obtain⟨F,k,d⟩:=pk p h.1 t;refine⟨_,_,y _ _ _ d t,S _ _ _ d h.2 ?_,by rw[am];exact ur d⟩;exact DK X x) (by
   rw[tp];refine(DL X).imp_of_mem ?_;intro c W z d3 t d4 ex f2 f3 aj Y;have D:c.1<eQ b:=eM (H c z);have a0:W.1<eQ b:=eM (H W d3);obtain⟨fn,ft,r⟩:=pk p c.1 D;obtain⟨f4,f5,q⟩:=pk p W.1 a0;rw[y _ _ _ r D] at aj;rw[y _ _ _ q a0] at Y;cases aj;cases Y;exact .inl (sn r q t))
  have f1:N.toList.length=b.size:=(by simp[em,am]);obtain⟨ad,fz⟩:=I9 (w:=w) (λe=>an.aO e) (parts:=B.toList) (cells:=N.toList) (u:=b) (n:=0) (off:=0) p ap U (by
   intro M F k d;have ci:M<eQ b:=Dw d;simp only[hX];have f0:=ur d;refine⟨λe L=>?_,λL=>?_⟩
   ·have co:=w9 L;have T:=S M F k d e L;refine⟨T,?_⟩;apply g9;intro A;rcases bp A k.size with s|s
    ·obtain⟨O,av⟩:∃O,(a.eval e).cells[A]?=some O:=⟨_,vg U⟩;have:=aL (M,a.eval e) (bR.2 ⟨(M,e),co,rfl⟩) _ _ (y _ _ _ d ci) A O av;rw[k1 s,ke];simp only[s9];rw[this,av]
    rw[fc (by simp;omega),fc (by simp;omega)]
   apply g9;intro A;rcases bp A k.size with s|s
   ·rw[k1 s,k1 s,ke,ke];simp only[s9];refine eq _ ?_;intro c z d4 ex aj;obtain⟨h,x,rfl⟩:=bR.1 z;have dl:=D2 L h x;have D:h.1<eQ b:=eM (H h x);obtain⟨fn,ft,r⟩:=pk p h.1 D;rw[y _ _ _ r D] at aj;cases aj;rcases Nat.lt_or_gt_of_ne dl with t|bs
    ·have:=sn r d t;omega
    have:=sn d r bs;omega
   rw[fc (by simp;omega),fc (by simp;omega)])
  rw[lu] at ad;refine .pure (v:=.agg N) ?_ (.val (τ:=.st fs.1) (cs:=N.toList) ad) f;have d2:(Array.map (λe=>(e.fst,a.eval e.snd)) B).toList=B.toList.map λc=>(c.1,a.eval c.2):=ab;have d0:(m.mapM λZ=>do Pure.pure (Z.offset,<-sizeOf Z.type):Sem (Array cI)).run E.P w=.ok V.toArray w:=(by rw[Array.mapM_eq_mapM_toList,Sem.run_map,R];rfl);have T:(zeroValue G).run E.P w=.ok (.agg i) w:=(by simp[zeroValue,typeInfo,a3,a4]);simp only[execOp,ds,Instr.build,Sem.run_bind,T,run_underlying bl,Result.andThen_ok,d0,d2,Value.cells,el];rfl
end
end
section
def eg {α:Type}:List (Int×α)->Int->Option α
 |[],_=>none
 |(a,v)::r,k=>if a=k then some v else eg r k
def g6 {α:Type}:List (Int×α)->Int->α->List (Int×α)
 |[],k,v=>[(k,v)]
 |(a,u)::r,k,v=>if k<a then(k,v)::(a,u)::r else if k=a then(k,v)::r else(a,u)::g6 r k v
def hC {α:Type} (l:List (Int×α)) (a:Int):List (Int×α):=l.filter λb=>decide (b.1≠a)
def iG {α:Type} (b:Option (List (Int×α)×Nat)) (a:Int):Option α:=b.bind λc=>eg c.1 a
def uF {α:Type} (a:Option (List (Int×α)×Nat)):Int:=match a with|some b=>(b.1.length:Int)|none=>0
section
variable {α:Type}
theorem A3:∀{l:List (Int×α)} {c:Int} {d:α},eg l c=some d->(c,d)∈l
 |[],_,_,b=>by cases b
 |(a,u)::r,c,d,b=>by
  simp only[eg] at b;split at b
  ·rename_i e;cases b;subst e;exact jI ..
  exact e2 _ (A3 b)
theorem IX:∀{l:List (Int×α)} {d:Int},eg l d=none->∀e,(d,e)∉l
 |[],_,_,_=>by simp
 |(a,u)::r,d,b,e=>by
  simp only[eg] at b;split at b
  ·cases b
  rename_i f;intro g;rcases dh.1 g with c|c
  ·cases c;exact f rfl
  exact IX b e c
theorem L2 {l:List (Int×α)} (a:l.Pairwise (λc b=>c.1<b.1)):(l.map (·.1)).Nodup:=by rw[List.Nodup,tp];exact a.imp (λa d=>by omega)
theorem Vc {l:List (Int×α)} (b:(l.map (·.1)).Nodup) {d:α}:eg l S=some d↔(S,d)∈l:=by
 constructor
 ·exact A3
 intro c
 induction l with
 |nil=>cases c
 |cons f h e=>
  obtain⟨g,i⟩:=f;simp only[ep,je] at b;simp only[eg];rcases dh.1 c with a|a
  ·cases a;rw[if_pos rfl]
  rw[if_neg,e b.2 a];rintro rfl;exact b.1 (bR.2 ⟨_,a,rfl⟩)
theorem IY:∀{l:List (Int×α)} {d:Int} {e:α} {c:Int×α},c∈g6 l d e->c=(d,e)\/c∈l
 |[],d,e,c,b=>by simpa[g6] using b
 |(a,u)::r,d,e,c,b=>by
  simp only[g6] at b;split at b
  ·rcases dh.1 b with b|b
   ·exact .inl b
   exact .inr b
  split at b
  ·rcases dh.1 b with b|b
   ·exact .inl b
   exact .inr (e2 _ b)
  rcases dh.1 b with b|b
  ·exact .inr (b▸jI ..)
  exact(IY b).imp id (e2 _)
theorem D7:∀{l:List (Int×α)} {d:Int} {f:α},l.Pairwise (λc b=>c.1<b.1)->(g6 l d f).Pairwise (λc b=>c.1<b.1)
 |[],d,f,_=>by simp[g6]
 |(c,u)::r,d,f,h=>by
  rw[mP] at h;simp only[g6];split
  ·rename_i i;rw[mP,mP];refine⟨λe a=>?_,h.1,h.2⟩;rcases dh.1 a with rfl|a
   ·exact i
   have:=h.1 e a;simp only at this|-;omega
  rename_i i;split
  ·rename_i g;subst g;rw[mP];exact⟨h.1,h.2⟩
  rename_i g;rw[mP];refine⟨λe a=>?_,D7 h.2⟩;rcases IY a with rfl|a
  ·simp only;omega
  exact h.1 e a
theorem Va {l:List (Int×α)} (c:l.Pairwise (λa b=>a.1<b.1)):(hC l S).Pairwise (λa b=>a.1<b.1):=c.filter _
theorem D6:∀{l:List (Int×α)} {k:Int} {v:α},l.Pairwise (λa b=>a.1<b.1)->(g6 l k v).Perm ((k,v)::hC l k)
 |[],k,v,_=>by simp[g6,hC]
 |(a,u)::r,k,v,h=>by
  rw[mP] at h;simp only[g6];split
  ·rename_i f;have:hC ((a,u)::r) k=(a,u)::r:=by
    unfold hC;rw[l0];intro d c;rcases dh.1 c with rfl|c
    ·simp;omega
    have:=h.1 d c;simp only at this;simp;omega
   rw[this]
  rename_i f;split
  ·rename_i e;subst e;have:hC ((k,u)::r) k=r:=by
    unfold hC;rw[jH,if_neg ab,l0];intro d c;have:=h.1 d c;simp only at this;simp;omega
   rw[this]
  rename_i e;have:hC ((a,u)::r) k=(a,u)::hC r k:=(by unfold hC;rw[jH,if_pos (by simp;omega)]);rw[this];exact((D6 h.2).cons _).trans (.swap _ _ _)
end
section
variable {P:Program} {w:World} {b:Nat} {di:Array MapEntry} {c:Nat}
theorem lM:hl w b=some (di,c)↔w.heap[b]?=some (.map di c):=by
 unfold hl;constructor
 ·intro a;split at a
  ·rename_i f e d;cases a;exact d
  cases a
 intro a;rw[a]
theorem oj (a:w.heap[b]?=some (.map di c)):(setObj b (.map t g)).run P w=.ok () {w with heap:=w.heap.setIfInBounds b (.map t g)}:=by simp[setObj,Sem.run,a]
theorem run_getObj_map (a:w.heap[b]?=some (.map di c)):(getObj b).run P w=.ok (.map di c) w:=by simp[getObj,Sem.run,a]
theorem HU {j:IntKind} (b:Int):∀(di:List MapEntry) (c:cZ) (d:Nat),di.map (·.key)=c.map (Value.int .i64)->b∉c->Instr.findNow (.int j) (.int .i64 b) di d=some none
 |[],_,_,_,_=>rfl
 |e::di,[],_,a,_=>by cases a
 |e::di,g::c,d,a,f=>by simp only[ep,fK] at a;have i:(b==g)=false:=(by simp;rintro rfl;exact f ab);simp only[Instr.findNow,a.1,Instr.sameNow,if_true,i];exact HU b di c (d+1) a.2 (λh=>f (e2 _ h))
theorem HV {kd:IntKind} (b:Int):∀(di:List MapEntry) (d:cZ) (f:Nat),di.map (·.key)=d.map (Value.int .i64)->b∈d->∃c e,d[c]?=some b/\di[c]?=some e/\Instr.findNow (.int kd) (.int .i64 b) di f=some (some (f+c,e.val))
 |[],[],_,_,a=>by cases a
 |[],_::_,_,a,_=>by cases a
 |e::di,[],_,a,_=>by cases a
 |e::di,h::d,f,a,m=>by
  simp only[ep,fK] at a;by_cases g:b=h
  ·subst g;refine⟨0,e,rfl,rfl,?_⟩;simp only[Instr.findNow,a.1,Instr.sameNow,if_true,beq_self_eq_true];rfl
  have n:(b==h)=false:=(by simpa using g);obtain⟨c,i,j,k,l⟩:=HV b di d (f+1) a.2 ((dh.1 m).resolve_left g);refine⟨c+1,i,by simpa using j,by simpa using k,?_⟩;simp only[Instr.findNow,a.1,Instr.sameNow,if_true,n];rw[l];simp only[bI,fd,and_true];omega
structure fu (M:c5->Nat->Prop) (w:World) (t:ag) (b:Nat) (l:List (Int×t.den)) (c:Nat) (di:Array MapEntry) (L:List (Int×Nat×t.den)):Prop where
 nf:iM L l c
 h:w.heap[b]?=some (.map di c)
 n:di.size=L.length
 e:∀(i:Nat) (q:Int×Nat×t.den),L[i]?=some q->∃ds:cS,ds.length=t.size/\di[i]?=some (MapEntry.mk (.int .i64 q.1) (bH t ds) q.2.1)/\aN M w t ds q.2.2 []
variable {M:c5->Nat->Prop} {t:ag} {l:List (Int×t.den)} {L:List (Int×Nat×t.den)}
theorem fu.keys (f:fu M w t b l c di L):di.toList.map (·.key)=(L.map (·.1)).map (Value.int .i64):=by
 apply g9;intro d;simp only[eS,s9];rcases bp d L.length with a|a
 ·obtain⟨h,_,g,_⟩:=f.e d L[d] (bo a);rw[g,bo a];rfl
 rw[fc a,Array.getElem?_eq_none (by rw[f.n];exact a)];rfl
theorem iM.keys {α:Type} {L:List (Int×Nat×α)} {l:List (Int×α)} {c:Nat} (a:iM L l c):(L.map (·.1)).Perm (l.map (·.1)):=by have:=a.2.1.map (·.1);rwa[pR] at this
theorem iM.uO {α:Type} {L:List (Int×Nat×α)} {l:List (Int×α)} {c:Nat} (a:iM L l c):(L.map (·.1)).Nodup:=a.keys.nodup_iff.2 (L2 a.1)
theorem iM.mem {α:Type} {L:List (Int×Nat×α)} {l:List (Int×α)} {c:Nat} (b:iM L l c) {a:Int×Nat×α} (d:a∈L):eg l a.1=some a.2.2:=
 (Vc (L2 b.1)).2 (b.2.1.mem_iff.1 (bR.2 ⟨a,d,rfl⟩))
theorem iM.len {α:Type} {L:List (Int×Nat×α)} {l:List (Int×α)} {c:Nat} (a:iM L l c):L.length=l.length:=by have:=a.2.1.length_eq;simpa using this
theorem E8 {P:Program} {w:World} (d:P.underlying a=some (.int u)) {di:List MapEntry} {b:Option (Nat×Value)} (c:Instr.findNow (.int u) (.int .i64 S) di 0=some b):(Instr.findKey a (.int .i64 S) di).run P w=.ok b w:=by simp only[Instr.findKey,Sem.run_bind,run_underlying d,Result.andThen_ok,c];rfl
theorem mE {P:Program} {w:World} (c:P.underlying a=some (.int u)) (b:Bool) (e:Nat) (d:Int):(Instr.checkKey b (e+1) a (.int .i64 d)).run P w=.ok () w:=by simp[Instr.checkKey,Sem.run_bind,run_underlying c]
theorem fu.find (j:fu M w t b l c di L) (v:P.underlying a=some (.int u)) (d:Int):(eg l d=none/\(∀o∈L,o.1≠d)/\∀f,(Instr.findKey a (.int .i64 d) di.toList).run P f=.ok none f)\/∃h m i g,eg l d=some i/\L[h]?=some (d,m,i)/\g.length=t.size/\di[h]?=some ⟨.int .i64 d,bH t g,m⟩/\aN M w t g i []/\∀f,(Instr.findKey a (.int .i64 d) di.toList).run P f=.ok (some (h,bH t g)) f:=by
 by_cases k:d∈L.map (·.1)
 ·obtain⟨h,q,r,s,z⟩:=HV (kd:=u) d di.toList _ 0 j.keys k;rw[eS] at r;obtain⟨⟨C,m,i⟩,n,rfl⟩:=dZ.1 r;obtain⟨g,x,p,y⟩:=j.e h _ n;rw[s9,p] at s;cases s;refine .inr ⟨h,m,i,g,j.nf.mem (kD n),n,x,p,y,λf=>E8 v ?_⟩;rw[z,hX]
 refine .inl ⟨?_,λo B q=>k (bR.2 ⟨o,B,q⟩),λf=>E8 v (HU d _ _ 0 j.keys k)⟩;cases A:eg l d with
 |none=>rfl
 |some i=>exact absurd (j.nf.keys.mem_iff.2 (bR.2 ⟨_,A3 A,rfl⟩)) k
theorem fu.empty (M:c5->Nat->Prop) (t:ag) (a:w.heap[b]?=some (.map #[] 0)):fu M w t b [] 0 #[] []:=
 ⟨⟨.nil,.refl _,.nil,ab⟩,a,rfl,ab⟩
def sF {α:Type} (L:List (Int×Nat×α)) (a:Int) (d:α) (c:Nat):List (Int×Nat×α)×Nat:=
 if a∈L.map (·.1) then(L.map λb=>if b.1=a then(a,b.2.1,d) else b,c) else(L++[(a,c,d)],c+1)
theorem KO {α:Type} {d:Int} {i:α}:∀{b:List (Int×α)},(b.map (·.1)).Nodup->d∈b.map (·.1)->(b.map λc=>if c.1=d then(d,i) else c).Perm ((d,i)::hC b d)
 |[],_,e=>by cases e
 |(a,u)::b,e,j=>by
  simp only[ep,je] at e;simp only[ep];by_cases f:a=d
  ·subst f;rw[if_pos rfl];have l:(b.map λc=>if c.1=a then(a,i) else c)=b:=by
    conv=>rhs;rw[<-List.map_id b]
    refine hW λc h=>?_;rw[if_neg];rfl;rintro rfl;exact e.1 (bR.2 ⟨c,h,rfl⟩)
   have g:hC ((a,u)::b) a=b:=(by unfold hC;rw[jH,if_neg ab,l0];intro c h;simp only[decide_eq_true_eq];rintro rfl;exact e.1 (bR.2 ⟨c,h,rfl⟩));rw[l,g]
  rw[if_neg f];have g:hC ((a,u)::b) d=(a,u)::hC b d:=(by unfold hC;rw[jH,if_pos (by simpa using f)]);rw[g];refine((KO e.2 ?_).cons _).trans (.swap _ _ _);simp only[ep,dh] at j;exact j.resolve_left (λk=>f k.symm)
theorem iM.put {α:Type} {L:List (Int×Nat×α)} {l:List (Int×α)} {c:Nat} (e:iM L l c) (d:Int) (h:α):iM (sF L d h c).1 (g6 l d h) (bif (eg l d).isSome then c else c+1)/\(sF L d h c).2=(bif (eg l d).isSome then c else c+1):=by
 have j:(eg l d).isSome=decide (d∈L.map (·.1)):=by
  by_cases g:d∈L.map (·.1)
  ·obtain⟨a,f,rfl⟩:=bR.1 g;rw[e.mem f,decide_eq_true g];rfl
  rw[decide_eq_false g];cases j:eg l d with
  |none=>rfl
  |some v=>exact absurd (e.keys.mem_iff.2 (bR.2 ⟨_,A3 j,rfl⟩)) g
 rw[j];unfold sF;have p:((L.map λa=>(a.1,a.2.2)).filter λa=>decide (a.1≠d)).Perm (hC l d):=e.2.1.filter _;by_cases g:d∈L.map (·.1)
 ·rw[if_pos g,decide_eq_true g];refine⟨⟨D7 e.1,?_,?_,?_⟩,rfl⟩
  ·have aj:((L.map λa=>if a.1=d then(d,a.2.1,h) else a).map λa=>(a.1,a.2.2))=(L.map λa=>(a.1,a.2.2)).map λa=>if a.1=d then(d,h) else a:=by
    simp only[pR];refine hW λa _=>?_;simp only[Function.comp];by_cases i:a.1=d
    ·rw[if_pos i,if_pos i]
    rw[if_neg i,if_neg i]
   show((L.map λa=>if a.1=d then(d,a.2.1,h) else a).map λa=>(a.1,a.2.2)).Perm _;rw[aj];refine(KO ?_ ?_).trans ((p.cons _).trans (D6 e.1).symm)
   ·rw[pR];exact e.uO
   rw[pR];exact g
  ·have aj:((L.map λa=>if a.1=d then(d,a.2.1,h) else a).map λa=>a.2.1)=L.map λa=>a.2.1:=by
    rw[pR];refine hW λa _=>?_;simp only[Function.comp];split<;>rfl
   show((L.map λa=>if a.1=d then(d,a.2.1,h) else a).map λa=>a.2.1).Nodup;rw[aj];exact e.2.2.1
  intro a f;obtain⟨r,q,rfl⟩:=bR.1 f;have:=e.2.2.2 r q;show _<c;split<;>exact this
 rw[if_neg g,decide_eq_false g];refine⟨⟨D7 e.1,?_,?_,?_⟩,rfl⟩
 ·have m:hC l d=l:=by
   unfold hC;rw[l0];intro a f;simp only[decide_eq_true_eq];rintro rfl;exact g (e.keys.mem_iff.2 (bR.2 ⟨a,f,rfl⟩))
  have:=D6 (k:=d) (v:=h) e.1;rw[m] at this;refine List.Perm.trans ?_ this.symm;show((L++[(d,c,h)]).map λa=>(a.1,a.2.2)).Perm _;rw[gb];exact List.perm_append_comm.trans ((e.2.1).cons _)
 ·show((L++[(d,c,h)]).map λa=>a.2.1).Nodup;rw[gb,hF];refine⟨e.2.2.1,ab,λs n b o i=>?_⟩;obtain⟨a,f,rfl⟩:=bR.1 n;have:=e.2.2.2 a f;simp at o;omega
 intro a f;rcases dO.1 f with f|f
 ·have:=e.2.2.2 a f;show _<c+1;omega
 simp at f;subst f;exact Nat.lt_succ_self _
theorem HR {α:Type} {j:Int}:∀{c:List α} (b:α->Int) {g:Nat} {d:α},(c.map b).Nodup->c[g]?=some d->b d=j->c.eraseIdx g=c.filter λi=>decide (b i≠j)
 |[],b,g,d,_,a,_=>by simp at a
 |x::c,b,0,d,e,a,f=>by simp only[iL,bI] at a;subst a;simp only[ep,je] at e;rw[List.eraseIdx_cons_zero,jH,if_neg (by simpa using f),l0.2];intro i k;simp only[decide_eq_true_eq];intro h;exact e.1 (bR.2 ⟨i,k,h.trans f.symm⟩)
 |x::c,b,g+1,d,e,a,f=>by simp only[oG] at a;simp only[ep,je] at e;rw[List.eraseIdx_cons_succ,jH,if_pos,HR b e.2 a f];simp only[decide_eq_true_eq];intro h;exact e.1 (bR.2 ⟨d,kD a,f.trans h.symm⟩)
theorem iM.del {α:Type} {L:List (Int×Nat×α)} {l:List (Int×α)} {c:Nat} (b:iM L l c) (d:Int):iM (L.filter λa=>decide (a.1≠d)) (hC l d) c:=by
 refine⟨Va b.1,?_,?_,λa e=>b.2.2.2 a (gr.1 e).1⟩
 ·have:=b.2.1.filter (λa=>decide (a.1≠d));rw[List.filter_map] at this;exact this
 exact b.2.2.1.sublist (List.filter_sublist.map _)
theorem aN.Je (a:fu M w t b l c di L):aN M w (.mp t) [.map (some b)] (some (l,c)) [b]:=⟨b,di,L,rfl,rfl,a.nf,lM.2 a.h,a.n,a.e⟩
theorem aN.Jd (a:aN M w (.mp t) i (some (l,c)) n):∃b di L,i=[.map (some b)]/\n=[b]/\fu M w t b l c di L:=by obtain⟨b,di,L,d,e,f,g,h,j⟩:=a;exact⟨b,di,L,d,e,f,lM.1 g,h,j⟩
theorem aN.aa5 {a:c5} (d:aN M w (.dC a t) i (some (l,c)) n):∃b di L,i=[.map (some b)]/\n=[]/\M a b/\fu M w t b l c di L:=by obtain⟨b,di,L,e,f,g,m,h,j,k⟩:=d;exact⟨b,di,L,e,f,m,g,lM.1 h,j,k⟩
def eZ (w:World) (b:Nat) (di:Array MapEntry) (c:Nat):World:={w with heap:=w.heap.setIfInBounds b (.map di c)}
theorem lR {es':Array MapEntry} {c':Nat} (a:w.heap[b]?=some (.map di c)):(eZ w b es' c').heap[b]?=some (.map es' c'):=by have:=(lW.1 a).1;simp[eZ,this]
theorem xW {c:Array MapEntry} (d:g≠b):(eZ w b c O).heap[g]?=w.heap[g]?:=by simp only[eZ];rw[B8 (λa=>d a.symm)]
theorem LQ {a:Array MapEntry}:(eZ w b a g).heap.size=w.heap.size:=by simp[eZ]
theorem ZP {es':Array MapEntry} {c':Nat} (e:w.heap[b]?=some (.map di c)) (a:Addr):(eZ w b es' c').cell? a=w.cell? a:=by
 by_cases d:a.block=b
 ·unfold World.cell?;rw[d,lR e,e]
 exact World.cell?_of_block (xW d)
theorem ZQ {es':Array MapEntry} {c':Nat} (e:w.heap[b]?=some (.map di c)) (a:Addr):(eZ w b es' c').frozen? a=w.frozen? a:=by
 by_cases d:a.block=b
 ·unfold World.frozen?;rw[d,lR e,e]
 exact World.frozen?_of_block (xW d)
theorem BJ {a:Array MapEntry} (c:g≠b):bN w (eZ w b a O) g:=.of_heap (xW c)
theorem fu.update (f:fu M w t b l c di L) {Y:TypeId} (U:P.underlying G=some (.map a Y)) (Q:P.underlying a=some (.int u)) (d:Int) {p:t.den} (W:D.length=t.size) (X:aN M w t D p []):∃x Z,(Instr.mapUpdate G (.map (some b)) (.int .i64 d) (bH t D)).run P w=.ok () (eZ w b x (bif (eg l d).isSome then c else c+1))/\(∀{C:c5->Nat->Prop},(∀v d,M v d->C v d/\d≠b)->fu C (eZ w b x (bif (eg l d).isSome then c else c+1)) t b (g6 l d p) (bif (eg l d).isSome then c else c+1) x Z)/\i7 w (eZ w b x (bif (eg l d).isSome then c else c+1)) b:=by
 have H:∀{C:c5->Nat->Prop} {x:Array MapEntry} {ad:Nat},(∀v d,M v d->C v d/\d≠b)->∀{D:cS} {p:t.den},aN M w t D p []->aN C (eZ w b x ad) t D p []:=
  λr _ _ ci=>ci.mono (λv d z=>⟨(r v d z).1,BJ (r v d z).2⟩) ab
 obtain⟨s,dl⟩:=f.nf.put d p;rcases f.find (P:=P) Q d with⟨O,y,T⟩|⟨B,ds,d0,cs,O,y,T,F,cv,av⟩
 ·rw[O] at s|-;have z:d∉L.map (·.1):=λa0=>(by obtain⟨k,ce,m⟩:=bR.1 a0;exact y k ce m);simp only[Option.isSome_none,cond_false] at s|-;have aj:(sF L d p c).1=L++[(d,c,p)]:=(by unfold sF;rw[if_neg z]);rw[aj] at s;refine⟨di.push ⟨.int .i64 d,bH t D,c⟩,L++[(d,c,p)],?_,λr=>⟨s,lR f.h,by simp[f.n],λg k o=>?_⟩,?_⟩
  ·simp only[Instr.mapUpdate,Sem.run_bind,run_underlying U,Result.andThen_ok,run_getObj_map f.h,mE Q,T];exact oj f.h
  ·rcases bp g L.length with R|R
   ·rw[lx R] at o;obtain⟨N,I,J,K⟩:=f.e g k o;exact⟨N,I,by rw[vh,if_neg (by rw[f.n];omega)];exact J,H r K⟩
   rw[l1 R] at o;have a3:g-L.length=0:=(by have:=(eb.1 o).1;simp at this;omega);rw[a3] at o;simp only[iL,bI] at o;subst o;exact⟨D,W,by rw[vh,if_pos (by rw[f.n];omega)],H r X⟩
  intro ap am E;rw[lM.2 f.h] at E;cases E;refine⟨_,_,lM.2 (lR f.h),Nat.le_succ _,λg m q V=>?_⟩;rw[vh] at q;split at q
  ·cases q;exact absurd V (Nat.lt_irrefl _)
  exact⟨g,m,q,rfl,rfl⟩
 rw[O] at s|-;have z:d∈L.map (·.1):=bR.2 ⟨_,kD y,rfl⟩;simp only[yn,cond_true] at s|-;have aj:(sF L d p c).1=L.map λk=>if k.1=d then(d,k.2.1,p) else k:=by unfold sF;rw[if_pos z]
 rw[aj] at s;have co:∀(g:Nat) (k:Int×Nat×t.den),L[g]?=some k->k.1=d->g=B:=λg k o m=>(by have bs:=f.nf.uO;have a4:g<(L.map (·.1)).length:=(by have:=(eb.1 o).1;simpa using this);have:=List.getElem?_inj a4 bs (i:=g) (j:=B);apply this.1;rw[eS,eS,o,y];simp[m]);refine⟨di.modify B λm=>{m with key:=.int .i64 d,val:=bH t D},L.map λk=>if k.1=d then(d,k.2.1,p) else k,?_,λr=>⟨s,lR f.h,by simp[f.n],λg k o=>?_⟩,?_⟩
 ·have bl:(Instr.keyThatStays (((di[B]?).map (·.key)).getD (.int .i64 d)) (.int .i64 d)).run P w=.ok (.int .i64 d) w:=by
   rw[F];simp[Instr.keyThatStays,Instr.sameBits]
  simp only[Instr.mapUpdate,Sem.run_bind,run_underlying U,Result.andThen_ok,run_getObj_map f.h,mE Q,av,bl];exact oj f.h
 ·rw[eS] at o;obtain⟨S,A,rfl⟩:=dZ.1 o;by_cases m:S.1=d
  ·obtain rfl:=co g S A m;rw[y] at A;cases A;simp only[if_true];exact⟨D,W,by rw[pH,if_pos rfl,F];rfl,H r X⟩
  rw[if_neg m];obtain⟨N,I,J,K⟩:=f.e g S A;refine⟨N,I,?_,H r K⟩;rw[pH,if_neg,J];rintro rfl;rw[y] at A;cases A;exact m rfl
 intro ap am E;rw[lM.2 f.h] at E;cases E;refine⟨_,_,lM.2 (lR f.h),a8 _,λg m q V=>?_⟩;rw[pH] at q;split at q
 ·rename_i an;subst an;rw[F] at q;simp only[fB,bI] at q;subst q;exact⟨B,_,F,rfl,rfl⟩
 exact⟨g,m,q,rfl,rfl⟩
theorem fu.delete (d:fu M w t b l c di L) {R:TypeId} (N:P.underlying G=some (.map a R)) (E:P.underlying a=some (.int u)) (f:Int) (an:TypeId) (T:TypeId):∃o S,(Builtin.delete_ #[G,T] an #[.map (some b),.int .i64 f]).run P w=.ok (.tuple #[]) (eZ w b o c)/\(∀{r:c5->Nat->Prop},(∀i f,M i f->r i f/\f≠b)->fu r (eZ w b o c) t b (hC l f) c o S)/\i7 w (eZ w b o c) b:=by
 have H:∀{r:c5->Nat->Prop} {o:Array MapEntry} {U:Nat},(∀i f,M i f->r i f/\f≠b)->∀{I:cS} {Q:t.den},aN M w t I Q []->aN r (eZ w b o U) t I Q []:=
  λk _ _ am=>am.mono (λi f O=>⟨(k i f O).1,BJ (k i f O).2⟩) ab
 rcases d.find (P:=P) E f with⟨J,C,K⟩|⟨m,a0,a3,ap,J,C,K,D,av,Y⟩
 ·have aj:hC l f=l:=by
   unfold hC;rw[l0];intro j ad;simp only[decide_eq_true_eq];rintro rfl;exact IX J j.2 ad
  refine⟨di,L,?_,λk=>⟨by rw[aj];exact d.nf,lR d.h,d.n,λg j q=>?_⟩,?_⟩
  ·simp only[Builtin.delete_,Sem.run_bind,run_underlying N,Result.andThen_ok,run_getObj_map d.h,mE E,K,List.getElem?_toArray,iL,oG];rw[oj d.h];rfl
  ·obtain⟨y,s,v,x⟩:=d.e g j q;exact⟨y,s,v,H k x⟩
  intro X V A;rw[lM.2 d.h] at A;cases A;exact⟨_,_,lM.2 (lR d.h),a8 _,λg B p _=>⟨g,B,p,rfl,rfl⟩⟩
 have W:L.eraseIdx m=L.filter λj=>decide (j.1≠f):=HR (·.1) d.nf.uO C rfl;refine⟨di.eraseIdxIfInBounds m,L.eraseIdx m,?_,λk=>⟨by rw[W];exact d.nf.del f,lR d.h,?_,λg j q=>?_⟩,?_⟩
 ·simp only[Builtin.delete_,Sem.run_bind,run_underlying N,Result.andThen_ok,run_getObj_map d.h,mE E,Y,List.getElem?_toArray,iL,oG];rw[oj d.h];rfl
 ·have z:m<di.size:=(lW.1 D).1;have Z:m<L.length:=(eb.1 C).1;rw[Array.eraseIdxIfInBounds,dif_pos z,Array.size_eraseIdx,List.length_eraseIdx,if_pos Z,d.n]
 ·have z:m<di.size:=(lW.1 D).1;rw[List.getElem?_eraseIdx] at q;rw[Array.eraseIdxIfInBounds,dif_pos z];split at q
  ·rename_i F;obtain⟨y,s,v,x⟩:=d.e g j q;exact⟨y,s,by rw[Array.getElem?_eraseIdx,if_pos F];exact v,H k x⟩
  rename_i F;obtain⟨y,s,v,x⟩:=d.e (g+1) j q;exact⟨y,s,by rw[Array.getElem?_eraseIdx,if_neg F];exact v,H k x⟩
 intro X V A;rw[lM.2 d.h] at A;cases A;refine⟨_,_,lM.2 (lR d.h),a8 _,λg B p _=>?_⟩;have z:m<di.size:=(lW.1 D).1;rw[Array.eraseIdxIfInBounds,dif_pos z,Array.getElem?_eraseIdx] at p;split at p
 ·exact⟨g,B,p,rfl,rfl⟩
 exact⟨g+1,B,p,rfl,rfl⟩
end
end
section
section
variable {E:dW} {C:dn} {st:aJ} {a:Act} {w:World} {I:Nat->Prop} {rt:Nat->cS} {fp:Nat->cY} {o:Oper} {Q:al->List (Nat×aC)->Prop}
def ju (tt:List (TypeId×ag)) (b:TypeId):Option ag:=match ao tt b with|some (.mp a)=>some a|some (.dC _ a)=>some a|_=>none
theorem ju.ok {d:TypeId} {i:ag} (c:ju E.tt d=some i):∃a b,E.P.underlying d=some (.map a b)/\E.P.underlying a=some (.int .i64)/\dF E.P i b:=by
 unfold ju at c;split at c
 ·rename_i k h;cases c;obtain⟨j,a,b,_,_,_,_,e,f,g⟩:=E.ok d _ h;exact⟨a,b,e,f,g⟩
 ·rename_i l k h;cases c;obtain⟨j,a,b,_,_,_,_,e,f,g⟩:=E.ok d _ h;exact⟨a,b,e,f,g⟩
 cases c
def uJ (tt:List (TypeId×ag)) (d:List (Nat×ag)) (e:List (Nat×aC)) (a:Nat) (c:TypeId):gx:=
 match ju tt c,ao d a,ao e a with
 |some f,some (.mp b),none=>bif a2 f b then .dv (.ref a []) [(a,⟨.mp b,some ([],0)⟩)] else .bad
 |_,_,_=>.bad
theorem Vw (f:bt C st a.tmps w I rt fp) (l:o.op=.makeMap G none) (b:(uJ E.tt j st.h c G).K Q):Yields E C st a w I rt fp o Q:=by
 unfold uJ at b;split at b
 case h_2=>exact b.elim
 rename_i m d p q g;cases e:a2 m d with
 |false=>rw[e] at b;exact b.elim
 |true=>
 rw[e] at b;have i:(w.alloc (.map #[] 0)).heap[w.heap.size]?=some (.map #[] 0):=(by show(w.heap.push _)[w.heap.size]?=_;rw[vh,if_pos rfl]);refine⟨.map (some w.heap.size),w.alloc (.map #[] 0),I,λ_=>[.map (some w.heap.size)],λ_=>[w.heap.size],.ref c [],[(c,⟨.mp d,some ([],0)⟩)],?_,.alloc w _,λ_ b=>b,λ_ b=>.inl b,.one g (aN.Je (fu.empty _ _ i)) ab (λn e=>?_),?_,b⟩
 ·simp[execOp,l,Instr.makeMap,newObj,Sem.run]
 ·simp only[dP] at e;subst e;exact⟨a8 _,ab,λb=>by have:=f.ib _ (.inl b);omega⟩
 have k:ao ([(c,(⟨.mp d,some ([],0)⟩:aC))]++st.h) c=some ⟨.mp d,some ([],0)⟩:=(by rw[yj,bU,if_pos rfl]);refine .ref (t:=⟨.mp d,some ([],0)⟩) (τ':=.mp d) (loc:=none) (cs:=[.map (some w.heap.size)]) k ?_;have:dA [(c,(⟨.mp d,some ([],0)⟩:aC))] (λ_=>[Value.map (some w.heap.size)]) rt c=[.map (some w.heap.size)]:=(by simp[dA,bU]);rw[this];exact aP.here
def A0 (a:ag) (c:Option (List (Int×a.den)×Nat)) (d:a.den) (b:Int):Bool->al
 |true=>.dw [.val a ((iG c b).getD d),.val .bool (iG c b).isSome]
 |false=>.val a ((iG c b).getD d)
def sA (tt:List (TypeId×ag)) (j:List (Nat×aC)) (i:TypeId) (k c:al) (f:Bool):gx:=
 match ju tt i,c with
 |some h,.val (.int .i64) c=>match k with
  |.val (.dC l a) b=>match kw a with
   |some d=>bif a2 h a then .dv (A0 a b d c f) [] else .bad
   |none=>.bad
  |.ref id g=>match ao j id with
   |some e=>match dI e.1 g with
    |some (.mp a)=>match kw a with
     |some d=>bif a2 h a then .part (Option (List (Int×a.den)×Nat)) (λb=>c4 e.1 e.2 g (.mp a) b) (λb=>(A0 a b d c f,[])) else .bad
     |none=>.bad
    |_=>.bad
   |none=>.bad
  |_=>.bad
 |_,_=>.bad
theorem IS {l k:TypeId} (s:E.P.underlying l=some (.map G k)) (f:E.P.underlying G=some (.int .i64)) (R:dF E.P d k) {J:Operand} {e:Bool} (U:o.op=.lookup l b J e) {n:Int} (T:a.eval J=.int .i64 n) {v:d.den} (W:kw d=some v) {m:Option (List (Int×d.den)×Nat)} (g:(m=none/\a.eval b=.map none)\/∃p t q z y,m=some (t,q)/\a.eval b=.map (some p)/\fu (ba I C.B) w d p t q z y):∃u,(execOp a.eval o).run E.P w=.ok (.value u) w/\∀A:List (Nat×aC),bE (ba I C.B) w A rt fp (A0 d m v n e) u:=by
 obtain⟨H,x,ar,Y,K,L⟩:=s8 R W;have F:(zeroValue k).run E.P w=.ok x w:=(by simp[zeroValue,typeInfo,ar,Y]);have X:∃i,aN (ba I C.B) w d i ((iG m n).getD v) []/\(Instr.lookup l (a.eval b) (.int .i64 n) e).run E.P w=.ok (if e then .tuple #[bH d i,.bool (iG m n).isSome] else bH d i) w:=by
  rcases g with⟨rfl,g⟩|⟨p,t,q,z,y,rfl,g,r⟩
  ·refine⟨x.cells.toList,by simpa[iG] using L _ _,?_⟩;rw[g];have S:(Instr.findKey G (.int .i64 n) []).run E.P w=.ok none w:=E8 f rfl;simp only[Instr.lookup,Sem.run_bind,run_underlying s,Result.andThen_ok,Sem.run_pure,mE f,S,F];rw[<-K];cases e<;>rfl
  rw[g];rcases r.find (P:=E.P) f n with⟨c,_,N⟩|⟨an,ap,av,M,c,_,ad,am,O,Q⟩
  ·refine⟨x.cells.toList,by simpa[iG,c] using L _ _,?_⟩;simp only[Instr.lookup,Sem.run_bind,run_underlying s,Result.andThen_ok,Sem.run_pure,run_getObj_map r.h,mE f,N,F];rw[<-K];simp only[iG,aM,c,Option.isSome_none]
  refine⟨M,by simpa[iG,c] using O,?_⟩;simp only[Instr.lookup,Sem.run_bind,run_underlying s,Result.andThen_ok,Sem.run_pure,run_getObj_map r.h,mE f,Q];simp only[iG,aM,c,yn]
 obtain⟨i,D,V⟩:=X;refine⟨_,by simp only[execOp,U,T,Sem.run_bind,V];rfl,λA=>?_⟩;cases e with
 |false=>exact .val D
 |true=>
  refine .dw ab (λH Z u c j=>?_)
  match H with
  |0=>simp at c j;subst c;subst j;exact .val D
  |1=>simp at c j;subst c;subst j;exact .bool _
  |n+2=>simp at c
theorem aN.Ef {e:Option (List (Int×d.den)×Nat)} (j:aN f w (.mp d) i e n):(e=none/\i=[.map none]/\n=[])\/∃a c b h g,e=some (c,b)/\i=[.map (some a)]/\n=[a]/\fu f w d a c b h g:=by
 cases e with
 |none=>exact .inl ⟨rfl,j.2,j.1⟩
 |some o=>
  obtain⟨c,b⟩:=o;obtain⟨a,h,g,k,l,m⟩:=j.Jd;exact .inr ⟨a,c,b,h,g,rfl,k,l,m⟩
theorem aN.MB {e:Option (List (Int×d.den)×Nat)} (j:aN f w (.dC P d) i e n):(e=none/\i=[.map none])\/∃a c b h g,e=some (c,b)/\i=[.map (some a)]/\fu f w d a c b h g:=by
 cases e with
 |none=>exact .inl ⟨rfl,j.2⟩
 |some m=>
  obtain⟨c,b⟩:=m;obtain⟨a,h,g,k,_,_,l⟩:=j.aa5;exact .inr ⟨a,c,b,h,g,rfl,k,l⟩
theorem U4 (s:bt C st a.tmps w I rt fp) {j:Operand} {J:Bool} (D:o.op=.lookup G b j J) (c:(sA E.tt st.h G (aO st.g b) (aO st.g j) J).K Q):Yields E C st a w I rt fp o Q:=by
 have f:=s.aO b;have t:=s.aO j;unfold sA at c;split at c
 case h_2=>exact c.elim
 rename_i O a3 R P;obtain⟨am,an,L,M,N⟩:=ju.ok R;rw[P] at t;generalize B:a.eval j=a0 at t;cases t with|val W=>
 obtain⟨_,rfl⟩:=W;split at c
 ·rename_i ad A x r;split at c
  case h_2=>exact c.elim
  rename_i Z u;cases e:a2 O A with
  |false=>rw[e] at c;exact c.elim
  |true=>
  rw[e] at c;rw[r] at f;generalize i:a.eval b=Y at f;cases f with|val V=>
  obtain⟨X,y,z⟩:=IS (rt:=rt) (fp:=fp) (I:=I) (C:=C) (E:=E) (w:=w) (a:=a) (m:=x) L M (N.lay e) D B u (by
   rcases V.MB with⟨aj,d⟩|⟨l,v,n,q,k,aj,d,p⟩
   ·exact .inl ⟨aj,by rw[i,d];rfl⟩
   exact .inr ⟨l,v,n,q,k,aj,by rw[i,d];rfl,p⟩)
  exact .pure y (z _) c
 ·rename_i id a4 r;split at c
  case h_2=>exact c.elim
  rename_i bl F;split at c
  case h_2=>exact c.elim
  rename_i A av;split at c
  case h_2=>exact c.elim
  rename_i Z u;cases e:a2 O A with
  |false=>rw[e] at c;exact c.elim
  |true=>
  rw[e] at c;obtain⟨x,S,c⟩:=c;rw[r] at f;generalize i:a.eval b=Y at f;cases f with|ref H T=>
  rw[F] at H;cases H;obtain⟨rfl,ap,U,_⟩:=s.jq F S T;obtain⟨X,y,z⟩:=IS (rt:=rt) (fp:=fp) (I:=I) (C:=C) (E:=E) (w:=w) (a:=a) (m:=x) L M (N.lay e) D B u (by
   rcases U.Ef with⟨aj,d,_⟩|⟨l,v,n,q,k,aj,d,_,p⟩
   ·exact .inl ⟨aj,by rw[i,d];rfl⟩
   exact .inr ⟨l,v,n,q,k,aj,by rw[i,d];rfl,p⟩)
  exact .pure y (z _) c
 exact c.elim
def sE (tt:List (TypeId×ag)) (f:List (Nat×aC)) (e:TypeId) (g:al):gx:=
 match ju tt e with
 |none=>.bad
 |some _=>match g with
  |.val (.dC _ b) a=>.dv (.val (.int .i64) (uF (α:=b.den) a)) []
  |.ref id d=>match ao f id with
   |some c=>match dI c.1 d with
    |some (.mp b)=>.part (Option (List (Int×b.den)×Nat)) (λa=>c4 c.1 c.2 d (.mp b) a) (λa=>(.val (.int .i64) (uF a),[]))
    |_=>.bad
   |none=>.bad
  |_=>.bad
theorem Jb {q r:TypeId} (l:E.P.underlying G=some (.map q r)) (p:o.op=.call {callee:=.builtin .len,args:=#[b],argTypes:=#[G]}) {m:Option (List (Int×d.den)×Nat)} (c:(m=none/\a.eval b=.map none)\/∃f e g i k,m=some (e,g)/\a.eval b=.map (some f)/\fu (ba I C.B) w d f e g i k):(execOp a.eval o).run E.P w=.ok (.value (.int .i64 (uF m))) w:=by
 rcases c with⟨rfl,c⟩|⟨f,e,g,i,k,rfl,c,j⟩
 ·simp[execOp,p,resolve,invoke,builtin,c,Builtin.len_,run_underlying l,goInt,uF]
 have s:i.size=e.length:=(by rw[j.n,j.nf.len]);simp only[execOp,p,resolve,invoke,builtin,Sem.run_bind,Sem.run_pure,Result.andThen_ok,vx,ep,pS,c,Builtin.len_,List.getElem?_toArray,iL,run_underlying l,run_getObj_map j.h,goInt,uF,s]
theorem Vy (s:bt C st a.tmps w I rt fp) (t:o.op=.call {callee:=.builtin .len,args:=#[b],argTypes:=#[G]}) (c:(sE E.tt st.h G (aO st.g b)).K Q):Yields E C st a w I rt fp o Q:=by
 have e:=s.aO b;unfold sE at c;split at c
 ·exact c.elim
 rename_i S y;obtain⟨J,L,x,P,R⟩:=ju.ok y;generalize f:a.eval b=T at e;split at c
 ·rename_i H F r p;rw[p] at e;cases e with|val D=>
  refine .pure (Jb (I:=I) (C:=C) (m:=r) x t ?_) (.int _ _) c;rcases D.MB with⟨aj,d⟩|⟨j,q,k,n,i,aj,d,l⟩
  ·exact .inl ⟨aj,by rw[f,d];rfl⟩
  exact .inr ⟨j,q,k,n,i,aj,by rw[f,d];rfl,l⟩
 ·rename_i id O p;split at c
  case h_2=>exact c.elim
  rename_i U u;split at c
  case h_2=>exact c.elim
  rename_i F N;obtain⟨r,z,c⟩:=c;rw[p] at e;cases e with|ref v A=>
  rw[u] at v;cases v;obtain⟨rfl,M,B,_⟩:=s.jq u z A;refine .pure (Jb (I:=I) (C:=C) (m:=r) x t ?_) (.int _ _) c;rcases B.Ef with⟨aj,d,_⟩|⟨j,q,k,n,i,aj,d,_,l⟩
  ·exact .inl ⟨aj,by rw[f,d];rfl⟩
  exact .inr ⟨j,q,k,n,i,aj,by rw[f,d];rfl,l⟩
 exact c.elim
end
end
section
section
variable {E:dW} {C:dn} {st:aJ} {a:Act} {w:World} {I:Nat->Prop} {rt:Nat->cS} {fp:Nat->cY} {o:Oper} {Q:al->List (Nat×aC)->Prop}
def Bs (b c d:al):gx:=
 match b with
 |.val .bool b=>.part Bool (λa=>b=a) (λa=>(match a with|true=>c|false=>d,[]))
 |_=>.bad
theorem Yw (e:bt C st a.tmps w I rt fp) {d:Operand} (j:o.op=.pick b h d) (c:(Bs (aO st.g b) (aO st.g h) (aO st.g d)).K Q):Yields E C st a w I rt fp o Q:=by
 have f:=e.aO b;unfold Bs at c;split at c
 case h_2=>exact c.elim
 rename_i i l;obtain⟨i,rfl,c⟩:=c;rw[l] at f;generalize k:a.eval b=n at f;cases f with|val m=>
 obtain⟨_,rfl⟩:=m;cases i
 ·exact .pure (v:=a.eval d) (by simp[execOp,j,k,bH,asBool]) (e.aO d) c
 exact .pure (v:=a.eval h) (by simp[execOp,j,k,bH,asBool]) (e.aO h) c
def Fz (e:UnOp) (c:al):gx:=
 match e,c with
 |.neg,.val (.int a) c=>.part Int (λb=>a.wrap (0-c)=b) (λb=>(.val (.int a) b,[]))
 |.xor,.val (.int a) c=>.part Int (λb=>a.wrap (BitVec.ofInt a.bits (if a.signed then-1 else a.max)^^^BitVec.ofInt a.bits c).toNat=b) (λb=>(.val (.int a) b,[]))
 |.not,.val .bool d=>.dv (.val .bool (!d)) []
 |_,_=>.bad
theorem aaK (l:bt C st a.tmps w I rt fp) {k:UnOp} (i:o.op=.unOp k G b) (c:(Fz k (aO st.g b)).K Q):Yields E C st a w I rt fp o Q:=by
 have d:=l.aO b;unfold Fz at c;generalize j:a.eval b=p at d;split at c
 ·rename_i f m e;obtain⟨n,rfl,c⟩:=c;rw[e] at d;cases d with|val h=>
  obtain⟨_,rfl⟩:=h;exact .pure (v:=.int f _) (by simp only[execOp,i,j,bH,Op.unary,Op.intArith];rfl) (.int f _) c
 ·rename_i f m e;obtain⟨n,rfl,c⟩:=c;rw[e] at d;cases d with|val h=>
  obtain⟨_,rfl⟩:=h;exact .pure (v:=.int f _) (by simp only[execOp,i,j,bH,Op.unary,Op.intBits];rfl) (.int f _) c
 ·rename_i q e;rw[e] at d;cases d with|val h=>
  obtain⟨_,rfl⟩:=h;exact .pure (v:=.bool _) (by simp only[execOp,i,j,bH,Op.unary];rfl) (.bool _) c
 exact c.elim
def yN (tt:List (TypeId×ag)) (e d:TypeId) (a:al):gx:=
 match ao tt e,ao tt d,a with
 |some (.int _),some (.int c),.val (.int _) a=>.part Int (λb=>c.wrap a=b) (λb=>(.val (.int c) b,[]))
 |_,_,_=>.bad
theorem SE (k:bt C st a.tmps w I rt fp) {e:TypeId} (l:o.op=.convert e G b) (c:(yN E.tt e G (aO st.g b)).K Q):Yields E C st a w I rt fp o Q:=by
 have d:=k.aO b;unfold yN at c;split at c
 case h_2=>exact c.elim
 rename_i s f t u i j h;obtain⟨x,rfl,c⟩:=c;generalize m:a.eval b=r at d;rw[h] at d;cases d with|val n=>
 obtain⟨_,rfl⟩:=n;obtain⟨_,_,_,_,_,p⟩:=E.ok e _ i;obtain⟨_,_,_,_,_,q⟩:=E.ok G _ j;exact .pure (v:=.int f _) (by simp[execOp,l,m,bH,convert,run_underlying p,run_underlying q,Conv.intToInt]) (.int f _) c
def ou (c:ByteArray) (a:Int):cT:=if 0<=a then(c[a.toNat]?).map λb=>(b.toNat:Int) else none
def AY:ByteArray:=⟨#[0,1,2,2,3,3,3,3,4,4,4,4,4,4,4,4,5,5,5,5,5,5,5,5,5,5,5,5,5,5,5,5,6,6,6,6,6,6,6,6,6,6,6,6,6,6,6,6,6,6,6,6,6,6,6,6,6,6,6,6,6,6,6,6,7,7,7,7,7,7,7,7,7,7,7,7,7,7,7,7,7,7,7,7,7,7,7,7,7,7,7,7,7,7,7,7,7,7,7,7,7,7,7,7,7,7,7,7,7,7,7,7,7,7,7,7,7,7,7,7,7,7,7,7,7,7,7,7,8,8,8,8,8,8,8,8,8,8,8,8,8,8,8,8,8,8,8,8,8,8,8,8,8,8,8,8,8,8,8,8,8,8,8,8,8,8,8,8,8,8,8,8,8,8,8,8,8,8,8,8,8,8,8,8,8,8,8,8,8,8,8,8,8,8,8,8,8,8,8,8,8,8,8,8,8,8,8,8,8,8,8,8,8,8,8,8,8,8,8,8,8,8,8,8,8,8,8,8,8,8,8,8,8,8,8,8,8,8,8,8,8,8,8,8,8,8,8,8,8,8,8,8,8,8,8,8]⟩
def BQ (tt:List (TypeId×ag)) (d:TypeId) (f e:al):gx:=
 match ao tt d,f,e with
 |some .str,.bP (.string c),.val (.int _) b=>.part Int (λa=>ou c b=some a) (λa=>(.val (.int .u8) a,[]))
 |some .str,.val .str c,.val (.int _) b=>.part Int (λa=>ou c b=some a) (λa=>(.val (.int .u8) a,[]))
 |_,_,_=>.bad
theorem aae (y:bt C st a.tmps w I rt fp) (D:o.op=.index G h b) (n:(BQ E.tt G (aO st.g h) (aO st.g b)).K Q):Yields E C st a w I rt fp o Q:=by
 have j:=y.aO h;have i:=y.aO b;have x:∀(f:ByteArray) (k:IntKind) (e c:Int),ao E.tt G=some .str->a.eval h=.string f->a.eval b=.int k e->ou f e=some c->Q (.val (.int .u8) c) []->Yields E C st a w I rt fp o Q:=by
  intro f k e c p m l d q;obtain⟨_,_,_,_,_,u⟩:=E.ok G _ p;refine .pure (v:=.int .u8 c) ?_ (.int .u8 c) q;unfold ou at d;split at d
  case isFalse=>cases d
  rename_i A;obtain⟨H,B,rfl⟩:=dZ.1 d;simp[execOp,D,Instr.index,m,l,asIntOf,run_underlying u,A,B]
 unfold BQ at n;split at n
 ·rename_i f k e p m l;obtain⟨c,d,q⟩:=n;rw[m] at j;rw[l] at i;generalize s:a.eval h=z at j;generalize r:a.eval b=u at i;cases j;cases i with|val t=>
  obtain⟨_,rfl⟩:=t;exact x f k e c p s r d q
 ·rename_i f k e p m l;obtain⟨c,d,q⟩:=n;rw[m] at j;rw[l] at i;generalize s:a.eval h=z at j;generalize r:a.eval b=u at i;cases j with|val F=>
  obtain⟨_,rfl⟩:=F;cases i with|val t=>
  obtain⟨_,rfl⟩:=t;exact x f k e c p s r d q
 exact n.elim
def AA (d:al) (c:Nat):gx:=
 match d with
 |.dw b=>match b[c]? with
  |some a=>.dv a []
  |none=>.bad
 |_=>.bad
theorem TI (k:bt C st a.tmps w I rt fp) (n:o.op=.extract b c) (d:(AA (aO st.g b) c).K Q):Yields E C st a w I rt fp o Q:=by
 have f:=k.aO b;unfold AA at d;generalize p:a.eval b=q at f;split at d
 case h_2=>exact d.elim
 rename_i s j;split at d
 case h_2=>exact d.elim
 rename_i i h;rw[j] at f;cases f with|dw r l=>
 rename_i e;have m:c<e.size:=(by have:=(eb.1 h).1;omega);have:e[c]?=some e[c]:=vg m;exact .pure (v:=e[c]) (by simp[execOp,n,p,Instr.extract,this]) (l c i _ h this) d
def uK (c:Bool) (a:al):List al->gx
 |[]=>.dv a []
 |y::d=>match a,y with
  |.val (.int b) a,.val (.int e) y=>if b=e then(match c with|true=>uK c (.val (.int b) (if y>a then y else a)) d|false=>uK c (.val (.int b) (if y<a then y else a)) d) else .bad
  |_,_=>.bad
theorem A8 (j:bt C st a.tmps w I rt fp) (m:Bool):∀(e:List Operand) (i:al) (f:Value),bE (ba I C.B) w st.h rt fp i f->(uK m i (e.map (aO st.g))).K Q->∃d c,((e.map a.eval).foldlM (match m with|true=>Builtin.max2|false=>Builtin.min2) f).run E.P w=.ok d w/\bE (ba I C.B) w st.h rt fp c d/\Q c []
 |[],i,f,k,b=>⟨f,i,rfl,k,b⟩
 |y::e,i,f,k,b=>by
  have l:=j.aO y;simp only[ep,uK] at b;generalize p:a.eval y=A at l;split at b
  case h_2=>exact b.elim
  rename_i q x v z r;split at b
  case isFalse=>exact b.elim
  rename_i s;subst s;rw[r] at l;cases k with|val t=>cases l with|val u=>
  obtain⟨_,rfl⟩:=t;obtain⟨_,rfl⟩:=u;cases m
  ·obtain⟨d,c,ar,n,o⟩:=A8 j false e _ _ (.int q _) b;refine⟨d,c,?_,n,o⟩;simp only[ep,List.foldlM_cons,p,Sem.run_bind];exact ar
  obtain⟨d,c,ar,n,o⟩:=A8 j true e _ _ (.int q _) b;refine⟨d,c,?_,n,o⟩;simp only[ep,List.foldlM_cons,p,Sem.run_bind];exact ar
def DM:al->Bool
 |.val _ _|.bP _|.dg _ _=>true
 |_=>false
def e7 (tt:List (TypeId×ag)) (i:List (Nat×ag)) (d:List (Nat×aC)) (b:Operand->al) (g:Nat) (h:Op):gx:=
 match h with
 |.move a=>.dv (b a) []
 |.assign a=>bif DM (b a) then .dv (b a) [] else .bad
 |.pick f a n=>Bs (b f) (b a) (b n)
 |.alloc c=>tz tt i d g c
 |.box c a=>vH tt d g c (b a)
 |.build c l=>vG tt b c l.toList
 |.buildSlice c e l=>tI tt i d b g c e l.toList
 |.load c a=>sz tt d c (b a)
 |.nilCheck a=>sG d (b a)
 |.binOp h c a n _=>match b a,b n with
  |.val .bool x,.val .bool y=>match ao tt c with
   |some .bool=>CA h (.val .bool x) (.val .bool y)
   |_=>.bad
  |.val (.int k) v,.val (.int s) e=>km h k v s e
  |_,_=>.bad
 |.unOp h _ a=>Fz h (b a)
 |.convert z g a=>yN tt z g (b a)
 |.makeSlice c t f=>sC tt i d g c (b t) (b f)
 |.slice c a u r none=>s0 tt d c (b a) (u.map b) (r.map b)
 |.fieldAddr c a e=>sm tt d c (b a) e
 |.field c a e=>uq tt d c (b a) e
 |.indexAddr c a j=>su tt d c (b a) (b j)
 |.index c a j=>BQ tt c (b a) (b j)
 |.extract a e=>AA (b a) e
 |.call f=>match f.callee,f.args.toList,f.argTypes.toList with
  |.builtin .len,[a],[c]=>match eY tt c with
   |some _=>sy tt d c (b a)
   |none=>sE tt d c (b a)
  |.builtin .max,a::m,_=>uK true (b a) (m.map b)
  |.builtin .min,a::m,_=>uK false (b a) (m.map b)
  |_,_,_=>.bad
 |.makeMap c none=>uJ tt i d g c
 |.lookup c a k w=>sA tt d c (b a) (b k) w
 |.makeFunc (.func p) q o=>bif q.isEmpty then .dv (.dg p (o.toList.map b)) [] else .bad
 |_=>.bad
theorem Tl (e:bt C st a.tmps w I rt fp) (d:(e7 E.tt j st.h (aO st.g) c o.op).K Q):Yields E C st a w I rt fp o Q:=by
 unfold e7 at d;split at d
 ·rename_i f b;exact .pure (v:=a.eval f) (by simp[execOp,b]) (e.aO f) d
 ·rename_i f b;cases B:DM (aO st.g f) with
  |false=>rw[B] at d;exact d.elim
  |true=>rw[B] at d;exact .pure (v:=a.eval f) (by simp[execOp,b]) (e.aO f) d
 ·rename_i b;exact Yw e b d
 ·rename_i b;exact Rz e b d
 ·rename_i b;exact R5 e b d
 ·rename_i b;exact R2 e b d
 ·rename_i b;exact R9 e b d
 ·rename_i b;exact U1 e b d
 ·rename_i b;exact VK e b d
 ·rename_i X n f u Y b;split at d
  ·rename_i P R m p;split at d
   ·rename_i M;refine GQ e b (λ_ _ _ _=>?_) (by rw[m,p];exact d);exact(E.ok n _ M).choose_spec.2.2.2.2
   exact d.elim
  ·rename_i m p;refine GQ e b (λP R _ D=>?_) (by rw[m,p];exact d);rw[m] at D;cases D.1
  exact d.elim
 ·rename_i b;exact aaK e b d
 ·rename_i b;exact SE e b d
 ·rename_i b;exact Vg e b d
 ·rename_i b;exact ZV e b d
 ·rename_i b;exact TQ e b d
 ·rename_i b;exact TS e b d
 ·rename_i b;exact Uo e b d
 ·rename_i b;exact aae e b d
 ·rename_i b;exact TI e b d
 ·rename_i G b;obtain⟨U,i,x⟩:=G;simp only at d;split at d
  ·rename_i f n aj V;have k:i=#[f]:=(by cases i;simp_all);have J:x=#[n]:=(by cases x;simp_all);subst k;subst J;split at d
   ·exact UW e b d
   exact Vy e b d
  ·rename_i f l aj;have k:i=(f::l).toArray:=(by cases i;simp_all);obtain⟨t,F,ar,r,s⟩:=A8 (E:=E) e true l _ _ (e.aO f) d;refine .pure (v:=t) ?_ r s;simp only[execOp,b,resolve,invoke,builtin,Sem.run_bind,Sem.run_pure,Result.andThen_ok,k,Builtin.max_];simp only[vx,ep,ar];rfl
  ·rename_i f l aj;have k:i=(f::l).toArray:=(by cases i;simp_all);obtain⟨t,F,ar,r,s⟩:=A8 (E:=E) e false l _ _ (e.aO f) d;refine .pure (v:=t) ?_ r s;simp only[execOp,b,resolve,invoke,builtin,Sem.run_bind,Sem.run_pure,Result.andThen_ok,k,Builtin.min_];simp only[vx,ep,ar];rfl
  exact d.elim
 ·rename_i b;exact Vw e b d
 ·rename_i b;exact U4 e b d
 ·rename_i L y H b;cases q:y.isEmpty with
  |false=>rw[q] at d;exact d.elim
  |true=>
   rw[q] at d;obtain rfl:y=#[]:=(by simpa using q);refine .pure (v:=.func (.func L) #[] (H.map a.eval)) (by simp[execOp,b,Instr.makeFunc]) (.dg ab (λW f T z A=>?_)) d;rw[eS] at z;rw[Array.getElem?_map] at A;obtain⟨u,N,rfl⟩:=dZ.1 z;obtain⟨S,O,rfl⟩:=dZ.1 A;obtain rfl:u=S:=(by simpa[O] using N.symm);exact e.aO u
 exact d.elim
end
end
def db (b:Nat) (a:cY):Bool:=a.any λc=>Nat.beq c b
theorem ek:db c n=true↔c∈n:=by
 simp only[db,nD];constructor
 ·rintro⟨d,b,a⟩;rw[<-er a];exact b
 exactλa=>⟨c,a,pU c⟩
def al.dJ (a:cY) (b:al):Bool:=b.ids.any λc=>db c a
def sZ:List aV->Option (List aV)
 |.unst::a=>(sZ a).map λb=>.unst::b
 |.fst::_=>some [.snd]
 |.snd::_=>some [.fst]
 |_=>none
def px:List aV->List aV->Option (List aV)
 |p,[]=>sZ p
 |.idx _::p,.idx _::a=>px p a
 |.deref::p,.deref::a=>px p a
 |.unst::p,.unst::a=>px p a
 |.fst::p,.fst::a=>px p a
 |.snd::p,.snd::a=>px p a
 |_,_=>none
def DO (a b:List aV):Bool:=fk a b||(px a b).isSome
theorem LX:∀{p b:List aV},sZ p=some b->fk p b=true
 |.unst::p,b,a=>by obtain⟨d,c,rfl⟩:=dZ.1 a;exact LX (p:=p) c
 |.fst::_,_,a=>by cases a;rfl
 |.snd::_,_,a=>by cases a;rfl
 |[],_,a=>by cases a
 |.idx _::_,_,a=>by cases a
 |.deref::_,_,a=>by cases a
theorem LW:∀{q p b:List aV},px p q=some b->fk p (q++b)=true
 |[],p,b,a=>by have c:sZ p=some b:=(by cases p<;>exact a);exact LX c
 |s::q,p,b,a=>by
  cases p with
  |nil=>cases s<;>cases a
  |cons d p=>cases s<;>cases d<;>first|(cases a;done)|exact LW (q:=q) (p:=p) a
theorem LY:∀{p e:List aV} {τ h:ag},dI τ p=some h->sZ p=some e->∃(o:ag) (m:Nat),∀(i:World) (b:Loc) (g:cS),∃k,aP i τ b g e o (b.map λd=>(d.1,d.2+m)) k
 |.unst::p,e,τ,h,c,a=>by
  obtain⟨q,l,rfl⟩:=dZ.1 a;cases τ with
  |st n=>exact LY (p:=p) (τ:=n) c l
  |_=>cases c
 |.fst::p,e,τ,h,c,a=>by
  cases a;cases τ with
  |pr f j=>exact⟨j,f.size,λi b g=>⟨_,aP.here⟩⟩
  |_=>cases c
 |.snd::p,e,τ,h,c,a=>by
  cases a;cases τ with
  |pr f j=>
   refine⟨f,0,λi b g=>⟨g.take f.size,?_⟩⟩;have:(b.map λd=>(d.1,d.2+0))=b:=(by cases b<;>rfl);rw[this];exact aP.here
  |_=>cases c
 |[],_,_,_,_,a=>by cases a
 |.idx _::_,_,_,_,_,a=>by cases a
 |.deref::_,_,_,_,_,a=>by cases a
theorem u5 {o:World}:∀{q p d:List aV} {e f:ag} {j:Loc} {i:cS} {g:ag} {k:Loc} {h:cS},dI e p=some f->px p q=some d->aP o e j i q g k h->∃l,dI g l=some f/\sZ l=some d
 |[],p,d,e,f,j,i,g,k,h,c,b,a=>by obtain⟨rfl,_,_⟩:=aP.eR.1 a;have m:sZ p=some d:=(by cases p<;>exact b);exact⟨p,c,m⟩
 |s::q,p,d,e,f,j,i,g,k,h,c,b,a=>by
  cases p with
  |nil=>cases s<;>cases b
  |cons n p=>
   cases e<;>cases s<;>simp only[aP] at a<;>cases n<;>first|(cases b;done)|skip
   case osl.idx.idx=>obtain⟨_,_,_,_,_,_,_,_,_,a⟩:=a;exact u5 (q:=q) (p:=p) c b a
   case optr.deref.deref=>obtain⟨_,_,_,_,_,_,a⟩:=a;exact u5 (q:=q) (p:=p) c b a
   case st.unst.unst=>exact u5 (q:=q) (p:=p) c b a
   case pr.fst.fst=>exact u5 (q:=q) (p:=p) c b a
   case pr.snd.snd=>exact u5 (q:=q) (p:=p) c b a
theorem aP.split {u:World}:∀{q j:List aV} {d k:ag} {g i:Loc} {f h:cS},aP u d g f (q++j) k i h->∃e c b,aP u d g f q e c b/\aP u e c b j k i h
 |[],j,d,k,g,i,f,h,a=>⟨d,g,f,aP.here,a⟩
 |s::q,j,d,k,g,i,f,h,a=>by
  rw[jd] at a;cases d<;>cases s<;>simp only[aP] at a
  case osl.idx=>
   obtain⟨l,t,x,v,m,aj,n,o,w,a⟩:=a;obtain⟨e,c,b,p,r⟩:=aP.split (q:=q) a;exact⟨e,c,b,⟨l,t,x,v,m,aj,n,o,w,p⟩,r⟩
  case optr.deref=>
   obtain⟨l,t,m,aj,n,o,a⟩:=a;obtain⟨e,c,b,p,r⟩:=aP.split (q:=q) a;exact⟨e,c,b,⟨l,t,m,aj,n,o,p⟩,r⟩
  case st.unst=>exact aP.split (q:=q) a
  case pr.fst=>exact aP.split (q:=q) a
  case pr.snd=>exact aP.split (q:=q) a
theorem aP.upper {f C:List aV} (A:dI d f=some Q) (n:px f l=some C) (b:aP e d none D l o (some (c,g)) i) (z:∀(l:List aV) (o:ag) (q:Loc) (i:cS),fk f l=true->aP e d none D l o q i->aP m d none D l o q i):∃s,aP m d none D l o (some (c,g)) s:=by
 obtain⟨J,u,v⟩:=u5 A n b;obtain⟨L,I,k⟩:=LY u v;obtain⟨F,w⟩:=k e (some (c,g)) i;obtain⟨K,p,h,j,x⟩:=aP.split (z _ _ _ _ (LW n) (b.append w));have aj:=j.ty;rw[b.ty] at aj;obtain rfl:=ec aj;obtain⟨G,y⟩:=k m p h;obtain⟨_,a,_⟩:=x.ih y;cases p with
 |none=>cases a
 |some E=>
  obtain⟨r,B⟩:=E;simp only[fB,bI,fd] at a;obtain⟨t,H⟩:=a;obtain rfl:c=r:=t;obtain rfl:g=B:=U;exact⟨h,j⟩
def jW (c:List (Nat×List aV)):al->Bool
 |.ref id []=>c.any λa=>Nat.beq a.1 id
 |.ref id b=>c.any λa=>Nat.beq a.1 id&&fk a.2 b
 |.addr id b=>c.any λa=>Nat.beq a.1 id&&DO a.2 b
 |.view id b _ _=>c.any λa=>Nat.beq a.1 id&&fk a.2 b
 |_=>false
def hL (c:cY) (b:List (Nat×List aV)):al->Bool
 |.dg _ f=>f.all λa=>!(a.dJ c)||jW b a
 |.app id h _ _ g=>(g.all λe=>!(db e c))&&b.any λd=>Nat.beq d.1 id&&jk d.2 h
 |a=>jW b a
def dt (b:cY) (c:List (Nat×List aV)) (a:al):al:=bif a.dJ b&&!(hL b c a) then .dead else a
def ef (b:cY) (c:List (Nat×List aV)):al->al
 |.dw d=>.dw (d.map (dt b c))
 |a=>dt b c a
def kill (b:cY) (d:List (Nat×List aV)) (c:List (Nat×al)):List (Nat×al):=c.map λa=>(a.1,ef b d a.2)
def del (a:cY) (b:List (Nat×aC)):List (Nat×aC):=b.filter λc=>!(db c.1 a)
theorem AV (a:List aV):fk [] a=false:=by cases a<;>simp[fk,na]
def uy (b:cY):List (Nat×List aV):=b.map λa=>(a,[])
theorem m9 (c:cY) (e:List (Nat×List aV)):∀(d:List (Nat×al)) (b:Nat),gt (kill c e d) b=ef c e (gt d b)
 |[],b=>by simp[kill,gt,ao,ef,dt,al.dJ,al.ids]
 |(f,a)::d,b=>by
  show gt ((f,ef c e a)::kill c e d) b=_;rw[hk,hk];split
  ·rfl
  exact m9 c e d b
theorem jY (b:cY):∀(d:List (Nat×aC)) (a:Nat),ao (del b d) a=if a∈b then none else ao d a
 |[],a=>by simp[del,ao]
 |(e,t)::d,a=>by
  have g:=jY b d a;simp only[del] at g|-;rw[jH];cases f:db e b with
  |true=>
   have:e∈b:=ek.1 f;simp only[i6,Bool.false_eq_true,if_false];rw[g,bU];by_cases c:e=a
   ·subst c;rw[if_pos this,if_pos this]
   rw[if_neg c]
  |false=>
   have:e∉b:=λd=>(by rw[ek.2 d] at f;cases f);simp only[kx,if_true];rw[bU,bU,g];by_cases c:e=a
   ·subst c;rw[if_pos rfl,if_pos rfl,if_neg this]
   rw[if_neg c,if_neg c]
theorem FB (a:R.dJ n=false):∀id∈R.ids,id∉n:=λid c b=>by have:R.dJ n=true:=(by simp only[al.dJ,nD];exact⟨id,c,ek.2 b⟩);rw[a] at this;cases this
structure lE (C:dn) (st:aJ) (w w':World) (I I':Nat->Prop) (rt:Nat->cS) (fp:Nat->cY) (S:cY) (IG:List (Nat×List aV)) (new:List (Nat×aC)) (rtn:Nat->cS) (fpn:Nat->cY):Prop where
 size:w.heap.size<=w'.heap.size
 os:w'.os=w.os
 tape:w'.tape=w.tape
 output:w'.output=w.output
 heap:∀b,b<w.heap.size->(∀id∈S,∀t,ao st.h id=some t->b∉fp id)->w'.heap[b]?=w.heap[b]?
 evo:∀b,b<w.heap.size->i7 w w' b
 i:∀b,I b->I' b
 i2:∀b,I' b->I b\/(b<w'.heap.size/\(w.heap.size<=b\/∃id∈S,∃t,ao st.h id=some t/\b∈fp id))
 tree:∀id t,ao new id=some t->(id∈S\/ao st.h id=none)/\aN (ba I' C.B) w' t.1 (rtn id) t.2 (fpn id)/\(fpn id).Nodup/\∀b∈fpn id,¬I' b/\b<w'.heap.size/\(w.heap.size<=b\/∃Io∈S,∃t',ao st.h Io=some t'/\b∈fp Io)
 dis:∀i j t u,ao new i=some t->ao new j=some u->i≠j->∀b∈fpn i,b∉fpn j
 keep:∀e∈IG,∀t,ao st.h e.1=some t->∃t',ao new e.1=some t'/\t'.1=t.1/\rtn e.1=rt e.1/\(∃abc,dI t.1 e.2=some abc)/\∀(q:List aV) (MK:ag) (IW:Loc) (Hl:cS),fk e.2 q=true->aP w t.1 none (rt e.1) q MK IW Hl->aP w' t.1 none (rt e.1) q MK IW Hl
 app:∀e∈IG,∀t,ao st.h e.1=some t->∀(q:List aV) (τ:ag) (xs:List τ.den) (loc:Loc) (vI:cS) (f1:cY),jk e.2 q=true->τ.ik=true->aP w t.1 none (rt e.1) q (.osl τ) loc vI->c4 t.1 t.2 q (.osl τ) xs->aN (ba I C.B) w (.osl τ) vI xs f1->∃t',ao new e.1=some t'/\c4 t'.1 t'.2 q (.osl τ) xs/\∀b∈f1,b∈fpn e.1/\bN w w' b
theorem bt.eH {w':World} {I':Nat->Prop} {rtn:Nat->cS} {fpn:Nat->cY} {S:cY} {keep:List (Nat×List aV)} {new:List (Nat×aC)} (j:bt H z A e k p q) (r:lE H z e w' k I' p q S keep new rtn fpn):bt H ⟨kill S keep z.g,new++del S z.h⟩ A w' I' (dA new rtn p) (dA new fpn q):=by
 have a3:∀av a,ba k H.B av a->ba I' H.B av a/\bN e w' a:=λav a b=>by
  refine⟨?_,.of_heap (r.heap a (j.ib a (lN b)) (λid _ d f f2=>j.notM f a f2 av b))⟩;cases av
  ·exact r.i a b
  exact b.imp (r.i a) id
 have dl:∀id d,ao (new++del S z.h) id=some d->(ao new id=some d/\dA new rtn p id=rtn id/\dA new fpn q id=fpn id)\/(ao new id=none/\id∉S/\ao z.h id=some d/\dA new rtn p id=p id/\dA new fpn q id=q id):=λid d f=>by
  rw[iF,jY] at f;cases C:ao new id with
  |none=>
   rw[C] at f;simp only[Option.none_or] at f;split at f
   ·cases f
   rename_i F;exact .inr ⟨rfl,F,f,by simp[dA,C],by simp[dA,C]⟩
  |some r=>rw[C] at f;exact .inl ⟨by simpa using f,by simp[dA,C],by simp[dA,C]⟩
 have cv:∀id d,ao z.h id=some d->id∉S->∀a∈q id,bN e w' a:=λid d f F a b=>.of_heap (r.heap a ((j.tree id d f).2.2 a b).2.2.1 (λN P u M G=>
  j.dis id N d u f M (λc=>F (by rw[c];exact P)) a b G))
 have f0:∀id d,ao z.h id=some d->id∉S->∀a∈q id,¬I' a:=λid d f F a b s=>by
  have m:=(j.tree id d f).2.2 a b;rcases r.i2 a s with s|⟨_,s|⟨N,P,u,M,G⟩⟩
  ·exact m.1 s
  ·omega
  exact j.dis id N d u f M (λc=>F (by rw[c];exact P)) a b G
 refine{n:=j.n,i0:=λa b=>r.i a (j.i0 a b),i1:=?_,ib:=?_,tree:=?_,dis:=?_,tmp:=?_,frame:=?_,evo:=λa b=>(j.evo a b).trans (r.evo a (gO b j.size)),size:=da j.size r.size,os:=r.os.trans j.os,tape:=r.tape.trans j.tape,output:=r.output.trans j.output,pin:=j.pin}
 ·intro a b;rcases r.i2 a b with b|⟨_,b|⟨N,P,u,M,G⟩⟩
  ·exact j.i1 a b
  ·exact .inr (.inl (da j.size b))
  exact .inr ((j.tree N u M).2.2 a G).2.2.2
 ·intro a b;rcases b with b|b
  ·rcases r.i2 a b with b|⟨b,_⟩
   ·exact gO (j.ib a (.inl b)) r.size
   exact b
  exact gO (j.ib a (.inr b)) r.size
 ·intro id d f;rcases dl id d f with⟨v,o,x⟩|⟨ft,F,v,o,x⟩
  ·obtain⟨_,ar,E,y⟩:=r.tree id d v;rw[o,x];refine⟨ar,E,λa b=>?_⟩;obtain⟨ad,am,W⟩:=y a b;rcases W with W|⟨N,P,u,M,G⟩
   ·exact⟨ad,λfT=>by have:=j.ib a (.inr fT);omega,am,.inl (da j.size W)⟩
   have m:=(j.tree N u M).2.2 a G;exact⟨ad,m.2.1,am,m.2.2.2⟩
  obtain⟨ar,E,y⟩:=j.tree id d v;rw[o,x];refine⟨ar.mono a3 (cv id d v F),E,λa b=>?_⟩;obtain⟨ad,am,W,aL⟩:=y a b;exact⟨f0 id d v F a b,am,gO W r.size,aL⟩
 ·intro l Y d J s f4 el a b;rcases dl l d s with⟨v,_,x⟩|⟨ft,F,v,_,x⟩<;>rcases dl Y J f4 with⟨Z,_,fn⟩|⟨hi,f7,Z,_,fn⟩<;>rw[x] at b<;>rw[fn]
  ·exact r.dis l Y d J v Z el a b
  ·intro G;rcases((r.tree l d v).2.2.2 a b).2.2 with m|⟨N,P,u,M,cs⟩
   ·have:=((j.tree Y J Z).2.2 a G).2.2.1;omega
   exact j.dis Y N J u Z M (λc=>f7 (by rw[c];exact P)) a G cs
  ·intro G;rcases((r.tree Y J Z).2.2.2 a G).2.2 with m|⟨N,P,u,M,cs⟩
   ·have:=((j.tree l d v).2.2 a b).2.2.1;omega
   exact j.dis l N d u v M (λc=>F (by rw[c];exact P)) a b cs
  exact j.dis l Y d J v Z el a b
 ·intro bl;show bE _ _ _ _ _ (gt (kill S keep z.g) bl) _;rw[m9];have D:=j.tmp bl;generalize gt z.g bl=w at D;generalize A.getD bl undef=O at D;suffices d6:∀(w:al) (O:Value),bE (ba k H.B) e z.h p q w O->bE (ba I' H.B) w' (new++del S z.h) (dA new rtn p) (dA new fpn q) (dt S keep w) O by
   cases w with
   |dw f8=>
    cases D with|dw d0 C=>
    refine .dw (by simp[d0]) (λl a0 J v o=>?_);rw[eS] at v;obtain⟨d5,x,rfl⟩:=dZ.1 v;exact d6 d5 J (C l d5 J x o)
   |_=>exact d6 _ _ D
  clear D;have ci:∀(w:al) (O:Value),bE (ba k H.B) e z.h p q w O->w.dJ S=false\/jW keep w=true->bE (ba I' H.B) w' (new++del S z.h) (dA new rtn p) (dA new fpn q) w O:=by
   intro w O D f6;cases a4:w.dJ S with
   |false=>
    refine D.qW a3 (λid ds d f=>?_);have F:=FB a4 id ds;have X:ao new id=none:=by
     cases C:ao new id with
     |none=>rfl
     |some d4=>
      rcases(r.tree id d4 C).1 with m|m
      ·exact absurd m F
      rw[f] at m;cases m
    refine⟨by rw[iF,X,jY,if_neg F];simpa using f,by simp[dA,X],by simp[dA,X],(j.tree id d f).1,cv id d f F⟩
   |true=>
    have Q:jW keep w=true:=f6.resolve_left (by rw[a4];exactλj=>by cases j);have bs:∀(id:Nat) (d:aC),ao z.h id=some d->∀c∈keep,c.1=id->∃u,ao (new++del S z.h) id=some u/\u.1=d.1/\dA new rtn p id=p id/\(∃go,dI d.1 c.2=some go)/\
     ∀(m:List aV) (fs:ag) (fp:Loc) (co:cS),fk c.2 m=true->aP e d.1 none (p id) m fs fp co->aP w' d.1 none (p id) m fs fp co:=by
     intro id d f c I ds;subst ds;obtain⟨u,ar,E,y,V,T⟩:=r.keep c I _ f;exact⟨u,by rw[iF,ar];rfl,E,by simp[dA,ar,y],V,T⟩
    have d7:∀(id:Nat) (m:List aV),(keep.any λc=>Nat.beq c.1 id&&fk c.2 m)=true->∃c∈keep,c.1=id/\fk c.2 m=true:=(by intro id m C;obtain⟨c,I,o⟩:=nD.1 C;simp only[bd] at o;exact⟨c,I,er o.1,o.2⟩);cases w with
    |ref id U=>
     cases U with
     |nil=>
      obtain⟨c,I,o⟩:=nD.1 (show(keep.any λc=>Nat.beq c.1 id)=true from Q);have o:=er o;cases D with|ref f K=>
      obtain⟨rfl,rfl,rfl⟩:=aP.eR.1 K;obtain⟨u,ar,E,y,_⟩:=bs id _ f c I o;rw[<-E];refine .ref (loc:=none) ar ?_;rw[y];exact aP.here
     |cons gi U=>
      obtain⟨c,I,o,x⟩:=d7 id (gi::U) Q;cases D with|ref f K=>
      obtain⟨u,ar,E,y,V,T⟩:=bs id _ f c I o;have L:=T _ _ _ _ x K;rw[<-y,<-E] at L;exact .ref ar L
    |addr id U=>
     obtain⟨c,I,o⟩:=nD.1 (show(keep.any λc=>Nat.beq c.1 id&&DO c.2 U)=true from Q);simp only[bd] at o;obtain⟨o,x⟩:=o;have o:=er o;cases D with|addr f K=>
     obtain⟨u,ar,E,y,V,T⟩:=bs id _ f c I o;rcases Bool.or_eq_true_iff.1 x with x|x
     ·have L:=T _ _ _ _ x K;rw[<-y,<-E] at L;exact .addr ar L
     obtain⟨hs,R⟩:=Option.isSome_iff_exists.1 x;obtain⟨_,V⟩:=V;obtain⟨co,L⟩:=aP.upper V R K T;rw[<-y,<-E] at L;exact .addr ar L
    |view id U hr s=>
     obtain⟨c,I,o,x⟩:=d7 id U Q;cases D with|kv=>(exact .kv _ _)|view f K f9 gc ge=>
     obtain⟨u,ar,E,y,V,T⟩:=bs id _ f c I o;have L:=T _ _ _ _ x K;rw[<-y,<-E] at L;exact .view ar L f9 gc ge
    |_=>cases Q
  intro w O D;unfold dt;cases a4:w.dJ S with
  |false=>simp only[Bool.false_and,cond_false];exact ci w O D (.inl a4)
  |true=>
   cases Q:hL S keep w with
   |false=>simp only[kx,Bool.and_self,cond_true];exact .dead _
   |true=>
    simp only[i6,Bool.and_false,cond_false];cases w with
    |dg gs f8=>
     cases D with|dg d0 C=>
     refine .dg d0 (λl a0 J v o=>ci a0 J (C l a0 J v o) ?_);have:=eI.1 Q a0 (kD v);simpa using this
    |app id m gl hw d3=>
     cases D with|app f eq K f3 v hc o d2 ex f5=>
     have R:((d3.all λl=>!(db l S))&&keep.any λc=>Nat.beq c.1 id&&jk c.2 m)=true:=Q;rw[bd] at R;obtain⟨an,R⟩:=R;have an:∀l∈d3,l∉S:=λl s d1=>(by have:=eI.1 an l s;rw[ek.2 d1] at this;cases this);obtain⟨c,I,R⟩:=nD.1 R;simp only[bd] at R;obtain⟨f1,d9⟩:=R;obtain rfl:=er f1;obtain⟨u,ar,E,y⟩:=r.app c I _ f m gl _ _ _ _ d9 eq K f3 v;obtain⟨hv,ad,am,W,_,gf⟩:=r.keep c I _ f;rw[ar] at ad;obtain rfl:=ec ad;have X:∀l∈d3,ao new l=none:=λl s=>by
      cases C:ao new l with
      |none=>rfl
      |some d4=>
       obtain⟨_,ce,ap⟩:=d2 l s;rcases(r.tree l d4 C).1 with m|m
       ·exact absurd m (an l s)
       rw[ap] at m;cases m
     have d1:dA new rtn p c.1=p c.1:=(by simp only[dA,ar,W]);have em:=gf m _ _ _ (Ap d9) K;rw[<-am,<-d1] at em;refine .app (t:=u) (by rw[iF,ar];rfl) eq em E (v.mono a3 (λa b=>(y a b).2)) (λa b=>by simp only[dA,ar];exact(y a b).1) (o.mono a3 (λa b=>?_)) (λl s=>?_) (λa b=>?_) f5
     ·rcases ex a b with b|⟨l,s,b⟩
      ·exact(y a b).2
      obtain⟨_,ce,ap⟩:=d2 l s;exact cv l ce ap (an l s) a b
     ·obtain⟨fz,ce,ap⟩:=d2 l s;exact⟨fz,ce,by rw[iF,X l s,jY,if_neg (an l s)];simpa using ap⟩
     rcases ex a b with b|⟨l,s,b⟩
     ·exact .inl b
     exact .inr ⟨l,s,by simp only[dA,X l s];exact b⟩
    |_=>exact ci _ O D (.inr Q)
 intro a b d8;rw[r.heap a (gO b j.size)]
 ·exact j.frame a b d8
 intro id _ d f G;have:=((j.tree id d f).2.2 a G).2.2.2;rcases this with m|m
 ·omega
 exact d8 m
section
def iJ (k:c5->Nat->Prop) (i:World) (a:ag) (l:Option Addr) (d:List a.den) (g:cN):Prop:=
 g.length=d.length/\(d=[]\/∃e h,l=some ⟨e,h,none⟩/\∀(c:Nat) (j:a.den) (f:cY),d[c]?=some j->g[c]?=some f->∃b,b.length=a.size/\dK i e (h+c*a.size) b/\aN k i a b j f)
theorem iJ.a7 {a:List d.den} (b:aN f e (.a7 P d) [.slice r c g] a []):c=a.length/\iJ f e d r a (List.replicate a.length []):=by obtain⟨_,q,s,h,_,_,b⟩:=b;simp only[fK,Value.slice.injEq,and_true] at h;obtain⟨rfl,rfl,rfl⟩:=h;refine⟨rfl,ab,b.imp id ?_⟩;rintro⟨l,o,m,_,n⟩;refine⟨l,o,m,λk p t j i=>?_⟩;have:k<a.length:=(eb.1 j).1;rw[ly,if_pos this] at i;obtain rfl:=ec i;exact n k p j
theorem iJ.osl {k:List d.den} (h:aN f e (.osl d) [.slice r g c] k n):g=k.length/\g<=c/\∃i,iJ f e d r k i/\(∀j∈i.flatten,j∈n)/\(n.Nodup->i.flatten.Nodup)/\((r=none/\c=0/\n=[])\/∃a b,r=some ⟨a,b,none⟩/\n=a::i.flatten/\hE e a b (b+c*d.size)):=by
 obtain⟨t,j,l,h⟩:=h;simp only[fK,Value.slice.injEq,and_true] at l;obtain⟨rfl,rfl,rfl⟩:=l;rcases h with⟨rfl,rfl,rfl,rfl⟩|⟨a,b,m,rfl,rfl,ar,p,q,s⟩
 ·exact⟨rfl,a8 _,[],⟨rfl,.inl rfl⟩,ab,ab,.inl ⟨rfl,rfl,rfl⟩⟩
 refine⟨rfl,p,m,⟨ar,.inr ⟨a,b,rfl,s⟩⟩,λj o=>e2 _ o,λh=>(je.1 h).2,.inr ⟨a,b,rfl,rfl,q⟩⟩
theorem iJ.cells {b:List d.den} {u:cN} (h:iJ f e d r b u) (A:0<d.size):∃p:cS,p.length=b.length*d.size/\(∀c∈p,c.oneCell'=true)/\(∀g,r=some g->b≠[]->∀(m:Nat) c,p[m]?=some c->e.cell? (g.add m)=some c)/\∀(j:Nat) (q:d.den) (o:cY),b[j]?=some q->u[j]?=some o->aN f e d ((p.drop (j*d.size)).take d.size) q o:=by
 obtain⟨H,h⟩:=h;rcases h with rfl|⟨g,n,rfl,h⟩
 ·exact⟨[],ab,ab,λ_ _ h=>absurd rfl h,ab⟩
 have x:∀a,a<b.length*d.size->∃c,e.cell? ⟨g,n+a,none⟩=some c/\c.oneCell'=true:=by
  intro a i;have z:a/d.size<b.length:=(Nat.div_lt_iff_lt_mul A).2 i;obtain⟨k,C,s,t⟩:=h (a/d.size) b[a/d.size] (u[a/d.size]'(by omega)) ab ab
  have I:=Nat.mod_lt a A;have:k[a %d.size]?=some (k[a %d.size]'(by omega)):=bo _
  refine⟨_,?_,t.one _ (bQ (by omega:a %d.size<k.length))⟩;have:=s _ _ this;rwa[show n+a/d.size*d.size+a %d.size=n+a by have:=mQ a d.size;rw[jf] at this;omega] at this
 have y:∀a,((List.range (b.length*d.size)).map λa=>(e.cell? ⟨g,n+a,none⟩).getD undef)[a]?=if a<b.length*d.size then e.cell? ⟨g,n+a,none⟩ else none:=by
  intro a;rw[eS];by_cases i:a<b.length*d.size
  ·rw[if_pos i,oH i];obtain⟨c,w,_⟩:=x a i;simp[w]
  rw[if_neg i,fc (by simp;omega)];rfl
 refine⟨(List.range (b.length*d.size)).map λa=>(e.cell? ⟨g,n+a,none⟩).getD undef,ab,?_,?_,?_⟩
 ·intro c w;obtain⟨a,i,rfl⟩:=bR.1 w;obtain⟨J,F,v⟩:=x a (gN.1 i);simpa[F] using v
 ·intro G D _ m c l;cases D;rw[y] at l;split at l
  ·rw[Addr.add_lit];exact l
  cases l
 intro j q o B E;obtain⟨k,C,s,t⟩:=h j q o B E;have z:j<b.length:=(eb.1 B).1;have:(((List.range (b.length*d.size)).map λa=>(e.cell? ⟨g,n+a,none⟩).getD undef).drop (j*d.size)).take d.size=k:=by
  apply g9;intro m;rcases bp m d.size with l|l
  ·rw[k1 l,ke,y];have v:(j+1)*d.size<=b.length*d.size:=gv _ z;rw[eL,gw] at v;rw[if_pos U];have:k[m]?=some (k[m]'(by omega)):=bo _
   rw[this,<-nJ];exact s _ _ this
  rw[fc (by simp;omega),fc U]
 rw[this];exact t
section
variable {P:Program}
theorem RL {w:World} {ty:TypeId} {j:TypeInfo} (r:P.underlying G=some (.slice a)) (C:dF P d a) (i:P.info? a=some j) (a3:d.size<=1300) {ad yd:Option Addr} {n cap m c:Nat} {olds news:cS} (F:olds.length=n*d.size) (an:∀b,ad=some b->∀(e:Nat) (f:Value),olds[e]?=some f->w.cell? (b.add e)=some f) (ap:∀b,ad=some b->b.spot=none) (L:n<=cap) (Q:ad=none->cap=0) (s:news.length=m*d.size) (B:∀f∈news,f.oneCell'=true) (E:∀b,yd=some b->0<m->∀(e:Nat) (f:Value),news[e]?=some f->w.cell? (b.add e)=some f) (R:yd=none->m=0) (N:∀b,ad=some b->hE w b.block b.off (b.off+cap*d.size)) (O:n+m<=e8):∃I q,(Builtin.append_ #[G,G] ty #[.slice ad n cap,.slice yd m c]).run P w=.ok I q/\((
   n+m<=cap/\I=.slice ad (n+m) cap/\((ad=none/\q=w)\/∃b,ad=some b/\q=w.setCells b.block (b.off+n*d.size) news))\/
   ∃(g:Nat) (z:cQ),cap<n+m/\n+m<=g/\I=.slice (some ⟨w.heap.size,0,none⟩) (n+m) g/\gq w q/\q.heap[w.heap.size]?=some (.cells z a (0,0))/\q.heap.size=w.heap.size+1/\g*d.size<=z.size/\∀(e:Nat) (f:Value),(olds++news)[e]?=some f->z[e]?=some f):=by
 obtain⟨a4,_,h,_⟩:=C.info;have J:=h.info;rw[i] at J;cases J;have a0:=C.pos;by_cases x:n+m<=cap
 ·by_cases o:m=0
  ·subst o;obtain rfl:news=[]:=lv (by simpa using s);have M:(Builtin.firstCells d.size 0 (.slice yd 0 c)).run P w=.ok #[] w:=by
    cases yd with
    |none=>rfl
    |some b=>simp[Builtin.firstCells,loadCells,loadCellsFrom]
   refine⟨.slice ad n cap,w,?_,.inl ⟨x,rfl,?_⟩⟩
   ·cases ad with
    |none=>simp[Builtin.append_,run_underlying r,sizeOf,typeInfo,i,Builtin.lenOf,h.size,L,M]
    |some b=>simp[Builtin.append_,run_underlying r,sizeOf,typeInfo,i,Builtin.lenOf,h.size,L,M,storeCells]
   cases ad with
   |none=>exact .inl ⟨rfl,rfl⟩
   |some b=>exact .inr ⟨b,rfl,rfl⟩
  cases ad with
  |none=>have:=Q rfl;omega
  |some b=>
   cases yd with
   |none=>exact absurd (R rfl) o
   |some k=>
    obtain⟨S,T,V⟩:=b;obtain rfl:V=none:=ap _ rfl;have Z:(n+m)*d.size<=cap*d.size:=gv _ x;rw[eL] at Z;have p:=run_append_room_cells (P:=P) w G ty a j r i S T n cap k m c news (by rw[h.size];exact s) (E k rfl U) B x (λe v=>(N _ rfl _ (by rw[h.size];simp only;omega) (by rw[h.size];simp only;omega)).1) (λe v=>(N _ rfl _ (by rw[h.size];simp only;omega) (by rw[h.size];simp only;omega)).2);rw[h.size] at p;exact⟨_,_,p,.inl ⟨x,rfl,.inr ⟨_,rfl,rfl⟩⟩⟩
 obtain⟨l,av,y⟩:=C.DF;have y:=y j i;have o:0<m:=U;cases yd with
 |none=>have:=R rfl;omega
 |some k=>
  have K:(n+m)*j.bytes<=140737488355328:=(by have B:(n+m)*j.bytes<=e8*31200:=ia O (by have:=h.bytes;omega);unfold e8 at B;omega);have D:((n+m:Nat):Int)<=9223372036854775807:=(by unfold e8 at O;omega);have A:∀(H:Nat),let g:=grownCap w (n+m) H a
   n+m<=g/\gq w (w.drew.alloc (.cells (olds.toArray++news.toArray++Builtin.zeroCells l.cells (g-(n+m))) a))/\
   (w.drew.alloc (.cells (olds.toArray++news.toArray++Builtin.zeroCells l.cells (g-(n+m))) a)).heap[w.heap.size]?=some (.cells (olds.toArray++news.toArray++Builtin.zeroCells l.cells (g-(n+m))) a (0,0))/\
   g*d.size<=(olds.toArray++news.toArray++Builtin.zeroCells l.cells (g-(n+m))).size/\
   ∀(e:Nat) (f:Value),(olds++news)[e]?=some f->(olds.toArray++news.toArray++Builtin.zeroCells l.cells (g-(n+m)))[e]?=some f:=by
   intro H g;have X:n+m<=g:=grownCap_ge w (n+m) H a;refine⟨X,(gq.refl w).drew.trans (gq.alloc _ _),heap_alloc_new w.drew _,?_,?_⟩
   ·simp only[Array.size_append,pT,size_zeroCells,av,F,s,<-eL];refine gv _ ?_;omega
   intro e f v;have Y:e<(olds++news).length:=(eb.1 v).1;rw[Array.getElem?_append,if_pos (by simpa using Y)];simpa using v
  cases ad with
  |some b=>
   have p:=run_append_grow (P:=P) w G ty a j l r i y b n cap olds (by rw[h.size];exact F) (an b rfl) k m c news (by rw[h.size];exact s) (E k rfl o) U D (growslice_fits U K);obtain⟨t,f2,u,f4,f5⟩:=A cap;exact⟨_,_,p,.inr ⟨_,_,U,t,rfl,f2,u,ab,f4,f5⟩⟩
  |none=>
   have W:=Q rfl;have am:n=0:=U;subst W;subst am;obtain rfl:olds=[]:=lv (by simpa using F);simp only[hX] at D K A;have p:=run_append_nil (P:=P) w G ty a j l r i y k m c news (by rw[h.size];exact s) (E k rfl o) o D U;obtain⟨t,f2,u,f4,f5⟩:=A 0;simp only[fr,Array.empty_append] at t f2 u f4 f5;refine⟨_,_,p,.inr ⟨_,_,U,by rw[hX];exact t,by rw[hX],f2,u,ab,f4,f5⟩⟩
end
end
theorem xV (b:Nat):∀(h:cS) (e:Nat) (c:World) (a:Nat),a≠b->(c.setCells b e h).heap[a]?=c.heap[a]?
 |[],_,_,_,_=>rfl
 |v::g,e,c,a,d=>by rw[World.setCells,xV b g _ _ a d];simp only[World.setCell,pH];rw[if_neg (λf=>d f.symm)]
theorem u3 (b:Nat):∀(e:cS) (c:Nat) (a:World),(a.setCells b c e).heap.size=a.heap.size
 |[],_,_=>rfl
 |v::d,c,a=>by rw[World.setCells,u3 b d];simp
theorem om (b:Nat):∀(d:cS) (c:Nat) (a:World),(a.setCells b c d).os=a.os/\(a.setCells b c d).tape=a.tape/\(a.setCells b c d).output=a.output
 |[],_,_=>⟨rfl,rfl,rfl⟩
 |v::e,c,a=>by rw[World.setCells];exact om b e _ _
theorem Fb (c:Nat) (e:cS) (a:Nat) (f:World) (g:∀b,b<e.length->(f.cell? ⟨c,a+b,none⟩).isSome=true) (d:Nat):((f.setCells c a e).cell? ⟨c,d,none⟩).isSome=(f.cell? ⟨c,d,none⟩).isSome:=by
 by_cases h:a<=d/\d<a+e.length
 ·obtain⟨b,rfl⟩:∃b,d=a+b:=⟨d-a,U⟩;rw[World.cell?_setCells_in c e a f g b U,g b U];rfl
 rw[World.cell?_setCells_out c e a f _ (λ_ _=>by simp only;omega)]
theorem Vh (c:World) (a:Addr) (f:Value) (b:Nat):hl (c.setCell a f) b=hl c b:=by
 unfold hl World.setCell;simp only[pH];by_cases d:a.block=b
 ·subst d;simp only[if_true];cases c.heap[a.block]? with
  |none=>rfl
  |some e=>cases e<;>rfl
 simp only[if_neg d]
theorem xg (d:Nat):∀(f:cS) (b:Nat) (c:World) (a:Nat),hl (c.setCells d b f) a=hl c a
 |[],_,_,_=>rfl
 |v::e,b,c,a=>by rw[World.setCells,xg d e (b+1),Vh]
theorem pw {vs:cS} {o:Nat} {w:World} (a:g≠c):bN w (w.setCells c o vs) g:=.of_heap (xV c vs o w g a)
theorem GA {P:Program} {ty:TypeId} {f9:TypeInfo} (ex:P.underlying G=some (.slice a)) (cs:dF P d a) (f0:P.info? a=some f9) (f7:d.size<=1300) {c:Nat} {s N:List d.den} {K:cY} {u:cN} (am:aN f e (.osl d) [.slice r M g] s K) (bs:iJ f e d T N u) (a3:K.Nodup) (em:∀i∈K,∀p,¬f p i) (f6:u.flatten.Nodup) (ds:∀i∈K,i∉u.flatten) (eq:∀p i,f p i->i<e.heap.size) (a0:∀i∈K,i<e.heap.size) (ce:∀i∈u.flatten,i<e.heap.size) (f3:s.length+N.length<=e8):∃ci q f2,(Builtin.append_ #[G,G] ty #[.slice r M g,.slice T N.length c]).run P e=.ok ci q/\aN f q (.osl d) [ci] (s++N) f2/\aN f q (.osl d) [.slice r M g] s K/\f2.Nodup/\(∀i∈f2,i∈K\/i∈u.flatten\/(e.heap.size<=i/\i<q.heap.size))/\e.heap.size<=q.heap.size/\q.os=e.os/\q.tape=e.tape/\q.output=e.output/\(∀i,i<e.heap.size->i∉K->q.heap[i]?=e.heap[i]?)/\(∀p i,f p i->bN e q i)/\(∀i∈u.flatten,bN e q i)/\(∀i,i<e.heap.size->hl q i=hl e i):=by
 obtain⟨rfl,dl,F,d6,Y,ft,W⟩:=iJ.osl am;have d3:=cs.pos;obtain⟨J,R,hr,d7,gl⟩:=d6.cells d3;obtain⟨z,gc,ge,gf,gi⟩:=bs.cells d3;have Z:=d6.1;have d1:=bs.1;obtain⟨ci,q,bl,fp⟩:=RL (P:=P) (w:=e) (ty:=ty) ex cs f0 f7 (ad:=r) (yd:=T) (n:=s.length) (cap:=g) (m:=N.length) (c:=c) (olds:=J) (news:=z) R (λi v k A l=>d7 i v (by rintro rfl;simp at R;subst R;simp at l) k A l) (λi v=>by rcases W with⟨t,_⟩|⟨o,x,t,_⟩<;>rw[v] at t<;>cases t;rfl) dl (λt=>by rcases W with⟨_,h,_⟩|⟨o,x,h,_⟩;exact h;rw[t] at h;cases h) gc ge (λi v f4 k A l=>gf i v (by rintro rfl;simp at f4) k A l) (λt=>by rcases bs.2 with rfl|⟨i,hi,h,_⟩;rfl;rw[t] at h;cases h) (λi v=>by
   rcases W with⟨t,_⟩|⟨o,x,t,_,X⟩
   ·rw[v] at t;cases t
   rw[v] at t;cases t;exact X) f3
 have S:(F++u).flatten=F.flatten++u.flatten:=ab;have d2:(F++u).flatten.Nodup:=(by rw[S,hF];exact⟨ft a3,f6,λco fn i v E=>ds co (Y co fn) (E▸v)⟩);have av:∀(b:Nat) (H:d.den) (y:cY),(s++N)[b]?=some H->(F++u)[b]?=some y->aN f e d (((J++z).drop (b*d.size)).take d.size) H y/\∀i∈y,i∈F.flatten\/i∈u.flatten:=by
  intro b H y j C;rcases bp b s.length with h|h
  ·rw[lx h] at j;rw[lx U] at C;have B:(b+1)*d.size<=s.length*d.size:=gv _ h;rw[eL,gw] at B;rw[oD U,rx (by simp;omega)];exact⟨gl b H y j C,λi v=>.inl (iv.2 ⟨y,kD C,v⟩)⟩
  rw[l1 h] at j;rw[l1 U,Z] at C;have B:s.length*d.size<=b*d.size:=gv _ h;rw[List.drop_append,oE U,fr,R,show b*d.size-s.length*d.size=(b-s.length)*d.size by rw[Nat.sub_mul]];exact⟨gi _ H y j C,λi v=>.inr (iv.2 ⟨y,kD C,v⟩)⟩
 rcases fp with⟨d4,rfl,f8⟩|⟨d8,d9,gt,fz,rfl,I,fT,hc,gs,fs⟩
 ·rcases f8 with⟨rfl,rfl⟩|⟨i,rfl,rfl⟩
  ·have go:g=0:=by rcases W with⟨_,h,_⟩|⟨o,x,h,_⟩;exact h;cases h
   obtain rfl:s=[]:=lv U;obtain rfl:N=[]:=lv U;exact⟨_,q,K,bl,by simpa using am,am,a3,λi v=>.inl v,a8 _,rfl,rfl,rfl,λ_ _ _=>rfl,λ_ _ _=>bN.refl _ _,λ_ _=>bN.refl _ _,λ_ _=>rfl⟩
  rcases W with⟨t,_⟩|⟨o,x,t,rfl,X⟩
  ·cases t
  cases t;have an:o∉F.flatten:=(je.1 a3).1;have ap:o∉u.flatten:=ds o ab;have f5:(s.length+N.length)*d.size<=g*d.size:=gv _ d4;rw[eL] at f5;have d5:∀k,k<z.length->(e.cell? ⟨o,x+s.length*d.size+k,none⟩).isSome=true:=λk l=>(X _ U U).1;have Q:∀p b,f p b->f p b/\bN e (e.setCells o (x+s.length*d.size) z) b:=λp b j=>⟨j,pw (λE=>em o ab p (E▸j))⟩;have d0:hE (e.setCells o (x+s.length*d.size) z) o x (x+g*d.size):=λk B O=>(by rw[Fb o z _ e d5,World.frozen?_setCells];exact X k B O);have cv:∀k A,(J++z)[k]?=some A->(e.setCells o (x+s.length*d.size) z).cell? ⟨o,x+k,none⟩=some A:=by
   intro k A l;rcases bp k J.length with h|h
   ·rw[lx h] at l;rw[World.cell?_setCells_out o z _ e _ (λ_ _=>by simp only;omega)];have:=d7 ⟨o,x,none⟩ rfl (by rintro rfl;simp at R;subst R;simp at h) k A l;rwa[Addr.add_lit] at this
   rw[l1 h] at l;obtain⟨D,rfl⟩:∃D,k=J.length+D:=⟨k-J.length,U⟩;rw[lB] at l;have L:D<z.length:=(eb.1 l).1;rw[R,<-nJ,World.cell?_setCells_in o z _ e d5 D L];rw[bo L] at l;exact l
  refine⟨_,_,o::(F++u).flatten,bl,?_,?_,?_,?_,by rw[u3];exact a8 _,(om _ _ _ _).1,(om _ _ _ _).2.1,(om _ _ _ _).2.2,?_,λp b j=>(Q p b j).2,λb j=>pw (λE=>ap (by have el:b=o:=E;rw[<-el];exact j)),λb _=>xg _ _ _ _ _⟩
  ·refine⟨some ⟨o,x,none⟩,g,ab,.inr ⟨o,x,F++u,rfl,rfl,by simp[Z,d1],by simpa using d4,d0,λb H y j C=>?_⟩⟩;obtain⟨B,O⟩:=av b H y j C;refine⟨_,B.len,λk A l=>?_,B.mono Q (λD L=>pw (λE=>?_))⟩
   ·have V:(J++z)[b*d.size+k]?=some A:=by
     rw[rr] at l;split at l
     ·rwa[ke] at l
     cases l
    rw[nJ];exact cv _ _ V
   subst E;rcases O D L with h|h
   ·exact an h
   exact ap h
  ·refine⟨some ⟨o,x,none⟩,g,rfl,.inr ⟨o,x,F,rfl,rfl,Z,dl,d0,λb H y j C=>?_⟩⟩;have f1:b<s.length:=(eb.1 j).1;obtain⟨B,O⟩:=av b H y (by rw[lx f1];exact j) (by rw[lx U];exact C);refine⟨_,B.len,λk A l=>?_,B.mono Q (λD L=>pw (λE=>?_))⟩
   ·have V:(J++z)[b*d.size+k]?=some A:=by
     rw[rr] at l;split at l
     ·rwa[ke] at l
     cases l
    rw[nJ];exact cv _ _ V
   subst E;exact an (iv.2 ⟨y,kD C,L⟩)
  ·rw[je,S];exact⟨by simp[an,ap],S▸d2⟩
  ·intro b j;rcases dh.1 j with rfl|j
   ·exact .inl ab
   rw[S] at j;rcases dO.1 j with h|h
   ·exact .inl (e2 _ h)
   exact .inr (.inl h)
  intro b _ j;exact xV o _ _ _ b (λE=>j (E▸by simp))
 have Q:∀p b,f p b->f p b/\bN e q b:=λp b j=>⟨j,.of_heap (I.heap b (eq p b j))⟩;have a4:∀k,q.cell? ⟨e.heap.size,k,none⟩=d9[k]?/\q.frozen? ⟨e.heap.size,k,none⟩=false:=λk=>(by simp[World.cell?,World.frozen?,fT]);refine⟨_,q,e.heap.size::(F++u).flatten,bl,?_,am.mono Q (λb j=>.of_heap (I.heap b (a0 b j))),?_,?_,I.size,I.os,I.tape,I.output,λb j _=>I.heap b j,λp b j=>(Q p b j).2,λb j=>.of_heap (I.heap b (ce b j)),λb j=>(bN.of_heap (I.heap b j)).2⟩
 ·refine⟨some ⟨e.heap.size,0,none⟩,d8,ab,.inr ⟨e.heap.size,0,F++u,rfl,rfl,by simp[Z,d1],by simpa using fz,λk _ O=>?_,λb H y j C=>?_⟩⟩
  ·rw[(a4 k).1,(a4 k).2];exact⟨by simp;omega,rfl⟩
  obtain⟨B,O⟩:=av b H y j C;refine⟨_,B.len,λk A l=>?_,B.mono Q (λD L=>.of_heap (I.heap D ?_))⟩
  ·rw[(a4 _).1];have V:(J++z)[b*d.size+k]?=some A:=by
    rw[rr] at l;split at l
    ·rwa[ke] at l
    cases l
   rw[hX];exact fs _ _ V
  rcases O D L with h|h
  ·exact a0 D (Y D h)
  exact ce D h
 ·rw[je];refine⟨λh=>?_,d2⟩;rw[S] at h;rcases dO.1 h with h|h
  ·have:=a0 _ (Y _ h);omega
  have:=ce _ h;omega
 intro b j;rcases dh.1 j with rfl|j
 ·exact .inr (.inr ⟨a8 _,U⟩)
 rw[S] at j;rcases dO.1 j with h|h
 ·exact .inl (Y b h)
 exact .inr (.inl h)
section
theorem dB.get:∀{p:List aV} {b:ag} {c j:b.den} {e:ag} {k:e.den},dB b c p e k j->∃d,c4 b c p e d
 |[],b,c,_,_,_,a=>by obtain⟨rfl,_⟩:=dB.eR.1 a;exact⟨c,c4.eR.2 ⟨rfl,rfl⟩⟩
 |s::p,b,_,_,_,_,a=>by
  cases b<;>cases s<;>simp only[dB] at a
  case osl.idx=>obtain⟨g,f,i,a,_⟩:=a;obtain⟨d,h⟩:=dB.get (p:=p) a;exact⟨d,g,i,h⟩
  case optr.deref=>exact dB.get (p:=p) a
  case st.unst=>exact dB.get (p:=p) a
  case pr.fst=>obtain⟨f,a,_⟩:=a;exact dB.get (p:=p) a
  case pr.snd=>obtain⟨f,a,_⟩:=a;exact dB.get (p:=p) a
theorem dB.same:∀{p:List aV} {c:ag} {b:c.den} {d:ag} {g:d.den},c4 c b p d g->dB c b p d g b
 |[],c,b,_,_,a=>by obtain⟨rfl,rfl⟩:=c4.eR.1 a;exact dB.eR.2 ⟨rfl,rfl⟩
 |s::p,c,b,_,_,a=>by
  cases c<;>cases s<;>simp only[c4] at a
  case osl.idx i=>
   obtain⟨e,f,a⟩:=a;refine⟨e,e,f,dB.same (p:=p) a,?_⟩;obtain⟨h,rfl⟩:=eb.1 f;exact(List.set_getElem_self h).symm
  case optr.deref=>exact dB.same (p:=p) a
  case st.unst=>exact dB.same (p:=p) a
  case pr.fst=>exact⟨b.1,dB.same (p:=p) a,rfl⟩
  case pr.snd=>exact⟨b.2,dB.same (p:=p) a,rfl⟩
theorem A5 {a:y} {b:Nat->y}:dA [(c,F)] (λ_=>a) b c=a:=by simp[dA,bU]
section
variable {E:dW} {C:dn} {st:aJ} {a:Act} {A:cQ} {w:World} {I:Nat->Prop} {rt:Nat->cS} {fp:Nat->cY} {o:Oper}
theorem ZN (j:i.length=M) (f:hE w g c (c+M)) (d:Nat):pJ w (w.setCells g c i) (some (g,c)) M d:=by
 have h:∀a,a<i.length->(w.cell? ⟨g,c+a,none⟩).isSome=true:=λa e=>(f _ U U).1;refine⟨λa e=>World.cell?_setCells_out g i c w _ (λb _=>?_),λa=>World.frozen?_setCells _ _ _ _ _,λa=>?_,xg _ _ _ _ _⟩
 ·have b:d=g:=b;have:=e c (by rw[b]);simp only;omega
 by_cases b:d=g
 ·subst b;exact Fb d i c w h a
 rw[((pw (w:=w) (o:=c) (vs:=i) b).1 a).1]
theorem bt.aad (t:bt C st A w I rt fp) {id:Nat} (q:ao st.h id=some F) (ad:aP w F.1 none (rt id) l d (some (c,M)) D) {z:d.den} {u:F.1.den} (K:dB F.1 F.2 l d z u) {r:cY} (L:aN (ba I C.B) w d i z r) (d9:r.Nodup) (cv:id∉n) (d4:∀a∈r,(∃G,∃a0:d.den,d.ik=true/\aN (ba I C.B) w d D a0 G/\a∈G)\/∃e∈n,∃j,ao st.h e=some j/\a∈fp e):hE w c M (M+d.size)/\∃rtn fpn,bt C ⟨kill (id::n) [(id,l)] st.g,(id,⟨F.1,u⟩)::del (id::n) st.h⟩ A (w.setCells c M i) I rtn fpn/\rtn id=rt id/\aP (w.setCells c M i) F.1 none (rt id) l d (some (c,M)) i:=by
 obtain⟨em,an,d1⟩:=t.tree id F q;obtain⟨a0,d5⟩:=K.get;obtain⟨gi,f9,a3,av,a4,bl,bs,v,ce,ci,co⟩:=wW l (loc:=none) em (λ_ _ b=>by cases b) an (λ_ _ b=>by cases b) (t.notM q) d5;obtain⟨_,aj,E⟩:=ad.ih a4;subst aj;subst E;obtain⟨_,H⟩:=bs c M rfl;have T:c∈av:=by
  rcases ce c M rfl with⟨ap,b,_⟩|b
  ·cases b
  exact b
 have R:c∈fp id:=v.mem_iff.2 (by simp[T]);have am:=v.nodup_iff.1 an;rw[hF] at am;obtain⟨ge,J,d7⟩:=am;have V:∀a∈r,a∈a3\/∃e∈n,∃j,ao st.h e=some j/\a∈fp e:=λa f=>by
  rcases d4 a f with⟨G,gs,d0,eq,b⟩|b
  ·rw[<-aN.uniq d0 bl eq] at b;exact .inl b
  exact .inr b
 have el:∀e∈n,∀j,ao st.h e=some j->∀a∈fp e,a∉fp id:=λe m j k a f y=>t.dis e id j F k q (λo=>cv (o▸m)) a f y;have X:∀a∈r,a∉av:=λa f y=>by
  rcases V a f with b|⟨e,m,j,k,b⟩
  ·exact d7 a b a y rfl
  exact el e m j k a b (v.mem_iff.2 (by simp[y]))
 have cs:∀x a,ba I C.B x a->a≠c:=λx a f o=>t.notM q c R x (o▸f);have d2:=ZN (w:=w) L.len H;have ft:aN (ba I C.B) (w.setCells c M i) d i z r:=L.mono (λx a f=>⟨f,pw (cs x a f)⟩) (λa f=>pw (λo=>X a f (by rw[o];exact T)));have fn:∀s,s<i.length->(w.cell? ⟨c,M+s,none⟩).isSome=true:=λs p=>(H _ U (by have:=L.len;omega)).1;have ds:dK (w.setCells c M i) c M i:=λs f5 p=>(by have Z:s<i.length:=(eb.1 p).1;rw[World.cell?_setCells_in c i M w fn s Z];rw[bo Z] at p;exact p);obtain⟨gc,Q,fT,_,f1,_,N,f3,f0⟩:=ci (w.setCells c M i) (ba I C.B) i z r u (λ_ _ b=>b) (λa _=>d2 a) ft (λb=>by cases b) (λf7 gl o=>by simp only[bI,fd] at o;obtain⟨rfl,rfl⟩:=o;exact ds) K;obtain rfl:=f1 rfl (.inl ab);have d3:∀a∈Q,a∈fp id\/∃e∈n,∃j,ao st.h e=some j/\a∈fp e:=λa f=>by
  rcases dO.1 (N.mem_iff.1 f) with b|b
  ·rcases V a b with b|b
   ·exact .inl (v.mem_iff.2 (by simp[b]))
   exact .inr b
  exact .inl (v.mem_iff.2 (by simp[b]))
 have dl:=t.eH (S:=id::n) (keep:=[(id,l)]) (new:=[(id,⟨F.1,u⟩)]) (rtn:=λ_=>rt id) (fpn:=λ_=>Q) (w':=w.setCells c M i) (I':=I) ⟨?_,(om _ _ _ _).1,(om _ _ _ _).2.1,(om _ _ _ _).2.2,?_,λa _=>.of_eq (xg _ _ _ _ _),λ_ b=>b,λ_ b=>.inl b,?_,?_,?_,?_⟩
 ·exact⟨H,_,_,dl,by rw[A5],f3⟩
 ·rw[u3];exact a8 _
 ·intro a _ f;exact xV c _ _ _ a (λo=>f id ab F q (o▸R))
 ·intro e j k;rw[bU] at k;split at k
  ·rename_i o;subst o;cases k;refine⟨.inl ab,fT,?_,λa f=>?_⟩
   ·rw[N.nodup_iff,hF];exact⟨d9,J,λf6 fs gt fz o=>X f6 fs (o▸fz)⟩
   rcases d3 a f with b|⟨e,m,j,k,b⟩
   ·obtain⟨ar,O,P,f4⟩:=d1 a b;exact⟨ar,by rw[u3];exact P,.inr ⟨id,ab,F,q,b⟩⟩
   obtain⟨ar,O,P,f4⟩:=(t.tree e j k).2.2 a b;exact⟨ar,by rw[u3];exact P,.inr ⟨e,by simp[m],j,k,b⟩⟩
  cases k
 ·intro e s j f5 m p d6;rw[bU] at m p;split at m
  ·split at p
   ·rename_i aj E;exact absurd (aj.symm.trans E) d6
   cases p
  cases m
 ·intro e m j k;simp only[dP] at m;subst m;rw[q] at k;obtain rfl:=ec k;refine⟨⟨F.1,u⟩,?_,rfl,rfl,⟨_,ad.ty⟩,f0⟩;rw[bU,if_pos rfl]
 intro e m j k ap hc go gf f8 f2 W d8 J Y ex;simp only[dP] at m;subst m;rw[q] at k;obtain rfl:=ec k;refine⟨⟨F.1,u⟩,by rw[bU,if_pos rfl],sc W K Y,λa f=>?_⟩;obtain⟨ar,O⟩:=co ap _ _ _ _ _ W (by exact d8) Y J ex a f;exact⟨N.mem_iff.2 (k2 _ ar),pw (O _ _ rfl)⟩
theorem bt.store (q:bt C st A w I rt fp) {id:Nat} (x:ao st.h id=some F) (t:aP w F.1 none (rt id) l d (some (M,c)) D) {m:d.den} {k:F.1.den} (v:dB F.1 F.2 l d m k) {S2:cY} (y:aN (ba I C.B) w d i m n) (u:n.Nodup) (r:id∉S2) (s:∀e∈n,(∃f,∃E:d.den,d.ik=true/\aN (ba I C.B) w d D E f/\e∈f)\/∃j∈S2,∃z,ao st.h j=some z/\e∈fp j):hE w M c (c+d.size)/\∃b a,bt C ⟨kill (id::S2) [(id,l)] st.g,(id,⟨F.1,k⟩)::del (id::S2) st.h⟩ A (w.setCells M c i) I b a:=by obtain⟨o,b,a,p,_⟩:=q.aad x t v y u r s;exact⟨o,b,a,p⟩
inductive tu where
 |dv (s:aJ)
 |part (α:Type) (φ:α->Prop) (f:α->aJ)
 |bad
def tu.K (c:tu) (Q:aJ->Prop):Prop:=
 match c with
 |.dv d=>Q d
 |.part e f b=>∃a:e,f a/\Q (b a)
 |.bad=>False
def dm (E:dW) (C:dn) (o:Oper) (st:aJ) (Q:aJ->Prop):Prop:=
 ∀(a:Act) (w:World),e3 C st a.tmps w->∀(next:Act->World->Prop) (e:Exit->Act->World->Prop),(∀c b d,Q c->b.defers=a.defers->e3 C c b.tmps d->next b d)->o.wp E.P a w next e
variable {Q:aJ->Prop}
theorem dm.eval {an:List (Nat×ag)} (j:o.dst=some c) (l:C.ok c) (i:(e7 E.tt an st.h (aO st.g) c o.op).K (λb e=>Q ⟨(c,b)::st.g,e++st.h⟩)):dm E C o st Q:=by
 rintro a w ⟨I,rt,fp,d⟩ next r m
 exact(Tl d i).wp d j l (λb e f q n k p=>m _ f q n k p)
def pp (b:List (Nat×aC)) (c:al):Option (Nat×List aV):=
 match c with
 |.addr id a=>some (id,a)
 |.ref id a=>match ao b id with
  |some ⟨d,_⟩=>match dI d a with
   |some (.optr _)=>some (id,a++[.deref])
   |_=>none
  |none=>none
 |_=>none
def BP (
 tt:List (TypeId×ag)) (st:aJ) (m:TypeId) (o v:al):tu:=
 match pp st.h o with
 |none=>.bad
 |some (
  id,p)=>match ao st.h id,ao tt m with
  |some ⟨b,e⟩,some n=>match dI b p with
   |none=>.bad
   |some c=>bif a2 n c then match v with
    |.ref d i=>match ao st.h d with
     |some ⟨r,j⟩=>bif Nat.beq id d then .bad else
      .part (c.den×b.den) (λa=>c4 r j i c a.1/\dB b e p c a.1 a.2) (λa=>⟨kill [id,d] [(id,p)] st.g,(id,⟨b,a.2⟩)::del [id,d] st.h⟩)
     |none=>.bad
    |.app d i f q l=>if _e:c=.osl f then
     .part (List f.den×b.den) (λa=>d=id/\i=p/\c4 b e p (.osl f) a.1/\dB b e p (.osl f) (a.1++q) a.2) (λa=>⟨kill (id::l) [(id,p)] st.g,(id,⟨b,a.2⟩)::del (id::l) st.h⟩) else .bad
    |v=>match coe c v with
     |some j=>.part b.den (λk=>dB b e p c j k) (λk=>⟨kill [id] [(id,p)] st.g,(id,⟨b,k⟩)::del [id] st.h⟩)
     |none=>.bad
   else .bad
  |_,_=>.bad
theorem YB (n:bt C st a.tmps w I rt fp) {id:Nat} (c:pp st.h (aO st.g b)=some (id,l)) (k:ao st.h id=some F) (q:dI F.1 l=some d):∃j r s,a.eval b=.pointer (some ⟨j,r,none⟩)/\aP w F.1 none (rt id) l d (some (j,r)) s:=by
 have i:=n.aO b;unfold pp at c;generalize B:a.eval b=E at i;split at c
 ·rename_i y A m;cases c;rw[m] at i;cases i with|addr f e=>
  rw[k] at f;cases f;have:=e.ty;rw[q] at this;cases this;exact⟨_,_,_,rfl,e⟩
 ·rename_i y A m;split at c
  case h_2=>cases c
  rename_i H G p;split at c
  case h_2=>cases c
  rename_i D x;cases c;rw[k] at p;cases p;rw[m] at i;cases i with|ref f e=>
  rw[k] at f;cases f;have:=e.ty;rw[x] at this;cases this;obtain⟨j,z,v,rfl,t,u⟩:=nh (n.tree id _ k).1 e;have o:=e.append (aP.C5 t u);have:=o.ty;rw[q] at this;cases this;exact⟨j,z,v,rfl,o⟩
 cases c
theorem aac {f:ag} (m:ao E.tt G=some d) (q:a2 d f=true) (r:o.op=.store G h b) (u:a.eval h=.pointer (some ⟨g,c,none⟩)) (t:(a.eval b).cells=i.toArray) (n:i.length=f.size) (l:∀b∈i,b.oneCell'=true) (j:hE w g c (c+f.size)):(execOp a.eval o).run E.P w=.ok .skip (w.setCells g c i):=by have s:=(E.ok G d m).lay q;have k:=run_storeCells_cells (P:=E.P) g c i 0 w (λe p=>by simpa using(j (c+e) U U).1) (λe p=>by simpa using(j (c+e) U U).2) l;simp only[k4] at k;have:(storeVar G ⟨g,c,none⟩ (a.eval b)).run E.P w=.ok () (w.setCells g c i):=(by simp only[storeVar,t,Sem.run_bind,s.sizeOf,Result.andThen_ok];simpa[n] using k);simp[execOp,r,u,Instr.storeAt,Instr.sureAddr,this]
theorem aab (d3:o.op=.store G h b) (bs:o.dst=none) (c:(BP E.tt st G (aO st.g h) (aO st.g b)).K Q):dm E C o st Q:=by
 rintro a w ⟨I,rt,fp,f⟩ next a0 d2
 have i:=f.aO b;unfold BP at c;split at c
 ·exact c.elim
 rename_i id f4 d4;split at c
 case h_2=>exact c.elim
 rename_i gc f9 ap q W;split at c
 ·exact c.elim
 rename_i u d8;cases x:a2 ap u with
 |false=>rw[x] at c;exact c.elim
 |true=>
 rw[x] at c;simp only[cond_true] at c;obtain⟨U,O,fT,el,z⟩:=YB f d4 q d8;have J:=(E.ok G ap W).lay x;have H:∀(k:cS) (S:aJ) (e:Nat->cS) (d:Nat->cY),(a.eval b).cells=k.toArray->k.length=u.size->(∀b∈k,b.oneCell'=true)->hE w U O (O+u.size)->bt C S a.tmps (w.setCells U O k) I e d->Q S->o.wp E.P a w next a0:=by
  intro k S e d aj D a3 a4 d6 d5;unfold Oper.wp;rw[aac W x d3 el aj D a3 a4];show next (a.put o.dst undef) _
  rw[bs];exact d2 _ _ _ d5 rfl ⟨I,e,d,d6⟩
 split at c
 ·rename_i j am F;split at c
  case h_2=>exact c.elim
  rename_i ge f7 A;cases v:Nat.beq id j with
  |true=>rw[v] at c;exact c.elim
  |false=>
   rw[v] at c;obtain⟨⟨T,av⟩,⟨co,p⟩,c⟩:=c;have d1:id≠j:=λB=>(by rw[B,pU] at v;cases v);rw[F] at i;generalize N:a.eval b=fs at i;cases i with|ref r M=>
   rw[A] at r;cases r;obtain⟨t,an,f5⟩:=f.tree j _ A;obtain⟨f3,f0,f2,f6,eq,s,_,ad,_⟩:=AF am (τ':=u) (y:=T) t (loc:=none) (λ_ _ c=>by cases c) an (λ_ _ c=>by cases c) (f.notM A) co;obtain⟨rfl,rfl,rfl⟩:=M.ih eq;have d0:f2.Nodup:=(hF.1 (ad.nodup_iff.1 an)).1;obtain⟨n,e,d,m⟩:=f.store q z p s d0 (S2:=[j]) (by simpa using d1) (λV L=>.inr ⟨j,ab,_,A,ad.mem_iff.2 (by simp[L])⟩);exact H _ _ e d (by rw[N];exact nm J s.len s.one) s.len s.one n m c
 ·rename_i j am fz f8 ex F;split at c
  case isFalse=>exact c.elim
  rename_i B;subst B;obtain⟨⟨ft,av⟩,⟨rfl,rfl,ce,p⟩,c⟩:=c;rw[F] at i;generalize N:a.eval b=fs at i;cases i with|app r cv M ci bl f1 l Y d7 ds=>
  rw[q] at r;cases r;obtain rfl:=c4.uniq ce ci;obtain⟨_,aj,D⟩:=z.ih M;subst aj;subst D;have dl:(ag.osl fz).ik=true:=cv;obtain⟨n,e,d,m⟩:=f.store q z p l ds (S2:=ex) (λcs=>(Y _ cs).1 rfl) (λV L=>by
   rcases d7 V L with R|⟨Z,X,R⟩
   ·exact .inl ⟨_,ft,dl,bl,R⟩
   obtain⟨_,fn,d9⟩:=Y Z X;exact .inr ⟨Z,X,fn,d9,R⟩)
  exact H _ _ e d (by rw[N];have:=nm J l.len l.one;exact this) l.len l.one n m c
 split at c
 case h_2=>exact c.elim
 rename_i T em;obtain⟨av,p,c⟩:=c;have t:=CJ J i em;obtain⟨n,e,d,m⟩:=f.store q z p t ab (S2:=[]) ab ab;exact H _ _ e d ab t.len t.one n m c
end
end
section
theorem AD (a:List (List y)) (c b:Nat):((a.take b).drop c).flatten.Sublist a.flatten:=by have d:a.flatten=((a.take b).take c).flatten++((a.take b).drop c).flatten++(a.drop b).flatten:=(by rw[<-oF,kE,<-oF,kE]);rw[d];exact(List.sublist_append_right _ _).trans (List.sublist_append_left _ _)
section
variable {E:dW} {C:dn} {st:aJ} {a:Act} {A:cQ} {w:World} {I:Nat->Prop} {rt:Nat->cS} {fp:Nat->cY} {o:Oper} {Q:aJ->Prop}
def yC (c:List (Nat×ag)) (st:aJ) (a:Nat) (i:al):tu:=
 match i with
 |.ref id []=>match ao st.h id with
  |some b=>.dv ⟨(a,.ref a [])::kill [id,a] [] st.g,(a,b)::del [id,a] st.h⟩
  |none=>.bad
 |.ref id f=>bif Nat.beq id a then .bad else .dv ⟨(a,.ref id f)::kill [a] [] st.g,del [a] st.h⟩
 |.view id [] e d=>match ao st.h id with
  |some ⟨.osl b,j⟩=>.dv ⟨(a,.ref a [])::kill [id,a] [] st.g,(a,⟨.osl b,(j.take d).drop e⟩)::del [id,a] st.h⟩
  |_=>.bad
 |.bP (.slice none 0 0)=>match ao c a with
  |some (.osl b)=>.dv ⟨(a,.ref a [])::kill [a] [] st.g,(a,⟨.osl b,[]⟩)::del [a] st.h⟩
  |_=>.bad
 |_=>.bad
theorem lE.one {w':World} {I':Nat->Prop} {S:cY} {d:Nat} {t:aC} {cs:cS} {f:cY} (u:d∈S\/ao st.h d=none) (m:w.heap.size<=w'.heap.size) (n:w'.os=w.os) (o:w'.tape=w.tape) (p:w'.output=w.output) (q:∀a,a<w.heap.size->(∀id∈S,∀t,ao st.h id=some t->a∉fp id)->w'.heap[a]?=w.heap[a]?) (v:∀a,a<w.heap.size->hl w' a=hl w a) (r:∀a,I a->I' a) (s:∀a,I' a->I a\/(a<w'.heap.size/\(w.heap.size<=a\/∃id∈S,∃t,ao st.h id=some t/\a∈fp id))) (z:aN (ba I' C.B) w' t.1 cs t.2 f) (x:f.Nodup) (c:∀a∈f,¬I' a/\a<w'.heap.size/\(w.heap.size<=a\/∃j∈S,∃D,ao st.h j=some D/\a∈fp j)):lE C st w w' I I' rt fp S [] [(d,t)] (λ_=>cs) (λ_=>f):=by
 refine⟨m,n,o,p,q,λa c=>.of_eq (v a c),r,s,?_,?_,(λid g=>by cases g),(λid g=>by cases g)⟩
 ·intro A E b;rw[bU] at b;split at b
  ·rename_i k;subst k;obtain rfl:=ec b;exact⟨u,z,x,c⟩
  cases b
 intro A F E G e i y;rw[bU] at e i;split at e
 ·split at i
  ·rename_i aj l;exact absurd (aj.symm.trans l) y
  cases i
 cases e
theorem dm.RP (ex:o.op=.assign b) (d9:o.dst=some c) (bs:C.ok c) (e:(yC j st c (aO st.g b)).K Q):dm E C o st Q:=by
 rintro a w ⟨I,rt,fp,z⟩ next a0 eq
 have p:=z.aO b;have ci:(execOp a.eval o).run E.P w=.ok (.value (a.eval b)) w:=(by simp[execOp,ex]);have O:∀(ap:aJ) (rtn:Nat->cS) (fpn:Nat->cY),bt C ap (a.tmps.setIfInBounds c (a.eval b)) w I rtn fpn->Q ap->o.wp E.P a w next a0:=by
  intro ap rtn fpn G Y;unfold Oper.wp;rw[ci];show next (a.put o.dst (a.eval b)) w
  rw[d9];exact eq _ _ _ Y rfl ⟨I,rtn,fpn,G⟩
 have J:∀(S:cY) (i:aC) (L:cS) (q:cY),c∈S->aN (ba I C.B) w i.1 L i.2 q->q.Nodup->(∀m∈q,∃cv∈S,∃fT,ao st.h cv=some fT/\m∈fp cv)->a.eval b=bH i.1 L->Q ⟨(c,.ref c [])::kill S [] st.g,(c,i)::del S st.h⟩->o.wp E.P a w next a0:=by
  intro S i L q el G M r fn Y;have v:=z.eH (lE.one (st:=st) (C:=C) (rt:=rt) (w':=w) (I':=I) (S:=S) (d:=c) (t:=i) (cs:=L) (f:=q) (.inl el) (a8 _) rfl rfl rfl (λ_ _ _=>rfl) (λ_ _=>rfl) (λ_ e=>e) (λ_ e=>.inl e) G M (λm d8=>by
   obtain⟨x,l,ds,v,bl⟩:=r m d8;obtain⟨ar,ft,am,dl⟩:=(z.tree x ds v).2.2 m bl;exact⟨ar,am,.inr ⟨x,l,ds,v,bl⟩⟩))
  refine O _ _ _ (v.put bs (av:=.ref c []) ?_) Y;rw[fn];refine .ref (t:=i) (loc:=none) (by rw[iF,bU,if_pos rfl];rfl) ?_;rw[A5];exact aP.here
 unfold yC at e;split at e
 ·rename_i id n;split at e
  case h_2=>exact e.elim
  rename_i i u;rw[n] at p;obtain⟨an,F,fz⟩:=z.tree id i u;refine J [id,c] i (rt id) (fp id) ab an F (λm r=>⟨id,ab,i,u,r⟩) ?_ e;generalize co:a.eval b=d0 at p;cases p with|ref H X=>
  rw[u] at H;cases H;obtain⟨rfl,rfl,rfl⟩:=aP.eR.1 X;rfl
 ·rename_i id ad _ n;cases r:Nat.beq id c with
  |true=>rw[r] at e;exact e.elim
  |false=>
   rw[r] at e;have em:id≠c:=λd5=>(by rw[d5,pU] at r;cases r);have v:=z.eH (S:=[c]) (keep:=[]) (new:=[]) (rtn:=rt) (fpn:=fp) (w':=w) (I':=I) ⟨a8 _,rfl,rfl,rfl,λ_ _ _=>rfl,λ_ _=>.refl _ _,λ_ e=>e,λ_ e=>.inl e,(λ_ _ e=>by cases e),(λ_ _ _ _ e=>by cases e),(λ_ e=>by cases e),(λ_ e=>by cases e)⟩;refine O _ _ _ (v.put bs (av:=.ref id ad) ?_) e;have:=v.aO (a:=a) b;have d6:aO (kill [c] [] st.g) b=.ref id ad:=by
    cases b with
    |tmp i=>
     show gt (kill [c] [] st.g) i=_;rw[m9,show gt st.g i=.ref id ad from n];have:db id [c]=false:=by
      cases W:db id [c]
      ·rfl
      exact absurd (by simpa using ek.1 W) em
     simp[ef,dt,al.dJ,al.ids,this]
    |const f0=>exact absurd n (by cases f0<;>simp[aO])
    |global f7=>cases n
    |func q=>cases n
   rw[<-d6];exact this
 ·rename_i id k l n;split at e
  case h_2=>exact e.elim
  rename_i i d1 u;rw[n] at p;obtain⟨an,F,fz⟩:=z.tree id _ u;generalize co:a.eval b=d0 at p J O ci;cases p with|kv=>(exact J [id,c] ⟨.osl i,[]⟩ [.slice none 0 0] [] ab ⟨none,0,rfl,.inl ⟨rfl,rfl,rfl,rfl⟩⟩ ab ab rfl e)|view H X gc ge gf=>
  rename_i m D gi s;rw[u] at H;cases H;obtain⟨aj,_,d7⟩:=aP.eR.1 X;cases aj;obtain⟨f2,f5,T,G⟩:=an;rw[d7] at T;simp only[fK,Value.slice.injEq,and_true] at T;obtain⟨rfl,rfl,rfl⟩:=T;rcases G with⟨R,_⟩|⟨f3,gl,y,R,ce,ar,ft,am,dl⟩
  ·cases R
  cases R;have V:((d1.take l).drop k).length=l-k:=(by simp;omega);refine J [id,c] ⟨.osl i,(d1.take l).drop k⟩ [.slice (some ⟨m,if s=k then D else D+k*i.size,none⟩) (l-k) (s-k)] (m::((y.take l).drop k).flatten) ab ?_ ?_ ?_ rfl e
  ·refine⟨some ⟨m,if s=k then D else D+k*i.size,none⟩,s-k,by rw[V],.inr ⟨m,_,(y.take l).drop k,rfl,rfl,by simp[ar],by simp only[V];omega,?_,?_⟩⟩
   ·intro fs a3 a4;by_cases A:s=k
    ·subst A;simp at a3 a4;omega
    rw[if_neg A] at a3 a4;have:k*i.size+(s-k)*i.size=s*i.size:=(by rw[<-eL];congr 1;omega);exact am fs U U
   intro x f1 q Z M;have f9:x<l-k:=(by rw[<-V];exact(eb.1 Z).1);rw[ke,k1 U] at Z M;obtain⟨d4,d2,f6,d3⟩:=dl (k+x) f1 q Z M;refine⟨d4,d2,?_,d3⟩;rw[if_neg U];rwa[show D+k*i.size+x*i.size=D+(k+x)*i.size by rw[eL];omega]
  ·rw[ce] at F;have N:((y.take l).drop k).flatten.Sublist y.flatten:=AD _ _ _;rw[je] at F|-;exact⟨λW=>F.1 (N.subset W),F.2.sublist N⟩
  intro f4 A;refine⟨id,ab,_,u,?_⟩;rw[ce];rcases dh.1 A with rfl|A
  ·simp
  have N:((y.take l).drop k).flatten.Sublist y.flatten:=AD _ _ _;exact e2 _ (N.subset A)
 ·rename_i n;split at e
  case h_2=>exact e.elim
  rename_i i f8;rw[n] at p;refine J [c] ⟨.osl i,[]⟩ [.slice none 0 0] [] ab ⟨none,0,rfl,.inl ⟨rfl,rfl,rfl,rfl⟩⟩ ab ab ?_ e;generalize co:a.eval b=d0 at p;cases p;rfl
 exact e.elim
end
end
section
inductive kl (σ:ag) where
 |dv (x7:List σ.den)
 |part (α:Type) (φ:α->Prop) (f:α->List σ.den)
 |bad
def pG (g:List (Nat×aC)) (b:ag) (k:al):kl b:=
 match k with
 |.val (.a7 _ j) a=>if e:j=b then .dv (e▸a) else .bad
 |.bP (.slice none 0 0)=>.dv []
 |.ref id c=>match ao g id with
  |some ⟨f,d⟩=>bif b.pure then .part (List b.den) (λa=>c4 f d c (.osl b) a) (λa=>a) else .bad
  |none=>.bad
 |.view id c i h=>match ao g id with
  |some ⟨f,d⟩=>bif b.pure then .part (List b.den) (λa=>c4 f d c (.osl b) a) (λa=>(a.take h).drop i) else .bad
  |none=>.bad
 |_=>.bad
def kl.to {f:ag} (g:kl f) (c:Nat->Prop) (b:List f.den->aJ):tu:=
 match g with
 |.dv e=>.part Unit (λ_=>c e.length) (λ_=>b e)
 |.part h i d=>.part h (λa=>i a/\c (d a).length) (λa=>b (d a))
 |.bad=>.bad
def yA (
 tt:List (TypeId×ag)) (t:List (Nat×ag)) (st:aJ) (a:Nat) (s:TypeId) (j k:al):tu:=
 match eY tt s with
 |none=>.bad
 |some o=>match j with
  |.ref id []=>match ao st.h id with
   |some ⟨.osl b,d⟩=>bif a2 o b&&Nat.ble b.size 1300 then
    match b.pure,k with
    |false,.ref n []=>match ao st.h n with
     |some ⟨.osl v,c⟩=>if e:v=b then bif Nat.beq id n then .bad else .part Unit (λ_=>d.length+c.length<=e8) (λ_=>⟨(a,.ref a [])::kill [id,n,a] [] st.g,(a,⟨.osl b,d++(e▸c)⟩)::del [id,n,a] st.h⟩) else .bad
     |_=>.bad
    |_,k=>(pG st.h b k).to (λl=>d.length+l<=e8) (λc=>⟨(a,.ref a [])::kill [id,a] [] st.g,(a,⟨.osl b,d++c⟩)::del [id,a] st.h⟩)
    else .bad
   |_=>.bad
  |.ref id f=>match ao st.h id,ao st.h a with
   |some ⟨m,j⟩,none=>match dI m f with
    |some (.osl b)=>bif a2 o b&&Nat.ble b.size 1300&&b.ik then
     match pG st.h b k with
     |.dv c=>.part (List b.den) (λd=>c4 m j f (.osl b) d/\d.length+c.length<=e8) (λ_=>⟨(a,.app id f b c [a])::kill [id] [(id,f),(id,[])] st.g,(a,⟨.c6,()⟩)::(id,⟨m,j⟩)::del [id] st.h⟩)
     |.part u w p=>.part (List b.den×u) (λi=>c4 m j f (.osl b) i.1/\w i.2/\i.1.length+(p i.2).length<=e8) (λi=>⟨(a,.app id f b (p i.2) [a])::kill [id] [(id,f),(id,[])] st.g,(a,⟨.c6,()⟩)::(id,⟨m,j⟩)::del [id] st.h⟩)
     |.bad=>.bad
     else .bad
    |_=>.bad
   |_,_=>.bad
  |.view id [] r q=>match ao st.h id with
   |some ⟨.osl b,d⟩=>bif a2 o b&&Nat.ble b.size 1300 then
    (pG st.h b k).to (λl=>((d.take q).drop r).length+l<=e8) (λc=>⟨(a,.ref a [])::kill [id,a] [] st.g,(a,⟨.osl b,(d.take q).drop r++c⟩)::del [id,a] st.h⟩)
    else .bad
   |_=>.bad
  |.bP (.slice none 0 0)=>match ao t a with
   |some (.osl b)=>bif a2 o b&&Nat.ble b.size 1300 then
    (pG st.h b k).to (λl=>l<=e8) (λc=>⟨(a,.ref a [])::kill [a] [] st.g,(a,⟨.osl b,c⟩)::del [a] st.h⟩)
    else .bad
   |_=>.bad
  |_=>.bad
section
variable {E:dW} {C:dn} {st:aJ} {a:Act} {A:cQ} {w:World} {I:Nat->Prop} {rt:Nat->cS} {fp:Nat->cY} {o:Oper} {Q:aJ->Prop}
def vC (I:Nat->Prop) (e:Nat->Prop) (w:World) (d:ag) (g:Value) (c:List d.den):Prop:=
 ∃b f a,g=.slice b c.length f/\iJ (ba I e) w d b c a/\a.flatten=[]
theorem Dt {b:cN} (c:∀a∈b,a=[]):b.flatten=[]:=by
 induction b with
 |nil=>rfl
 |cons f g e=>rw[iu,c f ab,e (λa d=>c a (e2 _ d))];rfl
theorem iJ.pure {f:c5->Nat->Prop} {e:ag} {g:Option Addr} {d:List e.den} {c:cN} (j:e.pure=true) (a:iJ f w e g d c):c.flatten=[]:=by
 refine Dt (λn h=>?_);obtain⟨i,a⟩:=a;obtain⟨b,p,rfl⟩:=ha.1 h;rcases a with rfl|⟨l,o,_,a⟩
 ·simp only[oI] at i;omega
 have q:b<d.length:=U;obtain⟨m,_,_,k⟩:=a b d[b] c[b] ab ab;exact k.pure j
def kl.holds {c:ag} (e:kl c) (b:List c.den):Prop:=
 match e with
 |.dv f=>b=f
 |.part g h d=>∃a:g,h a/\b=d a
 |.bad=>False
theorem kl.BT {f:kl d} {g:List d.den->aJ} (b:(f.to k g).K Q):∃a,f.holds a/\k a.length/\Q (g a):=by
 unfold kl.to at b;cases f with
 |dv a=>obtain⟨_,c,e⟩:=b;exact⟨a,rfl,c,e⟩
 |part l m j=>obtain⟨h,⟨c,e⟩,i⟩:=b;exact⟨j h,⟨h,c,rfl⟩,e,i⟩
 |bad=>exact b.elim
theorem s5 (y:bt C st a.tmps w I rt fp) {u:List d.den} (c:(pG st.h d (aO st.g b)).holds u):vC I C.B w d (a.eval b) u:=by
 have e:=y.aO b;unfold pG at c;generalize Y:a.eval b=a3 at e;split at c
 ·rename_i ap a0 q j;split at c
  case isFalse=>exact c.elim
  rename_i n;subst n;obtain rfl:u=q:=c;rw[j] at e;cases e with|val H=>
  have P:=H;obtain⟨_,v,m,rfl,_⟩:=P;obtain⟨_,f⟩:=iJ.a7 H;exact⟨v,m,_,rfl,f,ab⟩
 ·rename_i j;obtain rfl:u=[]:=c;rw[j] at e;cases e;exact⟨none,0,[],rfl,⟨rfl,.inl rfl⟩,rfl⟩
 ·rename_i id O j;split at c
  case h_2=>exact c.elim
  rename_i R Q o;cases l:d.pure with
  |false=>rw[l] at c;exact c.elim
  |true=>
   rw[l] at c;obtain⟨q,z,rfl⟩:=c;rw[j] at e;cases e with|ref p D=>
   rw[o] at p;cases p;obtain⟨rfl,x,s,_⟩:=y.jq o z D;have N:=s;obtain⟨v,m,rfl,_⟩:=N;obtain⟨_,_,r,f,_⟩:=iJ.osl s;exact⟨v,m,r,rfl,f,f.pure l⟩
 ·rename_i id O i k j;split at c
  case h_2=>exact c.elim
  rename_i R Q o;cases l:d.pure with
  |false=>rw[l] at c;exact c.elim
  |true=>
   rw[l] at c;obtain⟨q,z,rfl⟩:=c;rw[j] at e;cases e with|kv=>(exact⟨none,0,[],rfl,⟨rfl,.inl rfl⟩,rfl⟩)|view p D Z ad am=>
   rename_i J G an m;rw[o] at p;cases p;obtain⟨n,x,s,_⟩:=y.jq o z D;cases n;obtain⟨aj,_,r,f,_⟩:=iJ.osl s;have A:((q.take k).drop i).length=k-i:=(by simp;omega);show vC I C.B w d _ ((q.take k).drop i);refine⟨_,m-i,(r.take k).drop i,by rw[A],⟨by simp[f.1],?_⟩,?_⟩
   ·obtain⟨W,f⟩:=f;by_cases X:k=i
    ·left;apply lv;omega
    right;rcases f with rfl|⟨S,av,n,f⟩
    ·simp at A;omega
    cases n;refine⟨J,_,rfl,λt b x e E=>?_⟩;have V:t<k-i:=(by rw[<-A];exact(eb.1 e).1);rw[ke,k1 U] at e E;obtain⟨M,K,T,L⟩:=f (i+t) b x e E;refine⟨M,K,?_,L⟩;rw[if_neg U];rwa[show G+i*d.size+t*d.size=G+(i+t)*d.size by rw[eL];omega]
   have:=f.pure l;have F:=AD r i k;rw[this] at F;exact List.sublist_nil.1 F
 exact c.elim
theorem aa4 {b p:Nat} {q:List d.den} (A:aN f w (.osl d) [.slice (some ⟨b,O,none⟩) p M] q n) (l:n.Nodup) (N:c<=g) (P:g<=p) (Q:p<=M):∃i,aN f w (.osl d) [.slice (some ⟨b,if M=c then O else O+c*d.size,none⟩) (g-c) (M-c)] ((q.take g).drop c) i/\i.Nodup/\∀r∈i,r∈n:=by
 obtain⟨H,J,v,C⟩:=A;simp only[fK,Value.slice.injEq,and_true] at v;obtain⟨rfl,rfl,rfl⟩:=v;rcases C with⟨j,_⟩|⟨I,R,e,j,rfl,ar,S,E,F⟩
 ·cases j
 cases j;have k:((q.take g).drop c).length=g-c:=(by simp;omega);have m:((e.take g).drop c).flatten.Sublist e.flatten:=AD _ _ _;refine⟨b::((e.take g).drop c).flatten,⟨some ⟨b,if M=c then O else O+c*d.size,none⟩,M-c,by rw[k],.inr ⟨b,_,(e.take g).drop c,rfl,rfl,by simp[ar],by rw[k];omega,?_,?_⟩⟩,?_,?_⟩
 ·intro D s t;by_cases a:M=c
  ·subst a;simp at s t;omega
  rw[if_neg a] at s t;have:c*d.size+(M-c)*d.size=M*d.size:=(by rw[<-eL];congr 1;omega);exact E D U U
 ·intro h G n o u;have L:h<g-c:=(by rw[<-k];exact(eb.1 o).1);rw[ke,k1 U] at o u;obtain⟨z,x,K,y⟩:=F (c+h) G n o u;refine⟨z,x,?_,y⟩;rw[if_neg U];rwa[show O+c*d.size+h*d.size=O+(c+h)*d.size by rw[eL];omega]
 ·rw[je] at l|-;exact⟨λB=>l.1 (m.subset B),l.2.sublist m⟩
 intro r a;rcases dh.1 a with rfl|a
 ·simp
 exact e2 _ (m.subset a)
theorem Gz (d:o.op=.call {callee:=.builtin .append,args:=#[b,h],argTypes:=#[G,G]}) {c:Value} (f:(Builtin.append_ #[G,G] o.type #[a.eval b,a.eval h]).run E.P w=.ok c e):(execOp a.eval o).run E.P w=.ok (.value c) e:=by simp only[execOp,d,resolve,invoke,builtin,Sem.run_bind,Sem.run_pure,Result.andThen_ok,vx,ep,pS,f]
theorem dm.vF {W:Operand} (d2:o.op=.call {callee:=.builtin .append,args:=#[b,W],argTypes:=#[G,G]}) (a3:o.dst=some M) (bs:C.ok M) (u:bt C st a.tmps w I rt fp) {next:Act->World->Prop} (d1:∀R A q,Q R->A.defers=a.defers->e3 C R A.tmps q->next A q) {V p:ag} (ap:eY E.tt G=some V) (dl:a2 V p=true) (d6:p.size<=1300) {S:cY} (a4:M∈S) {N H:Nat} {xs v:List p.den} {f1:cY} {y:cN} (d8:a.eval b=.slice r N H) (d5:aN (ba I C.B) w (.osl p) [.slice r N H] xs f1) (co:f1.Nodup) (z:∀e∈f1,∃i∈S,∃j,ao st.h i=some j/\e∈fp i) (d9:a.eval W=.slice T v.length O) (ce:iJ (ba I C.B) w p T v y) (cv:y.flatten.Nodup) (K:∀e∈y.flatten,∃i∈S,∃j,ao st.h i=some j/\e∈fp i) (bl:∀e∈f1,e∉y.flatten) (ds:xs.length+v.length<=e8) (d3:Q ⟨(M,.ref M [])::kill S [] st.g,(M,⟨.osl p,xs++v⟩)::del S st.h⟩):o.wp E.P a w next s:=by
 obtain⟨i,f3,f4,Z,ad⟩:=eY.ok ap;have J:=ad.lay dl;obtain⟨f5,_,el,_⟩:=J.info;have F:∀i j,ao st.h i=some j->∀e∈fp i,e<w.heap.size/\∀L,¬ba I C.B L e:=λi j l e k=>⟨((u.tree i j l).2.2 e k).2.2.1,u.notM l e k⟩;obtain⟨x,q,f2,em,ex,_,aL,fn,fs,ft,fz,fT,eq,f9,_,f0⟩:=GA (P:=E.P) (ty:=o.type) Z J el.info d6 d5 (c:=O) ce co (λe k=>by obtain⟨i,_,j,l,m⟩:=z e k;exact(F i j l e m).2) cv bl (λL e d0=>u.ib e (lN d0)) (λe k=>by obtain⟨i,_,j,l,m⟩:=z e k;exact(F i j l e m).1) (λe k=>by obtain⟨i,_,j,l,m⟩:=K e k;exact(F i j l e m).1) ds;have d4:(execOp a.eval o).run E.P w=.ok (.value x) q:=Gz (E:=E) d2 (by rw[d8,d9];exact em);have a0:∀e∈f2,(∃i∈S,∃j,ao st.h i=some j/\e∈fp i)\/(w.heap.size<=e/\e<q.heap.size):=λe k=>by
  rcases fn e k with n|n|n
  ·exact .inl (z e n)
  ·exact .inl (K e n)
  exact .inr n
 have d7:=u.eH (lE.one (st:=st) (C:=C) (rt:=rt) (w':=q) (I':=I) (S:=S) (d:=M) (t:=⟨.osl p,xs++v⟩) (cs:=[x]) (f:=f2) (.inl a4) fs ft fz fT (λe k an=>eq e k (λci=>by obtain⟨i,D,j,l,m⟩:=z e ci;exact an i D j l m)) f0 (λ_ n=>n) (λ_ n=>.inl n) ex aL (λe k=>by
   rcases a0 e k with⟨i,D,j,l,m⟩|⟨X,Y⟩
   ·obtain⟨ar,f6,f7,f8⟩:=(u.tree i j l).2.2 e m;exact⟨ar,U,.inr ⟨i,D,j,l,m⟩⟩
   exact⟨λam=>by have:=u.ib e (.inl am);omega,Y,.inl X⟩))
 unfold Oper.wp;rw[d4];show next (a.put o.dst x) q
 rw[a3];refine d1 _ _ _ d3 rfl ⟨I,_,_,d7.put bs (av:=.ref M []) ?_⟩;have:x=bH (.osl p) [x]:=rfl;rw[this];refine .ref (t:=⟨.osl p,xs++v⟩) (loc:=none) (by rw[iF,bU,if_pos rfl];rfl) ?_;rw[A5];exact aP.here
end
end
section
section
variable {E:dW} {C:dn} {st:aJ} {a:Act} {A:cQ} {w:World} {I:Nat->Prop} {rt:Nat->cS} {fp:Nat->cY} {o:Oper} {Q:aJ->Prop}
theorem GC {gi:Operand} (lt:o.op=.call {callee:=.builtin .append,args:=#[b,gi],argTypes:=#[G,G]}) (am:o.dst=some M) (i8:C.ok M) (x:bt C st a.tmps w I rt fp) {next:Act->World->Prop} (lp:∀ge ce w',Q ge->ce.defers=a.defers->e3 C ge ce.tmps w'->next ce w') {bs v:ag} (i0:eY E.tt G=some bs) (la:a2 bs v=true) (mo:v.size<=1300) (d3:v.ik=true) {id:Nat} (jp:aO st.g b=.ref id l) {n:d.den} (r:ao st.h id=some ⟨d,n⟩) (an:ao st.h M=none) {A a0:List v.den} (d0:c4 d n l (.osl v) A) {S2:cY} (nd:∃el D H,a.eval gi=.slice el a0.length D/\iJ (ba I C.B) w v el a0 H/\H.flatten.Nodup/\∀e∈H.flatten,∃j∈S2,∃F,ao st.h j=some F/\e∈fp j) (cs:∀j∈S2,j≠id/\∃bs,ao st.h j=some bs) (lb:A.length+a0.length<=e8) (d4:Q ⟨(M,.app id l v a0 (M::S2))::kill [id] [(id,l),(id,[])] st.g,(M,⟨.c6,()⟩)::(id,⟨d,n⟩)::del [id] st.h⟩):o.wp E.P a w next s:=by
 obtain⟨j,t2,Z,ic,ii⟩:=eY.ok i0;have ex:=ii.lay la;obtain⟨t7,_,or,_⟩:=ex.info;have d6:=x.aO b;rw[jp] at d6;generalize mt:a.eval b=t9 at d6;cases d6 with|ref u d2=>
 rename_i up em gl;rw[r] at u;cases u;simp only at d2;obtain⟨os,d7,d8⟩:=x.tree id _ r;obtain⟨t8,t4,V,d9,hi,eq,hr,Y,hs,hv,hw⟩:=wW l (loc:=none) os (λ_ _ i=>by cases i) d7 (λ_ _ i=>by cases i) (x.notM r) d0;obtain⟨go,aj,gs⟩:=d2.ih hi;subst go;subst aj;subst gs;have f1:=Y.nodup_iff.1 d7;rw[hF] at f1;obtain⟨le,f0,lk⟩:=f1;obtain⟨ci,co,rfl,_⟩:=(show aN (ba I C.B) w (.osl v) gl A V from eq);obtain⟨el,D,H,ne,kd,kg,ds⟩:=nd;have L:∀e∈V,e∈fp id:=λe f=>Y.mem_iff.2 (by simp[f]);have K:∀e∈fp id,e<w.heap.size/\∀O,¬ba I C.B O e:=λe f=>⟨(d8 e f).2.2.1,x.notM r e f⟩;have f4:∀e∈H.flatten,e<w.heap.size:=λe f=>(by obtain⟨j,m,F,N,ad⟩:=ds e f;exact((x.tree j F N).2.2 e ad).2.2.1);obtain⟨gf,w',f2,pm,ps,f9,gc,rd,rg,rs,tf,ti,f8,pr,_,tl⟩:=GA (P:=E.P) (ty:=o.type) ic ex or.info mo eq (c:=D) kd le (λe f=>(K e (L e f)).2) kg (λe f i2=>by
  obtain⟨j,m,F,N,ad⟩:=ds e i2;exact x.dis id j _ F r N (cs j m).1.symm e (L e f) ad)
  (λO e d1=>x.ib e (lN d1)) (λe f=>(K e (L e f)).1) f4 lb
 have mc:(execOp a.eval o).run E.P w=.ok (.value gf) w':=Gz (E:=E) lt (by rw[mt,ne];exact pm);have f3:∀e∈d9,e<w.heap.size/\e∉V:=λe f=>⟨(K e (Y.mem_iff.2 (by simp[f]))).1,λi=>lk e i e f rfl⟩;have d5:∀e,(∃O,ba I C.B O e)\/e∈d9->bN w w' e:=λe f=>by
  rcases f with⟨O,d1⟩|f
  ·exact pr O e d1
  exact .of_heap (f8 e (f3 e f).1 (f3 e f).2)
 have i1:∀e R,em=some (e,R)->dK w' e R [.slice ci A.length co]:=λe R k=>by
  have f:e∈d9:=by
   rcases hs e R k with⟨bl,i,_⟩|i
   ·cases i
   exact i
  exact(hr e R k).1.ev (d5 e (.inr f))
 obtain⟨t5,W,nn,_,no,_,n5,f5⟩:=hv w' (ba I C.B) [.slice ci A.length co] A V n (λ_ _ i=>i) (λe f=>by
  have a3:bN w w' e:=d5 e (by
   rcases f with i|i|⟨R,i⟩
   ·exact .inl i
   ·exact .inr i
   cases i)
  exact⟨λz _=>(a3.1 z).1,λz=>(a3.1 z).2,λz=>by rw[(a3.1 z).1],a3.2⟩) f9 (λ_ _=>rfl) i1 (dB.same d0)
 obtain rfl:=no rfl (.inr rfl);have J:W.Perm (fp id):=n5.trans Y.symm;have q:M≠id:=λk=>(by rw[k,r] at an;cases an);have ft:∀e∈f2,e∈V\/e∈H.flatten\/(w.heap.size<=e/\e<w'.heap.size):=λe f=>rd e f
 let X:=f2.filter λe=>decide (w.heap.size<=e)
 have dl:∀e∈X,w.heap.size<=e/\e<w'.heap.size:=λe f=>by
  have fn:=gr.1 f;have Z:w.heap.size<=e:=(by simpa using fn.2);rcases ft e fn.1 with i|i|i
  ·have:=(K e (L e i)).1;omega
  ·have:=f4 e i;omega
  exact i
 have mp:=x.eH (S:=[id]) (keep:=[(id,l),(id,[])]) (new:=[(M,⟨.c6,()⟩),(id,⟨d,n⟩)]) (rtn:=λj=>if j=M then[] else rt id) (fpn:=λj=>if j=M then X else W) (w':=w') (I':=I) ⟨rg,rs,tf,ti,λe f is=>f8 e f (λi=>is id ab _ r (L e i)),λe f=>.of_eq (tl e f),λ_ i=>i,λ_ i=>.inl i,(by
   intro j U m;rw[bU] at m;split at m
   ·rename_i k;subst k;cases m;refine⟨.inr an,(by simp only[if_true];exact rfl),(by simp only[if_true];exact gc.filter _),λe f=>?_⟩;simp only[if_true] at f;obtain⟨ar,T⟩:=dl e f;exact⟨λio=>by have:=x.ib e (.inl io);omega,T,.inl ar⟩
   ·rw[bU] at m;split at m
    ·rename_i _ k;subst k;cases m;have p:¬(id=M):=λk=>q k.symm;refine⟨.inl ab,(by simp only[if_neg p];exact nn),(by simp only[if_neg p];rw[J.nodup_iff];exact d7),λe f=>?_⟩;simp only[if_neg p] at f;rw[J.mem_iff] at f;exact⟨(d8 e f).1,by have:=(d8 e f).2.2.1;omega,.inr ⟨id,ab,_,r,f⟩⟩
    cases m),(by
   intro j z to t0 m k0 fT e f;have fs:∀a4 U,ao [(M,(⟨.c6,()⟩:aC)),(id,⟨d,n⟩)] a4=some U->a4=M\/a4=id:=λa4 U y=>by
    rw[bU] at y;split at y
    ·rename_i k;exact .inl k.symm
    rw[bU] at y;split at y
    ·rename_i _ k;exact .inr k.symm
    cases y
   have p:¬(id=M):=λk=>q k.symm;rcases fs j to m with rfl|rfl<;>rcases fs z t0 k0 with rfl|rfl
   ·exact absurd rfl fT
   ·simp only[if_true] at f;simp only[if_neg p];rw[J.mem_iff];intro i;have:=(K e i).1;have:=(dl e f).1;omega
   ·simp only[if_neg p] at f;simp only[if_true];rw[J.mem_iff] at f;intro i;have:=(K e f).1;have:=(dl e i).1;omega
   ·exact absurd rfl fT),(by
   intro j m U u;have ap:j=(id,l)\/j=(id,[]):=(by simpa using m);have Z:j.1=id:=by rcases ap with rfl|rfl<;>rfl
   have u:ao st.h id=some U:=(by rw[<-Z];exact u);rw[r] at u;obtain rfl:=ec u;have p:¬(id=M):=λk=>q k.symm;refine⟨⟨d,n⟩,by rw[Z,bU,if_neg q,bU,if_pos rfl],rfl,by rw[Z];simp only[if_neg p],(by rcases ap with rfl|rfl;exact⟨_,d2.ty⟩;exact⟨d,by cases d<;>rfl⟩),λbl _ _ _ y d4=>?_⟩;rcases ap with rfl|rfl
   ·exact f5.2 bl _ _ _ y d4
   ·rw[AV] at y;cases y),(by
   intro j m U u bl ut ul f6 t3 t6 am d3 f0 fz l2;have ap:j=(id,l)\/j=(id,[]):=(by simpa using m);rcases ap with rfl|rfl
   ·rw[r] at u;obtain rfl:=ec u;have p:¬(id=M):=λk=>q k.symm;refine⟨⟨d,n⟩,by rw[bU,if_neg q,bU,if_pos rfl],fz,λD i3=>?_⟩;obtain⟨ar,T⟩:=hw bl _ _ _ _ _ am (by exact d3) fz f0 l2 D i3;exact⟨by simp only[if_neg p];exact J.mem_iff.2 (Y.mem_iff.2 (k2 _ ar)),d5 D (.inr ar)⟩
   rw[sb] at am;cases am)⟩
 unfold Oper.wp;rw[mc];show next (a.put o.dst gf) w'
 rw[am];refine lp _ _ _ d4 rfl ⟨I,_,_,mp.put i8 (av:=.app id l v a0 (M::S2)) ?_⟩;have p:¬(id=M):=λk=>q k.symm;have of:ao ([(M,(⟨.c6,()⟩:aC)),(id,⟨d,n⟩)]++del [id] st.h) id=some ⟨d,n⟩:=(by rw[iF,bU,if_neg q,bU,if_pos rfl];rfl);have f6:ao ([(M,(⟨.c6,()⟩:aC)),(id,⟨d,n⟩)]++del [id] st.h) M=some ⟨.c6,()⟩:=(by rw[iF,bU,if_pos rfl];rfl);have f7:ao [(M,(⟨.c6,()⟩:aC)),(id,⟨d,n⟩)] id=some ⟨d,n⟩:=(by rw[bU,if_neg q,bU,if_pos rfl]);have ol:ao [(M,(⟨.c6,()⟩:aC)),(id,⟨d,n⟩)] M=some ⟨.c6,()⟩:=(by rw[bU,if_pos rfl]);have hc:dA [(M,(⟨.c6,()⟩:aC)),(id,⟨d,n⟩)] (λj=>if j=M then X else W) fp id=W:=(by simp only[dA,f7,if_neg p]);have gt:dA [(M,(⟨.c6,()⟩:aC)),(id,⟨d,n⟩)] (λj=>if j=M then X else W) fp M=X:=(by simp only[dA,ol,if_true]);have pl:dA [(M,(⟨.c6,()⟩:aC)),(id,⟨d,n⟩)] (λj=>if j=M then[] else rt id) rt id=rt id:=(by simp only[dA,f7,if_neg p]);have lo:aP w' d none (rt id) l (.osl v) em [.slice ci A.length co]:=f5.1;refine .app (t:=⟨d,n⟩) of d3 (by rw[pl];exact lo) d0 f9 (λe f=>by rw[hc,J.mem_iff];exact L e f) ps ?_ ?_ gc
 ·intro j m;rcases dh.1 m with rfl|m
  ·exact⟨q,_,f6⟩
  obtain⟨ar,t1,T⟩:=cs j m;have cv:¬(M=j):=λk=>(by rw[<-k,an] at T;cases T);refine⟨ar,t1,?_⟩;rw[iF,bU,if_neg cv,bU,if_neg (λk=>ar k.symm),jY,if_neg (by simpa using ar),T];rfl
 intro e f;rcases ft e f with i|i|i
 ·exact .inl i
 ·obtain⟨j,m,F,N,ad⟩:=ds e i;obtain⟨ar,_⟩:=cs j m;have cv:¬(M=j):=λk=>(by rw[<-k,an] at N;cases N);have on:ao [(M,(⟨.c6,()⟩:aC)),(id,⟨d,n⟩)] j=none:=(by rw[bU,if_neg cv,bU,if_neg (λk=>ar k.symm)];rfl);exact .inr ⟨j,e2 _ m,by simp only[dA,on];exact ad⟩
 exact .inr ⟨M,ab,by rw[gt];exact gr.2 ⟨f,by simpa using i.1⟩⟩
theorem GB {r:Operand} (O:o.op=.call {callee:=.builtin .append,args:=#[b,r],argTypes:=#[G,G]}) (A:o.dst=some c) (F:C.ok c) (y:bt C st a.tmps w I rt fp) {next:Act->World->Prop} (N:∀m f p,Q m->f.defers=a.defers->e3 C m f.tmps p->next f p) {n:ag} (z:eY E.tt G=some n) (K:a2 n d=true) (S:d.size<=1300) (M:d.ik=true) {id:Nat} (H:aO st.g b=.ref id l) {e:ag} {j:e.den} (T:ao st.h id=some ⟨e,j⟩) (D:ao st.h c=none) {q i:List d.den} (J:c4 e j l (.osl d) q) (U:vC I C.B w d (a.eval r) i) (L:q.length+i.length<=e8) (R:Q ⟨(c,.app id l d i [c])::kill [id] [(id,l),(id,[])] st.g,(c,⟨.c6,()⟩)::(id,⟨e,j⟩)::del [id] st.h⟩):o.wp E.P a w next s:=by obtain⟨V,t,u,v,x,k⟩:=U;exact GC (S2:=[]) O A F y N z K S M H T D J ⟨V,t,u,v,x,by rw[k];exact .nil,by rw[k];simp⟩ ab L R
end
end
section
section
variable {E:dW} {C:dn} {st:aJ} {o:Oper} {Q:aJ->Prop}
theorem dm.app {d3:List (Nat×ag)} {W:TypeId} {A N:Operand} {t:Nat} (z:o.op=.call {callee:=.builtin .append,args:=#[A,N],argTypes:=#[W,W]}) (w:o.dst=some t) (x:C.ok t) (a:(yA E.tt d3 st t W (aO st.g A) (aO st.g N)).K Q):dm E C o st Q:=by
 rintro F J ⟨D,U,G,c⟩ next f2 y
 have r:=c.aO A;unfold yA at a;split at a
 ·exact a.elim
 rename_i V v;split at a
 ·rename_i id u;split at a
  case h_2=>exact a.elim
  rename_i e k i;cases b:(a2 V e&&Nat.ble e.size 1300) with
  |false=>rw[b] at a;exact a.elim
  |true=>
  rw[b] at a;simp only[bd] at b;obtain⟨l,d⟩:=b;have d:=eM d;simp only[cond_true] at a;rw[u] at r;generalize H:F.eval A=d1 at r;cases r with|ref M am=>
  rw[i] at M;cases M;obtain⟨aj,_,L⟩:=aP.eR.1 am;subst aj;subst L;obtain⟨I,T,ft⟩:=c.tree id _ i;obtain⟨av,Y,a4,_⟩:=(show aN (ba D C.B) J (.osl e) (U id) k (G id) from I);have cv:F.eval A=.slice av k.length Y:=(by rw[H];show(U id).headD undef=_;rw[a4];rfl);have ds:aN (ba D C.B) J (.osl e) [.slice av k.length Y] k (G id):=(by rw[<-a4];exact I);split at a
  ·rename_i m f7 d4;split at a
   case h_2=>exact a.elim
   rename_i d2 s R;split at a
   case isFalse=>exact a.elim
   rename_i Z;subst Z;cases P:Nat.beq id m with
   |true=>rw[P] at a;exact a.elim
   |false=>
   rw[P] at a;have d8:id≠m:=λZ=>(by rw[Z,pU] at P;cases P);obtain⟨_,h,a⟩:=a;have an:=c.aO N;rw[d4] at an;generalize q:F.eval N=gl at an;cases an with|ref cs d7=>
   rw[R] at cs;cases cs;obtain⟨aj,_,L⟩:=aP.eR.1 d7;subst aj;subst L;obtain⟨d0,fT,gi⟩:=c.tree m _ R;obtain⟨a0,a3,bl,_⟩:=(show aN (ba D C.B) J (.osl d2) (U m) s (G m) from d0);have d9:F.eval N=.slice a0 s.length a3:=(by rw[q];show(U m).headD undef=_;rw[bl];rfl);have fz:aN (ba D C.B) J (.osl d2) [.slice a0 s.length a3] s (G m):=(by rw[<-bl];exact d0);obtain⟨_,_,O,p,ce,d6,_⟩:=iJ.osl fz;exact dm.vF z w x c y v l d (S:=[id,m,t]) ab cv ds T (λn b=>⟨id,ab,_,i,b⟩) d9 p (d6 fT) (λn b=>⟨m,ab,_,R,ce n b⟩) (λn b d5=>c.dis id m _ _ i R d8 n b (ce n d5)) h a
  obtain⟨s,j,h,a⟩:=kl.BT a;obtain⟨ap,X,O,q,p,f⟩:=s5 c j;exact dm.vF z w x c y v l d (S:=[id,t]) ab cv ds T (λn b=>⟨id,ab,_,i,b⟩) q p (by rw[f];simp) (by rw[f];simp) (by rw[f];simp) h a
 ·rename_i id gf f8 u;split at a
  case h_2=>exact a.elim
  rename_i gt go i bs;split at a
  case h_2=>exact a.elim
  rename_i e f9;cases b:(a2 V e&&Nat.ble e.size 1300&&e.ik) with
  |false=>rw[b] at a;exact a.elim
  |true=>
  rw[b] at a;simp only[bd] at b;obtain⟨⟨l,d⟩,co⟩:=b;have d:=eM d;simp only[cond_true] at a;split at a
  ·rename_i s j;obtain⟨k,⟨ad,h⟩,a⟩:=a;exact GB z w x c y v l d co u i bs ad (s5 c (by rw[j];exact rfl)) h a
  ·rename_i gs hc f3 j;obtain⟨⟨k,fn⟩,⟨ad,el,h⟩,a⟩:=a;exact GB z w x c y v l d co u i bs ad (s5 c (by rw[j];exact⟨fn,el,rfl⟩)) h a
  exact a.elim
 ·rename_i id dl ci u;split at a
  case h_2=>exact a.elim
  rename_i e k i;cases b:(a2 V e&&Nat.ble e.size 1300) with
  |false=>rw[b] at a;exact a.elim
  |true=>
  rw[b] at a;simp only[bd] at b;obtain⟨l,d⟩:=b;have d:=eM d;simp only[cond_true] at a;rw[u] at r;obtain⟨I,T,ft⟩:=c.tree id _ i;generalize H:F.eval A=d1 at r;cases r with|kv=>(obtain⟨s,j,h,a⟩:=kl.BT a;obtain⟨ap,X,O,q,p,f⟩:=s5 c j;exact dm.vF z w x c y v l d (S:=[id,t]) ab (xs:=[]) (f1:=[]) H ⟨none,0,rfl,.inl ⟨rfl,rfl,rfl,rfl⟩⟩ ab ab q p (by rw[f];simp) (by rw[f];simp) ab (by simpa using h) (by simpa using a))|view M am em eq ex=>
  rename_i n ge gc Y;rw[i] at M;cases M;obtain⟨aj,_,L⟩:=aP.eR.1 am;cases aj;obtain⟨s,j,h,a⟩:=kl.BT a;obtain⟨ap,X,O,q,p,f⟩:=s5 c j;rw[L] at I;obtain⟨f0,ar,fp,fs⟩:=aa4 (show aN (ba D C.B) J (.osl e) _ k (G id) from I) T em eq ex;have f6:((k.take ci).drop dl).length=ci-dl:=(by obtain⟨f5,_⟩:=iJ.osl (show aN (ba D C.B) J (.osl e) _ k (G id) from I);simp;omega);exact dm.vF z w x c y v l d (S:=[id,t]) ab H ar fp (λn b=>⟨id,ab,_,i,fs n b⟩) q p (by rw[f];simp) (by rw[f];simp) (by rw[f];simp) h a
 ·rename_i u;split at a
  case h_2=>exact a.elim
  rename_i e f4;cases b:(a2 V e&&Nat.ble e.size 1300) with
  |false=>rw[b] at a;exact a.elim
  |true=>
  rw[b] at a;simp only[bd] at b;obtain⟨l,d⟩:=b;have d:=eM d;simp only[cond_true] at a;rw[u] at r;generalize H:F.eval A=d1 at r;cases r;obtain⟨s,j,h,a⟩:=kl.BT a;obtain⟨ap,X,O,q,p,f⟩:=s5 c j;exact dm.vF z w x c y v l d (S:=[t]) ab (xs:=[]) (f1:=[]) H ⟨none,0,rfl,.inl ⟨rfl,rfl,rfl,rfl⟩⟩ ab ab q p (by rw[f];simp) (by rw[f];simp) ab (by simpa using h) (by simpa using a)
 exact a.elim
end
end
section
def gP (E:dW) (C:dn) (B:Array Oper) (g:cY) (st:aJ) (Q:aJ->Prop):Prop:=
 ∀(a:Act) (e:World),e3 C st a.tmps e->∀c:Exit->Act->World->Prop,(∀d b f,Q d->b.defers=a.defers->e3 C d b.tmps f->c .normal b f)->wpOps E.P B c g a e
def i4 (B:Array Oper) (st:aJ) (d:Oper) (a:Bool):Prop:=
 match d.guard with
 |none=>a=true
 |some (c,e)=>match(B[c]?).bind (·.dst) with
  |some b=>match gt st.g b with
   |.val .bool f=>(f==e)=a
   |.bP (.tuple _)=>a=false
   |_=>False
  |none=>False
section
variable {E:dW} {C:dn} {st:aJ} {B:Array Oper} {Q:aJ->Prop}
theorem i4.ok {c:Act} (j:bt C st c.tmps e k p q) {m:Oper} {i:Bool} (b:i4 B st m i):Region.wanted m (yielded B c.tmps)=i:=by
 unfold i4 at b;unfold Region.wanted;split at b
 ·rename_i g;rw[g];exact b.symm
 rename_i v u g;rw[g];split at b
 ·rename_i d l;split at b
  ·rename_i n h;have:=j.tmp d;rw[h] at this;generalize a:c.tmps.getD d undef=t at this;cases this with|val r=>
   obtain⟨_,rfl⟩:=r;have o:c.tmps[d]?=some (.bool n):=by
    rw[x9] at a;cases f:c.tmps[d]? with
    |none=>rw[f] at a;cases a
    |some s=>rw[f] at a;simp only[pW] at a;rw[a];rfl
   simp only[yielded,l,aM,o];rw[<-b];cases n<;>cases u<;>rfl
  ·rename_i w h;have:=j.tmp d;rw[h] at this;generalize a:c.tmps.getD d undef=t at this;cases this;subst b;simp only[yielded,l,aM];rw[x9] at a;cases f:c.tmps[d]? with
   |none=>rfl
   |some s=>rw[f] at a;simp only[pW] at a;rw[a];rfl
  exact b.elim
 exact b.elim
theorem gP.nil (b:Q st):gP E C B [] st Q:=λa e c _ d=>d st a e b rfl c
theorem gP.op {a:Oper} (p:B[c]?=some a) (t:i4 B st a true) (i:dm E C a st (λd=>gP E C B n d Q)):gP E C B (c::n) st Q:=by intro f v b e q;obtain⟨y,A,z,k⟩:=id b;simp only[wpOps,p];rw[t.ok k,if_pos rfl];exact .inl (i f v b _ _ (λd g w o l r=>o g w r e (λu h x j m s=>q u h x j (m.trans l) s)))
theorem gP.skip {a:Oper} (q:B[M]?=some a) (m:a.dst=some c) (p:C.ok c) (t:i4 B st a false) (j:gP E C B n ⟨(c,.bP undef)::st.g,st.h⟩ Q):gP E C B (M::n) st Q:=by intro y w l e r;obtain⟨d,u,i,b⟩:=id l;simp only[wpOps,q];rw[t.ok b,if_neg ab,m];exact j _ w ⟨d,u,i,b.put p (.bP undef)⟩ e (λv f x k o s=>r v f x k o s)
theorem e3.vM {b:cQ} {c:World} {st a:aJ} (f:e3 C st b c) (j:mW a.g st) (k:mX a.h st) (l:kN a.g a.h=true):e3 C a b c:=by obtain⟨d,m,e,i⟩:=f;exact⟨d,m,e,i.vM j k (kN.get l)⟩
def J (E:dW) (C:dn) (e:Code) (st:aJ) (Q:Exit->aJ->Prop):Prop:=
 ∀(a:Act) (d:World),e3 C st a.tmps d->a.defers=[]->e.wp E.P (λf b g=>∃c,Q f c/\e3 C c b.tmps g/\b.defers=[]) a d
variable {A:Exit->aJ->Prop}
theorem J.aa6 {a:Code} (f:mW z.g st) (i:mX z.h st) (j:kN z.g z.h=true) (c:J E C a z A):J E C a st A:=λb k d e=>c b k (d.vM f i j) e
theorem J.region {id:Nat} (c:gP E C B (List.range B.size) st (λa=>A .normal a)):J E C (.region id B false) st A:=
 λb i d e=>wp_region (c b i d _ (λa _a' _w' g f h=>⟨a,g,h,f.trans e⟩))
theorem J.skip (a:A .normal st):J E C .skip st A:=λ_ _ b c=>wp_skip ⟨st,a,b,c⟩
theorem J.exit {id:Nat} (a:A (.exit id) st):J E C (.exit id) st A:=λ_ _ b c=>wp_exit ⟨st,a,b,c⟩
theorem J.ret (a:A .ret st):J E C .ret st A:=λ_ _ b c=>wp_ret ⟨st,a,b,c⟩
def ZM (E:dW) (C:dn) (b:Code) (A:Exit->aJ->Prop):Exit->aJ->Prop
 |.normal,a=>J E C b a A
 |e,a=>A e a
theorem J.seq {d e:Code} (i:J E C d st (ZM E C e A)):J E C (.seq d e) st A:=λf m j k=>by
 refine wp_seq (wp_mono (i f m j k) ?_);rintro h g n ⟨l,a,b,c⟩;cases h with
 |normal=>exact a g n b c
 |_=>exact⟨l,a,b,c⟩
theorem J.cond {a:Operand} {l m:Code} {c:Bool} (n:aO st.g a=.val .bool c) (p:c=true->J E C l st A) (o:c=false->J E C m st A):J E C (.cond a l m) st A:=by
 rintro b k ⟨f,j,h,e⟩ i;have:=e.aO a;rw[n] at this;generalize q:b.eval a=s at this;cases this with|val r=>
 obtain⟨_,rfl⟩:=r;exact wp_cond_split q (λd=>p d b k ⟨f,j,h,e⟩ i) (λd=>o d b k ⟨f,j,h,e⟩ i)
def CB (id:Nat) (A:Exit->aJ->Prop):Exit->aJ->Prop
 |.exit b,a=>match Nat.beq b id with
  |true=>A .normal a
  |false=>A (.exit b) a
 |e,a=>A e a
theorem J.block {id:Nat} {g:Code} (j:J E C g st (CB id A)):J E C (.block id g) st A:=λh n k m=>by
 refine wp_block (wp_mono (j h n k m) ?_);rintro i o p ⟨f,a,b,c⟩;cases i with
 |exit e=>
  simp only[Exit.inBlock];simp only[CB] at a;by_cases d:e=id
  ·subst d;rw[pU] at a;rw[if_pos rfl];exact⟨f,a,b,c⟩
  have:Nat.beq e id=false:=by
   cases l:Nat.beq e id
   ·rfl
   exact absurd (er l) d
  rw[this] at a;rw[if_neg d];exact⟨f,a,b,c⟩
 |_=>exact⟨f,a,b,c⟩
def h4 {a c:Type} (b:a->Option (a⊕c)):Nat->a->Option c
 |0,_=>none
 |n+1,e=>match b e with
  |none=>none
  |some (.inl f)=>h4 b n f
  |some (.inr d)=>some d
open Classical in
def loop {σ ρ:Type} (a:σ->Option (σ⊕ρ)) (d:σ):Option ρ:=
 if h:∃c,∃b,h4 a b d=some c then some h.choose else none
theorem D4 {e g:Type} {f:e->Option (e⊕g)}:∀{n b:Nat} {d:e} {c:g},n<=b->h4 f n d=some c->h4 f b d=some c
 |0,_,_,_,_,a=>by cases a
 |n+1,0,_,_,a,_=>by omega
 |n+1,b+1,d,c,h,a=>by
  simp only[h4] at a|-;split at a
  ·cases a
  ·exact D4 U a
  exact a
theorem xc {j:Type} {e:y->Option (y⊕j)} {g:y} {b:j}:loop e g=some b↔∃a,h4 e a g=some b:=by
 unfold loop;constructor
 ·intro f;split at f
  ·rename_i c;obtain⟨a,d⟩:=c.choose_spec;exact⟨a,by rw[d];exact f⟩
  cases f
 rintro⟨a,d⟩;have c:∃b,∃a,h4 e a g=some b:=⟨b,a,d⟩;rw[dif_pos c];obtain⟨i,l⟩:=c.choose_spec;have k:=D4 (Nat.le_max_left a i) d;have h:=D4 (Nat.le_max_right a i) l;rw[k] at h;exact h.symm
theorem U6 {j:Type} (d:y->Option (y⊕j)) (e:y):loop d e=match d e with
 |none=>none
 |some (.inl g)=>loop d g
 |some (.inr f)=>some f:=by
 apply Option.ext;intro f;rw[xc];cases c:d e with
 |none=>
  simp only[reduceCtorEq,iff_false];rintro⟨b,a⟩;cases b with
  |zero=>cases a
  |succ b=>simp only[h4,c] at a;cases a
 |some i=>
  cases i with
  |inl g=>
   simp only;rw[xc];constructor
   ·rintro⟨b,a⟩;cases b with
    |zero=>cases a
    |succ b=>simp only[h4,c] at a;exact⟨b,a⟩
   rintro⟨b,a⟩;exact⟨b+1,by simp only[h4,c];exact a⟩
  |inr k=>
   simp only;constructor
   ·rintro⟨b,a⟩;cases b with
    |zero=>cases a
    |succ b=>simp only[h4,c] at a;exact a
   intro h;exact⟨1,by simp only[h4,c];exact h⟩
theorem J.loop {σ ρ L:Type} {c:Code} (jm:σ->aJ) {z:σ->Option (σ⊕ρ)} {s:σ} {w:ρ->Option L} {K:L} (O:(loop z s).bind w=some K) (T:mW (jm s).g st) (U:mX (jm s).h st) (V:kN (jm s).g (jm s).h=true) (S:∀e l,z e=some l->(match l with|.inl _=>True|.inr I=>w I=some K)->J E C c (jm e) (λd t=>match l with
  |.inl m=>d=.normal/\mW (jm m).g t/\mX (jm m).h t/\kN (jm m).g (jm m).h=true
  |.inr _=>(d=.normal->False)/\A d t)):J E C (.loop c) st A:=by
 obtain⟨I,Z,W⟩:=bZ.1 O;obtain⟨r,a⟩:=xc.1 Z;have am:∀(r:Nat) (e:σ) (f:Act) (n:World),h4 z r e=some I->e3 C (jm e) f.tmps n->f.defers=[]->∀(j:Frame) (w:List Item) (k:List Frame),
  ∃d v D,(∃t,A d t/\e3 C t v.tmps D/\v.defers=[])/\Arrives E.P (lone (j.at f (.code c::.inLoop c::w)) k n) j w k d v D:=by
  intro r
  induction r with
  |zero=>intro e f n a;cases a
  |succ r ad=>
   intro e f n a F G j B k;simp only[h4] at a;cases H:z e with
   |none=>rw[H] at a;cases a
   |some l=>
    rw[H] at a;have R:=S e l H (by
     cases l with
     |inl m=>trivial
     |inr av=>simp only at a;cases a;exact W)
    obtain⟨d,o,u,⟨y,b,q,p⟩,i⟩:=R f n F G j (.inLoop c::B) k;cases l with
    |inl m=>
     simp only at a b;obtain⟨rfl,ar,an,ap⟩:=b;obtain⟨N,M,a0,Y,Q⟩:=ad m o u a (q.vM ar an ap) p j B k;exact⟨N,M,a0,Y,.of_steps (Steps.trans i (.one step_inLoop)) Q⟩
    |inr av=>
     obtain⟨X,b⟩:=b;cases d with
     |normal=>exact(X rfl).elim
     |exit id=>exact⟨_,o,u,⟨y,b,q,p⟩,.pass (x:=.inLoop c) rfl (λ_ _=>.inl ab) i⟩
     |goto a4=>exact⟨_,o,u,⟨y,b,q,p⟩,.pass (x:=.inLoop c) rfl (λ_ _=>.inl ab) i⟩
     |ret=>exact⟨_,o,u,⟨y,b,q,p⟩,.pass (x:=.inLoop c) rfl (λ_ _=>.inl ab) i⟩
     |panic a3=>exact⟨_,o,u,⟨y,b,q,p⟩,.pass (x:=.inLoop c) rfl (λ_ _=>.inl ab) i⟩
     |outgrown=>exact⟨_,o,u,⟨y,b,q,p⟩,.pass (x:=.inLoop c) rfl (λ_ _=>.inl ab) i⟩
 refine J.aa6 T U V (λf n F G j B k=>?_);obtain⟨d,v,D,b,i⟩:=am r s f n a F G j B k;exact⟨d,v,D,b,.of_steps (.one step_loop) i⟩
end
end
def qS:c5->c5->Bool
 |.bA,_=>true
 |.dN,.dN=>true
 |.dN,.bA=>false
def uw:c5->Bool
 |.dN=>true
 |.bA=>false
def c7:ag->ag->Bool
 |.int i,.int j=>if i=j then true else false
 |.bool,.bool|.str,.str|.nil,.nil=>true
 |.a7 c a,.a7 d b=>qS c d&&c7 a b
 |.osl a,.a7 c b=>uw c&&c7 a b
 |.ptr c a,.ptr d b=>qS c d&&c7 a b
 |.st a,.st b=>c7 a b
 |.pr e f,.pr g h=>c7 e g&&c7 f h
 |.mp a,.dC c b=>uw c&&c7 a b
 |.dC c a,.dC d b=>qS c d&&c7 a b
 |_,_=>false
theorem qS.ok (e:∀c,k c->C c) {b:c5} (d:qS P b=true) (a:ba V k P c):ba V C b c:=by
 cases P<;>cases b
 ·exact a
 ·exact .inl a
 ·cases d
 exact a.imp id (e c)
theorem uw.ok (a:uw P=true):P=.dN:=by cases P;cases a;rfl
theorem c7.den:∀{d υ:ag},c7 d υ=true->d.den=υ.den:=by
 intro d
 induction d with
 |a7 f c b=>
  intro υ a;cases υ<;>simp only[c7] at a<;>try (cases a;done)
  simp only[bd] at a;exact congrArg List (b a.2)
 |ptr f c b=>
  intro υ a;cases υ<;>simp only[c7] at a<;>try (cases a;done)
  simp only[bd] at a;exact congrArg Option (b a.2)
 |osl c b=>
  intro υ a;cases υ<;>simp only[c7] at a<;>try (cases a;done)
  simp only[bd] at a;exact congrArg List (b a.2)
 |st c b=>
  intro υ a;cases υ with
  |st k=>exact b (υ:=k) (by simpa only[c7] using a)
  |_=>simp only[c7] at a;cases a
 |pr g h i j=>
  intro υ a;cases υ<;>simp only[c7] at a<;>try (cases a;done)
  simp only[bd] at a;show(g.den×h.den)=_;rw[i a.1,j a.2]
 |int l=>intro υ a;cases υ<;>simp only[c7] at a<;>first|rfl|cases a
 |bool=>intro υ a;cases υ<;>simp only[c7] at a<;>first|rfl|cases a
 |str=>intro υ a;cases υ<;>simp only[c7] at a<;>first|rfl|cases a
 |nil=>intro υ a;cases υ<;>simp only[c7] at a<;>first|rfl|cases a
 |optr c _=>intro υ a;cases υ<;>simp only[c7] at a<;>cases a
 |c6=>intro υ a;cases υ<;>simp only[c7] at a<;>cases a
 |mp c b=>
  intro υ a;cases υ<;>simp only[c7] at a<;>try (cases a;done)
  simp only[bd] at a;exact congrArg (λe=>Option (List (Int×e)×Nat)) (b a.2)
 |dC f c b=>
  intro υ a;cases υ<;>simp only[c7] at a<;>try (cases a;done)
  simp only[bd] at a;exact congrArg (λe=>Option (List (Int×e)×Nat)) (b a.2)
theorem c7.size:∀{c b:ag},c7 c b=true->c.size=b.size:=by
 intro c
 induction c with
 |st i d=>intro b a;cases b<;>simp only[c7] at a<;>first|(simp only[ag.size];exact d a)|cases a
 |pr g h e f=>
  intro b a;cases b<;>simp only[c7] at a<;>try (cases a;done)
  simp only[bd] at a;simp only[ag.size];rw[e a.1,f a.2]
 |_=>intro b a;cases b<;>simp only[c7] at a<;>first|rfl|cases a
theorem Ik (l:y=E) {e:Option (List (Int×y)×Nat)} {i:Option (List (Int×E)×Nat)} (m:HEq e i):(e=none/\i=none)\/∃j c k,e=some (j,c)/\i=some (k,c)/\∀b:List (Int×Nat×y),iM b j c->∃f:List (Int×Nat×E),iM f k c/\f.length=b.length/\∀(h:Nat) (d:Int×Nat×E),f[h]?=some d->∃a:Int×Nat×y,b[h]?=some a/\a.1=d.1/\a.2.1=d.2.1/\HEq a.2.2 d.2.2:=by
 subst l;cases m;cases e with
 |none=>exact .inl ⟨rfl,rfl⟩
 |some g=>exact .inr ⟨g.1,g.2,g.1,rfl,rfl,λb n=>⟨b,n,rfl,λh a o=>⟨a,o,rfl,rfl,HEq.rfl⟩⟩⟩
theorem c7.bH {a b:ag} (d:c7 a b=true) (c:cS):bH b c=i9.bH a c:=by cases a<;>cases b<;>simp only[c7] at d<;>first|rfl|cases d
theorem Ij (f:E=y) {c:List E} {d:List y} (g:HEq c d):d.length=c.length/\∀(b:Nat) (a:y),d[b]?=some a->∃e,c[b]?=some e/\HEq e a:=by subst f;cases g;exact⟨rfl,λb a h=>⟨a,h,HEq.rfl⟩⟩
theorem Uf (e:y=E) {b:Option y} {c:Option E} (f:HEq b c):(b=none/\c=none)\/∃a d,b=some a/\c=some d/\HEq a d:=by
 subst e;cases f;cases b with
 |none=>exact .inl ⟨rfl,rfl⟩
 |some a=>exact .inr ⟨a,a,rfl,rfl,HEq.rfl⟩
theorem Ug {c d:Type} (e:y=c) (f:E=d) {a:y×E} {b:c×d} (g:HEq a b):HEq a.1 b.1/\HEq a.2 b.2:=by subst e;subst f;cases g;exact⟨HEq.rfl,HEq.rfl⟩
theorem aN.dN (L:∀c,C c->k c):∀{B υ:ag} {f:cS} {x:B.den} {y:υ.den} {g:cY},c7 B υ=true->HEq x y->aN (ba V C) e B f x g->(∀c∈g,k c)->aN (ba V k) e υ f y []:=by
 intro B
 induction B with
 |int d4=>
  intro υ f x y g a d b _;cases υ<;>simp only[c7] at a<;>try (cases a;done)
  split at a
  ·rename_i ap;subst ap;cases d;exact⟨rfl,b.2⟩
  cases a
 |bool=>intro υ f x y g a d b _;cases υ<;>simp only[c7] at a<;>first|(cases a;done)|(cases d;exact⟨rfl,b.2⟩)
 |str=>intro υ f x y g a d b _;cases υ<;>simp only[c7] at a<;>first|(cases a;done)|(cases d;exact⟨rfl,b.2⟩)
 |nil=>intro υ f x y g a d b _;cases υ<;>simp only[c7] at a<;>first|(cases a;done)|(cases d;exact⟨rfl,b.2⟩)
 |optr w _=>intro υ f x y g a;cases υ<;>simp only[c7] at a<;>cases a
 |c6=>intro υ f x y g a;cases υ<;>simp only[c7] at a<;>cases a
 |mp w m=>
  intro υ f x y g a d b i;cases υ<;>simp only[c7] at a<;>try (cases a;done)
  simp only[bd] at a;obtain rfl:=uw.ok a.1;rcases Ik (c7.den a.2) d with⟨rfl,rfl⟩|⟨co,D,cs,rfl,rfl,l⟩
  ·exact⟨rfl,b.2⟩
  obtain⟨c,I,F,ar,u,M,v,A,S⟩:=b;obtain⟨G,N,j,l⟩:=l F M;refine⟨c,I,G,ar,rfl,N,.inr (i c (by rw[u];simp)),v,by rw[j];exact A,λh R O=>?_⟩;obtain⟨Q,n,p,J,K⟩:=l h R O;obtain⟨o,q,r,s⟩:=S h Q n;exact⟨o,by rw[<-c7.size a.2];exact q,by rw[r,c7.bH a.2,p,J],m a.2 K s ab⟩
 |dC Z w m=>
  intro υ f x y g a d b i;cases υ<;>simp only[c7] at a<;>try (cases a;done)
  simp only[bd] at a;rcases Ik (c7.den a.2) d with⟨rfl,rfl⟩|⟨co,D,cs,rfl,rfl,l⟩
  ·exact⟨rfl,b.2⟩
  obtain⟨c,I,F,ar,u,M,z,v,A,S⟩:=b;obtain⟨G,N,j,l⟩:=l F M;refine⟨c,I,G,ar,rfl,N,qS.ok L a.1 z,v,by rw[j];exact A,λh R O=>?_⟩;obtain⟨Q,n,p,J,K⟩:=l h R O;obtain⟨o,q,r,s⟩:=S h Q n;exact⟨o,by rw[<-c7.size a.2];exact q,by rw[r,c7.bH a.2,p,J],m a.2 K s ab⟩
 |st w m=>
  intro υ f x y g a d b i;cases υ with
  |st E=>exact m (υ:=E) (x:=x) (y:=y) (by simpa only[c7] using a) d b i
  |_=>simp only[c7] at a;cases a
 |pr am c ce ci=>
  intro υ f x y g a d b i;cases υ<;>simp only[c7] at a<;>try (cases a;done)
  rename_i D d1;simp only[bd] at a;obtain⟨d2,f2,rfl,n,p⟩:=b;obtain⟨aj,av⟩:=Ug (c7.den a.1) (c7.den a.2) d;have Y:=c7.size a.1;exact⟨[],[],rfl,by rw[<-Y];exact ce a.1 aj n (λc z=>i c (by simp[z])),by rw[<-Y];exact ci a.2 av p (λc z=>i c (by simp[z]))⟩
 |a7 Z w m=>
  intro υ f x y g a d b i;obtain⟨rfl,X,H,rfl,ar,u,v⟩:=b;cases υ<;>simp only[c7] at a<;>try (cases a;done)
  rename_i ad E;simp only[bd] at a;obtain⟨j,l⟩:=Ij (c7.den a.2) d;refine⟨rfl,X,H,by rw[j],by rw[j];exact ar,u,?_⟩;rcases v with rfl|⟨c,t,rfl,a3,bs⟩
  ·left;exact lv (by rw[j];rfl)
  right;refine⟨c,t,rfl,qS.ok L a.1 a3,λh T P=>?_⟩;obtain⟨W,n,p⟩:=l h T P;obtain⟨o,q,r,s⟩:=bs h W n;rw[<-c7.size a.2];exact⟨o,q,r,m a.2 p s ab⟩
 |osl w m=>
  intro υ f x y g a d b i;cases υ<;>simp only[c7] at a<;>try (cases a;done)
  rename_i ad E;simp only[bd] at a;obtain rfl:=uw.ok a.1;obtain⟨X,H,rfl,b⟩:=b;obtain⟨j,l⟩:=Ij (c7.den a.2) d;rcases b with⟨rfl,rfl,rfl,rfl⟩|⟨c,t,a0,rfl,rfl,ar,u,v,A⟩
  ·obtain rfl:y=[]:=lv (by rw[j];rfl);exact⟨rfl,none,0,rfl,a8 _,λ_=>rfl,.inl rfl⟩
  refine⟨rfl,some ⟨c,t,none⟩,H,by rw[j],by rw[j];exact u,(λa=>by cases a),.inr ⟨c,t,rfl,.inr (i c ab),λh T P=>?_⟩⟩;obtain⟨W,n,p⟩:=l h T P;have d3:h<x.length:=(eb.1 n).1;obtain⟨o,q,r,s⟩:=A h W (a0[h]'(by omega)) n ab
  rw[<-c7.size a.2];exact⟨o,q,r,m a.2 p s (λD bl=>i D (e2 _ (iv.2 ⟨_,bQ U,bl⟩)))⟩
 |ptr Z w m=>
  intro υ f x y g a d b i;obtain⟨rfl,b⟩:=b;cases υ<;>simp only[c7] at a<;>try (cases a;done)
  rename_i ad E;simp only[bd] at a;refine⟨rfl,?_⟩;rcases Uf (c7.den a.2) d with⟨rfl,rfl⟩|⟨am,c,rfl,rfl,a4⟩
  ·exact b
  obtain⟨an,t,o,cv,dl,ds,aL,d0⟩:=b;exact⟨an,t,o,cv,qS.ok L a.1 dl,by rw[<-c7.size a.2];exact ds,aL,m a.2 a4 d0 ab⟩
inductive l4:(τ:ag)->τ.den->(υ:ag)->υ.den->Prop
 |same {τ υ:ag} {x:τ.den} {y:υ.den} (h:c7 τ υ=true) (Ue:HEq x y):l4 τ x υ y
 |ptr {t u:ag} {x:t.den} {y:u.den} (h:c7 t u=true) (Ue:HEq x y):l4 (.optr t) x (.ptr .dN u) (some y)
theorem l4.rep {B:Nat->Prop} (g:∀a,B a->k a) {j:d.den} {l:o.den} (b:l4 d j o l) (h:aN (ba C B) e d i j n) (f:∀a∈n,k a):aN (ba C k) e o i l []:=by
 cases b with
 |same b c=>exact h.dN g b c f
 |ptr b c=>
  obtain⟨a,r,u,p,rfl,rfl,ar,s,v,t⟩:=h;exact⟨rfl,a,r,p,rfl,.inr (f a ab),by rw[<-c7.size b];exact ar,s,t.dN g b c (λm q=>f m (by simp[q]))⟩
theorem l4.st {c:d.den} {e:o.den} (a:l4 d c o e) (b:cS):bH d b=bH o b:=by
 cases a with
 |same a _=>cases d<;>cases o<;>first|rfl|(simp only[c7] at a;cases a;done)
 |ptr a _=>rfl
end Go.i9
end
