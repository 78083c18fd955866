import Derived.Test.YtoeokgpdmagjoaaGreatT8
/-
A part of the proof: steps of the walk and plain laws.
-/
set_option linter.unusedVariables false
namespace Go.Proofs.Tryz
open Go Go.RowKit Go.Proofs.VC
variable {M:List Nat} {w0 w:World} {L:List En}
theorem Sx.slI {b t:Nat} {f:Nat×Nat} {xs:List Int} (H:Sx M w0 w (.ob b (.cells (i64s xs).toArray t f)::L)):Sl w (some (A0 b)) (i64s xs):=Sx.sl H 0 rfl
theorem T_block_loader_states (a b d e:Int) (log:Nat) (p:Option Addr) (n k:Nat) (l:List Int) (hI:∀v∈l,I64 v) (w:World) (hs:SlI w p n l) (h1:1≤l.length) (h2:l.length≤4096) (hl:7≤log∧log≤12):
 Calls prog n_block_loader_states #[.agg #[.int .i64 a,.int .i64 b,.int .i64 (log:Int),.int .i64 d,.int .u64 e,.slice p n k]] w fun x w'=>x= .returned (strE (loadStates l log) 0)∧Fr [] w w':=by
 have hok:∀q∈l.map splitN,OkPt q:=by
  intro q hq
  obtain⟨v,hv,rfl⟩:=List.mem_map.1 hq
  exact splitN_ok (hI v hv)
 have hpl:(l.map splitN).length=l.length:=List.length_map _
 have hne:l.map splitN≠ []:=by intro h;rw [h]at hpl;simp at hpl;omega
 obtain⟨hm,hcls⟩:=counts_ok hok hne hl
 have hsum0:0<(histN (l.map splitN)).sum:=by
  obtain⟨p0,hp0⟩:=List.exists_mem_of_ne_nil _ hne
  have hc0:=hist_pos hp0 (hok p0 hp0)
  have:(histN (l.map splitN)).getD p0.1 0≤(histN (l.map splitN)).sum:=by
   rw [List.getD_eq_getElem?_getD]
   cases hh:(histN (l.map splitN))[p0.1]? with
   |none=>simp
   |some v=>exact mem_le_sum (List.mem_of_getElem? hh)
  omega
 refine S_block_loader_states ?_
 unfold F_block_loader_states
 refine(Sx.start [] w).alloc fun w1 b1 hf1 H=>?_
 simp only [A0_add]
 refine⟨_,_,_,H.cell 0 rfl rfl,?_⟩
 refine(T_hist_Parts p n k l hI w1 (hs.fr0 hf1) (by omega)).mono ?_
 rintro x w2 ⟨a2,c2,rfl,hOw,hf2⟩
 have H:=hOw.push H hf2
 refine⟨_,_,_,rfl,H.drew fun w3 _ H=>⟨_,H.cell 1 rfl rfl,?_⟩⟩
 refine(T_hist_Of a2 l.length c2 (l.map splitN) (fun q hq=>by have:=(okPt_lt (hok q hq)).1;omega) w3 hpl.symm (H.slw 0 rfl) (by omega)).mono ?_
 rintro x w4 ⟨b13,rfl,Hc⟩
 have hf4:=Hc.fr
 have H:=H.join Hc
 have hcount:∀y∈histN (l.map splitN),y≤16777216:=by
  intro y hy
  simp only [histN,List.mem_map]at hy
  obtain⟨c,_,rfl⟩:=hy
  have:=List.countP_le_length (p:=fun q:Pt=>q.1==c) (l:=l.map splitN)
  omega
 refine⟨_,_,_,rfl,⟨hf4.cell0,trivial⟩,?_⟩
 refine(T_norm_Of (some (A0 b13)) 65 65 (histN (l.map splitN)) log w4 ⟨by rw [nats_len,histN_len],H.sl 0 rfl⟩ (histN_len _) hcount (by have:=hist_sum (l.map splitN);omega) hsum0 hl).mono ?_
 rintro x w5 ⟨b17,rfl,Hc⟩
 have H:=H.join Hc
 refine⟨_,_,_,_,rfl,trivial,bif_f rfl ?_⟩
 have e1:normN (histN (l.map splitN)) log=countsN (l.map splitN) log:=rfl
 rw [e1]at H
 obtain⟨_,h65,hall,_⟩:=mayN_facts hm
 have h12:2^log≤2^12:=Nat.pow_le_pow_right (by decide) hl.2
 have e12:(2:Nat)^12=4096:=by decide
 refine⟨_,H.cell 3 rfl rfl,?_⟩
 refine(T_states_Put a2 l.length c2 (l.map splitN) (some (A0 b17)) 65 65 (countsN (l.map splitN) log) log w5 hpl.symm (H.slw 2 rfl) (by omega) (by omega) (fun q hq=>⟨hok q hq,hcls q hq⟩) ⟨by rw [nats_len,h65],Sx.slI H⟩ hm).mono ?_
 rintro x w6 ⟨rfl,hf6⟩
 have H:=H.call0 hf6
 have hsl:=statesB_len hm (ps:=l.map splitN) (by omega) fun q hq=>⟨hok q hq,hcls q hq⟩
 have hnl:(normB (countsN (l.map splitN) log)).length≤6*65:=by
  have:=normBf_len (countsN (l.map splitN) log).length (countsN (l.map splitN) log) (fun x hx=>by have:=hall x hx;omega) (by omega)
  rw [h65]at this
  rw [normB,h65];exact this
 have e8:U8 (log:Int)=(((UInt8.ofNat log).toNat:Nat):Int):=by rw [U8_nat,toNat_ofNat8 (by omega),Nat.mod_eq_of_lt (by omega)]
 have hTn:∀w,Sl w (some (A0 b17)) (i64s (nats (countsN (l.map splitN) log)))→Calls prog n_norm_Put #[.slice (some (A0 b17)) 65 65] w fun e w'=>e= .returned (.string (S (normB (countsN (l.map splitN) log))))∧Fr [] w w':=fun w hb=>
  T_norm_Put _ _ _ _ w ⟨by rw [nats_len,h65],hb⟩ (fun x hx=>by have:=hall x hx;omega) (by omega)
 generalize hS:statesB (countsN (l.map splitN) log) log (l.map splitN)=sb at*
 generalize hN:normB (countsN (l.map splitN) log)=nbs at*
 have hload:loadStates l log= [UInt8.ofNat log]++nbs++sb:=by unfold loadStates;rw [hN,hS]
 rw [hload]
 have hz:(S [UInt8.ofNat log]).size+(S nbs).size≤strMax∧(S [UInt8.ofNat log]++S nbs).size+(S sb).size≤strMax:=by
  rw [S_append,S_size,S_size,S_size,S_size,List.length_append,List.length_singleton];simp only [strMax];omega
 have hfin:∀w',Fr [] w w'→(Ending.returned (.tuple #[.string ((S [UInt8.ofNat log]++S nbs)++S sb),.int .i64 0])= .returned (strE ([UInt8.ofNat log]++nbs++sb) 0)∧Fr [] w w'):=fun w' hf=>⟨by rw [S_append,S_append];rfl,hf⟩
 refine⟨_,_,rfl,Sx.drew H fun w7 _ H=>⟨_,H.cell 3 rfl rfl,?_,?_⟩⟩
 all_goals rw [e8]
 · refine Sx.alloc H fun w8 b36 hf H=>⟨⟨fun h=>hf.cell0 h,trivial⟩,?_,?_⟩
   · refine b2s (l:= [UInt8.ofNat log]) (Sx.sl H 0 rfl) rfl ⟨⟨fun h=>h,trivial⟩,(hTn w8 (Sx.slI (Sx.tail H))).mono ?_⟩
     rintro x w9 ⟨rfl,hf9⟩
     exact⟨_,rfl,⟨fun h=>hf9.cell0 h,trivial⟩,hz.1,hz.2,hfin w9 (H.fr.trans hf9)⟩
   · refine(hTn w8 (Sx.slI (Sx.tail H))).mono ?_
     rintro x w9 ⟨rfl,hf9⟩
     have H:=H.call0 hf9
     exact⟨_,rfl,⟨fun h=>hf9.cell0 h,trivial⟩,b2s (l:= [UInt8.ofNat log]) (Sx.sl H 0 rfl) rfl ⟨⟨fun h=>h,trivial⟩,hz.1,hz.2,hfin w9 H.fr⟩⟩
 · refine(hTn w7 (Sx.slI H)).mono ?_
   rintro x w9 ⟨rfl,hf9⟩
   have H:=H.call0 hf9
   refine⟨_,rfl,⟨fun h=>hf9.cell0 h,trivial⟩,Sx.alloc H fun w8 b36 hf H=>⟨⟨fun h=>hf.cell0 h,trivial⟩,?_⟩⟩
   exact b2s (l:= [UInt8.ofNat log]) (Sx.sl H 0 rfl) rfl ⟨⟨fun h=>h,trivial⟩,hz.1,hz.2,hfin w8 H.fr⟩
theorem getNorm_may {t:List UInt8} {l:List Nat} {u log:Nat} (h:getNorm t log= .ok (l,u)):mayN l log=true:=by
 unfold getNorm at h
 split at h
 · split at h
   · cases h
   · split at h
     · next hh=>
       cases h
       simp only [Bool.and_eq_true]at hh
       exact hh.1
     · cases h
 · cases h
theorem normR_err:∀(f:Nat) (acc:List Nat) (t:List UInt8) (u:Nat) {e:Nat},normR f acc t u= .error e→e≠0
 |0,acc,t,u,e,h=>by rw [normR]at h;cases h
 |f+1,acc,t,u,e,h=>by
  rw [normR]at h
  split at h
  · cases h
  split at h
  · next h1=>cases h;exact h1
  split at h
  · split at h
    · next h1=>cases h;exact h1
    split at h
    · cases h;decide
    · exact normR_err f _ _ _ h
  · exact normR_err f _ _ _ h
theorem getNorm_err {t:List UInt8} {log e:Nat} (h:getNorm t log= .error e):e≠0:=by
 unfold getNorm at h
 split at h
 · split at h
   · next hh=>cases h;exact normR_err _ _ _ _ hh
   · split at h
     · cases h
     · cases h;decide
 · cases h;decide
theorem backsS_len (T:List Ce) (s1 s2:List UInt8):∀(n k1 k2 st:Nat) {r:List Pt×Nat×Nat×Nat},backsS T s1 s2 n k1 k2 st=some r→r.1.length=n
 |0,k1,k2,st,r,h=>by
  rw [backsS]at h
  obtain rfl:=Option.some.inj h
  rfl
 |n+1,k1,k2,st,r,h=>by
  rw [backsS]at h
  split at h
  · cases h
  · obtain⟨x,hx,rfl⟩:=Option.map_eq_some_iff.1 h
    simp [backsS_len T s1 s2 n _ _ _ hx]
theorem statesR_len {l:List Nat} {log n:Nat} {s:List UInt8} {ps:List Pt} (h:statesR l log n s=some ps):ps.length=n:=by
 unfold statesR at h
 split at h
 · cases h
 · split at h
   · cases h
   · next hb=>
     split at h
     · have:=backsS_len _ _ _ _ _ _ _ hb
       cases h
       exact this
     · cases h
theorem T_block_unloader_states (s:List UInt8) (N:Nat) (w:World) (hs:s.length≤140737488355328) (hN:N≤4096):Calls prog n_block_unloader_states #[.agg #[.string (S s),.int .i64 (N:Int)]] w
 fun e w'=>∃v,e= .returned v∧SlOk w' v (unStates N s)∧Fr [] w w':=by
 refine S_block_unloader_states ?_
 unfold F_block_unloader_states
 refine(Sx.start [] w).alloc fun w1 b1 hf1 H=>⟨_,H.cell 0 rfl rfl,?_⟩
 cases s with
 |nil=>exact bif_t (by have:(⟨#[]⟩:ByteArray)=S []:=rfl
                       rw [this,S_beq];rfl) ⟨_,rfl,⟨_,_,_,rfl⟩,hf1⟩
 |cons c t=>
  have hne:((S (c::t)).toList==(⟨#[]⟩:ByteArray).toList)=false:=by
   have:(⟨#[]⟩:ByteArray)=S []:=rfl
   rw [this,S_beq];rfl
  have hlt:=c.toNat_lt
  have hw:W64 ((c.toNat:Nat):Int)=(c.toNat:Int):=W64_nat (by omega)
  have eg:getNormAt (c::t) 1 c.toNat=getNorm t c.toNat:=by
   rw [getNormAt,if_neg (by decide),if_neg (by simp only [List.length_cons];omega)];rfl
  refine bif_f hne ⟨_,H.cell 0 rfl rfl,by decide,c,by rw [S_get];rfl,_,H.cell 0 rfl rfl,?_⟩
  rw [hw]
  refine(T_norm_Get (c::t) 1 c.toNat w1 hs).mono ?_
  rintro e w2 (⟨er,hg,rfl,hf2⟩|⟨l,u,al,nl,cl,hg,rfl,rfl,hle,Hc⟩)
  · have hne:er≠0:=by
     rw [eg]at hg
     exact getNorm_err hg
    refine⟨_,_,_,_,_,rfl,bif_t (by simpa using hne) ⟨_,rfl,?_,hf1.trans hf2⟩⟩
    rw [unStates,←eg,hg]
    exact⟨_,_,_,rfl⟩
  · rw [eg]at hg
    have hm:=getNorm_may hg
    have H:=H.join Hc
    refine⟨_,_,_,_,_,rfl,bif_f rfl (H.drew fun w3 _ H=>⟨_,H.cell 1 rfl rfl,by omega,by rw [S_size];exact hle,_,by rw [A0_add];exact H.cell 1 rfl rfl,?_⟩)⟩
    have ex:(S (c::t)).extract ((1:Int)+(u:Int)).toNat (S (c::t)).size=S (t.drop u):=by
     rw [S_size,S_extract,List.take_of_length_le (Nat.le_refl _),show((1:Int)+(u:Int)).toNat=u+1 by omega,List.drop_succ_cons]
    rw [ex]
    refine(T_states_Get (t.drop u) N al l.length cl l c.toNat w3 (by rw [List.length_drop];simp only [List.length_cons]at hs;omega) hN ⟨(nats_len l).symm,H.slw 0 rfl⟩ hm).mono ?_
    rintro e w4 (⟨hR,er,her,rfl,hf4⟩|⟨ps,a4,n4,c4,hR,rfl,rfl,hok,Hc⟩)
    · refine⟨_,_,_,_,rfl,⟨hf4.cell0,trivial⟩,bif_t (by simpa using her) ⟨_,rfl,?_,H.fr.trans hf4⟩⟩
      rw [unStates,hg]
      simp only [hR]
      exact⟨_,_,_,rfl⟩
    · have hf4:=Hc.fr
      have H:=H.join Hc
      have hlen:ps.length≤1000000:=by rw [statesR_len hR];omega
      refine⟨_,_,_,_,rfl,⟨hf4.cell0,trivial⟩,bif_f rfl ?_⟩
      refine(T_hist_Values a4 ps.length c4 ps (fun p hp=>by have:=okPt_lt (hok p hp);exact⟨by omega,this.2⟩) w4 rfl (H.slw 0 rfl) hlen).mono ?_
      rintro e w5 ⟨v,rfl,hv,hf5⟩
      have hfr:=H.fr.trans hf5
      have hun:unStates N (c::t)=valuesP ps:=by rw [unStates,hg];simp only [hR]
      rw [hun]
      cases hvp:valuesP ps with
      |none=>
       rw [hvp]at hv
       obtain⟨x1,x2,x3,rfl⟩:=hv
       exact⟨_,_,_,_,rfl,_,rfl,⟨_,_,_,rfl⟩,hfr⟩
      |some vs=>
       rw [hvp]at hv
       obtain⟨a5,c5,rfl,hsl⟩:=hv
       exact⟨_,_,_,_,rfl,_,rfl,⟨a5,c5,rfl,hsl⟩,hfr⟩
end Go.Proofs.Tryz
namespace Go.Proofs.Tryz
open Go Go.RowKit Go.Proofs.VC
def beN:Nat→Nat→List UInt8
 |0,_=> []
 |k+1,V=>beN k (V/256)++ [UInt8.ofNat V]
def nbe (l:List UInt8):Nat:=l.foldl (fun a b=>a*256+b.toNat) 0
theorem snoc_ind {α:Type} {P:List α→Prop} (nil:P []) (snoc:∀l b,P l→P (l++ [b])) (l:List α):P l:=by
 have key:∀r:List α,P r.reverse:=by
  intro r
  induction r with
  |nil=>exact nil
  |cons b r ih=>rw [List.reverse_cons];exact snoc _ _ ih
 have:=key l.reverse
 rwa [List.reverse_reverse]at this
theorem beN_len:∀(k V:Nat),(beN k V).length=k
 |0,_=>rfl
 |k+1,V=>by simp [beN,beN_len k]
theorem nbe_snoc (l:List UInt8) (b:UInt8):nbe (l++ [b])=nbe l*256+b.toNat:=by simp [nbe]
theorem nbe_nil:nbe []=0:=rfl
theorem nbe_app (l:List UInt8):∀(m:List UInt8),nbe (l++m)=nbe l*256^m.length+nbe m:=by
 intro m
 induction m using snoc_ind with
 |nil=>simp [nbe_nil]
 |snoc m b ih=>rw [←List.append_assoc,nbe_snoc,ih,nbe_snoc,List.length_append,List.length_singleton,Nat.pow_succ,Nat.add_mul,Nat.mul_assoc,Nat.add_assoc]
theorem nbe_lt (l:List UInt8):nbe l<256^l.length:=by
 induction l using snoc_ind with
 |nil=>simp [nbe_nil]
 |snoc l b ih=>
  rw [nbe_snoc,List.length_append,List.length_singleton,Nat.pow_succ]
  have:=b.toNat_lt
  omega
theorem nbe_beN:∀(k V:Nat),V<256^k→nbe (beN k V)=V
 |0,V,h=>by simp at h;simp [beN,nbe_nil,h]
 |k+1,V,h=>by
  rw [Nat.pow_succ]at h
  have e:(UInt8.ofNat V).toNat=V%256:=by simp
  rw [beN,nbe_snoc,nbe_beN k (V/256) (by omega),e]
  omega
theorem beN_split (j:Nat):∀(i V:Nat),beN (j+i) V=beN j (V/256^i)++beN i V
 |0,V=>by simp [beN]
 |i+1,V=>by
  rw [←Nat.add_assoc,beN,beN_split j i,beN,List.append_assoc,Nat.div_div_eq_div_mul,Nat.pow_succ,Nat.mul_comm]
structure CS where
 V:Nat
 k:Nat
 R:Nat
structure CS.Ok (x:CS):Prop where
 k5:5≤x.k
 lo:16777216≤x.R
 hi:x.R<4294967296
 in_:x.V+x.R≤256^(x.k-1)
def CS.new:CS:=⟨0,5,4294967295⟩
theorem CS.new_ok:CS.new.Ok:=⟨by decide,by decide,by decide,by decide⟩
def CS.grow:Nat→CS→CS
 |0,x=>x
 |f+1,x=>if x.R<16777216 then CS.grow f ⟨x.V*256,x.k+1,x.R*256⟩else x
def CS.nar (x:CS) (lo sz:Nat):CS:=CS.grow 3 ⟨x.V+lo,x.k,sz⟩
def cutN (p:Nat):Nat:=max 1 (min p 4095)
def shareN (R p:Nat):Nat:=R/4096*cutN p
def CS.bit (x:CS) (p:Nat) (b:Bool):CS:=if b then x.nar 0 (shareN x.R p)else x.nar (shareN x.R p) (x.R-shareN x.R p)
def CS.half (x:CS) (b:Bool):CS:=x.nar (if b then x.R/2 else 0) (x.R/2)
def CS.direct (v:Nat):Nat→CS→CS
 |0,x=>x
 |i+1,x=>CS.direct v i (x.half (v/2^i%2==1))
def CS.bytes (x:CS):List UInt8:=beN x.k x.V
structure CS.Mid (x:CS):Prop where
 k5:5≤x.k
 lo:1≤x.R
 hi:x.R<4294967296
 in_:x.V+x.R≤256^(x.k-1)
theorem CS.Mid.step {x:CS} (h:x.Mid) (hs:x.R<16777216):(⟨x.V*256,x.k+1,x.R*256⟩:CS).Mid:=by
 obtain⟨h1,h2,h3,h4⟩:=h
 refine⟨by show 5≤x.k+1;omega,by show 1≤x.R*256;omega,by show x.R*256<_;omega,?_⟩
 show x.V*256+x.R*256≤256^(x.k+1-1)
 obtain⟨j,hj⟩:∃j,x.k=j+1:=⟨x.k-1,by omega⟩
 rw [hj]at h4 ⊢
 simp only [Nat.add_sub_cancel]at h4 ⊢
 rw [Nat.pow_succ]
 omega
theorem CS.grow_ok:∀(f:Nat) (x:CS),x.Mid→16777216≤x.R*256^f→(CS.grow f x).Ok
 |0,x,h,hf=>⟨h.k5,by simpa [CS.grow]using hf,h.hi,h.in_⟩
 |f+1,x,h,hf=>by
  rw [CS.grow]
  split
  · next hs=>exact CS.grow_ok f _ (h.step hs) (by show _≤x.R*256*256^f;rw [Nat.mul_assoc,Nat.mul_comm 256,←Nat.pow_succ];exact hf)
  · next hs=>exact⟨h.k5,by omega,h.hi,h.in_⟩
theorem CS.nar_mid {x:CS} (h:x.Ok) {lo sz:Nat} (h1:1≤sz) (h2:lo+sz≤x.R):(⟨x.V+lo,x.k,sz⟩:CS).Mid:=
 ⟨h.k5,h1,by have:=h.hi;show sz<_;omega,by have:=h.in_;show x.V+lo+sz≤256^(x.k-1);omega⟩
theorem CS.nar_ok {x:CS} (h:x.Ok) {lo sz:Nat} (h1:1≤sz) (h2:lo+sz≤x.R):(x.nar lo sz).Ok:=
 CS.grow_ok 3 _ (CS.nar_mid h h1 h2) (by show 16777216≤sz*256^3;omega)
theorem cutN_le (p:Nat):1≤cutN p∧cutN p≤4095:=by unfold cutN;omega
theorem shareN_le {R p:Nat} (h:16777216≤R):4096≤shareN R p∧shareN R p+4096≤R:=by
 obtain⟨h1,h2⟩:=cutN_le p
 unfold shareN
 have h3:4096≤R/4096:=by omega
 constructor
 · exact Nat.le_trans h3 (Nat.le_mul_of_pos_right _ h1)
 · have:R/4096*cutN p≤R/4096*4095:=Nat.mul_le_mul_left _ h2
   omega
theorem CS.bit_ok {x:CS} (h:x.Ok) (p:Nat) (b:Bool):(x.bit p b).Ok:=by
 obtain⟨h1,h2⟩:=shareN_le (p:=p) h.lo
 unfold CS.bit
 cases b
 · exact CS.nar_ok h (by omega) (by omega)
 · exact CS.nar_ok h (by omega) (by omega)
theorem CS.half_ok {x:CS} (h:x.Ok) (b:Bool):(x.half b).Ok:=by
 have:=h.lo
 unfold CS.half
 cases b
 · exact CS.nar_ok h (by omega) (by simp;omega)
 · exact CS.nar_ok h (by omega) (by simp;omega)
theorem CS.direct_ok {v:Nat}:∀(i:Nat) {x:CS},x.Ok→(CS.direct v i x).Ok
 |0,x,h=>h
 |i+1,x,h=>CS.direct_ok i (CS.half_ok h _)
def CS.done (x:CS):List UInt8:=beN (x.k-4) (x.V/4294967296)
def CS.low (x:CS):Nat:=x.V%4294967296
theorem CS.bytes_eq {x:CS} (h:4≤x.k):x.bytes=x.done++beN 4 x.low:=by
 obtain⟨j,hj⟩:∃j,x.k=j+4:=⟨x.k-4,by omega⟩
 have e4:(256:Nat)^4=4294967296:=by decide
 unfold CS.bytes CS.done CS.low
 rw [hj,beN_split,Nat.add_sub_cancel,e4]
 congr 1
 have key:∀V,beN 4 V= [UInt8.ofNat (V/256/256/256),UInt8.ofNat (V/256/256),UInt8.ofNat (V/256),UInt8.ofNat V]:=fun V=>rfl
 rw [key,key]
 have e:∀a b:Nat,a%256=b%256→UInt8.ofNat a=UInt8.ofNat b:=fun a b h=>by
  apply UInt8.toNat_inj.1
  simpa using h
 rw [e (x.V/256/256/256) (x.V%4294967296/256/256/256) (by omega),e (x.V/256/256) (x.V%4294967296/256/256) (by omega),e (x.V/256) (x.V%4294967296/256) (by omega),e x.V (x.V%4294967296) (by omega)]
theorem CS.grow_done (x:CS) (h:4≤x.k):(⟨x.V*256,x.k+1,x.R*256⟩:CS).done=x.done++ [UInt8.ofNat (x.low/16777216)]∧(⟨x.V*256,x.k+1,x.R*256⟩:CS).low=x.low*256%4294967296:=by
 unfold CS.done CS.low
 simp only
 obtain⟨j,hj⟩:∃j,x.k=j+4:=⟨x.k-4,by omega⟩
 have e1:x.k+1-4=(x.k-4)+1:=by omega
 rw [e1,beN]
 have e2:x.V*256/4294967296/256=x.V/4294967296:=by omega
 have e3:UInt8.ofNat (x.V*256/4294967296)=UInt8.ofNat (x.V%4294967296/16777216):=by
  apply UInt8.toNat_inj.1
  simp
  omega
 rw [e2,e3]
 exact⟨rfl,by omega⟩
theorem beN_ff {j X:Nat} (h:X%256=255):beN (j+1) (X+1)=beN j (X/256+1)++ [0]∧beN (j+1) X=beN j (X/256)++ [255]:=by
 have e1:(X+1)/256=X/256+1:=by omega
 have e2:UInt8.ofNat (X+1)=0:=by apply UInt8.toNat_inj.1;simp;omega
 have e3:UInt8.ofNat X=255:=by apply UInt8.toNat_inj.1;simp;omega
 rw [beN,beN,e1,e2,e3]
 exact⟨rfl,rfl⟩
theorem beN_nf {j X:Nat} (h:X%256≠255):beN (j+1) (X+1)=beN j (X/256)++ [UInt8.ofNat (X%256+1)]:=by
 have e1:(X+1)/256=X/256:=by omega
 have e2:UInt8.ofNat (X+1)=UInt8.ofNat (X%256+1):=by apply UInt8.toNat_inj.1;simp
 rw [beN,e1,e2]
def CS.ahead (s:List UInt8) (x:CS):Option Nat:=
 if x.k≤s.length∧x.V≤nbe (s.take x.k)∧nbe (s.take x.k)-x.V<x.R then some (nbe (s.take x.k)-x.V)else none
def CS.tellBit (s:List UInt8) (p:Nat) (x:CS):Option (Bool×CS):=
 (x.ahead s).map fun d=>(decide (d<shareN x.R p),x.bit p (decide (d<shareN x.R p)))
def CS.tellHalf (s:List UInt8) (x:CS):Option (Bool×CS):=
 (x.ahead s).map fun d=>(decide (x.R/2≤d),x.half (decide (x.R/2≤d)))
def CS.tellDirect (s:List UInt8):Nat→Nat→CS→Option (Nat×CS)
 |0,v,x=>some (v,x)
 |i+1,v,x=>match x.tellHalf s with
  |none=>none
  |some (b,x')=>CS.tellDirect s i (2*v+(if b then 1 else 0)) x'
def CS.ends (s:List UInt8) (x:CS):Bool:=x.ahead s==some 0&&x.k==s.length
end Go.Proofs.Tryz
namespace Go.Proofs.Tryz
open Go Go.Proofs.VC
set_option maxRecDepth 100000
def F_chance_New (w:World) (R:Value→World→Prop):Prop:=
 ∀w1 b1,w1=w.alloc (.cells #[.int .u8 (0:Int)] t_uint8)→b1=w.heap.size→∀w2 b3,w2=w1.alloc (.cells #[.slice (some (A0 b1)) 1 1,.int .u64 0,.int
 .u64 (4294967295:Int)] t_chance_Encoder)→b3=w1.heap.size→R (.pointer (some (A0 b3))) w2
theorem S_chance_New {w:World} {R:Ending→World→Prop} (h:F_chance_New w fun v w'=>R (.returned v) w'):Calls prog n_chance_New #[] w R:=vcS noAnn func149 (by kernel_rfl) (by kernel_rfl) h
def F_chance_Encoder_Bit (x0:Option Addr) (x1:Int) (x2:Int) (w:World) (R:Value→World→Prop):Prop:=
 bif x0.isNone then(R (.tuple #[]) w)else(OSome x0 fun p10=>∃x12:Int,w.cell? (p10.add 2)=some (.int .u64 x12)∧Calls prog n_chance_share #[.int .u64
 x12,.int .i64 x1] w (fun e w1=>∃x14:Int,e= .returned (.int .u64 x14)∧bif x2 !=(0:Int)then(OSome x0 fun p19=>Sto w1 (p19.add 2) (.int .u64 x14)
 fun w2=>Calls prog n_chance_Encoder_grow #[.pointer x0] w2 (fun e_2 w3=>e_2= .returned (.tuple #[])∧R (.tuple #[]) w3))else(Calls prog
 n_chance_Encoder_more #[.pointer x0,.int .u64 x14] w1 (fun e_3 w4=>e_3= .returned (.tuple #[])∧OSome x0 fun p25=>∃x27:Int,w4.cell? (p25.add 2)=
 some (.int .u64 x27)∧OSome x0 fun p30=>Sto w4 (p30.add 2) (.int .u64 (U64 (x27-x14))) fun w5=>Calls prog n_chance_Encoder_grow #[.pointer x0] w5 (fun
 e_4 w6=>e_4= .returned (.tuple #[])∧R (.tuple #[]) w6)))))
theorem S_chance_Encoder_Bit {x0:Option Addr} {x1:Int} {x2:Int} {w:World} {R:Ending→World→Prop} (h:F_chance_Encoder_Bit x0 x1 x2 w fun v w'=>R (.returned v) w'):Calls prog n_chance_Encoder_Bit #[.pointer x0,.int .i64 x1,.int .i64 x2] w R:=vcS noAnn func151 (by kernel_rfl) (by kernel_rfl) h
def F_chance_Encoder_Direct (x0:Option Addr) (x1:Int) (x2:Int) (w:World) (R:Value→World→Prop):Prop:=
 bif x0.isNone then(R (.tuple #[]) w)else(∃I0:Nat→Int→World→Prop,(∃m_2,I0 m_2 (W64 ((if (if (64:Int)<x2 then(64:Int)else x2)>(0:Int)
 then(if (64:Int)<x2 then(64:Int)else x2)else(0:Int))-(1:Int))) w)∧∀m,∀x6:Int,∀w1,I0 m x6 w1→(bif decide (x6≥(0:Int))then
 (OSome x0 fun p18=>∃x20:Int,w1.cell? (p18.add 2)=some (.int .u64 x20)∧(2:Int)≠0∧OSome x0 fun p22=>Sto w1 (p22.add 2) (.int .u64 (U64
 (Int.tdiv x20 (2:Int)))) fun w2=>0≤x6∧bif decide ((andI .u64 (shrI .u64 x1 x6) (1:Int))>(0:Int))then(OSome x0 fun p31=>∃x33:Int,w2.cell?
 (p31.add 2)=some (.int .u64 x33)∧Calls prog n_chance_Encoder_more #[.pointer x0,.int .u64 x33] w2 (fun e w3=>e= .returned (.tuple #[])∧Calls prog
 n_chance_Encoder_grow #[.pointer x0] w3 (fun e_2 w4=>e_2= .returned (.tuple #[])∧∃m_3,m_3<m∧I0 m_3 (W64 (x6-(1:Int))) w4)))else(Calls prog
 n_chance_Encoder_grow #[.pointer x0] w2 (fun e_3 w5=>e_3= .returned (.tuple #[])∧∃m_3,m_3<m∧I0 m_3 (W64 (x6-(1:Int))) w5)))else(R (.tuple #[])
 w1)))
def A_chance_Encoder_Direct:Ann:= {loop:=fun k=>cond (Nat.beq k 0) (some (137438945344,[6],[.int .i64])) (none),join:=fun k=>none,nf:=fun k=> []}
theorem S_chance_Encoder_Direct {x0:Option Addr} {x1:Int} {x2:Int} {w:World} {R:Ending→World→Prop} (h:F_chance_Encoder_Direct x0 x1 x2 w fun v w'=>R (.returned v) w'):Calls prog n_chance_Encoder_Direct #[.pointer x0,.int .u64 x1,.int .i64 x2] w R:=vcS A_chance_Encoder_Direct func152 (by kernel_rfl) (by kernel_rfl) h
def F_chance_Encoder_Bytes (x0:Option Addr) (w:World) (R:Value→World→Prop):Prop:=
 bif x0.isNone then(R (.string (⟨#[]⟩:ByteArray)) w)else(∀w1,w1=w.drew→OSome x0 fun p6=>∃x8:Option Addr,∃x8n:Nat,∃x8c:Nat,w1.cell? p6=
 some (.slice x8 x8n x8c)∧OSome x0 fun p11=>∃x13:Int,w1.cell? (p11.add 1)=some (.int .u64 x13)∧0≤(24:Int)∧OSome x0 fun p17=>∃x19:Int,
 w1.cell? (p17.add 1)=some (.int .u64 x19)∧0≤(16:Int)∧OSome x0 fun p23=>∃x25:Int,w1.cell? (p23.add 1)=some (.int .u64 x25)∧0≤(8:Int)∧
 OSome x0 fun p29=>∃x31:Int,w1.cell? (p29.add 1)=some (.int .u64 x31)∧(∃x9:ByteArray,(Conv.bytesToString (.slice x8 x8n x8c)).run prog w1= .ok
 (.string x9) w1∧((w1.cell? (p11.add 1)=some (.int .u64 x13)→w1.cell? (p11.add 1)=some (.int .u64 x13))∧(w1.cell? (p17.add 1)=some (.int .u64 x19)→
 w1.cell? (p17.add 1)=some (.int .u64 x19))∧(w1.cell? (p23.add 1)=some (.int .u64 x25)→w1.cell? (p23.add 1)=some (.int .u64 x25))∧(w1.cell? (p29.add
 1)=some (.int .u64 x31)→w1.cell? (p29.add 1)=some (.int .u64 x31))∧True)∧∀w2 b33,w2=w1.alloc (.cells #[.int .u8 (U8 (shrI .u64 x13 (24:Int))),
 .int .u8 (U8 (shrI .u64 x19 (16:Int))),.int .u8 (U8 (shrI .u64 x25 (8:Int))),.int .u8 (U8 x31)] t_uint8)→b33=w1.heap.size→((w1.cell? p6=some
 (.slice x8 x8n x8c)→w2.cell? p6=some (.slice x8 x8n x8c))∧(w1.cell? (p11.add 1)=some (.int .u64 x13)→w2.cell? (p11.add 1)=some (.int .u64 x13))∧
 (w1.cell? (p17.add 1)=some (.int .u64 x19)→w2.cell? (p17.add 1)=some (.int .u64 x19))∧(w1.cell? (p23.add 1)=some (.int .u64 x25)→w2.cell? (p23.add
 1)=some (.int .u64 x25))∧(w1.cell? (p29.add 1)=some (.int .u64 x31)→w2.cell? (p29.add 1)=some (.int .u64 x31))∧True)∧∃x34:ByteArray,
 (Conv.bytesToString (.slice (some (A0 b33)) 4 4)).run prog w2= .ok (.string x34) w2∧((w2.cell? p6=some (.slice x8 x8n x8c)→w2.cell? p6=some (.slice x8
 x8n x8c))∧(w2.cell? (p11.add 1)=some (.int .u64 x13)→w2.cell? (p11.add 1)=some (.int .u64 x13))∧(w2.cell? (p17.add 1)=some (.int .u64 x19)→
 w2.cell? (p17.add 1)=some (.int .u64 x19))∧(w2.cell? (p23.add 1)=some (.int .u64 x25)→w2.cell? (p23.add 1)=some (.int .u64 x25))∧(w2.cell? (p29.add
 1)=some (.int .u64 x31)→w2.cell? (p29.add 1)=some (.int .u64 x31))∧True)∧x9.size+x34.size≤strMax∧R (.string (x9++x34)) w2)∧(∀w3 b33_2,w3
 =w1.alloc (.cells #[.int .u8 (U8 (shrI .u64 x13 (24:Int))),.int .u8 (U8 (shrI .u64 x19 (16:Int))),.int .u8 (U8 (shrI .u64 x25 (8:Int))),.int .u8 (U8
 x31)] t_uint8)→b33_2=w1.heap.size→((w1.cell? p6=some (.slice x8 x8n x8c)→w3.cell? p6=some (.slice x8 x8n x8c))∧(w1.cell? (p11.add 1)=some (.int
 .u64 x13)→w3.cell? (p11.add 1)=some (.int .u64 x13))∧(w1.cell? (p17.add 1)=some (.int .u64 x19)→w3.cell? (p17.add 1)=some (.int .u64 x19))∧
 (w1.cell? (p23.add 1)=some (.int .u64 x25)→w3.cell? (p23.add 1)=some (.int .u64 x25))∧(w1.cell? (p29.add 1)=some (.int .u64 x31)→w3.cell? (p29.add
 1)=some (.int .u64 x31))∧True)∧(∃x9_2:ByteArray,(Conv.bytesToString (.slice x8 x8n x8c)).run prog w3= .ok (.string x9_2) w3∧((w3.cell? (p11.add 1)
 =some (.int .u64 x13)→w3.cell? (p11.add 1)=some (.int .u64 x13))∧(w3.cell? (p17.add 1)=some (.int .u64 x19)→w3.cell? (p17.add 1)=some (.int .u64
 x19))∧(w3.cell? (p23.add 1)=some (.int .u64 x25)→w3.cell? (p23.add 1)=some (.int .u64 x25))∧(w3.cell? (p29.add 1)=some (.int .u64 x31)→w3.cell?
 (p29.add 1)=some (.int .u64 x31))∧True)∧∃x34_2:ByteArray,(Conv.bytesToString (.slice (some (A0 b33_2)) 4 4)).run prog w3= .ok (.string x34_2) w3∧
 ((w3.cell? p6=some (.slice x8 x8n x8c)→w3.cell? p6=some (.slice x8 x8n x8c))∧(w3.cell? (p11.add 1)=some (.int .u64 x13)→w3.cell? (p11.add 1)=some
 (.int .u64 x13))∧(w3.cell? (p17.add 1)=some (.int .u64 x19)→w3.cell? (p17.add 1)=some (.int .u64 x19))∧(w3.cell? (p23.add 1)=some (.int .u64 x25)→
 w3.cell? (p23.add 1)=some (.int .u64 x25))∧(w3.cell? (p29.add 1)=some (.int .u64 x31)→w3.cell? (p29.add 1)=some (.int .u64 x31))∧True)∧x9_2.size
 +x34_2.size≤strMax∧R (.string (x9_2++x34_2)) w3)∧(∃x34_3:ByteArray,(Conv.bytesToString (.slice (some (A0 b33_2)) 4 4)).run prog w3= .ok (.string
 x34_3) w3∧((w3.cell? p6=some (.slice x8 x8n x8c)→w3.cell? p6=some (.slice x8 x8n x8c))∧(w3.cell? (p11.add 1)=some (.int .u64 x13)→w3.cell?
 (p11.add 1)=some (.int .u64 x13))∧(w3.cell? (p17.add 1)=some (.int .u64 x19)→w3.cell? (p17.add 1)=some (.int .u64 x19))∧(w3.cell? (p23.add 1)=
 some (.int .u64 x25)→w3.cell? (p23.add 1)=some (.int .u64 x25))∧(w3.cell? (p29.add 1)=some (.int .u64 x31)→w3.cell? (p29.add 1)=some (.int .u64
 x31))∧True)∧∃x9_3:ByteArray,(Conv.bytesToString (.slice x8 x8n x8c)).run prog w3= .ok (.string x9_3) w3∧((w3.cell? (p11.add 1)=some (.int .u64
 x13)→w3.cell? (p11.add 1)=some (.int .u64 x13))∧(w3.cell? (p17.add 1)=some (.int .u64 x19)→w3.cell? (p17.add 1)=some (.int .u64 x19))∧(w3.cell?
 (p23.add 1)=some (.int .u64 x25)→w3.cell? (p23.add 1)=some (.int .u64 x25))∧(w3.cell? (p29.add 1)=some (.int .u64 x31)→w3.cell? (p29.add 1)=some
 (.int .u64 x31))∧True)∧x9_3.size+x34_3.size≤strMax∧R (.string (x9_3++x34_3)) w3)))
theorem S_chance_Encoder_Bytes {x0:Option Addr} {w:World} {R:Ending→World→Prop} (h:F_chance_Encoder_Bytes x0 w fun v w'=>R (.returned v) w'):Calls prog n_chance_Encoder_Bytes #[.pointer x0] w R:=vcS noAnn func153 (by kernel_rfl) (by kernel_rfl) h
def F_chance_From (x0:ByteArray) (w:World) (R:Value→World→Prop):Prop:=
 ∀w1 b5,w1=w.alloc (.cells #[.string x0,.int .i64 0,.int .i64 (5:Int),.int .u64 0,.int .u64 (4294967295:Int),.bool false] t_chance_Decoder)→b5=
 w.heap.size→R (.pointer (some (A0 b5))) w1
theorem S_chance_From {x0:ByteArray} {w:World} {R:Ending→World→Prop} (h:F_chance_From x0 w fun v w'=>R (.returned v) w'):Calls prog n_chance_From #[.string x0] w R:=vcS noAnn func177 (by kernel_rfl) (by kernel_rfl) h
def F_chance_Decoder_Bit (x0:Option Addr) (x1:Int) (w:World) (R:Value→World→Prop):Prop:=
 Calls prog n_chance_Decoder_gate #[.pointer x0] w (fun e w1=>∃x10:Int,e= .returned (.int .i64 x10)∧bif x10 !=(0:Int)then(R (.tuple #[.int .i64 (0:
 Int),.int .i64 x10]) w1)else(OSome x0 fun p15=>∃x17:Int,w1.cell? (p15.add 4)=some (.int .u64 x17)∧Calls prog n_chance_share #[.int .u64 x17,.int
 .i64 x1] w1 (fun e_2 w2=>∃x19:Int,e_2= .returned (.int .u64 x19)∧Calls prog n_chance_Decoder_part #[.pointer x0,.int .u64 x19] w2 (fun e_3 w3=>∃
 x22:Bool,e_3= .returned (.bool x22)∧bif x22 then(OSome x0 fun p24=>∃x26:Int,w3.cell? (p24.add 4)=some (.int .u64 x26)∧OSome x0 fun p29=>Sto
 w3 (p29.add 4) (.int .u64 (U64 (x26-x19))) fun w4=>Calls prog n_chance_Decoder_grow #[.pointer x0] w4 (fun e_4 w5=>e_4= .returned (.tuple #[])∧R
 (.tuple #[.int .i64 (0:Int),.int .i64 (0:Int)]) w5))else(OSome x0 fun p33=>Sto w3 (p33.add 4) (.int .u64 x19) fun w6=>Calls prog
 n_chance_Decoder_grow #[.pointer x0] w6 (fun e_5 w7=>e_5= .returned (.tuple #[])∧R (.tuple #[.int .i64 (1:Int),.int .i64 (0:Int)]) w7))))))
theorem S_chance_Decoder_Bit {x0:Option Addr} {x1:Int} {w:World} {R:Ending→World→Prop} (h:F_chance_Decoder_Bit x0 x1 w fun v w'=>R (.returned v) w'):Calls prog n_chance_Decoder_Bit #[.pointer x0,.int .i64 x1] w R:=vcS noAnn func178 (by kernel_rfl) (by kernel_rfl) h
def F_chance_Decoder_Direct (x0:Option Addr) (x1:Int) (w:World) (R:Value→World→Prop):Prop:=
 bif x0.isNone then(R (.tuple #[.int .u64 (0:Int),.int .i64 (6:Int)]) w)else(∃I0:Nat→Int→Int→World→Prop,(∃m_2,I0 m_2 (0:Int) (0:Int) w)
 ∧∀m,∀x6:Int,∀x13:Int,∀w1,I0 m x6 x13 w1→(bif decide (x13<(if (if (64:Int)<x1 then(64:Int)else x1)>(0:Int)then(if (64:Int)<x1
 then(64:Int)else x1)else(0:Int)))then(Calls prog n_chance_Decoder_gate #[.pointer x0] w1 (fun e w2=>∃x16:Int,e= .returned (.int .i64 x16)∧
 bif x16 !=(0:Int)then(R (.tuple #[.int .u64 (0:Int),.int .i64 x16]) w2)else(OSome x0 fun p21=>∃x23:Int,w2.cell? (p21.add 4)=some (.int .u64
 x23)∧(2:Int)≠0∧OSome x0 fun p25=>Sto w2 (p25.add 4) (.int .u64 (U64 (Int.tdiv x23 (2:Int)))) fun w3=>0≤(1:Int)∧OSome x0 fun p31=>∃x33:
 Int,w3.cell? (p31.add 4)=some (.int .u64 x33)∧Calls prog n_chance_Decoder_part #[.pointer x0,.int .u64 x33] w3 (fun e_2 w4=>∃x34:Bool,e_2=
 .returned (.bool x34)∧bif x34 then(Calls prog n_chance_Decoder_grow #[.pointer x0] w4 (fun e_3 w5=>e_3= .returned (.tuple #[])∧∃m_3,m_3<m∧I0 m_3
 (orI .u64 (shlI .u64 x6 (1:Int)) (1:Int)) (W64 (x13+(1:Int))) w5))else(Calls prog n_chance_Decoder_grow #[.pointer x0] w4 (fun e_4 w6=>e_4=
 .returned (.tuple #[])∧∃m_3,m_3<m∧I0 m_3 (shlI .u64 x6 (1:Int)) (W64 (x13+(1:Int))) w6))))))else(R (.tuple #[.int .u64 x6,.int .i64 (0:
 Int)]) w1)))
def A_chance_Decoder_Direct:Ann:= {loop:=fun k=>cond (Nat.beq k 0) (some (1099511619824,[6,13],[.int .u64,.int .i64])) (none),join:=fun k=>none,nf:=fun k=> []}
theorem S_chance_Decoder_Direct {x0:Option Addr} {x1:Int} {w:World} {R:Ending→World→Prop} (h:F_chance_Decoder_Direct x0 x1 w fun v w'=>R (.returned v) w'):Calls prog n_chance_Decoder_Direct #[.pointer x0,.int .i64 x1] w R:=vcS A_chance_Decoder_Direct func180 (by kernel_rfl) (by kernel_rfl) h
def F_chance_Decoder_End (x0:Option Addr) (w:World) (R:Value→World→Prop):Prop:=
 Calls prog n_chance_Decoder_gate #[.pointer x0] w (fun e w1=>∃x5:Int,e= .returned (.int .i64 x5)∧bif x5 !=(0:Int)then(R (.int .i64 x5) w1)else(∀
 w2,w2=w1.drew→OSome x0 fun p10=>∃x12:Int,w2.cell? (p10.add 3)=some (.int .u64 x12)∧bif x12 !=(0:Int)then(OSome x0 fun p27=>Sto w2
 (p27.add 5) (.bool true) fun w3=>R (.int .i64 (3:Int)) w3)else(OSome x0 fun p16=>∃x18:Int,w2.cell? (p16.add 2)=some (.int .i64 x18)∧OSome x0
 fun p20=>∃x22:ByteArray,w2.cell? p20=some (.string x22)∧bif x18 !=((x22.size:Nat):Int)then(OSome x0 fun p27_2=>Sto w2 (p27_2.add 5) (.bool
 true) fun w4=>R (.int .i64 (3:Int)) w4)else(R (.int .i64 (0:Int)) w2))))
theorem S_chance_Decoder_End {x0:Option Addr} {w:World} {R:Ending→World→Prop} (h:F_chance_Decoder_End x0 w fun v w'=>R (.returned v) w'):Calls prog n_chance_Decoder_End #[.pointer x0] w R:=vcS noAnn func181 (by kernel_rfl) (by kernel_rfl) h
def F_chance_share (x0:Int) (x1:Int) (w:World) (R:Value→World→Prop):Prop:=
 (4096:Int)≠0∧Calls prog n_chance_cut #[.int .i64 x1] w (fun e w1=>∃x8:Int,e= .returned (.int .u64 x8)∧R (.int .u64 (U64 ((U64 (Int.tdiv x0 (4096:
 Int)))*x8))) w1)
theorem S_chance_share {x0:Int} {x1:Int} {w:World} {R:Ending→World→Prop} (h:F_chance_share x0 x1 w fun v w'=>R (.returned v) w'):Calls prog n_chance_share #[.int .u64 x0,.int .i64 x1] w R:=vcS noAnn func212 (by kernel_rfl) (by kernel_rfl) h
def F_chance_Encoder_more (x0:Option Addr) (x1:Int) (w:World) (R:Value→World→Prop):Prop:=
 OSome x0 fun p6=>∃x8:Int,w.cell? (p6.add 1)=some (.int .u64 x8)∧OSome x0 fun p11=>Sto w (p11.add 1) (.int .u64 (U64 (x8+x1))) fun w1=>OSome x0
 fun p14=>∃x16:Int,w1.cell? (p14.add 1)=some (.int .u64 x16)∧bif decide (x16≤(4294967295:Int))then(R (.tuple #[]) w1)else(OSome x0 fun p19=>
 ∃x21:Int,w1.cell? (p19.add 1)=some (.int .u64 x21)∧OSome x0 fun p23=>Sto w1 (p23.add 1) (.int .u64 (andI .u64 x21 (4294967295:Int))) fun w2=>
 OSome x0 fun p26=>∃x28:Option Addr,∃x28n:Nat,∃x28c:Nat,w2.cell? p26=some (.slice x28 x28n x28c)∧∃I0:Nat→Int→World→Prop,(∃m_2,I0
 m_2 (W64 (((x28n:Nat):Int)-(1:Int))) w2)∧∀m,∀x4:Int,∀w3,I0 m x4 w3→(OSome x0 fun p32=>∃x34:Option Addr,∃x34n:Nat,∃x34c:Nat,
 w3.cell? p32=some (.slice x34 x34n x34c)∧0≤x4∧x4<((x34n:Nat):Int)∧OSome x34 fun p36=>∃x37:Int,w3.cell? (p36.add (Int.toNat x4*1))=
 some (.int .u8 x37)∧bif x37==(255:Int)then(OSome x0 fun p42=>∃x44:Option Addr,∃x44n:Nat,∃x44c:Nat,w3.cell? p42=some (.slice x44 x44n
 x44c)∧0≤x4∧x4<((x44n:Nat):Int)∧OSome x44 fun p46=>Sto w3 (p46.add (Int.toNat x4*1)) (.int .u8 (0:Int)) fun w4=>∃m_3,m_3<m∧I0 m_3
 (W64 (x4-(1:Int))) w4)else(OSome x0 fun p48=>∃x50:Option Addr,∃x50n:Nat,∃x50c:Nat,w3.cell? p48=some (.slice x50 x50n x50c)∧0≤x4∧x4
 <((x50n:Nat):Int)∧OSome x50 fun p52=>∃x53:Int,w3.cell? (p52.add (Int.toNat x4*1))=some (.int .u8 x53)∧0≤x4∧x4<((x50n:Nat):Int)∧
 OSome x50 fun p55=>Sto w3 (p55.add (Int.toNat x4*1)) (.int .u8 (U8 (x53+(1:Int)))) fun w5=>R (.tuple #[]) w5)))
def A_chance_Encoder_more:Ann:= {loop:=fun k=>cond (Nat.beq k 0) (some (140735340871696,[4],[.int .i64])) (none),join:=fun k=>none,nf:=fun k=> []}
theorem S_chance_Encoder_more {x0:Option Addr} {x1:Int} {w:World} {R:Ending→World→Prop} (h:F_chance_Encoder_more x0 x1 w fun v w'=>R (.returned v) w'):Calls prog n_chance_Encoder_more #[.pointer x0,.int .u64 x1] w R:=vcS A_chance_Encoder_more func213 (by kernel_rfl) (by kernel_rfl) h
def F_chance_Encoder_grow (x0:Option Addr) (w:World) (R:Value→World→Prop):Prop:=
 ∃I0:Nat→World→Prop,(∃m_2,I0 m_2 w)∧∀m,∀w1,I0 m w1→(OSome x0 fun p3=>∃x5:Int,w1.cell? (p3.add 2)=some (.int .u64 x5)∧bif decide (x5
 <(16777216:Int))then(OSome x0 fun p8=>∃x10:Int,w1.cell? (p8.add 2)=some (.int .u64 x10)∧0≤(8:Int)∧OSome x0 fun p12=>Sto w1 (p12.add 2)
 (.int .u64 (shlI .u64 x10 (8:Int))) fun w2=>∀w3,w3=w2.drew→OSome x0 fun p16=>∃x18:Option Addr,∃x18n:Nat,∃x18c:Nat,w3.cell? p16=some
 (.slice x18 x18n x18c)∧OSome x0 fun p20=>∃x22:Int,w3.cell? (p20.add 1)=some (.int .u64 x22)∧0≤(24:Int)∧∀w4 b25,w4=w3.alloc (.cells #[.int
 .u8 (U8 (shrI .u64 x22 (24:Int)))] t_uint8)→b25=w3.heap.size→((w3.cell? p16=some (.slice x18 x18n x18c)→w4.cell? p16=some (.slice x18 x18n x18c))
 ∧(w3.cell? (p20.add 1)=some (.int .u64 x22)→w4.cell? (p20.add 1)=some (.int .u64 x22))∧True)∧∃x26:Option Addr,∃x26n:Nat,∃x26c:Nat,∃w5:
 World,(Builtin.append_ #[t_S_uint8,t_S_uint8] t_S_uint8 #[.slice x18 x18n x18c,.slice (some (A0 b25)) 1 1]).run prog w4= .ok (.slice x26 x26n x26c) w5∧
 ((w4.cell? (p20.add 1)=some (.int .u64 x22)→w5.cell? (p20.add 1)=some (.int .u64 x22))∧True)∧OSome x0 fun p27=>Sto w5 p27 (.slice x26 x26n x26c)
 fun w6=>(True)∧OSome x0 fun p31=>∃x33:Int,w6.cell? (p31.add 1)=some (.int .u64 x33)∧0≤(8:Int)∧OSome x0 fun p36=>Sto w6 (p36.add 1) (.int
 .u64 (andI .u64 (shlI .u64 x33 (8:Int)) (4294967295:Int))) fun w7=>∃m_3,m_3<m∧I0 m_3 w7)else(R (.tuple #[]) w1))
def A_chance_Encoder_grow:Ann:= {loop:=fun k=>cond (Nat.beq k 0) (some (274877906940,[],[])) (none),join:=fun k=>none,nf:=fun k=> []}
theorem S_chance_Encoder_grow {x0:Option Addr} {w:World} {R:Ending→World→Prop} (h:F_chance_Encoder_grow x0 w fun v w'=>R (.returned v) w'):Calls prog n_chance_Encoder_grow #[.pointer x0] w R:=vcS A_chance_Encoder_grow func214 (by kernel_rfl) (by kernel_rfl) h
def F_chance_Decoder_gate (x0:Option Addr) (w:World) (R:Value→World→Prop):Prop:=
 ∀J12:Int→World→Prop,(∀x2:Int,∀w1,(OSome x0 fun p69=>Sto w1 (p69.add 5) (.bool (x2 !=(0:Int))) fun w2=>R (.int .i64 x2) w2)→J12 x2 w1)→
 bif x0.isNone then(R (.int .i64 (6:Int)) w)else(OSome x0 fun p52=>∃x54:Bool,w.cell? (p52.add 5)=some (.bool x54)∧bif x54 then(R (.int .i64 (3:
 Int)) w)else(∀w3,w3=w.drew→OSome x0 fun p57=>∃x59:Int,w3.cell? (p57.add 2)=some (.int .i64 x59)∧OSome x0 fun p61=>∃x63:ByteArray,
 w3.cell? p61=some (.string x63)∧bif decide (x59>((x63.size:Nat):Int))then(J12 (2:Int) w3)else(∃I1:Nat→World→Prop,(∃m_2,I1 m_2 w3)∧
 ∀m,∀w4,I1 m w4→(∀w5,w5=w4.drew→OSome x0 fun p4=>∃x6:Int,w5.cell? (p4.add 1)=some (.int .i64 x6)∧OSome x0 fun p8=>∃x10:Int,w5.cell?
 (p8.add 2)=some (.int .i64 x10)∧bif decide (x6<x10)then(∀w6,w6=w5.drew→OSome x0 fun p21=>∃x23:Int,w6.cell? (p21.add 3)=some (.int .u64
 x23)∧0≤(8:Int)∧OSome x0 fun p26=>∃x28:ByteArray,w6.cell? p26=some (.string x28)∧OSome x0 fun p30=>∃x32:Int,w6.cell? (p30.add 1)=some
 (.int .i64 x32)∧0≤x32∧∃c33:UInt8,x28[Int.toNat x32]? =some c33∧OSome x0 fun p36=>Sto w6 (p36.add 3) (.int .u64 (orI .u64 (shlI .u64 x23 (8:
 Int)) (U64 ((c33.toNat:Nat):Int)))) fun w7=>(True)∧OSome x0 fun p13=>∃x15:Int,w7.cell? (p13.add 1)=some (.int .i64 x15)∧OSome x0 fun p17=>
 Sto w7 (p17.add 1) (.int .i64 (W64 (x15+(1:Int)))) fun w8=>∃m_3,m_3<m∧I1 m_3 w8)else(∀w9,w9=w5.drew→OSome x0 fun p39=>∃x41:Int,
 w9.cell? (p39.add 3)=some (.int .u64 x41)∧OSome x0 fun p43=>∃x45:Int,w9.cell? (p43.add 4)=some (.int .u64 x45)∧bif decide (x41≥x45)then(J12
 (3:Int) w9)else(J12 (0:Int) w9))))))
def A_chance_Decoder_gate:Ann:= {loop:=fun k=>cond (Nat.beq k 1) (some (274877906936,[],[])) (none),join:=fun k=>cond (Nat.beq k 12) (some (73786976294838206460,[2],[.int .i64])) (none),nf:=fun k=> []}
theorem S_chance_Decoder_gate {x0:Option Addr} {w:World} {R:Ending→World→Prop} (h:F_chance_Decoder_gate x0 w fun v w'=>R (.returned v) w'):Calls prog n_chance_Decoder_gate #[.pointer x0] w R:=vcS A_chance_Decoder_gate func222 (by kernel_rfl) (by kernel_rfl) h
def F_chance_Decoder_part (x0:Option Addr) (x1:Int) (w:World) (R:Value→World→Prop):Prop:=
 OSome x0 fun p6=>∃x8:Int,w.cell? (p6.add 3)=some (.int .u64 x8)∧bif decide (x8<x1)then(R (.bool false) w)else(OSome x0 fun p12=>∃x14:Int,
 w.cell? (p12.add 3)=some (.int .u64 x14)∧OSome x0 fun p17=>Sto w (p17.add 3) (.int .u64 (U64 (x14-x1))) fun w1=>R (.bool true) w1)
theorem S_chance_Decoder_part {x0:Option Addr} {x1:Int} {w:World} {R:Ending→World→Prop} (h:F_chance_Decoder_part x0 x1 w fun v w'=>R (.returned v) w'):Calls prog n_chance_Decoder_part #[.pointer x0,.int .u64 x1] w R:=vcS noAnn func223 (by kernel_rfl) (by kernel_rfl) h
def F_chance_Decoder_grow (x0:Option Addr) (w:World) (R:Value→World→Prop):Prop:=
 ∃I0:Nat→World→Prop,(∃m_2,I0 m_2 w)∧∀m,∀w1,I0 m w1→(OSome x0 fun p3=>∃x5:Int,w1.cell? (p3.add 4)=some (.int .u64 x5)∧bif decide (x5
 <(16777216:Int))then(OSome x0 fun p8=>∃x10:Int,w1.cell? (p8.add 4)=some (.int .u64 x10)∧0≤(8:Int)∧OSome x0 fun p12=>Sto w1 (p12.add 4)
 (.int .u64 (shlI .u64 x10 (8:Int))) fun w2=>OSome x0 fun p15=>∃x17:Int,w2.cell? (p15.add 2)=some (.int .i64 x17)∧OSome x0 fun p19=>Sto w2
 (p19.add 2) (.int .i64 (W64 (x17+(1:Int)))) fun w3=>∃m_3,m_3<m∧I0 m_3 w3)else(R (.tuple #[]) w1))
def A_chance_Decoder_grow:Ann:= {loop:=fun k=>cond (Nat.beq k 0) (some (2097148,[],[])) (none),join:=fun k=>none,nf:=fun k=> []}
theorem S_chance_Decoder_grow {x0:Option Addr} {w:World} {R:Ending→World→Prop} (h:F_chance_Decoder_grow x0 w fun v w'=>R (.returned v) w'):Calls prog n_chance_Decoder_grow #[.pointer x0] w R:=vcS A_chance_Decoder_grow func224 (by kernel_rfl) (by kernel_rfl) h
def F_chance_cut (x0:Int) (w:World) (R:Value→World→Prop):Prop:=
 R (.int .u64 (U64 (if (if (4095:Int)<x0 then(4095:Int)else x0)>(1:Int)then(if (4095:Int)<x0 then(4095:Int)else x0)else(1:Int)))) w
theorem S_chance_cut {x0:Int} {w:World} {R:Ending→World→Prop} (h:F_chance_cut x0 w fun v w'=>R (.returned v) w'):Calls prog n_chance_cut #[.int .i64 x0] w R:=vcS noAnn func235 (by kernel_rfl) (by kernel_rfl) h
def F_tree_Nodes (x0:Int) (w:World) (R:Value→World→Prop):Prop:=
 Calls prog n_tree_isClass #[.int .i64 x0] w (fun e w1=>∃x8:Bool,e= .returned (.bool x8)∧bif !x8 then(R (.tuple #[.slice none 0 0,.slice none 0 0]) w1)
 else(∃I0:Nat→Option Addr→Nat→Nat→Option Addr→Nat→Nat→Int→Int→World→Prop,(∃m_2,I0 m_2 none 0 0 none 0 0 (1:Int) (6:Int) w1)∧∀
 m,∀x2:Option Addr,∀x2n:Nat,∀x2c:Nat,∀x3:Option Addr,∀x3n:Nat,∀x3c:Nat,∀x4:Int,∀x5:Int,∀w2,I0 m x2 x2n x2c x3 x3n x3c x4 x5
 w2→(bif decide (x5≥(0:Int))then(0≤x5∧∀w3 b20,w3=w2.alloc (.cells #[.int .i64 x4] t_int)→b20=w2.heap.size→∃x21:Option Addr,∃x21n:
 Nat,∃x21c:Nat,∃w4:World,(Builtin.append_ #[t_S_int,t_S_int] t_S_int #[.slice x2 x2n x2c,.slice (some (A0 b20)) 1 1]).run prog w3= .ok (.slice x21
 x21n x21c) w4∧∀w5 b24,w5=w4.alloc (.cells #[.int .i64 (andI .i64 (shrI .i64 x0 x5) (1:Int))] t_int)→b24=w4.heap.size→∃x25:Option Addr,∃x25n
 :Nat,∃x25c:Nat,∃w6:World,(Builtin.append_ #[t_S_int,t_S_int] t_S_int #[.slice x3 x3n x3c,.slice (some (A0 b24)) 1 1]).run prog w5= .ok (.slice x25
 x25n x25c) w6∧∃m_3,m_3<m∧I0 m_3 x21 x21n x21c x25 x25n x25c (W64 ((W64 ((2:Int)*x4))+(andI .i64 (shrI .i64 x0 x5) (1:Int)))) (W64 (x5-(1:
 Int))) w6)else(R (.tuple #[.slice x2 x2n x2c,.slice x3 x3n x3c]) w2))))
def A_tree_Nodes:Ann:= {loop:=fun k=>cond (Nat.beq k 0) (some (1073740924,[2,3,4,5],[.sl,.sl,.int .i64,.int .i64])) (none),join:=fun k=>none,nf:=fun k=> []}
theorem S_tree_Nodes {x0:Int} {w:World} {R:Ending→World→Prop} (h:F_tree_Nodes x0 w fun v w'=>R (.returned v) w'):Calls prog n_tree_Nodes #[.int .i64 x0] w R:=vcS A_tree_Nodes func210 (by kernel_rfl) (by kernel_rfl) h
def F_tree_isClass (x0:Int) (w:World) (R:Value→World→Prop):Prop:=
 bif decide (x0≥(0:Int))then(R (.bool (decide (x0<(65:Int)))) w)else(R (.bool false) w)
theorem S_tree_isClass {x0:Int} {w:World} {R:Ending→World→Prop} (h:F_tree_isClass x0 w fun v w'=>R (.returned v) w'):Calls prog n_tree_isClass #[.int .i64 x0] w R:=vcS noAnn func234 (by kernel_rfl) (by kernel_rfl) h
def F_tree_Move (x0:Int) (x1:Int) (x2:Int) (w:World) (R:Value→World→Prop):Prop:=
 bif x1 !=(0:Int)then(0≤(if (if (12:Int)<x2 then(12:Int)else x2)>(1:Int)then(if (12:Int)<x2 then(12:Int)else x2)else(1:Int))∧R
 (.int .i64 (W64 ((if (if (4096:Int)<x0 then(4096:Int)else x0)>(0:Int)then(if (4096:Int)<x0 then(4096:Int)else x0)else(0:Int))+(shrI
 .i64 (W64 ((4096:Int)-(if (if (4096:Int)<x0 then(4096:Int)else x0)>(0:Int)then(if (4096:Int)<x0 then(4096:Int)else x0)else(0:
 Int)))) (if (if (12:Int)<x2 then(12:Int)else x2)>(1:Int)then(if (12:Int)<x2 then(12:Int)else x2)else(1:Int)))))) w)else(0≤(if (if
 (12:Int)<x2 then(12:Int)else x2)>(1:Int)then(if (12:Int)<x2 then(12:Int)else x2)else(1:Int))∧R (.int .i64 (W64 ((if (if (4096:
 Int)<x0 then(4096:Int)else x0)>(0:Int)then(if (4096:Int)<x0 then(4096:Int)else x0)else(0:Int))-(shrI .i64 (if (if (4096:Int)<x0
 then(4096:Int)else x0)>(0:Int)then(if (4096:Int)<x0 then(4096:Int)else x0)else(0:Int)) (if (if (12:Int)<x2 then(12:Int)else x2)>
 (1:Int)then(if (12:Int)<x2 then(12:Int)else x2)else(1:Int)))))) w)
theorem S_tree_Move {x0:Int} {x1:Int} {x2:Int} {w:World} {R:Ending→World→Prop} (h:F_tree_Move x0 x1 x2 w fun v w'=>R (.returned v) w'):Calls prog n_tree_Move #[.int .i64 x0,.int .i64 x1,.int .i64 x2] w R:=vcS noAnn func241 (by kernel_rfl) (by kernel_rfl) h
def F_squash_Stretch (x0:Int) (w:World) (R:Value→World→Prop):Prop:=
 ∃I0:Nat→Int→Int→World→Prop,(∃m_2,I0 m_2 (0:Int) (4095:Int) w)∧∀m,∀x3:Int,∀x4:Int,∀w1,I0 m x3 x4 w1→(bif decide (x3<x4)then
 ((2:Int)≠0∧Calls prog n_squash_Squash #[.int .i64 (W64 ((W64 (Int.tdiv (W64 (x3+x4)) (2:Int)))-(2047:Int)))] w1 (fun e w2=>∃x18:Int,e=
 .returned (.int .i64 x18)∧bif decide (x18<(if (if (4095:Int)<x0 then(4095:Int)else x0)>(1:Int)then(if (4095:Int)<x0 then(4095:Int)
 else x0)else(1:Int)))then(∃m_3,m_3<m∧I0 m_3 (W64 ((W64 (Int.tdiv (W64 (x3+x4)) (2:Int)))+(1:Int))) x4 w2)else(∃m_3,m_3<m∧I0 m_3 x3
 (W64 (Int.tdiv (W64 (x3+x4)) (2:Int))) w2)))else(R (.int .i64 (if (2047:Int)<(W64 (x3-(2047:Int)))then(2047:Int)else(W64 (x3-(2047:
 Int))))) w1))
def A_squash_Stretch:Ann:= {loop:=fun k=>cond (Nat.beq k 0) (some (16776760,[3,4],[.int .i64,.int .i64])) (none),join:=fun k=>none,nf:=fun k=> []}
theorem S_squash_Stretch {x0:Int} {w:World} {R:Ending→World→Prop} (h:F_squash_Stretch x0 w fun v w'=>R (.returned v) w'):Calls prog n_squash_Stretch #[.int .i64 x0] w R:=vcS A_squash_Stretch func238 (by kernel_rfl) (by kernel_rfl) h
def F_squash_Squash (x0:Int) (w:World) (R:Value→World→Prop):Prop:=
 bif decide ((if (if (2047:Int)<x0 then(2047:Int)else x0)>(-2047:Int)then(if (2047:Int)<x0 then(2047:Int)else x0)else(-2047:Int))<(0:
 Int))then(Calls prog n_squash_Squash #[.int .i64 (W64 (0-if (if (2047:Int)<x0 then(2047:Int)else x0)>(-2047:Int)then(if (2047:Int)<x0
 then(2047:Int)else x0)else(-2047:Int)))] w (fun e w1=>∃x11:Int,e= .returned (.int .i64 x11)∧R (.int .i64 (W64 ((4096:Int)-x11))) w1))else
 ((256:Int)≠0∧0≤(W64 (Int.tdiv (if (if (2047:Int)<x0 then(2047:Int)else x0)>(-2047:Int)then(if (2047:Int)<x0 then(2047:Int)else
 x0)else(-2047:Int)) (256:Int)))∧(2:Int)≠0∧(256:Int)≠0∧(256:Int)≠0∧(W64 ((65536:Int)+(W64 ((shrI .i64 (65536:Int) (W64 (Int.tdiv
 (if (if (2047:Int)<x0 then(2047:Int)else x0)>(-2047:Int)then(if (2047:Int)<x0 then(2047:Int)else x0)else(-2047:Int)) (256:Int))))-
 (W64 (Int.tdiv (W64 ((W64 (Int.tdiv (shrI .i64 (65536:Int) (W64 (Int.tdiv (if (if (2047:Int)<x0 then(2047:Int)else x0)>(-2047:Int)then(if (2047
 :Int)<x0 then(2047:Int)else x0)else(-2047:Int)) (256:Int)))) (2:Int)))*(Int.tmod (if (if (2047:Int)<x0 then(2047:Int)else x0)>(-2047
 :Int)then(if (2047:Int)<x0 then(2047:Int)else x0)else(-2047:Int)) (256:Int)))) (256:Int)))))))≠0∧R (.int .i64 (W64 (Int.tdiv (268435456
 :Int) (W64 ((65536:Int)+(W64 ((shrI .i64 (65536:Int) (W64 (Int.tdiv (if (if (2047:Int)<x0 then(2047:Int)else x0)>(-2047:Int)then(if (2047
 :Int)<x0 then(2047:Int)else x0)else(-2047:Int)) (256:Int))))-(W64 (Int.tdiv (W64 ((W64 (Int.tdiv (shrI .i64 (65536:Int) (W64 (Int.tdiv (if (if
 (2047:Int)<x0 then(2047:Int)else x0)>(-2047:Int)then(if (2047:Int)<x0 then(2047:Int)else x0)else(-2047:Int)) (256:Int)))) (2:
 Int)))*(Int.tmod (if (if (2047:Int)<x0 then(2047:Int)else x0)>(-2047:Int)then(if (2047:Int)<x0 then(2047:Int)else x0)else(-2047:
 Int)) (256:Int)))) (256:Int)))))))))) w)
theorem S_squash_Squash {x0:Int} {w:World} {R:Ending→World→Prop} (h:F_squash_Squash x0 w fun v w'=>R (.returned v) w'):Calls prog n_squash_Squash #[.int .i64 x0] w R:=vcS noAnn func251 (by kernel_rfl) (by kernel_rfl) h
def F_mixer_Mix (x0:Option Addr) (x0n:Nat) (x0c:Nat) (x1:Option Addr) (x1n:Nat) (x1c:Nat) (w:World) (R:Value→World→Prop):Prop:=
 ∃I0:Nat→Int→Int→World→Prop,(∃m_2,I0 m_2 (0:Int) (0:Int) w)∧∀m,∀x5:Int,∀x12:Int,∀w1,I0 m x5 x12 w1→(bif decide (x12<(if ((x1n
 :Nat):Int)<((x0n:Nat):Int)then((x1n:Nat):Int)else((x0n:Nat):Int)))then(∀w2,w2=w1.drew→0≤x12∧x12<((x0n:Nat):Int)∧OSome
 x0 fun p18=>∃x19:Int,w2.cell? (p18.add (Int.toNat x12*1))=some (.int .i64 x19)∧0≤x12∧x12<((x1n:Nat):Int)∧OSome x1 fun p23=>∃x24:
 Int,w2.cell? (p23.add (Int.toNat x12*1))=some (.int .i64 x24)∧Calls prog n_mixer_weight #[.int .i64 x19] w2 (fun e w3=>∃x20:Int,e= .returned
 (.int .i64 x20)∧((w2.cell? (p23.add (Int.toNat x12*1))=some (.int .i64 x24)→w3.cell? (p23.add (Int.toNat x12*1))=some (.int .i64 x24))∧True)∧
 Calls prog n_mixer_input #[.int .i64 x24] w3 (fun e_2 w4=>∃x25:Int,e_2= .returned (.int .i64 x25)∧((w3.cell? (p18.add (Int.toNat x12*1))=some
 (.int .i64 x19)→w4.cell? (p18.add (Int.toNat x12*1))=some (.int .i64 x19))∧True)∧∃m_3,m_3<m∧I0 m_3 (W64 (x5+(W64 (x20*x25)))) (W64 (x12+
 (1:Int))) w4)))else(0≤(16:Int)∧Calls prog n_mixer_input #[.int .i64 (shrI .i64 x5 (16:Int))] w1 (fun e_3 w5=>∃x31:Int,e_3= .returned (.int
 .i64 x31)∧Calls prog n_squash_Squash #[.int .i64 x31] w5 (fun e_4 w6=>∃x32:Int,e_4= .returned (.int .i64 x32)∧R (.int .i64 x32) w6))))
def A_mixer_Mix:Ann:= {loop:=fun k=>cond (Nat.beq k 0) (some (536866912,[5,12],[.int .i64,.int .i64])) (none),join:=fun k=>none,nf:=fun k=> []}
theorem S_mixer_Mix {x0:Option Addr} {x0n:Nat} {x0c:Nat} {x1:Option Addr} {x1n:Nat} {x1c:Nat} {w:World} {R:Ending→World→Prop} (h:F_mixer_Mix x0 x0n x0c x1 x1n x1c w fun v w'=>R (.returned v) w'):Calls prog n_mixer_Mix #[.slice x0 x0n x0c,.slice x1 x1n x1c] w R:=vcS A_mixer_Mix func239 (by kernel_rfl) (by kernel_rfl) h
def F_mixer_Train (x0:Option Addr) (x0n:Nat) (x0c:Nat) (x1:Option Addr) (x1n:Nat) (x1c:Nat) (x2:Int) (x3:Int) (w:World) (R:Value→World→
 Prop):Prop:=
 ∀J4:Int→World→Prop,(∀x9:Int,∀w1,(∃I0:Nat→Option Addr→Nat→Nat→Int→World→Prop,(∃m_2,I0 m_2 none 0 0 (0:Int) w1)∧∀m,∀x10:
 Option Addr,∀x10n:Nat,∀x10c:Nat,∀x24:Int,∀w2,I0 m x10 x10n x10c x24 w2→(bif decide (x24<((x0n:Nat):Int))then(0≤x24∧x24<((x0n:
 Nat):Int)∧OSome x0 fun p27=>∃x28:Int,w2.cell? (p27.add (Int.toNat x24*1))=some (.int .i64 x28)∧Calls prog n_mixer_weight #[.int .i64 x28] w2
 (fun e w3=>∃x30:Int,e= .returned (.int .i64 x30)∧bif decide (x24<((x1n:Nat):Int))then(0≤x24∧x24<((x1n:Nat):Int)∧OSome x1 fun p38
 =>∃x39:Int,w3.cell? (p38.add (Int.toNat x24*1))=some (.int .i64 x39)∧Calls prog n_mixer_input #[.int .i64 x39] w3 (fun e_2 w4=>∃x40:Int,e_2=
 .returned (.int .i64 x40)∧0≤(10:Int)∧Calls prog n_mixer_weight #[.int .i64 (W64 (x30+(shrI .i64 (W64 (x40*x9)) (10:Int))))] w4 (fun e_3 w5=>∃
 x45:Int,e_3= .returned (.int .i64 x45)∧∀w6 b48,w6=w5.alloc (.cells #[.int .i64 x45] t_int)→b48=w5.heap.size→∃x49:Option Addr,∃x49n:Nat,
 ∃x49c:Nat,∃w7:World,(Builtin.append_ #[t_S_int,t_S_int] t_S_int #[.slice x10 x10n x10c,.slice (some (A0 b48)) 1 1]).run prog w6= .ok (.slice x49
 x49n x49c) w7∧∃m_3,m_3<m∧I0 m_3 x49 x49n x49c (W64 (x24+(1:Int))) w7)))else(∀w8 b48_2,w8=w3.alloc (.cells #[.int .i64 x30] t_int)→b48_2=
 w3.heap.size→∃x49_2:Option Addr,∃x49_2n:Nat,∃x49_2c:Nat,∃w9:World,(Builtin.append_ #[t_S_int,t_S_int] t_S_int #[.slice x10 x10n x10c,.slice
 (some (A0 b48_2)) 1 1]).run prog w8= .ok (.slice x49_2 x49_2n x49_2c) w9∧∃m_3,m_3<m∧I0 m_3 x49_2 x49_2n x49_2c (W64 (x24+(1:Int))) w9)))else(R
 (.slice x10 x10n x10c) w2)))→J4 x9 w1)→bif x3 !=(0:Int)then(J4 (W64 ((W64 (0-if (if (4096:Int)<x2 then(4096:Int)else x2)>(0:Int)then
 (if (4096:Int)<x2 then(4096:Int)else x2)else(0:Int)))+(4096:Int))) w)else(J4 (W64 (0-if (if (4096:Int)<x2 then(4096:Int)else x2)>
 (0:Int)then(if (4096:Int)<x2 then(4096:Int)else x2)else(0:Int))) w)
def A_mixer_Train:Ann:= {loop:=fun k=>cond (Nat.beq k 0) (some (2251799796923392,[10,24],[.sl,.int .i64])) (none),join:=fun k=>cond (Nat.beq k 4) (some (3932672,[9],[.int .i64])) (none),nf:=fun k=> []}
theorem S_mixer_Train {x0:Option Addr} {x0n:Nat} {x0c:Nat} {x1:Option Addr} {x1n:Nat} {x1c:Nat} {x2:Int} {x3:Int} {w:World} {R:Ending→World→Prop} (h:F_mixer_Train x0 x0n x0c x1 x1n x1c x2 x3 w fun v w'=>R (.returned v) w'):Calls prog n_mixer_Train #[.slice x0 x0n x0c,.slice x1 x1n x1c,.int .i64 x2,.int .i64 x3] w R:=vcS A_mixer_Train func240 (by kernel_rfl) (by kernel_rfl) h
def F_mixer_weight (x0:Int) (w:World) (R:Value→World→Prop):Prop:=
 R (.int .i64 (if (if (1048576:Int)<x0 then(1048576:Int)else x0)>(-1048576:Int)then(if (1048576:Int)<x0 then(1048576:Int)else x0)else
 (-1048576:Int))) w
theorem S_mixer_weight {x0:Int} {w:World} {R:Ending→World→Prop} (h:F_mixer_weight x0 w fun v w'=>R (.returned v) w'):Calls prog n_mixer_weight #[.int .i64 x0] w R:=vcS noAnn func252 (by kernel_rfl) (by kernel_rfl) h
def F_mixer_input (x0:Int) (w:World) (R:Value→World→Prop):Prop:=
 R (.int .i64 (if (if (2047:Int)<x0 then(2047:Int)else x0)>(-2047:Int)then(if (2047:Int)<x0 then(2047:Int)else x0)else(-2047:Int))) w
theorem S_mixer_input {x0:Int} {w:World} {R:Ending→World→Prop} (h:F_mixer_input x0 w fun v w'=>R (.returned v) w'):Calls prog n_mixer_input #[.int .i64 x0] w R:=vcS noAnn func253 (by kernel_rfl) (by kernel_rfl) h
def F_model_Put (x0:Option Addr) (x0n:Nat) (x0c:Nat) (w:World) (R:Value→World→Prop):Prop:=
 Calls prog n_model_made #[] w (fun e w1=>∃x10:Option Addr,e= .returned (.pointer x10)∧Calls prog n_chance_New #[] w1 (fun e_2 w2=>∃x11:Option Addr,
 e_2= .returned (.pointer x11)∧∃I0:Nat→Int→World→Prop,(∃m_2,I0 m_2 (0:Int) w2)∧∀m,∀x14:Int,∀w3,I0 m x14 w3→(bif decide (x14<((x0n
 :Nat):Int))then(0≤x14∧x14<((x0n:Nat):Int)∧OSome x0 fun p16=>∃x17a:Int,∃x17b:Int,LdL w3 (p16.add (Int.toNat x14*2)) 0 [.int .i64
 x17a,.int .u64 x17b]∧∀w4 b7,w4=w3.alloc (.cells #[.int .i64 0,.int .u64 0] t_api_Part)→b7=w3.heap.size→Sto w4 (A0 b7) (.int .i64 x17a) fun w5=>
 Sto w5 ((A0 b7).add 1) (.int .u64 x17b) fun w6=>∃x19a:Int,∃x19b:Int,LdL w6 (A0 b7) 0 [.int .i64 x19a,.int .u64 x19b]∧Calls prog n_zig_Join #[.agg
 #[.int .i64 x19a,.int .u64 x19b]] w6 (fun e_3 w7=>∃x20r0:Int,∃x20r1:Bool,e_3= .returned (.tuple #[.int .i64 x20r0,.bool x20r1])∧bif !x20r1 then
 (R (.tuple #[.string (⟨#[]⟩:ByteArray),.int .i64 (1:Int)]) w7)else(∃x27:Int,w7.cell? (A0 b7)=some (.int .i64 x27)∧Calls prog n_model_model_forth
 #[.pointer x10,.int .i64 x27,.func (.func n_chance_Encoder_Bit) #[.pointer x11] #[]] w7 (fun e_4 w8=>e_4= .returned (.tuple #[])∧∃x33:Int,w8.cell?
 ((A0 b7).add 1)=some (.int .u64 x33)∧∃x35:Int,w8.cell? (A0 b7)=some (.int .i64 x35)∧Calls prog n_chance_Encoder_Direct #[.pointer x11,.int .u64
 x33,.int .i64 (W64 (x35-(1:Int)))] w8 (fun e_5 w9=>e_5= .returned (.tuple #[])∧∃m_3,m_3<m∧I0 m_3 (W64 (x14+(1:Int))) w9)))))else(Calls
 prog n_chance_Encoder_Bytes #[.pointer x11] w3 (fun e_6 w10=>∃x40:ByteArray,e_6= .returned (.string x40)∧R (.tuple #[.string x40,.int .i64 (0:
 Int)]) w10)))))
def A_model_Put:Ann:= {loop:=fun k=>cond (Nat.beq k 0) (some (549755798412,[14],[.int .i64])) (none),join:=fun k=>none,nf:=fun k=> []}
theorem S_model_Put {x0:Option Addr} {x0n:Nat} {x0c:Nat} {w:World} {R:Ending→World→Prop} (h:F_model_Put x0 x0n x0c w fun v w'=>R (.returned v) w'):Calls prog n_model_Put #[.slice x0 x0n x0c] w R:=vcS A_model_Put func75 (by kernel_rfl) (by kernel_rfl) h
def F_model_Get (x0:ByteArray) (x1:Int) (w:World) (R:Value→World→Prop):Prop:=
 ∀J3:World→Prop,(∀w1,(Calls prog n_model_made #[] w1 (fun e w2=>∃x19:Option Addr,e= .returned (.pointer x19)∧Calls prog n_chance_From #[.string
 x0] w2 (fun e_2 w3=>∃x21:Option Addr,e_2= .returned (.pointer x21)∧∃I0:Nat→Option Addr→Nat→Nat→Int→World→Prop,(∃m_2,I0 m_2 none 0 0
 (0:Int) w3)∧∀m,∀x9:Option Addr,∀x9n:Nat,∀x9c:Nat,∀x25:Int,∀w4,I0 m x9 x9n x9c x25 w4→(bif decide (x25<x1)then(Calls prog
 n_model_model_class #[.pointer x19,.func (.func n_chance_Decoder_Bit) #[.pointer x21] #[]] w4 (fun e_3 w5=>∃x30r0:Int,∃x30r1:Int,e_3= .returned
 (.tuple #[.int .i64 x30r0,.int .i64 x30r1])∧bif x30r1 !=(0:Int)then(R (.tuple #[.slice none 0 0,.int .i64 x30r1]) w5)else(Calls prog
 n_chance_Decoder_Direct #[.pointer x21,.int .i64 (W64 (x30r0-(1:Int)))] w5 (fun e_4 w6=>∃x40r0:Int,∃x40r1:Int,e_4= .returned (.tuple #[.int
 .u64 x40r0,.int .i64 x40r1])∧bif x40r1 !=(0:Int)then(R (.tuple #[.slice none 0 0,.int .i64 x40r1]) w6)else(∀w7 b50,w7=w6.alloc (.cells #[.int
 .i64 x30r0,.int .u64 x40r0] t_api_Part)→b50=w6.heap.size→∃x51:Option Addr,∃x51n:Nat,∃x51c:Nat,∃w8:World,(Builtin.append_ #[t_S_api_Part,
 t_S_api_Part] t_S_api_Part #[.slice x9 x9n x9c,.slice (some (A0 b50)) 1 1]).run prog w7= .ok (.slice x51 x51n x51c) w8∧∃m_3,m_3<m∧I0 m_3 x51 x51n
 x51c (W64 (x25+(1:Int))) w8)))))else(Calls prog n_chance_Decoder_End #[.pointer x21] w4 (fun e_5 w9=>∃x54:Int,e_5= .returned (.int .i64 x54)∧bif
 x54 !=(0:Int)then(R (.tuple #[.slice none 0 0,.int .i64 (3:Int)]) w9)else(R (.tuple #[.slice x9 x9n x9c,.int .i64 (0:Int)]) w9)))))))→J3 w1)→
 bif decide (x1<(0:Int))then(R (.tuple #[.slice none 0 0,.int .i64 (1:Int)]) w)else(bif decide (x1>(4096:Int))then(R (.tuple #[.slice none 0 0,
 .int .i64 (1:Int)]) w)else(J3 w))
def A_model_Get:Ann:= {loop:=fun k=>cond (Nat.beq k 0) (some (9007199221194288,[9,25],[.sl,.int .i64])) (none),join:=fun k=>cond (Nat.beq k 3) (some (516144,[],[])) (none),nf:=fun k=> []}
theorem S_model_Get {x0:ByteArray} {x1:Int} {w:World} {R:Ending→World→Prop} (h:F_model_Get x0 x1 w fun v w'=>R (.returned v) w'):Calls prog n_model_Get #[.string x0,.int .i64 x1] w R:=vcS A_model_Get func104 (by kernel_rfl) (by kernel_rfl) h
def F_model_made (w:World) (R:Value→World→Prop):Prop:=
 ∀w1 b8,w1=w.alloc (.cells #[.slice none 0 0,.slice none 0 0,.slice none 0 0,.slice none 0 0,.slice none 0 0,.slice none 0 0,.slice none 0 0,.slice
 none 0 0,.slice none 0 0,.slice none 0 0,.int .i64 0,.int .i64 0] t_model_model)→b8=w.heap.size→∃I0:Nat→Int→World→Prop,(∃m_2,I0 m_2 (0:
 Int) w1)∧∀m,∀x10:Int,∀w2,I0 m x10 w2→(bif decide (x10<(3:Int))then(0≤x10∧x10<((3:Nat):Int)∧∃x13:Int,([.int .i64 (1:Int),
 .int .i64 (65:Int),.int .i64 (65:Int)]:List Value)[Int.toNat x10*1]? =some (.int .i64 x13)∧∀w3,w3=w2.drew→OSome (some (A0 b8)) fun p18=>0≤
 x13∧x13≤x13∧((1024:Nat):Int)*x13≤((maxMake:Nat):Int)∧∀w4 b17,w4=w3.alloc (.cells (mkCells TAB t_model_row (Int.toNat x13)) t_model_row)
 →b17=w3.heap.size→(True)∧0≤x10∧x10<((3:Nat):Int)∧Sto w4 (p18.add (Int.toNat x10*1)) (.slice (some (A0 b17)) (Int.toNat x13) (Int.toNat
 x13)) fun w5=>(True)∧OSome (some (A0 b8)) fun p23=>0≤x10∧x10<((3:Nat):Int)∧∃x26:Option Addr,∃x26n:Nat,∃x26c:Nat,w5.cell? (p23.add
 (Int.toNat x10*1))=some (.slice x26 x26n x26c)∧∃I2:Nat→Int→World→Prop,(∃m_5,I2 m_5 (0:Int) w5)∧∀m_4,∀x28:Int,∀w6,I2 m_4 x28 w6→
 (bif decide (x28<((x26n:Nat):Int))then(∃I4:Nat→Int→World→Prop,(∃m_8,I4 m_8 (0:Int) w6)∧∀m_7,∀x31:Int,∀w7,I4 m_7 x31 w7→(bif
 decide (x31<(128:Int))then(OSome (some (A0 b8)) fun p36=>0≤x10∧x10<((3:Nat):Int)∧∃x39:Option Addr,∃x39n:Nat,∃x39c:Nat,w7.cell?
 (p36.add (Int.toNat x10*1))=some (.slice x39 x39n x39c)∧0≤x28∧x28<((x39n:Nat):Int)∧OSome x39 fun p42=>0≤x31∧x31<((128:Nat):Int)∧
 Sto w7 ((p42.add (Int.toNat x28*128)).add (Int.toNat x31*1)) (.int .i64 (2048:Int)) fun w8=>∃m_9,m_9<m_7∧I4 m_9 (W64 (x31+(1:Int))) w8)else
 (∃m_6,m_6<m_4∧I2 m_6 (W64 (x28+(1:Int))) w7)))else(∃m_3,m_3<m∧I0 m_3 (W64 (x10+(1:Int))) w6)))else(∃I6:Nat→Int→World→Prop,(∃
 m_11,I6 m_11 (0:Int) w2)∧∀m_10,∀x47:Int,∀w9,I6 m_10 x47 w9→(bif decide (x47<(7:Int))then(∀w10 b52,w10=w9.alloc (.cells #[.int .i64
 (21845:Int),.int .i64 (21845:Int),.int .i64 (21845:Int)] t_int)→b52=w9.heap.size→OSome (some (A0 b8)) fun p53=>0≤x47∧x47<((7:Nat):
 Int)∧Sto w10 ((p53.add 3).add (Int.toNat x47*1)) (.slice (some (A0 b52)) 3 3) fun w11=>∃m_12,m_12<m_10∧I6 m_12 (W64 (x47+(1:Int))) w11)else(R
 (.pointer (some (A0 b8))) w9))))
def A_model_made:Ann:= {loop:=fun k=>cond (Nat.beq k 6) (some (143974450587500608,[47],[.int .i64])) (cond (Nat.beq k 4) (some (35182224605216,[31],[.int .i64])) (cond (Nat.beq k 2) (some (70368475742256,[28],[.int .i64])) (cond (Nat.beq k 0) (some (140737488354364,[10],[.int .i64])) (none)))),join:=fun k=>none,nf:=fun k=> []}
theorem S_model_made {w:World} {R:Ending→World→Prop} (h:F_model_made w fun v w'=>R (.returned v) w'):Calls prog n_model_made #[] w R:=vcS A_model_made func148 (by kernel_rfl) (by kernel_rfl) h
def F_model_model_forth (x0:Option Addr) (x1:Int) (x2:Nat) (x2f:Array Value) (x2k:Array Value) (w:World) (R:Value→World→Prop):Prop:=
 Calls prog n_tree_Nodes #[.int .i64 x1] w (fun e w1=>∃x11r0:Option Addr,∃x11r0n:Nat,∃x11r0c:Nat,∃x11r1:Option Addr,∃x11r1n:Nat,∃x11r1c:
 Nat,e= .returned (.tuple #[.slice x11r0 x11r0n x11r0c,.slice x11r1 x11r1n x11r1c])∧∀w2 b17,w2=w1.alloc (.cells #[.slice x11r1 x11r1n x11r1c,.func
 (.func x2) x2f x2k] t_model_told)→b17=w1.heap.size→Calls prog n_model_model_class #[.pointer x0,.func (.func n_model_told_next) #[.pointer (some (A0
 b17))] #[]] w2 (fun e_2 w3=>∃x21r0:Int,∃x21r1:Int,e_2= .returned (.tuple #[.int .i64 x21r0,.int .i64 x21r1])∧R (.tuple #[]) w3))
theorem S_model_model_forth {x0:Option Addr} {x1:Int} {x2:Nat} {x2f:Array Value} {x2k:Array Value} {w:World} {R:Ending→World→Prop} (h:F_model_model_forth x0 x1 x2 x2f x2k w fun v w'=>R (.returned v) w'):Calls prog n_model_model_forth #[.pointer x0,.int .i64 x1,.func (.func x2) x2f x2k] w R:=vcS noAnn func150 (by kernel_rfl) (by kernel_rfl) h
def F_model_model_class (x0:Option Addr) (x1:Nat) (x1f:Array Value) (x1k:Array Value) (w:World) (R:Value→World→Prop):Prop:=
 ∃I0:Nat→Int→Int→World→Prop,(∃m_2,I0 m_2 (1:Int) (0:Int) w)∧∀m,∀x6:Int,∀x10:Int,∀w1,I0 m x6 x10 w1→(bif decide (x10<(7:Int))
 then(Calls prog n_model_model_bit #[.pointer x0,.int .i64 x10,.int .i64 x6,.func (.func x1) x1f x1k] w1 (fun e w2=>∃x18r0:Int,∃x18r1:Int,e=
 .returned (.tuple #[.int .i64 x18r0,.int .i64 x18r1])∧bif x18r1 !=(0:Int)then(R (.tuple #[.int .i64 (0:Int),.int .i64 x18r1]) w2)else(∃m_3,m_3<
 m∧I0 m_3 (W64 ((W64 ((2:Int)*x6))+x18r0)) (W64 (x10+(1:Int))) w2)))else(bif decide ((W64 (x6-(128:Int)))≥(65:Int))then(R (.tuple #[.int
 .i64 (0:Int),.int .i64 (3:Int)]) w1)else(OSome x0 fun p37=>∃x39:Int,w1.cell? (p37.add 10)=some (.int .i64 x39)∧OSome x0 fun p40=>Sto w1
 (p40.add 10) (.int .i64 (W64 (x6-(128:Int)))) fun w3=>OSome x0 fun p42=>Sto w3 (p42.add 11) (.int .i64 x39) fun w4=>R (.tuple #[.int .i64 (W64 (x6-
 (128:Int))),.int .i64 (0:Int)]) w4)))
def A_model_model_class:Ann:= {loop:=fun k=>cond (Nat.beq k 0) (some (536870896,[6,10],[.int .i64,.int .i64])) (none),join:=fun k=>none,nf:=fun k=> []}
theorem S_model_model_class {x0:Option Addr} {x1:Nat} {x1f:Array Value} {x1k:Array Value} {w:World} {R:Ending→World→Prop} (h:F_model_model_class x0 x1 x1f x1k w fun v w'=>R (.returned v) w'):Calls prog n_model_model_class #[.pointer x0,.func (.func x1) x1f x1k] w R:=vcS A_model_model_class func179 (by kernel_rfl) (by kernel_rfl) h
def F_model_told_next (x0:Option Addr) (x1:Int) (w:World) (R:Value→World→Prop):Prop:=
 OSome x0 fun p8=>∃x10:Option Addr,∃x10n:Nat,∃x10c:Nat,w.cell? p8=some (.slice x10 x10n x10c)∧0≤(0:Int)∧(0:Int)<((x10n:Nat):Int)∧
 OSome x10 fun p11=>∃x12:Int,w.cell? (p11.add (Int.toNat (0:Int)*1))=some (.int .i64 x12)∧OSome x0 fun p15=>∃x17:Option Addr,∃x17n:Nat,∃
 x17c:Nat,w.cell? p15=some (.slice x17 x17n x17c)∧0≤(1:Int)∧(1:Int)≤((x17n:Nat):Int)∧OSome x0 fun p19=>Sto w p19 (.slice (sA x17 1
 (Int.toNat (1:Int)) x17c) (x17n-(Int.toNat (1:Int))) (x17c-(Int.toNat (1:Int)))) fun w1=>OSome x0 fun p22=>∃x24:Nat,∃x24f:Array Value,∃
 x24k:Array Value,w1.cell? (p22.add 1)=some (.func (.func x24) x24f x24k)∧cond (fok x24) (Calls prog x24 (x24f.toList++([.int .i64 x1,.int .i64 x12]:
 List Value)++x24k.toList).toArray w1 (fun e w2=>e= .returned (.tuple #[])∧R (.tuple #[.int .i64 x12,.int .i64 (0:Int)]) w2)) False
theorem S_model_told_next {x0:Option Addr} {x1:Int} {w:World} {R:Ending→World→Prop} (h:F_model_told_next x0 x1 w fun v w'=>R (.returned v) w'):Calls prog n_model_told_next #[.pointer x0,.int .i64 x1] w R:=vcS noAnn func211 (by kernel_rfl) (by kernel_rfl) h
def F_model_model_bit (x0:Option Addr) (x1:Int) (x2:Int) (x3:Nat) (x3f:Array Value) (x3k:Array Value) (w:World) (R:Value→World→Prop):Prop
 :=
 Calls prog n_model_model_rows #[.pointer x0] w (fun e w1=>∃x20a:Option Addr,∃x20b:Option Addr,∃x20c:Option Addr,e= .returned (.agg #[.pointer
 x20a,.pointer x20b,.pointer x20c])∧∀w2 b10,w2=w1.alloc (.cells #[.pointer none,.pointer none,.pointer none] t_A3_P_model_row)→b10=w1.heap.size→
 Sto w2 (A0 b10) (.pointer x20a) fun w3=>Sto w3 ((A0 b10).add 1) (.pointer x20b) fun w4=>Sto w4 ((A0 b10).add 2) (.pointer x20c) fun w5=>∃x21a:Option
 Addr,∃x21b:Option Addr,∃x21c:Option Addr,LdL w5 (A0 b10) 0 [.pointer x21a,.pointer x21b,.pointer x21c]∧∃I0:Nat→Option Addr→Nat→Nat→Int
 →World→Prop,(∃m_2,I0 m_2 none 0 0 (0:Int) w5)∧∀m,∀x11:Option Addr,∀x11n:Nat,∀x11c:Nat,∀x22:Int,∀w6,I0 m x11 x11n x11c x22 w6→
 (bif decide (x22<(3:Int))then(0≤x22∧x22<((3:Nat):Int)∧∃x24:Option Addr,([.pointer x21a,.pointer x21b,.pointer x21c]:List
 Value)[Int.toNat x22*1]? =some (.pointer x24)∧OSome x24 fun p28=>0≤x2∧x2<((128:Nat):Int)∧∃x30:Int,w6.cell? (p28.add (Int.toNat x2*1))
 =some (.int .i64 x30)∧Calls prog n_squash_Stretch #[.int .i64 x30] w6 (fun e_2 w7=>∃x31:Int,e_2= .returned (.int .i64 x31)∧∀w8 b32,w8=w7.alloc
 (.cells #[.int .i64 x31] t_int)→b32=w7.heap.size→∃x33:Option Addr,∃x33n:Nat,∃x33c:Nat,∃w9:World,(Builtin.append_ #[t_S_int,t_S_int]
 t_S_int #[.slice x11 x11n x11c,.slice (some (A0 b32)) 1 1]).run prog w8= .ok (.slice x33 x33n x33c) w9∧∃m_3,m_3<m∧I0 m_3 x33 x33n x33c (W64 (x22+(1
 :Int))) w9))else(OSome x0 fun p37=>0≤x1∧x1<((7:Nat):Int)∧∃x40:Option Addr,∃x40n:Nat,∃x40c:Nat,w6.cell? ((p37.add 3).add (Int.toNat
 x1*1))=some (.slice x40 x40n x40c)∧Calls prog n_mixer_Mix #[.slice x40 x40n x40c,.slice x11 x11n x11c] w6 (fun e_3 w10=>∃x42:Int,e_3= .returned
 (.int .i64 x42)∧cond (fok x3) (Calls prog x3 (x3f.toList++([.int .i64 x42]:List Value)++x3k.toList).toArray w10 (fun e_4 w11=>∃x46r0:Int,∃x46r1
 :Int,e_4= .returned (.tuple #[.int .i64 x46r0,.int .i64 x46r1])∧bif x46r1 !=(0:Int)then(R (.tuple #[.int .i64 (0:Int),.int .i64 x46r1]) w11)else
 (∀w12,w12=w11.drew→OSome x0 fun p56=>0≤x1∧x1<((7:Nat):Int)∧∃x59:Option Addr,∃x59n:Nat,∃x59c:Nat,w12.cell? ((p56.add 3).add
 (Int.toNat x1*1))=some (.slice x59 x59n x59c)∧OSome x0 fun p64=>Calls prog n_mixer_Train #[.slice x59 x59n x59c,.slice x11 x11n x11c,.int .i64 x42,
 .int .i64 x46r0] w12 (fun e_5 w13=>∃x63:Option Addr,∃x63n:Nat,∃x63c:Nat,e_5= .returned (.slice x63 x63n x63c)∧(True)∧0≤x1∧x1<((7:
 Nat):Int)∧Sto w13 ((p64.add 3).add (Int.toNat x1*1)) (.slice x63 x63n x63c) fun w14=>(True)∧∃x67a:Option Addr,∃x67b:Option Addr,∃x67c:
 Option Addr,LdL w14 (A0 b10) 0 [.pointer x67a,.pointer x67b,.pointer x67c]∧∃I2:Nat→Int→World→Prop,(∃m_5,I2 m_5 (0:Int) w14)∧∀m_4,∀x68:
 Int,∀w15,I2 m_4 x68 w15→(bif decide (x68<(3:Int))then(0≤x68∧x68<((3:Nat):Int)∧∃x71:Option Addr,([.pointer x67a,.pointer x67b,
 .pointer x67c]:List Value)[Int.toNat x68*1]? =some (.pointer x71)∧∀w16,w16=w15.drew→OSome x71 fun p76=>0≤x2∧x2<((128:Nat):Int)∧∃x78
 :Int,w16.cell? (p76.add (Int.toNat x2*1))=some (.int .i64 x78)∧OSome x71 fun p83=>Calls prog n_tree_Move #[.int .i64 x78,.int .i64 x46r0,.int .i64
 (W64 ((4:Int)+x68))] w16 (fun e_6 w17=>∃x82:Int,e_6= .returned (.int .i64 x82)∧(True)∧0≤x2∧x2<((128:Nat):Int)∧Sto w17 (p83.add
 (Int.toNat x2*1)) (.int .i64 x82) fun w18=>(True)∧∃m_6,m_6<m_4∧I2 m_6 (W64 (x68+(1:Int))) w18))else(R (.tuple #[.int .i64 x46r0,.int .i64 (0
 :Int)]) w15)))))) False))))
def A_model_model_bit:Ann:= {loop:=fun k=>cond (Nat.beq k 2) (some (77370957307431087828762624,[68],[.int .i64])) (cond (Nat.beq k 0) (some (34355554304,[11,22],[.sl,.int .i64])) (none)),join:=fun k=>none,nf:=fun k=> []}
theorem S_model_model_bit {x0:Option Addr} {x1:Int} {x2:Int} {x3:Nat} {x3f:Array Value} {x3k:Array Value} {w:World} {R:Ending→World→Prop} (h:F_model_model_bit x0 x1 x2 x3 x3f x3k w fun v w'=>R (.returned v) w'):Calls prog n_model_model_bit #[.pointer x0,.int .i64 x1,.int .i64 x2,.func (.func x3) x3f x3k] w R:=vcS A_model_model_bit func225 (by kernel_rfl) (by kernel_rfl) h
def F_model_model_rows (x0:Option Addr) (w:World) (R:Value→World→Prop):Prop:=
 ∀w1 b2,w1=w.alloc (.cells #[.pointer none,.pointer none,.pointer none] t_A3_P_model_row)→b2=w.heap.size→∀w2,w2=w1.drew→OSome x0 fun p4=>0≤
 (0:Int)∧(0:Int)<((3:Nat):Int)∧∃x7:Option Addr,∃x7n:Nat,∃x7c:Nat,w2.cell? (p4.add (Int.toNat (0:Int)*1))=some (.slice x7 x7n
 x7c)∧0≤(0:Int)∧(0:Int)<((x7n:Nat):Int)∧OSome x7 fun p8=>OSome x0 fun p10=>0≤(1:Int)∧(1:Int)<((3:Nat):Int)∧∃x13:Option
 Addr,∃x13n:Nat,∃x13c:Nat,w2.cell? (p10.add (Int.toNat (1:Int)*1))=some (.slice x13 x13n x13c)∧OSome x0 fun p15=>∃x17:Int,w2.cell?
 (p15.add 10)=some (.int .i64 x17)∧0≤x17∧x17<((x13n:Nat):Int)∧OSome x13 fun p18=>OSome x0 fun p20=>0≤(2:Int)∧(2:Int)<((3:Nat):
 Int)∧∃x23:Option Addr,∃x23n:Nat,∃x23c:Nat,w2.cell? (p20.add (Int.toNat (2:Int)*1))=some (.slice x23 x23n x23c)∧OSome x0 fun p25=>∃x27
 :Int,w2.cell? (p25.add 10)=some (.int .i64 x27)∧OSome x0 fun p29=>∃x31:Int,w2.cell? (p29.add 11)=some (.int .i64 x31)∧(3:Int)≠0∧0≤(W64
 (Int.tdiv (W64 (x27+(W64 ((2:Int)*x31)))) (3:Int)))∧(W64 (Int.tdiv (W64 (x27+(W64 ((2:Int)*x31)))) (3:Int)))<((x23n:Nat):Int)∧OSome
 x23 fun p35=>Sto w2 (A0 b2) (.pointer (some (p8.add (Int.toNat (0:Int)*128)))) fun w3=>Sto w3 ((A0 b2).add 1) (.pointer (some (p18.add (Int.toNat x17*
 128)))) fun w4=>Sto w4 ((A0 b2).add 2) (.pointer (some (p35.add (Int.toNat (W64 (Int.tdiv (W64 (x27+(W64 ((2:Int)*x31)))) (3:Int)))*128)))) fun w5
 =>(True)∧∃r0a:Option Addr,∃r0b:Option Addr,∃r0c:Option Addr,LdL w5 (A0 b2) 0 [.pointer r0a,.pointer r0b,.pointer r0c]∧R (.agg #[.pointer
 r0a,.pointer r0b,.pointer r0c]) w5
theorem S_model_model_rows {x0:Option Addr} {w:World} {R:Ending→World→Prop} (h:F_model_model_rows x0 w fun v w'=>R (.returned v) w'):Calls prog n_model_model_rows #[.pointer x0] w R:=vcS noAnn func237 (by kernel_rfl) (by kernel_rfl) h
end Go.Proofs.Tryz
namespace Go.Proofs.Tryz
open Go Go.RowKit Go.Proofs.VC
variable {M:List Nat} {w0 w:World} {L:List En}
def ES (M:List Nat) (w0 w:World) (L:List En) (b:Nat) (x:CS):Prop:=
 ∃a n c,Sx M w0 w (.ob b (.cells #[.slice a n c,.int .u64 (x.low:Int),.int .u64 (x.R:Int)] t_chance_Encoder (0,0)):: .ow t_uint8 1 a n c (u8s x.done)::L)
theorem done_len (x:CS):x.done.length=x.k-4:=beN_len _ _
theorem low_lt (x:CS):x.low<4294967296:=Nat.mod_lt _ (by decide)
theorem T_chance_New {R:Ending→World→Prop} (H:Sx M w0 w L) (h:∀w' b,ES M w0 w' L b CS.new→R (.returned (.pointer (some (A0 b)))) w'):Calls prog n_chance_New #[] w R:=by
 refine S_chance_New ?_
 unfold F_chance_New
 refine H.alloc fun w1 b1 _ H=>Sx.alloc (H.asOw 1 1 1 (Nat.le_refl _) (by decide) rfl) fun w2 b3 _ H=>?_
 exact h w2 b3 ⟨_,_,_,H⟩
theorem T_chance_cut (p:Nat) (hp:p≤4611686018427387904) (w:World):Calls prog n_chance_cut #[.int .i64 (p:Int)] w fun e w'=>e= .returned (.int .u64 (cutN p:Int))∧Fr [] w w':=by
 refine S_chance_cut ?_
 unfold F_chance_cut
 have e:(if (if (4095:Int)<(p:Int)then(4095:Int)else(p:Int))>(1:Int)then(if (4095:Int)<(p:Int)then(4095:Int)else(p:Int))else(1:Int))=((cutN p:Nat):Int):=by
  unfold cutN;split<;>split<;>omega
 rw [e,U64_nat,Nat.mod_eq_of_lt (by have:=cutN_le p;omega)]
 exact⟨rfl,Fr.refl _ _⟩
theorem tdiv_nat' (a b:Nat):Int.tdiv (a:Int) (b:Int)=((a/b:Nat):Int):=by rw [Int.tdiv_eq_ediv_of_nonneg (by omega)];rfl
theorem T_chance_share (s p:Nat) (hs:s<4294967296) (hp:p≤4611686018427387904) (w:World):Calls prog n_chance_share #[.int .u64 (s:Int),.int .i64 (p:Int)] w fun e w'=>e= .returned (.int .u64 (shareN s p:Int))∧Fr [] w w':=by
 refine S_chance_share ?_
 unfold F_chance_share
 refine⟨by decide,(T_chance_cut p hp w).mono ?_⟩
 rintro e w1 ⟨rfl,hf⟩
 refine⟨_,rfl,?_,hf⟩
 have h1:=cutN_le p
 have h2:s/4096*cutN p≤s/4096*4095:=Nat.mul_le_mul_left _ h1.2
 have e1:U64 (Int.tdiv (s:Int) 4096)=((s/4096:Nat):Int):=by
  rw [show(4096:Int)=((4096:Nat):Int)from rfl,tdiv_nat',U64_nat,Nat.mod_eq_of_lt (by omega)]
 rw [e1,U64_mul,Nat.mod_eq_of_lt (show s/4096*cutN p<WW by unfold WW;omega)]
 rfl
theorem T_chance_Encoder_more {R:Ending→World→Prop} {b:Nat} {x:CS} {n:Nat} (H:ES M w0 w L b x) (hk:5≤x.k) (hn:x.V+n<256^(x.k-1)) (hn2:n<4294967296)
 (h:∀w',ES M w0 w' L b ⟨x.V+n,x.k,x.R⟩→R (.returned (.tuple #[])) w'):Calls prog n_chance_Encoder_more #[.pointer (some (A0 b)),.int .u64 (n:Int)] w R:=by
 obtain⟨a,m,c,H⟩:=H
 have hm:=H.len 1 rfl
 rw [u8s_len,done_len,Nat.mul_one]at hm
 have hcap:m≤9223372036854775807:=by have:=H.capMax 1 rfl;simp only [maxLen]at this;omega
 have hlow:=low_lt x
 refine S_chance_Encoder_more ?_
 unfold F_chance_Encoder_more
 refine OSome.i ⟨_,by rw [A0_add];exact H.cell 0 rfl rfl,OSome.i ?_⟩
 rw [A0_add,U64_add,Nat.mod_eq_of_lt (show x.low+n<WW by unfold WW;omega)]
 refine H.sto 0 rfl (by simp) fun w1 _ H=>OSome.i ⟨_,by rw [A0_add];exact Sx.cell H 0 rfl rfl,bif_i (fun h1=>?_) fun h1=>?_⟩
 · have h1:=of_decide_eq_true h1
   refine h w1 ⟨a,m,c,?_⟩
   have e1:(⟨x.V+n,x.k,x.R⟩:CS).low=x.low+n:=by unfold CS.low at h1 hlow ⊢;simp only;omega
   have e2:(⟨x.V+n,x.k,x.R⟩:CS).done=x.done:=by
    unfold CS.done;simp only
    congr 1
    unfold CS.low at h1;omega
   rw [e1,e2]
   exact H
 · have h1:=of_decide_eq_false h1
   have hand:andI .u64 ((x.low+n:Nat):Int) (4294967295:Int)=(((⟨x.V+n,x.k,x.R⟩:CS).low:Nat):Int):=by
    rw [show(4294967295:Int)=((4294967295:Nat):Int)from rfl,andI_u64 _ _ (by omega) (by decide)]
    have:(4294967295:Nat)=2^32-1:=by decide
    rw [this,Nat.and_two_pow_sub_one_eq_mod]
    have e32:(2:Nat)^32=4294967296:=by decide
    rw [e32]
    unfold CS.low;simp only
    congr 1;omega
   refine OSome.i ⟨_,by rw [A0_add];exact Sx.cell H 0 rfl rfl,OSome.i ?_⟩
   rw [A0_add,hand]
   refine Sx.sto H 0 rfl (by simp) fun w2 _ H=>OSome.i ⟨_,_,_,Sx.cell H 0 rfl rfl,?_⟩
   obtain⟨t,ht⟩:∃t,x.k=t+5:=⟨x.k-5,by omega⟩
   have hD:x.V/4294967296<256^t:=by
    rw [Nat.div_lt_iff_lt_mul (by decide)]
    have e4:(256:Nat)^4=4294967296:=by decide
    rw [ht,show t+5-1=t+4 by omega,Nat.pow_add,e4]at hn
    omega
   have hdone:x.done=beN (t+1) (x.V/4294967296):=by unfold CS.done;rw [ht];rfl
   have hdone':(⟨x.V+n,x.k,x.R⟩:CS).done=beN (t+1) (x.V/4294967296+1):=by
    unfold CS.done;simp only
    rw [ht]
    have:(x.V+n)/4294967296=x.V/4294967296+1:=by unfold CS.low at h1 hlow;omega
    rw [this];rfl
   have hidx:W64 ((m:Int)-1)=(t:Int):=W64_idn (by omega) (by omega)
   rw [hidx]
   refine⟨fun m2 y w3=>∃(t' i X:Nat),m2=t'∧y=(t':Int)∧t'+1+i=t+1∧X<256^t'∧(⟨x.V+n,x.k,x.R⟩:CS).done=beN (t'+1) (X+1)++List.replicate i 0∧
    Sx M w0 w3 (.ob b (.cells #[.slice a m c,.int .u64 ((⟨x.V+n,x.k,x.R⟩:CS).low:Int),.int .u64 (x.R:Int)] t_chance_Encoder (0,0)):: .ow t_uint8 1 a m c (u8s (beN (t'+1) X++List.replicate i 0))::L),
    ⟨t,t,0,_,rfl,rfl,rfl,hD,by rw [hdone'];simp,by rw [hdone]at H;simpa using H⟩,?_⟩
   rintro m2 y w3 ⟨t',i,X,rfl,rfl,hti,hX,hd,H⟩
   have hlist:beN (m2+1) X=beN m2 (X/256)++ [UInt8.ofNat X]:=rfl
   have hbl:(beN m2 (X/256)).length=m2:=beN_len _ _
   have hget:(beN (m2+1) X++List.replicate i 0)[m2]? =some (UInt8.ofNat X):=by
    rw [hlist,List.append_assoc,List.getElem?_append_right (by omega),hbl,Nat.sub_self];rfl
   have hset:∀v:UInt8,(beN (m2+1) X++List.replicate i 0).set m2 v=beN m2 (X/256)++ [v]++List.replicate i 0:=fun v=>by
    rw [hlist,List.append_assoc,List.set_append_right _ _ (by omega),hbl,Nat.sub_self,List.append_assoc];rfl
   have hu:(UInt8.ofNat X).toNat=X%256:=by simp
   have hsetV:∀v:UInt8,(u8s (beN (m2+1) X++List.replicate i 0)).set m2 (.int .u8 (v.toNat:Int))=u8s (beN m2 (X/256)++ [v]++List.replicate i 0):=fun v=>by
    rw [←hset,u8s,u8s,List.map_set]
   have hltlen:m2<(u8s (beN (m2+1) X++List.replicate i 0)).length:=by
    rw [u8s_len,List.length_append,beN_len];omega
   refine OSome.i ⟨_,_,_,Sx.cell H 0 rfl rfl,by omega,by omega,?_⟩
   rw [Int.toNat_natCast,Nat.mul_one]
   refine(Sx.slw H 1 rfl).read (u8s_get hget) fun p hp hc=>⟨_,hc,?_⟩
   rw [hu]
   refine bif_i (fun h255=>?_) fun h255=>?_
   · have h255:X%256=255:=by have:((X%256:Nat):Int)=255:=by simpa using h255
                             omega
     refine OSome.i ⟨_,_,_,Sx.cell H 0 rfl rfl,by omega,by omega,⟨p,hp,?_⟩⟩
     refine Sx.stoW H 1 rfl hp hltlen fun w4 _ H=>?_
     have hz:(Value.int .u8 (0:Int))= .int .u8 (((0:UInt8).toNat:Nat):Int):=rfl
     rw [hz,hsetV]at H
     obtain⟨m3,rfl⟩:∃m3,m2=m3+1:=⟨m2-1,by
      rcases Nat.eq_zero_or_pos m2 with h0|h0
      · subst h0;simp at hX;omega
      · omega⟩
     refine⟨m3,by omega,m3,i+1,X/256,rfl,W64_idn (by omega) (by omega),by omega,?_,?_,?_⟩
     · rw [Nat.pow_succ]at hX;omega
     · rw [hd,(beN_ff h255).1,List.append_assoc,List.replicate_succ];rfl
     · rw [List.append_assoc]at H
       rw [List.replicate_succ]
       exact H
   · have h255:X%256≠255:=fun e=>by rw [e]at h255;simp at h255
     refine OSome.i ⟨_,_,_,Sx.cell H 0 rfl rfl,by omega,by omega,⟨p,hp,_,hc,by omega,by omega,⟨p,hp,?_⟩⟩⟩
     have hv:U8 (((UInt8.ofNat X).toNat:Int)+1)=(((UInt8.ofNat (X%256+1)).toNat:Nat):Int):=by
      rw [hu,show((X%256:Nat):Int)+1=((X%256+1:Nat):Int) by omega,U8_nat,toNat_ofNat8 (by omega)]
      congr 1;omega
     rw [hv]
     refine Sx.stoW H 1 rfl hp hltlen fun w4 _ H=>?_
     rw [hsetV]at H
     refine h w4 ⟨a,m,c,?_⟩
     rw [hd,beN_nf h255]
     exact H
end Go.Proofs.Tryz
namespace Go.Proofs.Tryz
open Go Go.RowKit Go.Proofs.VC
variable {M:List Nat} {w0 w:World} {L:List En}
theorem T_chance_Encoder_grow {R:Ending→World→Prop} {b:Nat} {x:CS} (H:ES M w0 w L b x) (hx:x.Mid) (hk:x.k≤1000000000)
 (h:∀w',ES M w0 w' L b (CS.grow 3 x)→R (.returned (.tuple #[])) w'):Calls prog n_chance_Encoder_grow #[.pointer (some (A0 b))] w R:=by
 refine S_chance_Encoder_grow ?_
 unfold F_chance_Encoder_grow
 refine⟨fun m w1=>∃y,y.Mid∧CS.grow m y=CS.grow 3 x∧16777216≤y.R*256^m∧y.k+m≤x.k+3∧ES M w0 w1 L b y,⟨3,x,hx,rfl,by have:=hx.lo;omega,Nat.le_refl _,H⟩,?_⟩
 rintro m w1 ⟨y,hy,hg,hR,hyk,H⟩
 obtain⟨a,n,c,H⟩:=H
 have hn:=H.len 1 rfl
 rw [u8s_len,done_len,Nat.mul_one]at hn
 have hlow:=low_lt y
 have hk5:=hy.k5
 refine OSome.i ⟨_,by rw [A0_add];exact H.cell 0 rfl rfl,bif_i (fun hlt=>?_) fun hge=>?_⟩
 · have hlt:y.R<16777216:=by have:=of_decide_eq_true hlt;omega
   have e8:(2:Nat)^8=256:=by decide
   have e24:(2:Nat)^24=16777216:=by decide
   have e32:(2:Nat)^32=4294967296:=by decide
   have e321:(4294967295:Nat)=2^32-1:=by decide
   obtain⟨m',rfl⟩:∃m',m=m'+1:=⟨m-1,by
    rcases Nat.eq_zero_or_pos m with h0|h0
    · subst h0;simp at hR;omega
    · omega⟩
   rw [CS.grow,if_pos hlt]at hg
   obtain⟨g1,g2⟩:=CS.grow_done y (by omega)
   have e1:shlI .u64 (y.R:Int) (8:Int)=((y.R*256:Nat):Int):=by
    rw [show(8:Int)=((8:Nat):Int)from rfl,shlI_u64 _ _ (by decide),e8,Nat.mod_eq_of_lt (by omega)]
   refine OSome.i ⟨_,by rw [A0_add];exact H.cell 0 rfl rfl,by decide,OSome.i ?_⟩
   rw [A0_add,e1]
   refine H.sto 0 rfl (by simp) fun w2 _ H=>Sx.drew H fun w3 _ H=>OSome.i ⟨_,_,_,Sx.cell H 0 rfl rfl,OSome.i ⟨_,by rw [A0_add];exact Sx.cell H 0 rfl rfl,by decide,?_⟩⟩
   have e2:U8 (shrI .u64 (y.low:Int) (24:Int))=(((UInt8.ofNat (y.low/16777216)).toNat:Nat):Int):=by
    rw [show(24:Int)=((24:Nat):Int)from rfl,shrI_nat _ _ _ (by decide),U8_nat,e24,toNat_ofNat8 (by omega),Nat.mod_eq_of_lt (by omega)]
   rw [e2]
   refine Sx.alloc H fun w4 b25 hf4 H=>⟨⟨fun h=>hf4.cell0 h,fun h=>hf4.cell0 h,trivial⟩,?_⟩
   refine app_uint8 H (j:=1) rfl rfl (by omega) fun a2 c2 w5 H=>⟨⟨fun _=>by rw [A0_add];exact Sx.cell H 0 rfl rfl,trivial⟩,OSome.i (Sx.sto H 0 rfl (by simp) fun w6 _ H=>⟨trivial,OSome.i ⟨_,by rw [A0_add];exact Sx.cell H 0 rfl rfl,by decide,OSome.i ?_⟩⟩)⟩
   have e3:andI .u64 (shlI .u64 (y.low:Int) (8:Int)) (4294967295:Int)=((y.low*256%4294967296:Nat):Int):=by
    rw [show(8:Int)=((8:Nat):Int)from rfl,shlI_u64 _ _ (by decide),show(4294967295:Int)=((4294967295:Nat):Int)from rfl,andI_u64 _ _ (Nat.mod_lt _ (by decide)) (by decide),e321,Nat.and_two_pow_sub_one_eq_mod,e32,e8]
    omega
   rw [A0_add,e3]
   refine Sx.sto H 0 rfl (by simp) fun w7 _ H=>⟨m',by omega,_,hy.step hlt,hg,?_,by show y.k+1+m'≤_;omega,⟨a2,n+1,c2,?_⟩⟩
   · show _≤y.R*256*256^m'
     rw [Nat.mul_assoc,Nat.mul_comm 256,←Nat.pow_succ];exact hR
   · rw [g1,g2]
     exact H
 · have hge:¬y.R<16777216:=by have:=of_decide_eq_false hge;omega
   refine h w1 ?_
   have:CS.grow m y=y:=by cases m<;>simp [CS.grow,hge]
   rw [←hg,this]
   exact⟨a,n,c,H⟩
theorem ES.len {b:Nat} {x:CS} (H:ES M w0 w L b x):x.k≤9223372036854775807+4:=by
 obtain⟨a,n,c,H⟩:=H
 have hn:=H.len 1 rfl
 rw [u8s_len,done_len,Nat.mul_one]at hn
 have:=H.capMax 1 rfl
 simp only [maxLen]at this
 omega
theorem T_chance_Encoder_Bit {R:Ending→World→Prop} {b:Nat} {x:CS} {p:Nat} {t:Bool} (H:ES M w0 w L b x) (hx:x.Ok) (hk:x.k≤1000000000) (hp:p≤4611686018427387904)
 (h:∀w',ES M w0 w' L b (x.bit p t)→R (.returned (.tuple #[])) w'):Calls prog n_chance_Encoder_Bit #[.pointer (some (A0 b)),.int .i64 (p:Int),.int .i64 ((if t then 1 else 0:Nat):Int)] w R:=by
 have hs:=shareN_le (p:=p) hx.lo
 have hhi:=hx.hi
 have hin:=hx.in_
 refine S_chance_Encoder_Bit ?_
 unfold F_chance_Encoder_Bit
 obtain⟨a,n,c,H⟩:=H
 refine bif_f rfl (OSome.i ⟨_,by rw [A0_add];exact H.cell 0 rfl rfl,?_⟩)
 refine(T_chance_share x.R p hhi hp w).mono ?_
 rintro e w1 ⟨rfl,hf⟩
 have H:=H.call0 hf
 refine⟨_,rfl,?_⟩
 cases t with
 |true=>
  refine bif_t rfl (OSome.i ?_)
  rw [A0_add]
  refine H.sto 0 rfl (by simp) fun w2 _ H=>?_
  refine T_chance_Encoder_grow (x:=⟨x.V+0,x.k,shareN x.R p⟩) ⟨a,n,c,?_⟩ (CS.nar_mid hx (by omega) (by omega)) hk fun w3 H=>⟨rfl,h w3 H⟩
  exact H
 |false=>
  refine bif_f rfl ?_
  refine T_chance_Encoder_more (x:=x) (n:=shareN x.R p) ⟨a,n,c,H⟩ hx.k5 (by omega) (by omega) fun w2 H=>⟨rfl,?_⟩
  obtain⟨a,n,c,H⟩:=H
  refine OSome.i ⟨_,by rw [A0_add];exact H.cell 0 rfl rfl,OSome.i ?_⟩
  have e:U64 ((x.R:Int)-(shareN x.R p:Int))=((x.R-shareN x.R p:Nat):Int):=by
   rw [show(x.R:Int)-(shareN x.R p:Int)=((x.R-shareN x.R p:Nat):Int) by omega,U64_nat,Nat.mod_eq_of_lt (by omega)]
  rw [A0_add,e]
  refine H.sto 0 rfl (by simp) fun w3 _ H=>?_
  refine T_chance_Encoder_grow (x:=⟨x.V+shareN x.R p,x.k,x.R-shareN x.R p⟩) ⟨a,n,c,?_⟩ (CS.nar_mid hx (by omega) (by omega)) hk fun w3 H=>⟨rfl,h w3 H⟩
  exact H
theorem grow_k:∀(f:Nat) (x:CS),(CS.grow f x).k≤x.k+f
 |0,x=>Nat.le_refl _
 |f+1,x=>by
  rw [CS.grow]
  split
  · have:=grow_k f ⟨x.V*256,x.k+1,x.R*256⟩
    simp only at this
    omega
  · omega
theorem bit_k (x:CS) (p:Nat) (b:Bool):(x.bit p b).k≤x.k+3:=by
 unfold CS.bit
 cases b
 · exact grow_k 3 _
 · exact grow_k 3 _
theorem half_k (x:CS) (b:Bool):(x.half b).k≤x.k+3:=grow_k 3 _
theorem T_chance_Encoder_Direct {R:Ending→World→Prop} {b:Nat} {x:CS} {v n:Nat} {z:Int} (H:ES M w0 w L b x) (hx:x.Ok) (hk:x.k≤100000000) (hv:v<WW) (hn:n≤64) (hz:(if (if (64:Int)<z then(64:Int)else z)>(0:Int)then(if (64:Int)<z then(64:Int)else z)else(0:Int))=(n:Int))
 (h:∀w',ES M w0 w' L b (CS.direct v n x)→R (.returned (.tuple #[])) w'):Calls prog n_chance_Encoder_Direct #[.pointer (some (A0 b)),.int .u64 (v:Int),.int .i64 z] w R:=by
 refine S_chance_Encoder_Direct ?_
 unfold F_chance_Encoder_Direct
 refine bif_f rfl ?_
 rw [hz,W64_id _ (by omega) (by omega)]
 refine⟨fun m y w1=>∃x',y=(m:Int)-1∧m≤n∧CS.Ok x'∧x'.k+3*m≤x.k+3*n∧CS.direct v m x'=CS.direct v n x∧ES M w0 w1 L b x',⟨n,x,rfl,Nat.le_refl _,hx,Nat.le_refl _,rfl,H⟩,?_⟩
 rintro m y w1 ⟨x',rfl,hmn,hx',hk',hd,H⟩
 refine bif_i (fun h0=>?_) fun h0=>?_
 · have h0:=of_decide_eq_true h0
   obtain⟨i,rfl⟩:∃i,m=i+1:=⟨m-1,by omega⟩
   have ei:((i+1:Nat):Int)-1=(i:Int):=by omega
   rw [ei]
   rw [CS.direct]at hd
   have hlo:=hx'.lo
   have hhi:=hx'.hi
   have hin:=hx'.in_
   obtain⟨a,n',c,H⟩:=H
   have e1:U64 (Int.tdiv (x'.R:Int) 2)=((x'.R/2:Nat):Int):=by
    rw [show(2:Int)=((2:Nat):Int)from rfl,tdiv_nat',U64_nat,Nat.mod_eq_of_lt (by omega)]
   refine OSome.i ⟨_,by rw [A0_add];exact H.cell 0 rfl rfl,by decide,OSome.i ?_⟩
   rw [A0_add,e1]
   refine H.sto 0 rfl (by simp) fun w2 _ H=>⟨by omega,?_⟩
   have e2:andI .u64 (shrI .u64 (v:Int) (i:Int)) (1:Int)=((v/2^i%2:Nat):Int):=by
    rw [shrI_nat _ _ _ (by show i≤64;omega),show(1:Int)=((1:Nat):Int)from rfl,andI_u64 _ _ (Nat.lt_of_le_of_lt (Nat.div_le_self _ _) hv) (by decide),Nat.and_one_is_mod]
   rw [e2]
   have hstep:W64 ((i:Int)-1)=(i:Int)-1:=W64_id _ (by omega) (by omega)
   refine bif_i (fun hb=>?_) fun hb=>?_
   · have hb:v/2^i%2=1:=by have:=of_decide_eq_true hb;omega
     have hh:x'.half (v/2^i%2==1)=x'.nar (x'.R/2) (x'.R/2):=by rw [hb];rfl
     refine OSome.i ⟨_,by rw [A0_add];exact Sx.cell H 0 rfl rfl,?_⟩
     refine T_chance_Encoder_more (x:=⟨x'.V,x'.k,x'.R/2⟩) (n:=x'.R/2) ⟨a,n',c,H⟩ hx'.k5 (by show x'.V+x'.R/2<256^(x'.k-1);omega) (by omega) fun w3 H=>⟨rfl,?_⟩
     refine T_chance_Encoder_grow H (CS.nar_mid (lo:=x'.R/2) (sz:=x'.R/2) hx' (by omega) (by omega)) (by show x'.k≤_;omega) fun w4 H=>⟨rfl,i,by omega,_,hstep,by omega,?_,?_,?_,H⟩
     · exact CS.nar_ok (lo:=x'.R/2) (sz:=x'.R/2) hx' (by omega) (by omega)
     · have:=half_k x' (v/2^i%2==1)
       rw [hh]at this
       show(x'.nar (x'.R/2) (x'.R/2)).k+3*i≤_
       omega
     · rw [←hd,hh];rfl
   · have hb:v/2^i%2=0:=by have:=of_decide_eq_false hb;omega
     have hh:x'.half (v/2^i%2==1)=x'.nar 0 (x'.R/2):=by rw [hb];rfl
     refine T_chance_Encoder_grow (x:=⟨x'.V+0,x'.k,x'.R/2⟩) ⟨a,n',c,H⟩ (CS.nar_mid (lo:=0) (sz:=x'.R/2) hx' (by omega) (by omega)) (by show x'.k≤_;omega) fun w4 H=>⟨rfl,i,by omega,_,hstep,by omega,?_,?_,?_,H⟩
     · exact CS.nar_ok (lo:=0) (sz:=x'.R/2) hx' (by omega) (by omega)
     · have:=half_k x' (v/2^i%2==1)
       rw [hh]at this
       show(x'.nar 0 (x'.R/2)).k+3*i≤_
       omega
     · rw [←hd,hh];rfl
 · have h0:=of_decide_eq_false h0
   obtain rfl:m=0:=by omega
   refine h w1 ?_
   rw [←hd]
   exact H
theorem T_chance_Encoder_Bytes {R:Ending→World→Prop} {b:Nat} {x:CS} (H:ES M w0 w L b x) (hk5:5≤x.k) (hk:x.k≤1000000000)
 (h:∀w',ES M w0 w' L b x→R (.returned (.string (S x.bytes))) w'):Calls prog n_chance_Encoder_Bytes #[.pointer (some (A0 b))] w R:=by
 obtain⟨a,n,c,H⟩:=H
 have hn:=H.len 1 rfl
 rw [u8s_len,Nat.mul_one]at hn
 have hdl:=done_len x
 have hlow:=low_lt x
 refine S_chance_Encoder_Bytes ?_
 unfold F_chance_Encoder_Bytes
 refine bif_f rfl (H.drew fun w1 _ H=>?_)
 refine OSome.i ⟨_,_,_,Sx.cell H 0 rfl rfl,OSome.i ⟨_,by rw [A0_add];exact Sx.cell H 0 rfl rfl,by decide,OSome.i ⟨_,by rw [A0_add];exact Sx.cell H 0 rfl rfl,by decide,OSome.i ⟨_,by rw [A0_add];exact Sx.cell H 0 rfl rfl,by decide,OSome.i ⟨_,by rw [A0_add];exact Sx.cell H 0 rfl rfl,?_⟩⟩⟩⟩⟩
 have el:(#[.int .u8 (U8 (shrI .u64 (x.low:Int) (24:Int))),.int .u8 (U8 (shrI .u64 (x.low:Int) (16:Int))),.int .u8 (U8 (shrI .u64 (x.low:Int) (8:Int))),.int .u8 (U8 (x.low:Int))]:Array Value)=(u8s (beN 4 x.low)).toArray:=by
  have key:∀V,beN 4 V= [UInt8.ofNat (V/256/256/256),UInt8.ofNat (V/256/256),UInt8.ofNat (V/256),UInt8.ofNat V]:=fun V=>rfl
  have e24:(2:Nat)^24=16777216:=by decide
  have e16:(2:Nat)^16=65536:=by decide
  have e8:(2:Nat)^8=256:=by decide
  have eu:∀n:Nat,(UInt8.ofNat n).toNat=n%256:=fun n=>by simp
  rw [key,show(24:Int)=((24:Nat):Int)from rfl,show(16:Int)=((16:Nat):Int)from rfl,show(8:Int)=((8:Nat):Int)from rfl,shrI_nat _ _ _ (by decide),shrI_nat _ _ _ (by decide),shrI_nat _ _ _ (by decide),U8_nat,U8_nat,U8_nat,U8_nat,e24,e16,e8]
  simp only [u8s,List.map_cons,List.map_nil,eu]
  have h1:x.low/16777216=x.low/256/256/256:=by omega
  have h2:x.low/65536=x.low/256/256:=by omega
  rw [h1,h2]
 have hb:x.bytes=x.done++beN 4 x.low:=CS.bytes_eq (by omega)
 have h4:(beN 4 x.low).length=4:=beN_len _ _
 have hsz:(S x.done).size+(S (beN 4 x.low)).size≤strMax:=by rw [S_size,S_size,h4,hdl];simp only [strMax];omega
 have hfin:∀w',Sx M w0 w' (.ob b (.cells #[.slice a n c,.int .u64 (x.low:Int),.int .u64 (x.R:Int)] t_chance_Encoder (0,0)):: .ow t_uint8 1 a n c (u8s x.done)::L)→R (.returned (.string (S x.done++S (beN 4 x.low)))) w':=fun w' H=>by
  rw [S_append,←hb];exact h w' ⟨a,n,c,H⟩
 rw [el]
 have hnn:n=x.done.length:=by omega
 refine⟨b2s (Sx.slw H 1 rfl) hnn ⟨⟨fun h=>h,fun h=>h,fun h=>h,fun h=>h,trivial⟩,Sx.alloc H fun w2 b33 hf H=>⟨⟨fun h=>hf.cell0 h,fun h=>hf.cell0 h,fun h=>hf.cell0 h,fun h=>hf.cell0 h,fun h=>hf.cell0 h,trivial⟩,b2s (Sx.sl H 0 rfl) h4.symm ⟨⟨fun h=>h,fun h=>h,fun h=>h,fun h=>h,fun h=>h,trivial⟩,hsz,hfin w2 (Sx.tail H)⟩⟩⟩,?_⟩
 refine Sx.alloc H fun w3 b33 hf H=>⟨⟨fun h=>hf.cell0 h,fun h=>hf.cell0 h,fun h=>hf.cell0 h,fun h=>hf.cell0 h,fun h=>hf.cell0 h,trivial⟩,?_,?_⟩
 · exact b2s (Sx.slw H 2 rfl) hnn ⟨⟨fun h=>h,fun h=>h,fun h=>h,fun h=>h,trivial⟩,b2s (Sx.sl H 0 rfl) h4.symm ⟨⟨fun h=>h,fun h=>h,fun h=>h,fun h=>h,fun h=>h,trivial⟩,hsz,hfin w3 (Sx.tail H)⟩⟩
 · exact b2s (Sx.sl H 0 rfl) h4.symm ⟨⟨fun h=>h,fun h=>h,fun h=>h,fun h=>h,fun h=>h,trivial⟩,b2s (Sx.slw H 2 rfl) hnn ⟨⟨fun h=>h,fun h=>h,fun h=>h,fun h=>h,trivial⟩,hsz,hfin w3 (Sx.tail H)⟩⟩
end Go.Proofs.Tryz
namespace Go.Proofs.Tryz
open Go Go.RowKit Go.Proofs.VC
def CS.Ins (s:List UInt8) (x:CS):Prop:=∃j,s.length=x.k+j∧x.V*256^j≤nbe s∧nbe s<(x.V+x.R)*256^j
theorem CS.ins_grow {s:List UInt8}:∀(f:Nat) (x:CS),(CS.grow f x).Ins s→x.Ins s
 |0,x,h=>h
 |f+1,x,h=>by
  rw [CS.grow]at h
  split at h
  · obtain⟨j,h1,h2,h3⟩:=CS.ins_grow f _ h
    simp only at h1 h2 h3
    refine⟨j+1,by omega,?_,?_⟩
    · rw [Nat.pow_succ,Nat.mul_comm (256^j),←Nat.mul_assoc];exact h2
    · rw [Nat.pow_succ,Nat.mul_comm (256^j),←Nat.mul_assoc,Nat.add_mul];exact h3
  · exact h
theorem nbe_take {s:List UInt8} {k j:Nat} (h:s.length=k+j):nbe (s.take k)=nbe s/256^j:=by
 have e:=nbe_app (s.take k) (s.drop k)
 have hl:(s.drop k).length=j:=by rw [List.length_drop];omega
 have hlt:=nbe_lt (s.drop k)
 rw [List.take_append_drop,hl]at e
 rw [hl]at hlt
 rw [e,Nat.mul_comm,Nat.mul_add_div (Nat.pow_pos (by decide)),Nat.div_eq_of_lt hlt,Nat.add_zero]
theorem CS.ins_ahead {s:List UInt8} {x:CS} (h:x.Ins s):∃d,x.ahead s=some d∧nbe (s.take x.k)=x.V+d∧d<x.R:=by
 obtain⟨j,h1,h2,h3⟩:=h
 have e:=nbe_take h1
 have hp:0<256^j:=Nat.pow_pos (by decide)
 have g1:x.V≤nbe s/256^j:=(Nat.le_div_iff_mul_le hp).2 h2
 have g2:nbe s/256^j<x.V+x.R:=(Nat.div_lt_iff_lt_mul hp).2 h3
 refine⟨nbe (s.take x.k)-x.V,?_,by omega,by omega⟩
 unfold CS.ahead
 rw [if_pos ⟨by omega,by omega,by omega⟩]
theorem CS.ins_nar {s:List UInt8} {x:CS} {lo sz:Nat} (hR:lo+sz≤x.R) (h:(x.nar lo sz).Ins s):x.Ins s∧∃d,x.ahead s=some d∧lo≤d∧d<lo+sz:=by
 have h:=CS.ins_grow _ _ h
 obtain⟨d,h1,h2,h3⟩:=CS.ins_ahead h
 simp only at h2 h3
 have hx:x.Ins s:=by
  obtain⟨j,h1,h2,h3⟩:=h
  simp only at h1 h2 h3
  refine⟨j,h1,Nat.le_trans (Nat.mul_le_mul_right _ (by omega)) h2,Nat.lt_of_lt_of_le h3 (Nat.mul_le_mul_right _ (by omega))⟩
 obtain⟨d',k1,k2,k3⟩:=CS.ins_ahead hx
 exact⟨hx,d',k1,by omega,by omega⟩
theorem CS.ins_bit {s:List UInt8} {x:CS} {p:Nat} {b:Bool} (ho:x.Ok) (h:(x.bit p b).Ins s):x.Ins s∧x.tellBit s p=some (b,x.bit p b):=by
 obtain⟨h1,h2⟩:=shareN_le (p:=p) ho.lo
 unfold CS.tellBit
 cases b
 · obtain⟨hx,d,e,g1,g2⟩:=CS.ins_nar (lo:=shareN x.R p) (sz:=x.R-shareN x.R p) (by omega) h
   rw [e]
   have:decide (d<shareN x.R p)=false:=decide_eq_false (by omega)
   exact⟨hx,by simp [this]⟩
 · obtain⟨hx,d,e,g1,g2⟩:=CS.ins_nar (lo:=0) (sz:=shareN x.R p) (by omega) h
   rw [e]
   have:decide (d<shareN x.R p)=true:=decide_eq_true (by omega)
   exact⟨hx,by simp [this]⟩
theorem CS.ins_half {s:List UInt8} {x:CS} {b:Bool} (ho:x.Ok) (h:(x.half b).Ins s):x.Ins s∧x.tellHalf s=some (b,x.half b):=by
 have hlo:=ho.lo
 unfold CS.tellHalf
 cases b
 · obtain⟨hx,d,e,g1,g2⟩:=CS.ins_nar (lo:=0) (sz:=x.R/2) (by omega) h
   rw [e]
   have:decide (x.R/2≤d)=false:=decide_eq_false (by omega)
   exact⟨hx,by simp [this]⟩
 · obtain⟨hx,d,e,g1,g2⟩:=CS.ins_nar (lo:=x.R/2) (sz:=x.R/2) (by omega) h
   rw [e]
   have:decide (x.R/2≤d)=true:=decide_eq_true (by omega)
   exact⟨hx,by simp [this]⟩
theorem CS.ins_direct {s:List UInt8} {v:Nat}:∀(i:Nat) {x:CS} (v0:Nat),x.Ok→(CS.direct v i x).Ins s→x.Ins s∧CS.tellDirect s i v0 x=some (v0*2^i+v%2^i,CS.direct v i x)
 |0,x,v0,ho,h=>⟨h,by simp [CS.tellDirect,CS.direct,Nat.mod_one]⟩
 |i+1,x,v0,ho,h=>by
  rw [CS.direct]at h
  obtain⟨h1,h2⟩:=CS.ins_direct i (2*v0+(if (v/2^i%2==1)=true then 1 else 0)) (CS.half_ok ho _) h
  obtain⟨h3,h4⟩:=CS.ins_half ho h1
  refine⟨h3,?_⟩
  rw [CS.tellDirect,h4]
  simp only
  rw [h2,CS.direct]
  congr 2
  rw [Nat.add_mul,Nat.pow_succ,Nat.mod_mul]
  have e:(if (v/2^i%2==1)=true then 1 else 0)=v/2^i%2:=by
   have:=Nat.mod_two_eq_zero_or_one (v/2^i)
   rcases this with e|e<;>simp [e]
  rw [e,Nat.mul_comm (v/2^i%2),Nat.mul_comm 2 v0,Nat.mul_assoc,Nat.mul_comm 2 (2^i)]
  omega
end Go.Proofs.Tryz
namespace Go.Proofs.Tryz
open Go Go.RowKit Go.Proofs.VC
variable {M:List Nat} {w0 w:World} {L:List En}
def decC (s:List UInt8) (at_ need v R:Nat) (dead:Bool):Array Value:= #[.string (S s),.int .i64 (at_:Int),.int .i64 (need:Int),.int .u64 (v:Int),.int .u64 (R:Int),.bool dead]
def DS (M:List Nat) (w0 w:World) (L:List En) (b:Nat) (s:List UInt8) (x:CS):Prop:=
 ∃at_ v V0:Nat,at_≤s.length∧at_≤x.k∧x.V=V0*256^(x.k-at_)∧v+V0=nbe (s.take at_)∧(v+1)*256^(x.k-at_)≤1099511627776∧Sx M w0 w (.ob b (.cells (decC s at_ x.k v x.R false) t_chance_Decoder (0,0))::L)
def DG (M:List Nat) (w0 w:World) (L:List En) (b:Nat) (s:List UInt8) (x:CS) (d:Nat):Prop:=
 Sx M w0 w (.ob b (.cells (decC s x.k x.k d x.R false) t_chance_Decoder (0,0))::L)
theorem T_chance_From {R:Ending→World→Prop} (s:List UInt8) (H:Sx M w0 w L) (h:∀w' b,DS M w0 w' L b s CS.new→R (.returned (.pointer (some (A0 b)))) w'):Calls prog n_chance_From #[.string (S s)] w R:=by
 refine S_chance_From ?_
 unfold F_chance_From
 refine H.alloc fun w1 b1 _ H=>h w1 b1 ⟨0,0,0,Nat.zero_le _,Nat.zero_le _,rfl,rfl,by decide,H⟩
theorem nbe_succ {s:List UInt8} {i:Nat} {c:UInt8} (h:s[i]? =some c):nbe (s.take (i+1))=nbe (s.take i)*256+c.toNat:=by
 rw [List.take_add_one,h]
 exact nbe_snoc _ _
theorem T_chance_Decoder_gate {R:Ending→World→Prop} {b:Nat} {s:List UInt8} {x:CS} (H:DS M w0 w L b s x) (hx:x.Ok) (hs:s.length≤140737488355328) (hk:x.k≤140737488356000)
 (h1:∀d,x.ahead s=some d→∀w',DG M w0 w' L b s x d→R (.returned (.int .i64 0)) w')
 (h2:x.ahead s=none→∀w' (er:Int),er≠0→Fr M w0 w'→R (.returned (.int .i64 er)) w'):Calls prog n_chance_Decoder_gate #[.pointer (some (A0 b))] w R:=by
 obtain⟨at_,v,V0,ha,hak,hV,hv,hb,H⟩:=H
 refine S_chance_Decoder_gate ?_
 unfold F_chance_Decoder_gate
 intro J hJ
 refine bif_f rfl (OSome.i ⟨_,by rw [A0_add];exact H.cell 0 rfl rfl,bif_f rfl (H.drew fun w1 _ H=>OSome.i ⟨_,by rw [A0_add];exact Sx.cell H 0 rfl rfl,OSome.i ⟨_,Sx.cell H 0 rfl rfl,?_⟩⟩)⟩)
 rw [S_size]
 have hend:∀(er:Int) (w2:World) (cs:Array Value) (L':List En),cs.size=6→Sx M w0 w2 (.ob b (.cells cs t_chance_Decoder (0,0))::L')→(∀w3,Sx M w0 w3 (.ob b (.cells (cs.setIfInBounds 5 (.bool (er !=0))) t_chance_Decoder (0,0))::L')→R (.returned (.int .i64 er)) w3)→J er w2:=fun er w2 cs L' hsz H hR=>by
  refine hJ er w2 (OSome.i ?_)
  rw [A0_add]
  exact Sx.sto H 0 rfl (by omega) fun w3 _ H=>hR w3 H
 refine bif_i (fun hlt=>?_) fun hge=>?_
 · have hlt:s.length<x.k:=by have:=of_decide_eq_true hlt;omega
   refine hend 2 w1 _ _ rfl H fun w3 H=>h2 ?_ w3 2 (by decide) H.fr
   unfold CS.ahead;rw [if_neg (by omega)]
 · have hge:x.k≤s.length:=by have:=of_decide_eq_false hge;omega
   refine⟨fun m w2=>∃at' v' V',m+at'=x.k∧at'≤s.length∧x.V=V'*256^m∧v'+V'=nbe (s.take at')∧(v'+1)*256^m≤1099511627776∧Sx M w0 w2 (.ob b (.cells (decC s at' x.k v' x.R false) t_chance_Decoder (0,0))::L),
    ⟨x.k-at_,at_,v,V0,by omega,ha,hV,hv,hb,H⟩,?_⟩
   rintro m w2 ⟨at',v',V',hm,ha',hV',hv',hb',H⟩
   refine Sx.drew H fun w3 _ H=>OSome.i ⟨_,by rw [A0_add];exact Sx.cell H 0 rfl rfl,OSome.i ⟨_,by rw [A0_add];exact Sx.cell H 0 rfl rfl,bif_i (fun hlt=>?_) fun hge'=>?_⟩⟩
   · have hlt:at'<x.k:=by have:=of_decide_eq_true hlt;omega
     obtain⟨m',rfl⟩:∃m',m=m'+1:=⟨m-1,by omega⟩
     have hp:0<256^m':=Nat.pow_pos (by decide)
     have hb2:(v'+1)*256≤1099511627776:=by
      rw [Nat.pow_succ,Nat.mul_comm (256^m'),←Nat.mul_assoc]at hb'
      exact Nat.le_trans (Nat.le_mul_of_pos_right _ hp) hb'
     have hc:s[at']? =some s[at']:=List.getElem?_eq_getElem (by omega)
     have hcl:=s[at'].toNat_lt
     refine Sx.drew H fun w4 _ H=>OSome.i ⟨_,by rw [A0_add];exact Sx.cell H 0 rfl rfl,by decide,OSome.i ⟨_,Sx.cell H 0 rfl rfl,OSome.i ⟨_,by rw [A0_add];exact Sx.cell H 0 rfl rfl,by omega,s[at'],by rw [S_get,Int.toNat_natCast];exact hc,OSome.i ?_⟩⟩⟩
     have e1:orI .u64 (shlI .u64 (v':Int) (8:Int)) (U64 ((s[at'].toNat:Nat):Int))=((v'*256+s[at'].toNat:Nat):Int):=by
      have e8:(2:Nat)^8=256:=by decide
      rw [show(8:Int)=((8:Nat):Int)from rfl,shlI_u64 _ _ (by decide),U64_nat,e8,Nat.mod_eq_of_lt (by omega),Nat.mod_eq_of_lt (by omega),orI_u64 _ _ (by omega) (by omega)]
      congr 1
      rw [Nat.mul_comm,←e8]
      exact(Nat.two_pow_add_eq_or_of_lt (by rw [e8];exact hcl) v').symm
     rw [A0_add,e1]
     refine Sx.sto H 0 rfl (by simp [decC]) fun w5 _ H=>⟨trivial,OSome.i ⟨_,by rw [A0_add];exact Sx.cell H 0 rfl rfl,OSome.i ?_⟩⟩
     rw [A0_add,W64_succ (by omega)]
     refine Sx.sto H 0 rfl (by simp [decC]) fun w6 _ H=>⟨m',by omega,at'+1,v'*256+s[at'].toNat,V'*256,by omega,by omega,?_,?_,?_,H⟩
     · rw [hV',Nat.pow_succ,Nat.mul_comm (256^m'),Nat.mul_assoc]
     · rw [nbe_succ hc,←hv'];omega
     · rw [Nat.pow_succ,Nat.mul_comm (256^m'),←Nat.mul_assoc]at hb'
       exact Nat.le_trans (Nat.mul_le_mul_right _ (by omega)) hb'
   · have hge':x.k≤at':=by have:=of_decide_eq_false hge';omega
     obtain rfl:m=0:=by omega
     obtain rfl:at'=x.k:=by omega
     rw [Nat.pow_zero,Nat.mul_one]at hV' hb'
     refine Sx.drew H fun w4 _ H=>OSome.i ⟨_,by rw [A0_add];exact Sx.cell H 0 rfl rfl,OSome.i ⟨_,by rw [A0_add];exact Sx.cell H 0 rfl rfl,bif_i (fun hvR=>?_) fun hvR=>?_⟩⟩
     · have hvR:x.R≤v':=by have:=of_decide_eq_true hvR;omega
       refine hend 3 w4 _ _ rfl H fun w5 H=>h2 ?_ w5 3 (by decide) H.fr
       unfold CS.ahead;rw [if_neg (by omega)]
     · have hvR:v'<x.R:=by have:=of_decide_eq_false hvR;omega
       have e:x.ahead s=some v':=by
        unfold CS.ahead;rw [if_pos ⟨hge,by omega,by omega⟩]
        congr 1;omega
       exact hend 0 w4 _ _ rfl H fun w5 H=>h1 v' e w5 H
theorem T_chance_Decoder_part {R:Ending→World→Prop} {b at_ k d r n:Nat} {s:List UInt8} (H:Sx M w0 w (.ob b (.cells (decC s at_ k d r false) t_chance_Decoder (0,0))::L)) (hd:d<WW)
 (h1:d<n→∀w',Sx M w0 w' (.ob b (.cells (decC s at_ k d r false) t_chance_Decoder (0,0))::L)→R (.returned (.bool false)) w')
 (h2:n≤d→∀w',Sx M w0 w' (.ob b (.cells (decC s at_ k (d-n) r false) t_chance_Decoder (0,0))::L)→R (.returned (.bool true)) w'):
 Calls prog n_chance_Decoder_part #[.pointer (some (A0 b)),.int .u64 (n:Int)] w R:=by
 refine S_chance_Decoder_part ?_
 unfold F_chance_Decoder_part
 refine OSome.i ⟨_,by rw [A0_add];exact H.cell 0 rfl rfl,bif_i (fun h=>?_) fun h=>?_⟩
 · exact h1 (by have:=of_decide_eq_true h;omega) w H
 · have h:n≤d:=by have:=of_decide_eq_false h;omega
   refine OSome.i ⟨_,by rw [A0_add];exact H.cell 0 rfl rfl,OSome.i ?_⟩
   rw [A0_add,show(d:Int)-(n:Int)=((d-n:Nat):Int) by omega,U64_nat,Nat.mod_eq_of_lt (by unfold WW at hd;omega)]
   exact H.sto 0 rfl (by simp [decC]) fun w1 _ H=>h2 h w1 H
theorem T_chance_Decoder_grow {R:Ending→World→Prop} {b at_ d V0:Nat} {s:List UInt8} {x:CS} (H:Sx M w0 w (.ob b (.cells (decC s at_ x.k d x.R false) t_chance_Decoder (0,0))::L)) (hx:x.Mid) (hk:x.k≤140737488356000) (hat:at_=x.k) (hs:at_≤s.length) (hV:d+x.V=nbe (s.take at_)) (hd:d≤x.R)
 (h:∀w',DS M w0 w' L b s (CS.grow 3 x)→R (.returned (.tuple #[])) w'):Calls prog n_chance_Decoder_grow #[.pointer (some (A0 b))] w R:=by
 refine S_chance_Decoder_grow ?_
 unfold F_chance_Decoder_grow
 subst hat
 refine⟨fun m w1=>∃y,CS.Mid y∧CS.grow m y=CS.grow 3 x∧16777216≤y.R*256^m∧y.k+m≤x.k+3∧x.k≤y.k∧y.V=x.V*256^(y.k-x.k)∧d*256^(y.k-x.k)≤y.R∧Sx M w0 w1 (.ob b (.cells (decC s x.k y.k d y.R false) t_chance_Decoder (0,0))::L),
  ⟨3,x,hx,rfl,by have:=hx.lo;omega,Nat.le_refl _,Nat.le_refl _,by simp,by simpa using hd,H⟩,?_⟩
 rintro m w1 ⟨y,hy,hg,hR,hyk,hxy,hyV,hyR,H⟩
 have hhi:=hy.hi
 refine OSome.i ⟨_,by rw [A0_add];exact H.cell 0 rfl rfl,bif_i (fun hlt=>?_) fun hge=>?_⟩
 · have hlt:y.R<16777216:=by have:=of_decide_eq_true hlt;omega
   obtain⟨m',rfl⟩:∃m',m=m'+1:=⟨m-1,by
    rcases Nat.eq_zero_or_pos m with h0|h0
    · subst h0;simp at hR;omega
    · omega⟩
   rw [CS.grow,if_pos hlt]at hg
   have e8:(2:Nat)^8=256:=by decide
   have e1:shlI .u64 (y.R:Int) (8:Int)=((y.R*256:Nat):Int):=by
    rw [show(8:Int)=((8:Nat):Int)from rfl,shlI_u64 _ _ (by decide),e8,Nat.mod_eq_of_lt (by omega)]
   refine OSome.i ⟨_,by rw [A0_add];exact H.cell 0 rfl rfl,by decide,OSome.i ?_⟩
   rw [A0_add,e1]
   refine H.sto 0 rfl (by simp [decC]) fun w2 _ H=>OSome.i ⟨_,by rw [A0_add];exact Sx.cell H 0 rfl rfl,OSome.i ?_⟩
   rw [A0_add,W64_succ (by omega)]
   have ek:y.k+1-x.k=y.k-x.k+1:=by omega
   refine Sx.sto H 0 rfl (by simp [decC]) fun w3 _ H=>⟨m',by omega,_,hy.step hlt,hg,?_,by show y.k+1+m'≤_;omega,by show x.k≤y.k+1;omega,?_,?_,H⟩
   · show _≤y.R*256*256^m'
     rw [Nat.mul_assoc,Nat.mul_comm 256,←Nat.pow_succ];exact hR
   · show y.V*256=x.V*256^(y.k+1-x.k)
     rw [ek,hyV,Nat.pow_succ,Nat.mul_assoc]
   · show d*256^(y.k+1-x.k)≤y.R*256
     rw [ek,Nat.pow_succ,←Nat.mul_assoc]
     exact Nat.mul_le_mul_right _ hyR
 · have hge:¬y.R<16777216:=by have:=of_decide_eq_false hge;omega
   refine h w1 ?_
   have:CS.grow m y=y:=by cases m<;>simp [CS.grow,hge]
   rw [←hg,this]
   have hp:256^(y.k-x.k)≤256^3:=Nat.pow_le_pow_right (by decide) (by omega)
   have e3:(256:Nat)^3=16777216:=by decide
   exact⟨x.k,d,x.V,hs,hxy,hyV,hV,by rw [Nat.succ_mul];omega,H⟩
theorem CS.ahead_some {s:List UInt8} {x:CS} {d:Nat} (h:x.ahead s=some d):x.k≤s.length∧d+x.V=nbe (s.take x.k)∧d<x.R:=by
 unfold CS.ahead at h
 split at h
 · next hh=>
   cases h
   exact⟨hh.1,by omega,hh.2.2⟩
 · cases h
theorem T_chance_Decoder_Bit {R:Ending→World→Prop} {b:Nat} {s:List UInt8} {x:CS} {p:Nat} (H:DS M w0 w L b s x) (hx:x.Ok) (hs:s.length≤140737488355328) (hk:x.k≤140737488355400) (hp:p≤4611686018427387904)
 (h1:∀t x',x.tellBit s p=some (t,x')→∀w',DS M w0 w' L b s x'→R (.returned (.tuple #[.int .i64 ((if t then 1 else 0:Nat):Int),.int .i64 0])) w')
 (h2:x.tellBit s p=none→∀w' (er:Int),er≠0→Fr M w0 w'→R (.returned (.tuple #[.int .i64 0,.int .i64 er])) w'):Calls prog n_chance_Decoder_Bit #[.pointer (some (A0 b)),.int .i64 (p:Int)] w R:=by
 have hsh:=shareN_le (p:=p) hx.lo
 have hhi:=hx.hi
 refine S_chance_Decoder_Bit ?_
 unfold F_chance_Decoder_Bit
 unfold CS.tellBit at h1 h2
 refine T_chance_Decoder_gate H hx hs (by omega) (fun d hd w1 H=>⟨_,rfl,bif_f rfl ?_⟩) fun hd w1 er her hf=>⟨_,rfl,bif_t (by simpa using her) (h2 (by rw [hd];rfl) w1 er her hf)⟩
 obtain⟨a1,a2,a3⟩:=CS.ahead_some hd
 rw [hd,Option.map_some]at h1
 unfold DG at H
 refine OSome.i ⟨_,by rw [A0_add];exact Sx.cell H 0 rfl rfl,?_⟩
 refine(T_chance_share x.R p hhi hp w1).mono ?_
 rintro e w2 ⟨rfl,hf⟩
 have H:=H.call0 hf
 refine⟨_,rfl,?_⟩
 refine T_chance_Decoder_part H (by unfold WW;omega) (fun hlt w3 H=>⟨_,rfl,bif_f rfl (OSome.i ?_)⟩) fun hge w3 H=>⟨_,rfl,bif_t rfl (OSome.i ⟨_,by rw [A0_add];exact Sx.cell H 0 rfl rfl,OSome.i ?_⟩)⟩
 · rw [A0_add]
   refine Sx.sto H 0 rfl (by simp [decC]) fun w4 _ H=>?_
   refine T_chance_Decoder_grow (V0:=0) (x:=⟨x.V+0,x.k,shareN x.R p⟩) H (CS.nar_mid hx (by omega) (by omega)) (by show x.k≤_;omega) rfl a1 (by show d+(x.V+0)=_;exact a2) (Nat.le_of_lt hlt) fun w5 H=>⟨rfl,?_⟩
   have e:decide (d<shareN x.R p)=true:=decide_eq_true hlt
   rw [e]at h1
   exact h1 true _ rfl w5 H
 · have e1:U64 ((x.R:Int)-(shareN x.R p:Int))=((x.R-shareN x.R p:Nat):Int):=by
    rw [show(x.R:Int)-(shareN x.R p:Int)=((x.R-shareN x.R p:Nat):Int) by omega,U64_nat,Nat.mod_eq_of_lt (by omega)]
   rw [A0_add,e1]
   refine Sx.sto H 0 rfl (by simp [decC]) fun w4 _ H=>?_
   refine T_chance_Decoder_grow (V0:=0) (x:=⟨x.V+shareN x.R p,x.k,x.R-shareN x.R p⟩) H (CS.nar_mid hx (by omega) (by omega)) (by show x.k≤_;omega) rfl a1 (by show d-shareN x.R p+(x.V+shareN x.R p)=_;omega) (by show d-shareN x.R p≤x.R-shareN x.R p;omega) fun w5 H=>⟨rfl,?_⟩
   have e:decide (d<shareN x.R p)=false:=decide_eq_false (by omega)
   rw [e]at h1
   exact h1 false _ rfl w5 H
theorem tellHalf_ok {s:List UInt8} {x x':CS} {t:Bool} (hx:x.Ok) (h:x.tellHalf s=some (t,x')):x'=x.half t∧x'.Ok∧x'.k≤x.k+3:=by
 unfold CS.tellHalf at h
 cases hd:x.ahead s with
 |none=>rw [hd]at h;cases h
 |some d=>
  rw [hd,Option.map_some]at h
  have h:=Option.some.inj h
  obtain⟨h1,h2⟩:=Prod.mk.inj h
  rw [h1]at h2
  subst h2
  exact⟨rfl,CS.half_ok hx _,half_k _ _⟩
theorem tellBit_ok {s:List UInt8} {x x':CS} {p:Nat} {t:Bool} (hx:x.Ok) (h:x.tellBit s p=some (t,x')):x'=x.bit p t∧x'.Ok∧x'.k≤x.k+3:=by
 unfold CS.tellBit at h
 cases hd:x.ahead s with
 |none=>rw [hd]at h;cases h
 |some d=>
  rw [hd,Option.map_some]at h
  have h:=Option.some.inj h
  obtain⟨h1,h2⟩:=Prod.mk.inj h
  rw [h1]at h2
  subst h2
  exact⟨rfl,CS.bit_ok hx _ _,bit_k _ _ _⟩
theorem tellDirect_ok {s:List UInt8}:∀(i v:Nat) {x x':CS} {v':Nat},x.Ok→CS.tellDirect s i v x=some (v',x')→x'.Ok∧x'.k≤x.k+3*i∧v'<(v+1)*2^i
 |0,v,x,x',v',hx,h=>by
  rw [CS.tellDirect]at h
  obtain⟨rfl,rfl⟩:=Prod.mk.inj (Option.some.inj h)
  exact⟨hx,Nat.le_refl _,by simp⟩
 |i+1,v,x,x',v',hx,h=>by
  rw [CS.tellDirect]at h
  cases ht:x.tellHalf s with
  |none=>rw [ht]at h;cases h
  |some r=>
   obtain⟨t,x1⟩:=r
   rw [ht]at h
   simp only at h
   obtain⟨_,h1,h2⟩:=tellHalf_ok hx ht
   obtain⟨g1,g2,g3⟩:=tellDirect_ok i _ h1 h
   refine⟨g1,by omega,Nat.lt_of_lt_of_le g3 ?_⟩
   rw [Nat.pow_succ,Nat.mul_comm (2^i),←Nat.mul_assoc]
   refine Nat.mul_le_mul_right _ ?_
   split<;>omega
theorem T_chance_Decoder_Direct {R:Ending→World→Prop} {b:Nat} {s:List UInt8} {x:CS} {n:Nat} {z:Int} (H:DS M w0 w L b s x) (hx:x.Ok) (hs:s.length≤140737488355328) (hk:x.k≤140737488355400) (hn:n≤63)
 (hz:(if (if (64:Int)<z then(64:Int)else z)>(0:Int)then(if (64:Int)<z then(64:Int)else z)else(0:Int))=(n:Int))
 (h1:∀v x',CS.tellDirect s n 0 x=some (v,x')→∀w',DS M w0 w' L b s x'→R (.returned (.tuple #[.int .u64 (v:Int),.int .i64 0])) w')
 (h2:CS.tellDirect s n 0 x=none→∀w' (er:Int),er≠0→Fr M w0 w'→R (.returned (.tuple #[.int .u64 0,.int .i64 er])) w'):Calls prog n_chance_Decoder_Direct #[.pointer (some (A0 b)),.int .i64 z] w R:=by
 refine S_chance_Decoder_Direct ?_
 unfold F_chance_Decoder_Direct
 refine bif_f rfl ?_
 rw [hz]
 refine⟨fun m v0 y w1=>∃(v i:Nat) (x':CS),v0=(v:Int)∧y=(i:Int)∧m+i=n∧v<2^i∧CS.Ok x'∧x'.k+3*m≤x.k+3*n∧CS.tellDirect s m v x'=CS.tellDirect s n 0 x∧DS M w0 w1 L b s x',⟨n,0,0,x,rfl,rfl,rfl,by decide,hx,Nat.le_refl _,rfl,H⟩,?_⟩
 rintro m v0 y w1 ⟨v,i,x',rfl,rfl,hmi,hv,hx',hk',hd,H⟩
 have hi63:2^i≤2^63:=Nat.pow_le_pow_right (by decide) (by omega)
 have e63:(2:Nat)^63=9223372036854775808:=by decide
 refine bif_i (fun h0=>?_) fun h0=>?_
 · have h0:i<n:=by have:=of_decide_eq_true h0;omega
   obtain⟨m',rfl⟩:∃m',m=m'+1:=⟨m-1,by omega⟩
   have hlo:=hx'.lo
   have hhi:=hx'.hi
   rw [CS.tellDirect]at hd
   have hstep:W64 ((i:Int)+1)=((i+1:Nat):Int):=W64_succ (by omega)
   have hi62:i+1≤63:=by omega
   have hpi:2^(i+1)≤2^63:=Nat.pow_le_pow_right (by decide) hi62
   rw [Nat.pow_succ]at hpi
   refine T_chance_Decoder_gate H hx' hs (by omega) (fun d hah w2 H=>⟨_,rfl,bif_f rfl ?_⟩) fun hah w2 er her hf=>⟨_,rfl,bif_t (by simpa using her) (h2 ?_ w2 er her hf)⟩
   · obtain⟨a1,a2,a3⟩:=CS.ahead_some hah
     unfold DG at H
     have e1:U64 (Int.tdiv (x'.R:Int) 2)=((x'.R/2:Nat):Int):=by
      rw [show(2:Int)=((2:Nat):Int)from rfl,tdiv_nat',U64_nat,Nat.mod_eq_of_lt (by omega)]
     have e2:shlI .u64 (v:Int) (1:Int)=((2*v:Nat):Int):=by
      rw [show(1:Int)=((1:Nat):Int)from rfl,shlI_u64 _ _ (by decide),Nat.pow_one,Nat.mod_eq_of_lt (by omega),Nat.mul_comm]
     have e3:orI .u64 ((2*v:Nat):Int) (1:Int)=((2*v+1:Nat):Int):=by
      rw [show(1:Int)=((1:Nat):Int)from rfl,orI_u64 _ _ (by omega) (by decide)]
      congr 1
      have:=Nat.two_pow_add_eq_or_of_lt (i:=1) (b:=1) (by decide) v
      rw [Nat.pow_one]at this
      exact this.symm
     rw [e2,e3]
     refine OSome.i ⟨_,by rw [A0_add];exact Sx.cell H 0 rfl rfl,by decide,OSome.i ?_⟩
     rw [A0_add,e1]
     refine Sx.sto H 0 rfl (by simp [decC]) fun w3 _ H=>⟨by decide,OSome.i ⟨_,by rw [A0_add];exact Sx.cell H 0 rfl rfl,?_⟩⟩
     have hth:∀t:Bool,decide (x'.R/2≤d)=t→x'.tellHalf s=some (t,x'.half t):=fun t ht=>by
      unfold CS.tellHalf;rw [hah,Option.map_some,ht]
     refine T_chance_Decoder_part (at_:=x'.k) (k:=x'.k) (r:=x'.R/2) (n:=x'.R/2) H (by unfold WW;omega) (fun hlt w4 H=>⟨_,rfl,bif_f rfl ?_⟩) fun hge w4 H=>⟨_,rfl,bif_t rfl ?_⟩
     · have ht:=hth false (decide_eq_false (by omega))
       rw [ht]at hd
       refine T_chance_Decoder_grow (V0:=0) (x:=⟨x'.V+0,x'.k,x'.R/2⟩) H (CS.nar_mid (lo:=0) (sz:=x'.R/2) hx' (by omega) (by omega)) (by show x'.k≤_;omega) rfl a1 (by show d+(x'.V+0)=_;exact a2) (Nat.le_of_lt hlt) fun w5 H=>⟨rfl,m',by omega,2*v,i+1,x'.half false,rfl,hstep,by omega,by rw [Nat.pow_succ];omega,CS.half_ok hx' _,?_,?_,H⟩
       · have:=half_k x' false;omega
       · rw [←hd];rfl
     · have ht:=hth true (decide_eq_true hge)
       rw [ht]at hd
       refine T_chance_Decoder_grow (V0:=0) (x:=⟨x'.V+x'.R/2,x'.k,x'.R/2⟩) H (CS.nar_mid (lo:=x'.R/2) (sz:=x'.R/2) hx' (by omega) (by omega)) (by show x'.k≤_;omega) rfl a1 (by show d-x'.R/2+(x'.V+x'.R/2)=_;omega) (by show d-x'.R/2≤x'.R/2;omega) fun w5 H=>⟨rfl,m',by omega,2*v+1,i+1,x'.half true,rfl,hstep,by omega,by rw [Nat.pow_succ];omega,CS.half_ok hx' _,?_,?_,H⟩
       · have:=half_k x' true;omega
       · rw [←hd];rfl
   · have:x'.tellHalf s=none:=by unfold CS.tellHalf;rw [hah];rfl
     rw [this]at hd
     exact hd.symm
 · have h0:n≤i:=by have:=of_decide_eq_false h0;omega
   obtain rfl:m=0:=by omega
   exact h1 v x' (by rw [←hd];rfl) w1 H
end Go.Proofs.Tryz
namespace Go.Proofs.Tryz
open Go Go.RowKit Go.Proofs.VC
def clampI (m n:Int):Int:=max (-m) (min n m)
def squashP (x:Nat):Nat:=268435456/(65536+(65536/2^(x/256)-65536/2^(x/256)/2*(x%256)/256))
def squashN (x:Int):Nat:=if clampI 2047 x<0 then 4096-squashP (-(clampI 2047 x)).toNat else squashP (clampI 2047 x).toNat
theorem squashP_le {x:Nat} (h:x≤2047):2048≤squashP x∧squashP x≤4080:=by
 unfold squashP
 generalize he:65536/2^(x/256)=e
 have hx:x/256≤7:=by omega
 have h1:e≤65536:=by rw [←he];exact Nat.div_le_self _ _
 have h2:512≤e:=by
  rw [←he]
  have:2^(x/256)≤2^7:=Nat.pow_le_pow_right (by decide) hx
  have e7:(2:Nat)^7=128:=by decide
  rw [Nat.le_div_iff_mul_le (Nat.pow_pos (by decide))]
  omega
 have h3:e/2*(x%256)/256≤e/2:=by
  refine Nat.div_le_of_le_mul ?_
  rw [Nat.mul_comm]
  exact Nat.mul_le_mul_right _ (by omega)
 constructor
 · rw [Nat.le_div_iff_mul_le (by omega)];omega
 · rw [Nat.div_le_iff_le_mul_add_pred (by omega)];omega
theorem squashN_le (x:Int):16≤squashN x∧squashN x≤4080:=by
 have h: -2047≤clampI 2047 x∧clampI 2047 x≤2047:=by unfold clampI;omega
 unfold squashN
 split
 · have:=squashP_le (x:=(-(clampI 2047 x)).toNat) (by omega);omega
 · have:=squashP_le (x:=(clampI 2047 x).toNat) (by omega);omega
def stretchF (p:Nat):Nat→Nat→Nat→Nat
 |0,i,j=>i
 |f+1,i,j=>if i<j then(if squashN (((i+j)/2:Nat)-2047)<p then stretchF p f ((i+j)/2+1) j else stretchF p f i ((i+j)/2))else i
def stretchN (p:Nat):Int:=min ((stretchF (cutN p) 13 0 4095:Nat)-2047) 2047
def weightN (n:Int):Int:=clampI 1048576 n
def inputN (n:Int):Int:=clampI 2047 n
theorem weightN_le (n:Int): -1048576≤weightN n∧weightN n≤1048576:=by unfold weightN clampI;omega
theorem inputN_le (n:Int): -2047≤inputN n∧inputN n≤2047:=by unfold inputN clampI;omega
def sumWN:List Int→List Int→Int
 |w::ws,x::xs=>weightN w*inputN x+sumWN ws xs
 |_,_=>0
def mixP (ws xs:List Int):Nat:=squashN (inputN (sumWN ws xs/65536))
def lackN (p:Nat) (b:Bool):Int:=(if b then 4096 else 0)-(min p 4096:Nat)
def trainN (k:Int):List Int→List Int→List Int
 | [],_=> []
 |w::ws,[]=>weightN w::trainN k ws []
 |w::ws,x::xs=>weightN (weightN w+inputN x*k/1024)::trainN k ws xs
def moveN (p:Nat) (b:Bool) (s:Nat):Nat:=if b then min p 4096+(4096-min p 4096)/2^(max 1 (min s 12))else min p 4096-min p 4096/2^(max 1 (min s 12))
theorem moveN_le (p:Nat) (b:Bool) (s:Nat):moveN p b s≤4096:=by
 unfold moveN
 split
 · have:=Nat.div_le_self (4096-min p 4096) (2^max 1 (min s 12));omega
 · exact Nat.le_trans (Nat.sub_le _ _) (Nat.min_le_right _ _)
structure MD where
 l0:List Nat
 l1:List Nat
 l2:List Nat
 W:List (List Int)
 a:Nat
 b:Nat
def MD.new:MD:=⟨List.replicate 128 2048,List.replicate 8320 2048,List.replicate 8320 2048,List.replicate 7 [21845,21845,21845],0,0⟩
def MD.c (m:MD):Nat:=(m.a+2*m.b)/3
def MD.p0 (m:MD) (i:Nat):Nat:=m.l0.getD i 0
def MD.p1 (m:MD) (i:Nat):Nat:=m.l1.getD (m.a*128+i) 0
def MD.p2 (m:MD) (i:Nat):Nat:=m.l2.getD (m.c*128+i) 0
def MD.inputs (m:MD) (i:Nat):List Int:= [stretchN (m.p0 i),stretchN (m.p1 i),stretchN (m.p2 i)]
def MD.at (m:MD) (d i:Nat):Nat:=mixP (m.W.getD d []) (m.inputs i)
def MD.learn (m:MD) (d i:Nat) (b:Bool):MD:=
 {m with l0:=m.l0.set i (moveN (m.p0 i) b 4),l1:=m.l1.set (m.a*128+i) (moveN (m.p1 i) b 5),l2:=m.l2.set (m.c*128+i) (moveN (m.p2 i) b 6),
         W:=m.W.set d (trainN (lackN (m.at d i) b) (m.W.getD d []) (m.inputs i))}
def MD.came (m:MD) (c:Nat):MD:= {m with a:=c,b:=m.a}
structure MD.Ok (m:MD):Prop where
 n0:m.l0.length=128
 n1:m.l1.length=8320
 n2:m.l2.length=8320
 nW:m.W.length=7
 w3:∀w∈m.W,w.length=3
 a65:m.a<65
 b65:m.b<65
 m0:∀p∈m.l0,p≤4096
 m1:∀p∈m.l1,p≤4096
 m2:∀p∈m.l2,p≤4096
theorem MD.new_ok:MD.new.Ok:=by
 refine⟨List.length_replicate,List.length_replicate,List.length_replicate,List.length_replicate,?_,by decide,by decide,?_,?_,?_⟩
 · intro w hw;rw [(List.mem_replicate.1 hw).2];rfl
 · intro w hw;rw [(List.mem_replicate.1 hw).2];decide
 · intro w hw;rw [(List.mem_replicate.1 hw).2];decide
 · intro w hw;rw [(List.mem_replicate.1 hw).2];decide
theorem trainN_len (k:Int):∀(ws xs:List Int),(trainN k ws xs).length=ws.length
 | [],_=>rfl
 |w::ws,[]=>by simp [trainN,trainN_len k ws]
 |w::ws,x::xs=>by simp [trainN,trainN_len k ws]
theorem set_all {α:Type} {P:α→Prop} {l:List α} {i:Nat} {v:α} (h:∀x∈l,P x) (hv:P v):∀x∈l.set i v,P x:=by
 intro x hx
 rcases List.mem_or_eq_of_mem_set hx with h1|h1
 · exact h x h1
 · rw [h1];exact hv
theorem MD.learn_ok {m:MD} (h:m.Ok) {d i:Nat} (hd:d<7) (b:Bool):(m.learn d i b).Ok:=by
 refine⟨by simp [MD.learn,h.n0],by simp [MD.learn,h.n1],by simp [MD.learn,h.n2],by simp [MD.learn,h.nW],?_,h.a65,h.b65,set_all h.m0 (moveN_le _ _ _),set_all h.m1 (moveN_le _ _ _),set_all h.m2 (moveN_le _ _ _)⟩
 refine set_all h.w3 ?_
 rw [trainN_len]
 refine h.w3 _ ?_
 rw [List.getD_eq_getElem?_getD,List.getElem?_eq_getElem (by rw [h.nW];exact hd)]
 exact List.getElem_mem _
theorem MD.came_ok {m:MD} (h:m.Ok) {c:Nat} (hc:c<65):(m.came c).Ok:=⟨h.n0,h.n1,h.n2,h.nW,h.w3,hc,h.a65,h.m0,h.m1,h.m2⟩
theorem MD.c_lt {m:MD} (h:m.Ok):m.c<65:=by have:=h.a65;have:=h.b65;unfold MD.c;omega
def MD.walk {σ:Type} (step:σ→Nat→Option (Bool×σ)):Nat→Nat→MD→σ→Option (Nat×MD×σ)
 |0,i,m,x=>some (i,m,x)
 |n+1,i,m,x=>match step x (m.at (6-n) i)with
  |none=>none
  |some (b,x')=>MD.walk step n (2*i+(if b then 1 else 0)) (m.learn (6-n) i b) x'
def MD.cls {σ:Type} (step:σ→Nat→Option (Bool×σ)) (m:MD) (x:σ):Option (Nat×MD×σ):=match MD.walk step 7 1 m x with
 |none=>none
 |some (i,m',x')=>if i-128<65 then some (i-128,m'.came (i-128),x')else none
def putStep:List Bool×CS→Nat→Option (Bool×List Bool×CS)
 |([],x),_=>none
 |(b::bs,x),p=>some (b,bs,x.bit p b)
def getStep (s:List UInt8) (x:CS) (p:Nat):Option (Bool×CS):=x.tellBit s p
def cbits (c:Nat):List Bool:=(List.range 7).map fun i=>c/2^(6-i)%2==1
def putOne (p:Pt) (m:MD) (x:CS):Option (MD×CS):=(MD.cls putStep m (cbits p.1,x)).map fun r=>(r.2.1,CS.direct p.2 (p.1-1) r.2.2.2)
def modelPut:List Pt→MD→CS→Option CS
 | [],m,x=>some x
 |p::ps,m,x=>(putOne p m x).bind fun r=>modelPut ps r.1 r.2
def modelB (ps:List Pt):List UInt8:=match modelPut ps MD.new CS.new with
 |none=> []
 |some x=>x.bytes
def getOne (s:List UInt8) (m:MD) (x:CS):Option (Pt×MD×CS):=(MD.cls (getStep s) m x).bind fun r=>(CS.tellDirect s (r.1-1) 0 r.2.2).map fun v=>((r.1,v.1),r.2.1,v.2)
def modelGet (s:List UInt8):Nat→MD→CS→Option (List Pt×CS)
 |0,m,x=>some ([],x)
 |n+1,m,x=>(getOne s m x).bind fun r=>(modelGet s n r.2.1 r.2.2).map fun t=>(r.1::t.1,t.2)
def modelR (n:Nat) (s:List UInt8):Option (List Pt):=match modelGet s n MD.new CS.new with
 |none=>none
 |some (ps,x)=>if CS.ends s x=true then some ps else none
end Go.Proofs.Tryz
namespace Go.Proofs.Tryz
open Go Go.RowKit Go.Proofs.VC
variable {M:List Nat} {w0 w:World} {L:List En}
theorem T_chance_Decoder_End {R:Ending→World→Prop} {b:Nat} {s:List UInt8} {x:CS} (H:DS M w0 w L b s x) (hx:x.Ok) (hs:s.length≤140737488355328) (hk:x.k≤140737488355400)
 (h1:CS.ends s x=true→∀w',Sx M w0 w' L→R (.returned (.int .i64 0)) w')
 (h2:CS.ends s x=false→∀w' (er:Int),er≠0→Fr M w0 w'→R (.returned (.int .i64 er)) w'):Calls prog n_chance_Decoder_End #[.pointer (some (A0 b))] w R:=by
 refine S_chance_Decoder_End ?_
 unfold F_chance_Decoder_End
 refine T_chance_Decoder_gate H hx hs (by omega) (fun d hah w2 H=>⟨_,rfl,bif_f rfl ?_⟩) fun hah w2 er her hf=>⟨_,rfl,bif_t (by simpa using her) (h2 (by unfold CS.ends;rw [hah];rfl) w2 er her hf)⟩
 unfold DG at H
 unfold CS.ends at h1 h2
 rw [hah]at h1 h2
 refine Sx.drew H fun w3 _ H=>OSome.i ⟨_,by rw [A0_add];exact Sx.cell H 0 rfl rfl,bif_i (fun hd=>OSome.i ?_) fun hd=>OSome.i ⟨_,by rw [A0_add];exact Sx.cell H 0 rfl rfl,OSome.i ⟨_,Sx.cell H 0 rfl rfl,bif_i (fun hl=>OSome.i ?_) fun hl=>?_⟩⟩⟩
 · have hd:d≠0:=by have:((d:Nat):Int)≠0:=by simpa using hd
                   omega
   rw [A0_add]
   refine Sx.sto H 0 rfl (by simp [decC]) fun w4 _ H=>h2 ?_ w4 3 (by decide) H.fr
   simp [hd]
 · rw [S_size]at hl
   have hl:x.k≠s.length:=fun e=>by rw [e]at hl;simp at hl
   rw [A0_add]
   refine Sx.sto H 0 rfl (by simp [decC]) fun w4 _ H=>h2 ?_ w4 3 (by decide) H.fr
   simp [hl]
 · have hd:d=0:=by have:((d:Nat):Int)=0:=by simpa using hd
                   omega
   rw [S_size]at hl
   have hl:x.k=s.length:=by have:((x.k:Nat):Int)=((s.length:Nat):Int):=by simpa using hl
                            omega
   exact h1 (by simp [hd,hl]) w3 H.tail
theorem T_tree_isClass (c:Nat) (hc:c<65) (w:World):Calls prog n_tree_isClass #[.int .i64 (c:Int)] w fun e w'=>e= .returned (.bool true)∧Fr [] w w':=by
 refine S_tree_isClass ?_
 unfold F_tree_isClass
 refine bif_t (decide_eq_true (by omega)) ⟨?_,Fr.refl _ _⟩
 rw [decide_eq_true (show(c:Int)<65 by omega)]
def b2n (b:Bool):Nat:=if b then 1 else 0
def bitI (l:List Bool):List Int:=l.map fun b=>((b2n b:Nat):Int)
theorem cbits_snoc (c i:Nat):((List.range (i+1)).map fun i=>c/2^(6-i)%2==1)=((List.range i).map fun i=>c/2^(6-i)%2==1)++ [c/2^(6-i)%2==1]:=by
 rw [List.range_succ,List.map_append];rfl
theorem b2n_mod (n:Nat):b2n (n%2==1)=n%2:=by
 unfold b2n
 rcases Nat.mod_two_eq_zero_or_one n with h|h<;>simp [h]
theorem andI_i64 (a b:Nat) (ha:a<9223372036854775808) (hb:b<9223372036854775808):andI .i64 a b=((a&&&b:Nat):Int):=by
 have h:(a&&&b)<2^63:=Nat.and_lt_two_pow _ (by omega)
 show IntKind.wrap .i64 (((BitVec.ofInt 64 (a:Int)&&&BitVec.ofInt 64 (b:Int)).toNat:Nat):Int)=_
 rw [ofInt_nat,ofInt_nat,BitVec.toNat_and,BitVec.toNat_ofNat,BitVec.toNat_ofNat]
 rw [Nat.mod_eq_of_lt (show a<2^64 by omega),Nat.mod_eq_of_lt (show b<2^64 by omega)]
 exact wrap_i64 _ (by omega) (by omega)
theorem T_tree_Nodes (c:Nat) (hc:c<65) (w:World):Calls prog n_tree_Nodes #[.int .i64 (c:Int)] w fun e w'=>∃a n k a' n' k',e= .returned (.tuple #[.slice a n k,.slice a' n' k'])∧Sx [] w w' [.ow t_int 1 a' n' k' (i64s (bitI (cbits c)))]:=by
 refine S_tree_Nodes ?_
 unfold F_tree_Nodes
 refine(T_tree_isClass c hc w).mono ?_
 rintro e w1 ⟨rfl,hf⟩
 refine⟨_,rfl,bif_f rfl ?_⟩
 have H:=(((Sx.start [] w).call0 hf).nilw t_int 1).nilw t_int 1
 refine⟨fun m a n k a' n' k' x y w2=>∃(i at_:Nat) (l:List Int),x=(at_:Int)∧y=6-(i:Int)∧m+i=7∧at_<2^(i+1)∧n=i∧n'=i∧
  Sx [] w w2 [.ow t_int 1 a' n' k' (i64s (bitI ((List.range i).map fun i=>c/2^(6-i)%2==1))),.ow t_int 1 a n k (i64s l)],
  ⟨7,0,1,[],rfl,rfl,rfl,by decide,rfl,rfl,H⟩,?_⟩
 rintro m a n k a' n' k' x y w2 ⟨i,at_,l,rfl,rfl,hmi,hat,rfl,rfl,H⟩
 refine bif_i (fun h=>?_) fun h=>?_
 · have hi:n'≤6:=by have:=of_decide_eq_true h;omega
   have e6:(6:Int)-(n':Int)=((6-n':Nat):Int):=by omega
   have hlt:c/2^(6-n')≤c:=Nat.div_le_self _ _
   have hb:andI .i64 (shrI .i64 (c:Int) ((6-n':Nat):Int)) (1:Int)=((c/2^(6-n')%2:Nat):Int):=by
    rw [shrI_nat _ _ _ (by show 6-n'≤64;omega),show(1:Int)=((1:Nat):Int)from rfl,andI_i64 _ _ (by omega) (by decide),Nat.and_one_is_mod]
   have h27:2^(n'+1)≤2^7:=Nat.pow_le_pow_right (by decide) (by omega)
   have e27:(2:Nat)^7=128:=by decide
   rw [e6,hb]
   have hmod:=Nat.mod_lt (c/2^(6-n')) (show 0<2 by decide)
   refine⟨by omega,Sx.alloc H fun w3 b20 _ H=>?_⟩
   refine app_int H (j:=1) rfl (by omega) fun a3 c3 w4 H=>Sx.alloc H fun w5 b24 _ H=>?_
   refine app_int H (j:=0) rfl (by omega) fun a4 c4 w6 H=>⟨m-1,by omega,n'+1,2*at_+c/2^(6-n')%2,l++ [(at_:Int)],?_,?_,by omega,?_,rfl,rfl,?_⟩
   · have e1:W64 ((2:Int)*(at_:Int))=((2*at_:Nat):Int):=W64_idn (by omega) (by omega)
     rw [e1]
     exact W64_idn (by omega) (by omega)
   · have e:=W64_id (((6-n':Nat):Int)-1) (by omega) (by omega)
     rw [e];omega
   · rw [Nat.pow_succ];omega
   · have e:bitI ((List.range (n'+1)).map fun i=>c/2^(6-i)%2==1)=bitI ((List.range n').map fun i=>c/2^(6-i)%2==1)++ [((c/2^(6-n')%2:Nat):Int)]:=by
      rw [cbits_snoc,bitI,List.map_append,List.map_singleton,b2n_mod];rfl
     rw [e]
     exact H
 · have hi:n'=7:=by have:=of_decide_eq_false h;omega
   subst hi
   exact⟨_,_,_,_,_,_,rfl,H.sub ((List.nil_sublist _).cons_cons _)⟩
theorem clampE (x m:Int) (hm:0≤m):(if (if m<x then m else x)> -m then(if m<x then m else x)else-m)=clampI m x:=by
 unfold clampI;split<;>split<;>omega
theorem shrI_i64 (a:Int) (n:Nat) (h:n≤64):shrI .i64 a (n:Int)=a/2^n:=by
 have e:min n (IntKind.bits .i64)=n:=Nat.min_eq_left h
 show a.fdiv (2^(min ((n:Int).toNat) (IntKind.bits .i64)))=_
 rw [Int.toNat_natCast,e,Int.fdiv_eq_ediv_of_nonneg _ (by exact_mod_cast Nat.zero_le (2^n))]
theorem T_tree_Move (p s:Nat) (b:Bool) (hp:p≤4611686018427387904) (hs:s≤4611686018427387904) (w:World):Calls prog n_tree_Move #[.int .i64 (p:Int),.int .i64 ((b2n b:Nat):Int),.int .i64 (s:Int)] w fun e w'=>e= .returned (.int .i64 (moveN p b s:Int))∧Fr [] w w':=by
 refine S_tree_Move ?_
 unfold F_tree_Move
 have e1:(if (if (12:Int)<(s:Int)then(12:Int)else(s:Int))>(1:Int)then(if (12:Int)<(s:Int)then(12:Int)else(s:Int))else(1:Int))=((max 1 (min s 12):Nat):Int):=by
  split<;>split<;>omega
 have e2:(if (if (4096:Int)<(p:Int)then(4096:Int)else(p:Int))>(0:Int)then(if (4096:Int)<(p:Int)then(4096:Int)else(p:Int))else(0:Int))=((min p 4096:Nat):Int):=by
  split<;>split<;>omega
 have e3:W64 ((4096:Int)-((min p 4096:Nat):Int))=((4096-min p 4096:Nat):Int):=W64_idn (by omega) (by omega)
 have hs12:max 1 (min s 12)≤64:=by omega
 rw [e1,e2,e3,shrI_nat _ _ _ (show max 1 (min s 12)≤IntKind.bits .i64 from hs12),shrI_nat _ _ _ (show max 1 (min s 12)≤IntKind.bits .i64 from hs12)]
 have g1:=Nat.div_le_self (4096-min p 4096) (2^max 1 (min s 12))
 have g2:=Nat.div_le_self (min p 4096) (2^max 1 (min s 12))
 cases b with
 |true=>
  refine bif_t rfl ⟨by omega,?_,Fr.refl _ _⟩
  rw [W64_idn (m:=min p 4096+(4096-min p 4096)/2^max 1 (min s 12)) (by push_cast;rfl) (by omega)]
  rfl
 |false=>
  refine bif_f rfl ⟨by omega,?_,Fr.refl _ _⟩
  rw [W64_idn (m:=min p 4096-min p 4096/2^max 1 (min s 12)) (by omega) (Nat.lt_of_le_of_lt (Nat.sub_le _ _) (by omega))]
  rfl
theorem T_squash_pos (z:Int) (x:Nat) (hz:clampI 2047 z=(x:Int)) (w:World):Calls prog n_squash_Squash #[.int .i64 z] w fun e w'=>e= .returned (.int .i64 (squashP x:Int))∧Fr [] w w':=by
 have hx:x≤2047:=by unfold clampI at hz;omega
 refine S_squash_Squash ?_
 unfold F_squash_Squash
 rw [clampE z 2047 (by decide),hz]
 refine bif_f (decide_eq_false (by omega)) ?_
 have hx256:x/256≤7:=by omega
 have e2:W64 (Int.tdiv (x:Int) 256)=((x/256:Nat):Int):=by
  rw [show(256:Int)=((256:Nat):Int)from rfl,tdiv_nat'];exact W64_nat (by omega)
 have e3:shrI .i64 (65536:Int) ((x/256:Nat):Int)=((65536/2^(x/256):Nat):Int):=by
  rw [show(65536:Int)=((65536:Nat):Int)from rfl]
  exact shrI_nat _ _ _ (by show x/256≤64;omega)
 have e4:Int.tmod (x:Int) 256=((x%256:Nat):Int):=by rw [show(256:Int)=((256:Nat):Int)from rfl,tmod_nat]
 rw [e2,e3,e4]
 have hle:65536/2^(x/256)≤65536:=Nat.div_le_self _ _
 unfold squashP
 generalize 65536/2^(x/256)=e at hle
 have hm:x%256<256:=Nat.mod_lt _ (by decide)
 have e5:W64 (Int.tdiv (e:Int) 2)=((e/2:Nat):Int):=by
  rw [show(2:Int)=((2:Nat):Int)from rfl,tdiv_nat'];exact W64_nat (by omega)
 have hmul:e/2*(x%256)≤e/2*256:=Nat.mul_le_mul_left _ (by omega)
 have e6:W64 (((e/2:Nat):Int)*((x%256:Nat):Int))=((e/2*(x%256):Nat):Int):=W64_idn (Int.natCast_mul _ _).symm (by omega)
 rw [e5,e6]
 have e7:W64 (Int.tdiv ((e/2*(x%256):Nat):Int) 256)=((e/2*(x%256)/256:Nat):Int):=by
  rw [show(256:Int)=((256:Nat):Int)from rfl,tdiv_nat'];exact W64_nat (by omega)
 rw [e7]
 generalize e/2*(x%256)=u at hmul
 have e8:W64 ((e:Int)-((u/256:Nat):Int))=((e-u/256:Nat):Int):=W64_idn (by omega) (by omega)
 rw [e8]
 have e9:W64 ((65536:Int)+((e-u/256:Nat):Int))=((65536+(e-u/256):Nat):Int):=W64_idn (by omega) (by omega)
 rw [e9]
 refine⟨by decide,by omega,by decide,by decide,by decide,by omega,?_,Fr.refl _ _⟩
 have e10:Int.tdiv (268435456:Int) ((65536+(e-u/256):Nat):Int)=((268435456/(65536+(e-u/256)):Nat):Int):=tdiv_nat' 268435456 _
 rw [e10,W64_nat (Nat.lt_of_le_of_lt (Nat.div_le_self _ _) (by omega))]
theorem T_squash_Squash (x:Int) (w:World):Calls prog n_squash_Squash #[.int .i64 x] w fun e w'=>e= .returned (.int .i64 (squashN x:Int))∧Fr [] w w':=by
 have hc: -2047≤clampI 2047 x∧clampI 2047 x≤2047:=by unfold clampI;omega
 by_cases h0:clampI 2047 x<0
 · refine S_squash_Squash ?_
   unfold F_squash_Squash
   rw [clampE x 2047 (by decide)]
   have e0:squashN x=4096-squashP (-(clampI 2047 x)).toNat:=by unfold squashN;rw [if_pos h0]
   have e1:W64 (0-clampI 2047 x)=(((-(clampI 2047 x)).toNat:Nat):Int):=W64_idn (by omega) (by omega)
   rw [e1]
   refine bif_t (decide_eq_true h0) ((T_squash_pos _ (-(clampI 2047 x)).toNat (by unfold clampI at hc h0 ⊢;omega) w).mono ?_)
   rintro e w1 ⟨rfl,hf⟩
   have hle:=squashP_le (x:=(-(clampI 2047 x)).toNat) (by omega)
   refine⟨_,rfl,?_,hf⟩
   rw [e0,W64_idn (m:=4096-squashP (-(clampI 2047 x)).toNat) (by omega) (by omega)]
 · have e0:squashN x=squashP (clampI 2047 x).toNat:=by unfold squashN;rw [if_neg h0]
   rw [e0]
   exact T_squash_pos x (clampI 2047 x).toNat (by omega) w
end Go.Proofs.Tryz
namespace Go.Proofs.Tryz
open Go Go.RowKit Go.Proofs.VC
variable {M:List Nat} {w0 w:World} {L:List En}
theorem stretchF_end (p:Nat):∀(f i j:Nat),¬i<j→stretchF p f i j=i
 |0,i,j,_=>rfl
 |f+1,i,j,h=>by rw [stretchF,if_neg h]
theorem T_squash_Stretch (p:Nat) (hp:p≤4611686018427387904) (w:World):Calls prog n_squash_Stretch #[.int .i64 (p:Int)] w fun e w'=>e= .returned (.int .i64 (stretchN p))∧Fr [] w w':=by
 refine S_squash_Stretch ?_
 unfold F_squash_Stretch
 have e:(if (if (4095:Int)<(p:Int)then(4095:Int)else(p:Int))>(1:Int)then(if (4095:Int)<(p:Int)then(4095:Int)else(p:Int))else(1:Int))=((cutN p:Nat):Int):=by
  unfold cutN;split<;>split<;>omega
 rw [e]
 refine⟨fun m x y w1=>∃i j:Nat,x=(i:Int)∧y=(j:Int)∧i≤j∧j≤4095∧j-i<2^m∧m≤13∧stretchF (cutN p) m i j=stretchF (cutN p) 13 0 4095∧Fr [] w w1,
  ⟨13,0,4095,rfl,rfl,by omega,by omega,by decide,by omega,rfl,Fr.refl _ _⟩,?_⟩
 rintro m x y w1 ⟨i,j,rfl,rfl,hij,hj,hm,hm13,hs,hf⟩
 refine bif_i (fun h=>?_) fun h=>?_
 · have h:i<j:=by have:=of_decide_eq_true h;omega
   obtain⟨m',rfl⟩:∃m',m=m'+1:=⟨m-1,by
    rcases Nat.eq_zero_or_pos m with h0|h0
    · subst h0;simp at hm;omega
    · omega⟩
   rw [stretchF,if_pos h]at hs
   rw [Nat.pow_succ]at hm
   have e1:W64 ((i:Int)+(j:Int))=((i+j:Nat):Int):=W64_idn (by omega) (by omega)
   have e2:W64 (Int.tdiv ((i+j:Nat):Int) 2)=(((i+j)/2:Nat):Int):=by
    rw [show(2:Int)=((2:Nat):Int)from rfl,tdiv_nat'];exact W64_nat (by omega)
   have e3:W64 ((((i+j)/2:Nat):Int)-2047)=(((i+j)/2:Nat):Int)-2047:=W64_id _ (by omega) (by omega)
   rw [e1,e2,e3,W64_succ (by omega)]
   refine⟨by decide,(T_squash_Squash _ w1).mono ?_⟩
   rintro e w2 ⟨rfl,hf2⟩
   refine⟨_,rfl,bif_i (fun hlt=>?_) fun hge=>?_⟩
   · have hlt:squashN ((((i+j)/2:Nat):Int)-2047)<cutN p:=by have:=of_decide_eq_true hlt;omega
     rw [if_pos hlt]at hs
     exact⟨m',by omega,_,_,rfl,rfl,by omega,hj,by omega,by omega,hs,hf.trans hf2⟩
   · have hge:¬squashN ((((i+j)/2:Nat):Int)-2047)<cutN p:=by have:=of_decide_eq_false hge;omega
     rw [if_neg hge]at hs
     exact⟨m',by omega,_,_,rfl,rfl,by omega,by omega,by omega,by omega,hs,hf.trans hf2⟩
 · have h:¬i<j:=by have:=of_decide_eq_false h;omega
   rw [stretchF_end _ _ _ _ h]at hs
   rw [W64_id _ (by omega) (by omega)]
   refine⟨?_,hf⟩
   have:(if (2047:Int)<(i:Int)-2047 then(2047:Int)else(i:Int)-2047)=stretchN p:=by
    unfold stretchN
    rw [←hs]
    split<;>omega
   rw [this]
theorem T_mixer_weight (x:Int) (w:World):Calls prog n_mixer_weight #[.int .i64 x] w fun e w'=>e= .returned (.int .i64 (weightN x))∧Fr [] w w':=by
 refine S_mixer_weight ?_
 unfold F_mixer_weight
 rw [clampE x 1048576 (by decide)]
 exact⟨rfl,Fr.refl _ _⟩
theorem T_mixer_input (x:Int) (w:World):Calls prog n_mixer_input #[.int .i64 x] w fun e w'=>e= .returned (.int .i64 (inputN x))∧Fr [] w w':=by
 refine S_mixer_input ?_
 unfold F_mixer_input
 rw [clampE x 2047 (by decide)]
 exact⟨rfl,Fr.refl _ _⟩
theorem mul_bd {a b A B:Int} (h1: -A≤a) (h2:a≤A) (h3: -B≤b) (h4:b≤B): -(A*B)≤a*b∧a*b≤A*B:=by
 have hA:0≤A:=by omega
 have hB:0≤B:=by omega
 rcases Int.le_total 0 a with ha|ha<;>rcases Int.le_total 0 b with hb|hb
 · have:=Int.mul_le_mul h2 h4 hb hA
   have:=Int.mul_nonneg ha hb
   omega
 · have h:=Int.mul_le_mul h2 (show-b≤B by omega) (by omega) hA
   have h':=Int.mul_nonneg ha (show 0≤ -b by omega)
   rw [Int.mul_neg]at h h'
   omega
 · have h:=Int.mul_le_mul (show-a≤A by omega) h4 hb hA
   have h':=Int.mul_nonneg (show 0≤ -a by omega) hb
   rw [Int.neg_mul]at h h'
   omega
 · have h:=Int.mul_le_mul (show-a≤A by omega) (show-b≤B by omega) (by omega) hA
   have h':=Int.mul_nonneg (show 0≤ -a by omega) (show 0≤ -b by omega)
   rw [Int.neg_mul,Int.mul_neg,Int.neg_neg]at h h'
   omega
theorem wi_bd (a b:Int): -2146435072≤weightN a*inputN b∧weightN a*inputN b≤2146435072:=by
 have h1:=weightN_le a
 have h2:=inputN_le b
 exact mul_bd (A:=1048576) (B:=2047) (by omega) h1.2 (by omega) h2.2
theorem sumWN_snoc:∀(ws xs:List Int) (a b:Int),ws.length=xs.length→sumWN (ws++ [a]) (xs++ [b])=sumWN ws xs+weightN a*inputN b
 | [],[],a,b,_=>by simp [sumWN]
 |w::ws,x::xs,a,b,h=>by
  simp only [List.cons_append,sumWN,sumWN_snoc ws xs a b (by simpa using h)]
  omega
 | [],_::_,_,_,h=>by simp at h
 |_::_,[],_,_,h=>by simp at h
theorem T_mixer_Mix (a:Option Addr) (n c:Nat) (ws:List Int) (a':Option Addr) (n' c':Nat) (xs:List Int) (w:World) (hs:SlI w a n ws) (hs':SlI w a' n' xs) (hl:ws.length=xs.length) (hb:ws.length≤1000):
 Calls prog n_mixer_Mix #[.slice a n c,.slice a' n' c'] w fun e w'=>e= .returned (.int .i64 (mixP ws xs:Int))∧Fr [] w w':=by
 obtain⟨rfl,hs⟩:=hs
 obtain⟨rfl,hs'⟩:=hs'
 refine S_mixer_Mix ?_
 unfold F_mixer_Mix
 have em:(if ((xs.length:Nat):Int)<((ws.length:Nat):Int)then((xs.length:Nat):Int)else((ws.length:Nat):Int))=(ws.length:Int):=by split<;>omega
 rw [em]
 refine⟨fun m x y w1=>∃i:Nat,y=(i:Int)∧m+i=ws.length∧x=sumWN (ws.take i) (xs.take i)∧ -(2146435072*(i:Int))≤x∧x≤2146435072*(i:Int)∧Fr [] w w1,
  ⟨ws.length,0,rfl,rfl,by simp [sumWN],by simp,by simp,Fr.refl _ _⟩,?_⟩
 rintro m x y w1 ⟨i,rfl,hmi,hx,hx1,hx2,hf⟩
 refine bif_i (fun h=>?_) fun h=>?_
 · have hi:i<ws.length:=by have:=of_decide_eq_true h;omega
   have hi':i<xs.length:=by omega
   rintro w2 rfl
   have hf2:=hf.trans (Fr.drew [] w1)
   refine⟨by omega,by omega,?_⟩
   rw [Int.toNat_natCast,Nat.mul_one]
   refine(hs.fr0 hf2).read (i64s_get (List.getElem?_eq_getElem hi)) fun p hp hc=>⟨_,hc,by omega,by omega,?_⟩
   refine(hs'.fr0 hf2).read (i64s_get (List.getElem?_eq_getElem hi')) fun p' hp' hc'=>⟨_,hc',?_⟩
   refine(T_mixer_weight _ _).mono ?_
   rintro e w3 ⟨rfl,hf3⟩
   refine⟨_,rfl,⟨hf3.cell0,trivial⟩,(T_mixer_input _ _).mono ?_⟩
   rintro e w4 ⟨rfl,hf4⟩
   have hw:=wi_bd ws[i] xs[i]
   refine⟨_,rfl,⟨hf4.cell0,trivial⟩,m-1,by omega,i+1,W64_succ (by omega),by omega,?_,?_,?_,(hf2.trans hf3).trans hf4⟩
   · rw [W64_id (weightN ws[i]*inputN xs[i]) (by omega) (by omega),W64_id _ (by omega) (by omega),List.take_succ_eq_append_getElem hi,List.take_succ_eq_append_getElem hi',sumWN_snoc _ _ _ _ (by rw [List.length_take,List.length_take];omega),hx]
   · rw [W64_id (weightN ws[i]*inputN xs[i]) (by omega) (by omega),W64_id _ (by omega) (by omega)];push_cast;omega
   · rw [W64_id (weightN ws[i]*inputN xs[i]) (by omega) (by omega),W64_id _ (by omega) (by omega)];push_cast;omega
 · have hi:i=ws.length:=by have:=of_decide_eq_false h;omega
   subst hi
   rw [List.take_of_length_le (Nat.le_refl _),List.take_of_length_le (by omega)]at hx
   have e16:(2:Int)^16=65536:=by decide
   rw [show(16:Int)=((16:Nat):Int)from rfl,shrI_i64 _ _ (by decide),e16,hx]
   refine⟨by decide,(T_mixer_input _ w1).mono ?_⟩
   rintro e w2 ⟨rfl,hf2⟩
   refine⟨_,rfl,(T_squash_Squash _ w2).mono ?_⟩
   rintro e w3 ⟨rfl,hf3⟩
   exact⟨_,rfl,rfl,(hf.trans hf2).trans hf3⟩
theorem trainN_snoc (k:Int):∀(ws xs:List Int) (a b:Int),ws.length=xs.length→trainN k (ws++ [a]) (xs++ [b])=trainN k ws xs++ [weightN (weightN a+inputN b*k/1024)]
 | [],[],a,b,_=>by simp [trainN]
 |w::ws,x::xs,a,b,h=>by
  simp only [List.cons_append,trainN,trainN_snoc k ws xs a b (by simpa using h)]
 | [],_::_,_,_,h=>by simp at h
 |_::_,[],_,_,h=>by simp at h
theorem T_mixer_Train (a:Option Addr) (n c:Nat) (ws:List Int) (a':Option Addr) (n' c':Nat) (xs:List Int) (p:Nat) (b:Bool) (w:World) (hs:SlI w a n ws) (hs':SlI w a' n' xs) (hl:ws.length=xs.length) (hb:ws.length≤1000) (hp:p≤4611686018427387904):
 Calls prog n_mixer_Train #[.slice a n c,.slice a' n' c',.int .i64 (p:Int),.int .i64 ((b2n b:Nat):Int)] w fun e w'=>∃a2 c2,e= .returned (.slice a2 ws.length c2)∧Sx [] w w' [.ow t_int 1 a2 ws.length c2 (i64s (trainN (lackN p b) ws xs))]:=by
 obtain⟨rfl,hs⟩:=hs
 obtain⟨rfl,hs'⟩:=hs'
 refine S_mixer_Train ?_
 unfold F_mixer_Train
 intro J hJ
 have e2:(if (if (4096:Int)<(p:Int)then(4096:Int)else(p:Int))>(0:Int)then(if (4096:Int)<(p:Int)then(4096:Int)else(p:Int))else(0:Int))=((min p 4096:Nat):Int):=by
  split<;>split<;>omega
 have hk: -4096≤lackN p b∧lackN p b≤4096:=by unfold lackN;split<;>omega
 have key:J (lackN p b) w:=by
  refine hJ _ w ⟨fun m a2 n2 c2 y w1=>∃i:Nat,y=(i:Int)∧m+i=ws.length∧n2=i∧Sx [] w w1 [.ow t_int 1 a2 n2 c2 (i64s (trainN (lackN p b) (ws.take i) (xs.take i)))],
   ⟨ws.length,0,rfl,rfl,rfl,by rw [List.take_zero,List.take_zero];exact(Sx.start [] w).nilw t_int 1⟩,?_⟩
  rintro m a2 n2 c2 y w1 ⟨i,rfl,hmi,rfl,H⟩
  refine bif_i (fun h=>?_) fun h=>?_
  · have hi:n2<ws.length:=by have:=of_decide_eq_true h;omega
    have hi':n2<xs.length:=by omega
    refine⟨by omega,by omega,?_⟩
    rw [Int.toNat_natCast,Nat.mul_one]
    refine(hs.fr0 H.fr).read (i64s_get (List.getElem?_eq_getElem hi)) fun p hp hc=>⟨_,hc,?_⟩
    refine(T_mixer_weight _ _).mono ?_
    rintro e w3 ⟨rfl,hf3⟩
    have H:=H.call0 hf3
    refine⟨_,rfl,bif_t (decide_eq_true (by omega)) ⟨by omega,by omega,?_⟩⟩
    refine(hs'.fr0 H.fr).read (i64s_get (List.getElem?_eq_getElem hi')) fun p hp hc=>⟨_,hc,?_⟩
    refine(T_mixer_input _ _).mono ?_
    rintro e w4 ⟨rfl,hf4⟩
    have H:=H.call0 hf4
    have h1:=weightN_le ws[n2]
    have h2:=inputN_le xs[n2]
    have h3:=mul_bd (A:=2047) (B:=4096) (by omega) h2.2 hk.1 hk.2
    have e10:(2:Int)^10=1024:=by decide
    refine⟨_,rfl,by decide,?_⟩
    rw [W64_id (inputN xs[n2]*lackN _ b) (by omega) (by omega),show(10:Int)=((10:Nat):Int)from rfl,shrI_i64 _ _ (by decide),e10]
    rw [W64_id (weightN ws[n2]+_) (by omega) (by omega)]
    refine(T_mixer_weight _ _).mono ?_
    rintro e w5 ⟨rfl,hf5⟩
    have H:=H.call0 hf5
    refine⟨_,rfl,H.alloc fun w6 b48 _ H=>?_⟩
    refine app_int H (j:=0) rfl (by omega) fun a3 c3 w7 H=>⟨m-1,by omega,n2+1,W64_succ (by omega),by omega,rfl,?_⟩
    rw [List.take_succ_eq_append_getElem hi,List.take_succ_eq_append_getElem hi',trainN_snoc _ _ _ _ _ (by rw [List.length_take,List.length_take];omega)]
    exact H
  · have hi:n2=ws.length:=by have:=of_decide_eq_false h;omega
    subst hi
    rw [List.take_of_length_le (Nat.le_refl _),List.take_of_length_le (by omega)]at H
    exact⟨a2,c2,rfl,H⟩
 have e3:W64 (0-((min p 4096:Nat):Int))= -((min p 4096:Nat):Int):=by rw [W64_id _ (by omega) (by omega)];omega
 rw [e2,e3]
 cases b with
 |true=>
  refine bif_t rfl ?_
  have:W64 (-((min p 4096:Nat):Int)+4096)=lackN p true:=by
   rw [W64_id _ (by omega) (by omega)];unfold lackN;rw [if_pos rfl];omega
  rw [this];exact key
 |false=>
  refine bif_f rfl ?_
  have: -((min p 4096:Nat):Int)=lackN p false:=by unfold lackN;simp
  rw [this];exact key
end Go.Proofs.Tryz
